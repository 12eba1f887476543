/-
  Own work. MergeNil runs: whatever it is given, it returns true.
-/
import Derived.Test.YtnlmnejellipdaaGreatN5
import Derived.Test.YtnlmnejellipdaaGreatC2
namespace Go.Proofs.YtnlmnejellipdaaGreat
open Go X
set_option maxRecDepth 100000
attribute [local irreducible] X.Go' X.GoO X.GoR X.GoG X.GoC X.GoF X.GoFV X.GoFG X.Ex X.GoD X.GoDV X.GoDG
set_option linter.unusedVariables false
set_option linter.unusedSimpArgs false

section
variable {m m' : Mem} {r c b : Nat} {l : Value} {f t : ByteArray} {lim n : Int} {ps : List Int}
abbrev RdI (b : Nat) (m : Mem) (v : Value) (ls : List Int) : Prop := RdS b m 1 v (ls.map fun n => [I n])
theorem rdi_slice (h : RdI b m l ps) : ∃ q c, l = .slice q ps.length c := by
  obtain ⟨q, c, rfl⟩ := h.slice
  exact ⟨q, c, by simp⟩
theorem rdi_at (h : RdI b m l ps) {i : Nat} {x : Int} (hi : ps[i]? = some x) : ∃ a c o, l = .slice (some a) ps.length c ∧ m.get a.block = some o ∧ o.cells[a.off + i]? = some (I x) := by
  obtain ⟨p, c, rfl, hc, h⟩ := h
  obtain ⟨h1, a, o, rfl, h3, h4, h5⟩ := h i [I x] (by simp [hi])
  exact ⟨a, c, o, by simp, h4, by simpa using h5 0 (by omega)⟩
theorem bsrc {x : Int} : buildE m zs [(0, 1), (1, 1), (2, 1)] [(0, Pt r), (2, I x)] = some (.val (src r x) m) := by kernel_rfl
theorem bzs : buildE m zs [(0, 1), (1, 1), (2, 1)] [] = some (.val (.agg ⟨zs⟩) m) := by kernel_rfl
theorem bs1 {x y z : Value} (h : noTup x = true ∧ noTup y = true ∧ noTup z = true) : buildSliceE m zs 3 1 [(0, .agg ⟨[x, y, z]⟩)] = some (.val (.slice (some ⟨m.next, 0, none⟩) 1 1) (m.push (cel [x, y, z]))) := by kernel_rfl

/-- The law's loop: sources, and whether they rise. -/
theorem mergeNil_run {vn : Bool} {vt : ByteArray} {vb : Nat} (hl : RdI b m l ps) (hb : b ≤ m.next) (hvb : vb < 18446744073709551616) :
    Wc 6 [I n, l, rg f t lim, .agg ⟨[.bool vn, .string vt, U (vb : Int)]⟩] m fun v m' => v = .bool true := by
  refine call_go (F := _) rfl rfl fun Q hQ => ?_
  obtain ⟨m1, hm1⟩ : ∃ m1, m.push (cel [.string f, .string t, I lim]) = m1 := ⟨_, rfl⟩
  have g1 : m1.get m.next = some (cel [.string f, .string t, I lim]) := by rw [← hm1, push_self]
  have n1 : m1.next = m.next + 1 := by rw [← hm1]; simp
  have f1 : Nx m m1 := hm1 ▸ .push
  obtain ⟨m2, hm2⟩ : ∃ m2, m1.push (cel [.bool vn, .string vt, U (vb : Int)]) = m2 := ⟨_, rfl⟩
  have g2 : m2.get m1.next = some (cel [.bool vn, .string vt, U (vb : Int)]) := by rw [← hm2, push_self]
  have n2 : m2.next = m1.next + 1 := by rw [← hm2]; simp
  have f2 : Nx m1 m2 := hm2 ▸ .push
  have g12 := f2.get (by omega) (fun h => h) g1
  obtain ⟨q, cp, rfl⟩ := rdi_slice hl
  have haw := awake_call m2
  by_cases h20 : 20 < ps.length
  · have h20' : (20 : Int) < (ps.length : Int) := by omega
    simp only [symA, go_opsd, symB, wantedX, X.put, X.look, Arg.ev, keepOf, restrict, evs, evO, initEnv, xres, tup, noTup, cls, quiet, Nat.reduceAdd, Nat.reduceEqDiff, ↓reduceIte, reduceCtorEq, goInt, exists_eq_left', eq_self, Int.reduceLT, Int.reduceLE, Int.reduceEq, Int.reduceNeg, Int.reduceAdd, Int.reduceSub, forall_const, ne_eq, undef, Nat.reducePow, Nat.reduceDiv, Nat.reduceMod, hm1, hm2]
    simp only [symA, go_opsd, symB, wantedX, X.put, X.look, Arg.ev, keepOf, restrict, evs, evO, initEnv, xres, tup, noTup, cls, quiet, Nat.reduceAdd, Nat.reduceEqDiff, ↓reduceIte, reduceCtorEq, goInt, exists_eq_left', eq_self, Int.reduceLT, Int.reduceLE, Int.reduceEq, Int.reduceNeg, Int.reduceAdd, Int.reduceSub, forall_const, ne_eq, undef, Nat.reducePow, Nat.reduceDiv, Nat.reduceMod, goR_call haw, h20']
    exact hQ _ _ _ rfl rfl
  have h20' : ¬ (20 : Int) < (ps.length : Int) := by omega
  by_cases hf2 : (200 : Int) < (f.size : Int)
  · simp only [symA, go_opsd, symB, wantedX, X.put, X.look, Arg.ev, keepOf, restrict, evs, evO, initEnv, xres, tup, noTup, cls, quiet, Nat.reduceAdd, Nat.reduceEqDiff, ↓reduceIte, reduceCtorEq, goInt, exists_eq_left', eq_self, Int.reduceLT, Int.reduceLE, Int.reduceEq, Int.reduceNeg, Int.reduceAdd, Int.reduceSub, forall_const, ne_eq, undef, Nat.reducePow, Nat.reduceDiv, Nat.reduceMod, hm1, hm2]
    simp only [symA, go_opsd, symB, wantedX, X.put, X.look, Arg.ev, keepOf, restrict, evs, evO, initEnv, xres, tup, noTup, cls, quiet, Nat.reduceAdd, Nat.reduceEqDiff, ↓reduceIte, reduceCtorEq, goInt, exists_eq_left', eq_self, Int.reduceLT, Int.reduceLE, Int.reduceEq, Int.reduceNeg, Int.reduceAdd, Int.reduceSub, forall_const, ne_eq, undef, Nat.reducePow, Nat.reduceDiv, Nat.reduceMod, goR_call haw, h20', g12, Chn.calc_len, hf2]
    exact hQ _ _ _ rfl rfl
  by_cases ht2 : (200 : Int) < (t.size : Int)
  · simp only [symA, go_opsd, symB, wantedX, X.put, X.look, Arg.ev, keepOf, restrict, evs, evO, initEnv, xres, tup, noTup, cls, quiet, Nat.reduceAdd, Nat.reduceEqDiff, ↓reduceIte, reduceCtorEq, goInt, exists_eq_left', eq_self, Int.reduceLT, Int.reduceLE, Int.reduceEq, Int.reduceNeg, Int.reduceAdd, Int.reduceSub, forall_const, ne_eq, undef, Nat.reducePow, Nat.reduceDiv, Nat.reduceMod, hm1, hm2]
    simp only [symA, go_opsd, symB, wantedX, X.put, X.look, Arg.ev, keepOf, restrict, evs, evO, initEnv, xres, tup, noTup, cls, quiet, Nat.reduceAdd, Nat.reduceEqDiff, ↓reduceIte, reduceCtorEq, goInt, exists_eq_left', eq_self, Int.reduceLT, Int.reduceLE, Int.reduceEq, Int.reduceNeg, Int.reduceAdd, Int.reduceSub, forall_const, ne_eq, undef, Nat.reducePow, Nat.reduceDiv, Nat.reduceMod, goR_call haw, h20', g12, Chn.calc_len, hf2, ht2]
    exact hQ _ _ _ rfl rfl
  obtain ⟨m3, r1, r2⟩ := Chn.rvright_spec (m := m2) (n := vn) (t := vt) hvb
  cases hv : Chn.vright vn vt vb with
  | false =>
    rw [hv] at r1
    simp only [symA, go_opsd, symB, wantedX, X.put, X.look, Arg.ev, keepOf, restrict, evs, evO, initEnv, xres, tup, noTup, cls, quiet, Nat.reduceAdd, Nat.reduceEqDiff, ↓reduceIte, reduceCtorEq, goInt, exists_eq_left', eq_self, Int.reduceLT, Int.reduceLE, Int.reduceEq, Int.reduceNeg, Int.reduceAdd, Int.reduceSub, forall_const, ne_eq, undef, Nat.reducePow, Nat.reduceDiv, Nat.reduceMod, hm1, hm2]
    simp only [symA, go_opsd, symB, wantedX, X.put, X.look, Arg.ev, keepOf, restrict, evs, evO, initEnv, xres, tup, noTup, cls, quiet, Nat.reduceAdd, Nat.reduceEqDiff, ↓reduceIte, reduceCtorEq, goInt, exists_eq_left', eq_self, Int.reduceLT, Int.reduceLE, Int.reduceEq, Int.reduceNeg, Int.reduceAdd, Int.reduceSub, forall_const, ne_eq, undef, Nat.reducePow, Nat.reduceDiv, Nat.reduceMod, goR_call haw, h20', g12, Chn.calc_len, hf2, ht2, ld3 g2, goR_call r1]
    exact hQ _ _ _ rfl rfl
  | true =>
    rw [hv] at r1
    obtain ⟨m4, s1, s2⟩ := set_spec (m := m3)
    obtain ⟨m5, r, o1, o2, o3⟩ := new_ok (m := m4)
    obtain ⟨m6, hm6⟩ : ∃ m6, m5.push (cel []) = m6 := ⟨_, rfl⟩
    have f6 : Nx m5 m6 := hm6 ▸ .push
    have B0 := bs0 (m := m5)
    rw [hm6] at B0
    have F25 : Nx m2 m6 := ((r2.comp s2 fun _ _ h => h).comp o2 fun _ _ h => h).comp f6 fun _ _ h => h
    have F6 : Nx m m6 := (f1.comp f2 fun _ _ h => h).comp F25 fun _ _ h => h
    have E6 := o3.fr f6
    have x6 := F25.next
    simp only [symA, go_opsd, symB, wantedX, X.put, X.look, Arg.ev, keepOf, restrict, evs, evO, initEnv, xres, tup, noTup, cls, quiet, Nat.reduceAdd, Nat.reduceEqDiff, ↓reduceIte, reduceCtorEq, goInt, exists_eq_left', eq_self, Int.reduceLT, Int.reduceLE, Int.reduceEq, Int.reduceNeg, Int.reduceAdd, Int.reduceSub, forall_const, ne_eq, undef, Nat.reducePow, Nat.reduceDiv, Nat.reduceMod, hm1, hm2]
    simp only [symA, go_opsd, symB, wantedX, X.put, X.look, Arg.ev, keepOf, restrict, evs, evO, initEnv, xres, tup, noTup, cls, quiet, Nat.reduceAdd, Nat.reduceEqDiff, ↓reduceIte, reduceCtorEq, goInt, exists_eq_left', eq_self, Int.reduceLT, Int.reduceLE, Int.reduceEq, Int.reduceNeg, Int.reduceAdd, Int.reduceSub, forall_const, ne_eq, undef, Nat.reducePow, Nat.reduceDiv, Nat.reduceMod, goR_call haw, h20', g12, Chn.calc_len, hf2, ht2, ld3 g2, goR_call r1, goR_call (step_nil (m := m3) (n := n)), goR_call s1, goR_call o1, B0]
    refine loop_go (fun j e m' => Nx m6 m' ∧ ∃ (i : Nat) (sv : Value) (F : List Nat), i ≤ ps.length ∧ j = ps.length - i ∧ Own2 3 F m' sv (rowsS r (ps.take i)) ∧ (∀ k ∈ F, m6.next ≤ k) ∧ (∃ q c k, sv = .slice q c k) ∧
      e = [(0, I n), (1, .slice q ps.length cp), (6, Pt m.next), (9, .pointer none), (10, Sn), (11, .bool false), (12, I 2), (13, Pt r), (15, sv), (16, .bool (riseT ps i)), (17, I (i : Int))]) ps.length
      ⟨.refl, 0, _, [], by omega, rfl, ⟨by simp, .inr ⟨rfl, by simp, _, rfl⟩⟩, by simp, ⟨_, _, _, rfl⟩, rfl⟩ ?_
    rintro j e m7 N1 B1 hN1 hB ⟨h7, i, sv, F, hi, rfl, ow, hF, ⟨q', c', k', rfl⟩, rfl⟩
    have x7 := h7.next
    have F7 : Nx m m7 := F6.comp h7 fun _ _ h => h
    have g7 := h7.get (i := m.next) (by omega) (fun h => h) (F25.get (by omega) (fun h => h) g12)
    by_cases hlt : i < ps.length
    · have hlt' : (i : Int) < (ps.length : Int) := by omega
      obtain ⟨x, hx⟩ : ∃ x, ps[i]? = some x := ⟨_, List.getElem?_eq_getElem hlt⟩
      obtain ⟨a, c2, o, hv, e1, e2⟩ := rdi_at (hl.fr F7 hb (fun _ h => h.elim)) hx
      cases hv
      obtain ⟨sv', m8, F', k1, k2, k3, k4⟩ := ow.one (bytes := 24) (zero := zs) (row := [Pt r, I 0, I x]) rfl (by omega) rfl (by simp; omega) (by simp; omega)
      have h8 : Nx m6 m8 := h7.comp k3 fun j hj (q : j ∈ F) => by have := hF j q; omega
      have e1' := k3.get (S := (· ∈ F)) (i := a.block) (o := o)
      have F8 : Nx m m8 := F6.comp h8 fun _ _ h => h
      obtain ⟨a', c3, o', hv', e3, e4⟩ := rdi_at (hl.fr F8 hb (fun _ h => h.elim)) hx
      cases hv'
      have w1 : IntKind.i64.wrap ((i : Int) + 1) = ((i + 1 : Nat) : Int) := by rw [wrap_i64 (by omega) (by omega)]; omega
      have hgx : ps.getD i 0 = x := by simp [List.getD, hx]
      have htk : rowsS r (ps.take (i + 1)) = rowsS r (ps.take i) ++ [[Pt r, I 0, I x]] := by
        rw [List.take_add_one, hx]; simp
      obtain ⟨q8, c8, e8⟩ := (k2.rd (by omega)).slice
      subst e8
      have fin : ∀ {v : Bool}, v = riseT ps (i + 1) → N1 [(0, I n), (1, .slice (some a) ps.length cp), (6, Pt m.next), (9, .pointer none), (10, Sn), (11, .bool false), (12, I 2), (13, Pt r), (15, .slice q8 (rowsS r (ps.take i) ++ [[Pt r, I 0, I x]]).length c8), (16, .bool v), (17, I ((i + 1 : Nat) : Int))] m8 := by
        rintro v rfl
        refine hN1 _ _ (ps.length - (i + 1)) (by omega) ⟨h8, i + 1, _, F', by omega, rfl, by rw [htk]; exact k2, fun k hk => ?_, ⟨_, _, _, rfl⟩, rfl⟩
        rcases k4 k hk with h | h
        · exact hF k h
        · omega
      have BS := bs1 (m := m7) (x := Pt r) (y := I 0) (z := I x) ⟨rfl, rfl, rfl⟩
      cases hr : riseT ps i with
      | false =>
        simp only [symA, go_opsd, symB, wantedX, X.put, X.look, Arg.ev, keepOf, restrict, evs, evO, initEnv, xres, tup, noTup, cls, quiet, Nat.reduceAdd, Nat.reduceEqDiff, ↓reduceIte, reduceCtorEq, goInt, exists_eq_left', eq_self, Int.reduceLT, Int.reduceLE, Int.reduceEq, Int.reduceNeg, Int.reduceAdd, Int.reduceSub, forall_const, ne_eq, undef, Nat.reducePow, Nat.reduceDiv, Nat.reduceMod, hlt', hlt, e1, e2, bsrc, BS, k1, w1]
        exact fin (by simp [riseT, hr])
      | true =>
        by_cases hx0 : 0 ≤ x
        · cases hi0 : decide ((i : Int) = 0) with
          | true =>
            simp only [symA, go_opsd, symB, wantedX, X.put, X.look, Arg.ev, keepOf, restrict, evs, evO, initEnv, xres, tup, noTup, cls, quiet, Nat.reduceAdd, Nat.reduceEqDiff, ↓reduceIte, reduceCtorEq, goInt, exists_eq_left', eq_self, Int.reduceLT, Int.reduceLE, Int.reduceEq, Int.reduceNeg, Int.reduceAdd, Int.reduceSub, forall_const, ne_eq, undef, Nat.reducePow, Nat.reduceDiv, Nat.reduceMod, hlt', hlt, e1, e2, e3, e4, bsrc, BS, k1, w1, hx0, hi0]
            exact fin (by rw [riseT, hr, okI, hgx, hi0, decide_eq_true hx0]; rfl)
          | false =>
            have hi1 : 1 ≤ i := by have := of_decide_eq_false hi0; omega
            have w2 : IntKind.i64.wrap ((i : Int) - 1) = ((i - 1 : Nat) : Int) := by rw [wrap_i64 (by omega) (by omega)]; omega
            obtain ⟨y, hy⟩ : ∃ y, ps[i - 1]? = some y := ⟨_, List.getElem?_eq_getElem (by omega)⟩
            obtain ⟨a', c'', o'', hv', e5, e6⟩ := rdi_at (hl.fr F8 hb (fun _ h => h.elim)) hy
            cases hv'
            rw [e3] at e5
            cases e5
            have hlt2 : i - 1 < ps.length := by omega
            have hgy : ps.getD (i - 1) 0 = y := by simp [List.getD, hy]
            simp only [symA, go_opsd, symB, wantedX, X.put, X.look, Arg.ev, keepOf, restrict, evs, evO, initEnv, xres, tup, noTup, cls, quiet, Nat.reduceAdd, Nat.reduceEqDiff, ↓reduceIte, reduceCtorEq, goInt, exists_eq_left', eq_self, Int.reduceLT, Int.reduceLE, Int.reduceEq, Int.reduceNeg, Int.reduceAdd, Int.reduceSub, forall_const, ne_eq, undef, Nat.reducePow, Nat.reduceDiv, Nat.reduceMod, hlt', hlt, e1, e2, e3, e4, e6, bsrc, BS, k1, w1, hx0, hi0, w2, hlt2]
            exact fin (by rw [riseT, hr, okI, hgx, hi0, hgy, decide_eq_true hx0]; rfl)
        · simp only [symA, go_opsd, symB, wantedX, X.put, X.look, Arg.ev, keepOf, restrict, evs, evO, initEnv, xres, tup, noTup, cls, quiet, Nat.reduceAdd, Nat.reduceEqDiff, ↓reduceIte, reduceCtorEq, goInt, exists_eq_left', eq_self, Int.reduceLT, Int.reduceLE, Int.reduceEq, Int.reduceNeg, Int.reduceAdd, Int.reduceSub, forall_const, ne_eq, undef, Nat.reducePow, Nat.reduceDiv, Nat.reduceMod, hlt', hlt, e1, e2, e3, e4, bsrc, BS, k1, w1, hx0]
          exact fin (by rw [riseT, hr, okI, hgx, decide_eq_false hx0]; rfl)
    · have hlt' : ¬ (i : Int) < (ps.length : Int) := by omega
      have hie : i = ps.length := by omega
      subst hie
      rw [List.take_length] at ow
      simp only [symA, go_opsd, symB, wantedX, X.put, X.look, Arg.ev, keepOf, restrict, evs, evO, initEnv, xres, tup, noTup, cls, quiet, Nat.reduceAdd, Nat.reduceEqDiff, ↓reduceIte, reduceCtorEq, goInt, exists_eq_left', eq_self, Int.reduceLT, Int.reduceLE, Int.reduceEq, Int.reduceNeg, Int.reduceAdd, Int.reduceSub, forall_const, ne_eq, undef, Nat.reducePow, Nat.reduceDiv, Nat.reduceMod, hlt']
      refine hB _ _ _ ?_
      have R7 := ow.rd (by omega)
      rw [← List.append_nil (rowsS r ps)] at R7
      obtain ⟨v1, m8, c1, h8, K1⟩ := open_run (f := f) (t := t) (lim := lim) (.inl rfl) R7 (Nat.le_refl _) (by omega)
      have H8 : Nx m6 m8 := h7.comp h8 fun _ _ h => h
      have ow8 := ow.fr h8 (fun _ _ h => h)
      have owl := ow.lt
      obtain ⟨mp, hmp⟩ : ∃ mp, m8.push (cel zs) = mp := ⟨_, rfl⟩
      have hp : Nx m8 mp := hmp ▸ .push
      have BS := bs1 (m := m8) (x := .pointer none) (y := I 0) (z := I 0) ⟨rfl, rfl, rfl⟩
      rw [hmp] at BS
      obtain ⟨sv', m9, F', k1, k2, k3, k4⟩ := ow8.one (bytes := 24) (zero := zs) (row := zs) rfl (by omega) rfl (by simp; omega) (by simp; omega)
      rw [show m8.push { cells := zs, rw := true, spare := none, kin := [] } = mp from hmp] at k1
      have H9 : Nx m6 m9 := H8.comp k3 fun j hj (q : j ∈ F) => by have := hF j q; omega
      obtain ⟨v2, m10, c2, h10, K2⟩ := open_run (f := f) (t := t) (lim := lim) (.inr rfl) (k2.rd (by omega)) (Nat.le_refl _) (by omega)
      obtain rfl : v2 = .tuple #[.pointer none, I 2] := by
        rcases K2 with ⟨_, h⟩ | ⟨h, _⟩ | ⟨h, _⟩
        · exact h
        · simp at h
        · simp at h
      have H10 : Nx m6 m10 := H9.comp h10 fun _ _ h => h
      have g6 := F25.get (i := m.next) (by omega) (fun h => h) g12
      have g8 := H8.get (i := m.next) (by omega) (fun h => h) g6
      have gp := hp.get (i := m.next) (by have := H8.next; omega) (fun h => h) g8
      have g9 := H9.get (i := m.next) (by omega) (fun h => h) g6
      have g10 := H10.get (i := m.next) (by omega) (fun h => h) g6
      obtain ⟨m11, d1, d2⟩ := rright_spec (m := m10) (f := f) (t := t) (lim := lim)
      have told := told_nil (m := m10)
      rcases K1 with ⟨he, _⟩ | ⟨_, hbad, rfl⟩ | ⟨_, hok, c, l', F2, rfl, hc, hcn, ow2, hF2⟩
      · simp at he
      · cases hr : riseT ps ps.length with
        | false =>
          simp only [symA, go_opsd, symB, wantedX, X.put, X.look, Arg.ev, keepOf, restrict, evs, evO, initEnv, xres, tup, noTup, cls, quiet, Nat.reduceAdd, Nat.reduceEqDiff, ↓reduceIte, reduceCtorEq, goInt, exists_eq_left', eq_self, Int.reduceLT, Int.reduceLE, Int.reduceEq, Int.reduceNeg, Int.reduceAdd, Int.reduceSub, forall_const, ne_eq, undef, Nat.reducePow, Nat.reduceDiv, Nat.reduceMod, ld3 g7, goR_call c1, bzs, BS, ld3 g8, ld3 gp, ld3 g9, ld3 g10, k1, goDV3c c2, isNil_ptr', goR_call told, hr]
          exact hQ _ _ _ rfl rfl
        | true =>
          rw [hr, Bool.true_and] at hbad
          rw [hbad] at d1
          simp only [symA, go_opsd, symB, wantedX, X.put, X.look, Arg.ev, keepOf, restrict, evs, evO, initEnv, xres, tup, noTup, cls, quiet, Nat.reduceAdd, Nat.reduceEqDiff, ↓reduceIte, reduceCtorEq, goInt, exists_eq_left', eq_self, Int.reduceLT, Int.reduceLE, Int.reduceEq, Int.reduceNeg, Int.reduceAdd, Int.reduceSub, forall_const, ne_eq, undef, Nat.reducePow, Nat.reduceDiv, Nat.reduceMod, ld3 g7, goR_call c1, bzs, BS, ld3 g8, ld3 gp, ld3 g9, ld3 g10, k1, goDV3c c2, isNil_ptr', goR_call told, hr, goR_call d1]
          exact hQ _ _ _ rfl rfl
      · rw [Bool.and_eq_true] at hok
        rw [hok.2] at d1
        have cF : c ∉ F := fun h => by have := owl c h; omega
        have cu9 : Cur m9 c l' f t lim := ⟨by have := hc.1; have := k3.next; omega, k3.get hc.1 cF hc.2⟩
        have cu11 := (cu9.fr h10).fr d2
        have ow11 : Own2 3 F2 m11 l' (rowsS r ps) := ((ow2.fr k3 (fun j hj (q : j ∈ F) => by have := owl j q; have := hF2 j hj; omega)).fr h10 (fun _ _ h => h)).fr d2 (fun _ _ h => h)
        have em11 := (E6.fr H10).fr d2
        by_cases h1 : n < 1
        · have st := step_arg (m := m11) (c := c) h1
          simp only [symA, go_opsd, symB, wantedX, X.put, X.look, Arg.ev, keepOf, restrict, evs, evO, initEnv, xres, tup, noTup, cls, quiet, Nat.reduceAdd, Nat.reduceEqDiff, ↓reduceIte, reduceCtorEq, goInt, exists_eq_left', eq_self, Int.reduceLT, Int.reduceLE, Int.reduceEq, Int.reduceNeg, Int.reduceAdd, Int.reduceSub, forall_const, ne_eq, undef, Nat.reducePow, Nat.reduceDiv, Nat.reduceMod, ld3 g7, goR_call c1, bzs, BS, ld3 g8, ld3 gp, ld3 g9, ld3 g10, k1, goDV3c c2, isNil_ptr', goR_call told, hok.1, goR_call d1, goR_call st, h1]
          exact hQ _ _ _ rfl rfl
        · obtain ⟨m12, st⟩ := step_no cu11 em11 (ow11.rd (by omega)) (Nat.le_refl _) (by omega) h1
          simp only [symA, go_opsd, symB, wantedX, X.put, X.look, Arg.ev, keepOf, restrict, evs, evO, initEnv, xres, tup, noTup, cls, quiet, Nat.reduceAdd, Nat.reduceEqDiff, ↓reduceIte, reduceCtorEq, goInt, exists_eq_left', eq_self, Int.reduceLT, Int.reduceLE, Int.reduceEq, Int.reduceNeg, Int.reduceAdd, Int.reduceSub, forall_const, ne_eq, undef, Nat.reducePow, Nat.reduceDiv, Nat.reduceMod, ld3 g7, goR_call c1, bzs, BS, ld3 g8, ld3 gp, ld3 g9, ld3 g10, k1, goDV3c c2, isNil_ptr', goR_call told, hok.1, goR_call d1, goR_call st, h1]
          exact hQ _ _ _ rfl rfl
end
end Go.Proofs.YtnlmnejellipdaaGreat
