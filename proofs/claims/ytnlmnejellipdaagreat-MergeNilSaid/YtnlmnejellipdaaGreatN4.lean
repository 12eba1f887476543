/-
  Own work. A cursor over empty rooms: its row, its steps; which ranges may be.
-/
import Derived.Test.YtnlmnejellipdaaGreatN3
import Derived.Test.YtnlmnejellipdaaGreatXStr
namespace Go.Proofs.YtnlmnejellipdaaGreat
open Go X
set_option maxRecDepth 100000
attribute [local irreducible] X.Go' X.GoO X.GoR X.GoG X.GoC X.GoF X.GoFV X.GoFG X.Ex X.GoD X.GoDV X.GoDG
set_option linter.unusedVariables false
set_option linter.unusedSimpArgs false

section
variable {m m' : Mem} {r c b : Nat} {p : Int} {k : ByteArray} {ab : Bool} {l : Value} {f t : ByteArray} {lim n : Int} {ps : List Int}
abbrev rowsS (r : Nat) (ps : List Int) : List (List Value) := ps.map fun p => [Pt r, I 0, I p]
theorem srcs_at (h : RdS b m 3 l (rowsS r ps)) {i : Nat} (hi : ps[i]? = some p) : ∃ a c o, l = .slice (some a) ps.length c ∧ ldA m 3 (.pointer (some ⟨a.block, a.off + i * 3, none⟩)) = some (.val (src r p) m) ∧ m.get a.block = some o ∧ o.cells[a.off + i * 3]? = some (Pt r) ∧ o.cells[a.off + i * 3 + 2]? = some (I p) := by
  obtain ⟨q, c, rfl, hc, h⟩ := h
  obtain ⟨h1, a, o, rfl, h3, h4, h5⟩ := h i [Pt r, I 0, I p] (by simp [hi])
  refine ⟨a, c, o, by simp, ?_, h4, by simpa using h5 0 (by omega), by simpa using h5 2 (by omega)⟩
  have := xload_cells (m := m) (b := a.block) (off := a.off + i * 3) (n := 3) (r := [Pt r, I 0, I p]) h4 rfl (by omega) h5
  simp [ldA, this]
theorem srcs_len (h : RdS b m 3 l (rowsS r ps)) : ∃ q c, l = .slice q ps.length c := by
  obtain ⟨q, c, rfl⟩ := h.slice
  exact ⟨q, c, by simp⟩

theorem row_no (h : Cur m c l f t lim) (hr : Emp m r) (hl : RdS b m 3 l (rowsS r ps)) (hb : b ≤ m.next) (hn : ps.length ≤ 1000) :
    ∃ m', Ca 95 [Pt c] m (.tuple #[.agg ⟨z5⟩, .bool false]) m' ∧ Nx m m' := by
  suffices hs : ∃ m', Nx m m' ∧ Ca 95 [Pt c] m (.tuple #[.agg ⟨z5⟩, .bool false]) m' by
    obtain ⟨m', h1, h2⟩ := hs; exact ⟨m', h2, h1⟩
  obtain ⟨m1, hm1⟩ : ∃ m1, m.push (cel z5) = m1 := ⟨_, rfl⟩
  have g1 : m1.get m.next = some (cel z5) := by rw [← hm1, push_self]
  have n1 : m1.next = m.next + 1 := by rw [← hm1]; simp
  have f1 : Nx m m1 := hm1 ▸ .push
  obtain ⟨m2, hm2⟩ : ∃ m2, m1.push (cel z5) = m2 := ⟨_, rfl⟩
  have g2 : m2.get m1.next = some (cel z5) := by rw [← hm2, push_self]
  have n2 : m2.next = m1.next + 1 := by rw [← hm2]; simp
  have f2 : Nx m1 m2 := hm2 ▸ .push
  have g12 := f2.get (by omega) (fun h => h) g1
  have c2 := ((h.fr f1).fr f2)
  have r2 := ((hr.fr f1).fr f2)
  have f02 : Nx m m2 := f1.comp f2 fun _ _ h => h
  have l2 := hl.fr f02 hb (fun _ h => h.elim)
  obtain ⟨q, cp, rfl⟩ := srcs_len hl
  have W : Wc 95 [Pt c] m (fun v m' => v = .tuple #[.agg ⟨z5⟩, .bool false] ∧ Nx m m') := by
    refine call_go (F := _) rfl rfl fun Q hQ => ?_
    simp only [symA, go_opsd, symB, wantedX, X.put, X.look, Arg.ev, keepOf, restrict, evs, evO, initEnv, xres, tup, noTup, cls, quiet, Nat.reduceAdd, Nat.reduceEqDiff, ↓reduceIte, reduceCtorEq, goInt, exists_eq_left', eq_self, Int.reduceLT, Int.reduceLE, Int.reduceEq, Int.reduceNeg, Int.reduceAdd, Int.reduceSub, forall_const, ne_eq, undef, Nat.reducePow, Nat.reduceDiv, Nat.reduceMod, hm1, hm2]
    simp only [symA, go_opsd, symB, wantedX, X.put, X.look, Arg.ev, keepOf, restrict, evs, evO, initEnv, xres, tup, noTup, cls, quiet, Nat.reduceAdd, Nat.reduceEqDiff, ↓reduceIte, reduceCtorEq, goInt, exists_eq_left', eq_self, Int.reduceLT, Int.reduceLE, Int.reduceEq, Int.reduceNeg, Int.reduceAdd, Int.reduceSub, forall_const, ne_eq, undef, Nat.reducePow, Nat.reduceDiv, Nat.reduceMod, c2.2]
    refine loop_go (fun j e m' => Nx m2 m' ∧ ∃ i : Nat, i ≤ ps.length ∧ j = ps.length - i ∧ e = [(0, Pt c), (2, Pt m.next), (4, Pt m1.next), (5, .bool false), (15, .slice q ps.length cp), (16, I (ps.length : Int)), (17, I (i : Int))]) ps.length ⟨.refl, 0, by omega, rfl, rfl⟩ ?_
    rintro j e m3 N1 B1 hN hB ⟨h3, i, hi, rfl, rfl⟩
    have x3 := h3.next
    by_cases hlt : i < ps.length
    · have hlt' : (i : Int) < (ps.length : Int) := by omega
      obtain ⟨x, hx⟩ : ∃ x, ps[i]? = some x := ⟨_, List.getElem?_eq_getElem hlt⟩
      have l3 := l2.fr h3 (Nat.le_trans hb f02.next) (fun _ h => h.elim)
      obtain ⟨a, c', o, hv, e1, _⟩ := srcs_at l3 hx
      cases hv
      have w1 : IntKind.i64.wrap ((i : Int) + 1) = ((i + 1 : Nat) : Int) := by rw [wrap_i64 (by omega) (by omega)]; omega
      obtain ⟨m4, s1, s2, s3, s4⟩ := new_store (m := m3) (z := [.pointer none, I 0, I 0]) (row := [Pt r, I 0, I x]) (n := 3) rfl rfl (by omega)
      obtain ⟨m5, a1, a2⟩ := from_spec (r := r) (p := x) ((c2.fr h3).fr s3)
      have s25 := a2.get (by omega) (fun h => h) s2
      obtain ⟨m6, b1, b2⟩ := seek_no (p := x) (k := f) (ab := false) (((c2.fr h3).fr s3).fr a2) (((r2.fr h3).fr s3).fr a2)
      obtain ⟨m7, t1, t2, t3, t4⟩ := new_store (m := m6) (z := z5) (row := z5) (n := 5) rfl rfl (by omega)
      simp only [symA, go_opsd, symB, wantedX, X.put, X.look, Arg.ev, keepOf, restrict, evs, evO, initEnv, xres, tup, noTup, cls, quiet, Nat.reduceAdd, Nat.reduceEqDiff, ↓reduceIte, reduceCtorEq, goInt, exists_eq_left', eq_self, Int.reduceLT, Int.reduceLE, Int.reduceEq, Int.reduceNeg, Int.reduceAdd, Int.reduceSub, forall_const, ne_eq, undef, Nat.reducePow, Nat.reduceDiv, Nat.reduceMod, hlt', hlt, e1, s1, ld3 s2, goR_call a1, ld3 s25, goR_call b1, t1, w1]
      exact hN _ _ (ps.length - (i + 1)) (by omega) ⟨(((h3.comp s3 fun _ _ h => h).comp a2 fun _ _ h => h).comp b2 fun _ _ h => h).comp t3 fun _ _ h => h, i + 1, by omega, rfl, rfl⟩
    · have hlt' : ¬ (i : Int) < (ps.length : Int) := by omega
      simp only [symA, go_opsd, symB, wantedX, X.put, X.look, Arg.ev, keepOf, restrict, evs, evO, initEnv, xres, tup, noTup, cls, quiet, Nat.reduceAdd, Nat.reduceEqDiff, ↓reduceIte, reduceCtorEq, goInt, exists_eq_left', eq_self, Int.reduceLT, Int.reduceLE, Int.reduceEq, Int.reduceNeg, Int.reduceAdd, Int.reduceSub, forall_const, ne_eq, undef, Nat.reducePow, Nat.reduceDiv, Nat.reduceMod, hlt']
      refine hB _ _ _ ?_
      obtain ⟨m4, t1, t2, t3, t4⟩ := row_store (n := 5) (row := z5) (h3.get (by omega) (fun h => h) g12) rfl rfl rfl rfl (by omega)
      simp only [symA, go_opsd, symB, wantedX, X.put, X.look, Arg.ev, keepOf, restrict, evs, evO, initEnv, xres, tup, noTup, cls, quiet, Nat.reduceAdd, Nat.reduceEqDiff, ↓reduceIte, reduceCtorEq, goInt, exists_eq_left', eq_self, Int.reduceLT, Int.reduceLE, Int.reduceEq, Int.reduceNeg, Int.reduceAdd, Int.reduceSub, forall_const, ne_eq, undef, Nat.reducePow, Nat.reduceDiv, Nat.reduceMod, ld5 (h3.get (by omega) (fun h => h) g2), t1]
      exact hQ _ _ _ (by simp [xres, X.look, xload, t2]; rfl) ⟨rfl, (f02.comp h3 fun _ _ h => h).comp t3 fun j hj (q : j = m.next) => by omega⟩
  obtain ⟨v, m', h1, rfl, h2⟩ := W
  exact ⟨m', h2, h1⟩

theorem step_nil : Ca 41 [.pointer none, I n] m (.tuple #[Sn, .bool false, I 2]) m := by
  refine callX_of (call_go (F := _) rfl rfl fun Q hQ => ?_)
  simp only [symA, go_opsd, symB, wantedX, X.put, X.look, Arg.ev, keepOf, restrict, evs, evO, initEnv, xres, tup, noTup, cls, quiet, Nat.reduceAdd, Nat.reduceEqDiff, ↓reduceIte, reduceCtorEq, goInt, exists_eq_left', eq_self, Int.reduceLT, Int.reduceLE, Int.reduceEq, Int.reduceNeg, Int.reduceAdd, Int.reduceSub, forall_const, ne_eq, undef, Nat.reducePow, Nat.reduceDiv, Nat.reduceMod, isNil_ptr']
  exact hQ _ _ _ rfl ⟨rfl, rfl⟩
theorem told_nil : Ca 44 [.pointer none] m (I 0) m := by
  refine callX_of (call_go (F := _) rfl rfl fun Q hQ => ?_)
  simp only [symA, go_opsd, symB, wantedX, X.put, X.look, Arg.ev, keepOf, restrict, evs, evO, initEnv, xres, tup, noTup, cls, quiet, Nat.reduceAdd, Nat.reduceEqDiff, ↓reduceIte, reduceCtorEq, goInt, exists_eq_left', eq_self, Int.reduceLT, Int.reduceLE, Int.reduceEq, Int.reduceNeg, Int.reduceAdd, Int.reduceSub, forall_const, ne_eq, undef, Nat.reducePow, Nat.reduceDiv, Nat.reduceMod, isNil_ptr']
  exact hQ _ _ _ rfl ⟨rfl, rfl⟩
theorem step_arg (hn : n < 1) : Ca 41 [Pt c, I n] m (.tuple #[Sn, .bool false, I 1]) m := by
  refine callX_of (call_go (F := _) rfl rfl fun Q hQ => ?_)
  simp only [symA, go_opsd, symB, wantedX, X.put, X.look, Arg.ev, keepOf, restrict, evs, evO, initEnv, xres, tup, noTup, cls, quiet, Nat.reduceAdd, Nat.reduceEqDiff, ↓reduceIte, reduceCtorEq, goInt, exists_eq_left', eq_self, Int.reduceLT, Int.reduceLE, Int.reduceEq, Int.reduceNeg, Int.reduceAdd, Int.reduceSub, forall_const, ne_eq, undef, Nat.reducePow, Nat.reduceDiv, Nat.reduceMod, isNil_ptr', hn]
  exact hQ _ _ _ rfl ⟨rfl, rfl⟩

theorem step_no (h : Cur m c l f t lim) (hr : Emp m r) (hl : RdS b m 3 l (rowsS r ps)) (hb : b ≤ m.next) (hn : ps.length ≤ 1000) (h1 : ¬ n < 1) :
    ∃ m', Ca 41 [Pt c, I n] m (.tuple #[Sn, .bool true, I 0]) m' := by
  obtain ⟨m1, a1, a2⟩ := row_no h hr hl hb hn
  obtain ⟨m2, s1, s2, s3, s4⟩ := new_store (m := m1) (z := z5) (row := z5) (n := 5) rfl rfl (by omega)
  obtain ⟨c2, g2⟩ := (h.fr a2).fr s3
  obtain ⟨m3, t1, t2, t3, t4⟩ := fld_store (i := 12) (x := .bool true) g2 (by simp) rfl rfl
  have h0 : (0 : Int) < n := by omega
  refine ⟨m3, callX_of (call_go (F := _) rfl rfl fun Q hQ => ?_)⟩
  simp only [symA, go_opsd, symB, wantedX, X.put, X.look, Arg.ev, keepOf, restrict, evs, evO, initEnv, xres, tup, noTup, cls, quiet, Nat.reduceAdd, Nat.reduceEqDiff, ↓reduceIte, reduceCtorEq, goInt, exists_eq_left', eq_self, Int.reduceLT, Int.reduceLE, Int.reduceEq, Int.reduceNeg, Int.reduceAdd, Int.reduceSub, forall_const, ne_eq, undef, Nat.reducePow, Nat.reduceDiv, Nat.reduceMod, isNil_ptr', h1]
  refine loop_go (fun j e m' => (j = 1 ∧ m' = m ∧ e = [(0, Pt c), (1, I n), (7, Sn)]) ∨ (j = 0 ∧ m' = m3 ∧ e = [(0, Pt c), (1, I n), (7, Sn)])) 1 (.inl ⟨rfl, rfl, rfl⟩) ?_
  rintro j e m9 N1 B1 hN hB (⟨rfl, rfl, rfl⟩ | ⟨rfl, rfl, rfl⟩)
  · simp only [symA, go_opsd, symB, wantedX, X.put, X.look, Arg.ev, keepOf, restrict, evs, evO, initEnv, xres, tup, noTup, cls, quiet, Nat.reduceAdd, Nat.reduceEqDiff, ↓reduceIte, reduceCtorEq, goInt, exists_eq_left', eq_self, Int.reduceLT, Int.reduceLE, Int.reduceEq, Int.reduceNeg, Int.reduceAdd, Int.reduceSub, forall_const, ne_eq, undef, Nat.reducePow, Nat.reduceDiv, Nat.reduceMod, h.2, h0, goR_call a1, s1, g2, t1]
    exact hN _ _ 0 (by omega) (.inr ⟨rfl, rfl, rfl⟩)
  · simp only [symA, go_opsd, symB, wantedX, X.put, X.look, Arg.ev, keepOf, restrict, evs, evO, initEnv, xres, tup, noTup, cls, quiet, Nat.reduceAdd, Nat.reduceEqDiff, ↓reduceIte, reduceCtorEq, goInt, exists_eq_left', eq_self, Int.reduceLT, Int.reduceLE, Int.reduceEq, Int.reduceNeg, Int.reduceAdd, Int.reduceSub, forall_const, ne_eq, undef, Nat.reducePow, Nat.reduceDiv, Nat.reduceMod, t2, List.set]
    refine hB _ _ _ ?_
    simp only [symA, go_opsd, symB, wantedX, X.put, X.look, Arg.ev, keepOf, restrict, evs, evO, initEnv, xres, tup, noTup, cls, quiet, Nat.reduceAdd, Nat.reduceEqDiff, ↓reduceIte, reduceCtorEq, goInt, exists_eq_left', eq_self, Int.reduceLT, Int.reduceLE, Int.reduceEq, Int.reduceNeg, Int.reduceAdd, Int.reduceSub, forall_const, ne_eq, undef, Nat.reducePow, Nat.reduceDiv, Nat.reduceMod, t2, List.set]
    exact hQ _ _ _ rfl ⟨rfl, rfl⟩

def rngR (f t : ByteArray) (lim : Int) : Bool := decide (1 ≤ lim) && (decide (lim ≤ 64) && (decide (t = .empty) || decide (ltT f t)))
theorem bin_sgtr {P : Program} {t : TypeId} {a b : ByteArray} : binE P .gtr t (.string a) (.string b) m = some (.val (.bool (decide (ltT b a))) m) := by
  have h : binE P .gtr t (.string a) (.string b) m = some (.val (.bool (!(Op.bytesLess a.toList b.toList || sameT a b))) m) := rfl
  rw [h, ← dec_ltT, sameT_iff]
  congr 3
  by_cases h1 : ltT a b
  · simp [h1, ltT_asymm h1]
  · by_cases h2 : a = b
    · subst h2; simp [h1]
    · have h3 := (ltT_total h1).resolve_left h2
      simp [h1, h2, h3]
abbrev rg (f t : ByteArray) (lim : Int) : Value := .agg ⟨[.string f, .string t, I lim]⟩
theorem mright_spec : ∃ m', Ca 55 [rg f t lim] m (.bool (rngR f t lim)) m' ∧ Nx m m' := by
  obtain ⟨m1, hm1⟩ : ∃ m1, m.push (cel [.string f, .string t, I lim]) = m1 := ⟨_, rfl⟩
  have g1 : m1.get m.next = some (cel [.string f, .string t, I lim]) := by rw [← hm1, push_self]
  have f1 : Nx m m1 := hm1 ▸ .push
  refine ⟨m1, callX_of (call_go (F := _) rfl rfl fun Q hQ => ?_), f1⟩
  unfold rngR at hQ
  obtain ⟨b3, h3⟩ : ∃ x, decide (t = .empty) = x := ⟨_, rfl⟩
  obtain ⟨b4, h4⟩ : ∃ x, decide (ltT f t) = x := ⟨_, rfl⟩
  by_cases h1 : 1 ≤ lim <;> by_cases h2 : lim ≤ 64 <;> cases b3 <;> cases b4 <;>
    simp only [h1, h2, h3, h4, decide_true, decide_false, Bool.and_true, Bool.and_false, Bool.or_true, Bool.or_false, Bool.true_and, Bool.false_and, Bool.true_or] at hQ <;>
    simp only [symA, go_opsd, symB, wantedX, X.put, X.look, Arg.ev, keepOf, restrict, evs, evO, initEnv, xres, tup, noTup, cls, quiet, Nat.reduceAdd, Nat.reduceEqDiff, ↓reduceIte, reduceCtorEq, goInt, exists_eq_left', eq_self, Int.reduceLT, Int.reduceLE, Int.reduceEq, Int.reduceNeg, Int.reduceAdd, Int.reduceSub, forall_const, ne_eq, undef, Nat.reducePow, Nat.reduceDiv, Nat.reduceMod, hm1, g1, bin_sgtr, bin_seql, h1, h2, h3, h4] <;>
    exact hQ _ _ _ rfl ⟨rfl, rfl⟩
theorem rright_spec : ∃ m', Ca 45 [rg f t lim] m (.bool (rngR f t lim)) m' ∧ Nx m m' := by
  obtain ⟨m1, hm1⟩ : ∃ m1, m.push (cel [.string f, .string t, I lim]) = m1 := ⟨_, rfl⟩
  have g1 : m1.get m.next = some (cel [.string f, .string t, I lim]) := by rw [← hm1, push_self]
  have f1 : Nx m m1 := hm1 ▸ .push
  refine ⟨m1, callX_of (call_go (F := _) rfl rfl fun Q hQ => ?_), f1⟩
  unfold rngR at hQ
  obtain ⟨b3, h3⟩ : ∃ x, decide (t = .empty) = x := ⟨_, rfl⟩
  obtain ⟨b4, h4⟩ : ∃ x, decide (ltT f t) = x := ⟨_, rfl⟩
  by_cases h1 : 1 ≤ lim <;> by_cases h2 : lim ≤ 64 <;> cases b3 <;> cases b4 <;>
    simp only [h1, h2, h3, h4, decide_true, decide_false, Bool.and_true, Bool.and_false, Bool.or_true, Bool.or_false, Bool.true_and, Bool.false_and, Bool.true_or] at hQ <;>
    simp only [symA, go_opsd, symB, wantedX, X.put, X.look, Arg.ev, keepOf, restrict, evs, evO, initEnv, xres, tup, noTup, cls, quiet, Nat.reduceAdd, Nat.reduceEqDiff, ↓reduceIte, reduceCtorEq, goInt, exists_eq_left', eq_self, Int.reduceLT, Int.reduceLE, Int.reduceEq, Int.reduceNeg, Int.reduceAdd, Int.reduceSub, forall_const, ne_eq, undef, Nat.reducePow, Nat.reduceDiv, Nat.reduceMod, hm1, g1, bin_slss, bin_seql, h1, h2, h3, h4] <;>
    exact hQ _ _ _ rfl ⟨rfl, rfl⟩
end
end Go.Proofs.YtnlmnejellipdaaGreat
