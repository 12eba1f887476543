/-
  Own work. A cursor is opened over rooms that are one and the same.
-/
import Derived.Test.YtnlmnejellipdaaGreatN4
namespace Go.Proofs.YtnlmnejellipdaaGreat
open Go X
set_option maxRecDepth 100000
attribute [local irreducible] X.Go' X.GoO X.GoR X.GoG X.GoC X.GoF X.GoFV X.GoFG X.Ex X.GoD X.GoDV X.GoDG
set_option linter.unusedVariables false
set_option linter.unusedSimpArgs false

section
variable {m m' : Mem} {r c b : Nat} {l : Value} {f t : ByteArray} {lim n : Int} {ps : List Int} {rows : List (List Value)}
def okI (ps : List Int) (i : Nat) : Bool := decide (0 ≤ ps.getD i 0) && (decide ((i : Int) = 0) || decide (ps.getD (i - 1) 0 < ps.getD i 0))
def riseT (ps : List Int) : Nat → Bool
  | 0 => true
  | i + 1 => riseT ps i && okI ps i
theorem rows_at (h : RdS b m 3 l rows) {i : Nat} {x y z : Value} (hi : rows[i]? = some [x, y, z]) : ∃ a c o, l = .slice (some a) rows.length c ∧ ldA m 3 (.pointer (some ⟨a.block, a.off + i * 3, none⟩)) = some (.val (.agg ⟨[x, y, z]⟩) m) ∧ m.get a.block = some o ∧ o.cells[a.off + i * 3 + 2]? = some z := by
  obtain ⟨q, c, rfl, hc, h⟩ := h
  obtain ⟨h1, a, o, rfl, h3, h4, h5⟩ := h i [x, y, z] hi
  refine ⟨a, c, o, rfl, ?_, h4, by simpa using h5 2 (by omega)⟩
  have := xload_cells (m := m) (b := a.block) (off := a.off + i * 3) (n := 3) (r := [x, y, z]) h4 rfl (by omega) h5
  simp [ldA, this]
theorem rowsS_at {i : Nat} {x : Int} {ext : List (List Value)} (hi : ps[i]? = some x) : (rowsS r ps ++ ext)[i]? = some [Pt r, I 0, I x] := by
  obtain ⟨h1, h2⟩ := List.getElem?_eq_some_iff.1 hi
  rw [List.getElem?_append_left (by simpa using h1)]
  simp [hi]
abbrev zs : List Value := [.pointer none, I 0, I 0]
abbrev curL (l : Value) (f t : ByteArray) (lim : Int) : List Value := [l, .string f, .string t, I lim, .pointer none, I 0, I 0, .string .empty, .bool false, .string .empty, U 0, I 0, .bool false]
theorem bs0 : buildSliceE m zs 3 0 [] = some (.val (.slice (some ⟨m.next, 0, none⟩) 0 0) (m.push (cel []))) := by kernel_rfl
theorem bcur (h : ∃ q n c, l = .slice q n c) : buildE m [Sn, .string .empty, .string .empty, I 0, .pointer none, I 0, I 0, .string .empty, .bool false, .string .empty, U 0, I 0, .bool false] [(0, 1), (1, 3), (4, 1), (5, 1), (6, 5), (11, 1), (12, 1)] [(0, l), (1, rg f t lim), (2, .pointer none), (3, I 0)] = some (.val (.agg ⟨curL l f t lim⟩) m) := by
  obtain ⟨q, n, c, rfl⟩ := h
  kernel_rfl

theorem open_run {ext : List (List Value)} (he : ext = [] ∨ ext = [zs]) (hl : RdS b m 3 l (rowsS r ps ++ ext)) (hb : b ≤ m.next) (hn : ps.length ≤ 900) :
    Wc 43 [l, rg f t lim, .pointer none, I 0] m (fun v m' => Nx m m' ∧ ((ext = [zs] ∧ v = .tuple #[.pointer none, I 2]) ∨ (ext = [] ∧ (riseT ps ps.length && rngR f t lim) = false ∧ v = .tuple #[.pointer none, I 1]) ∨
      (ext = [] ∧ (riseT ps ps.length && rngR f t lim) = true ∧ ∃ c l' F, v = .tuple #[Pt c, I 0] ∧ Cur m' c l' f t lim ∧ m.next ≤ c ∧ Own2 3 F m' l' (rowsS r ps) ∧ ∀ i ∈ F, m.next ≤ i))) := by
  obtain ⟨m1, hm1⟩ : ∃ m1, m.push (cel [.string f, .string t, I lim]) = m1 := ⟨_, rfl⟩
  have g1 : m1.get m.next = some (cel [.string f, .string t, I lim]) := by rw [← hm1, push_self]
  have n1 : m1.next = m.next + 1 := by rw [← hm1]; simp
  have f1 : Nx m m1 := hm1 ▸ .push
  have l1 := hl.fr f1 hb (fun _ h => h.elim)
  obtain ⟨N, hN⟩ : ∃ N, (rowsS r ps ++ ext).length = N := ⟨_, rfl⟩
  have hN' : N = ps.length + ext.length := by rw [← hN]; simp
  have hext : ext.length ≤ 1 := by rcases he with rfl | rfl <;> simp
  obtain ⟨q, cp, hq⟩ := hl.slice
  rw [hN] at hq
  subst hq
  refine call_go (F := _) rfl rfl fun Q hQ => ?_
  simp only [symA, go_opsd, symB, wantedX, X.put, X.look, Arg.ev, keepOf, restrict, evs, evO, initEnv, xres, tup, noTup, cls, quiet, Nat.reduceAdd, Nat.reduceEqDiff, ↓reduceIte, reduceCtorEq, goInt, exists_eq_left', eq_self, Int.reduceLT, Int.reduceLE, Int.reduceEq, Int.reduceNeg, Int.reduceAdd, Int.reduceSub, forall_const, ne_eq, undef, Nat.reducePow, Nat.reduceDiv, Nat.reduceMod, hm1]
  refine loop_go (fun j e m' => Nx m1 m' ∧ ∃ i : Nat, i ≤ ps.length ∧ j = N - i ∧ e = [(0, .slice q N cp), (2, .pointer none), (3, I 0), (5, Pt m.next), (10, .bool (riseT ps i)), (13, .slice q N cp), (14, I (N : Int)), (15, I (i : Int))]) N ⟨.refl, 0, by omega, rfl, rfl⟩ ?_
  rintro j e m3 N1 B1 hN1 hB ⟨h3, i, hi, rfl, rfl⟩
  have x3 := h3.next
  have hb1 : b ≤ m1.next := by omega
  by_cases hlt : i < N
  · have hlt' : (i : Int) < (N : Int) := by omega
    by_cases hlp : i < ps.length
    · obtain ⟨x, hx⟩ : ∃ x, ps[i]? = some x := ⟨_, List.getElem?_eq_getElem hlp⟩
      obtain ⟨a, c', o, hv, e1, _⟩ := rows_at (l1.fr h3 hb1 (fun _ h => h.elim)) (rowsS_at hx)
      rw [hN] at hv
      cases hv
      obtain ⟨m4, s1, s2, s3, s4⟩ := new_store (m := m3) (z := zs) (row := [Pt r, I 0, I x]) (n := 3) rfl rfl (by omega)
      have h4 : Nx m1 m4 := h3.comp s3 fun _ _ h => h
      have w1 : IntKind.i64.wrap ((i : Int) + 1) = ((i + 1 : Nat) : Int) := by rw [wrap_i64 (by omega) (by omega)]; omega
      have hgx : ps.getD i 0 = x := by simp [List.getD, hx]
      have fin : ∀ {v : Bool}, v = riseT ps (i + 1) → N1 [(0, .slice (some a) N cp), (2, .pointer none), (3, I 0), (5, Pt m.next), (10, .bool v), (13, .slice (some a) N cp), (14, I (N : Int)), (15, I ((i + 1 : Nat) : Int))] m4 := by
        rintro v rfl
        exact hN1 _ _ (N - (i + 1)) (by omega) ⟨h4, i + 1, by omega, rfl, rfl⟩
      cases hr : riseT ps i with
      | false =>
        simp only [symA, go_opsd, symB, wantedX, X.put, X.look, Arg.ev, keepOf, restrict, evs, evO, initEnv, xres, tup, noTup, cls, quiet, Nat.reduceAdd, Nat.reduceEqDiff, ↓reduceIte, reduceCtorEq, goInt, exists_eq_left', eq_self, Int.reduceLT, Int.reduceLE, Int.reduceEq, Int.reduceNeg, Int.reduceAdd, Int.reduceSub, forall_const, ne_eq, undef, Nat.reducePow, Nat.reduceDiv, Nat.reduceMod, hlt', hlt, e1, s1, s2, w1]
        exact fin (by simp [riseT, hr])
      | true =>
        by_cases hx0 : 0 ≤ x
        · cases hi0 : decide ((i : Int) = 0) with
          | true =>
            simp only [symA, go_opsd, symB, wantedX, X.put, X.look, Arg.ev, keepOf, restrict, evs, evO, initEnv, xres, tup, noTup, cls, quiet, Nat.reduceAdd, Nat.reduceEqDiff, ↓reduceIte, reduceCtorEq, goInt, exists_eq_left', eq_self, Int.reduceLT, Int.reduceLE, Int.reduceEq, Int.reduceNeg, Int.reduceAdd, Int.reduceSub, forall_const, ne_eq, undef, Nat.reducePow, Nat.reduceDiv, Nat.reduceMod, hlt', hlt, e1, s1, s2, w1, hx0, hi0]
            exact fin (by rw [riseT, hr, okI, hgx, hi0, decide_eq_true hx0]; rfl)
          | false =>
            have hi1 : 1 ≤ i := by have := of_decide_eq_false hi0; omega
            have w2 : IntKind.i64.wrap ((i : Int) - 1) = ((i - 1 : Nat) : Int) := by rw [wrap_i64 (by omega) (by omega)]; omega
            obtain ⟨y, hy⟩ : ∃ y, ps[i - 1]? = some y := ⟨_, List.getElem?_eq_getElem (by omega)⟩
            obtain ⟨a', c'', o', hv', _, e2, e3⟩ := rows_at (l1.fr h4 hb1 (fun _ h => h.elim)) (rowsS_at hy)
            rw [hN] at hv'
            cases hv'
            have hlt2 : i - 1 < N := by omega
            have hgy : ps.getD (i - 1) 0 = y := by simp [List.getD, hy]
            simp only [symA, go_opsd, symB, wantedX, X.put, X.look, Arg.ev, keepOf, restrict, evs, evO, initEnv, xres, tup, noTup, cls, quiet, Nat.reduceAdd, Nat.reduceEqDiff, ↓reduceIte, reduceCtorEq, goInt, exists_eq_left', eq_self, Int.reduceLT, Int.reduceLE, Int.reduceEq, Int.reduceNeg, Int.reduceAdd, Int.reduceSub, forall_const, ne_eq, undef, Nat.reducePow, Nat.reduceDiv, Nat.reduceMod, hlt', hlt, e1, s1, s2, w1, hx0, hi0, w2, hlt2, e2, e3]
            exact fin (by rw [riseT, hr, okI, hgx, hi0, hgy, decide_eq_true hx0]; rfl)
        · simp only [symA, go_opsd, symB, wantedX, X.put, X.look, Arg.ev, keepOf, restrict, evs, evO, initEnv, xres, tup, noTup, cls, quiet, Nat.reduceAdd, Nat.reduceEqDiff, ↓reduceIte, reduceCtorEq, goInt, exists_eq_left', eq_self, Int.reduceLT, Int.reduceLE, Int.reduceEq, Int.reduceNeg, Int.reduceAdd, Int.reduceSub, forall_const, ne_eq, undef, Nat.reducePow, Nat.reduceDiv, Nat.reduceMod, hlt', hlt, e1, s1, s2, w1, hx0]
          exact fin (by rw [riseT, hr, okI, hgx, decide_eq_false hx0]; rfl)
    · have hie : i = ps.length := by omega
      have he' : ext = [zs] := by
        rcases he with rfl | rfl
        · simp at hN'; omega
        · rfl
      subst he'
      have hx : (rowsS r ps ++ [zs])[i]? = some zs := by rw [List.getElem?_append_right (by simp; omega)]; simp [hie]
      obtain ⟨a, c', o, hv, e1, _⟩ := rows_at (l1.fr h3 hb1 (fun _ h => h.elim)) hx
      rw [hN] at hv
      cases hv
      obtain ⟨m4, s1, s2, s3, s4⟩ := new_store (m := m3) (z := zs) (row := zs) (n := 3) rfl rfl (by omega)
      simp only [symA, go_opsd, symB, wantedX, X.put, X.look, Arg.ev, keepOf, restrict, evs, evO, initEnv, xres, tup, noTup, cls, quiet, Nat.reduceAdd, Nat.reduceEqDiff, ↓reduceIte, reduceCtorEq, goInt, exists_eq_left', eq_self, Int.reduceLT, Int.reduceLE, Int.reduceEq, Int.reduceNeg, Int.reduceAdd, Int.reduceSub, forall_const, ne_eq, undef, Nat.reducePow, Nat.reduceDiv, Nat.reduceMod, hlt', hlt, e1, s1, s2, isNil_ptr']
      exact hQ _ _ _ rfl ⟨(f1.comp h3 fun _ _ h => h).comp s3 fun _ _ h => h, .inl ⟨rfl, rfl⟩⟩
  · have hlt' : ¬ (i : Int) < (N : Int) := by omega
    have hie : i = ps.length := by omega
    have he' : ext = [] := by
      rcases he with rfl | rfl
      · rfl
      · simp at hN'; omega
    subst he'
    simp only [symA, go_opsd, symB, wantedX, X.put, X.look, Arg.ev, keepOf, restrict, evs, evO, initEnv, xres, tup, noTup, cls, quiet, Nat.reduceAdd, Nat.reduceEqDiff, ↓reduceIte, reduceCtorEq, goInt, exists_eq_left', eq_self, Int.reduceLT, Int.reduceLE, Int.reduceEq, Int.reduceNeg, Int.reduceAdd, Int.reduceSub, forall_const, ne_eq, undef, Nat.reducePow, Nat.reduceDiv, Nat.reduceMod, hlt']
    refine hB _ _ _ ?_
    have f3 : Nx m m3 := f1.comp h3 fun _ _ h => h
    cases hr : riseT ps i with
    | false =>
      simp only [symA, go_opsd, symB, wantedX, X.put, X.look, Arg.ev, keepOf, restrict, evs, evO, initEnv, xres, tup, noTup, cls, quiet, Nat.reduceAdd, Nat.reduceEqDiff, ↓reduceIte, reduceCtorEq, goInt, exists_eq_left', eq_self, Int.reduceLT, Int.reduceLE, Int.reduceEq, Int.reduceNeg, Int.reduceAdd, Int.reduceSub, forall_const, ne_eq, undef, Nat.reducePow, Nat.reduceDiv, Nat.reduceMod]
      exact hQ _ _ _ rfl ⟨f3, .inr (.inl ⟨rfl, by rw [← hie, hr]; rfl, rfl⟩)⟩
    | true =>
      have g3 := h3.get (by omega) (fun h => h) g1
      obtain ⟨m4, a1, a2⟩ := mright_spec (m := m3) (f := f) (t := t) (lim := lim)
      have f4 : Nx m m4 := f3.comp a2 fun _ _ h => h
      cases hg : rngR f t lim with
      | false =>
        rw [hg] at a1
        simp only [symA, go_opsd, symB, wantedX, X.put, X.look, Arg.ev, keepOf, restrict, evs, evO, initEnv, xres, tup, noTup, cls, quiet, Nat.reduceAdd, Nat.reduceEqDiff, ↓reduceIte, reduceCtorEq, goInt, exists_eq_left', eq_self, Int.reduceLT, Int.reduceLE, Int.reduceEq, Int.reduceNeg, Int.reduceAdd, Int.reduceSub, forall_const, ne_eq, undef, Nat.reducePow, Nat.reduceDiv, Nat.reduceMod, ld3 g3, goR_call a1]
        exact hQ _ _ _ rfl ⟨f4, .inr (.inl ⟨rfl, by rw [hg, Bool.and_false], rfl⟩)⟩
      | true =>
        rw [hg] at a1
        obtain ⟨m5, hm5⟩ : ∃ m5, m4.push (cel []) = m5 := ⟨_, rfl⟩
        have f5' : Nx m4 m5 := hm5 ▸ .push
        have f5 : Nx m m5 := f4.comp f5' fun _ _ h => h
        have B0 := bs0 (m := m4)
        rw [hm5] at B0
        have g4 := a2.get (by omega) (fun h => h) g3
        have x4 := a2.next
        have g5 := f5'.get (by omega) (fun h => h) g4
        obtain ⟨v', m6, F, k1, k2, k3, k4⟩ := append_all (bytes := 24) (zero := zs) (s := .slice (some ⟨m4.next, 0, none⟩) 0 0) (.inr ⟨_, rfl⟩) (hl.fr f5 hb (fun _ h => h.elim)) rfl (by omega) (by rw [hN]; omega) (by rw [hN]; omega)
        have x5 := f5'.next
        have g6 := k3.get (i := m.next) (by omega) (fun h => h) g5
        have r6 := k2.rd (by omega)
        obtain ⟨q6, c6, e6⟩ := r6.slice
        subst e6
        obtain ⟨m7, hm7⟩ : ∃ m7, m6.push (cel (curL (.slice q6 (rowsS r ps ++ []).length c6) f t lim)) = m7 := ⟨_, rfl⟩
        have f7 : Nx m6 m7 := hm7 ▸ .push
        have n7 : m7.next = m6.next + 1 := by rw [← hm7]; simp
        have BC := bcur (m := m6) (l := .slice q6 (rowsS r ps ++ []).length c6) (f := f) (t := t) (lim := lim) ⟨_, _, _, rfl⟩
        have x6 := k3.next
        have g7 := f7.get (i := m.next) (by omega) (fun h => h) g6
        simp only [symA, go_opsd, symB, wantedX, X.put, X.look, Arg.ev, keepOf, restrict, evs, evO, initEnv, xres, tup, noTup, cls, quiet, Nat.reduceAdd, Nat.reduceEqDiff, ↓reduceIte, reduceCtorEq, goInt, exists_eq_left', eq_self, Int.reduceLT, Int.reduceLE, Int.reduceEq, Int.reduceNeg, Int.reduceAdd, Int.reduceSub, forall_const, ne_eq, undef, Nat.reducePow, Nat.reduceDiv, Nat.reduceMod, ld3 g3, goR_call a1, B0, ld3 g5, ld3 g6, ld3 g7, k1, BC, hm7]
        have k2' := k2.fr f7 (fun _ _ h => h)
        rw [List.append_nil] at k2'
        have x0 := f5.next
        rw [List.append_nil] at hm7
        exact hQ _ _ _ rfl ⟨(f5.comp k3 fun _ _ h => h).comp f7 fun _ _ h => h, .inr (.inr ⟨rfl, by rw [← hie, hr, hg]; rfl, m6.next, _, F, rfl, ⟨by omega, by rw [← hm7, push_self]⟩, by omega, k2', fun i hi => by have := k4 i hi; omega⟩)⟩
end
end Go.Proofs.YtnlmnejellipdaaGreat
