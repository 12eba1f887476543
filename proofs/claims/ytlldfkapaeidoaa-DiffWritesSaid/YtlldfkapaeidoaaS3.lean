/-
  Own work. What the sort's partitions do.
-/
import Derived.Test.YtlldfkapaeidoaaS2
namespace Go.Proofs.Ytlldfkapaeidoaa
open Go X
set_option maxRecDepth 100000
set_option maxHeartbeats 2000000
set_option linter.unusedVariables false
set_option linter.unusedSimpArgs false

/-- Between i and j nothing is told yet; ahead of i all are so, behind j none is. -/
structure PInv {α : Type} (P : α → Prop) (a b i j : Nat) (p : α) (l : List α) : Prop where
  at_ : l[a]? = some p
  ai : a < i
  jb : j < b
  ij : i ≤ j + 1
  left : ∀ k x, a < k → k < i → l[k]? = some x → P x
  right : ∀ k x, j < k → k < b → l[k]? = some x → ¬ P x
section
variable {α : Type} {P : α → Prop} {a b i j : Nat} {p : α} {l : List α}
theorem PInv.incI (h : PInv P a b i j p l) (hij : i ≤ j) {x : α} (hx : l[i]? = some x) (hP : P x) : PInv P a b (i + 1) j p l :=
  ⟨h.at_, by have := h.ai; omega, h.jb, by omega, fun k y h1 h2 hy => by
    by_cases hk : k = i
    · subst hk; rw [hx] at hy; cases hy; exact hP
    · exact h.left k y h1 (by omega) hy, h.right⟩
theorem PInv.decJ (h : PInv P a b i j p l) (hij : i ≤ j) {x : α} (hx : l[j]? = some x) (hP : ¬ P x) : PInv P a b i (j - 1) p l :=
  ⟨h.at_, h.ai, by have := h.jb; omega, by have := h.ai; omega, h.left, fun k y h1 h2 hy => by
    by_cases hk : k = j
    · subst hk; rw [hx] at hy; cases hy; exact hP
    · exact h.right k y (by omega) h2 hy⟩
theorem PInv.swap (h : PInv P a b i j p l) (hij : i < j) {x y : α} (hx : l[i]? = some x) (hy : l[j]? = some y) (hPx : ¬ P x) (hPy : P y) : PInv P a b (i + 1) (j - 1) p (sw l i j x y) := by
  have hai := h.ai
  have hjb := h.jb
  refine ⟨by rw [sw_get hx hy, if_neg (by omega), if_neg (by omega)]; exact h.at_, by omega, by omega, by omega, fun k z h1 h2 hz => ?_, fun k z h1 h2 hz => ?_⟩
  · rw [sw_get hx hy, if_neg (by omega)] at hz
    by_cases hk : k = i
    · rw [if_pos hk] at hz; cases hz; exact hPy
    · rw [if_neg hk] at hz; exact h.left k z h1 (by omega) hz
  · rw [sw_get hx hy] at hz
    by_cases hk : k = j
    · rw [if_pos hk] at hz; cases hz; exact hPx
    · rw [if_neg hk, if_neg (by omega)] at hz; exact h.right k z (by omega) h2 hz
/-- The pivot goes between. -/
theorem PInv.fin (h : PInv P a b (j + 1) j p l) {y : α} (hy : l[j]? = some y) (hp : ¬ P p) : (sw l j a y p)[j]? = some p ∧ (∀ k x, a ≤ k → k < j → (sw l j a y p)[k]? = some x → P x) ∧ ∀ k x, j ≤ k → k < b → (sw l j a y p)[k]? = some x → ¬ P x := by
  have hai := h.ai
  have hat := h.at_
  refine ⟨?_, fun k x h1 h2 hx => ?_, fun k x h1 h2 hx => ?_⟩
  · rw [sw_get hy hat]
    by_cases hja : j = a
    · subst hja
      rw [if_pos rfl]
      rw [hy] at hat; exact hat
    · rw [if_neg hja, if_pos rfl]
  · rw [sw_get hy hat] at hx
    by_cases hk : k = a
    · rw [if_pos hk] at hx
      cases hx
      exact h.left j _ (by omega) (by omega) hy
    · rw [if_neg hk, if_neg (by omega)] at hx
      exact h.left k x (by omega) (by omega) hx
  · rw [sw_get hy hat] at hx
    by_cases hkj : k = j
    · subst hkj
      by_cases hka : k = a
      · rw [if_pos hka] at hx
        cases hx
        subst hka
        rw [hy] at hat
        cases hat
        exact hp
      · rw [if_neg hka, if_pos rfl] at hx
        cases hx
        exact hp
    · by_cases hka : k = a
      · omega
      · rw [if_neg hka, if_neg hkj] at hx
        exact h.right k x (by omega) h2 hx
end

section
variable {F : List Nat} {m m' : Mem} {id cap n : Nat} {ks : List ByteArray}
/-- Two places that are read. -/
theorem OwnK.rd2 (h : OwnK F m id cap n ks) {i j : Nat} {x y : ByteArray} (hi : ks[i]? = some x) (hj : ks[j]? = some y) : ∃ o, m.get id = some o ∧ o.cells[i]? = some (.string x) ∧ o.cells[j]? = some (.string y) ∧ i < n ∧ j < n := by
  obtain ⟨o, ho, hc⟩ := h.obj
  have h1 := (List.getElem?_eq_some_iff.1 hi).1
  have h2 := (List.getElem?_eq_some_iff.1 hj).1
  have hl := h.len
  exact ⟨o, ho, hc _ _ hi, hc _ _ hj, by omega, by omega⟩
theorem partEq_spec {a b pv : Nat} {p : ByteArray} (h : OwnK F m id cap n ks) (hab : a + 1 < b) (hb : b ≤ n) (hn : n ≤ 255) (h1 : a ≤ pv) (h2 : pv < b) (hp : ks[pv]? = some p) :
    Wc 62 [SV id n cap, I a, I b, I pv] m fun r m' => ∃ (i : Nat) (ks' : List ByteArray), r = I i ∧ OwnK F m' id cap n ks' ∧ Pm a b ks ks' ∧ Fm (· ∈ F) m m' ∧ a < i ∧ i ≤ b ∧ (∀ k x, a ≤ k → k < i → ks'[k]? = some x → ¬ ltT p x) ∧ ∀ k x, i ≤ k → k < b → ks'[k]? = some x → ltT p x := by
  refine call_go (F := _) rfl rfl fun Q hQ => ?_
  have hl := h.len
  have wa : IntKind.i64.wrap ((a : Int) + 1) = ((a + 1 : Nat) : Int) := by rw [wrap_i64 (by omega) (by omega)]; omega
  have wb : IntKind.i64.wrap ((b : Int) - 1) = ((b - 1 : Nat) : Int) := by rw [wrap_i64 (by omega) (by omega)]; omega
  obtain ⟨x0, hx0⟩ : ∃ x, ks[a]? = some x := ⟨_, List.getElem?_eq_getElem (by omega)⟩
  obtain ⟨m1, m2, s1, s2, o2, f2⟩ := h.swap hx0 hp
  obtain ⟨o, ho, hcx, hcp, ha', hp'⟩ := h.rd2 hx0 hp
  have start : PInv (fun x => ¬ ltT p x) a b (a + 1) (b - 1) p (sw ks a pv x0 p) := by
    refine ⟨?_, by omega, by omega, by omega, fun k x k1 k2 => by omega, fun k x k1 k2 => by omega⟩
    rw [sw_get hx0 hp]
    by_cases hq : a = pv
    · subst hq
      rw [hp] at hx0; cases hx0
      rw [if_pos rfl]
    · rw [if_neg hq, if_pos rfl]
  simp only [symA, symF, Nat.reduceOr, Nat.reduceAnd, Nat.reduceShiftLeft, Nat.zero_or, symB, wantedX, X.put, X.look, Arg.ev, keepOf, restrict, evs, evO, initEnv, xres, tup, noTup, cls, quiet, Nat.reduceAdd, Nat.reduceEqDiff, ↓reduceIte, reduceCtorEq, goInt, exists_eq_left', eq_self, Int.reduceLT, Int.reduceLE, Int.reduceEq, Int.reduceNeg, Int.reduceAdd, Int.reduceSub, forall_const, ne_eq, undef, Nat.reducePow, Nat.reduceDiv, Nat.reduceMod]
  refine goF_of ?_
  simp only [symA, symF, Nat.reduceOr, Nat.reduceAnd, Nat.reduceShiftLeft, Nat.zero_or, symB, wantedX, X.put, X.look, Arg.ev, keepOf, restrict, evs, evO, initEnv, xres, tup, noTup, cls, quiet, Nat.reduceAdd, Nat.reduceEqDiff, ↓reduceIte, reduceCtorEq, goInt, exists_eq_left', eq_self, Int.reduceLT, Int.reduceLE, Int.reduceEq, Int.reduceNeg, Int.reduceAdd, Int.reduceSub, forall_const, ne_eq, undef, Nat.reducePow, Nat.reduceDiv, Nat.reduceMod, ha', hp', ho, hcx, hcp, s1, s2, wa, wb]
  refine loop_go (fun k e m' => ∃ (i j : Nat) (l : List ByteArray), k = j + 1 - i ∧ OwnK F m' id cap n l ∧ Pm a b ks l ∧ PInv (fun x => ¬ ltT p x) a b i j p l ∧ Fm (· ∈ F) m m' ∧ e = [(0, SV id n cap), (1, I a), (9, I i), (10, I j)]) (b - 1 + 1 - (a + 1)) ⟨a + 1, b - 1, _, rfl, o2, sw_pm hx0 hp (by omega) (by omega) h1 h2, start, f2, rfl⟩ ?_
  rintro k e m3 N3 B3 hN3 hB3 ⟨i, j, l, rfl, o3, p3, v3, f3, rfl⟩
  have hjb := v3.jb
  have hai := v3.ai
  simp only [symA, symF, Nat.reduceOr, Nat.reduceAnd, Nat.reduceShiftLeft, Nat.zero_or, symB, wantedX, X.put, X.look, Arg.ev, keepOf, restrict, evs, evO, initEnv, xres, tup, noTup, cls, quiet, Nat.reduceAdd, Nat.reduceEqDiff, ↓reduceIte, reduceCtorEq, goInt, exists_eq_left', eq_self, Int.reduceLT, Int.reduceLE, Int.reduceEq, Int.reduceNeg, Int.reduceAdd, Int.reduceSub, forall_const, ne_eq, undef, Nat.reducePow, Nat.reduceDiv, Nat.reduceMod]
  refine loop_go (fun k e m' => m' = m3 ∧ ∃ (i' : Nat), i ≤ i' ∧ k = j + 1 - i' ∧ PInv (fun x => ¬ ltT p x) a b i' j p l ∧ e = [(0, SV id n cap), (1, I a), (9, I i'), (10, I j)]) (j + 1 - i) ⟨rfl, i, Nat.le_refl _, rfl, v3, rfl⟩ ?_
  rintro k e m' N4 B4 hN4 hB4 ⟨rfl, i1, hi1, rfl, v4, rfl⟩
  have hij4 := v4.ij
  have hl3 := o3.len
  have wi : IntKind.i64.wrap ((i1 : Int) + 1) = ((i1 + 1 : Nat) : Int) := by rw [wrap_i64 (by omega) (by omega)]; omega
  have hX : (i1 ≤ j → ∃ x, l[i1]? = some x ∧ ltT p x) → B4 2 [(0, SV id n cap), (1, I a), (9, I i1), (10, I j), (43, .bool false)] m' := fun hE1 => by
    refine hB4 _ _ _ ?_
    simp only [symA, symF, Nat.reduceOr, Nat.reduceAnd, Nat.reduceShiftLeft, Nat.zero_or, symB, wantedX, X.put, X.look, Arg.ev, keepOf, restrict, evs, evO, initEnv, xres, tup, noTup, cls, quiet, Nat.reduceAdd, Nat.reduceEqDiff, ↓reduceIte, reduceCtorEq, goInt, exists_eq_left', eq_self, Int.reduceLT, Int.reduceLE, Int.reduceEq, Int.reduceNeg, Int.reduceAdd, Int.reduceSub, forall_const, ne_eq, undef, Nat.reducePow, Nat.reduceDiv, Nat.reduceMod]
    refine loop_go (fun k e m'' => m'' = m' ∧ ∃ (j' : Nat), j' ≤ j ∧ k = j' ∧ (i1 ≤ j' → ∃ x, l[i1]? = some x ∧ ltT p x) ∧ PInv (fun x => ¬ ltT p x) a b i1 j' p l ∧ ∃ r, e = (0, SV id n cap) :: (1, I a) :: (9, I i1) :: (10, I j') :: r) j ⟨rfl, j, Nat.le_refl _, rfl, hE1, v4, _, rfl⟩ ?_
    rintro k e m'' N5 B5 hN5 hB5 ⟨rfl, j1, hj1, rfl, hE2, v5, rr, rfl⟩
    have hij5 := v5.ij
    have hai5 := v5.ai
    have wj : 1 ≤ k → IntKind.i64.wrap ((k : Int) - 1) = ((k - 1 : Nat) : Int) := fun h1k => by rw [wrap_i64 (by omega) (by omega)]; omega
    have hY : (i1 ≤ k → ∃ y, l[k]? = some y ∧ ¬ ltT p y) → B5 4 [(0, SV id n cap), (1, I a), (9, I i1), (10, I k), (59, .bool false)] m'' := fun hE3 => by
      refine hB5 _ _ _ ?_
      by_cases hgt : k < i1
      · have hgt' : (k : Int) < (i1 : Int) := by omega
        have he : i1 = k + 1 := by omega
        simp only [symA, symF, Nat.reduceOr, Nat.reduceAnd, Nat.reduceShiftLeft, Nat.zero_or, symB, wantedX, X.put, X.look, Arg.ev, keepOf, restrict, evs, evO, initEnv, xres, tup, noTup, cls, quiet, Nat.reduceAdd, Nat.reduceEqDiff, ↓reduceIte, reduceCtorEq, goInt, exists_eq_left', eq_self, Int.reduceLT, Int.reduceLE, Int.reduceEq, Int.reduceNeg, Int.reduceAdd, Int.reduceSub, forall_const, ne_eq, undef, Nat.reducePow, Nat.reduceDiv, Nat.reduceMod, hgt']
        refine hB3 _ _ _ ?_
        simp only [symA, symF, Nat.reduceOr, Nat.reduceAnd, Nat.reduceShiftLeft, Nat.zero_or, symB, wantedX, X.put, X.look, Arg.ev, keepOf, restrict, evs, evO, initEnv, xres, tup, noTup, cls, quiet, Nat.reduceAdd, Nat.reduceEqDiff, ↓reduceIte, reduceCtorEq, goInt, exists_eq_left', eq_self, Int.reduceLT, Int.reduceLE, Int.reduceEq, Int.reduceNeg, Int.reduceAdd, Int.reduceSub, forall_const, ne_eq, undef, Nat.reducePow, Nat.reduceDiv, Nat.reduceMod]
        refine hQ _ _ _ rfl ⟨i1, l, rfl, o3, p3, f3, v5.ai, by have := v5.jb; omega, fun q x h1 h2 hx => ?_, fun q x h1 h2 hx => ?_⟩
        · by_cases hqa : q = a
          · subst hqa
            rw [v5.at_] at hx; cases hx
            exact ltT_irrefl _
          · exact v5.left q x (by omega) h2 hx
        · have := v5.right q x (by omega) h2 hx
          exact Classical.byContradiction this
      · have hgt' : ¬ (k : Int) < (i1 : Int) := by omega
        obtain ⟨x, hx, hpx⟩ := hE2 (by omega)
        obtain ⟨y, hy, hpy⟩ := hE3 (by omega)
        have hlt : i1 < k := by
          by_cases he : i1 = k
          · subst he; rw [hx] at hy; cases hy; exact absurd hpx hpy
          · omega
        obtain ⟨m5, m6, t1, t2, o6, f6⟩ := o3.swap hx hy
        obtain ⟨oo, hoo, hcx2, hcy2, hin, hjn⟩ := o3.rd2 hx hy
        simp only [symA, symF, Nat.reduceOr, Nat.reduceAnd, Nat.reduceShiftLeft, Nat.zero_or, symB, wantedX, X.put, X.look, Arg.ev, keepOf, restrict, evs, evO, initEnv, xres, tup, noTup, cls, quiet, Nat.reduceAdd, Nat.reduceEqDiff, ↓reduceIte, reduceCtorEq, goInt, exists_eq_left', eq_self, Int.reduceLT, Int.reduceLE, Int.reduceEq, Int.reduceNeg, Int.reduceAdd, Int.reduceSub, forall_const, ne_eq, undef, Nat.reducePow, Nat.reduceDiv, Nat.reduceMod, hgt']
        refine goF_of ?_
        simp only [symA, symF, Nat.reduceOr, Nat.reduceAnd, Nat.reduceShiftLeft, Nat.zero_or, symB, wantedX, X.put, X.look, Arg.ev, keepOf, restrict, evs, evO, initEnv, xres, tup, noTup, cls, quiet, Nat.reduceAdd, Nat.reduceEqDiff, ↓reduceIte, reduceCtorEq, goInt, exists_eq_left', eq_self, Int.reduceLT, Int.reduceLE, Int.reduceEq, Int.reduceNeg, Int.reduceAdd, Int.reduceSub, forall_const, ne_eq, undef, Nat.reducePow, Nat.reduceDiv, Nat.reduceMod, hin, hjn, hoo, hcx2, hcy2, t1, t2, wi, wj (by omega)]
        refine hN3 _ _ (k - 1 + 1 - (i1 + 1)) (by omega) ⟨i1 + 1, k - 1, _, rfl, o6, p3.trans (sw_pm hx hy (by omega) (by omega) (by omega) (by omega)), v5.swap hlt hx hy (by simpa using hpx) hpy, f3.trans f6, rfl⟩
    simp only [symA, symF, Nat.reduceOr, Nat.reduceAnd, Nat.reduceShiftLeft, Nat.zero_or, symB, wantedX, X.put, X.look, Arg.ev, keepOf, restrict, evs, evO, initEnv, xres, tup, noTup, cls, quiet, Nat.reduceAdd, Nat.reduceEqDiff, ↓reduceIte, reduceCtorEq, goInt, exists_eq_left', eq_self, Int.reduceLT, Int.reduceLE, Int.reduceEq, Int.reduceNeg, Int.reduceAdd, Int.reduceSub, forall_const, ne_eq, undef, Nat.reducePow, Nat.reduceDiv, Nat.reduceMod]
    refine goF_of ?_
    by_cases hle : i1 ≤ k
    · have hle' : (i1 : Int) ≤ (k : Int) := by omega
      obtain ⟨y, hy⟩ : ∃ y, l[k]? = some y := ⟨_, List.getElem?_eq_getElem (by omega)⟩
      obtain ⟨oo, hoo, hcp2, hcy2, han, hjn⟩ := o3.rd2 v5.at_ hy
      by_cases hpy : ltT p y
      · simp only [symA, symF, Nat.reduceOr, Nat.reduceAnd, Nat.reduceShiftLeft, Nat.zero_or, symB, wantedX, X.put, X.look, Arg.ev, keepOf, restrict, evs, evO, initEnv, xres, tup, noTup, cls, quiet, Nat.reduceAdd, Nat.reduceEqDiff, ↓reduceIte, reduceCtorEq, goInt, exists_eq_left', eq_self, Int.reduceLT, Int.reduceLE, Int.reduceEq, Int.reduceNeg, Int.reduceAdd, Int.reduceSub, forall_const, ne_eq, undef, Nat.reducePow, Nat.reduceDiv, Nat.reduceMod, hle', han, hjn, hoo, hcp2, hcy2, goFV3c (less_t hpy), wj (by omega)]
        exact hN5 _ _ (k - 1) (by omega) ⟨rfl, k - 1, by omega, rfl, fun hq => hE2 (by omega), v5.decJ hle hy (by simpa using hpy), _, rfl⟩
      · simp only [symA, symF, Nat.reduceOr, Nat.reduceAnd, Nat.reduceShiftLeft, Nat.zero_or, symB, wantedX, X.put, X.look, Arg.ev, keepOf, restrict, evs, evO, initEnv, xres, tup, noTup, cls, quiet, Nat.reduceAdd, Nat.reduceEqDiff, ↓reduceIte, reduceCtorEq, goInt, exists_eq_left', eq_self, Int.reduceLT, Int.reduceLE, Int.reduceEq, Int.reduceNeg, Int.reduceAdd, Int.reduceSub, forall_const, ne_eq, undef, Nat.reducePow, Nat.reduceDiv, Nat.reduceMod, hle', han, hjn, hoo, hcp2, hcy2, goFV3c (less_f hpy)]
        exact hY fun _ => ⟨y, hy, hpy⟩
    · have hle' : ¬ (i1 : Int) ≤ (k : Int) := by omega
      simp only [symA, symF, Nat.reduceOr, Nat.reduceAnd, Nat.reduceShiftLeft, Nat.zero_or, symB, wantedX, X.put, X.look, Arg.ev, keepOf, restrict, evs, evO, initEnv, xres, tup, noTup, cls, quiet, Nat.reduceAdd, Nat.reduceEqDiff, ↓reduceIte, reduceCtorEq, goInt, exists_eq_left', eq_self, Int.reduceLT, Int.reduceLE, Int.reduceEq, Int.reduceNeg, Int.reduceAdd, Int.reduceSub, forall_const, ne_eq, undef, Nat.reducePow, Nat.reduceDiv, Nat.reduceMod, hle']
      exact hY fun hq => by omega
  simp only [symA, symF, Nat.reduceOr, Nat.reduceAnd, Nat.reduceShiftLeft, Nat.zero_or, symB, wantedX, X.put, X.look, Arg.ev, keepOf, restrict, evs, evO, initEnv, xres, tup, noTup, cls, quiet, Nat.reduceAdd, Nat.reduceEqDiff, ↓reduceIte, reduceCtorEq, goInt, exists_eq_left', eq_self, Int.reduceLT, Int.reduceLE, Int.reduceEq, Int.reduceNeg, Int.reduceAdd, Int.reduceSub, forall_const, ne_eq, undef, Nat.reducePow, Nat.reduceDiv, Nat.reduceMod]
  refine goF_of ?_
  by_cases hle : i1 ≤ j
  · have hle' : (i1 : Int) ≤ (j : Int) := by omega
    obtain ⟨x, hx⟩ : ∃ x, l[i1]? = some x := ⟨_, List.getElem?_eq_getElem (by omega)⟩
    obtain ⟨oo, hoo, hcp2, hcx2, han, hin⟩ := o3.rd2 v4.at_ hx
    by_cases hpx : ltT p x
    · simp only [symA, symF, Nat.reduceOr, Nat.reduceAnd, Nat.reduceShiftLeft, Nat.zero_or, symB, wantedX, X.put, X.look, Arg.ev, keepOf, restrict, evs, evO, initEnv, xres, tup, noTup, cls, quiet, Nat.reduceAdd, Nat.reduceEqDiff, ↓reduceIte, reduceCtorEq, goInt, exists_eq_left', eq_self, Int.reduceLT, Int.reduceLE, Int.reduceEq, Int.reduceNeg, Int.reduceAdd, Int.reduceSub, forall_const, ne_eq, undef, Nat.reducePow, Nat.reduceDiv, Nat.reduceMod, hle', han, hin, hoo, hcp2, hcx2, goFV3c (less_t hpx)]
      exact hX fun _ => ⟨x, hx, hpx⟩
    · simp only [symA, symF, Nat.reduceOr, Nat.reduceAnd, Nat.reduceShiftLeft, Nat.zero_or, symB, wantedX, X.put, X.look, Arg.ev, keepOf, restrict, evs, evO, initEnv, xres, tup, noTup, cls, quiet, Nat.reduceAdd, Nat.reduceEqDiff, ↓reduceIte, reduceCtorEq, goInt, exists_eq_left', eq_self, Int.reduceLT, Int.reduceLE, Int.reduceEq, Int.reduceNeg, Int.reduceAdd, Int.reduceSub, forall_const, ne_eq, undef, Nat.reducePow, Nat.reduceDiv, Nat.reduceMod, hle', han, hin, hoo, hcp2, hcx2, goFV3c (less_f hpx), wi]
      exact hN4 _ _ (j + 1 - (i1 + 1)) (by omega) ⟨rfl, i1 + 1, by omega, rfl, v4.incI hle hx hpx, rfl⟩
  · have hle' : ¬ (i1 : Int) ≤ (j : Int) := by omega
    simp only [symA, symF, Nat.reduceOr, Nat.reduceAnd, Nat.reduceShiftLeft, Nat.zero_or, symB, wantedX, X.put, X.look, Arg.ev, keepOf, restrict, evs, evO, initEnv, xres, tup, noTup, cls, quiet, Nat.reduceAdd, Nat.reduceEqDiff, ↓reduceIte, reduceCtorEq, goInt, exists_eq_left', eq_self, Int.reduceLT, Int.reduceLE, Int.reduceEq, Int.reduceNeg, Int.reduceAdd, Int.reduceSub, forall_const, ne_eq, undef, Nat.reducePow, Nat.reduceDiv, Nat.reduceMod, hle']
    exact hX fun hq => by omega

/-- What a partition leaves. -/
def Parted (F : List Nat) (m m' : Mem) (id cap n a b : Nat) (ks : List ByteArray) (r : Value) : Prop :=
  ∃ (j : Nat) (t : Bool) (p : ByteArray) (ks' : List ByteArray), r = .tuple #[I j, .bool t] ∧ OwnK F m' id cap n ks' ∧ Pm a b ks ks' ∧ Fm (· ∈ F) m m' ∧ a ≤ j ∧ j < b ∧ ks'[j]? = some p ∧ (∀ k x, a ≤ k → k < j → ks'[k]? = some x → ltT x p) ∧ ∀ k x, j ≤ k → k < b → ks'[k]? = some x → ¬ ltT x p
theorem part_spec {a b pv : Nat} (h : OwnK F m id cap n ks) (hab : a + 1 < b) (hb : b ≤ n) (hn : n ≤ 255) (h1 : a ≤ pv) (h2 : pv < b) :
    Wc 63 [SV id n cap, I a, I b, I pv] m fun r m' => Parted F m m' id cap n a b ks r := by
  refine call_go (F := _) rfl rfl fun Q hQ => ?_
  have hl := h.len
  have wa : IntKind.i64.wrap ((a : Int) + 1) = ((a + 1 : Nat) : Int) := by rw [wrap_i64 (by omega) (by omega)]; omega
  have wb : IntKind.i64.wrap ((b : Int) - 1) = ((b - 1 : Nat) : Int) := by rw [wrap_i64 (by omega) (by omega)]; omega
  obtain ⟨p, hp⟩ : ∃ p, ks[pv]? = some p := ⟨_, List.getElem?_eq_getElem (by omega)⟩
  obtain ⟨x0, hx0⟩ : ∃ x, ks[a]? = some x := ⟨_, List.getElem?_eq_getElem (by omega)⟩
  obtain ⟨m1, m2, s1, s2, o2, f2⟩ := h.swap hx0 hp
  obtain ⟨o, ho, hcx, hcp, ha', hp'⟩ := h.rd2 hx0 hp
  obtain ⟨l, hl0⟩ : ∃ l, sw ks a pv x0 p = l := ⟨_, rfl⟩
  have pm0 : Pm a b ks l := by rw [← hl0]; exact sw_pm hx0 hp (by omega) (by omega) h1 h2
  have start : PInv (fun x => ltT x p) a b (a + 1) (b - 1) p l := by
    rw [← hl0]
    refine ⟨?_, by omega, by omega, by omega, fun k x k1 k2 => by omega, fun k x k1 k2 => by omega⟩
    rw [sw_get hx0 hp]
    by_cases hq : a = pv
    · subst hq
      rw [hp] at hx0; cases hx0
      rw [if_pos rfl]
    · rw [if_neg hq, if_pos rfl]
  rw [hl0] at o2
  -- the end: the pivot goes between
  have last : ∀ (m5 : Mem) (i j : Nat) (l : List ByteArray) (t : Bool), OwnK F m5 id cap n l → Pm a b ks l → PInv (fun x => ltT x p) a b i j p l → Fm (· ∈ F) m m5 → j < i →
      ∃ y o m6 m7, l[j]? = some y ∧ m5.get id = some o ∧ o.cells[j]? = some (.string y) ∧ o.cells[a]? = some (.string p) ∧ j < n ∧ storeE m5 1 (.pointer (some ⟨id, j, none⟩)) (.string p) = some (.skip m6) ∧ storeE m6 1 (.pointer (some ⟨id, a, none⟩)) (.string y) = some (.skip m7) ∧ Q [(8, I j), (9, .bool t)] m7 := fun m5 i j l t o5 p5 v5 f5 hji => by
    have hai := v5.ai
    have hij := v5.ij
    have hjb := v5.jb
    have hl5 := o5.len
    have he : i = j + 1 := by omega
    subst he
    obtain ⟨y, hy⟩ : ∃ y, l[j]? = some y := ⟨_, List.getElem?_eq_getElem (by omega)⟩
    obtain ⟨m6, m7, t1, t2, o7, f7⟩ := o5.swap hy v5.at_
    obtain ⟨oo, hoo, c1, c2, jn, an⟩ := o5.rd2 hy v5.at_
    obtain ⟨e1, e2, e3⟩ := v5.fin hy (ltT_irrefl p)
    exact ⟨y, oo, m6, m7, hy, hoo, c1, c2, jn, t1, t2, hQ _ _ _ rfl ⟨j, t, p, _, rfl, o7, p5.trans (sw_pm hy v5.at_ (by omega) (by omega) (by omega) (by omega)), f5.trans f7, by omega, hjb, e1, e2, e3⟩⟩
  simp only [symA, symF, Nat.reduceOr, Nat.reduceAnd, Nat.reduceShiftLeft, Nat.zero_or, symB, wantedX, X.put, X.look, Arg.ev, keepOf, restrict, evs, evO, initEnv, xres, tup, noTup, cls, quiet, Nat.reduceAdd, Nat.reduceEqDiff, ↓reduceIte, reduceCtorEq, goInt, exists_eq_left', eq_self, Int.reduceLT, Int.reduceLE, Int.reduceEq, Int.reduceNeg, Int.reduceAdd, Int.reduceSub, forall_const, ne_eq, undef, Nat.reducePow, Nat.reduceDiv, Nat.reduceMod]
  refine goF_of ?_
  simp only [symA, symF, Nat.reduceOr, Nat.reduceAnd, Nat.reduceShiftLeft, Nat.zero_or, symB, wantedX, X.put, X.look, Arg.ev, keepOf, restrict, evs, evO, initEnv, xres, tup, noTup, cls, quiet, Nat.reduceAdd, Nat.reduceEqDiff, ↓reduceIte, reduceCtorEq, goInt, exists_eq_left', eq_self, Int.reduceLT, Int.reduceLE, Int.reduceEq, Int.reduceNeg, Int.reduceAdd, Int.reduceSub, forall_const, ne_eq, undef, Nat.reducePow, Nat.reduceDiv, Nat.reduceMod, ha', hp', ho, hcx, hcp, s1, s2, wa, wb]
  -- from the left
  refine loop_go (fun k e m' => m' = m2 ∧ ∃ (i' : Nat), a < i' ∧ k = b - i' ∧ PInv (fun x => ltT x p) a b i' (b - 1) p l ∧ e = [(0, SV id n cap), (1, I a), (10, I i'), (11, I (b - 1 : Nat))]) (b - (a + 1)) ⟨rfl, a + 1, by omega, rfl, start, rfl⟩ ?_
  rintro k e m' N4 B4 hN4 hB4 ⟨rfl, i1, hi1, rfl, v4, rfl⟩
  have hij4 := v4.ij
  have hl3 := o2.len
  have wi : IntKind.i64.wrap ((i1 : Int) + 1) = ((i1 + 1 : Nat) : Int) := by rw [wrap_i64 (by omega) (by omega)]; omega
  have hX : (i1 ≤ b - 1 → ∃ x, l[i1]? = some x ∧ ¬ ltT x p) → B4 0 [(0, SV id n cap), (1, I a), (10, I i1), (11, I (b - 1 : Nat)), (43, .bool false)] m' := fun hE1 => by
    refine hB4 _ _ _ ?_
    simp only [symA, symF, Nat.reduceOr, Nat.reduceAnd, Nat.reduceShiftLeft, Nat.zero_or, symB, wantedX, X.put, X.look, Arg.ev, keepOf, restrict, evs, evO, initEnv, xres, tup, noTup, cls, quiet, Nat.reduceAdd, Nat.reduceEqDiff, ↓reduceIte, reduceCtorEq, goInt, exists_eq_left', eq_self, Int.reduceLT, Int.reduceLE, Int.reduceEq, Int.reduceNeg, Int.reduceAdd, Int.reduceSub, forall_const, ne_eq, undef, Nat.reducePow, Nat.reduceDiv, Nat.reduceMod]
    refine loop_go (fun k e m'' => m'' = m' ∧ ∃ (j' : Nat), k = j' ∧ (i1 ≤ j' → ∃ x, l[i1]? = some x ∧ ¬ ltT x p) ∧ PInv (fun x => ltT x p) a b i1 j' p l ∧ ∃ r, e = (0, SV id n cap) :: (1, I a) :: (10, I i1) :: (11, I j') :: r) (b - 1) ⟨rfl, b - 1, rfl, hE1, v4, _, rfl⟩ ?_
    rintro k e m'' N5 B5 hN5 hB5 ⟨rfl, j1, rfl, hE2, v5, rr, rfl⟩
    have hij5 := v5.ij
    have hai5 := v5.ai
    have hjb5 := v5.jb
    have wj : 1 ≤ k → IntKind.i64.wrap ((k : Int) - 1) = ((k - 1 : Nat) : Int) := fun h1k => by rw [wrap_i64 (by omega) (by omega)]; omega
    have hY : (i1 ≤ k → ∃ y, l[k]? = some y ∧ ltT y p) → B5 2 [(0, SV id n cap), (1, I a), (10, I i1), (11, I k), (60, .bool false)] m'' := fun hE3 => by
      refine hB5 _ _ _ ?_
      by_cases hgt : k < i1
      · have hgt' : (k : Int) < (i1 : Int) := by omega
        obtain ⟨y, oo, m6, m7, q1, q2, q3, q4, q5, q6, q7, q8⟩ := last m'' i1 k l true o2 pm0 v5 f2 hgt
        simp only [symA, symF, Nat.reduceOr, Nat.reduceAnd, Nat.reduceShiftLeft, Nat.zero_or, symB, wantedX, X.put, X.look, Arg.ev, keepOf, restrict, evs, evO, initEnv, xres, tup, noTup, cls, quiet, Nat.reduceAdd, Nat.reduceEqDiff, ↓reduceIte, reduceCtorEq, goInt, exists_eq_left', eq_self, Int.reduceLT, Int.reduceLE, Int.reduceEq, Int.reduceNeg, Int.reduceAdd, Int.reduceSub, forall_const, ne_eq, undef, Nat.reducePow, Nat.reduceDiv, Nat.reduceMod, hgt']
        refine goF_of ?_
        simp only [symA, symF, Nat.reduceOr, Nat.reduceAnd, Nat.reduceShiftLeft, Nat.zero_or, symB, wantedX, X.put, X.look, Arg.ev, keepOf, restrict, evs, evO, initEnv, xres, tup, noTup, cls, quiet, Nat.reduceAdd, Nat.reduceEqDiff, ↓reduceIte, reduceCtorEq, goInt, exists_eq_left', eq_self, Int.reduceLT, Int.reduceLE, Int.reduceEq, Int.reduceNeg, Int.reduceAdd, Int.reduceSub, forall_const, ne_eq, undef, Nat.reducePow, Nat.reduceDiv, Nat.reduceMod, ha', q5, q2, q3, q4, q6, q7]
        exact q8
      · have hgt' : ¬ (k : Int) < (i1 : Int) := by omega
        obtain ⟨x, hx, hpx⟩ := hE2 (by omega)
        obtain ⟨y, hy, hpy⟩ := hE3 (by omega)
        have hlt : i1 < k := by
          by_cases he : i1 = k
          · subst he; rw [hx] at hy; cases hy; exact absurd hpy hpx
          · omega
        obtain ⟨m5, m6, t1, t2, o6, f6⟩ := o2.swap hx hy
        obtain ⟨oo, hoo, hcx2, hcy2, hin, hjn⟩ := o2.rd2 hx hy
        simp only [symA, symF, Nat.reduceOr, Nat.reduceAnd, Nat.reduceShiftLeft, Nat.zero_or, symB, wantedX, X.put, X.look, Arg.ev, keepOf, restrict, evs, evO, initEnv, xres, tup, noTup, cls, quiet, Nat.reduceAdd, Nat.reduceEqDiff, ↓reduceIte, reduceCtorEq, goInt, exists_eq_left', eq_self, Int.reduceLT, Int.reduceLE, Int.reduceEq, Int.reduceNeg, Int.reduceAdd, Int.reduceSub, forall_const, ne_eq, undef, Nat.reducePow, Nat.reduceDiv, Nat.reduceMod, hgt']
        refine goF_of ?_
        simp only [symA, symF, Nat.reduceOr, Nat.reduceAnd, Nat.reduceShiftLeft, Nat.zero_or, symB, wantedX, X.put, X.look, Arg.ev, keepOf, restrict, evs, evO, initEnv, xres, tup, noTup, cls, quiet, Nat.reduceAdd, Nat.reduceEqDiff, ↓reduceIte, reduceCtorEq, goInt, exists_eq_left', eq_self, Int.reduceLT, Int.reduceLE, Int.reduceEq, Int.reduceNeg, Int.reduceAdd, Int.reduceSub, forall_const, ne_eq, undef, Nat.reducePow, Nat.reduceDiv, Nat.reduceMod, hin, hjn, hoo, hcx2, hcy2, t1, t2, wi, wj (by omega)]
        -- on from both sides
        refine loop_go (fun k e m' => ∃ (i j : Nat) (l : List ByteArray), k = j + 1 - i ∧ OwnK F m' id cap n l ∧ Pm a b ks l ∧ PInv (fun x => ltT x p) a b i j p l ∧ Fm (· ∈ F) m m' ∧ e = [(0, SV id n cap), (1, I a), (10, I i), (11, I j)]) (k - 1 + 1 - (i1 + 1)) ⟨i1 + 1, k - 1, _, rfl, o6, pm0.trans (sw_pm hx hy (by omega) (by omega) (by omega) (by omega)), v5.swap hlt hx hy hpx hpy, f2.trans f6, rfl⟩ ?_
        rintro kk e m3 N3 B3 hN3 hB3 ⟨i, j, l, rfl, o3, p3, v3, f3, rfl⟩
        have hjb := v3.jb
        have hai := v3.ai
        simp only [symA, symF, Nat.reduceOr, Nat.reduceAnd, Nat.reduceShiftLeft, Nat.zero_or, symB, wantedX, X.put, X.look, Arg.ev, keepOf, restrict, evs, evO, initEnv, xres, tup, noTup, cls, quiet, Nat.reduceAdd, Nat.reduceEqDiff, ↓reduceIte, reduceCtorEq, goInt, exists_eq_left', eq_self, Int.reduceLT, Int.reduceLE, Int.reduceEq, Int.reduceNeg, Int.reduceAdd, Int.reduceSub, forall_const, ne_eq, undef, Nat.reducePow, Nat.reduceDiv, Nat.reduceMod]
        refine loop_go (fun k e m' => m' = m3 ∧ ∃ (i' : Nat), i ≤ i' ∧ k = j + 1 - i' ∧ PInv (fun x => ltT x p) a b i' j p l ∧ e = [(0, SV id n cap), (1, I a), (10, I i'), (11, I j)]) (j + 1 - i) ⟨rfl, i, Nat.le_refl _, rfl, v3, rfl⟩ ?_
        rintro kk e m' N6 B6 hN6 hB6 ⟨rfl, i2, hi2, rfl, v6, rfl⟩
        have hij6 := v6.ij
        have hl6 := o3.len
        have wi2 : IntKind.i64.wrap ((i2 : Int) + 1) = ((i2 + 1 : Nat) : Int) := by rw [wrap_i64 (by omega) (by omega)]; omega
        have hX2 : (i2 ≤ j → ∃ x, l[i2]? = some x ∧ ¬ ltT x p) → B6 6 [(0, SV id n cap), (1, I a), (10, I i2), (11, I j), (112, .bool false)] m' := fun hE1 => by
          refine hB6 _ _ _ ?_
          simp only [symA, symF, Nat.reduceOr, Nat.reduceAnd, Nat.reduceShiftLeft, Nat.zero_or, symB, wantedX, X.put, X.look, Arg.ev, keepOf, restrict, evs, evO, initEnv, xres, tup, noTup, cls, quiet, Nat.reduceAdd, Nat.reduceEqDiff, ↓reduceIte, reduceCtorEq, goInt, exists_eq_left', eq_self, Int.reduceLT, Int.reduceLE, Int.reduceEq, Int.reduceNeg, Int.reduceAdd, Int.reduceSub, forall_const, ne_eq, undef, Nat.reducePow, Nat.reduceDiv, Nat.reduceMod]
          refine loop_go (fun k e m'' => m'' = m' ∧ ∃ (j' : Nat), j' ≤ j ∧ k = j' ∧ (i2 ≤ j' → ∃ x, l[i2]? = some x ∧ ¬ ltT x p) ∧ PInv (fun x => ltT x p) a b i2 j' p l ∧ ∃ r, e = (0, SV id n cap) :: (1, I a) :: (10, I i2) :: (11, I j') :: r) j ⟨rfl, j, Nat.le_refl _, rfl, hE1, v6, _, rfl⟩ ?_
          rintro kk e m'' N7 B7 hN7 hB7 ⟨rfl, j2, hj2, rfl, hE2, v7, rr, rfl⟩
          have hij7 := v7.ij
          have hai7 := v7.ai
          have hjb7 := v7.jb
          have wj2 : 1 ≤ kk → IntKind.i64.wrap ((kk : Int) - 1) = ((kk - 1 : Nat) : Int) := fun h1k => by rw [wrap_i64 (by omega) (by omega)]; omega
          have hY2 : (i2 ≤ kk → ∃ y, l[kk]? = some y ∧ ltT y p) → B7 8 [(0, SV id n cap), (1, I a), (10, I i2), (11, I kk), (129, .bool false)] m'' := fun hE3 => by
            refine hB7 _ _ _ ?_
            by_cases hgt : kk < i2
            · have hgt' : (kk : Int) < (i2 : Int) := by omega
              obtain ⟨y, oo, m8, m9, q1, q2, q3, q4, q5, q6, q7, q8⟩ := last m'' i2 kk l false o3 p3 v7 f3 hgt
              simp only [symA, symF, Nat.reduceOr, Nat.reduceAnd, Nat.reduceShiftLeft, Nat.zero_or, symB, wantedX, X.put, X.look, Arg.ev, keepOf, restrict, evs, evO, initEnv, xres, tup, noTup, cls, quiet, Nat.reduceAdd, Nat.reduceEqDiff, ↓reduceIte, reduceCtorEq, goInt, exists_eq_left', eq_self, Int.reduceLT, Int.reduceLE, Int.reduceEq, Int.reduceNeg, Int.reduceAdd, Int.reduceSub, forall_const, ne_eq, undef, Nat.reducePow, Nat.reduceDiv, Nat.reduceMod, hgt']
              refine hB3 _ _ _ ?_
              simp only [symA, symF, Nat.reduceOr, Nat.reduceAnd, Nat.reduceShiftLeft, Nat.zero_or, symB, wantedX, X.put, X.look, Arg.ev, keepOf, restrict, evs, evO, initEnv, xres, tup, noTup, cls, quiet, Nat.reduceAdd, Nat.reduceEqDiff, ↓reduceIte, reduceCtorEq, goInt, exists_eq_left', eq_self, Int.reduceLT, Int.reduceLE, Int.reduceEq, Int.reduceNeg, Int.reduceAdd, Int.reduceSub, forall_const, ne_eq, undef, Nat.reducePow, Nat.reduceDiv, Nat.reduceMod]
              refine goF_of ?_
              simp only [symA, symF, Nat.reduceOr, Nat.reduceAnd, Nat.reduceShiftLeft, Nat.zero_or, symB, wantedX, X.put, X.look, Arg.ev, keepOf, restrict, evs, evO, initEnv, xres, tup, noTup, cls, quiet, Nat.reduceAdd, Nat.reduceEqDiff, ↓reduceIte, reduceCtorEq, goInt, exists_eq_left', eq_self, Int.reduceLT, Int.reduceLE, Int.reduceEq, Int.reduceNeg, Int.reduceAdd, Int.reduceSub, forall_const, ne_eq, undef, Nat.reducePow, Nat.reduceDiv, Nat.reduceMod, ha', q5, q2, q3, q4, q6, q7]
              exact q8
            · have hgt' : ¬ (kk : Int) < (i2 : Int) := by omega
              obtain ⟨x, hx, hpx⟩ := hE2 (by omega)
              obtain ⟨y, hy, hpy⟩ := hE3 (by omega)
              have hlt : i2 < kk := by
                by_cases he : i2 = kk
                · subst he; rw [hx] at hy; cases hy; exact absurd hpy hpx
                · omega
              obtain ⟨m8, m9, t1, t2, o9, f9⟩ := o3.swap hx hy
              obtain ⟨oo, hoo, hcx2, hcy2, hin, hjn⟩ := o3.rd2 hx hy
              simp only [symA, symF, Nat.reduceOr, Nat.reduceAnd, Nat.reduceShiftLeft, Nat.zero_or, symB, wantedX, X.put, X.look, Arg.ev, keepOf, restrict, evs, evO, initEnv, xres, tup, noTup, cls, quiet, Nat.reduceAdd, Nat.reduceEqDiff, ↓reduceIte, reduceCtorEq, goInt, exists_eq_left', eq_self, Int.reduceLT, Int.reduceLE, Int.reduceEq, Int.reduceNeg, Int.reduceAdd, Int.reduceSub, forall_const, ne_eq, undef, Nat.reducePow, Nat.reduceDiv, Nat.reduceMod, hgt']
              refine goF_of ?_
              simp only [symA, symF, Nat.reduceOr, Nat.reduceAnd, Nat.reduceShiftLeft, Nat.zero_or, symB, wantedX, X.put, X.look, Arg.ev, keepOf, restrict, evs, evO, initEnv, xres, tup, noTup, cls, quiet, Nat.reduceAdd, Nat.reduceEqDiff, ↓reduceIte, reduceCtorEq, goInt, exists_eq_left', eq_self, Int.reduceLT, Int.reduceLE, Int.reduceEq, Int.reduceNeg, Int.reduceAdd, Int.reduceSub, forall_const, ne_eq, undef, Nat.reducePow, Nat.reduceDiv, Nat.reduceMod, hin, hjn, hoo, hcx2, hcy2, t1, t2, wi2, wj2 (by omega)]
              exact hN3 _ _ (kk - 1 + 1 - (i2 + 1)) (by omega) ⟨i2 + 1, kk - 1, _, rfl, o9, p3.trans (sw_pm hx hy (by omega) (by omega) (by omega) (by omega)), v7.swap hlt hx hy hpx hpy, f3.trans f9, rfl⟩
          simp only [symA, symF, Nat.reduceOr, Nat.reduceAnd, Nat.reduceShiftLeft, Nat.zero_or, symB, wantedX, X.put, X.look, Arg.ev, keepOf, restrict, evs, evO, initEnv, xres, tup, noTup, cls, quiet, Nat.reduceAdd, Nat.reduceEqDiff, ↓reduceIte, reduceCtorEq, goInt, exists_eq_left', eq_self, Int.reduceLT, Int.reduceLE, Int.reduceEq, Int.reduceNeg, Int.reduceAdd, Int.reduceSub, forall_const, ne_eq, undef, Nat.reducePow, Nat.reduceDiv, Nat.reduceMod]
          refine goF_of ?_
          by_cases hle : i2 ≤ kk
          · have hle' : (i2 : Int) ≤ (kk : Int) := by omega
            obtain ⟨y, hy⟩ : ∃ y, l[kk]? = some y := ⟨_, List.getElem?_eq_getElem (by omega)⟩
            obtain ⟨oo, hoo, hcp2, hcy2, han, hjn⟩ := o3.rd2 v7.at_ hy
            by_cases hpy : ltT y p
            · simp only [symA, symF, Nat.reduceOr, Nat.reduceAnd, Nat.reduceShiftLeft, Nat.zero_or, symB, wantedX, X.put, X.look, Arg.ev, keepOf, restrict, evs, evO, initEnv, xres, tup, noTup, cls, quiet, Nat.reduceAdd, Nat.reduceEqDiff, ↓reduceIte, reduceCtorEq, goInt, exists_eq_left', eq_self, Int.reduceLT, Int.reduceLE, Int.reduceEq, Int.reduceNeg, Int.reduceAdd, Int.reduceSub, forall_const, ne_eq, undef, Nat.reducePow, Nat.reduceDiv, Nat.reduceMod, hle', han, hjn, hoo, hcp2, hcy2, goFV3c (less_t hpy)]
              exact hY2 fun _ => ⟨y, hy, hpy⟩
            · simp only [symA, symF, Nat.reduceOr, Nat.reduceAnd, Nat.reduceShiftLeft, Nat.zero_or, symB, wantedX, X.put, X.look, Arg.ev, keepOf, restrict, evs, evO, initEnv, xres, tup, noTup, cls, quiet, Nat.reduceAdd, Nat.reduceEqDiff, ↓reduceIte, reduceCtorEq, goInt, exists_eq_left', eq_self, Int.reduceLT, Int.reduceLE, Int.reduceEq, Int.reduceNeg, Int.reduceAdd, Int.reduceSub, forall_const, ne_eq, undef, Nat.reducePow, Nat.reduceDiv, Nat.reduceMod, hle', han, hjn, hoo, hcp2, hcy2, goFV3c (less_f hpy), wj2 (by omega)]
              exact hN7 _ _ (kk - 1) (by omega) ⟨rfl, kk - 1, by omega, rfl, fun hq => hE2 (by omega), v7.decJ hle hy hpy, _, rfl⟩
          · have hle' : ¬ (i2 : Int) ≤ (kk : Int) := by omega
            simp only [symA, symF, Nat.reduceOr, Nat.reduceAnd, Nat.reduceShiftLeft, Nat.zero_or, symB, wantedX, X.put, X.look, Arg.ev, keepOf, restrict, evs, evO, initEnv, xres, tup, noTup, cls, quiet, Nat.reduceAdd, Nat.reduceEqDiff, ↓reduceIte, reduceCtorEq, goInt, exists_eq_left', eq_self, Int.reduceLT, Int.reduceLE, Int.reduceEq, Int.reduceNeg, Int.reduceAdd, Int.reduceSub, forall_const, ne_eq, undef, Nat.reducePow, Nat.reduceDiv, Nat.reduceMod, hle']
            exact hY2 fun hq => by omega
        simp only [symA, symF, Nat.reduceOr, Nat.reduceAnd, Nat.reduceShiftLeft, Nat.zero_or, symB, wantedX, X.put, X.look, Arg.ev, keepOf, restrict, evs, evO, initEnv, xres, tup, noTup, cls, quiet, Nat.reduceAdd, Nat.reduceEqDiff, ↓reduceIte, reduceCtorEq, goInt, exists_eq_left', eq_self, Int.reduceLT, Int.reduceLE, Int.reduceEq, Int.reduceNeg, Int.reduceAdd, Int.reduceSub, forall_const, ne_eq, undef, Nat.reducePow, Nat.reduceDiv, Nat.reduceMod]
        refine goF_of ?_
        by_cases hle : i2 ≤ j
        · have hle' : (i2 : Int) ≤ (j : Int) := by omega
          obtain ⟨x, hx⟩ : ∃ x, l[i2]? = some x := ⟨_, List.getElem?_eq_getElem (by omega)⟩
          obtain ⟨oo, hoo, hcp2, hcx2, han, hin⟩ := o3.rd2 v6.at_ hx
          by_cases hpx : ltT x p
          · simp only [symA, symF, Nat.reduceOr, Nat.reduceAnd, Nat.reduceShiftLeft, Nat.zero_or, symB, wantedX, X.put, X.look, Arg.ev, keepOf, restrict, evs, evO, initEnv, xres, tup, noTup, cls, quiet, Nat.reduceAdd, Nat.reduceEqDiff, ↓reduceIte, reduceCtorEq, goInt, exists_eq_left', eq_self, Int.reduceLT, Int.reduceLE, Int.reduceEq, Int.reduceNeg, Int.reduceAdd, Int.reduceSub, forall_const, ne_eq, undef, Nat.reducePow, Nat.reduceDiv, Nat.reduceMod, hle', han, hin, hoo, hcp2, hcx2, goFV3c (less_t hpx), wi2]
            exact hN6 _ _ (j + 1 - (i2 + 1)) (by omega) ⟨rfl, i2 + 1, by omega, rfl, v6.incI hle hx hpx, rfl⟩
          · simp only [symA, symF, Nat.reduceOr, Nat.reduceAnd, Nat.reduceShiftLeft, Nat.zero_or, symB, wantedX, X.put, X.look, Arg.ev, keepOf, restrict, evs, evO, initEnv, xres, tup, noTup, cls, quiet, Nat.reduceAdd, Nat.reduceEqDiff, ↓reduceIte, reduceCtorEq, goInt, exists_eq_left', eq_self, Int.reduceLT, Int.reduceLE, Int.reduceEq, Int.reduceNeg, Int.reduceAdd, Int.reduceSub, forall_const, ne_eq, undef, Nat.reducePow, Nat.reduceDiv, Nat.reduceMod, hle', han, hin, hoo, hcp2, hcx2, goFV3c (less_f hpx)]
            exact hX2 fun _ => ⟨x, hx, hpx⟩
        · have hle' : ¬ (i2 : Int) ≤ (j : Int) := by omega
          simp only [symA, symF, Nat.reduceOr, Nat.reduceAnd, Nat.reduceShiftLeft, Nat.zero_or, symB, wantedX, X.put, X.look, Arg.ev, keepOf, restrict, evs, evO, initEnv, xres, tup, noTup, cls, quiet, Nat.reduceAdd, Nat.reduceEqDiff, ↓reduceIte, reduceCtorEq, goInt, exists_eq_left', eq_self, Int.reduceLT, Int.reduceLE, Int.reduceEq, Int.reduceNeg, Int.reduceAdd, Int.reduceSub, forall_const, ne_eq, undef, Nat.reducePow, Nat.reduceDiv, Nat.reduceMod, hle']
          exact hX2 fun hq => by omega
    simp only [symA, symF, Nat.reduceOr, Nat.reduceAnd, Nat.reduceShiftLeft, Nat.zero_or, symB, wantedX, X.put, X.look, Arg.ev, keepOf, restrict, evs, evO, initEnv, xres, tup, noTup, cls, quiet, Nat.reduceAdd, Nat.reduceEqDiff, ↓reduceIte, reduceCtorEq, goInt, exists_eq_left', eq_self, Int.reduceLT, Int.reduceLE, Int.reduceEq, Int.reduceNeg, Int.reduceAdd, Int.reduceSub, forall_const, ne_eq, undef, Nat.reducePow, Nat.reduceDiv, Nat.reduceMod]
    refine goF_of ?_
    by_cases hle : i1 ≤ k
    · have hle' : (i1 : Int) ≤ (k : Int) := by omega
      obtain ⟨y, hy⟩ : ∃ y, l[k]? = some y := ⟨_, List.getElem?_eq_getElem (by omega)⟩
      obtain ⟨oo, hoo, hcp2, hcy2, han, hjn⟩ := o2.rd2 v5.at_ hy
      by_cases hpy : ltT y p
      · simp only [symA, symF, Nat.reduceOr, Nat.reduceAnd, Nat.reduceShiftLeft, Nat.zero_or, symB, wantedX, X.put, X.look, Arg.ev, keepOf, restrict, evs, evO, initEnv, xres, tup, noTup, cls, quiet, Nat.reduceAdd, Nat.reduceEqDiff, ↓reduceIte, reduceCtorEq, goInt, exists_eq_left', eq_self, Int.reduceLT, Int.reduceLE, Int.reduceEq, Int.reduceNeg, Int.reduceAdd, Int.reduceSub, forall_const, ne_eq, undef, Nat.reducePow, Nat.reduceDiv, Nat.reduceMod, hle', han, hjn, hoo, hcp2, hcy2, goFV3c (less_t hpy)]
        exact hY fun _ => ⟨y, hy, hpy⟩
      · simp only [symA, symF, Nat.reduceOr, Nat.reduceAnd, Nat.reduceShiftLeft, Nat.zero_or, symB, wantedX, X.put, X.look, Arg.ev, keepOf, restrict, evs, evO, initEnv, xres, tup, noTup, cls, quiet, Nat.reduceAdd, Nat.reduceEqDiff, ↓reduceIte, reduceCtorEq, goInt, exists_eq_left', eq_self, Int.reduceLT, Int.reduceLE, Int.reduceEq, Int.reduceNeg, Int.reduceAdd, Int.reduceSub, forall_const, ne_eq, undef, Nat.reducePow, Nat.reduceDiv, Nat.reduceMod, hle', han, hjn, hoo, hcp2, hcy2, goFV3c (less_f hpy), wj (by omega)]
        exact hN5 _ _ (k - 1) (by omega) ⟨rfl, k - 1, rfl, fun hq => hE2 (by omega), v5.decJ hle hy hpy, _, rfl⟩
    · have hle' : ¬ (i1 : Int) ≤ (k : Int) := by omega
      simp only [symA, symF, Nat.reduceOr, Nat.reduceAnd, Nat.reduceShiftLeft, Nat.zero_or, symB, wantedX, X.put, X.look, Arg.ev, keepOf, restrict, evs, evO, initEnv, xres, tup, noTup, cls, quiet, Nat.reduceAdd, Nat.reduceEqDiff, ↓reduceIte, reduceCtorEq, goInt, exists_eq_left', eq_self, Int.reduceLT, Int.reduceLE, Int.reduceEq, Int.reduceNeg, Int.reduceAdd, Int.reduceSub, forall_const, ne_eq, undef, Nat.reducePow, Nat.reduceDiv, Nat.reduceMod, hle']
      exact hY fun hq => by omega
  simp only [symA, symF, Nat.reduceOr, Nat.reduceAnd, Nat.reduceShiftLeft, Nat.zero_or, symB, wantedX, X.put, X.look, Arg.ev, keepOf, restrict, evs, evO, initEnv, xres, tup, noTup, cls, quiet, Nat.reduceAdd, Nat.reduceEqDiff, ↓reduceIte, reduceCtorEq, goInt, exists_eq_left', eq_self, Int.reduceLT, Int.reduceLE, Int.reduceEq, Int.reduceNeg, Int.reduceAdd, Int.reduceSub, forall_const, ne_eq, undef, Nat.reducePow, Nat.reduceDiv, Nat.reduceMod]
  refine goF_of ?_
  by_cases hle : i1 ≤ b - 1
  · have hle' : (i1 : Int) ≤ ((b - 1 : Nat) : Int) := by omega
    obtain ⟨x, hx⟩ : ∃ x, l[i1]? = some x := ⟨_, List.getElem?_eq_getElem (by omega)⟩
    obtain ⟨oo, hoo, hcp2, hcx2, han, hin⟩ := o2.rd2 v4.at_ hx
    by_cases hpx : ltT x p
    · simp only [symA, symF, Nat.reduceOr, Nat.reduceAnd, Nat.reduceShiftLeft, Nat.zero_or, symB, wantedX, X.put, X.look, Arg.ev, keepOf, restrict, evs, evO, initEnv, xres, tup, noTup, cls, quiet, Nat.reduceAdd, Nat.reduceEqDiff, ↓reduceIte, reduceCtorEq, goInt, exists_eq_left', eq_self, Int.reduceLT, Int.reduceLE, Int.reduceEq, Int.reduceNeg, Int.reduceAdd, Int.reduceSub, forall_const, ne_eq, undef, Nat.reducePow, Nat.reduceDiv, Nat.reduceMod, hle', han, hin, hoo, hcp2, hcx2, goFV3c (less_t hpx), wi]
      exact hN4 _ _ (b - (i1 + 1)) (by omega) ⟨rfl, i1 + 1, by omega, rfl, v4.incI hle hx hpx, rfl⟩
    · simp only [symA, symF, Nat.reduceOr, Nat.reduceAnd, Nat.reduceShiftLeft, Nat.zero_or, symB, wantedX, X.put, X.look, Arg.ev, keepOf, restrict, evs, evO, initEnv, xres, tup, noTup, cls, quiet, Nat.reduceAdd, Nat.reduceEqDiff, ↓reduceIte, reduceCtorEq, goInt, exists_eq_left', eq_self, Int.reduceLT, Int.reduceLE, Int.reduceEq, Int.reduceNeg, Int.reduceAdd, Int.reduceSub, forall_const, ne_eq, undef, Nat.reducePow, Nat.reduceDiv, Nat.reduceMod, hle', han, hin, hoo, hcp2, hcx2, goFV3c (less_f hpx)]
      exact hX fun _ => ⟨x, hx, hpx⟩
  · have hle' : ¬ (i1 : Int) ≤ ((b - 1 : Nat) : Int) := by omega
    simp only [symA, symF, Nat.reduceOr, Nat.reduceAnd, Nat.reduceShiftLeft, Nat.zero_or, symB, wantedX, X.put, X.look, Arg.ev, keepOf, restrict, evs, evO, initEnv, xres, tup, noTup, cls, quiet, Nat.reduceAdd, Nat.reduceEqDiff, ↓reduceIte, reduceCtorEq, goInt, exists_eq_left', eq_self, Int.reduceLT, Int.reduceLE, Int.reduceEq, Int.reduceNeg, Int.reduceAdd, Int.reduceSub, forall_const, ne_eq, undef, Nat.reducePow, Nat.reduceDiv, Nat.reduceMod, hle']
    exact hX fun hq => by omega
end
end Go.Proofs.Ytlldfkapaeidoaa
