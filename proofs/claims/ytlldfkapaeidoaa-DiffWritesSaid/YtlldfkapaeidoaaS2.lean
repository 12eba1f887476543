/-
  Own work. What the sort's small functions do: a range turned round, a pivot chosen.
-/
import Derived.Test.YtlldfkapaeidoaaS1
import Derived.Test.YtlldfkapaeidoaaXAll
namespace Go.Proofs.Ytlldfkapaeidoaa
open Go X
set_option maxRecDepth 100000
set_option maxHeartbeats 2000000
set_option linter.unusedVariables false
set_option linter.unusedSimpArgs false

abbrev Pq (q : Nat) : Value := .pointer (some ⟨q, 0, none⟩)
section
variable {F : List Nat} {m m' : Mem} {id cap n : Nat} {ks : List ByteArray}
theorem reverse_spec {a b : Nat} (h : OwnK F m id cap n ks) (hab : a < b) (hb : b ≤ n) (hn : n ≤ 255) : Wc 59 [SV id n cap, I a, I b] m fun v m' => v = tup [] ∧ ∃ ks', OwnK F m' id cap n ks' ∧ Pm a b ks ks' ∧ Fm (· ∈ F) m m' := by
  refine call_go (F := _) rfl rfl fun Q hQ => ?_
  have w0 : IntKind.i64.wrap ((b : Int) - 1) = ((b - 1 : Nat) : Int) := by rw [wrap_i64 (by omega) (by omega)]; omega
  simp only [symA, go_opsd, symB, wantedX, X.put, X.look, Arg.ev, keepOf, restrict, evs, evO, initEnv, xres, tup, noTup, cls, quiet, Nat.reduceAdd, Nat.reduceEqDiff, ↓reduceIte, reduceCtorEq, goInt, exists_eq_left', eq_self, Int.reduceLT, Int.reduceLE, Int.reduceEq, Int.reduceNeg, Int.reduceAdd, Int.reduceSub, forall_const, ne_eq, undef, Nat.reducePow, Nat.reduceDiv, Nat.reduceMod, w0]
  refine loop_go (fun k e m' => ∃ (i j : Nat) (ks' : List ByteArray), a ≤ i ∧ j < b ∧ k = j - i ∧ OwnK F m' id cap n ks' ∧ Pm a b ks ks' ∧ Fm (· ∈ F) m m' ∧ e = [(0, SV id n cap), (6, I i), (7, I j)]) (b - 1 - a) ⟨a, b - 1, ks, by omega, by omega, rfl, h, .refl, .refl, rfl⟩ ?_
  rintro k e m1 N1 B1 hN1 hB1 ⟨i, j, k1, hai, hjb, rfl, o1, p1, f1, rfl⟩
  by_cases hlt : i < j
  · have hlt' : (i : Int) < (j : Int) := by omega
    have w1 : IntKind.i64.wrap ((i : Int) + 1) = ((i + 1 : Nat) : Int) := by rw [wrap_i64 (by omega) (by omega)]; omega
    have w2 : IntKind.i64.wrap ((j : Int) - 1) = ((j - 1 : Nat) : Int) := by rw [wrap_i64 (by omega) (by omega)]; omega
    have hl := o1.len
    obtain ⟨x, hx⟩ : ∃ x, k1[i]? = some x := ⟨_, List.getElem?_eq_getElem (by omega)⟩
    obtain ⟨y, hy⟩ : ∃ y, k1[j]? = some y := ⟨_, List.getElem?_eq_getElem (by omega)⟩
    obtain ⟨o, hg, hc⟩ := o1.obj
    have hcx := hc _ _ hx
    have hcy := hc _ _ hy
    have hi1 : i < n := by omega
    have hj1 : j < n := by omega
    obtain ⟨m3, m4, t1, t2, o4, f4⟩ := o1.swap hx hy
    simp only [symA, symF, Nat.reduceOr, Nat.reduceAnd, Nat.reduceShiftLeft, Nat.zero_or, symB, wantedX, X.put, X.look, Arg.ev, keepOf, restrict, evs, evO, initEnv, xres, tup, noTup, cls, quiet, Nat.reduceAdd, Nat.reduceEqDiff, ↓reduceIte, reduceCtorEq, goInt, exists_eq_left', eq_self, Int.reduceLT, Int.reduceLE, Int.reduceEq, Int.reduceNeg, Int.reduceAdd, Int.reduceSub, forall_const, ne_eq, undef, Nat.reducePow, Nat.reduceDiv, Nat.reduceMod, hlt']
    refine goF_of ?_
    simp only [symA, symF, Nat.reduceOr, Nat.reduceAnd, Nat.reduceShiftLeft, Nat.zero_or, symB, wantedX, X.put, X.look, Arg.ev, keepOf, restrict, evs, evO, initEnv, xres, tup, noTup, cls, quiet, Nat.reduceAdd, Nat.reduceEqDiff, ↓reduceIte, reduceCtorEq, goInt, exists_eq_left', eq_self, Int.reduceLT, Int.reduceLE, Int.reduceEq, Int.reduceNeg, Int.reduceAdd, Int.reduceSub, forall_const, ne_eq, undef, Nat.reducePow, Nat.reduceDiv, Nat.reduceMod, hi1, hj1, hg, hcx, hcy, t1, t2, w1, w2]
    exact hN1 _ _ (j - 1 - (i + 1)) (by omega) ⟨i + 1, j - 1, _, by omega, by omega, rfl, o4, p1.trans (sw_pm hx hy (by omega) (by omega) (by omega) (by omega)), f1.trans f4, rfl⟩
  · have hlt' : ¬ (i : Int) < (j : Int) := by omega
    simp only [symA, go_opsd, symB, wantedX, X.put, X.look, Arg.ev, keepOf, restrict, evs, evO, initEnv, xres, tup, noTup, cls, quiet, Nat.reduceAdd, Nat.reduceEqDiff, ↓reduceIte, reduceCtorEq, goInt, exists_eq_left', eq_self, Int.reduceLT, Int.reduceLE, Int.reduceEq, Int.reduceNeg, Int.reduceAdd, Int.reduceSub, forall_const, ne_eq, undef, Nat.reducePow, Nat.reduceDiv, Nat.reduceMod, hlt']
    refine hB1 _ _ _ ?_
    simp only [symA, go_opsd, symB, wantedX, X.put, X.look, Arg.ev, keepOf, restrict, evs, evO, initEnv, xres, tup, noTup, cls, quiet, Nat.reduceAdd, Nat.reduceEqDiff, ↓reduceIte, reduceCtorEq, goInt, exists_eq_left', eq_self, Int.reduceLT, Int.reduceLE, Int.reduceEq, Int.reduceNeg, Int.reduceAdd, Int.reduceSub, forall_const, ne_eq, undef, Nat.reducePow, Nat.reduceDiv, Nat.reduceMod]
    exact hQ _ _ _ rfl ⟨rfl, k1, o1, p1, f1⟩

abbrev cntO (c : Nat) : XObj := { cells := [I (c : Int)], rw := true, spare := none, kin := [] }
theorem cnt_up {q c : Nat} (hg : m.get q = some (cntO c)) : ∃ m', storeE m 1 (Pq q) (I ((c + 1 : Nat) : Int)) = some (.skip m') ∧ m'.get q = some (cntO (c + 1)) ∧ Fm (· = q) m m' := by
  refine ⟨_, store1 hg rfl rfl (by simp) rfl rfl, ?_, Fm.set rfl⟩
  rw [put1, Mem.get_set, if_pos rfl]
  rfl
theorem order2_spec {i j q c : Nat} (h : OwnK F m id cap n ks) (hi : i < n) (hj : j < n) (hg : m.get q = some (cntO c)) (hc : c ≤ 1000) :
    Wc 75 [SV id n cap, I i, I j, Pq q] m fun r m' => ∃ i' j' c', r = .tuple #[I (i' : Nat), I (j' : Nat)] ∧ ((i' = i ∧ j' = j) ∨ (i' = j ∧ j' = i)) ∧ m'.get q = some (cntO c') ∧ c' ≤ c + 1 ∧ Fm (· = q) m m' := by
  refine call_go (F := _) rfl rfl fun Q hQ => ?_
  have hl := h.len
  obtain ⟨x, hx⟩ : ∃ x, ks[i]? = some x := ⟨_, List.getElem?_eq_getElem (by omega)⟩
  obtain ⟨y, hy⟩ : ∃ y, ks[j]? = some y := ⟨_, List.getElem?_eq_getElem (by omega)⟩
  obtain ⟨o, ho, hcell⟩ := h.obj
  have hcx := hcell _ _ hx
  have hcy := hcell _ _ hy
  simp only [symA, symF, Nat.reduceOr, Nat.reduceAnd, Nat.reduceShiftLeft, Nat.zero_or, symB, wantedX, X.put, X.look, Arg.ev, keepOf, restrict, evs, evO, initEnv, xres, tup, noTup, cls, quiet, Nat.reduceAdd, Nat.reduceEqDiff, ↓reduceIte, reduceCtorEq, goInt, exists_eq_left', eq_self, Int.reduceLT, Int.reduceLE, Int.reduceEq, Int.reduceNeg, Int.reduceAdd, Int.reduceSub, forall_const, ne_eq, undef, Nat.reducePow, Nat.reduceDiv, Nat.reduceMod]
  refine goF_of ?_
  by_cases hlt : ltT y x
  · obtain ⟨m1, s1, g1, f1⟩ := cnt_up hg
    have w1 : IntKind.i64.wrap ((c : Int) + 1) = ((c + 1 : Nat) : Int) := by rw [wrap_i64 (by omega) (by omega)]; omega
    simp only [symA, symF, Nat.reduceOr, Nat.reduceAnd, Nat.reduceShiftLeft, Nat.zero_or, symB, wantedX, X.put, X.look, Arg.ev, keepOf, restrict, evs, evO, initEnv, xres, tup, noTup, cls, quiet, Nat.reduceAdd, Nat.reduceEqDiff, ↓reduceIte, reduceCtorEq, goInt, exists_eq_left', eq_self, Int.reduceLT, Int.reduceLE, Int.reduceEq, Int.reduceNeg, Int.reduceAdd, Int.reduceSub, forall_const, ne_eq, undef, Nat.reducePow, Nat.reduceDiv, Nat.reduceMod, hi, hj, ho, hcx, hcy, goFV3c (less_t hlt), hg, w1, s1]
    exact hQ _ _ _ rfl ⟨j, i, c + 1, rfl, .inr ⟨rfl, rfl⟩, g1, by omega, f1⟩
  · simp only [symA, symF, Nat.reduceOr, Nat.reduceAnd, Nat.reduceShiftLeft, Nat.zero_or, symB, wantedX, X.put, X.look, Arg.ev, keepOf, restrict, evs, evO, initEnv, xres, tup, noTup, cls, quiet, Nat.reduceAdd, Nat.reduceEqDiff, ↓reduceIte, reduceCtorEq, goInt, exists_eq_left', eq_self, Int.reduceLT, Int.reduceLE, Int.reduceEq, Int.reduceNeg, Int.reduceAdd, Int.reduceSub, forall_const, ne_eq, undef, Nat.reducePow, Nat.reduceDiv, Nat.reduceMod, hi, hj, ho, hcx, hcy, goFV3c (less_f hlt)]
    exact hQ _ _ _ rfl ⟨i, j, c, rfl, .inl ⟨rfl, rfl⟩, hg, by omega, .refl⟩
theorem OwnK.cnt {q : Nat} (h : OwnK F m id cap n ks) (hf : Fm (· = q) m m') (hq : q ∉ F) : OwnK F m' id cap n ks := h.fr hf (fun i hi (e : i = q) => hq (e ▸ hi))
theorem median_spec {i j k q c : Nat} (h : OwnK F m id cap n ks) (hi : i < n) (hj : j < n) (hk : k < n) (hg : m.get q = some (cntO c)) (hc : c ≤ 900) (hq : q ∉ F) :
    Wc 72 [SV id n cap, I i, I j, I k, Pq q] m fun r m' => ∃ p c', r = I (p : Nat) ∧ (p = i ∨ p = j ∨ p = k) ∧ m'.get q = some (cntO c') ∧ c' ≤ c + 3 ∧ Fm (· = q) m m' := by
  refine call_go (F := _) rfl rfl fun Q hQ => ?_
  simp only [symA, go_opsd, symB, wantedX, X.put, X.look, Arg.ev, keepOf, restrict, evs, evO, initEnv, xres, tup, noTup, cls, quiet, Nat.reduceAdd, Nat.reduceEqDiff, ↓reduceIte, reduceCtorEq, goInt, exists_eq_left', eq_self, Int.reduceLT, Int.reduceLE, Int.reduceEq, Int.reduceNeg, Int.reduceAdd, Int.reduceSub, forall_const, ne_eq, undef, Nat.reducePow, Nat.reduceDiv, Nat.reduceMod]
  refine goR_wp (order2_spec h hi hj hg (by omega)) ?_
  rintro _ m1 ⟨i1, j1, c1, rfl, e1, g1, hc1, f1⟩
  simp only [symA, go_opsd, symB, wantedX, X.put, X.look, Arg.ev, keepOf, restrict, evs, evO, initEnv, xres, tup, noTup, cls, quiet, Nat.reduceAdd, Nat.reduceEqDiff, ↓reduceIte, reduceCtorEq, goInt, exists_eq_left', eq_self, Int.reduceLT, Int.reduceLE, Int.reduceEq, Int.reduceNeg, Int.reduceAdd, Int.reduceSub, forall_const, ne_eq, undef, Nat.reducePow, Nat.reduceDiv, Nat.reduceMod]
  refine goR_wp (order2_spec (i := j1) (j := k) (h.cnt f1 hq) (by omega) hk g1 (by omega)) ?_
  rintro _ m2 ⟨j2, k2, c2, rfl, e2, g2, hc2, f2⟩
  simp only [symA, go_opsd, symB, wantedX, X.put, X.look, Arg.ev, keepOf, restrict, evs, evO, initEnv, xres, tup, noTup, cls, quiet, Nat.reduceAdd, Nat.reduceEqDiff, ↓reduceIte, reduceCtorEq, goInt, exists_eq_left', eq_self, Int.reduceLT, Int.reduceLE, Int.reduceEq, Int.reduceNeg, Int.reduceAdd, Int.reduceSub, forall_const, ne_eq, undef, Nat.reducePow, Nat.reduceDiv, Nat.reduceMod]
  refine goR_wp (order2_spec (i := i1) (j := j2) ((h.cnt f1 hq).cnt f2 hq) (by omega) (by omega) g2 (by omega)) ?_
  rintro _ m3 ⟨i3, j3, c3, rfl, e3, g3, hc3, f3⟩
  simp only [symA, go_opsd, symB, wantedX, X.put, X.look, Arg.ev, keepOf, restrict, evs, evO, initEnv, xres, tup, noTup, cls, quiet, Nat.reduceAdd, Nat.reduceEqDiff, ↓reduceIte, reduceCtorEq, goInt, exists_eq_left', eq_self, Int.reduceLT, Int.reduceLE, Int.reduceEq, Int.reduceNeg, Int.reduceAdd, Int.reduceSub, forall_const, ne_eq, undef, Nat.reducePow, Nat.reduceDiv, Nat.reduceMod]
  exact hQ _ _ _ rfl ⟨j3, c3, rfl, by omega, g3, by omega, (f1.trans f2).trans f3⟩
theorem adjacent_spec {i q c : Nat} (h : OwnK F m id cap n ks) (hn : n ≤ 255) (hi0 : 0 < i) (hi : i + 1 < n) (hg : m.get q = some (cntO c)) (hc : c ≤ 900) (hq : q ∉ F) :
    Wc 71 [SV id n cap, I i, Pq q] m fun r m' => ∃ p c', r = I (p : Nat) ∧ i - 1 ≤ p ∧ p ≤ i + 1 ∧ m'.get q = some (cntO c') ∧ c' ≤ c + 3 ∧ Fm (· = q) m m' := by
  refine call_go (F := _) rfl rfl fun Q hQ => ?_
  have w1 : IntKind.i64.wrap ((i : Int) + 1) = ((i + 1 : Nat) : Int) := by rw [wrap_i64 (by omega) (by omega)]; omega
  have w2 : IntKind.i64.wrap ((i : Int) - 1) = ((i - 1 : Nat) : Int) := by rw [wrap_i64 (by omega) (by omega)]; omega
  simp only [symA, go_opsd, symB, wantedX, X.put, X.look, Arg.ev, keepOf, restrict, evs, evO, initEnv, xres, tup, noTup, cls, quiet, Nat.reduceAdd, Nat.reduceEqDiff, ↓reduceIte, reduceCtorEq, goInt, exists_eq_left', eq_self, Int.reduceLT, Int.reduceLE, Int.reduceEq, Int.reduceNeg, Int.reduceAdd, Int.reduceSub, forall_const, ne_eq, undef, Nat.reducePow, Nat.reduceDiv, Nat.reduceMod, w1, w2]
  refine goR_wp (median_spec (i := i - 1) (j := i) (k := i + 1) h (by omega) (by omega) (by omega) hg hc hq) ?_
  rintro _ m1 ⟨p, c1, rfl, e1, g1, hc1, f1⟩
  simp only [symA, go_opsd, symB, wantedX, X.put, X.look, Arg.ev, keepOf, restrict, evs, evO, initEnv, xres, tup, noTup, cls, quiet, Nat.reduceAdd, Nat.reduceEqDiff, ↓reduceIte, reduceCtorEq, goInt, exists_eq_left', eq_self, Int.reduceLT, Int.reduceLE, Int.reduceEq, Int.reduceNeg, Int.reduceAdd, Int.reduceSub, forall_const, ne_eq, undef, Nat.reducePow, Nat.reduceDiv, Nat.reduceMod]
  exact hQ _ _ _ rfl ⟨p, c1, rfl, by omega, by omega, g1, hc1, f1⟩
theorem pivot_spec {a b : Nat} (h : OwnK F m id cap n ks) (hab : a + 12 < b) (hb : b ≤ n) (hn : n ≤ 255) :
    Wc 58 [SV id n cap, I a, I b] m fun r m' => ∃ p t, r = .tuple #[I (p : Nat), I (t : Int)] ∧ a ≤ p ∧ p < b ∧ Fm (fun _ => False) m m' := by
  obtain ⟨l, hl⟩ : ∃ l, b = a + l := ⟨b - a, by omega⟩
  refine call_go (F := _) rfl rfl fun Q hQ => ?_
  have w0 : IntKind.i64.wrap ((b : Int) - (a : Int)) = (l : Int) := by rw [wrap_i64 (by omega) (by omega)]; omega
  have q4 : ∀ m : Mem, binE Try.prog .quo 3 (I (l : Int)) (I 4) m = some (.val (I ((l / 4 : Nat) : Int)) m) := fun m => by
    rw [bin_quo (by decide), Int.tdiv_eq_ediv_of_nonneg (by omega), wrap_i64 (by omega) (by omega)]
    rfl
  have m1' : IntKind.i64.wrap (((l / 4 : Nat) : Int) * 1) = ((l / 4 : Nat) : Int) := by rw [wrap_i64 (by omega) (by omega)]; omega
  have m2' : IntKind.i64.wrap (((l / 4 : Nat) : Int) * 2) = ((l / 4 * 2 : Nat) : Int) := by rw [wrap_i64 (by omega) (by omega)]; omega
  have m3' : IntKind.i64.wrap (((l / 4 : Nat) : Int) * 3) = ((l / 4 * 3 : Nat) : Int) := by rw [wrap_i64 (by omega) (by omega)]; omega
  have a1 : IntKind.i64.wrap ((a : Int) + ((l / 4 : Nat) : Int)) = ((a + l / 4 : Nat) : Int) := by rw [wrap_i64 (by omega) (by omega)]; omega
  have a2 : IntKind.i64.wrap ((a : Int) + ((l / 4 * 2 : Nat) : Int)) = ((a + l / 4 * 2 : Nat) : Int) := by rw [wrap_i64 (by omega) (by omega)]; omega
  have a3 : IntKind.i64.wrap ((a : Int) + ((l / 4 * 3 : Nat) : Int)) = ((a + l / 4 * 3 : Nat) : Int) := by rw [wrap_i64 (by omega) (by omega)]; omega
  have h8 : (8 : Int) ≤ (l : Int) := by omega
  obtain ⟨m1, hm1⟩ : ∃ m1, m.push { cells := [I 0], rw := true, spare := none, kin := [] } = m1 := ⟨_, rfl⟩
  have f1 : Fm (fun _ => False) m m1 := hm1 ▸ .push
  have g1 : m1.get m.next = some (cntO 0) := by rw [← hm1, push_self]; rfl
  have hlt := h.own.lt
  have hq : m.next ∉ F := fun hq => by have := hlt _ hq; omega
  have o1 := h.fr f1 (fun _ _ h => h)
  -- what the median answers
  have fin : ∀ (m2 : Mem) (c p1 p2 p3 : Nat), Fm (· = m.next) m1 m2 → m2.get m.next = some (cntO c) → c ≤ 9 → a ≤ p1 → p1 < b → a ≤ p2 → p2 < b → a ≤ p3 → p3 < b →
      Wc 72 [SV id n cap, I p1, I p2, I p3, Pq m.next] m2 fun r m3 => ∃ p c', r = I (p : Nat) ∧ a ≤ p ∧ p < b ∧ m3.get m.next = some (cntO c') ∧ Fm (· = m.next) m1 m3 := fun m2 c p1 p2 p3 f2 g2 hc x1 x2 x3 x4 x5 x6 => by
    refine wpCall_mono ?_ (median_spec (o1.cnt f2 hq) (by omega) (by omega) (by omega) g2 (by omega) hq)
    rintro _ m3 ⟨p, c', rfl, hp, g3, hc3, f3⟩
    exact ⟨p, c', rfl, by omega, by omega, g3, f2.trans f3⟩
  have tail : ∀ (m3 : Mem) (p : Nat), a ≤ p → p < b → Fm (· = m.next) m1 m3 → ∀ (t : Int), Q [(6, I (p : Nat)), (7, I t)] m3 := fun m3 p h1 h2 h4 t =>
    hQ _ _ _ rfl ⟨p, t, rfl, h1, h2, f1.comp h4 (fun z hz hh => by omega)⟩
  simp only [symA, go_opsd, symB, wantedX, X.put, X.look, Arg.ev, keepOf, restrict, evs, evO, initEnv, xres, tup, noTup, cls, quiet, Nat.reduceAdd, Nat.reduceEqDiff, ↓reduceIte, reduceCtorEq, goInt, exists_eq_left', eq_self, Int.reduceLT, Int.reduceLE, Int.reduceEq, Int.reduceNeg, Int.reduceAdd, Int.reduceSub, forall_const, ne_eq, undef, Nat.reducePow, Nat.reduceDiv, Nat.reduceMod, w0, hm1, q4, m1', m2', m3', a1, a2, a3, h8]
  by_cases h50 : (50 : Int) ≤ (l : Int)
  · simp only [symA, go_opsd, symB, wantedX, X.put, X.look, Arg.ev, keepOf, restrict, evs, evO, initEnv, xres, tup, noTup, cls, quiet, Nat.reduceAdd, Nat.reduceEqDiff, ↓reduceIte, reduceCtorEq, goInt, exists_eq_left', eq_self, Int.reduceLT, Int.reduceLE, Int.reduceEq, Int.reduceNeg, Int.reduceAdd, Int.reduceSub, forall_const, ne_eq, undef, Nat.reducePow, Nat.reduceDiv, Nat.reduceMod, h50]
    refine goR_wp (adjacent_spec (i := a + l / 4) (c := 0) o1 hn (by omega) (by omega) g1 (by omega) hq) ?_
    rintro _ m2 ⟨p1, c1, rfl, x1, x2, g2, hc2, f2⟩
    simp only [symA, go_opsd, symB, wantedX, X.put, X.look, Arg.ev, keepOf, restrict, evs, evO, initEnv, xres, tup, noTup, cls, quiet, Nat.reduceAdd, Nat.reduceEqDiff, ↓reduceIte, reduceCtorEq, goInt, exists_eq_left', eq_self, Int.reduceLT, Int.reduceLE, Int.reduceEq, Int.reduceNeg, Int.reduceAdd, Int.reduceSub, forall_const, ne_eq, undef, Nat.reducePow, Nat.reduceDiv, Nat.reduceMod]
    refine goR_wp (adjacent_spec (i := a + l / 4 * 2) (c := c1) (o1.cnt f2 hq) hn (by omega) (by omega) g2 (by omega) hq) ?_
    rintro _ m3 ⟨p2, c2, rfl, x3, x4, g3, hc3, f3⟩
    simp only [symA, go_opsd, symB, wantedX, X.put, X.look, Arg.ev, keepOf, restrict, evs, evO, initEnv, xres, tup, noTup, cls, quiet, Nat.reduceAdd, Nat.reduceEqDiff, ↓reduceIte, reduceCtorEq, goInt, exists_eq_left', eq_self, Int.reduceLT, Int.reduceLE, Int.reduceEq, Int.reduceNeg, Int.reduceAdd, Int.reduceSub, forall_const, ne_eq, undef, Nat.reducePow, Nat.reduceDiv, Nat.reduceMod]
    refine goR_wp (adjacent_spec (i := a + l / 4 * 3) (c := c2) ((o1.cnt f2 hq).cnt f3 hq) hn (by omega) (by omega) g3 (by omega) hq) ?_
    rintro _ m4 ⟨p3, c3, rfl, x5, x6, g4, hc4, f4⟩
    simp only [symA, go_opsd, symB, wantedX, X.put, X.look, Arg.ev, keepOf, restrict, evs, evO, initEnv, xres, tup, noTup, cls, quiet, Nat.reduceAdd, Nat.reduceEqDiff, ↓reduceIte, reduceCtorEq, goInt, exists_eq_left', eq_self, Int.reduceLT, Int.reduceLE, Int.reduceEq, Int.reduceNeg, Int.reduceAdd, Int.reduceSub, forall_const, ne_eq, undef, Nat.reducePow, Nat.reduceDiv, Nat.reduceMod]
    refine goR_wp (fin m4 c3 p1 p2 p3 ((f2.trans f3).trans f4) g4 (by omega) (by omega) (by omega) (by omega) (by omega) (by omega) (by omega)) ?_
    rintro _ m5 ⟨p, c', rfl, y1, y2, g5, f5⟩
    by_cases e0 : (c' : Int) = 0
    · simp only [symA, go_opsd, symB, wantedX, X.put, X.look, Arg.ev, keepOf, restrict, evs, evO, initEnv, xres, tup, noTup, cls, quiet, Nat.reduceAdd, Nat.reduceEqDiff, ↓reduceIte, reduceCtorEq, goInt, exists_eq_left', eq_self, Int.reduceLT, Int.reduceLE, Int.reduceEq, Int.reduceNeg, Int.reduceAdd, Int.reduceSub, forall_const, ne_eq, undef, Nat.reducePow, Nat.reduceDiv, Nat.reduceMod, g5, e0]
      exact tail _ _ y1 y2 f5 _
    · by_cases e12 : (c' : Int) = 12
      · simp only [symA, go_opsd, symB, wantedX, X.put, X.look, Arg.ev, keepOf, restrict, evs, evO, initEnv, xres, tup, noTup, cls, quiet, Nat.reduceAdd, Nat.reduceEqDiff, ↓reduceIte, reduceCtorEq, goInt, exists_eq_left', eq_self, Int.reduceLT, Int.reduceLE, Int.reduceEq, Int.reduceNeg, Int.reduceAdd, Int.reduceSub, forall_const, ne_eq, undef, Nat.reducePow, Nat.reduceDiv, Nat.reduceMod, g5, e12]
        exact tail _ _ y1 y2 f5 _
      · simp only [symA, go_opsd, symB, wantedX, X.put, X.look, Arg.ev, keepOf, restrict, evs, evO, initEnv, xres, tup, noTup, cls, quiet, Nat.reduceAdd, Nat.reduceEqDiff, ↓reduceIte, reduceCtorEq, goInt, exists_eq_left', eq_self, Int.reduceLT, Int.reduceLE, Int.reduceEq, Int.reduceNeg, Int.reduceAdd, Int.reduceSub, forall_const, ne_eq, undef, Nat.reducePow, Nat.reduceDiv, Nat.reduceMod, g5, e0, e12]
        exact tail _ _ y1 y2 f5 _
  · simp only [symA, go_opsd, symB, wantedX, X.put, X.look, Arg.ev, keepOf, restrict, evs, evO, initEnv, xres, tup, noTup, cls, quiet, Nat.reduceAdd, Nat.reduceEqDiff, ↓reduceIte, reduceCtorEq, goInt, exists_eq_left', eq_self, Int.reduceLT, Int.reduceLE, Int.reduceEq, Int.reduceNeg, Int.reduceAdd, Int.reduceSub, forall_const, ne_eq, undef, Nat.reducePow, Nat.reduceDiv, Nat.reduceMod, h50]
    refine goR_wp (fin m1 0 (a + l / 4) (a + l / 4 * 2) (a + l / 4 * 3) .refl g1 (by omega) (by omega) (by omega) (by omega) (by omega) (by omega) (by omega)) ?_
    rintro _ m5 ⟨p, c', rfl, y1, y2, g5, f5⟩
    by_cases e0 : (c' : Int) = 0
    · simp only [symA, go_opsd, symB, wantedX, X.put, X.look, Arg.ev, keepOf, restrict, evs, evO, initEnv, xres, tup, noTup, cls, quiet, Nat.reduceAdd, Nat.reduceEqDiff, ↓reduceIte, reduceCtorEq, goInt, exists_eq_left', eq_self, Int.reduceLT, Int.reduceLE, Int.reduceEq, Int.reduceNeg, Int.reduceAdd, Int.reduceSub, forall_const, ne_eq, undef, Nat.reducePow, Nat.reduceDiv, Nat.reduceMod, g5, e0]
      exact tail _ _ y1 y2 f5 _
    · by_cases e12 : (c' : Int) = 12
      · simp only [symA, go_opsd, symB, wantedX, X.put, X.look, Arg.ev, keepOf, restrict, evs, evO, initEnv, xres, tup, noTup, cls, quiet, Nat.reduceAdd, Nat.reduceEqDiff, ↓reduceIte, reduceCtorEq, goInt, exists_eq_left', eq_self, Int.reduceLT, Int.reduceLE, Int.reduceEq, Int.reduceNeg, Int.reduceAdd, Int.reduceSub, forall_const, ne_eq, undef, Nat.reducePow, Nat.reduceDiv, Nat.reduceMod, g5, e12]
        exact tail _ _ y1 y2 f5 _
      · simp only [symA, go_opsd, symB, wantedX, X.put, X.look, Arg.ev, keepOf, restrict, evs, evO, initEnv, xres, tup, noTup, cls, quiet, Nat.reduceAdd, Nat.reduceEqDiff, ↓reduceIte, reduceCtorEq, goInt, exists_eq_left', eq_self, Int.reduceLT, Int.reduceLE, Int.reduceEq, Int.reduceNeg, Int.reduceAdd, Int.reduceSub, forall_const, ne_eq, undef, Nat.reducePow, Nat.reduceDiv, Nat.reduceMod, g5, e0, e12]
        exact tail _ _ y1 y2 f5 _
end
end Go.Proofs.Ytlldfkapaeidoaa
