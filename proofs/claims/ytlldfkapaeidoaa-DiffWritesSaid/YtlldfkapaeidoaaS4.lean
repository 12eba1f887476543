/-
  Own work. The sort's insertion of some, and how it breaks patterns.
-/
import Derived.Test.YtlldfkapaeidoaaS3
import Derived.KernelRfl
namespace Go.Proofs.Ytlldfkapaeidoaa
open Go X
set_option maxRecDepth 100000
set_option maxHeartbeats 2000000
set_option linter.unusedVariables false
set_option linter.unusedSimpArgs false

/-- None from a up to b is below what stands ahead of a. -/
def Low (a b : Nat) (l : List ByteArray) : Prop := ∀ z k x, 0 < a → l[a - 1]? = some z → a ≤ k → k < b → l[k]? = some x → ¬ ltT x z
theorem Low.pm {a b : Nat} {l l' : List ByteArray} (h : Low a b l) (hp : Pm a b l l') : Low a b l' := fun z k x h0 hz h1 h2 hx => by
  obtain ⟨j, j1, j2, j3⟩ := hp.mem (by omega) h1 h2 hx
  rw [hp.same (a - 1) (by omega)] at hz
  exact h z j x h0 hz j1 j2 j3

section
variable {F : List Nat} {m m' : Mem} {id cap n : Nat} {ks : List ByteArray}
theorem partial_spec {a b : Nat} (h : OwnK F m id cap n ks) (hab : a < b) (hb : b ≤ n) (hn : n ≤ 255) (hlow : Low a b ks) :
    Wc 60 [SV id n cap, I a, I b] m fun r m' => ∃ (t : Bool) (ks' : List ByteArray), r = .bool t ∧ OwnK F m' id cap n ks' ∧ Pm a b ks ks' ∧ Fm (· ∈ F) m m' ∧ (t = true → Srt ltT a b ks') := by
  refine call_go (F := _) rfl rfl fun Q hQ => ?_
  have wa : IntKind.i64.wrap ((a : Int) + 1) = ((a + 1 : Nat) : Int) := by rw [wrap_i64 (by omega) (by omega)]; omega
  simp only [symA, symF, Nat.reduceOr, Nat.reduceAnd, Nat.reduceShiftLeft, Nat.zero_or, symB, wantedX, X.put, X.look, Arg.ev, keepOf, restrict, evs, evO, initEnv, xres, tup, noTup, cls, quiet, Nat.reduceAdd, Nat.reduceEqDiff, ↓reduceIte, reduceCtorEq, goInt, exists_eq_left', eq_self, Int.reduceLT, Int.reduceLE, Int.reduceEq, Int.reduceNeg, Int.reduceAdd, Int.reduceSub, forall_const, ne_eq, undef, Nat.reducePow, Nat.reduceDiv, Nat.reduceMod, wa]
  refine loop_go (fun k e m' => ∃ (c i : Nat) (l : List ByteArray), c ≤ 5 ∧ k = 5 - c ∧ a < i ∧ i ≤ b ∧ OwnK F m' id cap n l ∧ Pm a b ks l ∧ Srt ltT a i l ∧ Fm (· ∈ F) m m' ∧ e = [(0, SV id n cap), (1, I a), (2, I b), (7, I i), (8, I c)]) 5 ⟨0, a + 1, ks, by omega, rfl, by omega, by omega, h, .refl, .one (by omega), .refl, rfl⟩ ?_
  rintro k e m3 N3 B3 hN3 hB3 ⟨c, i, l, hc, rfl, hai, hib, o3, p3, s3, f3, rfl⟩
  by_cases hc5 : c < 5
  case neg =>
    have hc5' : ¬ (c : Int) < 5 := by omega
    simp only [symA, symF, Nat.reduceOr, Nat.reduceAnd, Nat.reduceShiftLeft, Nat.zero_or, symB, wantedX, X.put, X.look, Arg.ev, keepOf, restrict, evs, evO, initEnv, xres, tup, noTup, cls, quiet, Nat.reduceAdd, Nat.reduceEqDiff, ↓reduceIte, reduceCtorEq, goInt, exists_eq_left', eq_self, Int.reduceLT, Int.reduceLE, Int.reduceEq, Int.reduceNeg, Int.reduceAdd, Int.reduceSub, forall_const, ne_eq, undef, Nat.reducePow, Nat.reduceDiv, Nat.reduceMod, hc5']
    refine hB3 _ _ _ ?_
    simp only [symA, symF, Nat.reduceOr, Nat.reduceAnd, Nat.reduceShiftLeft, Nat.zero_or, symB, wantedX, X.put, X.look, Arg.ev, keepOf, restrict, evs, evO, initEnv, xres, tup, noTup, cls, quiet, Nat.reduceAdd, Nat.reduceEqDiff, ↓reduceIte, reduceCtorEq, goInt, exists_eq_left', eq_self, Int.reduceLT, Int.reduceLE, Int.reduceEq, Int.reduceNeg, Int.reduceAdd, Int.reduceSub, forall_const, ne_eq, undef, Nat.reducePow, Nat.reduceDiv, Nat.reduceMod]
    exact hQ _ _ _ rfl ⟨false, l, rfl, o3, p3, f3, fun h => by cases h⟩
  have hc5' : (c : Int) < 5 := by omega
  have wc : IntKind.i64.wrap ((c : Int) + 1) = ((c + 1 : Nat) : Int) := by rw [wrap_i64 (by omega) (by omega)]; omega
  have hl3 := o3.len
  simp only [symA, symF, Nat.reduceOr, Nat.reduceAnd, Nat.reduceShiftLeft, Nat.zero_or, symB, wantedX, X.put, X.look, Arg.ev, keepOf, restrict, evs, evO, initEnv, xres, tup, noTup, cls, quiet, Nat.reduceAdd, Nat.reduceEqDiff, ↓reduceIte, reduceCtorEq, goInt, exists_eq_left', eq_self, Int.reduceLT, Int.reduceLE, Int.reduceEq, Int.reduceNeg, Int.reduceAdd, Int.reduceSub, forall_const, ne_eq, undef, Nat.reducePow, Nat.reduceDiv, Nat.reduceMod, hc5']
  refine loop_go (fun k e m' => m' = m3 ∧ ∃ (i' : Nat), a < i' ∧ i' ≤ b ∧ k = b - i' ∧ Srt ltT a i' l ∧ ∃ r, e = (0, SV id n cap) :: (1, I a) :: (2, I b) :: (7, I i') :: (8, I c) :: r) (b - i) ⟨rfl, i, hai, hib, rfl, s3, _, rfl⟩ ?_
  rintro k e m' N4 B4 hN4 hB4 ⟨rfl, i1, hai1, hib1, rfl, s4, rr, rfl⟩
  have wi : IntKind.i64.wrap ((i1 : Int) + 1) = ((i1 + 1 : Nat) : Int) := by rw [wrap_i64 (by omega) (by omega)]; omega
  have wi1 : IntKind.i64.wrap ((i1 : Int) - 1) = ((i1 - 1 : Nat) : Int) := by rw [wrap_i64 (by omega) (by omega)]; omega
  have wba : IntKind.i64.wrap ((b : Int) - (a : Int)) = ((b - a : Nat) : Int) := by rw [wrap_i64 (by omega) (by omega)]; omega
  have wia : IntKind.i64.wrap ((i1 : Int) - (a : Int)) = ((i1 - a : Nat) : Int) := by rw [wrap_i64 (by omega) (by omega)]; omega
  have wbi : IntKind.i64.wrap ((b : Int) - (i1 : Int)) = ((b - i1 : Nat) : Int) := by rw [wrap_i64 (by omega) (by omega)]; omega
  have fin : ∀ (l2 : List ByteArray) (m5 : Mem), OwnK F m5 id cap n l2 → Pm a b ks l2 → Srt ltT a i1 l2 → Fm (· ∈ F) m m5 → N3 [(0, SV id n cap), (1, I a), (2, I b), (7, I i1), (8, I (c + 1 : Nat))] m5 := fun l2 m5 o5 p5 s5 f5 =>
    hN3 _ _ (5 - (c + 1)) (by omega) ⟨c + 1, i1, l2, by omega, rfl, hai1, hib1, o5, p5, s5, f5, rfl⟩
  have hX : (i1 < b → ∃ x y, l[i1]? = some x ∧ l[i1 - 1]? = some y ∧ ltT x y) → B4 2 [(0, SV id n cap), (1, I a), (2, I b), (7, I i1), (8, I c), (32, .bool false)] m' := fun hE => by
    refine hB4 _ _ _ ?_
    by_cases hend : i1 = b
    · subst hend
      simp only [symA, symF, Nat.reduceOr, Nat.reduceAnd, Nat.reduceShiftLeft, Nat.zero_or, symB, wantedX, X.put, X.look, Arg.ev, keepOf, restrict, evs, evO, initEnv, xres, tup, noTup, cls, quiet, Nat.reduceAdd, Nat.reduceEqDiff, ↓reduceIte, reduceCtorEq, goInt, exists_eq_left', eq_self, Int.reduceLT, Int.reduceLE, Int.reduceEq, Int.reduceNeg, Int.reduceAdd, Int.reduceSub, forall_const, ne_eq, undef, Nat.reducePow, Nat.reduceDiv, Nat.reduceMod]
      exact hQ _ _ _ rfl ⟨true, l, rfl, o3, p3, f3, fun _ => s4⟩
    · have hend' : ¬ (i1 : Int) = (b : Int) := by omega
      by_cases h50 : b - a < 50
      · have h50' : ((b - a : Nat) : Int) < 50 := by omega
        simp only [symA, symF, Nat.reduceOr, Nat.reduceAnd, Nat.reduceShiftLeft, Nat.zero_or, symB, wantedX, X.put, X.look, Arg.ev, keepOf, restrict, evs, evO, initEnv, xres, tup, noTup, cls, quiet, Nat.reduceAdd, Nat.reduceEqDiff, ↓reduceIte, reduceCtorEq, goInt, exists_eq_left', eq_self, Int.reduceLT, Int.reduceLE, Int.reduceEq, Int.reduceNeg, Int.reduceAdd, Int.reduceSub, forall_const, ne_eq, undef, Nat.reducePow, Nat.reduceDiv, Nat.reduceMod, hend', wba, h50']
        exact hQ _ _ _ rfl ⟨false, l, rfl, o3, p3, f3, fun h => by cases h⟩
      · have h50' : ¬ ((b - a : Nat) : Int) < 50 := by omega
        obtain ⟨x, y, hx, hy, hxy⟩ := hE (by omega)
        obtain ⟨m5, m6, t1, t2, o6, f6⟩ := o3.swap hx hy
        obtain ⟨oo, hoo, hcx, hcy, hin, hjn⟩ := o3.rd2 hx hy
        have pm6 : Pm (i1 - 1) (i1 + 1) l (sw l i1 (i1 - 1) x y) := sw_pm hx hy (by omega) (by omega) (by omega) (by omega)
        have p6 : Pm a b ks (sw l i1 (i1 - 1) x y) := p3.trans (pm6.mono (by omega) (by omega))
        have f36 := f3.trans f6
        have s6 : Srt ltT a (i1 - 1) (sw l i1 (i1 - 1) x y) := (s4.sub (Nat.le_refl _) (by omega)).off pm6 (.inl (Nat.le_refl _))
        simp only [symA, symF, Nat.reduceOr, Nat.reduceAnd, Nat.reduceShiftLeft, Nat.zero_or, symB, wantedX, X.put, X.look, Arg.ev, keepOf, restrict, evs, evO, initEnv, xres, tup, noTup, cls, quiet, Nat.reduceAdd, Nat.reduceEqDiff, ↓reduceIte, reduceCtorEq, goInt, exists_eq_left', eq_self, Int.reduceLT, Int.reduceLE, Int.reduceEq, Int.reduceNeg, Int.reduceAdd, Int.reduceSub, forall_const, ne_eq, undef, Nat.reducePow, Nat.reduceDiv, Nat.reduceMod, hend', wba, h50']
        refine goF_of ?_
        by_cases hl2 : a + 2 ≤ i1
        · have hl2' : (2 : Int) ≤ ((i1 - a : Nat) : Int) := by omega
          simp only [symA, symF, Nat.reduceOr, Nat.reduceAnd, Nat.reduceShiftLeft, Nat.zero_or, symB, wantedX, X.put, X.look, Arg.ev, keepOf, restrict, evs, evO, initEnv, xres, tup, noTup, cls, quiet, Nat.reduceAdd, Nat.reduceEqDiff, ↓reduceIte, reduceCtorEq, goInt, exists_eq_left', eq_self, Int.reduceLT, Int.reduceLE, Int.reduceEq, Int.reduceNeg, Int.reduceAdd, Int.reduceSub, forall_const, ne_eq, undef, Nat.reducePow, Nat.reduceDiv, Nat.reduceMod, wi1, hin, hjn, hoo, hcx, hcy, t1, t2, wia, hl2']
          refine loop_go (fun k e m' => ∃ (j : Nat) (l : List ByteArray), a ≤ j ∧ j ≤ i1 - 1 ∧ k = j ∧ OwnK F m' id cap n l ∧ Pm a b ks l ∧ InsI ltT a (i1 - 1) j l ∧ Fm (· ∈ F) m m' ∧ e = [(0, SV id n cap), (1, I a), (2, I b), (7, I i1), (8, I c), (9, I j)]) (i1 - 1) ⟨i1 - 1, _, by omega, Nat.le_refl _, rfl, o6, p6, .start s6, f36, rfl⟩ ?_
          rintro k e m7 N7 B7 hN7 hB7 ⟨j, l7, haj, hji, rfl, o7, p7, s7, f7, rfl⟩
          have hl7 := o7.len
          have hR : ∀ (s : Nat) (t : Bool), Srt ltT a i1 l7 → B7 4 [(0, SV id n cap), (1, I a), (2, I b), (7, I i1), (8, I c), (9, I k), (s, .bool t)] m7 := fun s t sL => by
            have oL := o7
            have pL := p7
            have fL := f7
            refine hB7 _ _ _ ?_
            by_cases hr2 : i1 + 2 ≤ b
            · have hr2' : (2 : Int) ≤ ((b - i1 : Nat) : Int) := by omega
              simp only [symA, symF, Nat.reduceOr, Nat.reduceAnd, Nat.reduceShiftLeft, Nat.zero_or, symB, wantedX, X.put, X.look, Arg.ev, keepOf, restrict, evs, evO, initEnv, xres, tup, noTup, cls, quiet, Nat.reduceAdd, Nat.reduceEqDiff, ↓reduceIte, reduceCtorEq, goInt, exists_eq_left', eq_self, Int.reduceLT, Int.reduceLE, Int.reduceEq, Int.reduceNeg, Int.reduceAdd, Int.reduceSub, forall_const, ne_eq, undef, Nat.reducePow, Nat.reduceDiv, Nat.reduceMod, wbi, hr2', wi]
              refine loop_go (fun k e m' => ∃ (j : Nat) (l : List ByteArray), i1 < j ∧ j ≤ b ∧ k = b - j ∧ OwnK F m' id cap n l ∧ Pm a b ks l ∧ Srt ltT a i1 l ∧ Fm (· ∈ F) m m' ∧ e = [(0, SV id n cap), (1, I a), (2, I b), (7, I i1), (8, I c), (10, I j)]) (b - (i1 + 1)) ⟨i1 + 1, _, by omega, by omega, rfl, oL, pL, sL, fL, rfl⟩ ?_
              rintro kk e m8 N8 B8 hN8 hB8 ⟨j, l8, hij, hjb, rfl, o8, p8, s8, f8, rfl⟩
              have hl8 := o8.len
              by_cases hjt : j < b
              · have hjt' : (j : Int) < (b : Int) := by omega
                have wj1 : IntKind.i64.wrap ((j : Int) + 1) = ((j + 1 : Nat) : Int) := by rw [wrap_i64 (by omega) (by omega)]; omega
                have wj2 : IntKind.i64.wrap ((j : Int) - 1) = ((j - 1 : Nat) : Int) := by rw [wrap_i64 (by omega) (by omega)]; omega
                obtain ⟨u, hu⟩ : ∃ u, l8[j]? = some u := ⟨_, List.getElem?_eq_getElem (by omega)⟩
                obtain ⟨v, hv⟩ : ∃ v, l8[j - 1]? = some v := ⟨_, List.getElem?_eq_getElem (by omega)⟩
                obtain ⟨oo8, hoo8, hcu, hcv, hjn, hjn1⟩ := o8.rd2 hu hv
                simp only [symA, symF, Nat.reduceOr, Nat.reduceAnd, Nat.reduceShiftLeft, Nat.zero_or, symB, wantedX, X.put, X.look, Arg.ev, keepOf, restrict, evs, evO, initEnv, xres, tup, noTup, cls, quiet, Nat.reduceAdd, Nat.reduceEqDiff, ↓reduceIte, reduceCtorEq, goInt, exists_eq_left', eq_self, Int.reduceLT, Int.reduceLE, Int.reduceEq, Int.reduceNeg, Int.reduceAdd, Int.reduceSub, forall_const, ne_eq, undef, Nat.reducePow, Nat.reduceDiv, Nat.reduceMod, hjt']
                refine goF_of ?_
                by_cases huv : ltT u v
                · obtain ⟨m9, m10, t1, t2, o10, f10⟩ := o8.swap hu hv
                  simp only [symA, symF, Nat.reduceOr, Nat.reduceAnd, Nat.reduceShiftLeft, Nat.zero_or, symB, wantedX, X.put, X.look, Arg.ev, keepOf, restrict, evs, evO, initEnv, xres, tup, noTup, cls, quiet, Nat.reduceAdd, Nat.reduceEqDiff, ↓reduceIte, reduceCtorEq, goInt, exists_eq_left', eq_self, Int.reduceLT, Int.reduceLE, Int.reduceEq, Int.reduceNeg, Int.reduceAdd, Int.reduceSub, forall_const, ne_eq, undef, Nat.reducePow, Nat.reduceDiv, Nat.reduceMod, wj2, hjn, hjn1, hoo8, hcu, hcv, goFV3c (less_t huv)]
                  refine goF_of ?_
                  simp only [symA, symF, Nat.reduceOr, Nat.reduceAnd, Nat.reduceShiftLeft, Nat.zero_or, symB, wantedX, X.put, X.look, Arg.ev, keepOf, restrict, evs, evO, initEnv, xres, tup, noTup, cls, quiet, Nat.reduceAdd, Nat.reduceEqDiff, ↓reduceIte, reduceCtorEq, goInt, exists_eq_left', eq_self, Int.reduceLT, Int.reduceLE, Int.reduceEq, Int.reduceNeg, Int.reduceAdd, Int.reduceSub, forall_const, ne_eq, undef, Nat.reducePow, Nat.reduceDiv, Nat.reduceMod, wj2, hjn, hjn1, hoo8, hcu, hcv, t1, t2, wj1]
                  have pm8 : Pm i1 b l8 (sw l8 j (j - 1) u v) := sw_pm hu hv (by omega) (by omega) (by omega) (by omega)
                  exact hN8 _ _ (b - (j + 1)) (by omega) ⟨j + 1, _, by omega, by omega, rfl, o10, p8.trans (pm8.mono (by omega) (Nat.le_refl _)), s8.off pm8 (.inl (Nat.le_refl _)), f8.trans f10, rfl⟩
                · simp only [symA, symF, Nat.reduceOr, Nat.reduceAnd, Nat.reduceShiftLeft, Nat.zero_or, symB, wantedX, X.put, X.look, Arg.ev, keepOf, restrict, evs, evO, initEnv, xres, tup, noTup, cls, quiet, Nat.reduceAdd, Nat.reduceEqDiff, ↓reduceIte, reduceCtorEq, goInt, exists_eq_left', eq_self, Int.reduceLT, Int.reduceLE, Int.reduceEq, Int.reduceNeg, Int.reduceAdd, Int.reduceSub, forall_const, ne_eq, undef, Nat.reducePow, Nat.reduceDiv, Nat.reduceMod, wj2, hjn, hjn1, hoo8, hcu, hcv, goFV3c (less_f huv)]
                  refine hB8 _ _ _ ?_
                  simp only [symA, symF, Nat.reduceOr, Nat.reduceAnd, Nat.reduceShiftLeft, Nat.zero_or, symB, wantedX, X.put, X.look, Arg.ev, keepOf, restrict, evs, evO, initEnv, xres, tup, noTup, cls, quiet, Nat.reduceAdd, Nat.reduceEqDiff, ↓reduceIte, reduceCtorEq, goInt, exists_eq_left', eq_self, Int.reduceLT, Int.reduceLE, Int.reduceEq, Int.reduceNeg, Int.reduceAdd, Int.reduceSub, forall_const, ne_eq, undef, Nat.reducePow, Nat.reduceDiv, Nat.reduceMod, wc]
                  exact fin l8 m8 o8 p8 s8 f8
              · have hjt' : ¬ (j : Int) < (b : Int) := by omega
                simp only [symA, symF, Nat.reduceOr, Nat.reduceAnd, Nat.reduceShiftLeft, Nat.zero_or, symB, wantedX, X.put, X.look, Arg.ev, keepOf, restrict, evs, evO, initEnv, xres, tup, noTup, cls, quiet, Nat.reduceAdd, Nat.reduceEqDiff, ↓reduceIte, reduceCtorEq, goInt, exists_eq_left', eq_self, Int.reduceLT, Int.reduceLE, Int.reduceEq, Int.reduceNeg, Int.reduceAdd, Int.reduceSub, forall_const, ne_eq, undef, Nat.reducePow, Nat.reduceDiv, Nat.reduceMod, hjt']
                refine hB8 _ _ _ ?_
                simp only [symA, symF, Nat.reduceOr, Nat.reduceAnd, Nat.reduceShiftLeft, Nat.zero_or, symB, wantedX, X.put, X.look, Arg.ev, keepOf, restrict, evs, evO, initEnv, xres, tup, noTup, cls, quiet, Nat.reduceAdd, Nat.reduceEqDiff, ↓reduceIte, reduceCtorEq, goInt, exists_eq_left', eq_self, Int.reduceLT, Int.reduceLE, Int.reduceEq, Int.reduceNeg, Int.reduceAdd, Int.reduceSub, forall_const, ne_eq, undef, Nat.reducePow, Nat.reduceDiv, Nat.reduceMod, wc]
                exact fin l8 m8 o8 p8 s8 f8
            · have hr2' : ¬ (2 : Int) ≤ ((b - i1 : Nat) : Int) := by omega
              simp only [symA, symF, Nat.reduceOr, Nat.reduceAnd, Nat.reduceShiftLeft, Nat.zero_or, symB, wantedX, X.put, X.look, Arg.ev, keepOf, restrict, evs, evO, initEnv, xres, tup, noTup, cls, quiet, Nat.reduceAdd, Nat.reduceEqDiff, ↓reduceIte, reduceCtorEq, goInt, exists_eq_left', eq_self, Int.reduceLT, Int.reduceLE, Int.reduceEq, Int.reduceNeg, Int.reduceAdd, Int.reduceSub, forall_const, ne_eq, undef, Nat.reducePow, Nat.reduceDiv, Nat.reduceMod, wbi, hr2', wc]
              exact fin _ _ oL pL sL fL
          by_cases h1 : 1 ≤ k
          · have h1' : (1 : Int) ≤ (k : Int) := by omega
            obtain ⟨j, rfl⟩ : ∃ j, k = j + 1 := ⟨k - 1, by omega⟩
            have wj : IntKind.i64.wrap (((j + 1 : Nat) : Int) - 1) = (j : Int) := by rw [wrap_i64 (by omega) (by omega)]; omega
            obtain ⟨u, hu⟩ : ∃ u, l7[j + 1]? = some u := ⟨_, List.getElem?_eq_getElem (by omega)⟩
            obtain ⟨v, hv⟩ : ∃ v, l7[j]? = some v := ⟨_, List.getElem?_eq_getElem (by omega)⟩
            obtain ⟨oo7, hoo7, hcu, hcv, hjn1, hjn2⟩ := o7.rd2 hu hv
            have e1 : i1 - 1 + 1 = i1 := by omega
            simp only [symA, symF, Nat.reduceOr, Nat.reduceAnd, Nat.reduceShiftLeft, Nat.zero_or, symB, wantedX, X.put, X.look, Arg.ev, keepOf, restrict, evs, evO, initEnv, xres, tup, noTup, cls, quiet, Nat.reduceAdd, Nat.reduceEqDiff, ↓reduceIte, reduceCtorEq, goInt, exists_eq_left', eq_self, Int.reduceLT, Int.reduceLE, Int.reduceEq, Int.reduceNeg, Int.reduceAdd, Int.reduceSub, forall_const, ne_eq, undef, Nat.reducePow, Nat.reduceDiv, Nat.reduceMod, h1']
            refine goF_of ?_
            by_cases huv : ltT u v
            · have haj' : a ≤ j := by
                by_cases hq : a = j + 1
                · exfalso
                  refine (hlow.pm p7) v (j + 1) u (by omega) (by rw [show a - 1 = j by omega]; exact hv) (by omega) (by omega) hu huv
                · omega
              obtain ⟨m9, m10, t3, t4, o10, f10⟩ := o7.swap hu hv
              simp only [symA, symF, Nat.reduceOr, Nat.reduceAnd, Nat.reduceShiftLeft, Nat.zero_or, symB, wantedX, X.put, X.look, Arg.ev, keepOf, restrict, evs, evO, initEnv, xres, tup, noTup, cls, quiet, Nat.reduceAdd, Nat.reduceEqDiff, ↓reduceIte, reduceCtorEq, goInt, exists_eq_left', eq_self, Int.reduceLT, Int.reduceLE, Int.reduceEq, Int.reduceNeg, Int.reduceAdd, Int.reduceSub, forall_const, ne_eq, undef, Nat.reducePow, Nat.reduceDiv, Nat.reduceMod, wj, hjn1, hjn2, hoo7, hcu, hcv, goFV3c (less_t huv)]
              refine goF_of ?_
              simp only [symA, symF, Nat.reduceOr, Nat.reduceAnd, Nat.reduceShiftLeft, Nat.zero_or, symB, wantedX, X.put, X.look, Arg.ev, keepOf, restrict, evs, evO, initEnv, xres, tup, noTup, cls, quiet, Nat.reduceAdd, Nat.reduceEqDiff, ↓reduceIte, reduceCtorEq, goInt, exists_eq_left', eq_self, Int.reduceLT, Int.reduceLE, Int.reduceEq, Int.reduceNeg, Int.reduceAdd, Int.reduceSub, forall_const, ne_eq, undef, Nat.reducePow, Nat.reduceDiv, Nat.reduceMod, wj, hjn1, hjn2, hoo7, hcu, hcv, t3, t4]
              exact hN7 _ _ j (by omega) ⟨j, _, haj', by omega, rfl, o10, p7.trans (sw_pm hu hv (by omega) (by omega) (by omega) (by omega)), s7.step ordT haj' (by omega) hu hv huv, f7.trans f10, rfl⟩
            · simp only [symA, symF, Nat.reduceOr, Nat.reduceAnd, Nat.reduceShiftLeft, Nat.zero_or, symB, wantedX, X.put, X.look, Arg.ev, keepOf, restrict, evs, evO, initEnv, xres, tup, noTup, cls, quiet, Nat.reduceAdd, Nat.reduceEqDiff, ↓reduceIte, reduceCtorEq, goInt, exists_eq_left', eq_self, Int.reduceLT, Int.reduceLE, Int.reduceEq, Int.reduceNeg, Int.reduceAdd, Int.reduceSub, forall_const, ne_eq, undef, Nat.reducePow, Nat.reduceDiv, Nat.reduceMod, wj, hjn1, hjn2, hoo7, hcu, hcv, goFV3c (less_f huv)]
              refine hR _ _ ?_
              by_cases hq : a = j + 1
              · rw [← hq] at s7
                rw [← e1]
                exact s7.done_a
              · rw [← e1]
                exact s7.done ordT (by omega) hu hv huv (by omega)
          · have h1' : ¬ (1 : Int) ≤ (k : Int) := by omega
            simp only [symA, symF, Nat.reduceOr, Nat.reduceAnd, Nat.reduceShiftLeft, Nat.zero_or, symB, wantedX, X.put, X.look, Arg.ev, keepOf, restrict, evs, evO, initEnv, xres, tup, noTup, cls, quiet, Nat.reduceAdd, Nat.reduceEqDiff, ↓reduceIte, reduceCtorEq, goInt, exists_eq_left', eq_self, Int.reduceLT, Int.reduceLE, Int.reduceEq, Int.reduceNeg, Int.reduceAdd, Int.reduceSub, forall_const, ne_eq, undef, Nat.reducePow, Nat.reduceDiv, Nat.reduceMod, h1']
            refine hR _ _ ?_
            have hk0 : k = a := by omega
            rw [hk0] at s7
            rw [← show i1 - 1 + 1 = i1 by omega]
            exact s7.done_a
        · have hl2' : ¬ (2 : Int) ≤ ((i1 - a : Nat) : Int) := by omega
          have sL : Srt ltT a i1 (sw l i1 (i1 - 1) x y) := .one (by omega)
          have oL := o6
          have pL := p6
          have fL := f36
          simp only [symA, symF, Nat.reduceOr, Nat.reduceAnd, Nat.reduceShiftLeft, Nat.zero_or, symB, wantedX, X.put, X.look, Arg.ev, keepOf, restrict, evs, evO, initEnv, xres, tup, noTup, cls, quiet, Nat.reduceAdd, Nat.reduceEqDiff, ↓reduceIte, reduceCtorEq, goInt, exists_eq_left', eq_self, Int.reduceLT, Int.reduceLE, Int.reduceEq, Int.reduceNeg, Int.reduceAdd, Int.reduceSub, forall_const, ne_eq, undef, Nat.reducePow, Nat.reduceDiv, Nat.reduceMod, wi1, hin, hjn, hoo, hcx, hcy, t1, t2, wia, hl2']
          by_cases hr2 : i1 + 2 ≤ b
          · have hr2' : (2 : Int) ≤ ((b - i1 : Nat) : Int) := by omega
            simp only [symA, symF, Nat.reduceOr, Nat.reduceAnd, Nat.reduceShiftLeft, Nat.zero_or, symB, wantedX, X.put, X.look, Arg.ev, keepOf, restrict, evs, evO, initEnv, xres, tup, noTup, cls, quiet, Nat.reduceAdd, Nat.reduceEqDiff, ↓reduceIte, reduceCtorEq, goInt, exists_eq_left', eq_self, Int.reduceLT, Int.reduceLE, Int.reduceEq, Int.reduceNeg, Int.reduceAdd, Int.reduceSub, forall_const, ne_eq, undef, Nat.reducePow, Nat.reduceDiv, Nat.reduceMod, wbi, hr2', wi]
            refine loop_go (fun k e m' => ∃ (j : Nat) (l : List ByteArray), i1 < j ∧ j ≤ b ∧ k = b - j ∧ OwnK F m' id cap n l ∧ Pm a b ks l ∧ Srt ltT a i1 l ∧ Fm (· ∈ F) m m' ∧ e = [(0, SV id n cap), (1, I a), (2, I b), (7, I i1), (8, I c), (10, I j)]) (b - (i1 + 1)) ⟨i1 + 1, _, by omega, by omega, rfl, oL, pL, sL, fL, rfl⟩ ?_
            rintro kk e m8 N8 B8 hN8 hB8 ⟨j, l8, hij, hjb, rfl, o8, p8, s8, f8, rfl⟩
            have hl8 := o8.len
            by_cases hjt : j < b
            · have hjt' : (j : Int) < (b : Int) := by omega
              have wj1 : IntKind.i64.wrap ((j : Int) + 1) = ((j + 1 : Nat) : Int) := by rw [wrap_i64 (by omega) (by omega)]; omega
              have wj2 : IntKind.i64.wrap ((j : Int) - 1) = ((j - 1 : Nat) : Int) := by rw [wrap_i64 (by omega) (by omega)]; omega
              obtain ⟨u, hu⟩ : ∃ u, l8[j]? = some u := ⟨_, List.getElem?_eq_getElem (by omega)⟩
              obtain ⟨v, hv⟩ : ∃ v, l8[j - 1]? = some v := ⟨_, List.getElem?_eq_getElem (by omega)⟩
              obtain ⟨oo8, hoo8, hcu, hcv, hjn, hjn1⟩ := o8.rd2 hu hv
              simp only [symA, symF, Nat.reduceOr, Nat.reduceAnd, Nat.reduceShiftLeft, Nat.zero_or, symB, wantedX, X.put, X.look, Arg.ev, keepOf, restrict, evs, evO, initEnv, xres, tup, noTup, cls, quiet, Nat.reduceAdd, Nat.reduceEqDiff, ↓reduceIte, reduceCtorEq, goInt, exists_eq_left', eq_self, Int.reduceLT, Int.reduceLE, Int.reduceEq, Int.reduceNeg, Int.reduceAdd, Int.reduceSub, forall_const, ne_eq, undef, Nat.reducePow, Nat.reduceDiv, Nat.reduceMod, hjt']
              refine goF_of ?_
              by_cases huv : ltT u v
              · obtain ⟨m9, m10, t1, t2, o10, f10⟩ := o8.swap hu hv
                simp only [symA, symF, Nat.reduceOr, Nat.reduceAnd, Nat.reduceShiftLeft, Nat.zero_or, symB, wantedX, X.put, X.look, Arg.ev, keepOf, restrict, evs, evO, initEnv, xres, tup, noTup, cls, quiet, Nat.reduceAdd, Nat.reduceEqDiff, ↓reduceIte, reduceCtorEq, goInt, exists_eq_left', eq_self, Int.reduceLT, Int.reduceLE, Int.reduceEq, Int.reduceNeg, Int.reduceAdd, Int.reduceSub, forall_const, ne_eq, undef, Nat.reducePow, Nat.reduceDiv, Nat.reduceMod, wj2, hjn, hjn1, hoo8, hcu, hcv, goFV3c (less_t huv)]
                refine goF_of ?_
                simp only [symA, symF, Nat.reduceOr, Nat.reduceAnd, Nat.reduceShiftLeft, Nat.zero_or, symB, wantedX, X.put, X.look, Arg.ev, keepOf, restrict, evs, evO, initEnv, xres, tup, noTup, cls, quiet, Nat.reduceAdd, Nat.reduceEqDiff, ↓reduceIte, reduceCtorEq, goInt, exists_eq_left', eq_self, Int.reduceLT, Int.reduceLE, Int.reduceEq, Int.reduceNeg, Int.reduceAdd, Int.reduceSub, forall_const, ne_eq, undef, Nat.reducePow, Nat.reduceDiv, Nat.reduceMod, wj2, hjn, hjn1, hoo8, hcu, hcv, t1, t2, wj1]
                have pm8 : Pm i1 b l8 (sw l8 j (j - 1) u v) := sw_pm hu hv (by omega) (by omega) (by omega) (by omega)
                exact hN8 _ _ (b - (j + 1)) (by omega) ⟨j + 1, _, by omega, by omega, rfl, o10, p8.trans (pm8.mono (by omega) (Nat.le_refl _)), s8.off pm8 (.inl (Nat.le_refl _)), f8.trans f10, rfl⟩
              · simp only [symA, symF, Nat.reduceOr, Nat.reduceAnd, Nat.reduceShiftLeft, Nat.zero_or, symB, wantedX, X.put, X.look, Arg.ev, keepOf, restrict, evs, evO, initEnv, xres, tup, noTup, cls, quiet, Nat.reduceAdd, Nat.reduceEqDiff, ↓reduceIte, reduceCtorEq, goInt, exists_eq_left', eq_self, Int.reduceLT, Int.reduceLE, Int.reduceEq, Int.reduceNeg, Int.reduceAdd, Int.reduceSub, forall_const, ne_eq, undef, Nat.reducePow, Nat.reduceDiv, Nat.reduceMod, wj2, hjn, hjn1, hoo8, hcu, hcv, goFV3c (less_f huv)]
                refine hB8 _ _ _ ?_
                simp only [symA, symF, Nat.reduceOr, Nat.reduceAnd, Nat.reduceShiftLeft, Nat.zero_or, symB, wantedX, X.put, X.look, Arg.ev, keepOf, restrict, evs, evO, initEnv, xres, tup, noTup, cls, quiet, Nat.reduceAdd, Nat.reduceEqDiff, ↓reduceIte, reduceCtorEq, goInt, exists_eq_left', eq_self, Int.reduceLT, Int.reduceLE, Int.reduceEq, Int.reduceNeg, Int.reduceAdd, Int.reduceSub, forall_const, ne_eq, undef, Nat.reducePow, Nat.reduceDiv, Nat.reduceMod, wc]
                exact fin l8 m8 o8 p8 s8 f8
            · have hjt' : ¬ (j : Int) < (b : Int) := by omega
              simp only [symA, symF, Nat.reduceOr, Nat.reduceAnd, Nat.reduceShiftLeft, Nat.zero_or, symB, wantedX, X.put, X.look, Arg.ev, keepOf, restrict, evs, evO, initEnv, xres, tup, noTup, cls, quiet, Nat.reduceAdd, Nat.reduceEqDiff, ↓reduceIte, reduceCtorEq, goInt, exists_eq_left', eq_self, Int.reduceLT, Int.reduceLE, Int.reduceEq, Int.reduceNeg, Int.reduceAdd, Int.reduceSub, forall_const, ne_eq, undef, Nat.reducePow, Nat.reduceDiv, Nat.reduceMod, hjt']
              refine hB8 _ _ _ ?_
              simp only [symA, symF, Nat.reduceOr, Nat.reduceAnd, Nat.reduceShiftLeft, Nat.zero_or, symB, wantedX, X.put, X.look, Arg.ev, keepOf, restrict, evs, evO, initEnv, xres, tup, noTup, cls, quiet, Nat.reduceAdd, Nat.reduceEqDiff, ↓reduceIte, reduceCtorEq, goInt, exists_eq_left', eq_self, Int.reduceLT, Int.reduceLE, Int.reduceEq, Int.reduceNeg, Int.reduceAdd, Int.reduceSub, forall_const, ne_eq, undef, Nat.reducePow, Nat.reduceDiv, Nat.reduceMod, wc]
              exact fin l8 m8 o8 p8 s8 f8
          · have hr2' : ¬ (2 : Int) ≤ ((b - i1 : Nat) : Int) := by omega
            simp only [symA, symF, Nat.reduceOr, Nat.reduceAnd, Nat.reduceShiftLeft, Nat.zero_or, symB, wantedX, X.put, X.look, Arg.ev, keepOf, restrict, evs, evO, initEnv, xres, tup, noTup, cls, quiet, Nat.reduceAdd, Nat.reduceEqDiff, ↓reduceIte, reduceCtorEq, goInt, exists_eq_left', eq_self, Int.reduceLT, Int.reduceLE, Int.reduceEq, Int.reduceNeg, Int.reduceAdd, Int.reduceSub, forall_const, ne_eq, undef, Nat.reducePow, Nat.reduceDiv, Nat.reduceMod, wbi, hr2', wc]
            exact fin _ _ oL pL sL fL
  simp only [symA, symF, Nat.reduceOr, Nat.reduceAnd, Nat.reduceShiftLeft, Nat.zero_or, symB, wantedX, X.put, X.look, Arg.ev, keepOf, restrict, evs, evO, initEnv, xres, tup, noTup, cls, quiet, Nat.reduceAdd, Nat.reduceEqDiff, ↓reduceIte, reduceCtorEq, goInt, exists_eq_left', eq_self, Int.reduceLT, Int.reduceLE, Int.reduceEq, Int.reduceNeg, Int.reduceAdd, Int.reduceSub, forall_const, ne_eq, undef, Nat.reducePow, Nat.reduceDiv, Nat.reduceMod]
  refine goF_of ?_
  by_cases hit : i1 < b
  · have hit' : (i1 : Int) < (b : Int) := by omega
    obtain ⟨x, hx⟩ : ∃ x, l[i1]? = some x := ⟨_, List.getElem?_eq_getElem (by omega)⟩
    obtain ⟨y, hy⟩ : ∃ y, l[i1 - 1]? = some y := ⟨_, List.getElem?_eq_getElem (by omega)⟩
    obtain ⟨oo, hoo, hcx, hcy, hin, hjn⟩ := o3.rd2 hx hy
    by_cases hxy : ltT x y
    · simp only [symA, symF, Nat.reduceOr, Nat.reduceAnd, Nat.reduceShiftLeft, Nat.zero_or, symB, wantedX, X.put, X.look, Arg.ev, keepOf, restrict, evs, evO, initEnv, xres, tup, noTup, cls, quiet, Nat.reduceAdd, Nat.reduceEqDiff, ↓reduceIte, reduceCtorEq, goInt, exists_eq_left', eq_self, Int.reduceLT, Int.reduceLE, Int.reduceEq, Int.reduceNeg, Int.reduceAdd, Int.reduceSub, forall_const, ne_eq, undef, Nat.reducePow, Nat.reduceDiv, Nat.reduceMod, hit', wi1, hin, hjn, hoo, hcx, hcy, goFV3c (less_t hxy)]
      exact hX fun _ => ⟨x, y, hx, hy, hxy⟩
    · simp only [symA, symF, Nat.reduceOr, Nat.reduceAnd, Nat.reduceShiftLeft, Nat.zero_or, symB, wantedX, X.put, X.look, Arg.ev, keepOf, restrict, evs, evO, initEnv, xres, tup, noTup, cls, quiet, Nat.reduceAdd, Nat.reduceEqDiff, ↓reduceIte, reduceCtorEq, goInt, exists_eq_left', eq_self, Int.reduceLT, Int.reduceLE, Int.reduceEq, Int.reduceNeg, Int.reduceAdd, Int.reduceSub, forall_const, ne_eq, undef, Nat.reducePow, Nat.reduceDiv, Nat.reduceMod, hit', wi1, hin, hjn, hoo, hcx, hcy, goFV3c (less_f hxy), wi]
      refine hN4 _ _ (b - (i1 + 1)) (by omega) ⟨rfl, i1 + 1, by omega, by omega, rfl, ?_, _, rfl⟩
      intro p q u v h1 h2 h3 hu hv
      by_cases hq : q = i1
      · subst hq
        rw [hx] at hv; cases hv
        by_cases hp : p = q - 1
        · subst hp; rw [hy] at hu; cases hu; exact hxy
        · exact ordT.le_trans (s4 p (q - 1) u y h1 (by omega) (by omega) hu hy) hxy
      · exact s4 p q u v h1 h2 (by omega) hu hv
  · have hit' : ¬ (i1 : Int) < (b : Int) := by omega
    simp only [symA, symF, Nat.reduceOr, Nat.reduceAnd, Nat.reduceShiftLeft, Nat.zero_or, symB, wantedX, X.put, X.look, Arg.ev, keepOf, restrict, evs, evO, initEnv, xres, tup, noTup, cls, quiet, Nat.reduceAdd, Nat.reduceEqDiff, ↓reduceIte, reduceCtorEq, goInt, exists_eq_left', eq_self, Int.reduceLT, Int.reduceLE, Int.reduceEq, Int.reduceNeg, Int.reduceAdd, Int.reduceSub, forall_const, ne_eq, undef, Nat.reducePow, Nat.reduceDiv, Nat.reduceMod, hit']
    exact hX fun hq => by omega

/-! ## Numbers that look drawn -/
def bl (n : Nat) : Nat := if n = 0 then 0 else n.log2 + 1
theorem bits_all (m : Mem) : ((List.range 256).map fun L : Nat => xcall Try.prog tabK 40 48 [.int .u64 (L : Int)] m) = (List.range 256).map fun L : Nat => some (I (bl L : Nat), m) := by kernel_rfl
theorem len_bits {m : Mem} {L : Nat} (h : L < 256) : Ca 48 [.int .u64 (L : Int)] m (I (bl L : Nat)) m := by
  have := congrArg (fun l => l[L]?) (bits_all m)
  simp only [List.getElem?_map, List.getElem?_range h, Option.map_some, Option.some.injEq] at this
  exact ⟨40, this⟩
theorem bl_all : ((List.range 256).all fun L => decide (bl L < 16) && (decide (L = 0) || (decide (L < 2 ^ bl L) && decide (2 ^ bl L ≤ 2 * L)))) = true := by kernel_rfl
theorem bl_at {L : Nat} (h : L < 256) (h0 : 0 < L) : bl L < 16 ∧ L < 2 ^ bl L ∧ 2 ^ bl L ≤ 2 * L := by
  have := List.all_eq_true.1 bl_all L (List.mem_range.2 h)
  rw [Bool.and_eq_true, Bool.or_eq_true, Bool.and_eq_true, decide_eq_true_eq, decide_eq_true_eq, decide_eq_true_eq, decide_eq_true_eq] at this
  rcases this with ⟨h1, h2 | h2⟩
  · omega
  · exact ⟨h1, h2.1, h2.2⟩
theorem conv_ui {t : TypeId} {L : Nat} (hu : convE Try.prog 3 t m (I (L : Int)) = some (.val (.int .u64 (IntKind.u64.wrap (L : Int))) m)) (h : L < 256) : convE Try.prog 3 t m (I (L : Int)) = some (.val (.int .u64 (L : Int)) m) := by
  rw [hu, wrap_u64 (by omega) (by omega)]
theorem npot_spec {L : Nat} (h : L < 256) (h0 : 0 < L) : Ca 69 [I L] m (.int .u64 ((2 ^ bl L : Nat) : Int)) m := by
  refine callX_of (call_go (F := _) rfl rfl fun Q hQ => ?_)
  have c1 : convE Try.prog 3 78 m (I (L : Int)) = some (.val (.int .u64 (L : Int)) m) := conv_ui (by kernel_rfl) h
  have s1 : binE Try.prog .shl 78 (.int .u64 1) (I (bl L : Nat)) m = some (.val (.int .u64 ((2 ^ bl L : Nat) : Int)) m) := by
    obtain ⟨hb, _⟩ := bl_at h h0
    generalize bl L = k at hb ⊢
    rcases (by omega : k = 0 ∨ k = 1 ∨ k = 2 ∨ k = 3 ∨ k = 4 ∨ k = 5 ∨ k = 6 ∨ k = 7 ∨ k = 8 ∨ k = 9 ∨ k = 10 ∨ k = 11 ∨ k = 12 ∨ k = 13 ∨ k = 14 ∨ k = 15) with rfl | rfl | rfl | rfl | rfl | rfl | rfl | rfl | rfl | rfl | rfl | rfl | rfl | rfl | rfl | rfl <;> kernel_rfl
  simp only [symA, go_opsd, symB, wantedX, X.put, X.look, Arg.ev, keepOf, restrict, evs, evO, initEnv, xres, tup, noTup, cls, quiet, Nat.reduceAdd, Nat.reduceEqDiff, ↓reduceIte, reduceCtorEq, goInt, exists_eq_left', eq_self, Int.reduceLT, Int.reduceLE, Int.reduceEq, Int.reduceNeg, Int.reduceAdd, Int.reduceSub, forall_const, ne_eq, undef, Nat.reducePow, Nat.reduceDiv, Nat.reduceMod, c1, goR_call (len_bits h), s1]
  exact hQ _ _ _ rfl ⟨rfl, rfl⟩
theorem wrap_nat (z : Int) : ∃ r : Nat, IntKind.u64.wrap z = (r : Int) ∧ r < 18446744073709551616 := by
  have h : 0 ≤ IntKind.u64.wrap z ∧ IntKind.u64.wrap z < 18446744073709551616 := by
    simp only [IntKind.wrap, IntKind.signed, IntKind.bits, Bool.false_and]
    simp
    omega
  exact ⟨(IntKind.u64.wrap z).toNat, by omega, by omega⟩
theorem bin_xor {t : TypeId} {a b : Nat} (ha : a < 18446744073709551616) (hb : b < 18446744073709551616) : binE Try.prog .xor t (.int .u64 (a : Int)) (.int .u64 (b : Int)) m = some (.val (.int .u64 ((a ^^^ b : Nat) : Int)) m) := by
  have hab : a ^^^ b < 18446744073709551616 := Nat.xor_lt_two_pow (n := 64) ha hb
  have e : Op.intBits .xor .u64 (a : Int) (b : Int) = pure (.int .u64 ((a ^^^ b : Nat) : Int)) := by
    show (pure (.int .u64 (IntKind.u64.wrap ((BitVec.ofInt 64 (a : Int) ^^^ BitVec.ofInt 64 (b : Int)).toNat : Nat))) : Sem Value) = _
    rw [BitVec.ofInt_natCast, BitVec.ofInt_natCast, BitVec.toNat_xor, BitVec.toNat_ofNat, BitVec.toNat_ofNat, Nat.mod_eq_of_lt ha, Nat.mod_eq_of_lt hb, wrap_u64 (by omega) (by omega)]
  have key : ans Try.prog (do eqGuard .xor t (.const (.int .u64 (a : Int))) (.const (.int .u64 (b : Int))) (.int .u64 (a : Int)) (.int .u64 (b : Int)); binOp .xor t (.int .u64 (a : Int)) (.int .u64 (b : Int))) = some (.int .u64 ((a ^^^ b : Nat) : Int)) := by
    rw [ans_bind]
    have hg : ans Try.prog (eqGuard .xor t (.const (.int .u64 (a : Int))) (.const (.int .u64 (b : Int))) (.int .u64 (a : Int)) (.int .u64 (b : Int))) = some () := (rfl)
    rw [hg]
    show ans Try.prog (Op.intBits .xor .u64 (a : Int) (b : Int)) = _
    rw [e]
    rfl
  unfold binE
  rw [if_pos (by rfl), key]
  rfl
abbrev rndO (r : Nat) : XObj := { cells := [.int .u64 (r : Int)], rw := true, spare := none, kin := [] }
theorem rnd_put {q r r' : Nat} {m : Mem} (hg : m.get q = some (rndO r)) : ∃ m', storeE m 1 (Pq q) (.int .u64 (r' : Int)) = some (.skip m') ∧ m'.get q = some (rndO r') ∧ Fm (· = q) m m' := by
  refine ⟨_, store1 hg rfl rfl (by simp) rfl rfl, ?_, Fm.set rfl⟩
  rw [put1, Mem.get_set, if_pos rfl]
  rfl
theorem shr7 {m : Mem} {n : Int} : binE Try.prog .shr 97 (.int .u64 n) (.int .u64 7) m = some (.val (.int .u64 (n.fdiv 128)) m) := by kernel_rfl
theorem next_spec {q r : Nat} {m : Mem} (hg : m.get q = some (rndO r)) (hr : r < 18446744073709551616) : Wc 70 [Pq q] m fun v m' => ∃ r' : Nat, v = .int .u64 (r' : Int) ∧ r' < 18446744073709551616 ∧ m'.get q = some (rndO r') ∧ Fm (· = q) m m' := by
  refine call_go (F := _) rfl rfl fun Q hQ => ?_
  obtain ⟨u1, e1, l1⟩ := wrap_nat ((r : Int) * 2 ^ 13)
  have b1 : ∀ m : Mem, binE Try.prog .shl 97 (.int .u64 (r : Int)) (.int .u64 13) m = some (.val (.int .u64 (u1 : Int)) m) := fun m => by rw [← e1]; kernel_rfl
  have x1 : ∀ m : Mem, binE Try.prog .xor 97 (.int .u64 (r : Int)) (.int .u64 (u1 : Int)) m = some (.val (.int .u64 ((r ^^^ u1 : Nat) : Int)) m) := fun m => bin_xor hr l1
  have k1 : r ^^^ u1 < 18446744073709551616 := Nat.xor_lt_two_pow (n := 64) hr l1
  obtain ⟨r1, hr1⟩ : ∃ r1, r ^^^ u1 = r1 := ⟨_, rfl⟩
  rw [hr1] at k1 x1
  obtain ⟨m1, s1, g1, f1⟩ := rnd_put (r' := r1) hg
  have b2 : ∀ m : Mem, binE Try.prog .shr 97 (.int .u64 (r1 : Int)) (.int .u64 7) m = some (.val (.int .u64 ((r1 / 128 : Nat) : Int)) m) := fun m => by
    rw [shr7, Int.fdiv_eq_ediv_of_nonneg _ (by decide)]
    rfl
  have x2 : ∀ m : Mem, binE Try.prog .xor 97 (.int .u64 (r1 : Int)) (.int .u64 ((r1 / 128 : Nat) : Int)) m = some (.val (.int .u64 ((r1 ^^^ (r1 / 128) : Nat) : Int)) m) := fun m => bin_xor k1 (by omega)
  have k2 : r1 ^^^ (r1 / 128) < 18446744073709551616 := Nat.xor_lt_two_pow (n := 64) k1 (by omega)
  obtain ⟨r2, hr2⟩ : ∃ r2, r1 ^^^ (r1 / 128) = r2 := ⟨_, rfl⟩
  rw [hr2] at k2 x2
  obtain ⟨m2, s2, g2, f2⟩ := rnd_put (r' := r2) g1
  obtain ⟨u3, e3, l3⟩ := wrap_nat ((r2 : Int) * 2 ^ 17)
  have b3 : ∀ m : Mem, binE Try.prog .shl 97 (.int .u64 (r2 : Int)) (.int .u64 17) m = some (.val (.int .u64 (u3 : Int)) m) := fun m => by rw [← e3]; kernel_rfl
  have x3 : ∀ m : Mem, binE Try.prog .xor 97 (.int .u64 (r2 : Int)) (.int .u64 (u3 : Int)) m = some (.val (.int .u64 ((r2 ^^^ u3 : Nat) : Int)) m) := fun m => bin_xor k2 l3
  have k3 : r2 ^^^ u3 < 18446744073709551616 := Nat.xor_lt_two_pow (n := 64) k2 l3
  obtain ⟨r3, hr3⟩ : ∃ r3, r2 ^^^ u3 = r3 := ⟨_, rfl⟩
  rw [hr3] at k3 x3
  obtain ⟨m3, s3, g3, f3⟩ := rnd_put (r' := r3) g2
  simp only [symA, symF, Nat.reduceOr, Nat.reduceAnd, Nat.reduceShiftLeft, Nat.zero_or, symB, wantedX, X.put, X.look, Arg.ev, keepOf, restrict, evs, evO, initEnv, xres, tup, noTup, cls, quiet, Nat.reduceAdd, Nat.reduceEqDiff, ↓reduceIte, reduceCtorEq, goInt, exists_eq_left', eq_self, Int.reduceLT, Int.reduceLE, Int.reduceEq, Int.reduceNeg, Int.reduceAdd, Int.reduceSub, forall_const, ne_eq, undef, Nat.reducePow, Nat.reduceDiv, Nat.reduceMod]
  refine goF_of ?_
  simp only [symA, symF, Nat.reduceOr, Nat.reduceAnd, Nat.reduceShiftLeft, Nat.zero_or, symB, wantedX, X.put, X.look, Arg.ev, keepOf, restrict, evs, evO, initEnv, xres, tup, noTup, cls, quiet, Nat.reduceAdd, Nat.reduceEqDiff, ↓reduceIte, reduceCtorEq, goInt, exists_eq_left', eq_self, Int.reduceLT, Int.reduceLE, Int.reduceEq, Int.reduceNeg, Int.reduceAdd, Int.reduceSub, forall_const, ne_eq, undef, Nat.reducePow, Nat.reduceDiv, Nat.reduceMod, hg, b1, x1, s1]
  refine goF_of ?_
  simp only [symA, symF, Nat.reduceOr, Nat.reduceAnd, Nat.reduceShiftLeft, Nat.zero_or, symB, wantedX, X.put, X.look, Arg.ev, keepOf, restrict, evs, evO, initEnv, xres, tup, noTup, cls, quiet, Nat.reduceAdd, Nat.reduceEqDiff, ↓reduceIte, reduceCtorEq, goInt, exists_eq_left', eq_self, Int.reduceLT, Int.reduceLE, Int.reduceEq, Int.reduceNeg, Int.reduceAdd, Int.reduceSub, forall_const, ne_eq, undef, Nat.reducePow, Nat.reduceDiv, Nat.reduceMod, g1, b2, x2, s2]
  refine goF_of ?_
  simp only [symA, symF, Nat.reduceOr, Nat.reduceAnd, Nat.reduceShiftLeft, Nat.zero_or, symB, wantedX, X.put, X.look, Arg.ev, keepOf, restrict, evs, evO, initEnv, xres, tup, noTup, cls, quiet, Nat.reduceAdd, Nat.reduceEqDiff, ↓reduceIte, reduceCtorEq, goInt, exists_eq_left', eq_self, Int.reduceLT, Int.reduceLE, Int.reduceEq, Int.reduceNeg, Int.reduceAdd, Int.reduceSub, forall_const, ne_eq, undef, Nat.reducePow, Nat.reduceDiv, Nat.reduceMod, g2, b3, x3, s3, g3]
  exact hQ _ _ _ rfl ⟨r3, rfl, k3, g3, (f1.trans f2).trans f3⟩

theorem break_spec {a b : Nat} (h : OwnK F m id cap n ks) (hab : a < b) (hb : b ≤ n) (hn : n ≤ 255) : Wc 57 [SV id n cap, I a, I b] m fun v m' => v = tup [] ∧ ∃ ks', OwnK F m' id cap n ks' ∧ Pm a b ks ks' ∧ Fm (· ∈ F) m m' := by
  refine call_go (F := _) rfl rfl fun Q hQ => ?_
  obtain ⟨L, hL⟩ : ∃ L, b - a = L := ⟨_, rfl⟩
  have w0 : IntKind.i64.wrap ((b : Int) - (a : Int)) = (L : Int) := by rw [wrap_i64 (by omega) (by omega)]; omega
  by_cases h8 : L < 8
  · have h8' : ¬ (8 : Int) ≤ (L : Int) := by omega
    simp only [symA, go_opsd, symB, wantedX, X.put, X.look, Arg.ev, keepOf, restrict, evs, evO, initEnv, xres, tup, noTup, cls, quiet, Nat.reduceAdd, Nat.reduceEqDiff, ↓reduceIte, reduceCtorEq, goInt, exists_eq_left', eq_self, Int.reduceLT, Int.reduceLE, Int.reduceEq, Int.reduceNeg, Int.reduceAdd, Int.reduceSub, forall_const, ne_eq, undef, Nat.reducePow, Nat.reduceDiv, Nat.reduceMod, w0, h8']
    exact hQ _ _ _ rfl ⟨rfl, ks, h, .refl, .refl⟩
  · have h8' : (8 : Int) ≤ (L : Int) := by omega
    have hL256 : L < 256 := by omega
    have c1 : ∀ m : Mem, convE Try.prog 3 97 m (I (L : Int)) = some (.val (.int .u64 (L : Int)) m) := fun m => conv_ui (by kernel_rfl) hL256
    obtain ⟨m1, hm1⟩ : ∃ m1, m.push { cells := [.int .u64 0], rw := true, spare := none, kin := [] } = m1 := ⟨_, rfl⟩
    have f1 : Fm (fun _ => False) m m1 := hm1 ▸ .push
    have g1 : m1.get m.next = some (rndO 0) := by rw [← hm1, push_self]; rfl
    obtain ⟨m2, s2, g2, f2⟩ := rnd_put (r' := L) g1
    have hlt := h.own.lt
    have hq : m.next ∉ F := fun hq => by have := hlt _ hq; omega
    have o2 : OwnK F m2 id cap n ks := (h.fr f1 (fun _ _ h => h)).cnt f2 hq
    have kn := npot_spec (m := m2) hL256 (by omega)
    obtain ⟨_, hp1, hp2⟩ := bl_at hL256 (by omega : 0 < L)
    obtain ⟨M, hM⟩ : ∃ M, 2 ^ bl L = M := ⟨_, rfl⟩
    rw [hM] at kn hp1 hp2
    have q4 : ∀ m : Mem, binE Try.prog .quo 3 (I (L : Int)) (I 4) m = some (.val (I ((L / 4 : Nat) : Int)) m) := fun m => by
      rw [bin_quo (by decide), Int.tdiv_eq_ediv_of_nonneg (by omega), wrap_i64 (by omega) (by omega)]
      rfl
    have m2' : IntKind.i64.wrap (((L / 4 : Nat) : Int) * 2) = ((L / 4 * 2 : Nat) : Int) := by rw [wrap_i64 (by omega) (by omega)]; omega
    have a2 : IntKind.i64.wrap ((a : Int) + ((L / 4 * 2 : Nat) : Int)) = ((a + L / 4 * 2 : Nat) : Int) := by rw [wrap_i64 (by omega) (by omega)]; omega
    have a3 : IntKind.i64.wrap (((a + L / 4 * 2 : Nat) : Int) - 1) = ((a + L / 4 * 2 - 1 : Nat) : Int) := by rw [wrap_i64 (by omega) (by omega)]; omega
    have a4 : IntKind.i64.wrap (((a + L / 4 * 2 : Nat) : Int) + 1) = ((a + L / 4 * 2 + 1 : Nat) : Int) := by rw [wrap_i64 (by omega) (by omega)]; omega
    have mm : IntKind.u64.wrap ((M : Int) - 1) = ((M - 1 : Nat) : Int) := by rw [wrap_u64 (by omega) (by omega)]; omega
    simp only [symA, symF, Nat.reduceOr, Nat.reduceAnd, Nat.reduceShiftLeft, Nat.zero_or, symB, wantedX, X.put, X.look, Arg.ev, keepOf, restrict, evs, evO, initEnv, xres, tup, noTup, cls, quiet, Nat.reduceAdd, Nat.reduceEqDiff, ↓reduceIte, reduceCtorEq, goInt, exists_eq_left', eq_self, Int.reduceLT, Int.reduceLE, Int.reduceEq, Int.reduceNeg, Int.reduceAdd, Int.reduceSub, forall_const, ne_eq, undef, Nat.reducePow, Nat.reduceDiv, Nat.reduceMod, w0, h8', c1, hm1, s2, goR_call kn, q4, m2', a2, a3]
    refine loop_go (fun k e m' => ∃ (x r : Nat) (l : List ByteArray), a + L / 4 * 2 - 1 ≤ x ∧ x ≤ a + L / 4 * 2 + 2 ∧ k = a + L / 4 * 2 + 2 - x ∧ OwnK F m' id cap n l ∧ Pm a b ks l ∧ m'.get m.next = some (rndO r) ∧ r < 18446744073709551616 ∧ Fm (fun z => z = m.next ∨ z ∈ F) m1 m' ∧
      e = [(0, SV id n cap), (1, I a), (6, I L), (7, Pq m.next), (8, .int .u64 (M : Int)), (9, I x)]) 3 ⟨a + L / 4 * 2 - 1, L, ks, Nat.le_refl _, by omega, by omega, o2, .refl, g2, by omega, f2.mono fun _ _ h => .inl h, rfl⟩ ?_
    rintro k e m3 N3 B3 hN3 hB3 ⟨x, r, l, hx1, hx2, rfl, o3, p3, g3, hr, f3, rfl⟩
    have hl3 := o3.len
    by_cases hxt : x ≤ a + L / 4 * 2 + 1
    · have hxt' : (x : Int) ≤ ((a + L / 4 * 2 + 1 : Nat) : Int) := by omega
      have wx : IntKind.i64.wrap ((x : Int) + 1) = ((x + 1 : Nat) : Int) := by rw [wrap_i64 (by omega) (by omega)]; omega
      obtain ⟨_, m4, kx, r', rfl, hr', g4, f4⟩ := next_spec g3 hr
      obtain ⟨w, hw⟩ : ∃ w, r' &&& (M - 1) = w := ⟨_, rfl⟩
      have hwM : w < M := by
        have : w ≤ M - 1 := by rw [← hw]; exact Nat.and_le_right
        omega
      have ba : ∀ m : Mem, binE Try.prog .and 78 (.int .u64 (r' : Int)) (.int .u64 ((M - 1 : Nat) : Int)) m = some (.val (.int .u64 (w : Int)) m) := fun m => by rw [← hw]; exact bin_and hr' (by omega)
      have cb : ∀ m : Mem, convE Try.prog 78 3 m (.int .u64 (w : Int)) = some (.val (I (w : Int)) m) := fun m => by
        have : convE Try.prog 78 3 m (.int .u64 (w : Int)) = some (.val (I (IntKind.i64.wrap (w : Int))) m) := by kernel_rfl
        rw [this, wrap_i64 (by omega) (by omega)]
      have o4 : OwnK F m4 id cap n l := o3.cnt f4 hq
      have go : ∀ z, z < L → ∃ u v o m5 m6, l[x]? = some u ∧ l[a + z]? = some v ∧ m4.get id = some o ∧ o.cells[x]? = some (.string u) ∧ o.cells[a + z]? = some (.string v) ∧ x < n ∧ a + z < n ∧ IntKind.i64.wrap ((a : Int) + (z : Int)) = ((a + z : Nat) : Int) ∧ storeE m4 1 (.pointer (some ⟨id, x, none⟩)) (.string v) = some (.skip m5) ∧ storeE m5 1 (.pointer (some ⟨id, a + z, none⟩)) (.string u) = some (.skip m6) ∧
          N3 [(0, SV id n cap), (1, I a), (6, I L), (7, Pq m.next), (8, .int .u64 (M : Int)), (9, I (x + 1 : Nat))] m6 := fun z hz => by
        obtain ⟨u, hu⟩ : ∃ u, l[x]? = some u := ⟨_, List.getElem?_eq_getElem (by omega)⟩
        obtain ⟨v, hv⟩ : ∃ v, l[a + z]? = some v := ⟨_, List.getElem?_eq_getElem (by omega)⟩
        obtain ⟨m5, m6, t1, t2, o6, f6⟩ := o4.swap hu hv
        obtain ⟨oo, hoo, c1, c2, n1, n2⟩ := o4.rd2 hu hv
        refine ⟨u, v, oo, m5, m6, hu, hv, hoo, c1, c2, n1, n2, by rw [wrap_i64 (by omega) (by omega)]; omega, t1, t2, hN3 _ _ (a + L / 4 * 2 + 2 - (x + 1)) (by omega) ⟨x + 1, r', _, by omega, by omega, rfl, o6, p3.trans (sw_pm hu hv (by omega) (by omega) (by omega) (by omega)), ?_, hr', (f3.trans (f4.mono fun _ _ h => .inl h)).trans (f6.mono fun _ _ h => .inr h), rfl⟩⟩
        have hn3 := f3.next
        have hn4 := f4.next
        have hn1 : m1.next = m.next + 1 := by rw [← hm1]; simp
        exact f6.get (by omega) hq g4
      by_cases hwl : w < L
      · have hwl' : ¬ (L : Int) ≤ (w : Int) := by omega
        obtain ⟨u, v, oo, m5, m6, hu, hv, hoo, c1, c2, n1, n2, wz, t1, t2, hfin⟩ := go w hwl
        simp only [symA, symF, Nat.reduceOr, Nat.reduceAnd, Nat.reduceShiftLeft, Nat.zero_or, symB, wantedX, X.put, X.look, Arg.ev, keepOf, restrict, evs, evO, initEnv, xres, tup, noTup, cls, quiet, Nat.reduceAdd, Nat.reduceEqDiff, ↓reduceIte, reduceCtorEq, goInt, exists_eq_left', eq_self, Int.reduceLT, Int.reduceLE, Int.reduceEq, Int.reduceNeg, Int.reduceAdd, Int.reduceSub, forall_const, ne_eq, undef, Nat.reducePow, Nat.reduceDiv, Nat.reduceMod, q4, m2', a2, a4, hxt', goR_call kx, mm, ba, cb, hwl']
        refine goF_of ?_
        simp only [symA, symF, Nat.reduceOr, Nat.reduceAnd, Nat.reduceShiftLeft, Nat.zero_or, symB, wantedX, X.put, X.look, Arg.ev, keepOf, restrict, evs, evO, initEnv, xres, tup, noTup, cls, quiet, Nat.reduceAdd, Nat.reduceEqDiff, ↓reduceIte, reduceCtorEq, goInt, exists_eq_left', eq_self, Int.reduceLT, Int.reduceLE, Int.reduceEq, Int.reduceNeg, Int.reduceAdd, Int.reduceSub, forall_const, ne_eq, undef, Nat.reducePow, Nat.reduceDiv, Nat.reduceMod, wz, n1, n2, hoo, c1, c2, t1, t2, wx]
        exact hfin
      · have hwl' : (L : Int) ≤ (w : Int) := by omega
        have wl : IntKind.i64.wrap ((w : Int) - (L : Int)) = ((w - L : Nat) : Int) := by rw [wrap_i64 (by omega) (by omega)]; omega
        obtain ⟨u, v, oo, m5, m6, hu, hv, hoo, c1, c2, n1, n2, wz, t1, t2, hfin⟩ := go (w - L) (by omega)
        simp only [symA, symF, Nat.reduceOr, Nat.reduceAnd, Nat.reduceShiftLeft, Nat.zero_or, symB, wantedX, X.put, X.look, Arg.ev, keepOf, restrict, evs, evO, initEnv, xres, tup, noTup, cls, quiet, Nat.reduceAdd, Nat.reduceEqDiff, ↓reduceIte, reduceCtorEq, goInt, exists_eq_left', eq_self, Int.reduceLT, Int.reduceLE, Int.reduceEq, Int.reduceNeg, Int.reduceAdd, Int.reduceSub, forall_const, ne_eq, undef, Nat.reducePow, Nat.reduceDiv, Nat.reduceMod, q4, m2', a2, a4, hxt', goR_call kx, mm, ba, cb, hwl', wl]
        refine goF_of ?_
        simp only [symA, symF, Nat.reduceOr, Nat.reduceAnd, Nat.reduceShiftLeft, Nat.zero_or, symB, wantedX, X.put, X.look, Arg.ev, keepOf, restrict, evs, evO, initEnv, xres, tup, noTup, cls, quiet, Nat.reduceAdd, Nat.reduceEqDiff, ↓reduceIte, reduceCtorEq, goInt, exists_eq_left', eq_self, Int.reduceLT, Int.reduceLE, Int.reduceEq, Int.reduceNeg, Int.reduceAdd, Int.reduceSub, forall_const, ne_eq, undef, Nat.reducePow, Nat.reduceDiv, Nat.reduceMod, wz, n1, n2, hoo, c1, c2, t1, t2, wx]
        exact hfin
    · have hxt' : ¬ (x : Int) ≤ ((a + L / 4 * 2 + 1 : Nat) : Int) := by omega
      simp only [symA, symF, Nat.reduceOr, Nat.reduceAnd, Nat.reduceShiftLeft, Nat.zero_or, symB, wantedX, X.put, X.look, Arg.ev, keepOf, restrict, evs, evO, initEnv, xres, tup, noTup, cls, quiet, Nat.reduceAdd, Nat.reduceEqDiff, ↓reduceIte, reduceCtorEq, goInt, exists_eq_left', eq_self, Int.reduceLT, Int.reduceLE, Int.reduceEq, Int.reduceNeg, Int.reduceAdd, Int.reduceSub, forall_const, ne_eq, undef, Nat.reducePow, Nat.reduceDiv, Nat.reduceMod, q4, m2', a2, a4, hxt']
      refine hB3 _ _ _ ?_
      simp only [symA, symF, Nat.reduceOr, Nat.reduceAnd, Nat.reduceShiftLeft, Nat.zero_or, symB, wantedX, X.put, X.look, Arg.ev, keepOf, restrict, evs, evO, initEnv, xres, tup, noTup, cls, quiet, Nat.reduceAdd, Nat.reduceEqDiff, ↓reduceIte, reduceCtorEq, goInt, exists_eq_left', eq_self, Int.reduceLT, Int.reduceLE, Int.reduceEq, Int.reduceNeg, Int.reduceAdd, Int.reduceSub, forall_const, ne_eq, undef, Nat.reducePow, Nat.reduceDiv, Nat.reduceMod]
      refine hQ _ _ _ rfl ⟨rfl, l, o3, p3, (f1.mono fun _ _ h => h.elim : Fm (· ∈ F) m m1).comp f3 fun z hz h => h.elim (fun e => by omega) (fun h => h)⟩
end
end Go.Proofs.Ytlldfkapaeidoaa
