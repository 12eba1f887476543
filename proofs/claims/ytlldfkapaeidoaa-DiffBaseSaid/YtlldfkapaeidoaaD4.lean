/-
  Own work. What the functions come to: may entries be.
-/
import Derived.Test.YtlldfkapaeidoaaD3
namespace Go.Proofs.Ytlldfkapaeidoaa
open Go X
set_option maxRecDepth 100000
set_option linter.unusedVariables false
set_option linter.unusedSimpArgs false

theorem right {b : Nat} {m : Mem} {v : Value} {vs : List Ent} (h : RdE b m v vs) (hw : ∀ x ∈ vs, x.Wf) (hl : vs.length ≤ 4611686018427387903) (hb : b ≤ m.next) : ∃ m', Ca 23 [v] m (.bool (okE none vs)) m' ∧ Nx m m' := by
  have key : Wc 23 [v] m fun r m' => r = .bool (okE none vs) ∧ Nx m m' := by
    refine call_go (F := _) rfl rfl fun Q hQ => ?_
    obtain ⟨p, c, rfl⟩ := rdE_slice h
    simp only [symA, go_opsd, symB, wantedX, X.put, X.look, Arg.ev, keepOf, restrict, evs, evO, initEnv, xres, tup, noTup, cls, quiet, Nat.reduceAdd, Nat.reduceEqDiff, ↓reduceIte, reduceCtorEq, goInt, exists_eq_left', eq_self, Int.reduceLT, Int.reduceLE, Int.reduceEq, Int.reduceNeg, Int.reduceAdd, Int.reduceSub, forall_const, ne_eq, undef, Nat.reducePow, Nat.reduceDiv, Nat.reduceMod]
    refine loop_go (fun j e m' => Nx m m' ∧ ∃ i : Nat, i ≤ vs.length ∧ j = vs.length - i ∧ okE none vs = okE (lastE vs i) (vs.drop i) ∧ e = [(0, .slice p vs.length c), (5, .slice p vs.length c), (6, I vs.length), (7, I i)]) vs.length ⟨.refl, 0, by omega, rfl, rfl, rfl⟩ ?_
    rintro j e m1 N' B' hN hB ⟨hnx, i, hi, rfl, hok, rfl⟩
    have h1 := h.fr hnx hb (fun _ h => h.elim)
    by_cases hlt : i < vs.length
    · have hlt' : (i : Int) < (vs.length : Int) := by omega
      obtain ⟨x, hx⟩ : ∃ x, vs[i]? = some x := ⟨_, List.getElem?_eq_getElem hlt⟩
      have hwx := hw x (List.mem_of_getElem? hx)
      obtain ⟨a, c', hv, ⟨o, hg, c0, c1, c2, c3, c4⟩, l5, l3⟩ := rdE_at h1 hx
      cases hv
      have w1 : IntKind.i64.wrap ((i : Int) + 1) = ((i + 1 : Nat) : Int) := by rw [wrap_i64 (by omega) (by omega)]; omega
      have hd : vs.drop i = x :: vs.drop (i + 1) := by
        obtain ⟨_, rfl⟩ := List.getElem?_eq_some_iff.1 hx
        exact List.drop_eq_getElem_cons hlt
      rw [hd, okE] at hok
      have hnext := lastE_succ hx
      obtain ⟨m2, st, g2, f2, n2⟩ := new_store (m := m1) (z := [.string .empty, I 0, .bool false, .string .empty, U 0]) (row := x.row) (n := 5) rfl rfl (by omega)
      have f12 : Nx m m2 := hnx.comp f2 fun _ _ h => h
      have k1 := key_spec (m := m2) (t := x.key)
      have l2 : ldA m2 3 (.pointer (some ⟨m1.next, 2, none⟩)) = some (.val (.agg ⟨valL x.num x.text x.bits⟩) m2) := by simp [ldA, xload, g2]
      obtain ⟨m3, r1, r2⟩ := vright_spec (m := m2) (n := x.num) (t := x.text) hwx.bits
      have g3 : m3.get m1.next = some { cells := x.row, rw := true, spare := none, kin := [] } := r2.get (by omega) (fun h => h) g2
      have l4 : ldA m3 3 (.pointer (some ⟨m1.next, 2, none⟩)) = some (.val (.agg ⟨valL x.num x.text x.bits⟩) m3) := by simp [ldA, xload, g3]
      have f3 : Nx m m3 := f12.comp r2 fun _ _ h => h
      cases hk : keyOk x.key with
      | false =>
        rw [hk] at k1
        have e : okE none vs = false := by rw [hok, rightE, hk]; simp
        rw [e] at hQ
        simp only [symA, go_opsd, symB, wantedX, X.put, X.look, Arg.ev, keepOf, restrict, evs, evO, initEnv, xres, tup, noTup, cls, quiet, Nat.reduceAdd, Nat.reduceEqDiff, ↓reduceIte, reduceCtorEq, goInt, exists_eq_left', eq_self, Int.reduceLT, Int.reduceLE, Int.reduceEq, Int.reduceNeg, Int.reduceAdd, Int.reduceSub, forall_const, ne_eq, undef, Nat.reducePow, Nat.reduceDiv, Nat.reduceMod, hlt, hlt', l5, st, g2, goDV3c k1]
        exact hQ _ _ _ rfl ⟨rfl, f12⟩
      | true =>
      rw [hk] at k1
      cases hr : vright x.num x.text x.bits with
      | false =>
        rw [hr] at r1
        have e : okE none vs = false := by rw [hok, rightE, hr]; simp
        rw [e] at hQ
        simp only [symA, go_opsd, symB, wantedX, X.put, X.look, Arg.ev, keepOf, restrict, evs, evO, initEnv, xres, tup, noTup, cls, quiet, Nat.reduceAdd, Nat.reduceEqDiff, ↓reduceIte, reduceCtorEq, goInt, exists_eq_left', eq_self, Int.reduceLT, Int.reduceLE, Int.reduceEq, Int.reduceNeg, Int.reduceAdd, Int.reduceSub, forall_const, ne_eq, undef, Nat.reducePow, Nat.reduceDiv, Nat.reduceMod, hlt, hlt', l5, st, g2, goDV3c k1, l2, goDV3c r1]
        exact hQ _ _ _ rfl ⟨rfl, f3⟩
      | true =>
      rw [hr] at r1
      by_cases hs : x.seq < 1
      · have hs' : decide (1 ≤ x.seq) = false := decide_eq_false (by omega)
        have e : okE none vs = false := by rw [hok, rightE, hs']; simp
        rw [e] at hQ
        simp only [symA, go_opsd, symB, wantedX, X.put, X.look, Arg.ev, keepOf, restrict, evs, evO, initEnv, xres, tup, noTup, cls, quiet, Nat.reduceAdd, Nat.reduceEqDiff, ↓reduceIte, reduceCtorEq, goInt, exists_eq_left', eq_self, Int.reduceLT, Int.reduceLE, Int.reduceEq, Int.reduceNeg, Int.reduceAdd, Int.reduceSub, forall_const, ne_eq, undef, Nat.reducePow, Nat.reduceDiv, Nat.reduceMod, hlt, hlt', l5, st, g2, goDV3c k1, l2, goDV3c r1, g3, hs]
        exact hQ _ _ _ rfl ⟨rfl, f3⟩
      have hre : rightE x = true := by
        have hs' : decide (1 ≤ x.seq) = true := decide_eq_true (by omega)
        rw [rightE, hk, hr, hs']; rfl
      rw [hre, Bool.true_and] at hok
      by_cases hi0 : (0 : Int) < (i : Int)
      · obtain ⟨y, hy⟩ : ∃ y, vs[i - 1]? = some y := ⟨_, List.getElem?_eq_getElem (by omega)⟩
        obtain ⟨a', c'', hv', ⟨o', hg', d0, d1, d2, d3, d4⟩, k5, k3⟩ := rdE_at (h.fr f3 hb (fun _ h => h.elim)) hy
        cases hv'
        have w2 : IntKind.i64.wrap ((i : Int) - 1) = ((i - 1 : Nat) : Int) := by rw [wrap_i64 (by omega) (by omega)]; omega
        have hlt2 : i - 1 < vs.length := by omega
        have hla : lastE vs i = some y.key := by
          obtain ⟨k, rfl⟩ : ∃ k, i = k + 1 := ⟨i - 1, by omega⟩
          exact lastE_succ hy
        rw [hla, prevOk] at hok
        by_cases hge : ltT y.key x.key
        · have hdec : decide (ltT y.key x.key) = true := decide_eq_true hge
          rw [hdec, Bool.true_and, ← hnext] at hok
          simp only [symA, go_opsd, symB, wantedX, X.put, X.look, Arg.ev, keepOf, restrict, evs, evO, initEnv, xres, tup, noTup, cls, quiet, Nat.reduceAdd, Nat.reduceEqDiff, ↓reduceIte, reduceCtorEq, goInt, exists_eq_left', eq_self, Int.reduceLT, Int.reduceLE, Int.reduceEq, Int.reduceNeg, Int.reduceAdd, Int.reduceSub, forall_const, ne_eq, undef, Nat.reducePow, Nat.reduceDiv, Nat.reduceMod, hlt, hlt', l5, st, g2, goDV3c k1, l2, goDV3c r1, g3, hs, hi0, w2, hlt2, hg', d0, bin_sgeq, hge, w1]
          exact hN _ _ (vs.length - (i + 1)) (by omega) ⟨f3, i + 1, by omega, rfl, hok, rfl⟩
        · have hdec : decide (ltT y.key x.key) = false := decide_eq_false hge
          have e : okE none vs = false := by rw [hok, hdec]; rfl
          rw [e] at hQ
          simp only [symA, go_opsd, symB, wantedX, X.put, X.look, Arg.ev, keepOf, restrict, evs, evO, initEnv, xres, tup, noTup, cls, quiet, Nat.reduceAdd, Nat.reduceEqDiff, ↓reduceIte, reduceCtorEq, goInt, exists_eq_left', eq_self, Int.reduceLT, Int.reduceLE, Int.reduceEq, Int.reduceNeg, Int.reduceAdd, Int.reduceSub, forall_const, ne_eq, undef, Nat.reducePow, Nat.reduceDiv, Nat.reduceMod, hlt, hlt', l5, st, g2, goDV3c k1, l2, goDV3c r1, g3, hs, hi0, w2, hlt2, hg', d0, bin_sgeq, hge]
          exact hQ _ _ _ rfl ⟨rfl, f3⟩
      · have hla : lastE vs i = none := by rw [show i = 0 by omega]; rfl
        rw [hla, prevOk, Bool.true_and, ← hnext] at hok
        simp only [symA, go_opsd, symB, wantedX, X.put, X.look, Arg.ev, keepOf, restrict, evs, evO, initEnv, xres, tup, noTup, cls, quiet, Nat.reduceAdd, Nat.reduceEqDiff, ↓reduceIte, reduceCtorEq, goInt, exists_eq_left', eq_self, Int.reduceLT, Int.reduceLE, Int.reduceEq, Int.reduceNeg, Int.reduceAdd, Int.reduceSub, forall_const, ne_eq, undef, Nat.reducePow, Nat.reduceDiv, Nat.reduceMod, hlt, hlt', l5, st, g2, goDV3c k1, l2, goDV3c r1, g3, hs, hi0, w1]
        exact hN _ _ (vs.length - (i + 1)) (by omega) ⟨f3, i + 1, by omega, rfl, hok, rfl⟩
    · have hlt' : ¬ (i : Int) < (vs.length : Int) := by omega
      have hd : vs.drop i = [] := List.drop_eq_nil_of_le (by omega)
      rw [hd] at hok
      rw [hok] at hQ
      simp only [symA, go_opsd, symB, wantedX, X.put, X.look, Arg.ev, keepOf, restrict, evs, evO, initEnv, xres, tup, noTup, cls, quiet, Nat.reduceAdd, Nat.reduceEqDiff, ↓reduceIte, reduceCtorEq, goInt, exists_eq_left', eq_self, Int.reduceLT, Int.reduceLE, Int.reduceEq, Int.reduceNeg, Int.reduceAdd, Int.reduceSub, forall_const, ne_eq, undef, Nat.reducePow, Nat.reduceDiv, Nat.reduceMod, hlt']
      refine hB _ _ _ ?_
      simp only [symA, go_opsd, symB, wantedX, X.put, X.look, Arg.ev, keepOf, restrict, evs, evO, initEnv, xres, tup, noTup, cls, quiet, Nat.reduceAdd, Nat.reduceEqDiff, ↓reduceIte, reduceCtorEq, goInt, exists_eq_left', eq_self, Int.reduceLT, Int.reduceLE, Int.reduceEq, Int.reduceNeg, Int.reduceAdd, Int.reduceSub, forall_const, ne_eq, undef, Nat.reducePow, Nat.reduceDiv, Nat.reduceMod]
      exact hQ _ _ _ rfl ⟨rfl, hnx⟩
  obtain ⟨r, m', hc, rfl, hf⟩ := key
  exact ⟨m', hc, hf⟩

theorem rright {b : Nat} {m : Mem} {v : Value} {vs : List Ent} (h : RdE b m v vs) (hw : ∀ x ∈ vs, x.Wf) (hl : vs.length ≤ 4611686018427387903) (hb : b ≤ m.next) : ∃ m', Ca 12 [v] m (.bool (okE none vs)) m' ∧ Nx m m' := by
  have key : Wc 12 [v] m fun r m' => r = .bool (okE none vs) ∧ Nx m m' := by
    refine call_go (F := _) rfl rfl fun Q hQ => ?_
    obtain ⟨p, c, rfl⟩ := rdE_slice h
    simp only [symA, go_opsd, symB, wantedX, X.put, X.look, Arg.ev, keepOf, restrict, evs, evO, initEnv, xres, tup, noTup, cls, quiet, Nat.reduceAdd, Nat.reduceEqDiff, ↓reduceIte, reduceCtorEq, goInt, exists_eq_left', eq_self, Int.reduceLT, Int.reduceLE, Int.reduceEq, Int.reduceNeg, Int.reduceAdd, Int.reduceSub, forall_const, ne_eq, undef, Nat.reducePow, Nat.reduceDiv, Nat.reduceMod]
    refine loop_go (fun j e m' => Nx m m' ∧ ∃ i : Nat, i ≤ vs.length ∧ j = vs.length - i ∧ okE none vs = okE (lastE vs i) (vs.drop i) ∧ e = [(0, .slice p vs.length c), (3, I i)]) vs.length ⟨.refl, 0, by omega, rfl, rfl, rfl⟩ ?_
    rintro j e m1 N' B' hN hB ⟨hnx, i, hi, rfl, hok, rfl⟩
    have h1 := h.fr hnx hb (fun _ h => h.elim)
    by_cases hlt : i < vs.length
    · have hlt' : (i : Int) < (vs.length : Int) := by omega
      obtain ⟨x, hx⟩ : ∃ x, vs[i]? = some x := ⟨_, List.getElem?_eq_getElem hlt⟩
      have hwx := hw x (List.mem_of_getElem? hx)
      obtain ⟨a, c', hv, ⟨o, hg, c0, c1, c2, c3, c4⟩, l5, l3⟩ := rdE_at h1 hx
      cases hv
      have w1 : IntKind.i64.wrap ((i : Int) + 1) = ((i + 1 : Nat) : Int) := by rw [wrap_i64 (by omega) (by omega)]; omega
      have hd : vs.drop i = x :: vs.drop (i + 1) := by
        obtain ⟨_, rfl⟩ := List.getElem?_eq_some_iff.1 hx
        exact List.drop_eq_getElem_cons hlt
      rw [hd, okE] at hok
      have hnext := lastE_succ hx
      have f12 := hnx
      have k1 := rkey_spec (m := m1) (t := x.key)
      obtain ⟨m3, r1, r2⟩ := rvright_spec (m := m1) (n := x.num) (t := x.text) hwx.bits
      have f3 : Nx m m3 := f12.comp r2 fun _ _ h => h
      obtain ⟨a2, c2', hv2, ⟨o2, hg2, x0, x1, x2, x3, x4⟩, _, l4⟩ := rdE_at (h.fr f3 hb (fun _ h => h.elim)) hx
      cases hv2
      cases hk : keyOk x.key with
      | false =>
        rw [hk] at k1
        have e : okE none vs = false := by rw [hok, rightE, hk]; simp
        rw [e] at hQ
        simp only [symA, go_opsd, symB, wantedX, X.put, X.look, Arg.ev, keepOf, restrict, evs, evO, initEnv, xres, tup, noTup, cls, quiet, Nat.reduceAdd, Nat.reduceEqDiff, ↓reduceIte, reduceCtorEq, goInt, exists_eq_left', eq_self, Int.reduceLT, Int.reduceLE, Int.reduceEq, Int.reduceNeg, Int.reduceAdd, Int.reduceSub, forall_const, ne_eq, undef, Nat.reducePow, Nat.reduceDiv, Nat.reduceMod, hlt, hlt', hg, c0, goDV3c k1]
        exact hQ _ _ _ rfl ⟨rfl, f12⟩
      | true =>
      rw [hk] at k1
      cases hr : vright x.num x.text x.bits with
      | false =>
        rw [hr] at r1
        have e : okE none vs = false := by rw [hok, rightE, hr]; simp
        rw [e] at hQ
        simp only [symA, go_opsd, symB, wantedX, X.put, X.look, Arg.ev, keepOf, restrict, evs, evO, initEnv, xres, tup, noTup, cls, quiet, Nat.reduceAdd, Nat.reduceEqDiff, ↓reduceIte, reduceCtorEq, goInt, exists_eq_left', eq_self, Int.reduceLT, Int.reduceLE, Int.reduceEq, Int.reduceNeg, Int.reduceAdd, Int.reduceSub, forall_const, ne_eq, undef, Nat.reducePow, Nat.reduceDiv, Nat.reduceMod, hlt, hlt', hg, c0, goDV3c k1, l3, goDV3c r1]
        exact hQ _ _ _ rfl ⟨rfl, f3⟩
      | true =>
      rw [hr] at r1
      by_cases hs : x.seq < 1
      · have hs' : decide (1 ≤ x.seq) = false := decide_eq_false (by omega)
        have e : okE none vs = false := by rw [hok, rightE, hs']; simp
        rw [e] at hQ
        simp only [symA, go_opsd, symB, wantedX, X.put, X.look, Arg.ev, keepOf, restrict, evs, evO, initEnv, xres, tup, noTup, cls, quiet, Nat.reduceAdd, Nat.reduceEqDiff, ↓reduceIte, reduceCtorEq, goInt, exists_eq_left', eq_self, Int.reduceLT, Int.reduceLE, Int.reduceEq, Int.reduceNeg, Int.reduceAdd, Int.reduceSub, forall_const, ne_eq, undef, Nat.reducePow, Nat.reduceDiv, Nat.reduceMod, hlt, hlt', hg, c0, goDV3c k1, l3, goDV3c r1, hg2, x1, hs]
        exact hQ _ _ _ rfl ⟨rfl, f3⟩
      have hre : rightE x = true := by
        have hs' : decide (1 ≤ x.seq) = true := decide_eq_true (by omega)
        rw [rightE, hk, hr, hs']; rfl
      rw [hre, Bool.true_and] at hok
      by_cases hi0 : (0 : Int) < (i : Int)
      · obtain ⟨y, hy⟩ : ∃ y, vs[i - 1]? = some y := ⟨_, List.getElem?_eq_getElem (by omega)⟩
        obtain ⟨a', c'', hv', ⟨o', hg', d0, d1, d2, d3, d4⟩, k5, k3⟩ := rdE_at (h.fr f3 hb (fun _ h => h.elim)) hy
        cases hv'
        rw [hg2] at hg'
        cases hg'
        have w2 : IntKind.i64.wrap ((i : Int) - 1) = ((i - 1 : Nat) : Int) := by rw [wrap_i64 (by omega) (by omega)]; omega
        have hlt2 : i - 1 < vs.length := by omega
        have hla : lastE vs i = some y.key := by
          obtain ⟨k, rfl⟩ : ∃ k, i = k + 1 := ⟨i - 1, by omega⟩
          exact lastE_succ hy
        rw [hla, prevOk] at hok
        by_cases hge : ltT y.key x.key
        · have hdec : decide (ltT y.key x.key) = true := decide_eq_true hge
          rw [hdec, Bool.true_and, ← hnext] at hok
          simp only [symA, go_opsd, symB, wantedX, X.put, X.look, Arg.ev, keepOf, restrict, evs, evO, initEnv, xres, tup, noTup, cls, quiet, Nat.reduceAdd, Nat.reduceEqDiff, ↓reduceIte, reduceCtorEq, goInt, exists_eq_left', eq_self, Int.reduceLT, Int.reduceLE, Int.reduceEq, Int.reduceNeg, Int.reduceAdd, Int.reduceSub, forall_const, ne_eq, undef, Nat.reducePow, Nat.reduceDiv, Nat.reduceMod, hlt, hlt', hg, c0, goDV3c k1, l3, goDV3c r1, hg2, x1, hs, hi0, w2, hlt2, d0, x0, bin_sgeq, hge, w1]
          exact hN _ _ (vs.length - (i + 1)) (by omega) ⟨f3, i + 1, by omega, rfl, hok, rfl⟩
        · have hdec : decide (ltT y.key x.key) = false := decide_eq_false hge
          have e : okE none vs = false := by rw [hok, hdec]; rfl
          rw [e] at hQ
          simp only [symA, go_opsd, symB, wantedX, X.put, X.look, Arg.ev, keepOf, restrict, evs, evO, initEnv, xres, tup, noTup, cls, quiet, Nat.reduceAdd, Nat.reduceEqDiff, ↓reduceIte, reduceCtorEq, goInt, exists_eq_left', eq_self, Int.reduceLT, Int.reduceLE, Int.reduceEq, Int.reduceNeg, Int.reduceAdd, Int.reduceSub, forall_const, ne_eq, undef, Nat.reducePow, Nat.reduceDiv, Nat.reduceMod, hlt, hlt', hg, c0, goDV3c k1, l3, goDV3c r1, hg2, x1, hs, hi0, w2, hlt2, d0, x0, bin_sgeq, hge]
          exact hQ _ _ _ rfl ⟨rfl, f3⟩
      · have hla : lastE vs i = none := by rw [show i = 0 by omega]; rfl
        rw [hla, prevOk, Bool.true_and, ← hnext] at hok
        simp only [symA, go_opsd, symB, wantedX, X.put, X.look, Arg.ev, keepOf, restrict, evs, evO, initEnv, xres, tup, noTup, cls, quiet, Nat.reduceAdd, Nat.reduceEqDiff, ↓reduceIte, reduceCtorEq, goInt, exists_eq_left', eq_self, Int.reduceLT, Int.reduceLE, Int.reduceEq, Int.reduceNeg, Int.reduceAdd, Int.reduceSub, forall_const, ne_eq, undef, Nat.reducePow, Nat.reduceDiv, Nat.reduceMod, hlt, hlt', hg, c0, goDV3c k1, l3, goDV3c r1, hg2, x1, hs, hi0, w1]
        exact hN _ _ (vs.length - (i + 1)) (by omega) ⟨f3, i + 1, by omega, rfl, hok, rfl⟩
    · have hlt' : ¬ (i : Int) < (vs.length : Int) := by omega
      have hd : vs.drop i = [] := List.drop_eq_nil_of_le (by omega)
      rw [hd] at hok
      rw [hok] at hQ
      simp only [symA, go_opsd, symB, wantedX, X.put, X.look, Arg.ev, keepOf, restrict, evs, evO, initEnv, xres, tup, noTup, cls, quiet, Nat.reduceAdd, Nat.reduceEqDiff, ↓reduceIte, reduceCtorEq, goInt, exists_eq_left', eq_self, Int.reduceLT, Int.reduceLE, Int.reduceEq, Int.reduceNeg, Int.reduceAdd, Int.reduceSub, forall_const, ne_eq, undef, Nat.reducePow, Nat.reduceDiv, Nat.reduceMod, hlt']
      refine hB _ _ _ ?_
      simp only [symA, go_opsd, symB, wantedX, X.put, X.look, Arg.ev, keepOf, restrict, evs, evO, initEnv, xres, tup, noTup, cls, quiet, Nat.reduceAdd, Nat.reduceEqDiff, ↓reduceIte, reduceCtorEq, goInt, exists_eq_left', eq_self, Int.reduceLT, Int.reduceLE, Int.reduceEq, Int.reduceNeg, Int.reduceAdd, Int.reduceSub, forall_const, ne_eq, undef, Nat.reducePow, Nat.reduceDiv, Nat.reduceMod]
      exact hQ _ _ _ rfl ⟨rfl, hnx⟩
  obtain ⟨r, m', hc, rfl, hf⟩ := key
  exact ⟨m', hc, hf⟩
end Go.Proofs.Ytlldfkapaeidoaa
