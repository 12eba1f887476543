/-
  Own work. The document's set of writes: what its functions come to.
-/
import Derived.Test.YtecceimgpeookaaV7
import Derived.Test.YtecceimgpeookaaXOwn4
namespace Go.Proofs.Ytecceimgpeookaa
open Go X
set_option maxRecDepth 100000
attribute [local irreducible] X.Go' X.GoO X.GoR X.GoG X.GoC X.GoF X.GoFV X.GoFG X.Ex X.GoD X.GoDV X.GoDG
set_option linter.unusedVariables false
set_option linter.unusedSimpArgs false

theorem sameW_call {b b' : Nat} {m : Mem} {v w : Value} {vs ws : List Wr} (h : RdW b m v vs) (h' : RdW b' m w ws) (hl : vs.length ≤ 4611686018427387903) : Ca 16 [v, w] m (.bool (decide (vs = ws))) m := by
  refine callX_of (call_go (F := _) rfl rfl fun Q hQ => ?_)
  obtain ⟨p, c, rfl⟩ := rdW_slice h
  obtain ⟨p', c', rfl⟩ := rdW_slice h'
  by_cases h0 : (vs.length : Int) = (ws.length : Int)
  · have h0' : vs.length = ws.length := by omega
    simp only [symA, go_opsd, symB, wantedX, X.put, X.look, Arg.ev, keepOf, restrict, evs, evO, initEnv, xres, tup, noTup, cls, quiet, Nat.reduceAdd, Nat.reduceEqDiff, ↓reduceIte, reduceCtorEq, goInt, exists_eq_left', eq_self, Int.reduceLT, Int.reduceLE, Int.reduceEq, Int.reduceNeg, Int.reduceAdd, Int.reduceSub, forall_const, ne_eq, undef, Nat.reducePow, Nat.reduceDiv, Nat.reduceMod, h0]
    refine loop_go (fun j e m' => m' = m ∧ ∃ i : Nat, i ≤ vs.length ∧ j = vs.length - i ∧ vs.take i = ws.take i ∧ e = [(0, .slice p vs.length c), (1, .slice p' ws.length c'), (5, I i)]) vs.length ⟨rfl, 0, by omega, rfl, rfl, rfl⟩ ?_
    rintro j e m' N' B' hN hB ⟨rfl, i, hi, rfl, htk, rfl⟩
    by_cases hlt : i < vs.length
    · have hlt' : (i : Int) < (vs.length : Int) := by omega
      have hlt2 : i < ws.length := by omega
      obtain ⟨x, hx⟩ : ∃ x, vs[i]? = some x := ⟨_, List.getElem?_eq_getElem hlt⟩
      obtain ⟨y, hy⟩ : ∃ y, ws[i]? = some y := ⟨_, List.getElem?_eq_getElem hlt2⟩
      obtain ⟨a, d, hv, _, l5, _⟩ := rdW_at h hx
      cases hv
      obtain ⟨a', d', hv', _, k5, _⟩ := rdW_at h' hy
      cases hv'
      have w1 : IntKind.i64.wrap ((i : Int) + 1) = ((i + 1 : Nat) : Int) := by rw [wrap_i64 (by omega) (by omega)]; omega
      cases hs : sameW x y with
      | false =>
        have n1 := ne49 (m := m') (v := x) (w := y)
        rw [hs] at n1
        have e : decide (vs = ws) = false := decide_eq_false fun he => by
          subst he
          rw [hx] at hy
          cases hy
          have := sameW_iff.2 (rfl : x = x)
          rw [hs] at this
          cases this
        rw [e] at hQ
        simp only [symA, go_opsd, symB, wantedX, X.put, X.look, Arg.ev, keepOf, restrict, evs, evO, initEnv, xres, tup, noTup, cls, quiet, Nat.reduceAdd, Nat.reduceEqDiff, ↓reduceIte, reduceCtorEq, goInt, exists_eq_left', eq_self, Int.reduceLT, Int.reduceLE, Int.reduceEq, Int.reduceNeg, Int.reduceAdd, Int.reduceSub, forall_const, ne_eq, undef, Nat.reducePow, Nat.reduceDiv, Nat.reduceMod, hlt, hlt', hlt2, l5, k5, n1]
        exact hQ _ _ _ rfl ⟨rfl, rfl⟩
      | true =>
        have n1 := ne49 (m := m') (v := x) (w := y)
        rw [hs] at n1
        have hxy := sameW_iff.1 hs
        simp only [symA, go_opsd, symB, wantedX, X.put, X.look, Arg.ev, keepOf, restrict, evs, evO, initEnv, xres, tup, noTup, cls, quiet, Nat.reduceAdd, Nat.reduceEqDiff, ↓reduceIte, reduceCtorEq, goInt, exists_eq_left', eq_self, Int.reduceLT, Int.reduceLE, Int.reduceEq, Int.reduceNeg, Int.reduceAdd, Int.reduceSub, forall_const, ne_eq, undef, Nat.reducePow, Nat.reduceDiv, Nat.reduceMod, hlt, hlt', hlt2, l5, k5, n1, w1]
        exact hN _ _ (vs.length - (i + 1)) (by omega) ⟨rfl, i + 1, by omega, rfl, by rw [List.take_add_one, List.take_add_one, htk, hx, hy, hxy], rfl⟩
    · have hlt' : ¬ (i : Int) < (vs.length : Int) := by omega
      rw [List.take_of_length_le (by omega), List.take_of_length_le (by omega)] at htk
      have e : decide (vs = ws) = true := decide_eq_true htk
      rw [e] at hQ
      simp only [symA, go_opsd, symB, wantedX, X.put, X.look, Arg.ev, keepOf, restrict, evs, evO, initEnv, xres, tup, noTup, cls, quiet, Nat.reduceAdd, Nat.reduceEqDiff, ↓reduceIte, reduceCtorEq, goInt, exists_eq_left', eq_self, Int.reduceLT, Int.reduceLE, Int.reduceEq, Int.reduceNeg, Int.reduceAdd, Int.reduceSub, forall_const, ne_eq, undef, Nat.reducePow, Nat.reduceDiv, Nat.reduceMod, hlt']
      refine hB _ _ _ ?_
      simp only [symA, go_opsd, symB, wantedX, X.put, X.look, Arg.ev, keepOf, restrict, evs, evO, initEnv, xres, tup, noTup, cls, quiet, Nat.reduceAdd, Nat.reduceEqDiff, ↓reduceIte, reduceCtorEq, goInt, exists_eq_left', eq_self, Int.reduceLT, Int.reduceLE, Int.reduceEq, Int.reduceNeg, Int.reduceAdd, Int.reduceSub, forall_const, ne_eq, undef, Nat.reducePow, Nat.reduceDiv, Nat.reduceMod]
      exact hQ _ _ _ rfl ⟨rfl, rfl⟩
  · have e : decide (vs = ws) = false := decide_eq_false fun he => h0 (by rw [he])
    rw [e] at hQ
    simp only [symA, go_opsd, symB, wantedX, X.put, X.look, Arg.ev, keepOf, restrict, evs, evO, initEnv, xres, tup, noTup, cls, quiet, Nat.reduceAdd, Nat.reduceEqDiff, ↓reduceIte, reduceCtorEq, goInt, exists_eq_left', eq_self, Int.reduceLT, Int.reduceLE, Int.reduceEq, Int.reduceNeg, Int.reduceAdd, Int.reduceSub, forall_const, ne_eq, undef, Nat.reducePow, Nat.reduceDiv, Nat.reduceMod, h0]
    exact hQ _ _ _ rfl ⟨rfl, rfl⟩

/-! ## Plain -/
def apR (w : Wr) : Bool → List Wr → List Wr
  | put, [] => if put = true then [] else [w]
  | put, x :: l => if put = false ∧ ¬ ltT x.key w.key then w :: (if x.key = w.key then apR w true l else x :: apR w true l)
    else if x.key = w.key then apR w put l else x :: apR w put l
section
variable {W A B : List Wr} {o : Option Wr} {w : Wr} {k : ByteArray}
theorem apR_lo : ∀ {A : List Wr}, (∀ x ∈ A, ltT x.key w.key) → ∀ l, apR w false (A ++ l) = A ++ apR w false l
  | [], _, l => rfl
  | x :: A, h, l => by
    rw [List.cons_append, apR, if_neg (fun hh => hh.2 (h x (by simp))), if_neg (ltT_ne (h x (by simp))), apR_lo (fun y hy => h y (by simp [hy]))]
    rfl
theorem apR_hi : ∀ {B : List Wr}, (∀ x ∈ B, ltT w.key x.key) → apR w true B = B
  | [], _ => rfl
  | x :: B, h => by
    rw [apR, if_neg (fun hh => by cases hh.1), if_neg (fun e => ltT_ne (h x (by simp)) e.symm), apR_hi (fun y hy => h y (by simp [hy]))]
theorem CutW.ap (h : CutW w.key W A o B) : apR w false W = layW w true W := by
  rw [h.lay, h.eq, apR_lo h.lo, if_pos rfl]
  congr 1
  cases ho : o with
  | some x =>
    have hx := h.mid x ho
    show apR w false (x :: B) = w :: B
    rw [apR, if_pos ⟨rfl, by rw [hx]; exact ltT_irrefl _⟩, if_pos hx, apR_hi h.hi]
  | none =>
    show apR w false B = w :: B
    cases B with
    | nil => rfl
    | cons y B =>
      have hy := h.hi y (by simp)
      rw [apR, if_pos ⟨rfl, ltT_asymm hy⟩, if_neg (fun e => ltT_ne hy e.symm), apR_hi (fun z hz => h.hi z (by simp [hz]))]
end

/-! ## What stands in memory -/
def Sn (H : List Nat) (p : Nat) (FM : List Nat) (m : Mem) (v : Value) (W : List Wr) : Prop := ∃ F, Own2 5 F m v (rowsW W) ∧ ∀ i ∈ F, i ∈ H ∧ i ≠ p ∧ i ∉ FM
structure RefM (H : List Nat) (m : Mem) (p : Nat) (vl vm : Value) (FM : List Nat) (vals : List Value) (W : List Wr) (R : List (List Wr)) : Prop where
  get : m.get p = some { cells := [vl, vm], rw := true, spare := none, kin := [] }
  pl : Sn H p FM m vl W
  om : Own2 1 FM m vm (vals.map fun x => [x])
  vlen : vals.length = R.length
  snaps : ∀ (j : Nat) (S : List Wr), R[j]? = some S → ∃ u, vals[j]? = some u ∧ Sn H p FM m u S
  pM : p ∉ FM
  pH : p ∈ H
  mH : ∀ i ∈ FM, i ∈ H
  lt : ∀ i ∈ H, i < m.next

section
variable {H FM : List Nat} {m m' : Mem} {p : Nat} {vl vm : Value} {vals : List Value} {W : List Wr} {R : List (List Wr)} {k : ByteArray} {w : Wr}
theorem Sn.fr {S : Nat → Prop} {v : Value} (h : Sn H p FM m v W) (hf : Fm S m m') (hs : ∀ i ∈ H, i ≠ p → i ∉ FM → ¬ S i) : Sn H p FM m' v W := by
  obtain ⟨F, h1, h2⟩ := h
  exact ⟨F, h1.fr hf fun i hi => hs i (h2 i hi).1 (h2 i hi).2.1 (h2 i hi).2.2, h2⟩
theorem RefM.fr {S : Nat → Prop} (h : RefM H m p vl vm FM vals W R) (hf : Fm S m m') (hs : ∀ i ∈ H, ¬ S i) : RefM H m' p vl vm FM vals W R :=
  ⟨hf.get (h.lt p h.pH) (hs p h.pH) h.get, h.pl.fr hf fun i hi _ _ => hs i hi, h.om.fr hf fun i hi => hs i (h.mH i hi), h.vlen, fun j S hS => by
    obtain ⟨u, h1, h2⟩ := h.snaps j S hS
    exact ⟨u, h1, h2.fr hf fun i hi _ _ => hs i hi⟩, h.pM, h.pH, h.mH, fun i hi => Nat.lt_of_lt_of_le (h.lt i hi) hf.next⟩
theorem RefM.nx (h : RefM H m p vl vm FM vals W R) (hf : Nx m m') : RefM H m' p vl vm FM vals W R := h.fr hf fun _ _ h => h
theorem RefM.rd (h : RefM H m p vl vm FM vals W R) : RdW m.next m vl W := by
  obtain ⟨F, h1, _⟩ := h.pl
  exact h1.rd (by omega)
theorem RefM.slice (h : RefM H m p vl vm FM vals W R) : ∃ q c, vl = .slice q W.length c := rdW_slice h.rd
theorem RefM.mslice (h : RefM H m p vl vm FM vals W R) : ∃ q c, vm = .slice q R.length c := by
  obtain ⟨q, c, hv⟩ := own_slice h.om (by omega)
  rw [List.length_map, h.vlen] at hv
  exact ⟨q, c, hv⟩

/-- The first one that isn't below, or is above. -/
theorem rfrom_spec {ab : Bool} (h : RefM H m p vl vm FM vals W R) (hl : W.length ≤ 1000) : ∃ m', Ca 23 [Pt p, .string k, .bool ab] m (tupW (fromW ab k W)) m' ∧ Nx m m' := by
  have key : Wc 23 [Pt p, .string k, .bool ab] m fun r m' => r = tupW (fromW ab k W) ∧ Nx m m' := by
    refine call_go (F := _) rfl rfl fun Q hQ => ?_
    obtain ⟨m1, hm1⟩ : ∃ m1, m.push { cells := ZW, rw := true, spare := none, kin := [] } = m1 := ⟨_, rfl⟩
    have g1 : m1.get m.next = some { cells := ZW, rw := true, spare := none, kin := [] } := by rw [← hm1, push_self]
    have f1 : Nx m m1 := hm1 ▸ .push
    have h1 := h.nx f1
    have hg1 := h1.get
    have hrd := h1.rd
    obtain ⟨q, c, rfl⟩ := h1.slice
    simp only [symA, go_opsd, symB, wantedX, X.put, X.look, Arg.ev, keepOf, restrict, evs, evO, initEnv, xres, tup, noTup, cls, quiet, Nat.reduceAdd, Nat.reduceEqDiff, ↓reduceIte, reduceCtorEq, goInt, exists_eq_left', eq_self, Int.reduceLT, Int.reduceLE, Int.reduceEq, Int.reduceNeg, Int.reduceAdd, Int.reduceSub, forall_const, ne_eq, undef, Nat.reducePow, Nat.reduceDiv, Nat.reduceMod, hm1]
    refine loop_go (fun j e m' => m' = m1 ∧ ∃ i : Nat, i ≤ W.length ∧ j = W.length - i ∧ fromW ab k W = fromW ab k (W.drop i) ∧ e = [(0, Pt p), (1, .string k), (2, .bool ab), (6, .pointer (some ⟨m.next, 0, none⟩)), (8, I (i : Int))]) W.length ⟨rfl, 0, by omega, rfl, rfl, rfl⟩ ?_
    rintro j e m' N' B' hN hB ⟨rfl, i, hi, rfl, hfr, rfl⟩
    by_cases hlt : i < W.length
    · have hlt' : (i : Int) < (W.length : Int) := by omega
      obtain ⟨x, hx⟩ : ∃ x, W[i]? = some x := ⟨_, List.getElem?_eq_getElem hlt⟩
      obtain ⟨a, d, hv, ⟨o, hgx, c0, _⟩, l5, _⟩ := rdW_at hrd hx
      cases hv
      have w1 : IntKind.i64.wrap ((i : Int) + 1) = ((i + 1 : Nat) : Int) := by rw [wrap_i64 (by omega) (by omega)]; omega
      have hd : W.drop i = x :: W.drop (i + 1) := by
        obtain ⟨_, rfl⟩ := List.getElem?_eq_some_iff.1 hx
        exact List.drop_eq_getElem_cons hlt
      obtain ⟨m3, s1, s2, s3, s4⟩ := row_store (n := 5) (row := x.row) g1 rfl rfl rfl rfl (by omega)
      have f3 : Nx m m3 := f1.comp s3 fun i hi h => by omega
      by_cases hk : ltT k x.key
      · have e : fromW ab k W = some x := by rw [hfr, hd, fromW, List.find?_cons_of_pos (by simp [hk])]
        rw [e] at hQ
        simp only [symA, go_opsd, symB, wantedX, X.put, X.look, Arg.ev, keepOf, restrict, evs, evO, initEnv, xres, tup, noTup, cls, quiet, Nat.reduceAdd, Nat.reduceEqDiff, ↓reduceIte, reduceCtorEq, goInt, exists_eq_left', eq_self, Int.reduceLT, Int.reduceLE, Int.reduceEq, Int.reduceNeg, Int.reduceAdd, Int.reduceSub, forall_const, ne_eq, undef, Nat.reducePow, Nat.reduceDiv, Nat.reduceMod, hg1, hlt', hlt, hgx, c0, bin_sgtr, hk, l5, s1]
        exact hQ _ _ _ (by exact res_cell5 (row := x.row) (b := true) rfl rfl s2 rfl) ⟨rfl, f3⟩
      · cases ab with
        | true =>
          have e : fromW true k W = fromW true k (W.drop (i + 1)) := by
            rw [hfr, hd, fromW, List.find?_cons_of_neg (by simp [hk])]; rfl
          simp only [symA, go_opsd, symB, wantedX, X.put, X.look, Arg.ev, keepOf, restrict, evs, evO, initEnv, xres, tup, noTup, cls, quiet, Nat.reduceAdd, Nat.reduceEqDiff, ↓reduceIte, reduceCtorEq, goInt, exists_eq_left', eq_self, Int.reduceLT, Int.reduceLE, Int.reduceEq, Int.reduceNeg, Int.reduceAdd, Int.reduceSub, forall_const, ne_eq, undef, Nat.reducePow, Nat.reduceDiv, Nat.reduceMod, hg1, hlt', hlt, hgx, c0, bin_sgtr, hk, w1]
          exact hN _ _ (W.length - (i + 1)) (by omega) ⟨rfl, i + 1, by omega, rfl, e, rfl⟩
        | false =>
          by_cases he : x.key = k
          · have e : fromW false k W = some x := by rw [hfr, hd, fromW, List.find?_cons_of_pos (by simp [he])]
            rw [e] at hQ
            subst he
            simp only [symA, go_opsd, symB, wantedX, X.put, X.look, Arg.ev, keepOf, restrict, evs, evO, initEnv, xres, tup, noTup, cls, quiet, Nat.reduceAdd, Nat.reduceEqDiff, ↓reduceIte, reduceCtorEq, goInt, exists_eq_left', eq_self, Int.reduceLT, Int.reduceLE, Int.reduceEq, Int.reduceNeg, Int.reduceAdd, Int.reduceSub, forall_const, ne_eq, undef, Nat.reducePow, Nat.reduceDiv, Nat.reduceMod, hg1, hlt', hlt, hgx, c0, bin_sgtr, ltT_irrefl x.key, bin_seql, l5, s1]
            exact hQ _ _ _ (by exact res_cell5 (row := x.row) (b := true) rfl rfl s2 rfl) ⟨rfl, f3⟩
          · have e : fromW false k W = fromW false k (W.drop (i + 1)) := by
              rw [hfr, hd, fromW, List.find?_cons_of_neg (by simp [hk, he])]; rfl
            simp only [symA, go_opsd, symB, wantedX, X.put, X.look, Arg.ev, keepOf, restrict, evs, evO, initEnv, xres, tup, noTup, cls, quiet, Nat.reduceAdd, Nat.reduceEqDiff, ↓reduceIte, reduceCtorEq, goInt, exists_eq_left', eq_self, Int.reduceLT, Int.reduceLE, Int.reduceEq, Int.reduceNeg, Int.reduceAdd, Int.reduceSub, forall_const, ne_eq, undef, Nat.reducePow, Nat.reduceDiv, Nat.reduceMod, hg1, hlt', hlt, hgx, c0, bin_sgtr, hk, bin_seql, he, w1]
            exact hN _ _ (W.length - (i + 1)) (by omega) ⟨rfl, i + 1, by omega, rfl, e, rfl⟩
    · have hlt' : ¬ (i : Int) < (W.length : Int) := by omega
      have e : fromW ab k W = none := by rw [hfr, List.drop_eq_nil_of_le (by omega)]; rfl
      rw [e] at hQ
      obtain ⟨m3, s1, s2, s3, s4⟩ := row_store (n := 5) (row := zeroW.row) g1 rfl rfl rfl rfl (by omega)
      simp only [symA, go_opsd, symB, wantedX, X.put, X.look, Arg.ev, keepOf, restrict, evs, evO, initEnv, xres, tup, noTup, cls, quiet, Nat.reduceAdd, Nat.reduceEqDiff, ↓reduceIte, reduceCtorEq, goInt, exists_eq_left', eq_self, Int.reduceLT, Int.reduceLE, Int.reduceEq, Int.reduceNeg, Int.reduceAdd, Int.reduceSub, forall_const, ne_eq, undef, Nat.reducePow, Nat.reduceDiv, Nat.reduceMod, hg1, hlt']
      refine hB _ _ _ ?_
      simp only [symA, go_opsd, symB, wantedX, X.put, X.look, Arg.ev, keepOf, restrict, evs, evO, initEnv, xres, tup, noTup, cls, quiet, Nat.reduceAdd, Nat.reduceEqDiff, ↓reduceIte, reduceCtorEq, goInt, exists_eq_left', eq_self, Int.reduceLT, Int.reduceLE, Int.reduceEq, Int.reduceNeg, Int.reduceAdd, Int.reduceSub, forall_const, ne_eq, undef, Nat.reducePow, Nat.reduceDiv, Nat.reduceMod, buildZW, s1]
      exact hQ _ _ _ (by exact res_cell5 (row := zeroW.row) (b := false) rfl rfl s2 rfl) ⟨rfl, f1.comp s3 fun i hi h => by omega⟩
  obtain ⟨r, m', hc, rfl, h2⟩ := key
  exact ⟨m', hc, h2⟩

/-- A key's write. -/
theorem rget_spec {A B : List Wr} {o : Option Wr} (h : RefM H m p vl vm FM vals W R) (hl : W.length ≤ 1000) (hc : CutW k W A o B) : ∃ m', Ca 21 [Pt p, .string k] m (tupW o) m' ∧ Nx m m' := by
  obtain ⟨m1, hm1⟩ : ∃ m1, m.push { cells := ZW, rw := true, spare := none, kin := [] } = m1 := ⟨_, rfl⟩
  have g1 : m1.get m.next = some { cells := ZW, rw := true, spare := none, kin := [] } := by rw [← hm1, push_self]
  have f1 : Nx m m1 := hm1 ▸ .push
  have n1 : m1.next = m.next + 1 := by rw [← hm1]; simp
  obtain ⟨m2, c1, c2⟩ := rfrom_spec (ab := false) (k := k) (h.nx f1) hl
  rw [hc.seek] at c1
  have g2 := c2.get (by omega) (fun h => h) g1
  have n2 := c2.next
  obtain ⟨m3, t1, t2, t3, t4⟩ := new_store (m := m2) (z := ZW) (row := ((o.toList ++ B).head?.getD zeroW).row) (n := 5) rfl rfl (by omega)
  have f3 : Nx m m3 := (f1.comp c2 fun _ _ h => h).comp t3 fun _ _ h => h
  have g3 := t3.get (by omega) (fun h => h) g2
  have fin : ∀ row : List Value, row.length = 5 → ∃ m4, storeE m3 5 (.pointer (some ⟨m.next, 0, none⟩)) (.agg ⟨row⟩) = some (.skip m4) ∧ m4.get m.next = some { cells := row, rw := true, spare := none, kin := [] } ∧ Nx m m4 := fun row hr => by
    obtain ⟨m4, s1, s2, s3, s4⟩ := row_store (n := 5) (row := row) g3 rfl rfl rfl hr (by omega)
    exact ⟨m4, s1, s2, f3.comp s3 fun i hi h => by omega⟩
  unfold tupW at c1
  cases ho : o with
  | some x =>
    subst ho
    have hx := hc.mid x rfl
    obtain ⟨m4, s1, s2, s3⟩ := fin x.row rfl
    refine ⟨m4, callX_of (call_go (F := _) rfl rfl fun Q hQ => ?_), s3⟩
    simp only [Option.toList_some, List.singleton_append, List.head?_cons, Option.getD_some, Option.isSome_some] at c1 t1 t2
    have l2 := ld_wr t2
    simp only [symA, go_opsd, symB, wantedX, X.put, X.look, Arg.ev, keepOf, restrict, evs, evO, initEnv, xres, tup, noTup, cls, quiet, Nat.reduceAdd, Nat.reduceEqDiff, ↓reduceIte, reduceCtorEq, goInt, exists_eq_left', eq_self, Int.reduceLT, Int.reduceLE, Int.reduceEq, Int.reduceNeg, Int.reduceAdd, Int.reduceSub, forall_const, ne_eq, undef, Nat.reducePow, Nat.reduceDiv, Nat.reduceMod, hm1, goR_call c1, t1, t2, bin_sneq, hx, l2, s1]
    exact hQ _ _ _ (by exact res_cell5 (row := x.row) (b := true) rfl rfl s2 rfl) ⟨rfl, rfl⟩
  | none =>
    subst ho
    obtain ⟨m4, s1, s2, s3⟩ := fin zeroW.row rfl
    refine ⟨m4, callX_of (call_go (F := _) rfl rfl fun Q hQ => ?_), s3⟩
    cases hB : B with
    | nil =>
      subst hB
      simp only [Option.toList_none, List.append_nil, List.head?_nil, Option.getD_none, Option.isSome_none] at c1 t1 t2
      simp only [symA, go_opsd, symB, wantedX, X.put, X.look, Arg.ev, keepOf, restrict, evs, evO, initEnv, xres, tup, noTup, cls, quiet, Nat.reduceAdd, Nat.reduceEqDiff, ↓reduceIte, reduceCtorEq, goInt, exists_eq_left', eq_self, Int.reduceLT, Int.reduceLE, Int.reduceEq, Int.reduceNeg, Int.reduceAdd, Int.reduceSub, forall_const, ne_eq, undef, Nat.reducePow, Nat.reduceDiv, Nat.reduceMod, hm1, goR_call c1, t1, buildZW, s1]
      exact hQ _ _ _ (by exact res_cell5 (row := zeroW.row) (b := false) rfl rfl s2 rfl) ⟨rfl, rfl⟩
    | cons y B =>
      subst hB
      have hy : y.key ≠ k := fun e => ltT_ne (hc.hi y (by simp)) e.symm
      simp only [Option.toList_none, List.nil_append, List.head?_cons, Option.getD_some, Option.isSome_some] at c1 t1 t2
      simp only [symA, go_opsd, symB, wantedX, X.put, X.look, Arg.ev, keepOf, restrict, evs, evO, initEnv, xres, tup, noTup, cls, quiet, Nat.reduceAdd, Nat.reduceEqDiff, ↓reduceIte, reduceCtorEq, goInt, exists_eq_left', eq_self, Int.reduceLT, Int.reduceLE, Int.reduceEq, Int.reduceNeg, Int.reduceAdd, Int.reduceSub, forall_const, ne_eq, undef, Nat.reducePow, Nat.reduceDiv, Nat.reduceMod, hm1, goR_call c1, t1, t2, bin_sneq, hy, buildZW, s1]
      exact hQ _ _ _ (by exact res_cell5 (row := zeroW.row) (b := false) rfl rfl s2 rfl) ⟨rfl, rfl⟩
end
end Go.Proofs.Ytecceimgpeookaa
