/-
  Own work. The document's set of writes: marks, and back to one; a set that stands there.
-/
import Derived.Test.YtecceimgpeookaaV9
namespace Go.Proofs.Ytecceimgpeookaa
open Go X
set_option maxRecDepth 100000
attribute [local irreducible] X.Go' X.GoO X.GoR X.GoG X.GoC X.GoF X.GoFV X.GoFG X.Ex X.GoD X.GoDV X.GoDG
set_option linter.unusedVariables false
set_option linter.unusedSimpArgs false

/-- The document's set stands there. -/
def RefP (H : List Nat) (m : Mem) (v : Value) (W : List Wr) (R : List (List Wr)) : Prop :=
  ∃ p vl vm FM vals, v = Pt p ∧ RefM H m p vl vm FM vals W R
section
variable {H : List Nat} {m m' : Mem} {v : Value} {W : List Wr} {R : List (List Wr)} {k : ByteArray} {w : Wr}
theorem RefP.fr {S : Nat → Prop} (h : RefP H m v W R) (hf : Fm S m m') (hs : ∀ i ∈ H, ¬ S i) : RefP H m' v W R := by
  obtain ⟨p, vl, vm, FM, vals, h1, h2⟩ := h
  exact ⟨p, vl, vm, FM, vals, h1, h2.fr hf hs⟩
theorem RefP.nx (h : RefP H m v W R) (hf : Nx m m') : RefP H m' v W R := h.fr hf fun _ _ h => h
theorem RefP.lt (h : RefP H m v W R) : ∀ i ∈ H, i < m.next := by
  obtain ⟨p, vl, vm, FM, vals, h1, h2⟩ := h
  exact h2.lt
theorem rwrite_call (h : RefP H m v W R) (hs : SortW W) (hl : W.length ≤ 16) (hw : w.bits < 18446744073709551616) :
    ∃ m' H', Ca 36 [v, .agg ⟨w.row⟩] m (I ((writeR w W).1 : Int)) m' ∧ RefP H' m' v (writeR w W).2 R ∧ Fm (· ∈ H) m m' ∧ ∀ i ∈ H', i ∈ H ∨ m.next ≤ i := by
  obtain ⟨p, vl, vm, FM, vals, rfl, h2⟩ := h
  obtain ⟨m', H', vl', k1, k2, k3, k4⟩ := rwrite_spec h2 hs hl hw
  exact ⟨m', H', k1, ⟨p, vl', vm, FM, vals, rfl, k2⟩, k3, k4⟩
theorem build10 {m : Mem} : buildSliceE m [.slice none 0 0] 1 0 [] = some (.val (.slice (some ⟨m.next, 0, none⟩) 0 0) (m.push { cells := [], rw := true, spare := none, kin := [] })) := by kernel_rfl

theorem rmark_spec (h : RefP H m v W R) (hl : W.length ≤ 16) (hR : R.length ≤ 4) :
    ∃ m' H', Ca 37 [v] m (.tuple #[I ((markR W R).1 : Int), I ((markR W R).2.1 : Int)]) m' ∧ RefP H' m' v W (markR W R).2.2 ∧ Fm (· ∈ H) m m' ∧ ∀ i ∈ H', i ∈ H ∨ m.next ≤ i := by
  obtain ⟨p, vl, vm, FM, vals, rfl, h2⟩ := h
  have hgv := h2.get
  obtain ⟨ql, cl, hvl⟩ := h2.slice
  obtain ⟨qm, cm, hvm⟩ := h2.mslice
  by_cases e1 : (R.length : Int) = 4
  · have e : markR W R = (0, 5, R) := by unfold markR; rw [if_pos (by omega)]
    rw [e]
    refine ⟨m, H, callX_of (call_go (F := _) rfl rfl fun Q hQ => ?_), ⟨p, vl, vm, FM, vals, rfl, h2⟩, .refl, fun i hi => .inl hi⟩
    subst hvm
    simp only [symA, go_opsd, symB, wantedX, X.put, X.look, Arg.ev, keepOf, restrict, evs, evO, initEnv, xres, tup, noTup, cls, quiet, Nat.reduceAdd, Nat.reduceEqDiff, ↓reduceIte, reduceCtorEq, goInt, exists_eq_left', eq_self, Int.reduceLT, Int.reduceLE, Int.reduceEq, Int.reduceNeg, Int.reduceAdd, Int.reduceSub, forall_const, ne_eq, undef, Nat.reducePow, Nat.reduceDiv, Nat.reduceMod, hgv, e1]
    exact hQ _ _ _ rfl ⟨rfl, rfl⟩
  · have e : markR W R = (R.length + 1, 0, R ++ [W]) := by unfold markR; rw [if_neg (by omega)]
    rw [e]
    obtain ⟨m1, hm1⟩ : ∃ m1, m.push { cells := [], rw := true, spare := none, kin := [] } = m1 := ⟨_, rfl⟩
    have f1 : Nx m m1 := hm1 ▸ .push
    have n1 : m1.next = m.next + 1 := by rw [← hm1]; simp
    obtain ⟨vc, m2, FC, a1, a2, a3, a4⟩ := append_all (bytes := 56) (zero := ZW) (s := .slice (some ⟨m.next, 0, none⟩) 0 0) (.inr ⟨_, rfl⟩) (h2.nx f1).rd rfl (by omega) (by rw [List.length_map]; omega) (by rw [List.length_map]; omega)
    have f2 : Nx m m2 := f1.comp a3 fun _ _ h => h
    have n2 := a3.next
    obtain ⟨qc, cc, hvc⟩ := own_slice a2 (by omega)
    rw [List.length_map] at hvc
    have hcv : vc.cells = #[vc] := by rw [hvc]; rfl
    have b2 := buildSlice_one (m := m2) (zero := .slice none 0 0) hcv
    obtain ⟨vm', m4, F4, c1, c2, c3, c4⟩ := (h2.nx f2).om.one (bytes := 24) (zero := [.slice none 0 0]) (row := [vc]) rfl (by omega) rfl (by rw [List.length_map, h2.vlen]; omega) (by rw [List.length_map, h2.vlen]; omega)
    have eN : (vals.map fun x => [x]) ++ [[vc]] = (vals ++ [vc]).map fun x => [x] := by simp
    rw [eN] at c2
    have f4 : Fm (· ∈ FM) m m4 := (f2.mono fun _ _ h => h.elim).trans c3
    have c4' : ∀ i ∈ F4, i ∈ FM ∨ m2.next ≤ i := c4
    have hC : ∀ i ∈ FC, i < m2.next := a2.lt
    have hCF : ∀ i ∈ FC, i ∉ FM := fun i hi q => by have := a4 i hi; have := h2.lt i (h2.mH i q); omega
    have hvl' := h2.vlen
    obtain ⟨m5, H', s1, s2, s3, s4⟩ := h2.setM (vals' := vals ++ [vc]) (R' := R ++ [W]) (X := FC) f4 c2 (fun i hi => (c4 i hi).imp id fun h => by omega)
      (fun i hi => ⟨by have := a4 i hi; omega, by have := hC i hi; have := c3.next; omega, fun q => (c4 i q).elim (hCF i hi) fun h => by have := hC i hi; omega⟩) (by simp [hvl']) (fun j S hS => by
        by_cases hj : j < R.length
        · rw [List.getElem?_append_left hj] at hS
          obtain ⟨u, k1, k2⟩ := h2.snaps j S hS
          exact ⟨u, by rw [List.getElem?_append_left (by omega)]; exact k1, .inl k2⟩
        · rw [List.getElem?_append_right (by omega)] at hS
          cases hq : j - R.length with
          | zero =>
            rw [hq] at hS
            simp at hS
            subst hS
            exact ⟨vc, by rw [List.getElem?_append_right (by omega), show j - vals.length = 0 by omega]; rfl, .inr ⟨FC, a2.fr c3 hCF, fun i hi => hi⟩⟩
          | succ q => rw [hq] at hS; simp at hS)
    refine ⟨m5, H', callX_of (call_go (F := _) rfl rfl fun Q hQ => ?_), ⟨p, vl, vm', F4, _, rfl, s2⟩, s3, s4⟩
    obtain ⟨m3, hm3⟩ : ∃ m3, m2.push { cells := [vc], rw := true, spare := none, kin := [] } = m3 := ⟨_, rfl⟩
    rw [hm3] at c1 b2
    have f3 : Nx m2 m3 := hm3 ▸ .push
    have g1 := (h2.nx f1).get
    have g2 := (h2.nx f2).get
    have g3 := ((h2.nx f2).nx f3).get
    have g5 := s2.get
    obtain ⟨qn, cn, hvn⟩ := s2.mslice
    rw [List.length_append, List.length_singleton] at hvn
    have b1 := build50 (m := m)
    rw [hm1] at b1
    subst hvl hvm hvc hvn
    simp only [symA, go_opsd, symB, wantedX, X.put, X.look, Arg.ev, keepOf, restrict, evs, evO, initEnv, xres, tup, noTup, cls, quiet, Nat.reduceAdd, Nat.reduceEqDiff, ↓reduceIte, reduceCtorEq, goInt, exists_eq_left', eq_self, Int.reduceLT, Int.reduceLE, Int.reduceEq, Int.reduceNeg, Int.reduceAdd, Int.reduceSub, forall_const, ne_eq, undef, Nat.reducePow, Nat.reduceDiv, Nat.reduceMod, hgv, e1, b1, g1, a1, g2, b2, g3, c1, s1, g5]
    exact hQ _ _ _ rfl ⟨rfl, rfl⟩

theorem vals_at {b : Nat} {u : Value} {vals : List Value} (h : RdS b m 1 v (vals.map fun x => [x])) {i : Nat} (hi : vals[i]? = some u) : ∃ a c o, v = .slice (some a) vals.length c ∧ m.get a.block = some o ∧ o.cells[a.off + i]? = some u := h.at1 hi
theorem rback_spec {n : Int} (h : RefP H m v W R) (hR : R.length ≤ 4) (hrs : ∀ S ∈ R, S.length ≤ 16) :
    ∃ m' H', Ca 38 [v, I n] m (I ((backR n W R).1 : Int)) m' ∧ RefP H' m' v (backR n W R).2.1 (backR n W R).2.2 ∧ Fm (· ∈ H) m m' ∧ ∀ i ∈ H', i ∈ H ∨ m.next ≤ i := by
  obtain ⟨p, vl, vm, FM, vals, rfl, h2⟩ := h
  have hgv := h2.get
  obtain ⟨qm, cm, hvm⟩ := h2.mslice
  by_cases e1 : n < 1
  · have e : backR n W R = (7, W, R) := by unfold backR; rw [if_pos (.inl e1)]
    rw [e]
    refine ⟨m, H, callX_of (call_go (F := _) rfl rfl fun Q hQ => ?_), ⟨p, vl, vm, FM, vals, rfl, h2⟩, .refl, fun i hi => .inl hi⟩
    simp only [symA, go_opsd, symB, wantedX, X.put, X.look, Arg.ev, keepOf, restrict, evs, evO, initEnv, xres, tup, noTup, cls, quiet, Nat.reduceAdd, Nat.reduceEqDiff, ↓reduceIte, reduceCtorEq, goInt, exists_eq_left', eq_self, Int.reduceLT, Int.reduceLE, Int.reduceEq, Int.reduceNeg, Int.reduceAdd, Int.reduceSub, forall_const, ne_eq, undef, Nat.reducePow, Nat.reduceDiv, Nat.reduceMod, e1]
    exact hQ _ _ _ rfl ⟨rfl, rfl⟩
  by_cases e2 : (R.length : Int) < n
  · have e : backR n W R = (7, W, R) := by unfold backR; rw [if_pos (.inr e2)]
    rw [e]
    refine ⟨m, H, callX_of (call_go (F := _) rfl rfl fun Q hQ => ?_), ⟨p, vl, vm, FM, vals, rfl, h2⟩, .refl, fun i hi => .inl hi⟩
    subst hvm
    simp only [symA, go_opsd, symB, wantedX, X.put, X.look, Arg.ev, keepOf, restrict, evs, evO, initEnv, xres, tup, noTup, cls, quiet, Nat.reduceAdd, Nat.reduceEqDiff, ↓reduceIte, reduceCtorEq, goInt, exists_eq_left', eq_self, Int.reduceLT, Int.reduceLE, Int.reduceEq, Int.reduceNeg, Int.reduceAdd, Int.reduceSub, forall_const, ne_eq, undef, Nat.reducePow, Nat.reduceDiv, Nat.reduceMod, e1, hgv, e2]
    exact hQ _ _ _ rfl ⟨rfl, rfl⟩
  obtain ⟨q, rfl⟩ : ∃ q : Nat, n = ((q + 1 : Nat) : Int) := ⟨n.toNat - 1, by omega⟩
  have hq : q < R.length := by omega
  have hvl := h2.vlen
  obtain ⟨S, hS⟩ : ∃ S, R[q]? = some S := ⟨_, List.getElem?_eq_getElem hq⟩
  have hSl := hrs S (List.mem_of_getElem? hS)
  have e : backR ((q + 1 : Nat) : Int) W R = (0, S, R.take (q + 1)) := by
    unfold backR
    rw [if_neg (by omega), Int.toNat_natCast, Nat.add_sub_cancel, hS]; rfl
  rw [e]
  -- the marks
  obtain ⟨m1, hm1⟩ : ∃ m1, m.push { cells := [], rw := true, spare := none, kin := [] } = m1 := ⟨_, rfl⟩
  have f1 : Nx m m1 := hm1 ▸ .push
  have n1 : m1.next = m.next + 1 := by rw [← hm1]; simp
  have h21 := h2.nx f1
  obtain ⟨v1, c1, c2⟩ := own_cut (k := q + 1) (by omega) h21.om (by rw [List.length_map]; omega)
  rw [← List.map_take] at c2
  have htl : (vals.take (q + 1)).length = q + 1 := by rw [List.length_take]; omega
  obtain ⟨vm', m2, F2, a1, a2, a3, a4⟩ := append_all (bytes := 24) (zero := [.slice none 0 0]) (s := .slice (some ⟨m.next, 0, none⟩) 0 0) (.inr ⟨_, rfl⟩) (c2.rd (by omega)) rfl (by omega) (by rw [List.length_map, htl]; omega) (by rw [List.length_map, htl]; omega)
  have f2 : Nx m m2 := f1.comp a3 fun _ _ h => h
  obtain ⟨m3, H3, s1, h3, s3, s4⟩ := h2.setM (vals' := vals.take (q + 1)) (R' := R.take (q + 1)) (X := []) (f2.mono fun _ _ h => h.elim) a2 (fun i hi => .inr (by have := a4 i hi; omega)) (by simp) (by rw [List.length_take, List.length_take, hvl]) (fun j S hS => by
    rw [List.getElem?_take] at hS
    split at hS
    · rename_i hj
      obtain ⟨u, k1, k2⟩ := h2.snaps j S hS
      exact ⟨u, by rw [List.getElem?_take, if_pos hj]; exact k1, .inl k2⟩
    · cases hS)
  -- the writes
  obtain ⟨u, hu, Fu, hou, huF⟩ := h3.snaps q S (by rw [List.getElem?_take, if_pos (by omega)]; exact hS)
  obtain ⟨m4, hm4⟩ : ∃ m4, m3.push { cells := [], rw := true, spare := none, kin := [] } = m4 := ⟨_, rfl⟩
  have f4 : Nx m3 m4 := hm4 ▸ .push
  have n4 : m4.next = m3.next + 1 := by rw [← hm4]; simp
  have h34 := h3.nx f4
  obtain ⟨am, cm', om, hvm', hgm, hcm⟩ := vals_at (h34.om.rd (by omega)) hu
  rw [htl] at hvm'
  obtain ⟨vl', m5, F5, b1, b2, b3, b4⟩ := append_all (bytes := 56) (zero := ZW) (s := .slice (some ⟨m3.next, 0, none⟩) 0 0) (.inr ⟨_, rfl⟩) ((hou.fr f4 fun _ _ h => h).rd (by omega)) rfl (by omega) (by rw [List.length_map]; omega) (by rw [List.length_map]; omega)
  have f35 : Nx m3 m5 := f4.comp b3 fun _ _ h => h
  obtain ⟨m6, H6, y1, h6, y3, y4⟩ := h3.setL f35 b2 (fun i hi => by have := b4 i hi; omega)
  have n3 := s3.next
  refine ⟨m6, H6, callX_of (call_go (F := _) rfl rfl fun Q hQ => ?_), ⟨p, _, vm', F2, _, rfl, h6⟩, s3.comp y3 fun i hi hg => (s4 i hg).elim id fun h => by omega, fun i hi => (y4 i hi).elim (fun h => s4 i h) fun h => .inr (by omega)⟩
  have w1 : IntKind.i64.wrap (((q + 1 : Nat) : Int) - 1) = (q : Int) := by rw [wrap_i64 (by omega) (by omega)]; omega
  have hq' : q < q + 1 := by omega
  have x1 := build10 (m := m)
  have x2 := build50 (m := m3)
  rw [hm1] at x1
  rw [hm4] at x2
  have g1 := h21.get
  have g2 := (h2.nx f2).get
  have g4 := h34.get
  have g5 := (h3.nx f35).get
  subst hvm hvm'
  simp only [symA, go_opsd, symB, wantedX, X.put, X.look, Arg.ev, keepOf, restrict, evs, evO, initEnv, xres, tup, noTup, cls, quiet, Nat.reduceAdd, Nat.reduceEqDiff, ↓reduceIte, reduceCtorEq, goInt, exists_eq_left', eq_self, Int.reduceLT, Int.reduceLE, Int.reduceEq, Int.reduceNeg, Int.reduceAdd, Int.reduceSub, forall_const, ne_eq, undef, Nat.reducePow, Nat.reduceDiv, Nat.reduceMod, e1, hgv, e2, x1, g1, c1, a1, g2, s1, x2, g4, w1, hq', hgm, hcm, b1, g5, y1]
  exact hQ _ _ _ rfl ⟨rfl, rfl⟩
end
end Go.Proofs.Ytecceimgpeookaa
