/-
  Own work. What the chain's functions come to: Sweep, the document's Sweep, and what they say.
-/
import Derived.Test.YtbcoijgoipnelabXC5
namespace Go.Proofs.Ytbcoijgoipnelab
open Go X
set_option maxRecDepth 100000
set_option linter.unusedVariables false
set_option linter.unusedSimpArgs false

theorem okC_weak : ∀ {vs : List Ver} {p : Int}, 0 ≤ p → okC p vs = true → okC 0 vs = true
  | [], p, h0, h => rfl
  | x :: vs, p, h0, h => by
    simp only [okC, Bool.and_eq_true, decide_eq_true_eq] at h ⊢
    exact ⟨⟨by omega, h.1.2⟩, h.2⟩
theorem okC_drop : ∀ {vs : List Ver} (k : Nat), okC 0 vs = true → okC 0 (vs.drop k) = true
  | vs, 0, h => h
  | [], k + 1, h => by simp [okC]
  | x :: vs, k + 1, h => by
    simp only [okC, Bool.and_eq_true, decide_eq_true_eq] at h
    rw [List.drop_succ_cons]
    exact okC_drop k (okC_weak (by omega) h.2)

/-- What is left. -/
def sweepV (vs : List Ver) (f : Int) : List Ver := if okC 0 vs = true then vs.drop (oldV vs f) else []

theorem oldV_le (vs : List Ver) (f : Int) : oldV vs f ≤ vs.length := by
  have hle : upto (seqs vs) f ≤ (seqs vs).length := List.countP_le_length
  rw [List.length_map] at hle
  unfold oldV cutV
  split
  · split <;> omega
  · omega

theorem sweep_spec {b : Nat} {m : Mem} {v : Value} {vs : List Ver} {f : Int} (h : RdV b m v vs) (hc : ∀ m', Nx m m' → CutOk m' 5 v) (hw : ∀ x ∈ vs, x.Wf) (hl : vs.length ≤ 1000) (hf : f ≤ 9223372036854775807) (hb : b ≤ m.next) :
    ∃ v' m' F, Ca 11 [v, I f] m v' m' ∧ OwnV F m' v' (sweepV vs f) ∧ (∀ i ∈ F, m.next ≤ i) ∧ Nx m m' := by
  obtain ⟨m1, r1, r2⟩ := right_loop h hw (by omega) hb
  cases hr : okC 0 vs with
  | false =>
    rw [hr] at r1
    have e : sweepV vs f = [] := by simp [sweepV, hr]
    rw [e]
    refine ⟨.slice none 0 0, m1, [], callX_of (call_go (F := _) rfl rfl fun Q hQ => ?_), .nil, by simp, r2⟩
    simp only [go_nil, go_inBlock, go_skip, go_seq, go_block, go_exit, go_ret, go_ops, go_opsr, go_cond, ex_nil, ex_code, ex_inLoop, ex_inBlock, goC_true, goC_false, goC_dec, goO_nil, goO_cons, goO_guard, goG_true, goG_false, goR_val, goR_skip, wantedX, X.put, X.look, look_hit, Arg.ev, keepOf, restrict, evs, evO, initEnv, xres, tup, xi_move, xi_pick, pick_bool, xi_bin, bin_add, bin_sub, bin_mul, bin_eql, bin_neq, bin_lss, bin_leq, bin_gtr, bin_geq, xi_load1, ld_ptr, xi_nilCheck, nilCheck_ptr, xi_fieldAddr, fieldAddr_ptr, xi_isNil, isNil_some, isNil_none, xi_extract, extract_tuple, xi_call, call_func, xi_len, len_slice, xi_un, un_not, xi_store, xi_box, box_int, box_ptr, box_slice, push_self, push_two, Mem.next_push, xi_calcB, calc_max, calc_min, goG_dec, goG_ndec, xi_indexAddr, indexAddr_at, xi_slice, xi_append, xi_clear, isNil_slice, xi_conv, xi_alloc, box_agg, box_string, box_bool, xi_buildSlice, xparts_nil, xparts_cons, xi_build, xi_field, field_one, xi_makeFunc, makeFunc_nil, xi_loadA, go_opsd, goD_nil, goD_cons, goD_guard, goDG_true, goDG_false, goDV0, goDV1, goDV2, goDV3, goDV3s, again_nil, again_cons, againE_val, veq_int, veq_slice, veq_ptr, veq_bool, veq_string, veq_agg, veqL_nil, veqL_cons, veqC_int, veqC_bool, veqC_string, veqC_slice, veqC_ptr, List.filter_cons, List.filter_nil, Nat.testBit_eq_decide_div_mod_eq, asNat_nat, asNat_zero, asNat_one, noTup, cls, quiet, Option.isNone_some, Option.isNone_none, Bool.and_true, Bool.and_self, Bool.true_and, Nat.add_zero, Nat.mul_one, Nat.mul_zero, Nat.zero_mul, List.length_map, Option.bind_some, Option.map_some, List.getElem?_cons_zero, List.getElem?_cons_succ, Nat.reduceAdd, Nat.reduceEqDiff, reduceIte, reduceCtorEq, goInt, bne_self_eq_false, Bool.false_bne, Bool.true_bne, Bool.not_true, Bool.not_false, decide_eq_true_eq, decide_eq_false_iff_not, Option.some.injEq, exists_eq_left', Nat.zero_add, beq_self_eq_true, cond_true, cond_false, eqb_t, eqb_f, Int.cast_ofNat_Int, eq_self, decide_true, decide_false, Int.reduceLT, Int.reduceLE, Int.reduceEq, Int.reduceNeg, Int.reduceAdd, Int.reduceSub, and_true, true_and, forall_const, Bool.true_eq_false, Bool.false_eq_true, false_implies, ne_eq, not_true_eq_false, not_false_eq_true, true_implies, Decidable.not_not, undef, List.size_toArray, List.length_nil, Nat.reducePow, Nat.reduceDiv, Nat.reduceMod, goR_call r1]
    exact hQ _ _ _ rfl ⟨rfl, rfl⟩
  | true =>
    rw [hr] at r1
    have e : sweepV vs f = vs.drop (oldV vs f) := by simp [sweepV, hr]
    rw [e]
    have hb1 : b ≤ m1.next := by have := r2.next; omega
    obtain ⟨m2, k1, k2⟩ := old_spec (f := f) (h.fr r2 hb (fun _ h => h.elim)) hw hl hf hb1
    have f2 : Nx m m2 := r2.comp k2 fun _ _ h => h
    have hb2 : b ≤ m2.next := by have := f2.next; omega
    obtain ⟨v3, s1, s2⟩ := slice_from (k := oldV vs f) (kd := .i64) (h.fr f2 hb (fun _ h => h.elim)) (hc m2 f2) (by rw [List.length_map]; exact oldV_le vs f)
    rw [← List.map_drop] at s2
    obtain ⟨v4, m4, F, c1, c2, c3, c4⟩ := clone_spec s2 hb2 (by rw [List.length_drop]; omega)
    refine ⟨v4, m4, F, callX_of (call_go (F := _) rfl rfl fun Q hQ => ?_), c2, fun i hi => by have := c3 i hi; have := f2.next; omega, f2.comp c4 fun _ _ h => h⟩
    simp only [go_nil, go_inBlock, go_skip, go_seq, go_block, go_exit, go_ret, go_ops, go_opsr, go_cond, ex_nil, ex_code, ex_inLoop, ex_inBlock, goC_true, goC_false, goC_dec, goO_nil, goO_cons, goO_guard, goG_true, goG_false, goR_val, goR_skip, wantedX, X.put, X.look, look_hit, Arg.ev, keepOf, restrict, evs, evO, initEnv, xres, tup, xi_move, xi_pick, pick_bool, xi_bin, bin_add, bin_sub, bin_mul, bin_eql, bin_neq, bin_lss, bin_leq, bin_gtr, bin_geq, xi_load1, ld_ptr, xi_nilCheck, nilCheck_ptr, xi_fieldAddr, fieldAddr_ptr, xi_isNil, isNil_some, isNil_none, xi_extract, extract_tuple, xi_call, call_func, xi_len, len_slice, xi_un, un_not, xi_store, xi_box, box_int, box_ptr, box_slice, push_self, push_two, Mem.next_push, xi_calcB, calc_max, calc_min, goG_dec, goG_ndec, xi_indexAddr, indexAddr_at, xi_slice, xi_append, xi_clear, isNil_slice, xi_conv, xi_alloc, box_agg, box_string, box_bool, xi_buildSlice, xparts_nil, xparts_cons, xi_build, xi_field, field_one, xi_makeFunc, makeFunc_nil, xi_loadA, go_opsd, goD_nil, goD_cons, goD_guard, goDG_true, goDG_false, goDV0, goDV1, goDV2, goDV3, goDV3s, again_nil, again_cons, againE_val, veq_int, veq_slice, veq_ptr, veq_bool, veq_string, veq_agg, veqL_nil, veqL_cons, veqC_int, veqC_bool, veqC_string, veqC_slice, veqC_ptr, List.filter_cons, List.filter_nil, Nat.testBit_eq_decide_div_mod_eq, asNat_nat, asNat_zero, asNat_one, noTup, cls, quiet, Option.isNone_some, Option.isNone_none, Bool.and_true, Bool.and_self, Bool.true_and, Nat.add_zero, Nat.mul_one, Nat.mul_zero, Nat.zero_mul, List.length_map, Option.bind_some, Option.map_some, List.getElem?_cons_zero, List.getElem?_cons_succ, Nat.reduceAdd, Nat.reduceEqDiff, reduceIte, reduceCtorEq, goInt, bne_self_eq_false, Bool.false_bne, Bool.true_bne, Bool.not_true, Bool.not_false, decide_eq_true_eq, decide_eq_false_iff_not, Option.some.injEq, exists_eq_left', Nat.zero_add, beq_self_eq_true, cond_true, cond_false, eqb_t, eqb_f, Int.cast_ofNat_Int, eq_self, decide_true, decide_false, Int.reduceLT, Int.reduceLE, Int.reduceEq, Int.reduceNeg, Int.reduceAdd, Int.reduceSub, and_true, true_and, forall_const, Bool.true_eq_false, Bool.false_eq_true, false_implies, ne_eq, not_true_eq_false, not_false_eq_true, true_implies, Decidable.not_not, undef, List.size_toArray, List.length_nil, Nat.reducePow, Nat.reduceDiv, Nat.reduceMod, goR_call r1, goR_call k1, s1, goR_call c1]
    exact hQ _ _ _ rfl ⟨rfl, rfl⟩

/-! ## The document's -/
def keepV (f : Int) : List Ver → List Ver
  | [] => []
  | [x] => [x]
  | x :: y :: r => if y.seq ≤ f then keepV f (y :: r) else x :: keepV f (y :: r)
def rsweepV (vs : List Ver) (f : Int) : List Ver :=
  match keepV f vs with
  | [] => []
  | x :: r => if x.gone = true ∧ x.seq ≤ f then r else x :: r

theorem keep_len (f : Int) : ∀ vs : List Ver, (keepV f vs).length ≤ vs.length
  | [] => by simp [keepV]
  | [x] => by simp [keepV]
  | x :: y :: r => by
    have := keep_len f (y :: r)
    unfold keepV
    split <;> simp at this ⊢ <;> omega

theorem rsweep_spec {b : Nat} {m : Mem} {v : Value} {vs : List Ver} {f : Int} (h : RdV b m v vs) (hl : vs.length ≤ 100) (hb : b ≤ m.next) :
    ∃ v' m', Ca 12 [v, I f] m v' m' ∧ RdV m'.next m' v' (rsweepV vs f) ∧ Nx m m' := by
  have key : Wc 12 [v, I f] m fun r m' => RdV m'.next m' r (rsweepV vs f) ∧ Nx m m' := by
    refine call_go (F := _) rfl rfl fun Q hQ => ?_
    obtain ⟨p, c, rfl⟩ := rdv_slice h
    have b0 := build50 (m := m)
    have f0 : Nx m (m.push { cells := [], rw := true, spare := none, kin := [] }) := .push
    simp only [go_nil, go_inBlock, go_skip, go_seq, go_block, go_exit, go_ret, go_ops, go_opsr, go_cond, ex_nil, ex_code, ex_inLoop, ex_inBlock, goC_true, goC_false, goC_dec, goO_nil, goO_cons, goO_guard, goG_true, goG_false, goR_val, goR_skip, wantedX, X.put, X.look, look_hit, Arg.ev, keepOf, restrict, evs, evO, initEnv, xres, tup, xi_move, xi_pick, pick_bool, xi_bin, bin_add, bin_sub, bin_mul, bin_eql, bin_neq, bin_lss, bin_leq, bin_gtr, bin_geq, xi_load1, ld_ptr, xi_nilCheck, nilCheck_ptr, xi_fieldAddr, fieldAddr_ptr, xi_isNil, isNil_some, isNil_none, xi_extract, extract_tuple, xi_call, call_func, xi_len, len_slice, xi_un, un_not, xi_store, xi_box, box_int, box_ptr, box_slice, push_self, push_two, Mem.next_push, xi_calcB, calc_max, calc_min, goG_dec, goG_ndec, xi_indexAddr, indexAddr_at, xi_slice, xi_append, xi_clear, isNil_slice, xi_conv, xi_alloc, box_agg, box_string, box_bool, xi_buildSlice, xparts_nil, xparts_cons, xi_build, xi_field, field_one, xi_makeFunc, makeFunc_nil, xi_loadA, go_opsd, goD_nil, goD_cons, goD_guard, goDG_true, goDG_false, goDV0, goDV1, goDV2, goDV3, goDV3s, again_nil, again_cons, againE_val, veq_int, veq_slice, veq_ptr, veq_bool, veq_string, veq_agg, veqL_nil, veqL_cons, veqC_int, veqC_bool, veqC_string, veqC_slice, veqC_ptr, List.filter_cons, List.filter_nil, Nat.testBit_eq_decide_div_mod_eq, asNat_nat, asNat_zero, asNat_one, noTup, cls, quiet, Option.isNone_some, Option.isNone_none, Bool.and_true, Bool.and_self, Bool.true_and, Nat.add_zero, Nat.mul_one, Nat.mul_zero, Nat.zero_mul, List.length_map, Option.bind_some, Option.map_some, List.getElem?_cons_zero, List.getElem?_cons_succ, Nat.reduceAdd, Nat.reduceEqDiff, reduceIte, reduceCtorEq, goInt, bne_self_eq_false, Bool.false_bne, Bool.true_bne, Bool.not_true, Bool.not_false, decide_eq_true_eq, decide_eq_false_iff_not, Option.some.injEq, exists_eq_left', Nat.zero_add, beq_self_eq_true, cond_true, cond_false, eqb_t, eqb_f, Int.cast_ofNat_Int, eq_self, decide_true, decide_false, Int.reduceLT, Int.reduceLE, Int.reduceEq, Int.reduceNeg, Int.reduceAdd, Int.reduceSub, and_true, true_and, forall_const, Bool.true_eq_false, Bool.false_eq_true, false_implies, ne_eq, not_true_eq_false, not_false_eq_true, true_implies, Decidable.not_not, undef, List.size_toArray, List.length_nil, Nat.reducePow, Nat.reduceDiv, Nat.reduceMod, b0]
    refine loop_go (fun j e m' => Nx m m' ∧ ∃ (i : Nat) (out : Value) (F : List Nat) (ws : List Ver), i ≤ vs.length ∧ j = vs.length - i ∧ OwnV F m' out ws ∧ (∀ i ∈ F, m.next ≤ i) ∧ ws ++ keepV f (vs.drop i) = keepV f vs ∧
      e = [(0, .slice p vs.length c), (1, I f), (5, out), (6, I i)]) vs.length ⟨f0, 0, _, [], [], by omega, rfl, ⟨by simp, .inr ⟨rfl, by simp, m.next, rfl⟩⟩, by simp, rfl, rfl⟩ ?_
    rintro j e m1 N' B' hN hB ⟨hnx, i, out, F, ws, hi, rfl, hown, hF, hk, rfl⟩
    have hws : ws.length ≤ vs.length := by
      have := congrArg List.length hk
      rw [List.length_append] at this
      have := keep_len f vs
      omega
    have hr := h.fr hnx hb (fun _ h => h.elim)
    by_cases hlt : i < vs.length
    · have hlt' : (i : Int) < (vs.length : Int) := by omega
      obtain ⟨x, hx⟩ : ∃ x, vs[i]? = some x := ⟨_, List.getElem?_eq_getElem hlt⟩
      have hd : vs.drop i = x :: vs.drop (i + 1) := by
        obtain ⟨_, rfl⟩ := List.getElem?_eq_some_iff.1 hx
        exact List.drop_eq_getElem_cons hlt
      obtain ⟨a, c', hv, _, l5, _⟩ := rdv_at hr hx
      cases hv
      have w1 : IntKind.i64.wrap ((i : Int) + 1) = ((i + 1 : Nat) : Int) := by rw [wrap_i64 (by omega) (by omega)]; omega
      -- the append
      have b1 := build5 (m := m1) (x := x)
      obtain ⟨m2, hm2⟩ : ∃ m2, m1.push { cells := x.row, rw := true, spare := none, kin := [] } = m2 := ⟨_, rfl⟩
      rw [hm2] at b1
      have g2 : m2.get m1.next = some { cells := x.row, rw := true, spare := none, kin := [] } := by rw [← hm2, push_self]
      have f2 : Nx m1 m2 := hm2 ▸ .push
      have hx2 : xfirst m2 5 1 (.slice (some ⟨m1.next, 0, none⟩) 1 1) = some x.row := by
        simp only [xfirst]
        rw [if_neg (by omega), xload_own g2 (by simp)]
        simp
      obtain ⟨out', m3, F', d1, d2, d3, d4, d5⟩ := (Own2.fr hown f2 (fun _ _ h => h)).append (bytes := 48) (zero := Z5) (vx := .slice (some ⟨m1.next, 0, none⟩) 1 1) rfl (by omega) rfl hx2 rfl (by simp; omega) (by simp; omega)
      have f3 : Nx m m3 := (hnx.comp f2 fun _ _ h => h).comp d3 fun i hi h => by have := hF i h; omega
      have o3 : OwnV F' m3 out' (ws ++ [x]) := by
        have : rowsV (ws ++ [x]) = rowsV ws ++ [x.row] := by simp
        rw [OwnV, this]; exact d2
      have hn1 := hnx.next
      have hn2 := f2.next
      have hF' : ∀ i ∈ F', m.next ≤ i := fun i hi => (d5 i hi).elim (hF i) (fun h => by omega)
      by_cases hlast : ((i + 1 : Nat) : Int) < (vs.length : Int)
      · obtain ⟨y, hy⟩ : ∃ y, vs[i + 1]? = some y := ⟨_, List.getElem?_eq_getElem (by omega)⟩
        have hd2 : vs.drop (i + 1) = y :: vs.drop (i + 2) := by
          obtain ⟨hh, rfl⟩ := List.getElem?_eq_some_iff.1 hy
          exact List.drop_eq_getElem_cons hh
        obtain ⟨a', c'', hv', ⟨o, hg, c0, c1, c2, c3, c4⟩, k5, k3⟩ := rdv_at hr hy
        cases hv'
        have hlt2 : i + 1 < vs.length := by omega
        rw [hd, hd2, keepV] at hk
        by_cases hyf : y.seq ≤ f
        · rw [if_pos hyf, ← hd2] at hk
          simp only [go_nil, go_inBlock, go_skip, go_seq, go_block, go_exit, go_ret, go_ops, go_opsr, go_cond, ex_nil, ex_code, ex_inLoop, ex_inBlock, goC_true, goC_false, goC_dec, goO_nil, goO_cons, goO_guard, goG_true, goG_false, goR_val, goR_skip, wantedX, X.put, X.look, look_hit, Arg.ev, keepOf, restrict, evs, evO, initEnv, xres, tup, xi_move, xi_pick, pick_bool, xi_bin, bin_add, bin_sub, bin_mul, bin_eql, bin_neq, bin_lss, bin_leq, bin_gtr, bin_geq, xi_load1, ld_ptr, xi_nilCheck, nilCheck_ptr, xi_fieldAddr, fieldAddr_ptr, xi_isNil, isNil_some, isNil_none, xi_extract, extract_tuple, xi_call, call_func, xi_len, len_slice, xi_un, un_not, xi_store, xi_box, box_int, box_ptr, box_slice, push_self, push_two, Mem.next_push, xi_calcB, calc_max, calc_min, goG_dec, goG_ndec, xi_indexAddr, indexAddr_at, xi_slice, xi_append, xi_clear, isNil_slice, xi_conv, xi_alloc, box_agg, box_string, box_bool, xi_buildSlice, xparts_nil, xparts_cons, xi_build, xi_field, field_one, xi_makeFunc, makeFunc_nil, xi_loadA, go_opsd, goD_nil, goD_cons, goD_guard, goDG_true, goDG_false, goDV0, goDV1, goDV2, goDV3, goDV3s, again_nil, again_cons, againE_val, veq_int, veq_slice, veq_ptr, veq_bool, veq_string, veq_agg, veqL_nil, veqL_cons, veqC_int, veqC_bool, veqC_string, veqC_slice, veqC_ptr, List.filter_cons, List.filter_nil, Nat.testBit_eq_decide_div_mod_eq, asNat_nat, asNat_zero, asNat_one, noTup, cls, quiet, Option.isNone_some, Option.isNone_none, Bool.and_true, Bool.and_self, Bool.true_and, Nat.add_zero, Nat.mul_one, Nat.mul_zero, Nat.zero_mul, List.length_map, Option.bind_some, Option.map_some, List.getElem?_cons_zero, List.getElem?_cons_succ, Nat.reduceAdd, Nat.reduceEqDiff, reduceIte, reduceCtorEq, goInt, bne_self_eq_false, Bool.false_bne, Bool.true_bne, Bool.not_true, Bool.not_false, decide_eq_true_eq, decide_eq_false_iff_not, Option.some.injEq, exists_eq_left', Nat.zero_add, beq_self_eq_true, cond_true, cond_false, eqb_t, eqb_f, Int.cast_ofNat_Int, eq_self, decide_true, decide_false, Int.reduceLT, Int.reduceLE, Int.reduceEq, Int.reduceNeg, Int.reduceAdd, Int.reduceSub, and_true, true_and, forall_const, Bool.true_eq_false, Bool.false_eq_true, false_implies, ne_eq, not_true_eq_false, not_false_eq_true, true_implies, Decidable.not_not, undef, List.size_toArray, List.length_nil, Nat.reducePow, Nat.reduceDiv, Nat.reduceMod, hlt, hlt', w1, hlast, hlt2, hg, c0, hyf]
          exact hN _ _ (vs.length - (i + 1)) (by omega) ⟨hnx, i + 1, out, F, ws, by omega, rfl, hown, hF, hk, rfl⟩
        · rw [if_neg hyf, ← hd2] at hk
          simp only [go_nil, go_inBlock, go_skip, go_seq, go_block, go_exit, go_ret, go_ops, go_opsr, go_cond, ex_nil, ex_code, ex_inLoop, ex_inBlock, goC_true, goC_false, goC_dec, goO_nil, goO_cons, goO_guard, goG_true, goG_false, goR_val, goR_skip, wantedX, X.put, X.look, look_hit, Arg.ev, keepOf, restrict, evs, evO, initEnv, xres, tup, xi_move, xi_pick, pick_bool, xi_bin, bin_add, bin_sub, bin_mul, bin_eql, bin_neq, bin_lss, bin_leq, bin_gtr, bin_geq, xi_load1, ld_ptr, xi_nilCheck, nilCheck_ptr, xi_fieldAddr, fieldAddr_ptr, xi_isNil, isNil_some, isNil_none, xi_extract, extract_tuple, xi_call, call_func, xi_len, len_slice, xi_un, un_not, xi_store, xi_box, box_int, box_ptr, box_slice, push_self, push_two, Mem.next_push, xi_calcB, calc_max, calc_min, goG_dec, goG_ndec, xi_indexAddr, indexAddr_at, xi_slice, xi_append, xi_clear, isNil_slice, xi_conv, xi_alloc, box_agg, box_string, box_bool, xi_buildSlice, xparts_nil, xparts_cons, xi_build, xi_field, field_one, xi_makeFunc, makeFunc_nil, xi_loadA, go_opsd, goD_nil, goD_cons, goD_guard, goDG_true, goDG_false, goDV0, goDV1, goDV2, goDV3, goDV3s, again_nil, again_cons, againE_val, veq_int, veq_slice, veq_ptr, veq_bool, veq_string, veq_agg, veqL_nil, veqL_cons, veqC_int, veqC_bool, veqC_string, veqC_slice, veqC_ptr, List.filter_cons, List.filter_nil, Nat.testBit_eq_decide_div_mod_eq, asNat_nat, asNat_zero, asNat_one, noTup, cls, quiet, Option.isNone_some, Option.isNone_none, Bool.and_true, Bool.and_self, Bool.true_and, Nat.add_zero, Nat.mul_one, Nat.mul_zero, Nat.zero_mul, List.length_map, Option.bind_some, Option.map_some, List.getElem?_cons_zero, List.getElem?_cons_succ, Nat.reduceAdd, Nat.reduceEqDiff, reduceIte, reduceCtorEq, goInt, bne_self_eq_false, Bool.false_bne, Bool.true_bne, Bool.not_true, Bool.not_false, decide_eq_true_eq, decide_eq_false_iff_not, Option.some.injEq, exists_eq_left', Nat.zero_add, beq_self_eq_true, cond_true, cond_false, eqb_t, eqb_f, Int.cast_ofNat_Int, eq_self, decide_true, decide_false, Int.reduceLT, Int.reduceLE, Int.reduceEq, Int.reduceNeg, Int.reduceAdd, Int.reduceSub, and_true, true_and, forall_const, Bool.true_eq_false, Bool.false_eq_true, false_implies, ne_eq, not_true_eq_false, not_false_eq_true, true_implies, Decidable.not_not, undef, List.size_toArray, List.length_nil, Nat.reducePow, Nat.reduceDiv, Nat.reduceMod, hlt, hlt', w1, hlast, hlt2, hg, c0, hyf, l5, b1, d1]
          exact hN _ _ (vs.length - (i + 1)) (by omega) ⟨f3, i + 1, out', F', ws ++ [x], by omega, rfl, o3, hF', by rw [← hk]; simp, rfl⟩
      · have hd2 : vs.drop (i + 1) = [] := List.drop_eq_nil_of_le (by omega)
        rw [hd, hd2, keepV] at hk
        simp only [go_nil, go_inBlock, go_skip, go_seq, go_block, go_exit, go_ret, go_ops, go_opsr, go_cond, ex_nil, ex_code, ex_inLoop, ex_inBlock, goC_true, goC_false, goC_dec, goO_nil, goO_cons, goO_guard, goG_true, goG_false, goR_val, goR_skip, wantedX, X.put, X.look, look_hit, Arg.ev, keepOf, restrict, evs, evO, initEnv, xres, tup, xi_move, xi_pick, pick_bool, xi_bin, bin_add, bin_sub, bin_mul, bin_eql, bin_neq, bin_lss, bin_leq, bin_gtr, bin_geq, xi_load1, ld_ptr, xi_nilCheck, nilCheck_ptr, xi_fieldAddr, fieldAddr_ptr, xi_isNil, isNil_some, isNil_none, xi_extract, extract_tuple, xi_call, call_func, xi_len, len_slice, xi_un, un_not, xi_store, xi_box, box_int, box_ptr, box_slice, push_self, push_two, Mem.next_push, xi_calcB, calc_max, calc_min, goG_dec, goG_ndec, xi_indexAddr, indexAddr_at, xi_slice, xi_append, xi_clear, isNil_slice, xi_conv, xi_alloc, box_agg, box_string, box_bool, xi_buildSlice, xparts_nil, xparts_cons, xi_build, xi_field, field_one, xi_makeFunc, makeFunc_nil, xi_loadA, go_opsd, goD_nil, goD_cons, goD_guard, goDG_true, goDG_false, goDV0, goDV1, goDV2, goDV3, goDV3s, again_nil, again_cons, againE_val, veq_int, veq_slice, veq_ptr, veq_bool, veq_string, veq_agg, veqL_nil, veqL_cons, veqC_int, veqC_bool, veqC_string, veqC_slice, veqC_ptr, List.filter_cons, List.filter_nil, Nat.testBit_eq_decide_div_mod_eq, asNat_nat, asNat_zero, asNat_one, noTup, cls, quiet, Option.isNone_some, Option.isNone_none, Bool.and_true, Bool.and_self, Bool.true_and, Nat.add_zero, Nat.mul_one, Nat.mul_zero, Nat.zero_mul, List.length_map, Option.bind_some, Option.map_some, List.getElem?_cons_zero, List.getElem?_cons_succ, Nat.reduceAdd, Nat.reduceEqDiff, reduceIte, reduceCtorEq, goInt, bne_self_eq_false, Bool.false_bne, Bool.true_bne, Bool.not_true, Bool.not_false, decide_eq_true_eq, decide_eq_false_iff_not, Option.some.injEq, exists_eq_left', Nat.zero_add, beq_self_eq_true, cond_true, cond_false, eqb_t, eqb_f, Int.cast_ofNat_Int, eq_self, decide_true, decide_false, Int.reduceLT, Int.reduceLE, Int.reduceEq, Int.reduceNeg, Int.reduceAdd, Int.reduceSub, and_true, true_and, forall_const, Bool.true_eq_false, Bool.false_eq_true, false_implies, ne_eq, not_true_eq_false, not_false_eq_true, true_implies, Decidable.not_not, undef, List.size_toArray, List.length_nil, Nat.reducePow, Nat.reduceDiv, Nat.reduceMod, hlt, hlt', w1, hlast, l5, b1, d1]
        exact hN _ _ (vs.length - (i + 1)) (by omega) ⟨f3, i + 1, out', F', ws ++ [x], by omega, rfl, o3, hF', by rw [hd2, ← hk]; simp [keepV], rfl⟩
    · have hlt' : ¬ (i : Int) < (vs.length : Int) := by omega
      have hd : vs.drop i = [] := List.drop_eq_nil_of_le (by omega)
      rw [hd, keepV, List.append_nil] at hk
      simp only [go_nil, go_inBlock, go_skip, go_seq, go_block, go_exit, go_ret, go_ops, go_opsr, go_cond, ex_nil, ex_code, ex_inLoop, ex_inBlock, goC_true, goC_false, goC_dec, goO_nil, goO_cons, goO_guard, goG_true, goG_false, goR_val, goR_skip, wantedX, X.put, X.look, look_hit, Arg.ev, keepOf, restrict, evs, evO, initEnv, xres, tup, xi_move, xi_pick, pick_bool, xi_bin, bin_add, bin_sub, bin_mul, bin_eql, bin_neq, bin_lss, bin_leq, bin_gtr, bin_geq, xi_load1, ld_ptr, xi_nilCheck, nilCheck_ptr, xi_fieldAddr, fieldAddr_ptr, xi_isNil, isNil_some, isNil_none, xi_extract, extract_tuple, xi_call, call_func, xi_len, len_slice, xi_un, un_not, xi_store, xi_box, box_int, box_ptr, box_slice, push_self, push_two, Mem.next_push, xi_calcB, calc_max, calc_min, goG_dec, goG_ndec, xi_indexAddr, indexAddr_at, xi_slice, xi_append, xi_clear, isNil_slice, xi_conv, xi_alloc, box_agg, box_string, box_bool, xi_buildSlice, xparts_nil, xparts_cons, xi_build, xi_field, field_one, xi_makeFunc, makeFunc_nil, xi_loadA, go_opsd, goD_nil, goD_cons, goD_guard, goDG_true, goDG_false, goDV0, goDV1, goDV2, goDV3, goDV3s, again_nil, again_cons, againE_val, veq_int, veq_slice, veq_ptr, veq_bool, veq_string, veq_agg, veqL_nil, veqL_cons, veqC_int, veqC_bool, veqC_string, veqC_slice, veqC_ptr, List.filter_cons, List.filter_nil, Nat.testBit_eq_decide_div_mod_eq, asNat_nat, asNat_zero, asNat_one, noTup, cls, quiet, Option.isNone_some, Option.isNone_none, Bool.and_true, Bool.and_self, Bool.true_and, Nat.add_zero, Nat.mul_one, Nat.mul_zero, Nat.zero_mul, List.length_map, Option.bind_some, Option.map_some, List.getElem?_cons_zero, List.getElem?_cons_succ, Nat.reduceAdd, Nat.reduceEqDiff, reduceIte, reduceCtorEq, goInt, bne_self_eq_false, Bool.false_bne, Bool.true_bne, Bool.not_true, Bool.not_false, decide_eq_true_eq, decide_eq_false_iff_not, Option.some.injEq, exists_eq_left', Nat.zero_add, beq_self_eq_true, cond_true, cond_false, eqb_t, eqb_f, Int.cast_ofNat_Int, eq_self, decide_true, decide_false, Int.reduceLT, Int.reduceLE, Int.reduceEq, Int.reduceNeg, Int.reduceAdd, Int.reduceSub, and_true, true_and, forall_const, Bool.true_eq_false, Bool.false_eq_true, false_implies, ne_eq, not_true_eq_false, not_false_eq_true, true_implies, Decidable.not_not, undef, List.size_toArray, List.length_nil, Nat.reducePow, Nat.reduceDiv, Nat.reduceMod, hlt']
      refine hB _ _ _ ?_
      have hro := ownv_rd hown
      obtain ⟨p', c', hout⟩ := rdv_slice hro
      cases ws with
      | nil =>
        subst hout
        have e : rsweepV vs f = [] := by unfold rsweepV; rw [← hk]
        rw [e] at hQ
        simp only [go_nil, go_inBlock, go_skip, go_seq, go_block, go_exit, go_ret, go_ops, go_opsr, go_cond, ex_nil, ex_code, ex_inLoop, ex_inBlock, goC_true, goC_false, goC_dec, goO_nil, goO_cons, goO_guard, goG_true, goG_false, goR_val, goR_skip, wantedX, X.put, X.look, look_hit, Arg.ev, keepOf, restrict, evs, evO, initEnv, xres, tup, xi_move, xi_pick, pick_bool, xi_bin, bin_add, bin_sub, bin_mul, bin_eql, bin_neq, bin_lss, bin_leq, bin_gtr, bin_geq, xi_load1, ld_ptr, xi_nilCheck, nilCheck_ptr, xi_fieldAddr, fieldAddr_ptr, xi_isNil, isNil_some, isNil_none, xi_extract, extract_tuple, xi_call, call_func, xi_len, len_slice, xi_un, un_not, xi_store, xi_box, box_int, box_ptr, box_slice, push_self, push_two, Mem.next_push, xi_calcB, calc_max, calc_min, goG_dec, goG_ndec, xi_indexAddr, indexAddr_at, xi_slice, xi_append, xi_clear, isNil_slice, xi_conv, xi_alloc, box_agg, box_string, box_bool, xi_buildSlice, xparts_nil, xparts_cons, xi_build, xi_field, field_one, xi_makeFunc, makeFunc_nil, xi_loadA, go_opsd, goD_nil, goD_cons, goD_guard, goDG_true, goDG_false, goDV0, goDV1, goDV2, goDV3, goDV3s, again_nil, again_cons, againE_val, veq_int, veq_slice, veq_ptr, veq_bool, veq_string, veq_agg, veqL_nil, veqL_cons, veqC_int, veqC_bool, veqC_string, veqC_slice, veqC_ptr, List.filter_cons, List.filter_nil, Nat.testBit_eq_decide_div_mod_eq, asNat_nat, asNat_zero, asNat_one, noTup, cls, quiet, Option.isNone_some, Option.isNone_none, Bool.and_true, Bool.and_self, Bool.true_and, Nat.add_zero, Nat.mul_one, Nat.mul_zero, Nat.zero_mul, List.length_map, Option.bind_some, Option.map_some, List.getElem?_cons_zero, List.getElem?_cons_succ, Nat.reduceAdd, Nat.reduceEqDiff, reduceIte, reduceCtorEq, goInt, bne_self_eq_false, Bool.false_bne, Bool.true_bne, Bool.not_true, Bool.not_false, decide_eq_true_eq, decide_eq_false_iff_not, Option.some.injEq, exists_eq_left', Nat.zero_add, beq_self_eq_true, cond_true, cond_false, eqb_t, eqb_f, Int.cast_ofNat_Int, eq_self, decide_true, decide_false, Int.reduceLT, Int.reduceLE, Int.reduceEq, Int.reduceNeg, Int.reduceAdd, Int.reduceSub, and_true, true_and, forall_const, Bool.true_eq_false, Bool.false_eq_true, false_implies, ne_eq, not_true_eq_false, not_false_eq_true, true_implies, Decidable.not_not, undef, List.size_toArray, List.length_nil, Nat.reducePow, Nat.reduceDiv, Nat.reduceMod, List.length_nil]
        exact hQ _ _ _ rfl ⟨hro, hnx⟩
      | cons x r =>
        obtain ⟨a, c'', hv, ⟨o, hg, c0, c1, c2, c3, c4⟩, l5, l3⟩ := rdv_at hro (i := 0) (x := x) rfl
        obtain ⟨v5, s1, s2⟩ := slice_from (k := 1) (kd := .i64) hro hown.cut (by simp)
        rw [← List.map_drop, List.drop_one, List.tail_cons] at s2
        have s1' : sliceE m1 5 out (some (I 1)) none none = some (.val v5 m1) := s1
        rw [hv] at s1' hro
        rw [hv]
        simp only [Nat.zero_mul, Nat.add_zero] at hg c0 c1
        have hpos : (0 : Int) < ((x :: r).length : Int) := by simp only [List.length_cons]; omega
        have hpos' : 0 < (x :: r).length := by simp
        have hix : indexAddrE m1 5 (.slice (some a) (x :: r).length c'') (I 0) = some (.val (.pointer (some ⟨a.block, a.off, none⟩)) m1) := by
          have := indexAddr_at (m := m1) (size := 5) (a := a) (c := c'') (kd := .i64) hpos'
          simpa using this
        cases hgn : x.gone with
        | false =>
          have e : rsweepV vs f = x :: r := by unfold rsweepV; rw [← hk]; simp [hgn]
          rw [e] at hQ
          simp only [go_nil, go_inBlock, go_skip, go_seq, go_block, go_exit, go_ret, go_ops, go_opsr, go_cond, ex_nil, ex_code, ex_inLoop, ex_inBlock, goC_true, goC_false, goC_dec, goO_nil, goO_cons, goO_guard, goG_true, goG_false, goR_val, goR_skip, wantedX, X.put, X.look, look_hit, Arg.ev, keepOf, restrict, evs, evO, initEnv, xres, tup, xi_move, xi_pick, pick_bool, xi_bin, bin_add, bin_sub, bin_mul, bin_eql, bin_neq, bin_lss, bin_leq, bin_gtr, bin_geq, xi_load1, ld_ptr, xi_nilCheck, nilCheck_ptr, xi_fieldAddr, fieldAddr_ptr, xi_isNil, isNil_some, isNil_none, xi_extract, extract_tuple, xi_call, call_func, xi_len, len_slice, xi_un, un_not, xi_store, xi_box, box_int, box_ptr, box_slice, push_self, push_two, Mem.next_push, xi_calcB, calc_max, calc_min, goG_dec, goG_ndec, xi_indexAddr, indexAddr_at, xi_slice, xi_append, xi_clear, isNil_slice, xi_conv, xi_alloc, box_agg, box_string, box_bool, xi_buildSlice, xparts_nil, xparts_cons, xi_build, xi_field, field_one, xi_makeFunc, makeFunc_nil, xi_loadA, go_opsd, goD_nil, goD_cons, goD_guard, goDG_true, goDG_false, goDV0, goDV1, goDV2, goDV3, goDV3s, again_nil, again_cons, againE_val, veq_int, veq_slice, veq_ptr, veq_bool, veq_string, veq_agg, veqL_nil, veqL_cons, veqC_int, veqC_bool, veqC_string, veqC_slice, veqC_ptr, List.filter_cons, List.filter_nil, Nat.testBit_eq_decide_div_mod_eq, asNat_nat, asNat_zero, asNat_one, noTup, cls, quiet, Option.isNone_some, Option.isNone_none, Bool.and_true, Bool.and_self, Bool.true_and, Nat.add_zero, Nat.mul_one, Nat.mul_zero, Nat.zero_mul, List.length_map, Option.bind_some, Option.map_some, List.getElem?_cons_zero, List.getElem?_cons_succ, Nat.reduceAdd, Nat.reduceEqDiff, reduceIte, reduceCtorEq, goInt, bne_self_eq_false, Bool.false_bne, Bool.true_bne, Bool.not_true, Bool.not_false, decide_eq_true_eq, decide_eq_false_iff_not, Option.some.injEq, exists_eq_left', Nat.zero_add, beq_self_eq_true, cond_true, cond_false, eqb_t, eqb_f, Int.cast_ofNat_Int, eq_self, decide_true, decide_false, Int.reduceLT, Int.reduceLE, Int.reduceEq, Int.reduceNeg, Int.reduceAdd, Int.reduceSub, and_true, true_and, forall_const, Bool.true_eq_false, Bool.false_eq_true, false_implies, ne_eq, not_true_eq_false, not_false_eq_true, true_implies, Decidable.not_not, undef, List.size_toArray, List.length_nil, Nat.reducePow, Nat.reduceDiv, Nat.reduceMod, hpos, hix, hg, c1, hgn]
          exact hQ _ _ _ rfl ⟨hro, hnx⟩
        | true =>
          by_cases hsf : x.seq ≤ f
          · have e : rsweepV vs f = r := by unfold rsweepV; rw [← hk]; simp [hgn, hsf]
            rw [e] at hQ
            simp only [go_nil, go_inBlock, go_skip, go_seq, go_block, go_exit, go_ret, go_ops, go_opsr, go_cond, ex_nil, ex_code, ex_inLoop, ex_inBlock, goC_true, goC_false, goC_dec, goO_nil, goO_cons, goO_guard, goG_true, goG_false, goR_val, goR_skip, wantedX, X.put, X.look, look_hit, Arg.ev, keepOf, restrict, evs, evO, initEnv, xres, tup, xi_move, xi_pick, pick_bool, xi_bin, bin_add, bin_sub, bin_mul, bin_eql, bin_neq, bin_lss, bin_leq, bin_gtr, bin_geq, xi_load1, ld_ptr, xi_nilCheck, nilCheck_ptr, xi_fieldAddr, fieldAddr_ptr, xi_isNil, isNil_some, isNil_none, xi_extract, extract_tuple, xi_call, call_func, xi_len, len_slice, xi_un, un_not, xi_store, xi_box, box_int, box_ptr, box_slice, push_self, push_two, Mem.next_push, xi_calcB, calc_max, calc_min, goG_dec, goG_ndec, xi_indexAddr, indexAddr_at, xi_slice, xi_append, xi_clear, isNil_slice, xi_conv, xi_alloc, box_agg, box_string, box_bool, xi_buildSlice, xparts_nil, xparts_cons, xi_build, xi_field, field_one, xi_makeFunc, makeFunc_nil, xi_loadA, go_opsd, goD_nil, goD_cons, goD_guard, goDG_true, goDG_false, goDV0, goDV1, goDV2, goDV3, goDV3s, again_nil, again_cons, againE_val, veq_int, veq_slice, veq_ptr, veq_bool, veq_string, veq_agg, veqL_nil, veqL_cons, veqC_int, veqC_bool, veqC_string, veqC_slice, veqC_ptr, List.filter_cons, List.filter_nil, Nat.testBit_eq_decide_div_mod_eq, asNat_nat, asNat_zero, asNat_one, noTup, cls, quiet, Option.isNone_some, Option.isNone_none, Bool.and_true, Bool.and_self, Bool.true_and, Nat.add_zero, Nat.mul_one, Nat.mul_zero, Nat.zero_mul, List.length_map, Option.bind_some, Option.map_some, List.getElem?_cons_zero, List.getElem?_cons_succ, Nat.reduceAdd, Nat.reduceEqDiff, reduceIte, reduceCtorEq, goInt, bne_self_eq_false, Bool.false_bne, Bool.true_bne, Bool.not_true, Bool.not_false, decide_eq_true_eq, decide_eq_false_iff_not, Option.some.injEq, exists_eq_left', Nat.zero_add, beq_self_eq_true, cond_true, cond_false, eqb_t, eqb_f, Int.cast_ofNat_Int, eq_self, decide_true, decide_false, Int.reduceLT, Int.reduceLE, Int.reduceEq, Int.reduceNeg, Int.reduceAdd, Int.reduceSub, and_true, true_and, forall_const, Bool.true_eq_false, Bool.false_eq_true, false_implies, ne_eq, not_true_eq_false, not_false_eq_true, true_implies, Decidable.not_not, undef, List.size_toArray, List.length_nil, Nat.reducePow, Nat.reduceDiv, Nat.reduceMod, hpos, hix, hg, c1, hgn, c0, hsf, s1']
            exact hQ _ _ _ rfl ⟨s2, hnx⟩
          · have e : rsweepV vs f = x :: r := by unfold rsweepV; rw [← hk]; simp [hgn, hsf]
            rw [e] at hQ
            simp only [go_nil, go_inBlock, go_skip, go_seq, go_block, go_exit, go_ret, go_ops, go_opsr, go_cond, ex_nil, ex_code, ex_inLoop, ex_inBlock, goC_true, goC_false, goC_dec, goO_nil, goO_cons, goO_guard, goG_true, goG_false, goR_val, goR_skip, wantedX, X.put, X.look, look_hit, Arg.ev, keepOf, restrict, evs, evO, initEnv, xres, tup, xi_move, xi_pick, pick_bool, xi_bin, bin_add, bin_sub, bin_mul, bin_eql, bin_neq, bin_lss, bin_leq, bin_gtr, bin_geq, xi_load1, ld_ptr, xi_nilCheck, nilCheck_ptr, xi_fieldAddr, fieldAddr_ptr, xi_isNil, isNil_some, isNil_none, xi_extract, extract_tuple, xi_call, call_func, xi_len, len_slice, xi_un, un_not, xi_store, xi_box, box_int, box_ptr, box_slice, push_self, push_two, Mem.next_push, xi_calcB, calc_max, calc_min, goG_dec, goG_ndec, xi_indexAddr, indexAddr_at, xi_slice, xi_append, xi_clear, isNil_slice, xi_conv, xi_alloc, box_agg, box_string, box_bool, xi_buildSlice, xparts_nil, xparts_cons, xi_build, xi_field, field_one, xi_makeFunc, makeFunc_nil, xi_loadA, go_opsd, goD_nil, goD_cons, goD_guard, goDG_true, goDG_false, goDV0, goDV1, goDV2, goDV3, goDV3s, again_nil, again_cons, againE_val, veq_int, veq_slice, veq_ptr, veq_bool, veq_string, veq_agg, veqL_nil, veqL_cons, veqC_int, veqC_bool, veqC_string, veqC_slice, veqC_ptr, List.filter_cons, List.filter_nil, Nat.testBit_eq_decide_div_mod_eq, asNat_nat, asNat_zero, asNat_one, noTup, cls, quiet, Option.isNone_some, Option.isNone_none, Bool.and_true, Bool.and_self, Bool.true_and, Nat.add_zero, Nat.mul_one, Nat.mul_zero, Nat.zero_mul, List.length_map, Option.bind_some, Option.map_some, List.getElem?_cons_zero, List.getElem?_cons_succ, Nat.reduceAdd, Nat.reduceEqDiff, reduceIte, reduceCtorEq, goInt, bne_self_eq_false, Bool.false_bne, Bool.true_bne, Bool.not_true, Bool.not_false, decide_eq_true_eq, decide_eq_false_iff_not, Option.some.injEq, exists_eq_left', Nat.zero_add, beq_self_eq_true, cond_true, cond_false, eqb_t, eqb_f, Int.cast_ofNat_Int, eq_self, decide_true, decide_false, Int.reduceLT, Int.reduceLE, Int.reduceEq, Int.reduceNeg, Int.reduceAdd, Int.reduceSub, and_true, true_and, forall_const, Bool.true_eq_false, Bool.false_eq_true, false_implies, ne_eq, not_true_eq_false, not_false_eq_true, true_implies, Decidable.not_not, undef, List.size_toArray, List.length_nil, Nat.reducePow, Nat.reduceDiv, Nat.reduceMod, hpos, hix, hg, c1, hgn, c0, hsf]
            exact hQ _ _ _ rfl ⟨hro, hnx⟩
  obtain ⟨r, m', hc, hr, hf⟩ := key
  exact ⟨r, m', hc, hr, hf⟩

/-! ## What they say -/
theorem upto_split : ∀ {xs : List Int} (t : Int), xs.Pairwise (· < ·) → upto xs t ≤ xs.length ∧ (∀ i x, xs[i]? = some x → (i < upto xs t ↔ x ≤ t))
  | [], t, _ => by simp [upto]
  | x :: xs, t, h => by
    obtain ⟨h1, h2⟩ := List.pairwise_cons.1 h
    obtain ⟨k1, k2⟩ := upto_split t h2
    by_cases hx : x ≤ t
    · have e : upto (x :: xs) t = upto xs t + 1 := by simp [upto, List.countP_cons, hx]
      rw [e]
      refine ⟨by simp; omega, fun i y hy => ?_⟩
      cases i with
      | zero => simp at hy; subst hy; simp [hx]
      | succ i =>
        simp only [List.getElem?_cons_succ] at hy
        have := k2 i y hy
        omega
    · have e : upto (x :: xs) t = 0 := by
        unfold upto
        rw [List.countP_eq_zero]
        intro y hy
        simp only [List.mem_cons] at hy
        rcases hy with rfl | hy
        · simpa using hx
        · have := h1 y hy; simp; omega
      rw [e]
      refine ⟨by omega, fun i y hy => ?_⟩
      have hm := List.mem_of_getElem? hy
      simp only [List.mem_cons] at hm
      rcases hm with rfl | hm
      · omega
      · have := h1 y hm; omega

theorem upto_cons {x : Int} {xs : List Int} {t : Int} : upto (x :: xs) t = upto xs t + if x ≤ t then 1 else 0 := by simp [upto, List.countP_cons]

theorem upto_drop {xs : List Int} {t : Int} (h : xs.Pairwise (· < ·)) (k : Nat) : upto (xs.drop k) t = upto xs t - k := by
  induction k generalizing xs with
  | zero => simp
  | succ k ih =>
    cases xs with
    | nil => simp [upto]
    | cons x xs =>
      obtain ⟨h1, h2⟩ := List.pairwise_cons.1 h
      rw [List.drop_succ_cons, ih h2]
      by_cases hx : x ≤ t
      · have e : upto (x :: xs) t = upto xs t + 1 := by simp [upto, List.countP_cons, hx]
        rw [e]; omega
      · have e : upto (x :: xs) t = 0 := by
          have := (upto_split t h).2 0 x rfl
          omega
        have e2 : upto xs t = 0 := by
          have : upto (x :: xs) t = upto xs t := by simp [upto, List.countP_cons, hx]
          omega
        rw [e, e2]; omega

theorem upto_mono {xs : List Int} {a b : Int} (h : a ≤ b) : upto xs a ≤ upto xs b := by
  unfold upto
  exact List.countP_mono_left fun x _ hx => by simp at hx ⊢; omega

theorem oldV_eq {vs : List Ver} (h : okC 0 vs = true) (f : Int) : oldV vs f = cutV vs (upto (seqs vs) f) := by
  unfold oldV
  by_cases hf : 1 ≤ f
  · rw [if_pos ⟨h, hf⟩]
  · rw [if_neg (by omega)]
    have : upto (seqs vs) f = 0 := by
      unfold upto
      rw [List.countP_eq_zero]
      intro s hs
      obtain ⟨x, hx, rfl⟩ := List.mem_map.1 hs
      have := (okC_bounds (Int.le_refl 0) h).1 x hx
      simp; omega
    rw [this]; simp [cutV]

theorem keep_eq {f : Int} : ∀ {vs : List Ver}, (seqs vs).Pairwise (· < ·) → keepV f vs = vs.drop (upto (seqs vs) f - 1)
  | [], _ => by simp [keepV]
  | [x], h => by
    have : upto (seqs [x]) f ≤ 1 := (upto_split f h).1
    rw [keepV, show upto (seqs [x]) f - 1 = 0 by omega, List.drop_zero]
  | x :: y :: r, h => by
    have h2 : (seqs (y :: r)).Pairwise (· < ·) := (List.pairwise_cons.1 h).2
    have h1 := (List.pairwise_cons.1 h).1
    have ih := keep_eq (f := f) (vs := y :: r) h2
    have hxy : x.seq < y.seq := h1 y.seq (by simp)
    rw [keepV]
    by_cases hy : y.seq ≤ f
    · rw [if_pos hy, ih]
      have e : upto (seqs (x :: y :: r)) f = upto (seqs (y :: r)) f + 1 := by
        simp only [upto, seqs, List.map_cons, List.countP_cons]
        have : decide (x.seq ≤ f) = true := by simp; omega
        simp [this]
      have hp : 0 < upto (seqs (y :: r)) f := ((upto_split f h2).2 0 y.seq rfl).2 hy
      rw [e]
      obtain ⟨n, hn⟩ : ∃ n, upto (seqs (y :: r)) f = n + 1 := ⟨_, (Nat.succ_pred_eq_of_pos hp).symm⟩
      rw [hn]
      rfl
    · rw [if_neg hy, ih]
      have hz : upto (seqs (y :: r)) f = 0 := by
        have := (upto_split f h2).2 0 y.seq rfl
        exact Nat.eq_zero_of_not_pos fun hh => hy (this.1 hh)
      have e : upto (seqs (x :: y :: r)) f ≤ 1 := by
        rw [show seqs (x :: y :: r) = x.seq :: seqs (y :: r) from rfl, upto_cons, hz]
        split <;> omega
      rw [hz, show upto (seqs (x :: y :: r)) f - 1 = 0 by omega]
      rfl

theorem rsweep_eq {vs : List Ver} (h : okC 0 vs = true) (f : Int) : rsweepV vs f = sweepV vs f := by
  obtain ⟨_, hs⟩ := okC_bounds (Int.le_refl 0) h
  obtain ⟨k1, k2⟩ := upto_split f hs
  rw [List.length_map] at k1
  unfold rsweepV sweepV
  rw [if_pos h, oldV_eq h, keep_eq hs]
  generalize upto (seqs vs) f = u at k1 k2
  cases u with
  | zero =>
    simp only [Nat.zero_sub, List.drop_zero]
    have : cutV vs 0 = 0 := by simp [cutV]
    rw [this, List.drop_zero]
    cases vs with
    | nil => rfl
    | cons x r =>
      have := k2 0 x.seq rfl
      simp only
      rw [if_neg (by omega)]
  | succ n =>
    rw [Nat.add_sub_cancel]
    obtain ⟨x, hx⟩ : ∃ x, vs[n]? = some x := ⟨_, List.getElem?_eq_getElem (by omega)⟩
    have hd : vs.drop n = x :: vs.drop (n + 1) := by
      obtain ⟨hh, rfl⟩ := List.getElem?_eq_some_iff.1 hx
      exact List.drop_eq_getElem_cons hh
    have hsx : x.seq ≤ f := (k2 n x.seq (by simp [hx])).1 (by omega)
    rw [hd]
    simp only
    cases hg : x.gone with
    | true =>
      have : cutV vs (n + 1) = n + 1 := by unfold cutV; rw [if_neg (by rw [Nat.add_sub_cancel, hx]; simp [hg])]
      rw [if_pos ⟨rfl, hsx⟩, this]
    | false =>
      have : cutV vs (n + 1) = n := by unfold cutV; rw [if_pos ⟨by omega, by rw [Nat.add_sub_cancel, hx]; simp [hg]⟩]; omega
      rw [if_neg (by simp), this, hd]

theorem sweep_ok {vs : List Ver} (h : okC 0 vs = true) (f : Int) : okC 0 (sweepV vs f) = true := by
  unfold sweepV; rw [if_pos h]; exact okC_drop _ h

theorem sweep_sweep {vs : List Ver} (h : okC 0 vs = true) (a b : Int) : sweepV (sweepV vs a) b = sweepV vs (max a b) ∧ oldV vs a ≤ oldV vs (max a b) := by
  obtain ⟨_, hs⟩ := okC_bounds (Int.le_refl 0) h
  have h1 := sweep_ok h a
  have ha := upto_mono (xs := seqs vs) (show a ≤ max a b by omega)
  have hb := upto_mono (xs := seqs vs) (show b ≤ max a b by omega)
  have hm : upto (seqs vs) (max a b) = upto (seqs vs) a ∨ upto (seqs vs) (max a b) = upto (seqs vs) b := by
    rcases Int.le_total a b with h | h
    · right; rw [Int.max_eq_right h]
    · left; rw [Int.max_eq_left h]
  have e1 : sweepV vs a = vs.drop (cutV vs (upto (seqs vs) a)) := by unfold sweepV; rw [if_pos h, oldV_eq h]
  have e2 : sweepV vs (max a b) = vs.drop (cutV vs (upto (seqs vs) (max a b))) := by unfold sweepV; rw [if_pos h, oldV_eq h]
  have e0 : ∀ l : List Ver, okC 0 l = true → sweepV l b = l.drop (cutV l (upto (seqs l) b)) := fun l hl => by unfold sweepV; rw [if_pos hl, oldV_eq hl]
  have e3 := e0 _ h1
  rw [oldV_eq h, oldV_eq h]
  rw [e3, e1, e2, List.drop_drop]
  have hu : upto (seqs (vs.drop (cutV vs (upto (seqs vs) a)))) b = upto (seqs vs) b - cutV vs (upto (seqs vs) a) := by
    rw [seqs, List.map_drop, upto_drop hs]
  rw [hu]
  generalize upto (seqs vs) a = ua at ha hm
  generalize upto (seqs vs) b = ub at hb hm
  generalize upto (seqs vs) (max a b) = um at ha hb hm
  have hcut : ∀ n, cutV vs n = n ∨ (cutV vs n + 1 = n ∧ (vs[n - 1]?.map Ver.gone) = some false) := by
    intro n; unfold cutV
    split
    · rename_i h; right; exact ⟨by omega, h.2⟩
    · left; rfl
  have hcut2 : ∀ n, 0 < n → (vs[n - 1]?.map Ver.gone) = some false → cutV vs n + 1 = n := by
    intro n h0 hg; unfold cutV; rw [if_pos ⟨h0, hg⟩]; omega
  have hdr : ∀ k n, 0 < n → cutV (vs.drop k) n + k = cutV vs (k + n) := by
    intro k n h0
    unfold cutV
    rw [List.getElem?_drop, show k + (n - 1) = k + n - 1 by omega]
    by_cases hg : (vs[k + n - 1]?.map Ver.gone) = some false
    · rw [if_pos ⟨h0, hg⟩, if_pos ⟨by omega, hg⟩]; omega
    · rw [if_neg (fun h => hg h.2), if_neg (fun h => hg h.2)]; omega
  have hc0 : ∀ (l : List Ver), cutV l 0 = 0 := fun l => by simp [cutV]
  constructor
  · congr 1
    by_cases hn : 0 < ub - cutV vs ua
    · have := hdr (cutV vs ua) (ub - cutV vs ua) hn
      rw [show cutV vs ua + (ub - cutV vs ua) = ub by omega] at this
      have hum : um = ub := by
        rcases hcut ua with h1 | ⟨h1, _⟩ <;> omega
      rw [hum]; omega
    · rw [show ub - cutV vs ua = 0 by omega, hc0, Nat.add_zero]
      rcases hcut ua with h1 | ⟨h1, h2⟩
      · have hum : um = ua := by omega
        rw [hum]
      · have hum : um = ua := by omega
        rw [hum]
  · rcases hcut ua with h1 | ⟨h1, h2⟩
    · rcases hcut um with k1 | ⟨k1, k2⟩
      · omega
      · by_cases he : um = ua
        · subst he; omega
        · omega
    · rcases hcut um with k1 | ⟨k1, k2⟩ <;> omega
end Go.Proofs.Ytbcoijgoipnelab
