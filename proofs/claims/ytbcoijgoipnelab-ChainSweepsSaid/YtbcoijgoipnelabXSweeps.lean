/-
  Own work. PROVED HERE: ChainSweeps: whatever versions, floor and number, the law returns true (what is still asked for stays). No condition.
-/
import Derived.Test.YtbcoijgoipnelabXCA
import Derived.Test.YtbcoijgoipnelabRows
import Derived.ProofKit
namespace Go.Proofs.Ytbcoijgoipnelab
open Go Go.ChangeShapes Go.WideShapes Go.ChangeAt Go.RowKit X
set_option maxRecDepth 100000
set_option linter.unusedVariables false
set_option linter.unusedSimpArgs false

theorem zv_ld {m : Mem} {p : Nat} {x : Ver} (h : m.get p = some { cells := x.row, rw := true, spare := none, kin := [] }) : ldA m 5 (.pointer (some ⟨p, 0, none⟩)) = some (.val (.agg ⟨x.row⟩) m) := by simp [ldA, xload, h]

theorem wgtX_pos (x : Ver) : 0 < wgtX x := by unfold wgtX; cases x.num <;> simp; omega

theorem chainSweeps_run {m : Mem} {v : Value} {vs : List Ver} {f s : Int} (h : RdV m.next m v vs) (hc : ∀ m', CutOk m' 5 v) (hw : ∀ x ∈ vs, x.Wf) (hf2 : f ≤ 9223372036854775807) (hs : s ≤ 9223372036854775807) : Wc 6 [v, I f, I s] m fun r _ => r = .bool true := by
  refine call_go (F := _) rfl rfl fun Q hQ => ?_
  have a1 := far_spec h
  cases hf : farV vs with
  | true =>
    rw [hf] at a1
    simp only [go_nil, go_inBlock, go_skip, go_seq, go_block, go_exit, go_ret, go_ops, go_opsr, go_cond, ex_nil, ex_code, ex_inLoop, ex_inBlock, goC_true, goC_false, goC_dec, goO_nil, goO_cons, goO_guard, goG_true, goG_false, goR_val, goR_skip, wantedX, X.put, X.look, look_hit, Arg.ev, keepOf, restrict, evs, evO, initEnv, xres, tup, xi_move, xi_pick, pick_bool, xi_bin, bin_add, bin_sub, bin_mul, bin_eql, bin_neq, bin_lss, bin_leq, bin_gtr, bin_geq, xi_load1, ld_ptr, xi_nilCheck, nilCheck_ptr, xi_fieldAddr, fieldAddr_ptr, xi_isNil, isNil_some, isNil_none, xi_extract, extract_tuple, xi_call, call_func, xi_len, len_slice, xi_un, un_not, xi_store, xi_box, box_int, box_ptr, box_slice, push_self, push_two, Mem.next_push, xi_calcB, calc_max, calc_min, goG_dec, goG_ndec, xi_indexAddr, indexAddr_at, xi_slice, xi_append, xi_clear, isNil_slice, xi_conv, xi_alloc, box_agg, box_string, box_bool, xi_buildSlice, xparts_nil, xparts_cons, xi_build, xi_field, field_one, xi_makeFunc, makeFunc_nil, xi_loadA, go_opsd, goD_nil, goD_cons, goD_guard, goDG_true, goDG_false, goDV0, goDV1, goDV2, goDV3, goDV3s, again_nil, again_cons, againE_val, veq_int, veq_slice, veq_ptr, veq_bool, veq_string, veq_agg, veqL_nil, veqL_cons, veqC_int, veqC_bool, veqC_string, veqC_slice, veqC_ptr, List.filter_cons, List.filter_nil, Nat.testBit_eq_decide_div_mod_eq, asNat_nat, asNat_zero, asNat_one, noTup, cls, quiet, Option.isNone_some, Option.isNone_none, Bool.and_true, Bool.and_self, Bool.true_and, Nat.add_zero, Nat.mul_one, Nat.mul_zero, Nat.zero_mul, List.length_map, Option.bind_some, Option.map_some, List.getElem?_cons_zero, List.getElem?_cons_succ, Nat.reduceAdd, Nat.reduceEqDiff, reduceIte, reduceCtorEq, goInt, bne_self_eq_false, Bool.false_bne, Bool.true_bne, Bool.not_true, Bool.not_false, decide_eq_true_eq, decide_eq_false_iff_not, Option.some.injEq, exists_eq_left', Nat.zero_add, beq_self_eq_true, cond_true, cond_false, eqb_t, eqb_f, Int.cast_ofNat_Int, eq_self, decide_true, decide_false, Int.reduceLT, Int.reduceLE, Int.reduceEq, Int.reduceNeg, Int.reduceAdd, Int.reduceSub, and_true, true_and, forall_const, Bool.true_eq_false, Bool.false_eq_true, false_implies, ne_eq, not_true_eq_false, not_false_eq_true, true_implies, Decidable.not_not, undef, List.size_toArray, List.length_nil, Nat.reducePow, Nat.reduceDiv, Nat.reduceMod, goR_call (awake_call _), goR_call a1]
    exact hQ _ _ _ rfl rfl
  | false =>
  rw [hf] at a1
  have hl : vs.length ≤ 100 := by simp [farV] at hf; omega
  have ht : ∀ x ∈ vs, x.text.size ≤ 200 := by
    intro x hx
    simp [farV] at hf
    exact hf.2 x hx
  obtain ⟨v1, m1, F1, k1, o1, q1, f1⟩ := sweep_spec (f := f) h (fun m' _ => hc m') hw (by omega) hf2 (Nat.le_refl _)
  have hn1 := f1.next
  obtain ⟨m2, k2, f2⟩ := rright_loop (h.fr f1 (Nat.le_refl _) (fun _ h => h.elim)) hw (by omega) hn1
  have hn2 := f2.next
  have F2 : Nx m m2 := f1.comp f2 fun _ _ h => h
  cases hr : okC 0 vs with
  | false =>
    rw [hr] at k2
    have e1 : sweepV vs f = [] := by simp [sweepV, hr]
    rw [e1] at o1
    obtain ⟨p1, c1, rfl⟩ := rdv_slice (ownv_rd o1)
    simp only [go_nil, go_inBlock, go_skip, go_seq, go_block, go_exit, go_ret, go_ops, go_opsr, go_cond, ex_nil, ex_code, ex_inLoop, ex_inBlock, goC_true, goC_false, goC_dec, goO_nil, goO_cons, goO_guard, goG_true, goG_false, goR_val, goR_skip, wantedX, X.put, X.look, look_hit, Arg.ev, keepOf, restrict, evs, evO, initEnv, xres, tup, xi_move, xi_pick, pick_bool, xi_bin, bin_add, bin_sub, bin_mul, bin_eql, bin_neq, bin_lss, bin_leq, bin_gtr, bin_geq, xi_load1, ld_ptr, xi_nilCheck, nilCheck_ptr, xi_fieldAddr, fieldAddr_ptr, xi_isNil, isNil_some, isNil_none, xi_extract, extract_tuple, xi_call, call_func, xi_len, len_slice, xi_un, un_not, xi_store, xi_box, box_int, box_ptr, box_slice, push_self, push_two, Mem.next_push, xi_calcB, calc_max, calc_min, goG_dec, goG_ndec, xi_indexAddr, indexAddr_at, xi_slice, xi_append, xi_clear, isNil_slice, xi_conv, xi_alloc, box_agg, box_string, box_bool, xi_buildSlice, xparts_nil, xparts_cons, xi_build, xi_field, field_one, xi_makeFunc, makeFunc_nil, xi_loadA, go_opsd, goD_nil, goD_cons, goD_guard, goDG_true, goDG_false, goDV0, goDV1, goDV2, goDV3, goDV3s, again_nil, again_cons, againE_val, veq_int, veq_slice, veq_ptr, veq_bool, veq_string, veq_agg, veqL_nil, veqL_cons, veqC_int, veqC_bool, veqC_string, veqC_slice, veqC_ptr, List.filter_cons, List.filter_nil, Nat.testBit_eq_decide_div_mod_eq, asNat_nat, asNat_zero, asNat_one, noTup, cls, quiet, Option.isNone_some, Option.isNone_none, Bool.and_true, Bool.and_self, Bool.true_and, Nat.add_zero, Nat.mul_one, Nat.mul_zero, Nat.zero_mul, List.length_map, Option.bind_some, Option.map_some, List.getElem?_cons_zero, List.getElem?_cons_succ, Nat.reduceAdd, Nat.reduceEqDiff, reduceIte, reduceCtorEq, goInt, bne_self_eq_false, Bool.false_bne, Bool.true_bne, Bool.not_true, Bool.not_false, decide_eq_true_eq, decide_eq_false_iff_not, Option.some.injEq, exists_eq_left', Nat.zero_add, beq_self_eq_true, cond_true, cond_false, eqb_t, eqb_f, Int.cast_ofNat_Int, eq_self, decide_true, decide_false, Int.reduceLT, Int.reduceLE, Int.reduceEq, Int.reduceNeg, Int.reduceAdd, Int.reduceSub, and_true, true_and, forall_const, Bool.true_eq_false, Bool.false_eq_true, false_implies, ne_eq, not_true_eq_false, not_false_eq_true, true_implies, Decidable.not_not, undef, List.size_toArray, List.length_nil, Nat.reducePow, Nat.reduceDiv, Nat.reduceMod, goR_call (awake_call _), goR_call a1, goR_call k1, goR_call k2, List.length_nil]
    exact hQ _ _ _ rfl rfl
  | true =>
  rw [hr] at k2
  have ho := sweep_ok hr f
  have hsl := sweep_len hr f
  have hws : ∀ x ∈ sweepV vs f, x.Wf := fun x hx => by
    unfold sweepV at hx
    rw [if_pos hr] at hx
    exact hw x (List.mem_of_mem_drop hx)
  obtain ⟨v3, m3, k3, o3, f3⟩ := rsweep_spec (f := f) (h.fr F2 (Nat.le_refl _) (fun _ h => h.elim)) hl (by omega)
  rw [rsweep_eq hr] at o3
  have hn3 := f3.next
  have F3 : Nx m m3 := F2.comp f3 fun _ _ h => h
  have O3 := Own2.fr o1 (f2.comp f3 fun _ _ h => h) (fun _ _ h => h)
  have s3 := same_spec (ownv_rd O3) o3 (by omega)
  obtain ⟨v4, m4, F4', k4, o4, q4, f4⟩ := sweep_spec (f := f) (ownv_rd O3) (fun m' hx => (Own2.fr O3 hx (fun _ _ h => h)).cut) hws (by omega) hf2 (Nat.le_refl _)
  rw [(sweep_sweep hr f f).1, Int.max_self] at o4
  have hn4 := f4.next
  have F4 : Nx m m4 := F3.comp f4 fun _ _ h => h
  have O4 := Own2.fr O3 f4 (fun _ _ h => h)
  have s4 := same_spec (ownv_rd o4) (ownv_rd O4) (by omega)
  obtain ⟨p0, c0, hv⟩ := rdv_slice h
  simp only [go_nil, go_inBlock, go_skip, go_seq, go_block, go_exit, go_ret, go_ops, go_opsr, go_cond, ex_nil, ex_code, ex_inLoop, ex_inBlock, goC_true, goC_false, goC_dec, goO_nil, goO_cons, goO_guard, goG_true, goG_false, goR_val, goR_skip, wantedX, X.put, X.look, look_hit, Arg.ev, keepOf, restrict, evs, evO, initEnv, xres, tup, xi_move, xi_pick, pick_bool, xi_bin, bin_add, bin_sub, bin_mul, bin_eql, bin_neq, bin_lss, bin_leq, bin_gtr, bin_geq, xi_load1, ld_ptr, xi_nilCheck, nilCheck_ptr, xi_fieldAddr, fieldAddr_ptr, xi_isNil, isNil_some, isNil_none, xi_extract, extract_tuple, xi_call, call_func, xi_len, len_slice, xi_un, un_not, xi_store, xi_box, box_int, box_ptr, box_slice, push_self, push_two, Mem.next_push, xi_calcB, calc_max, calc_min, goG_dec, goG_ndec, xi_indexAddr, indexAddr_at, xi_slice, xi_append, xi_clear, isNil_slice, xi_conv, xi_alloc, box_agg, box_string, box_bool, xi_buildSlice, xparts_nil, xparts_cons, xi_build, xi_field, field_one, xi_makeFunc, makeFunc_nil, xi_loadA, go_opsd, goD_nil, goD_cons, goD_guard, goDG_true, goDG_false, goDV0, goDV1, goDV2, goDV3, goDV3s, again_nil, again_cons, againE_val, veq_int, veq_slice, veq_ptr, veq_bool, veq_string, veq_agg, veqL_nil, veqL_cons, veqC_int, veqC_bool, veqC_string, veqC_slice, veqC_ptr, List.filter_cons, List.filter_nil, Nat.testBit_eq_decide_div_mod_eq, asNat_nat, asNat_zero, asNat_one, noTup, cls, quiet, Option.isNone_some, Option.isNone_none, Bool.and_true, Bool.and_self, Bool.true_and, Nat.add_zero, Nat.mul_one, Nat.mul_zero, Nat.zero_mul, List.length_map, Option.bind_some, Option.map_some, List.getElem?_cons_zero, List.getElem?_cons_succ, Nat.reduceAdd, Nat.reduceEqDiff, reduceIte, reduceCtorEq, goInt, bne_self_eq_false, Bool.false_bne, Bool.true_bne, Bool.not_true, Bool.not_false, decide_eq_true_eq, decide_eq_false_iff_not, Option.some.injEq, exists_eq_left', Nat.zero_add, beq_self_eq_true, cond_true, cond_false, eqb_t, eqb_f, Int.cast_ofNat_Int, eq_self, decide_true, decide_false, Int.reduceLT, Int.reduceLE, Int.reduceEq, Int.reduceNeg, Int.reduceAdd, Int.reduceSub, and_true, true_and, forall_const, Bool.true_eq_false, Bool.false_eq_true, false_implies, ne_eq, not_true_eq_false, not_false_eq_true, true_implies, Decidable.not_not, undef, List.size_toArray, List.length_nil, Nat.reducePow, Nat.reduceDiv, Nat.reduceMod, goR_call (awake_call _), goR_call a1, goR_call k1, goR_call k2, goR_call k3, goR_call s3, goR_call k4, goR_call s4]
  refine loop_go (fun j e m' => Nx m m' ∧ Nx m4 m' ∧ ∃ i : Nat, i ≤ 2 ∧ j = 2 - i ∧ e = [(0, v), (1, I f), (2, I s), (7, v1), (8, I i)]) 2 ⟨F4, .refl, 0, by omega, rfl, rfl⟩ ?_
  rintro j e m5 N' B' hN hB ⟨F5, f5, i, hi, rfl, rfl⟩
  have hn5 := f5.next
  have O5 := Own2.fr O4 f5 (fun _ _ h => h)
  have R5 := h.fr F5 (Nat.le_refl _) (fun _ h => h.elim)
  by_cases hlt : (i : Int) < 2
  · have w1 : IntKind.i64.wrap ((i : Int) + 1) = ((i + 1 : Nat) : Int) := by rw [wrap_i64 (by omega) (by omega)]; omega
    -- either number
    have step : ∀ t : Int, f ≤ t → t ≤ 9223372036854775807 → ∃ mA mB mC mD row b, Ca 15 [v, I t] m5 (.tuple #[.agg ⟨row⟩, .bool b]) mA ∧ storeE (mA.push { cells := Z5, rw := true, spare := none, kin := [] }) 5 (.pointer (some ⟨mA.next, 0, none⟩)) (.agg ⟨row⟩) = some (.skip mB) ∧
        Ca 15 [v1, I t] mB (.tuple #[.agg ⟨row⟩, .bool b]) mC ∧ storeE (mC.push { cells := Z5, rw := true, spare := none, kin := [] }) 5 (.pointer (some ⟨mC.next, 0, none⟩)) (.agg ⟨row⟩) = some (.skip mD) ∧
        ldA mD 5 (.pointer (some ⟨mA.next, 0, none⟩)) = some (.val (.agg ⟨row⟩) mD) ∧ ldA mD 5 (.pointer (some ⟨mC.next, 0, none⟩)) = some (.val (.agg ⟨row⟩) mD) ∧
        binE Try.prog .neq 33 (.agg ⟨row⟩) (.agg ⟨row⟩) mD = some (.val (.bool false) mD) ∧ Nx m5 mD := by
      intro t hft ht2
      obtain ⟨mA, j1, j2⟩ := at_spec (s := t) R5 hw (by omega) ht2 (by have := F5.next; omega)
      obtain ⟨mB, i1, gB, i2, nB⟩ := new_store (m := mA) (z := Z5) (row := ((atV vs t).getD zv).row) (n := 5) rfl rfl (by omega)
      have fB : Nx m5 mB := j2.comp i2 fun _ _ h => h
      obtain ⟨mC, h1, h2⟩ := at_spec (s := t) (ownv_rd (Own2.fr O5 fB (fun _ _ h => h))) hws (by omega) ht2 (Nat.le_refl _)
      rw [at_sweep hr hft] at h1
      have nC := h2.next
      obtain ⟨mD, u1, gD, u2, nD⟩ := new_store (m := mC) (z := Z5) (row := ((atV vs t).getD zv).row) (n := 5) rfl rfl (by omega)
      have gA := (h2.comp u2 fun _ _ h => h).get (by omega) (fun h => h) gB
      have n1 := ne33 (m := mD) (v := (atV vs t).getD zv) (w := (atV vs t).getD zv)
      rw [sameV_self] at n1
      exact ⟨mA, mB, mC, mD, _, _, j1, i1, h1, u1, zv_ld gA, zv_ld gD, n1, (fB.comp h2 fun _ _ h => h).comp u2 fun _ _ h => h⟩
    have neb : ∀ (m : Mem) (b : Bool), binE Try.prog .neq 4 (.bool b) (.bool b) m = some (.val (.bool false) m) := fun m b => by rw [neb4]; cases b <;> rfl
    by_cases h1 : (i : Int) = 1
    · obtain ⟨mA, mB, mC, mD, row, b, t1, t2, t3, t4, t5, t6, t7, t8⟩ := step f (Int.le_refl _) hf2
      have h1' : decide ((i : Int) = 1) = true := by simp [h1]
      simp only [go_nil, go_inBlock, go_skip, go_seq, go_block, go_exit, go_ret, go_ops, go_opsr, go_cond, ex_nil, ex_code, ex_inLoop, ex_inBlock, goC_true, goC_false, goC_dec, goO_nil, goO_cons, goO_guard, goG_true, goG_false, goR_val, goR_skip, wantedX, X.put, X.look, look_hit, Arg.ev, keepOf, restrict, evs, evO, initEnv, xres, tup, xi_move, xi_pick, pick_bool, xi_bin, bin_add, bin_sub, bin_mul, bin_eql, bin_neq, bin_lss, bin_leq, bin_gtr, bin_geq, xi_load1, ld_ptr, xi_nilCheck, nilCheck_ptr, xi_fieldAddr, fieldAddr_ptr, xi_isNil, isNil_some, isNil_none, xi_extract, extract_tuple, xi_call, call_func, xi_len, len_slice, xi_un, un_not, xi_store, xi_box, box_int, box_ptr, box_slice, push_self, push_two, Mem.next_push, xi_calcB, calc_max, calc_min, goG_dec, goG_ndec, xi_indexAddr, indexAddr_at, xi_slice, xi_append, xi_clear, isNil_slice, xi_conv, xi_alloc, box_agg, box_string, box_bool, xi_buildSlice, xparts_nil, xparts_cons, xi_build, xi_field, field_one, xi_makeFunc, makeFunc_nil, xi_loadA, go_opsd, goD_nil, goD_cons, goD_guard, goDG_true, goDG_false, goDV0, goDV1, goDV2, goDV3, goDV3s, again_nil, again_cons, againE_val, veq_int, veq_slice, veq_ptr, veq_bool, veq_string, veq_agg, veqL_nil, veqL_cons, veqC_int, veqC_bool, veqC_string, veqC_slice, veqC_ptr, List.filter_cons, List.filter_nil, Nat.testBit_eq_decide_div_mod_eq, asNat_nat, asNat_zero, asNat_one, noTup, cls, quiet, Option.isNone_some, Option.isNone_none, Bool.and_true, Bool.and_self, Bool.true_and, Nat.add_zero, Nat.mul_one, Nat.mul_zero, Nat.zero_mul, List.length_map, Option.bind_some, Option.map_some, List.getElem?_cons_zero, List.getElem?_cons_succ, Nat.reduceAdd, Nat.reduceEqDiff, reduceIte, reduceCtorEq, goInt, bne_self_eq_false, Bool.false_bne, Bool.true_bne, Bool.not_true, Bool.not_false, decide_eq_true_eq, decide_eq_false_iff_not, Option.some.injEq, exists_eq_left', Nat.zero_add, beq_self_eq_true, cond_true, cond_false, eqb_t, eqb_f, Int.cast_ofNat_Int, eq_self, decide_true, decide_false, Int.reduceLT, Int.reduceLE, Int.reduceEq, Int.reduceNeg, Int.reduceAdd, Int.reduceSub, and_true, true_and, forall_const, Bool.true_eq_false, Bool.false_eq_true, false_implies, ne_eq, not_true_eq_false, not_false_eq_true, true_implies, Decidable.not_not, undef, List.size_toArray, List.length_nil, Nat.reducePow, Nat.reduceDiv, Nat.reduceMod, hlt, h1', goR_call t1, t2, goR_call t3, t4, t5, t6, t7, neb, w1]
      exact hN _ _ (2 - (i + 1)) (by omega) ⟨F5.comp t8 fun _ _ h => h, f5.comp t8 fun _ _ h => h, i + 1, by omega, rfl, rfl⟩
    · obtain ⟨mA, mB, mC, mD, row, b, t1, t2, t3, t4, t5, t6, t7, t8⟩ := step (max s f) (by omega) (by omega)
      simp only [go_nil, go_inBlock, go_skip, go_seq, go_block, go_exit, go_ret, go_ops, go_opsr, go_cond, ex_nil, ex_code, ex_inLoop, ex_inBlock, goC_true, goC_false, goC_dec, goO_nil, goO_cons, goO_guard, goG_true, goG_false, goR_val, goR_skip, wantedX, X.put, X.look, look_hit, Arg.ev, keepOf, restrict, evs, evO, initEnv, xres, tup, xi_move, xi_pick, pick_bool, xi_bin, bin_add, bin_sub, bin_mul, bin_eql, bin_neq, bin_lss, bin_leq, bin_gtr, bin_geq, xi_load1, ld_ptr, xi_nilCheck, nilCheck_ptr, xi_fieldAddr, fieldAddr_ptr, xi_isNil, isNil_some, isNil_none, xi_extract, extract_tuple, xi_call, call_func, xi_len, len_slice, xi_un, un_not, xi_store, xi_box, box_int, box_ptr, box_slice, push_self, push_two, Mem.next_push, xi_calcB, calc_max, calc_min, goG_dec, goG_ndec, xi_indexAddr, indexAddr_at, xi_slice, xi_append, xi_clear, isNil_slice, xi_conv, xi_alloc, box_agg, box_string, box_bool, xi_buildSlice, xparts_nil, xparts_cons, xi_build, xi_field, field_one, xi_makeFunc, makeFunc_nil, xi_loadA, go_opsd, goD_nil, goD_cons, goD_guard, goDG_true, goDG_false, goDV0, goDV1, goDV2, goDV3, goDV3s, again_nil, again_cons, againE_val, veq_int, veq_slice, veq_ptr, veq_bool, veq_string, veq_agg, veqL_nil, veqL_cons, veqC_int, veqC_bool, veqC_string, veqC_slice, veqC_ptr, List.filter_cons, List.filter_nil, Nat.testBit_eq_decide_div_mod_eq, asNat_nat, asNat_zero, asNat_one, noTup, cls, quiet, Option.isNone_some, Option.isNone_none, Bool.and_true, Bool.and_self, Bool.true_and, Nat.add_zero, Nat.mul_one, Nat.mul_zero, Nat.zero_mul, List.length_map, Option.bind_some, Option.map_some, List.getElem?_cons_zero, List.getElem?_cons_succ, Nat.reduceAdd, Nat.reduceEqDiff, reduceIte, reduceCtorEq, goInt, bne_self_eq_false, Bool.false_bne, Bool.true_bne, Bool.not_true, Bool.not_false, decide_eq_true_eq, decide_eq_false_iff_not, Option.some.injEq, exists_eq_left', Nat.zero_add, beq_self_eq_true, cond_true, cond_false, eqb_t, eqb_f, Int.cast_ofNat_Int, eq_self, decide_true, decide_false, Int.reduceLT, Int.reduceLE, Int.reduceEq, Int.reduceNeg, Int.reduceAdd, Int.reduceSub, and_true, true_and, forall_const, Bool.true_eq_false, Bool.false_eq_true, false_implies, ne_eq, not_true_eq_false, not_false_eq_true, true_implies, Decidable.not_not, undef, List.size_toArray, List.length_nil, Nat.reducePow, Nat.reduceDiv, Nat.reduceMod, hlt, h1, goR_call t1, t2, goR_call t3, t4, t5, t6, t7, neb, w1]
      exact hN _ _ (2 - (i + 1)) (by omega) ⟨F5.comp t8 fun _ _ h => h, f5.comp t8 fun _ _ h => h, i + 1, by omega, rfl, rfl⟩
  · simp only [go_nil, go_inBlock, go_skip, go_seq, go_block, go_exit, go_ret, go_ops, go_opsr, go_cond, ex_nil, ex_code, ex_inLoop, ex_inBlock, goC_true, goC_false, goC_dec, goO_nil, goO_cons, goO_guard, goG_true, goG_false, goR_val, goR_skip, wantedX, X.put, X.look, look_hit, Arg.ev, keepOf, restrict, evs, evO, initEnv, xres, tup, xi_move, xi_pick, pick_bool, xi_bin, bin_add, bin_sub, bin_mul, bin_eql, bin_neq, bin_lss, bin_leq, bin_gtr, bin_geq, xi_load1, ld_ptr, xi_nilCheck, nilCheck_ptr, xi_fieldAddr, fieldAddr_ptr, xi_isNil, isNil_some, isNil_none, xi_extract, extract_tuple, xi_call, call_func, xi_len, len_slice, xi_un, un_not, xi_store, xi_box, box_int, box_ptr, box_slice, push_self, push_two, Mem.next_push, xi_calcB, calc_max, calc_min, goG_dec, goG_ndec, xi_indexAddr, indexAddr_at, xi_slice, xi_append, xi_clear, isNil_slice, xi_conv, xi_alloc, box_agg, box_string, box_bool, xi_buildSlice, xparts_nil, xparts_cons, xi_build, xi_field, field_one, xi_makeFunc, makeFunc_nil, xi_loadA, go_opsd, goD_nil, goD_cons, goD_guard, goDG_true, goDG_false, goDV0, goDV1, goDV2, goDV3, goDV3s, again_nil, again_cons, againE_val, veq_int, veq_slice, veq_ptr, veq_bool, veq_string, veq_agg, veqL_nil, veqL_cons, veqC_int, veqC_bool, veqC_string, veqC_slice, veqC_ptr, List.filter_cons, List.filter_nil, Nat.testBit_eq_decide_div_mod_eq, asNat_nat, asNat_zero, asNat_one, noTup, cls, quiet, Option.isNone_some, Option.isNone_none, Bool.and_true, Bool.and_self, Bool.true_and, Nat.add_zero, Nat.mul_one, Nat.mul_zero, Nat.zero_mul, List.length_map, Option.bind_some, Option.map_some, List.getElem?_cons_zero, List.getElem?_cons_succ, Nat.reduceAdd, Nat.reduceEqDiff, reduceIte, reduceCtorEq, goInt, bne_self_eq_false, Bool.false_bne, Bool.true_bne, Bool.not_true, Bool.not_false, decide_eq_true_eq, decide_eq_false_iff_not, Option.some.injEq, exists_eq_left', Nat.zero_add, beq_self_eq_true, cond_true, cond_false, eqb_t, eqb_f, Int.cast_ofNat_Int, eq_self, decide_true, decide_false, Int.reduceLT, Int.reduceLE, Int.reduceEq, Int.reduceNeg, Int.reduceAdd, Int.reduceSub, and_true, true_and, forall_const, Bool.true_eq_false, Bool.false_eq_true, false_implies, ne_eq, not_true_eq_false, not_false_eq_true, true_implies, Decidable.not_not, undef, List.size_toArray, List.length_nil, Nat.reducePow, Nat.reduceDiv, Nat.reduceMod, hlt]
    refine hB _ _ _ ?_
    have nm := F5.next
    obtain ⟨m6, j1, j2⟩ := weight_spec (ownv_rd O5) hws (by omega) (Nat.le_refl _)
    rw [last_sweep hr] at j1
    have F6 : Nx m m6 := F5.comp j2 fun _ _ h => h
    have n6 := j2.next
    obtain ⟨m7, i1, i2⟩ := rweight_spec (h.fr F6 (Nat.le_refl _) (fun _ h => h.elim)) (fun x hx => ⟨hw x hx, ht x hx⟩) (by omega) (by omega)
    have F7 : Nx m m7 := F6.comp i2 fun _ _ h => h
    have n7 := i2.next
    obtain ⟨m8, u1, u2⟩ := weight_spec (ownv_rd (Own2.fr O5 (j2.comp i2 fun _ _ h => h) (fun _ _ h => h))) hws (by omega) (Nat.le_refl _)
    rw [last_sweep hr] at u1
    have F8 : Nx m m8 := F7.comp u2 fun _ _ h => h
    have n8 := u2.next
    by_cases h0 : (0 : Int) < (vs.length : Int)
    · obtain ⟨x, hx⟩ : ∃ x, vs[vs.length - 1]? = some x := ⟨_, List.getElem?_eq_getElem (by omega)⟩
      have e3 : vs.getLast? = some x := by rw [List.getLast?_eq_getElem?, hx]
      obtain ⟨a, c', hv', ⟨o, hg, c0, c1, c2, c3, c4⟩, l5, l3⟩ := rdv_at (h.fr F8 (Nat.le_refl _) (fun _ h => h.elim)) hx
      have w1 : IntKind.i64.wrap ((vs.length : Int) - 1) = ((vs.length - 1 : Nat) : Int) := by rw [wrap_i64 (by omega) (by omega)]; omega
      have hlt2 : vs.length - 1 < vs.length := by omega
      have hwx := hw x (List.mem_of_getElem? hx)
      rw [e3] at j1 i1 u1
      subst hv'
      cases hgn : x.gone with
      | true =>
        have e4 : wgtL (some x) = 0 := by simp [wgtL, hgn]
        rw [e4] at j1 i1 u1
        simp only [go_nil, go_inBlock, go_skip, go_seq, go_block, go_exit, go_ret, go_ops, go_opsr, go_cond, ex_nil, ex_code, ex_inLoop, ex_inBlock, goC_true, goC_false, goC_dec, goO_nil, goO_cons, goO_guard, goG_true, goG_false, goR_val, goR_skip, wantedX, X.put, X.look, look_hit, Arg.ev, keepOf, restrict, evs, evO, initEnv, xres, tup, xi_move, xi_pick, pick_bool, xi_bin, bin_add, bin_sub, bin_mul, bin_eql, bin_neq, bin_lss, bin_leq, bin_gtr, bin_geq, xi_load1, ld_ptr, xi_nilCheck, nilCheck_ptr, xi_fieldAddr, fieldAddr_ptr, xi_isNil, isNil_some, isNil_none, xi_extract, extract_tuple, xi_call, call_func, xi_len, len_slice, xi_un, un_not, xi_store, xi_box, box_int, box_ptr, box_slice, push_self, push_two, Mem.next_push, xi_calcB, calc_max, calc_min, goG_dec, goG_ndec, xi_indexAddr, indexAddr_at, xi_slice, xi_append, xi_clear, isNil_slice, xi_conv, xi_alloc, box_agg, box_string, box_bool, xi_buildSlice, xparts_nil, xparts_cons, xi_build, xi_field, field_one, xi_makeFunc, makeFunc_nil, xi_loadA, go_opsd, goD_nil, goD_cons, goD_guard, goDG_true, goDG_false, goDV0, goDV1, goDV2, goDV3, goDV3s, again_nil, again_cons, againE_val, veq_int, veq_slice, veq_ptr, veq_bool, veq_string, veq_agg, veqL_nil, veqL_cons, veqC_int, veqC_bool, veqC_string, veqC_slice, veqC_ptr, List.filter_cons, List.filter_nil, Nat.testBit_eq_decide_div_mod_eq, asNat_nat, asNat_zero, asNat_one, noTup, cls, quiet, Option.isNone_some, Option.isNone_none, Bool.and_true, Bool.and_self, Bool.true_and, Nat.add_zero, Nat.mul_one, Nat.mul_zero, Nat.zero_mul, List.length_map, Option.bind_some, Option.map_some, List.getElem?_cons_zero, List.getElem?_cons_succ, Nat.reduceAdd, Nat.reduceEqDiff, reduceIte, reduceCtorEq, goInt, bne_self_eq_false, Bool.false_bne, Bool.true_bne, Bool.not_true, Bool.not_false, decide_eq_true_eq, decide_eq_false_iff_not, Option.some.injEq, exists_eq_left', Nat.zero_add, beq_self_eq_true, cond_true, cond_false, eqb_t, eqb_f, Int.cast_ofNat_Int, eq_self, decide_true, decide_false, Int.reduceLT, Int.reduceLE, Int.reduceEq, Int.reduceNeg, Int.reduceAdd, Int.reduceSub, and_true, true_and, forall_const, Bool.true_eq_false, Bool.false_eq_true, false_implies, ne_eq, not_true_eq_false, not_false_eq_true, true_implies, Decidable.not_not, undef, List.size_toArray, List.length_nil, Nat.reducePow, Nat.reduceDiv, Nat.reduceMod, goR_call j1, goR_call i1, goR_call u1, h0, w1, hlt2, hg, c1, hgn, eqb4]
        exact hQ _ _ _ rfl rfl
      | false =>
        have e4 : wgtL (some x) = wgtX x := by simp [wgtL, hgn]
        rw [e4] at j1 i1 u1
        have hpos := wgtX_pos x
        have hpos' : (0 : Int) < (wgtX x : Int) := by omega
        obtain ⟨sx, m9, p1, p2, p3⟩ := rpack_spec (m := m8) hwx (ht x (List.mem_of_getElem? hx))
        have hsz : (0 : Int) < (sx.size : Int) := by omega
        simp only [go_nil, go_inBlock, go_skip, go_seq, go_block, go_exit, go_ret, go_ops, go_opsr, go_cond, ex_nil, ex_code, ex_inLoop, ex_inBlock, goC_true, goC_false, goC_dec, goO_nil, goO_cons, goO_guard, goG_true, goG_false, goR_val, goR_skip, wantedX, X.put, X.look, look_hit, Arg.ev, keepOf, restrict, evs, evO, initEnv, xres, tup, xi_move, xi_pick, pick_bool, xi_bin, bin_add, bin_sub, bin_mul, bin_eql, bin_neq, bin_lss, bin_leq, bin_gtr, bin_geq, xi_load1, ld_ptr, xi_nilCheck, nilCheck_ptr, xi_fieldAddr, fieldAddr_ptr, xi_isNil, isNil_some, isNil_none, xi_extract, extract_tuple, xi_call, call_func, xi_len, len_slice, xi_un, un_not, xi_store, xi_box, box_int, box_ptr, box_slice, push_self, push_two, Mem.next_push, xi_calcB, calc_max, calc_min, goG_dec, goG_ndec, xi_indexAddr, indexAddr_at, xi_slice, xi_append, xi_clear, isNil_slice, xi_conv, xi_alloc, box_agg, box_string, box_bool, xi_buildSlice, xparts_nil, xparts_cons, xi_build, xi_field, field_one, xi_makeFunc, makeFunc_nil, xi_loadA, go_opsd, goD_nil, goD_cons, goD_guard, goDG_true, goDG_false, goDV0, goDV1, goDV2, goDV3, goDV3s, again_nil, again_cons, againE_val, veq_int, veq_slice, veq_ptr, veq_bool, veq_string, veq_agg, veqL_nil, veqL_cons, veqC_int, veqC_bool, veqC_string, veqC_slice, veqC_ptr, List.filter_cons, List.filter_nil, Nat.testBit_eq_decide_div_mod_eq, asNat_nat, asNat_zero, asNat_one, noTup, cls, quiet, Option.isNone_some, Option.isNone_none, Bool.and_true, Bool.and_self, Bool.true_and, Nat.add_zero, Nat.mul_one, Nat.mul_zero, Nat.zero_mul, List.length_map, Option.bind_some, Option.map_some, List.getElem?_cons_zero, List.getElem?_cons_succ, Nat.reduceAdd, Nat.reduceEqDiff, reduceIte, reduceCtorEq, goInt, bne_self_eq_false, Bool.false_bne, Bool.true_bne, Bool.not_true, Bool.not_false, decide_eq_true_eq, decide_eq_false_iff_not, Option.some.injEq, exists_eq_left', Nat.zero_add, beq_self_eq_true, cond_true, cond_false, eqb_t, eqb_f, Int.cast_ofNat_Int, eq_self, decide_true, decide_false, Int.reduceLT, Int.reduceLE, Int.reduceEq, Int.reduceNeg, Int.reduceAdd, Int.reduceSub, and_true, true_and, forall_const, Bool.true_eq_false, Bool.false_eq_true, false_implies, ne_eq, not_true_eq_false, not_false_eq_true, true_implies, Decidable.not_not, undef, List.size_toArray, List.length_nil, Nat.reducePow, Nat.reduceDiv, Nat.reduceMod, goR_call j1, goR_call i1, goR_call u1, hpos', h0, w1, hlt2, hg, c1, hgn, l3, goR_call p1, calc_len, hsz, eqb4]
        exact hQ _ _ _ rfl rfl
    · have hnil : vs.getLast? = none := by
        have : vs = [] := List.eq_nil_of_length_eq_zero (by omega)
        rw [this]; rfl
      have e4 : wgtL none = 0 := rfl
      rw [hnil, e4] at j1 i1 u1
      subst hv
      simp only [go_nil, go_inBlock, go_skip, go_seq, go_block, go_exit, go_ret, go_ops, go_opsr, go_cond, ex_nil, ex_code, ex_inLoop, ex_inBlock, goC_true, goC_false, goC_dec, goO_nil, goO_cons, goO_guard, goG_true, goG_false, goR_val, goR_skip, wantedX, X.put, X.look, look_hit, Arg.ev, keepOf, restrict, evs, evO, initEnv, xres, tup, xi_move, xi_pick, pick_bool, xi_bin, bin_add, bin_sub, bin_mul, bin_eql, bin_neq, bin_lss, bin_leq, bin_gtr, bin_geq, xi_load1, ld_ptr, xi_nilCheck, nilCheck_ptr, xi_fieldAddr, fieldAddr_ptr, xi_isNil, isNil_some, isNil_none, xi_extract, extract_tuple, xi_call, call_func, xi_len, len_slice, xi_un, un_not, xi_store, xi_box, box_int, box_ptr, box_slice, push_self, push_two, Mem.next_push, xi_calcB, calc_max, calc_min, goG_dec, goG_ndec, xi_indexAddr, indexAddr_at, xi_slice, xi_append, xi_clear, isNil_slice, xi_conv, xi_alloc, box_agg, box_string, box_bool, xi_buildSlice, xparts_nil, xparts_cons, xi_build, xi_field, field_one, xi_makeFunc, makeFunc_nil, xi_loadA, go_opsd, goD_nil, goD_cons, goD_guard, goDG_true, goDG_false, goDV0, goDV1, goDV2, goDV3, goDV3s, again_nil, again_cons, againE_val, veq_int, veq_slice, veq_ptr, veq_bool, veq_string, veq_agg, veqL_nil, veqL_cons, veqC_int, veqC_bool, veqC_string, veqC_slice, veqC_ptr, List.filter_cons, List.filter_nil, Nat.testBit_eq_decide_div_mod_eq, asNat_nat, asNat_zero, asNat_one, noTup, cls, quiet, Option.isNone_some, Option.isNone_none, Bool.and_true, Bool.and_self, Bool.true_and, Nat.add_zero, Nat.mul_one, Nat.mul_zero, Nat.zero_mul, List.length_map, Option.bind_some, Option.map_some, List.getElem?_cons_zero, List.getElem?_cons_succ, Nat.reduceAdd, Nat.reduceEqDiff, reduceIte, reduceCtorEq, goInt, bne_self_eq_false, Bool.false_bne, Bool.true_bne, Bool.not_true, Bool.not_false, decide_eq_true_eq, decide_eq_false_iff_not, Option.some.injEq, exists_eq_left', Nat.zero_add, beq_self_eq_true, cond_true, cond_false, eqb_t, eqb_f, Int.cast_ofNat_Int, eq_self, decide_true, decide_false, Int.reduceLT, Int.reduceLE, Int.reduceEq, Int.reduceNeg, Int.reduceAdd, Int.reduceSub, and_true, true_and, forall_const, Bool.true_eq_false, Bool.false_eq_true, false_implies, ne_eq, not_true_eq_false, not_false_eq_true, true_implies, Decidable.not_not, undef, List.size_toArray, List.length_nil, Nat.reducePow, Nat.reduceDiv, Nat.reduceMod, goR_call j1, goR_call i1, goR_call u1, h0, eqb4]
      exact hQ _ _ _ rfl rfl

theorem chainSweeps_args {H : Type} (ds : List (DataW H)) (h : wfEach Try.prog ds Try.f6.params.toList) : ∃ (d : DataW H) (a b : Int), ds = [d, .lit (.int .i64 a), .lit (.int .i64 b)] ∧ wfD Try.prog d 22 ∧ a ≤ 9223372036854775807 ∧ b ≤ 9223372036854775807 := by
  rw [Try.params6] at h
  obtain ⟨d0, r, rfl, h0, h⟩ := wf_more h
  obtain ⟨d1, r, rfl, h1, h⟩ := wf_more h
  obtain ⟨d2, rfl, h2⟩ := wf_one h
  obtain ⟨a, rfl, _, a2⟩ := wf_int Try.underlying3 h1
  obtain ⟨b, rfl, _, b2⟩ := wf_int Try.underlying3 h2
  exact ⟨d0, a, b, rfl, h0, a2, b2⟩

theorem chainSweeps_lifted (os : Os) (started : os.Started) (H : Type) (enc : TypeId × Value → H) :
    ReturnsInHanded {} Try.checked os 6 .any (Rows.chainSweepsSpec.pre6 enc Try.prog Try.f6 Rows.chainSweepsRow.domain false) (Rows.chainSweepsSpec.post enc Try.prog Try.f6 false true false false) := by
  refine returnsInHanded_of_change (C := Try.checked) own started (by kernel_rfl) Try.func6
    (ChangeSpec.witness6 (enc := enc) (C := Try.checked) false ⟨#[], #[.slice none 0 0, .int .i64 0, .int .i64 0], []⟩ 8 (by kernel_rfl) (by kernel_rfl) (by kernel_rfl) (by kernel_rfl)) ?_
  intro W base args ds gs before hval0 hW hcnd _
  refine law_contract mixed tabK_is (f := 6) rfl (k := 10) (by rw [← List.all_eq_true]; kernel_rfl) (fun t ht => ?_) laid rfl (by kernel_rfl) rfl ?_ ?_ H enc W base args ds gs before hval0 hW
  · have : (Try.f6.params.toList.all fun t => Try.prog.readableRec t && decide (t < Try.prog.types.size)) = true := by kernel_rfl
    have := List.all_eq_true.1 this t ht
    simp only [Bool.and_eq_true, decide_eq_true_eq] at this
    exact this
  · intro H ds hd
    obtain ⟨_, _, _, rfl, _⟩ := chainSweeps_args ds hd
    rfl
  · intro H ds hd
    obtain ⟨d, a, b, rfl, hd1, ha2, hb2⟩ := chainSweeps_args ds hd
    obtain ⟨vs, v, g1, g2, g3, g4, g5⟩ := abs_slice_vers (m := Mem.empty) hd1
    have ha : absArgs Try.prog [d, .lit (.int .i64 a), .lit (.int .i64 b)] Try.f6.params.toList Mem.empty
        = ([argVal Try.prog 22 (absD Try.prog d 22 Mem.empty).1, I a, I b], (absD Try.prog d 22 Mem.empty).2) := by kernel_rfl
    have hv : argVal Try.prog 22 (absD Try.prog d 22 Mem.empty).1 = v := by rw [g1]; kernel_rfl
    rw [ha, hv]
    obtain ⟨v, m', ⟨n, hn⟩, rfl⟩ := chainSweeps_run (f := a) (s := b) g4 g5 g2 ha2 hb2
    exact ⟨n, m', hn⟩

theorem chainSweeps_holds : Rows.ChainSweepsSaid :=
  OpenClaim.holds_of_wide 6 Try.f6 rfl rfl rfl rfl rfl rfl rfl ⟨rfl, rfl, rfl, rfl, rfl⟩ rfl rfl rfl rfl rfl (by kernel_rfl) Try.func6 (by kernel_rfl)
    (of_decide_eq_true (by kernel_rfl)) (by unfold Func.isWrapper; first | (rw [if_pos (by decide +kernel)]; kernel_rfl) | (rw [if_neg (by decide +kernel)]; exact ⟨rfl, rfl⟩))
    (fun os started H enc _ => chainSweeps_lifted os started H enc)

end Go.Proofs.Ytbcoijgoipnelab
