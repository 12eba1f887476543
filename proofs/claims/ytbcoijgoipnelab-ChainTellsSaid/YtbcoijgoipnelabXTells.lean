/-
  Own work. PROVED HERE: ChainTells: whatever versions and number, the law returns true. No condition.
-/
import Derived.Test.YtbcoijgoipnelabXCA
import Derived.Test.YtbcoijgoipnelabRows
import Derived.ProofKit
namespace Go.Proofs.Ytbcoijgoipnelab
open Go Go.ChangeShapes Go.WideShapes Go.ChangeAt Go.RowKit X
set_option maxRecDepth 100000
set_option linter.unusedVariables false
set_option linter.unusedSimpArgs false

theorem zv_ld {m : Mem} {p : Nat} {x : Ver} (h : m.get p = some { cells := x.row, rw := true, spare := none, kin := [] }) : ldA m 5 (.pointer (some ⟨p, 0, none⟩)) = some (.val (.agg ⟨x.row⟩) m) := by simp [ldA, xload, h]

theorem chainTells_run {m : Mem} {v : Value} {vs : List Ver} {s : Int} (h : RdV m.next m v vs) (hw : ∀ x ∈ vs, x.Wf) (hs : s ≤ 9223372036854775807) : Wc 5 [v, I s] m fun r _ => r = .bool true := by
  refine call_go (F := _) rfl rfl fun Q hQ => ?_
  have a1 := far_spec h
  cases hf : farV vs with
  | true =>
    rw [hf] at a1
    simp only [go_nil, go_inBlock, go_skip, go_seq, go_block, go_exit, go_ret, go_ops, go_opsr, go_cond, ex_nil, ex_code, ex_inLoop, ex_inBlock, goC_true, goC_false, goC_dec, goO_nil, goO_cons, goO_guard, goG_true, goG_false, goR_val, goR_skip, wantedX, X.put, X.look, look_hit, Arg.ev, keepOf, restrict, evs, evO, initEnv, xres, tup, xi_move, xi_pick, pick_bool, xi_bin, bin_add, bin_sub, bin_mul, bin_eql, bin_neq, bin_lss, bin_leq, bin_gtr, bin_geq, xi_load1, ld_ptr, xi_nilCheck, nilCheck_ptr, xi_fieldAddr, fieldAddr_ptr, xi_isNil, isNil_some, isNil_none, xi_extract, extract_tuple, xi_call, call_func, xi_len, len_slice, xi_un, un_not, xi_store, xi_box, box_int, box_ptr, box_slice, push_self, push_two, Mem.next_push, xi_calcB, calc_max, calc_min, goG_dec, goG_ndec, xi_indexAddr, indexAddr_at, xi_slice, xi_append, xi_clear, isNil_slice, xi_conv, xi_alloc, box_agg, box_string, box_bool, xi_buildSlice, xparts_nil, xparts_cons, xi_build, xi_field, field_one, xi_makeFunc, makeFunc_nil, xi_loadA, go_opsd, goD_nil, goD_cons, goD_guard, goDG_true, goDG_false, goDV0, goDV1, goDV2, goDV3, goDV3s, again_nil, again_cons, againE_val, veq_int, veq_slice, veq_ptr, veq_bool, veq_string, veq_agg, veqL_nil, veqL_cons, veqC_int, veqC_bool, veqC_string, veqC_slice, veqC_ptr, List.filter_cons, List.filter_nil, Nat.testBit_eq_decide_div_mod_eq, asNat_nat, asNat_zero, asNat_one, noTup, cls, quiet, Option.isNone_some, Option.isNone_none, Bool.and_true, Bool.and_self, Bool.true_and, Nat.add_zero, Nat.mul_one, Nat.mul_zero, Nat.zero_mul, List.length_map, Option.bind_some, Option.map_some, List.getElem?_cons_zero, List.getElem?_cons_succ, Nat.reduceAdd, Nat.reduceEqDiff, reduceIte, reduceCtorEq, goInt, bne_self_eq_false, Bool.false_bne, Bool.true_bne, Bool.not_true, Bool.not_false, decide_eq_true_eq, decide_eq_false_iff_not, Option.some.injEq, exists_eq_left', Nat.zero_add, beq_self_eq_true, cond_true, cond_false, eqb_t, eqb_f, Int.cast_ofNat_Int, eq_self, decide_true, decide_false, Int.reduceLT, Int.reduceLE, Int.reduceEq, Int.reduceNeg, Int.reduceAdd, Int.reduceSub, and_true, true_and, forall_const, Bool.true_eq_false, Bool.false_eq_true, false_implies, ne_eq, not_true_eq_false, not_false_eq_true, true_implies, Decidable.not_not, undef, List.size_toArray, List.length_nil, Nat.reducePow, Nat.reduceDiv, Nat.reduceMod, goR_call (awake_call _), goR_call a1]
    exact hQ _ _ _ rfl rfl
  | false =>
  rw [hf] at a1
  have hl : vs.length ≤ 100 := by simp [farV] at hf; omega
  have ht : ∀ x ∈ vs, x.text.size ≤ 200 := by
    intro x hx
    simp [farV] at hf
    exact hf.2 x hx
  obtain ⟨m1, r1, f1⟩ := rright_loop h hw (by omega) (Nat.le_refl _)
  have hn1 := f1.next
  obtain ⟨m2, k2, f2⟩ := at_spec (s := s) (h.fr f1 (Nat.le_refl _) (fun _ h => h.elim)) hw (by omega) hs hn1
  have hn2 := f2.next
  have F2 : Nx m m2 := f1.comp f2 fun _ _ h => h
  obtain ⟨m3, k3, g3, f3, n3⟩ := new_store (m := m2) (z := [I 0, .bool false, .bool false, .string .empty, U 0]) (row := ((atV vs s).getD zv).row) (n := 5) rfl rfl (by omega)
  have F3 : Nx m m3 := F2.comp f3 fun _ _ h => h
  obtain ⟨m4, k4, f4⟩ := last_spec (h.fr F3 (Nat.le_refl _) (fun _ h => h.elim)) hw (by omega) (by omega)
  have hn4 := f4.next
  have F4 : Nx m m4 := F3.comp f4 fun _ _ h => h
  obtain ⟨m5, k5, g5, f5, n5⟩ := new_store (m := m4) (z := [I 0, .bool false, .bool false, .string .empty, U 0]) (row := ((lastV vs).getD zv).row) (n := 5) rfl rfl (by omega)
  have F5 : Nx m m5 := F4.comp f5 fun _ _ h => h
  obtain ⟨m6, k6, f6⟩ := right_loop (h.fr F5 (Nat.le_refl _) (fun _ h => h.elim)) hw (by omega) (by omega)
  have hn6 := f6.next
  have F6 : Nx m m6 := F5.comp f6 fun _ _ h => h
  have A6 := ((f4.comp f5 fun _ _ h => h).comp f6 fun _ _ h => h).get (by omega) (fun h => h) g3
  have B6 := f6.get (by omega) (fun h => h) g5
  obtain ⟨p, c, hv⟩ := rdv_slice h
  cases hr : okC 0 vs with
  | false =>
    rw [hr] at r1 k6
    have e1 : atV vs s = none := by simp [atV, hr]
    have e2 : lastV vs = none := by simp [lastV, hr]
    obtain ⟨m7, k7, f7⟩ := weight_spec (h.fr F6 (Nat.le_refl _) (fun _ h => h.elim)) hw (by omega) (by omega)
    have hn7 := f7.next
    have F7 : Nx m m7 := F6.comp f7 fun _ _ h => h
    obtain ⟨m8, k8, f8⟩ := old_spec (f := s) (h.fr F7 (Nat.le_refl _) (fun _ h => h.elim)) hw (by omega) hs (by omega)
    have e3 : oldV vs s = 0 := by simp [oldV, hr]
    rw [e1] at k2 k3 A6
    rw [e2] at k4 k5 B6 k7
    rw [e3] at k8
    have e4 : wgtL none = 0 := rfl
    rw [e4] at k7
    unfold tupV at k2 k4
    simp only [Option.getD_none, Option.isSome_none] at k2 k3 k4 k5 A6 B6
    simp only [go_nil, go_inBlock, go_skip, go_seq, go_block, go_exit, go_ret, go_ops, go_opsr, go_cond, ex_nil, ex_code, ex_inLoop, ex_inBlock, goC_true, goC_false, goC_dec, goO_nil, goO_cons, goO_guard, goG_true, goG_false, goR_val, goR_skip, wantedX, X.put, X.look, look_hit, Arg.ev, keepOf, restrict, evs, evO, initEnv, xres, tup, xi_move, xi_pick, pick_bool, xi_bin, bin_add, bin_sub, bin_mul, bin_eql, bin_neq, bin_lss, bin_leq, bin_gtr, bin_geq, xi_load1, ld_ptr, xi_nilCheck, nilCheck_ptr, xi_fieldAddr, fieldAddr_ptr, xi_isNil, isNil_some, isNil_none, xi_extract, extract_tuple, xi_call, call_func, xi_len, len_slice, xi_un, un_not, xi_store, xi_box, box_int, box_ptr, box_slice, push_self, push_two, Mem.next_push, xi_calcB, calc_max, calc_min, goG_dec, goG_ndec, xi_indexAddr, indexAddr_at, xi_slice, xi_append, xi_clear, isNil_slice, xi_conv, xi_alloc, box_agg, box_string, box_bool, xi_buildSlice, xparts_nil, xparts_cons, xi_build, xi_field, field_one, xi_makeFunc, makeFunc_nil, xi_loadA, go_opsd, goD_nil, goD_cons, goD_guard, goDG_true, goDG_false, goDV0, goDV1, goDV2, goDV3, goDV3s, again_nil, again_cons, againE_val, veq_int, veq_slice, veq_ptr, veq_bool, veq_string, veq_agg, veqL_nil, veqL_cons, veqC_int, veqC_bool, veqC_string, veqC_slice, veqC_ptr, List.filter_cons, List.filter_nil, Nat.testBit_eq_decide_div_mod_eq, asNat_nat, asNat_zero, asNat_one, noTup, cls, quiet, Option.isNone_some, Option.isNone_none, Bool.and_true, Bool.and_self, Bool.true_and, Nat.add_zero, Nat.mul_one, Nat.mul_zero, Nat.zero_mul, List.length_map, Option.bind_some, Option.map_some, List.getElem?_cons_zero, List.getElem?_cons_succ, Nat.reduceAdd, Nat.reduceEqDiff, reduceIte, reduceCtorEq, goInt, bne_self_eq_false, Bool.false_bne, Bool.true_bne, Bool.not_true, Bool.not_false, decide_eq_true_eq, decide_eq_false_iff_not, Option.some.injEq, exists_eq_left', Nat.zero_add, beq_self_eq_true, cond_true, cond_false, eqb_t, eqb_f, Int.cast_ofNat_Int, eq_self, decide_true, decide_false, Int.reduceLT, Int.reduceLE, Int.reduceEq, Int.reduceNeg, Int.reduceAdd, Int.reduceSub, and_true, true_and, forall_const, Bool.true_eq_false, Bool.false_eq_true, false_implies, ne_eq, not_true_eq_false, not_false_eq_true, true_implies, Decidable.not_not, undef, List.size_toArray, List.length_nil, Nat.reducePow, Nat.reduceDiv, Nat.reduceMod, goR_call (awake_call _), goR_call a1, goR_call r1, goR_call k2, k3, goR_call k4, k5, goR_call k6, neb4, zv_ld A6, zv_ld B6, build33, eq33, sameV_self, goR_call k7, goR_call k8]
    exact hQ _ _ _ rfl rfl
  | true =>
    rw [hr] at r1 k6
    obtain ⟨m7, k7, f7⟩ := rat_spec (s := s) (h.fr F6 (Nat.le_refl _) (fun _ h => h.elim)) (by omega) (by omega)
    rw [rat_eq hr] at k7
    have hn7 := f7.next
    have F7 : Nx m m7 := F6.comp f7 fun _ _ h => h
    obtain ⟨m8, k8, g8, f8, n8⟩ := new_store (m := m7) (z := [I 0, .bool false, .bool false, .string .empty, U 0]) (row := ((atV vs s).getD zv).row) (n := 5) rfl rfl (by omega)
    obtain ⟨m9, k9, g9, f9, n9⟩ := new_store (m := m8) (z := [I 0, .bool false, .bool false, .string .empty, U 0]) (row := zv.row) (n := 5) rfl rfl (by omega)
    have f79 : Nx m7 m9 := f8.comp f9 fun _ _ h => h
    have F9 : Nx m m9 := F7.comp f79 fun _ _ h => h
    have A9 := (f7.comp f79 fun _ _ h => h).get (by omega) (fun h => h) A6
    have B9 := (f7.comp f79 fun _ _ h => h).get (by omega) (fun h => h) B6
    have C9 := f9.get (by omega) (fun h => h) g8
    have e2 : lastV vs = vs.getLast? := by simp [lastV, hr]
    have e5 : rsweepV vs s = sweepV vs s := rsweep_eq hr s
    have e6 := sweep_len hr s
    have hol := oldV_le vs s
    have hq : ∀ b : Bool, (b == b) = true := fun b => by cases b <;> rfl
    -- what stands behind both ways
    have fin : ∀ mA, Nx m mA → m8.next < mA.next → ∃ mB mC mD vD mE qD cD, Ca 18 [v] mA (I (wgtL vs.getLast? : Nat)) mB ∧ Ca 20 [v] mB (I (wgtL vs.getLast? : Nat)) mC ∧ Ca 13 [v, I s] mC (I (oldV vs s : Nat)) mD ∧ Ca 12 [v, I s] mD (.slice qD (vs.length - oldV vs s) cD) mE ∧ vD = mD := by
      intro mA hA hnA
      have nA := hA.next
      obtain ⟨mB, j1, j2⟩ := weight_spec (h.fr hA (Nat.le_refl _) (fun _ h => h.elim)) hw (by omega) (by omega)
      rw [e2] at j1
      have hB : Nx m mB := hA.comp j2 fun _ _ h => h
      have nB := j2.next
      obtain ⟨mC, i1, i2⟩ := rweight_spec (h.fr hB (Nat.le_refl _) (fun _ h => h.elim)) (fun x hx => ⟨hw x hx, ht x hx⟩) (by omega) (by omega)
      have hC : Nx m mC := hB.comp i2 fun _ _ h => h
      have nC := i2.next
      obtain ⟨mD, h1, h2⟩ := old_spec (f := s) (h.fr hC (Nat.le_refl _) (fun _ h => h.elim)) hw (by omega) hs (by omega)
      have hD : Nx m mD := hC.comp h2 fun _ _ h => h
      have nD := h2.next
      obtain ⟨v4, mE, u1, u2, u3⟩ := rsweep_spec (f := s) (h.fr hD (Nat.le_refl _) (fun _ h => h.elim)) hl (by omega)
      obtain ⟨qD, cD, rfl⟩ := rdv_slice u2
      rw [e5, e6] at u1
      exact ⟨mB, mC, mD, mD, mE, qD, cD, j1, i1, h1, u1, rfl⟩
    have w2 : IntKind.i64.wrap ((vs.length : Int) - ((vs.length - oldV vs s : Nat) : Int)) = (oldV vs s : Nat) := by rw [wrap_i64 (by omega) (by omega)]; omega
    unfold tupV at k2 k4 k7
    by_cases h0 : (0 : Int) < (vs.length : Int)
    · obtain ⟨x, hx⟩ : ∃ x, vs[vs.length - 1]? = some x := ⟨_, List.getElem?_eq_getElem (by omega)⟩
      have e3 : vs.getLast? = some x := by rw [List.getLast?_eq_getElem?, hx]
      obtain ⟨a, c', hv', ⟨o, hg, c0, c1, c2, c3, c4⟩, l5, l3⟩ := rdv_at (h.fr F9 (Nat.le_refl _) (fun _ h => h.elim)) hx
      obtain ⟨m10, t1, t2, t3, t4⟩ := row_store (n := 5) (row := x.row) g9 rfl rfl rfl rfl (by omega)
      have nm := F7.next
      have F10 : Nx m m10 := F9.comp t3 fun i hi h => by omega
      have A10 := t3.get (by omega) (fun h => by omega) A9
      have B10 := t3.get (by omega) (fun h => by omega) B9
      have C10 := t3.get (by omega) (fun h => by omega) C9
      obtain ⟨mB, mC, mD, vD, mE, qD, cD, j1, j2, j3, j4, _⟩ := fin m10 F10 (by omega)
      have w1 : IntKind.i64.wrap ((vs.length : Int) - 1) = ((vs.length - 1 : Nat) : Int) := by rw [wrap_i64 (by omega) (by omega)]; omega
      have hlt : vs.length - 1 < vs.length := by omega
      rw [e2, e3] at k4 k5 B10
      simp only [Option.getD_some, Option.isSome_some] at k4 k5 B10
      subst hv'
      simp only [go_nil, go_inBlock, go_skip, go_seq, go_block, go_exit, go_ret, go_ops, go_opsr, go_cond, ex_nil, ex_code, ex_inLoop, ex_inBlock, goC_true, goC_false, goC_dec, goO_nil, goO_cons, goO_guard, goG_true, goG_false, goR_val, goR_skip, wantedX, X.put, X.look, look_hit, Arg.ev, keepOf, restrict, evs, evO, initEnv, xres, tup, xi_move, xi_pick, pick_bool, xi_bin, bin_add, bin_sub, bin_mul, bin_eql, bin_neq, bin_lss, bin_leq, bin_gtr, bin_geq, xi_load1, ld_ptr, xi_nilCheck, nilCheck_ptr, xi_fieldAddr, fieldAddr_ptr, xi_isNil, isNil_some, isNil_none, xi_extract, extract_tuple, xi_call, call_func, xi_len, len_slice, xi_un, un_not, xi_store, xi_box, box_int, box_ptr, box_slice, push_self, push_two, Mem.next_push, xi_calcB, calc_max, calc_min, goG_dec, goG_ndec, xi_indexAddr, indexAddr_at, xi_slice, xi_append, xi_clear, isNil_slice, xi_conv, xi_alloc, box_agg, box_string, box_bool, xi_buildSlice, xparts_nil, xparts_cons, xi_build, xi_field, field_one, xi_makeFunc, makeFunc_nil, xi_loadA, go_opsd, goD_nil, goD_cons, goD_guard, goDG_true, goDG_false, goDV0, goDV1, goDV2, goDV3, goDV3s, again_nil, again_cons, againE_val, veq_int, veq_slice, veq_ptr, veq_bool, veq_string, veq_agg, veqL_nil, veqL_cons, veqC_int, veqC_bool, veqC_string, veqC_slice, veqC_ptr, List.filter_cons, List.filter_nil, Nat.testBit_eq_decide_div_mod_eq, asNat_nat, asNat_zero, asNat_one, noTup, cls, quiet, Option.isNone_some, Option.isNone_none, Bool.and_true, Bool.and_self, Bool.true_and, Nat.add_zero, Nat.mul_one, Nat.mul_zero, Nat.zero_mul, List.length_map, Option.bind_some, Option.map_some, List.getElem?_cons_zero, List.getElem?_cons_succ, Nat.reduceAdd, Nat.reduceEqDiff, reduceIte, reduceCtorEq, goInt, bne_self_eq_false, Bool.false_bne, Bool.true_bne, Bool.not_true, Bool.not_false, decide_eq_true_eq, decide_eq_false_iff_not, Option.some.injEq, exists_eq_left', Nat.zero_add, beq_self_eq_true, cond_true, cond_false, eqb_t, eqb_f, Int.cast_ofNat_Int, eq_self, decide_true, decide_false, Int.reduceLT, Int.reduceLE, Int.reduceEq, Int.reduceNeg, Int.reduceAdd, Int.reduceSub, and_true, true_and, forall_const, Bool.true_eq_false, Bool.false_eq_true, false_implies, ne_eq, not_true_eq_false, not_false_eq_true, true_implies, Decidable.not_not, undef, List.size_toArray, List.length_nil, Nat.reducePow, Nat.reduceDiv, Nat.reduceMod, goR_call (awake_call _), goR_call a1, goR_call r1, goR_call k2, k3, goR_call k4, k5, goR_call k6, neb4, goR_call k7, k8, build33, k9, h0, w1, hlt, l5, t1, zv_ld A10, zv_ld B10, zv_ld C10, zv_ld t2, eq33, sameV_self, eqb4, hq, goR_call j1, goR_call j2, goR_call j3, goR_call j4, w2]
      exact hQ _ _ _ rfl rfl
    · have hnil : vs.getLast? = none := by
        have : vs = [] := List.eq_nil_of_length_eq_zero (by omega)
        rw [this]; rfl
      obtain ⟨mB, mC, mD, vD, mE, qD, cD, j1, j2, j3, j4, _⟩ := fin m9 F9 (by omega)
      rw [e2, hnil] at k4 k5 B9
      simp only [Option.getD_none, Option.isSome_none] at k4 k5 B9
      subst hv
      simp only [go_nil, go_inBlock, go_skip, go_seq, go_block, go_exit, go_ret, go_ops, go_opsr, go_cond, ex_nil, ex_code, ex_inLoop, ex_inBlock, goC_true, goC_false, goC_dec, goO_nil, goO_cons, goO_guard, goG_true, goG_false, goR_val, goR_skip, wantedX, X.put, X.look, look_hit, Arg.ev, keepOf, restrict, evs, evO, initEnv, xres, tup, xi_move, xi_pick, pick_bool, xi_bin, bin_add, bin_sub, bin_mul, bin_eql, bin_neq, bin_lss, bin_leq, bin_gtr, bin_geq, xi_load1, ld_ptr, xi_nilCheck, nilCheck_ptr, xi_fieldAddr, fieldAddr_ptr, xi_isNil, isNil_some, isNil_none, xi_extract, extract_tuple, xi_call, call_func, xi_len, len_slice, xi_un, un_not, xi_store, xi_box, box_int, box_ptr, box_slice, push_self, push_two, Mem.next_push, xi_calcB, calc_max, calc_min, goG_dec, goG_ndec, xi_indexAddr, indexAddr_at, xi_slice, xi_append, xi_clear, isNil_slice, xi_conv, xi_alloc, box_agg, box_string, box_bool, xi_buildSlice, xparts_nil, xparts_cons, xi_build, xi_field, field_one, xi_makeFunc, makeFunc_nil, xi_loadA, go_opsd, goD_nil, goD_cons, goD_guard, goDG_true, goDG_false, goDV0, goDV1, goDV2, goDV3, goDV3s, again_nil, again_cons, againE_val, veq_int, veq_slice, veq_ptr, veq_bool, veq_string, veq_agg, veqL_nil, veqL_cons, veqC_int, veqC_bool, veqC_string, veqC_slice, veqC_ptr, List.filter_cons, List.filter_nil, Nat.testBit_eq_decide_div_mod_eq, asNat_nat, asNat_zero, asNat_one, noTup, cls, quiet, Option.isNone_some, Option.isNone_none, Bool.and_true, Bool.and_self, Bool.true_and, Nat.add_zero, Nat.mul_one, Nat.mul_zero, Nat.zero_mul, List.length_map, Option.bind_some, Option.map_some, List.getElem?_cons_zero, List.getElem?_cons_succ, Nat.reduceAdd, Nat.reduceEqDiff, reduceIte, reduceCtorEq, goInt, bne_self_eq_false, Bool.false_bne, Bool.true_bne, Bool.not_true, Bool.not_false, decide_eq_true_eq, decide_eq_false_iff_not, Option.some.injEq, exists_eq_left', Nat.zero_add, beq_self_eq_true, cond_true, cond_false, eqb_t, eqb_f, Int.cast_ofNat_Int, eq_self, decide_true, decide_false, Int.reduceLT, Int.reduceLE, Int.reduceEq, Int.reduceNeg, Int.reduceAdd, Int.reduceSub, and_true, true_and, forall_const, Bool.true_eq_false, Bool.false_eq_true, false_implies, ne_eq, not_true_eq_false, not_false_eq_true, true_implies, Decidable.not_not, undef, List.size_toArray, List.length_nil, Nat.reducePow, Nat.reduceDiv, Nat.reduceMod, goR_call (awake_call _), goR_call a1, goR_call r1, goR_call k2, k3, goR_call k4, k5, goR_call k6, neb4, goR_call k7, k8, build33, k9, h0, zv_ld A9, zv_ld B9, zv_ld C9, zv_ld g9, eq33, sameV_self, eqb4, hq, goR_call j1, goR_call j2, goR_call j3, goR_call j4, w2]
      exact hQ _ _ _ rfl rfl

theorem chainTells_args {H : Type} (ds : List (DataW H)) (h : wfEach Try.prog ds Try.f5.params.toList) : ∃ (d : DataW H) (a : Int), ds = [d, .lit (.int .i64 a)] ∧ wfD Try.prog d 22 ∧ a ≤ 9223372036854775807 := by
  rw [Try.params5] at h
  obtain ⟨d0, r, rfl, h0, h⟩ := wf_more h
  obtain ⟨d1, rfl, h1⟩ := wf_one h
  obtain ⟨a, rfl, _, a2⟩ := wf_int Try.underlying3 h1
  exact ⟨d0, a, rfl, h0, a2⟩

theorem chainTells_lifted (os : Os) (started : os.Started) (H : Type) (enc : TypeId × Value → H) :
    ReturnsInHanded {} Try.checked os 5 .any (Rows.chainTellsSpec.pre6 enc Try.prog Try.f5 Rows.chainTellsRow.domain false) (Rows.chainTellsSpec.post enc Try.prog Try.f5 false true false false) := by
  refine returnsInHanded_of_change (C := Try.checked) own started (by kernel_rfl) Try.func5
    (ChangeSpec.witness6 (enc := enc) (C := Try.checked) false ⟨#[], #[.slice none 0 0, .int .i64 0], []⟩ 8 (by kernel_rfl) (by kernel_rfl) (by kernel_rfl) (by kernel_rfl)) ?_
  intro W base args ds gs before hval0 hW hcnd _
  refine law_contract mixed tabK_is (f := 5) rfl (k := 10) (by rw [← List.all_eq_true]; kernel_rfl) (fun t ht => ?_) laid rfl (by kernel_rfl) rfl ?_ ?_ H enc W base args ds gs before hval0 hW
  · have : (Try.f5.params.toList.all fun t => Try.prog.readableRec t && decide (t < Try.prog.types.size)) = true := by kernel_rfl
    have := List.all_eq_true.1 this t ht
    simp only [Bool.and_eq_true, decide_eq_true_eq] at this
    exact this
  · intro H ds hd
    obtain ⟨_, _, rfl, _⟩ := chainTells_args ds hd
    rfl
  · intro H ds hd
    obtain ⟨d, a, rfl, hd1, ha2⟩ := chainTells_args ds hd
    obtain ⟨vs, v, g1, g2, g3, g4, g5⟩ := abs_slice_vers (m := Mem.empty) hd1
    have ha : absArgs Try.prog [d, .lit (.int .i64 a)] Try.f5.params.toList Mem.empty
        = ([argVal Try.prog 22 (absD Try.prog d 22 Mem.empty).1, I a], (absD Try.prog d 22 Mem.empty).2) := by kernel_rfl
    have hv : argVal Try.prog 22 (absD Try.prog d 22 Mem.empty).1 = v := by rw [g1]; kernel_rfl
    rw [ha, hv]
    obtain ⟨v, m', ⟨n, hn⟩, rfl⟩ := chainTells_run (s := a) g4 g2 ha2
    exact ⟨n, m', hn⟩

theorem chainTells_holds : Rows.ChainTellsSaid :=
  OpenClaim.holds_of_wide 5 Try.f5 rfl rfl rfl rfl rfl rfl rfl ⟨rfl, rfl, rfl, rfl, rfl⟩ rfl rfl rfl rfl rfl (by kernel_rfl) Try.func5 (by kernel_rfl)
    (of_decide_eq_true (by kernel_rfl)) (by unfold Func.isWrapper; first | (rw [if_pos (by decide +kernel)]; kernel_rfl) | (rw [if_neg (by decide +kernel)]; exact ⟨rfl, rfl⟩))
    (fun os started H enc _ => chainTells_lifted os started H enc)

end Go.Proofs.Ytbcoijgoipnelab
