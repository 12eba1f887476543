/-
  Own work. PROVED HERE: ChainAdds: whatever versions, the law returns true (any version is put behind any chain, or it may not be). No condition.
-/
import Derived.Test.YtbcoijgoipnelabXC4
import Derived.Test.YtbcoijgoipnelabRows
import Derived.ProofKit
namespace Go.Proofs.Ytbcoijgoipnelab
open Go Go.ChangeShapes Go.WideShapes Go.ChangeAt Go.RowKit X
set_option maxRecDepth 100000
set_option linter.unusedVariables false
set_option linter.unusedSimpArgs false

theorem chainAdds_run {m : Mem} {v : Value} {vs : List Ver} {x : Ver} (h : RdV m.next m v vs) (hw : ∀ x ∈ vs, x.Wf) (hx : x.Wf) : Wc 4 [v, .agg ⟨x.row⟩] m fun r _ => r = .bool true := by
  refine call_go (F := _) rfl rfl fun Q hQ => ?_
  obtain ⟨m1, hm1⟩ : ∃ m1, m.push { cells := x.row, rw := true, spare := none, kin := [] } = m1 := ⟨_, rfl⟩
  have g1 : m1.get m.next = some { cells := x.row, rw := true, spare := none, kin := [] } := by rw [← hm1, push_self]
  have f1 : Nx m m1 := hm1 ▸ .push
  have n1 : m1.next = m.next + 1 := by rw [← hm1]; simp
  have r1 := h.fr f1 (Nat.le_refl _) (fun _ h => h.elim)
  have a1 := far_spec r1
  cases hf : farV vs with
  | true =>
    rw [hf] at a1
    simp only [go_nil, go_inBlock, go_skip, go_seq, go_block, go_exit, go_ret, go_ops, go_opsr, go_cond, ex_nil, ex_code, ex_inLoop, ex_inBlock, goC_true, goC_false, goC_dec, goO_nil, goO_cons, goO_guard, goG_true, goG_false, goR_val, goR_skip, wantedX, X.put, X.look, look_hit, Arg.ev, keepOf, restrict, evs, evO, initEnv, xres, tup, xi_move, xi_pick, pick_bool, xi_bin, bin_add, bin_sub, bin_mul, bin_eql, bin_neq, bin_lss, bin_leq, bin_gtr, bin_geq, xi_load1, ld_ptr, xi_nilCheck, nilCheck_ptr, xi_fieldAddr, fieldAddr_ptr, xi_isNil, isNil_some, isNil_none, xi_extract, extract_tuple, xi_call, call_func, xi_len, len_slice, xi_un, un_not, xi_store, xi_box, box_int, box_ptr, box_slice, push_self, push_two, Mem.next_push, xi_calcB, calc_max, calc_min, goG_dec, goG_ndec, xi_indexAddr, indexAddr_at, xi_slice, xi_append, xi_clear, isNil_slice, xi_conv, xi_alloc, box_agg, box_string, box_bool, xi_buildSlice, xparts_nil, xparts_cons, xi_build, xi_field, field_one, xi_makeFunc, makeFunc_nil, xi_loadA, go_opsd, goD_nil, goD_cons, goD_guard, goDG_true, goDG_false, goDV0, goDV1, goDV2, goDV3, goDV3s, again_nil, again_cons, againE_val, veq_int, veq_slice, veq_ptr, veq_bool, veq_string, veq_agg, veqL_nil, veqL_cons, veqC_int, veqC_bool, veqC_string, veqC_slice, veqC_ptr, List.filter_cons, List.filter_nil, Nat.testBit_eq_decide_div_mod_eq, asNat_nat, asNat_zero, asNat_one, noTup, cls, quiet, Option.isNone_some, Option.isNone_none, Bool.and_true, Bool.and_self, Bool.true_and, Nat.add_zero, Nat.mul_one, Nat.mul_zero, Nat.zero_mul, List.length_map, Option.bind_some, Option.map_some, List.getElem?_cons_zero, List.getElem?_cons_succ, Nat.reduceAdd, Nat.reduceEqDiff, reduceIte, reduceCtorEq, goInt, bne_self_eq_false, Bool.false_bne, Bool.true_bne, Bool.not_true, Bool.not_false, decide_eq_true_eq, decide_eq_false_iff_not, Option.some.injEq, exists_eq_left', Nat.zero_add, beq_self_eq_true, cond_true, cond_false, eqb_t, eqb_f, Int.cast_ofNat_Int, eq_self, decide_true, decide_false, Int.reduceLT, Int.reduceLE, Int.reduceEq, Int.reduceNeg, Int.reduceAdd, Int.reduceSub, and_true, true_and, forall_const, Bool.true_eq_false, Bool.false_eq_true, false_implies, ne_eq, not_true_eq_false, not_false_eq_true, true_implies, Decidable.not_not, undef, List.size_toArray, List.length_nil, Nat.reducePow, Nat.reduceDiv, Nat.reduceMod, hm1, goR_call (awake_call _), goR_call a1]
    exact hQ _ _ _ rfl rfl
  | false =>
  rw [hf] at a1
  have hl : vs.length ≤ 100 := by simp [farV] at hf; omega
  by_cases ht : (200 : Int) < (x.text.size : Int)
  · simp only [go_nil, go_inBlock, go_skip, go_seq, go_block, go_exit, go_ret, go_ops, go_opsr, go_cond, ex_nil, ex_code, ex_inLoop, ex_inBlock, goC_true, goC_false, goC_dec, goO_nil, goO_cons, goO_guard, goG_true, goG_false, goR_val, goR_skip, wantedX, X.put, X.look, look_hit, Arg.ev, keepOf, restrict, evs, evO, initEnv, xres, tup, xi_move, xi_pick, pick_bool, xi_bin, bin_add, bin_sub, bin_mul, bin_eql, bin_neq, bin_lss, bin_leq, bin_gtr, bin_geq, xi_load1, ld_ptr, xi_nilCheck, nilCheck_ptr, xi_fieldAddr, fieldAddr_ptr, xi_isNil, isNil_some, isNil_none, xi_extract, extract_tuple, xi_call, call_func, xi_len, len_slice, xi_un, un_not, xi_store, xi_box, box_int, box_ptr, box_slice, push_self, push_two, Mem.next_push, xi_calcB, calc_max, calc_min, goG_dec, goG_ndec, xi_indexAddr, indexAddr_at, xi_slice, xi_append, xi_clear, isNil_slice, xi_conv, xi_alloc, box_agg, box_string, box_bool, xi_buildSlice, xparts_nil, xparts_cons, xi_build, xi_field, field_one, xi_makeFunc, makeFunc_nil, xi_loadA, go_opsd, goD_nil, goD_cons, goD_guard, goDG_true, goDG_false, goDV0, goDV1, goDV2, goDV3, goDV3s, again_nil, again_cons, againE_val, veq_int, veq_slice, veq_ptr, veq_bool, veq_string, veq_agg, veqL_nil, veqL_cons, veqC_int, veqC_bool, veqC_string, veqC_slice, veqC_ptr, List.filter_cons, List.filter_nil, Nat.testBit_eq_decide_div_mod_eq, asNat_nat, asNat_zero, asNat_one, noTup, cls, quiet, Option.isNone_some, Option.isNone_none, Bool.and_true, Bool.and_self, Bool.true_and, Nat.add_zero, Nat.mul_one, Nat.mul_zero, Nat.zero_mul, List.length_map, Option.bind_some, Option.map_some, List.getElem?_cons_zero, List.getElem?_cons_succ, Nat.reduceAdd, Nat.reduceEqDiff, reduceIte, reduceCtorEq, goInt, bne_self_eq_false, Bool.false_bne, Bool.true_bne, Bool.not_true, Bool.not_false, decide_eq_true_eq, decide_eq_false_iff_not, Option.some.injEq, exists_eq_left', Nat.zero_add, beq_self_eq_true, cond_true, cond_false, eqb_t, eqb_f, Int.cast_ofNat_Int, eq_self, decide_true, decide_false, Int.reduceLT, Int.reduceLE, Int.reduceEq, Int.reduceNeg, Int.reduceAdd, Int.reduceSub, and_true, true_and, forall_const, Bool.true_eq_false, Bool.false_eq_true, false_implies, ne_eq, not_true_eq_false, not_false_eq_true, true_implies, Decidable.not_not, undef, List.size_toArray, List.length_nil, Nat.reducePow, Nat.reduceDiv, Nat.reduceMod, hm1, goR_call (awake_call _), goR_call a1, g1, calc_len, ht]
    exact hQ _ _ _ rfl rfl
  have b2 := build50 (m := m1)
  obtain ⟨m2, hm2⟩ : ∃ m2, m1.push { cells := [], rw := true, spare := none, kin := [] } = m2 := ⟨_, rfl⟩
  rw [hm2] at b2
  have f2 : Nx m1 m2 := hm2 ▸ .push
  have f02 : Nx m m2 := f1.comp f2 fun _ _ h => h
  obtain ⟨v3, m3, F3, c1, c2, c3, c4⟩ := append_all (bytes := 48) (zero := Z5) (s := .slice (some ⟨m1.next, 0, none⟩) 0 0) (.inr ⟨_, rfl⟩) (h.fr f02 (Nat.le_refl _) (fun _ h => h.elim)) rfl (by omega) (by simp; omega) (by simp; omega)
  have f03 : Nx m m3 := f02.comp c3 fun _ _ h => h
  have g3 := (f2.comp c3 fun _ _ h => h).get (by omega) (fun h => h) g1
  have l3 : ldA m3 5 (.pointer (some ⟨m.next, 0, none⟩)) = some (.val (.agg ⟨x.row⟩) m3) := by simp [ldA, xload, g3]
  obtain ⟨v4, m4, F4, d1, d2, d3, d4⟩ := add_spec (h.fr f03 (Nat.le_refl _) (fun _ h => h.elim)) f03.next hl hw hx
  have f04 : Nx m m4 := f03.comp d4 fun _ _ h => h
  have hn3 : m1.next ≤ m3.next := by have := f2.next; have := c3.next; omega
  have g4 := d4.get (by omega) (fun h => h) g3
  have b5 := build50 (m := m4)
  obtain ⟨m5, hm5⟩ : ∃ m5, m4.push { cells := [], rw := true, spare := none, kin := [] } = m5 := ⟨_, rfl⟩
  rw [hm5] at b5
  have f5 : Nx m4 m5 := hm5 ▸ .push
  have hn4 : m3.next ≤ m4.next := d4.next
  have g5 := f5.get (by omega) (fun h => h) g4
  have l5 : ldA m5 5 (.pointer (some ⟨m.next, 0, none⟩)) = some (.val (.agg ⟨x.row⟩) m5) := by simp [ldA, xload, g5]
  have b6 := build5 (m := m5) (x := x)
  obtain ⟨m6, hm6⟩ : ∃ m6, m5.push { cells := x.row, rw := true, spare := none, kin := [] } = m6 := ⟨_, rfl⟩
  rw [hm6] at b6
  have f6 : Nx m5 m6 := hm6 ▸ .push
  have n6 : m6.next = m5.next + 1 := by rw [← hm6]; simp
  have g6' : m6.get m5.next = some { cells := x.row, rw := true, spare := none, kin := [] } := by rw [← hm6, push_self]
  have hn5 := f5.next
  have g6 := f6.get (by omega) (fun h => h) g5
  have l6 : ldA m6 5 (.pointer (some ⟨m.next, 0, none⟩)) = some (.val (.agg ⟨x.row⟩) m6) := by simp [ldA, xload, g6]
  have f06 : Nx m m6 := (f04.comp f5 fun _ _ h => h).comp f6 fun _ _ h => h
  obtain ⟨v7, m7, F7, e1, e2, e3, e4⟩ := append_all (bytes := 48) (zero := Z5) (s := .slice (some ⟨m4.next, 0, none⟩) 0 0) (.inr ⟨_, rfl⟩) (h.fr f06 (Nat.le_refl _) (fun _ h => h.elim)) rfl (by omega) (by simp; omega) (by simp; omega)
  have g7 := e3.get (by omega) (fun h => h) g6
  have g7' := e3.get (by omega) (fun h => h) g6'
  have l7 : ldA m7 5 (.pointer (some ⟨m.next, 0, none⟩)) = some (.val (.agg ⟨x.row⟩) m7) := by simp [ldA, xload, g7]
  have hx7 : xfirst m7 5 1 (.slice (some ⟨m5.next, 0, none⟩) 1 1) = some x.row := by
    simp only [xfirst]
    rw [if_neg (by omega), xload_own g7' (by simp)]
    simp
  obtain ⟨v8, m8, F8, k1, k2, k3, k4, k5⟩ := e2.append (bytes := 48) (zero := Z5) (vx := .slice (some ⟨m5.next, 0, none⟩) 1 1) rfl (by omega) rfl hx7 rfl (by simp; omega) (by simp; omega)
  have f68 : Nx m6 m8 := e3.comp k3 fun i hi h => by have := e4 i h; omega
  have f08 : Nx m m8 := f06.comp f68 fun _ _ h => h
  have f38 : Nx m3 m8 := (((d4.comp f5 fun _ _ h => h).comp f6 fun _ _ h => h).comp f68 fun _ _ h => h)
  have f48 : Nx m4 m8 := ((f5.comp f6 fun _ _ h => h).comp f68 fun _ _ h => h)
  have o8 : OwnV F8 m8 v8 (vs ++ [x]) := by
    have : rowsV (vs ++ [x]) = rowsV vs ++ [x.row] := by simp
    rw [OwnV, this]; exact k2
  have s1 := same_spec (ownv_rd (Own2.fr c2 f38 (fun _ _ h => h))) (h.fr f08 (Nat.le_refl _) (fun _ h => h.elim)) (by omega)
  obtain ⟨m9, q1, q2⟩ := rright_loop (ownv_rd o8) (fun y hy => by
    simp only [List.mem_append, List.mem_singleton] at hy
    rcases hy with hy | rfl
    · exact hw y hy
    · exact hx) (by simp; omega) (Nat.le_refl _)
  cases hr : okC 0 (vs ++ [x]) with
  | false =>
    rw [hr] at d1 d2 q1
    obtain ⟨p4, c4', rfl⟩ := rdv_slice (ownv_rd d2)
    simp only [go_nil, go_inBlock, go_skip, go_seq, go_block, go_exit, go_ret, go_ops, go_opsr, go_cond, ex_nil, ex_code, ex_inLoop, ex_inBlock, goC_true, goC_false, goC_dec, goO_nil, goO_cons, goO_guard, goG_true, goG_false, goR_val, goR_skip, wantedX, X.put, X.look, look_hit, Arg.ev, keepOf, restrict, evs, evO, initEnv, xres, tup, xi_move, xi_pick, pick_bool, xi_bin, bin_add, bin_sub, bin_mul, bin_eql, bin_neq, bin_lss, bin_leq, bin_gtr, bin_geq, xi_load1, ld_ptr, xi_nilCheck, nilCheck_ptr, xi_fieldAddr, fieldAddr_ptr, xi_isNil, isNil_some, isNil_none, xi_extract, extract_tuple, xi_call, call_func, xi_len, len_slice, xi_un, un_not, xi_store, xi_box, box_int, box_ptr, box_slice, push_self, push_two, Mem.next_push, xi_calcB, calc_max, calc_min, goG_dec, goG_ndec, xi_indexAddr, indexAddr_at, xi_slice, xi_append, xi_clear, isNil_slice, xi_conv, xi_alloc, box_agg, box_string, box_bool, xi_buildSlice, xparts_nil, xparts_cons, xi_build, xi_field, field_one, xi_makeFunc, makeFunc_nil, xi_loadA, go_opsd, goD_nil, goD_cons, goD_guard, goDG_true, goDG_false, goDV0, goDV1, goDV2, goDV3, goDV3s, again_nil, again_cons, againE_val, veq_int, veq_slice, veq_ptr, veq_bool, veq_string, veq_agg, veqL_nil, veqL_cons, veqC_int, veqC_bool, veqC_string, veqC_slice, veqC_ptr, List.filter_cons, List.filter_nil, Nat.testBit_eq_decide_div_mod_eq, asNat_nat, asNat_zero, asNat_one, noTup, cls, quiet, Option.isNone_some, Option.isNone_none, Bool.and_true, Bool.and_self, Bool.true_and, Nat.add_zero, Nat.mul_one, Nat.mul_zero, Nat.zero_mul, List.length_map, Option.bind_some, Option.map_some, List.getElem?_cons_zero, List.getElem?_cons_succ, Nat.reduceAdd, Nat.reduceEqDiff, reduceIte, reduceCtorEq, goInt, bne_self_eq_false, Bool.false_bne, Bool.true_bne, Bool.not_true, Bool.not_false, decide_eq_true_eq, decide_eq_false_iff_not, Option.some.injEq, exists_eq_left', Nat.zero_add, beq_self_eq_true, cond_true, cond_false, eqb_t, eqb_f, Int.cast_ofNat_Int, eq_self, decide_true, decide_false, Int.reduceLT, Int.reduceLE, Int.reduceEq, Int.reduceNeg, Int.reduceAdd, Int.reduceSub, and_true, true_and, forall_const, Bool.true_eq_false, Bool.false_eq_true, false_implies, ne_eq, not_true_eq_false, not_false_eq_true, true_implies, Decidable.not_not, undef, List.size_toArray, List.length_nil, Nat.reducePow, Nat.reduceDiv, Nat.reduceMod, hm1, goR_call (awake_call _), goR_call a1, g1, calc_len, ht, b2, c1, l3, goR_call d1, b5, l5, b6, l6, e1, l7, k1, goR_call s1, goR_call q1, List.length_nil]
    exact hQ _ _ _ rfl rfl
  | true =>
    rw [hr] at d1 d2 q1
    simp only [cond_true] at d2
    have o4 := Own2.fr d2 (f48.comp q2 fun _ _ h => h) (fun _ _ h => h)
    have s2 := same_spec (ownv_rd o4) (ownv_rd (Own2.fr o8 q2 (fun _ _ h => h))) (by simp; omega)
    simp only [go_nil, go_inBlock, go_skip, go_seq, go_block, go_exit, go_ret, go_ops, go_opsr, go_cond, ex_nil, ex_code, ex_inLoop, ex_inBlock, goC_true, goC_false, goC_dec, goO_nil, goO_cons, goO_guard, goG_true, goG_false, goR_val, goR_skip, wantedX, X.put, X.look, look_hit, Arg.ev, keepOf, restrict, evs, evO, initEnv, xres, tup, xi_move, xi_pick, pick_bool, xi_bin, bin_add, bin_sub, bin_mul, bin_eql, bin_neq, bin_lss, bin_leq, bin_gtr, bin_geq, xi_load1, ld_ptr, xi_nilCheck, nilCheck_ptr, xi_fieldAddr, fieldAddr_ptr, xi_isNil, isNil_some, isNil_none, xi_extract, extract_tuple, xi_call, call_func, xi_len, len_slice, xi_un, un_not, xi_store, xi_box, box_int, box_ptr, box_slice, push_self, push_two, Mem.next_push, xi_calcB, calc_max, calc_min, goG_dec, goG_ndec, xi_indexAddr, indexAddr_at, xi_slice, xi_append, xi_clear, isNil_slice, xi_conv, xi_alloc, box_agg, box_string, box_bool, xi_buildSlice, xparts_nil, xparts_cons, xi_build, xi_field, field_one, xi_makeFunc, makeFunc_nil, xi_loadA, go_opsd, goD_nil, goD_cons, goD_guard, goDG_true, goDG_false, goDV0, goDV1, goDV2, goDV3, goDV3s, again_nil, again_cons, againE_val, veq_int, veq_slice, veq_ptr, veq_bool, veq_string, veq_agg, veqL_nil, veqL_cons, veqC_int, veqC_bool, veqC_string, veqC_slice, veqC_ptr, List.filter_cons, List.filter_nil, Nat.testBit_eq_decide_div_mod_eq, asNat_nat, asNat_zero, asNat_one, noTup, cls, quiet, Option.isNone_some, Option.isNone_none, Bool.and_true, Bool.and_self, Bool.true_and, Nat.add_zero, Nat.mul_one, Nat.mul_zero, Nat.zero_mul, List.length_map, Option.bind_some, Option.map_some, List.getElem?_cons_zero, List.getElem?_cons_succ, Nat.reduceAdd, Nat.reduceEqDiff, reduceIte, reduceCtorEq, goInt, bne_self_eq_false, Bool.false_bne, Bool.true_bne, Bool.not_true, Bool.not_false, decide_eq_true_eq, decide_eq_false_iff_not, Option.some.injEq, exists_eq_left', Nat.zero_add, beq_self_eq_true, cond_true, cond_false, eqb_t, eqb_f, Int.cast_ofNat_Int, eq_self, decide_true, decide_false, Int.reduceLT, Int.reduceLE, Int.reduceEq, Int.reduceNeg, Int.reduceAdd, Int.reduceSub, and_true, true_and, forall_const, Bool.true_eq_false, Bool.false_eq_true, false_implies, ne_eq, not_true_eq_false, not_false_eq_true, true_implies, Decidable.not_not, undef, List.size_toArray, List.length_nil, Nat.reducePow, Nat.reduceDiv, Nat.reduceMod, hm1, goR_call (awake_call _), goR_call a1, g1, calc_len, ht, b2, c1, l3, goR_call d1, b5, l5, b6, l6, e1, l7, k1, goR_call s1, goR_call q1, goR_call s2]
    exact hQ _ _ _ rfl rfl


theorem chainAdds_args {H : Type} (ds : List (DataW H)) (h : wfEach Try.prog ds Try.f4.params.toList) : ∃ d e : DataW H, ds = [d, e] ∧ wfD Try.prog d 22 ∧ wfD Try.prog e 33 := by
  rw [Try.params4] at h
  obtain ⟨d0, r, rfl, h0, h⟩ := wf_more h
  obtain ⟨d1, rfl, h1⟩ := wf_one h
  exact ⟨d0, d1, rfl, h0, h1⟩

theorem chainAdds_lifted (os : Os) (started : os.Started) (H : Type) (enc : TypeId × Value → H) :
    ReturnsInHanded {} Try.checked os 4 .any (Rows.chainAddsSpec.pre6 enc Try.prog Try.f4 Rows.chainAddsRow.domain false) (Rows.chainAddsSpec.post enc Try.prog Try.f4 false true false false) := by
  refine returnsInHanded_of_change (C := Try.checked) own started (by kernel_rfl) Try.func4
    (ChangeSpec.witness6 (enc := enc) (C := Try.checked) false ⟨#[], #[.slice none 0 0, .agg #[.int .i64 0, .bool false, .bool false, .string .empty, .int .u64 0]], []⟩ 8 (by kernel_rfl) (by kernel_rfl) (by kernel_rfl) (by kernel_rfl)) ?_
  intro W base args ds gs before hval0 hW hcnd _
  refine law_contract mixed tabK_is (f := 4) rfl (k := 10) (by rw [← List.all_eq_true]; kernel_rfl) (fun t ht => ?_) laid rfl (by kernel_rfl) rfl ?_ ?_ H enc W base args ds gs before hval0 hW
  · have : (Try.f4.params.toList.all fun t => Try.prog.readableRec t && decide (t < Try.prog.types.size)) = true := by kernel_rfl
    have := List.all_eq_true.1 this t ht
    simp only [Bool.and_eq_true, decide_eq_true_eq] at this
    exact this
  · intro H ds hd
    obtain ⟨_, _, rfl, _⟩ := chainAdds_args ds hd
    rfl
  · intro H ds hd
    obtain ⟨d, e, rfl, hd1, hd2⟩ := chainAdds_args ds hd
    obtain ⟨vs, v, g1, g2, g3, g4, _⟩ := abs_slice_vers (m := Mem.empty) hd1
    obtain ⟨x, k1, k2⟩ := wf_ver e hd2
    have ha : absArgs Try.prog [d, e] Try.f4.params.toList Mem.empty
        = ([argVal Try.prog 22 (absD Try.prog d 22 Mem.empty).1, argVal Try.prog 33 (absD Try.prog e 33 (absD Try.prog d 22 Mem.empty).2).1], (absD Try.prog e 33 (absD Try.prog d 22 Mem.empty).2).2) := by kernel_rfl
    have hv : argVal Try.prog 22 (absD Try.prog d 22 Mem.empty).1 = v := by rw [g1]; kernel_rfl
    have hv' : argVal Try.prog 33 (absD Try.prog e 33 (absD Try.prog d 22 Mem.empty).2).1 = .agg ⟨x.row⟩ := by rw [k2]; kernel_rfl
    rw [ha, hv, hv', k2]
    obtain ⟨v, m', ⟨n, hn⟩, rfl⟩ := chainAdds_run g4 g2 k1
    exact ⟨n, m', hn⟩

theorem chainAdds_holds : Rows.ChainAddsSaid :=
  OpenClaim.holds_of_wide 4 Try.f4 rfl rfl rfl rfl rfl rfl rfl ⟨rfl, rfl, rfl, rfl, rfl⟩ rfl rfl rfl rfl rfl (by kernel_rfl) Try.func4 (by kernel_rfl)
    (of_decide_eq_true (by kernel_rfl)) (by unfold Func.isWrapper; first | (rw [if_pos (by decide +kernel)]; kernel_rfl) | (rw [if_neg (by decide +kernel)]; exact ⟨rfl, rfl⟩))
    (fun os started H enc _ => chainAdds_lifted os started H enc)

end Go.Proofs.Ytbcoijgoipnelab
