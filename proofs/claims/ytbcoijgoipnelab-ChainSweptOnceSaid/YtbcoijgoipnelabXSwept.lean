/-
  Own work. PROVED HERE: ChainSweptOnce: whatever versions and floors, the law returns true (swept twice it is swept by the higher one). No condition.
-/
import Derived.Test.YtbcoijgoipnelabXC6
import Derived.Test.YtbcoijgoipnelabRows
import Derived.ProofKit
namespace Go.Proofs.Ytbcoijgoipnelab
open Go Go.ChangeShapes Go.WideShapes Go.ChangeAt Go.RowKit X
set_option maxRecDepth 100000
set_option linter.unusedVariables false
set_option linter.unusedSimpArgs false

theorem chainSwept_run {m : Mem} {v : Value} {vs : List Ver} {a b : Int} (h : RdV m.next m v vs) (hc : ∀ m', CutOk m' 5 v) (hw : ∀ x ∈ vs, x.Wf) (ha : a ≤ 9223372036854775807) (hb : b ≤ 9223372036854775807) :
    Wc 3 [v, I a, I b] m fun r _ => r = .bool true := by
  refine call_go (F := _) rfl rfl fun Q hQ => ?_
  have a1 := far_spec h
  cases hf : farV vs with
  | true =>
    rw [hf] at a1
    simp only [go_nil, go_inBlock, go_skip, go_seq, go_block, go_exit, go_ret, go_ops, go_opsr, go_cond, ex_nil, ex_code, ex_inLoop, ex_inBlock, goC_true, goC_false, goC_dec, goO_nil, goO_cons, goO_guard, goG_true, goG_false, goR_val, goR_skip, wantedX, X.put, X.look, look_hit, Arg.ev, keepOf, restrict, evs, evO, initEnv, xres, tup, xi_move, xi_pick, pick_bool, xi_bin, bin_add, bin_sub, bin_mul, bin_eql, bin_neq, bin_lss, bin_leq, bin_gtr, bin_geq, xi_load1, ld_ptr, xi_nilCheck, nilCheck_ptr, xi_fieldAddr, fieldAddr_ptr, xi_isNil, isNil_some, isNil_none, xi_extract, extract_tuple, xi_call, call_func, xi_len, len_slice, xi_un, un_not, xi_store, xi_box, box_int, box_ptr, box_slice, push_self, push_two, Mem.next_push, xi_calcB, calc_max, calc_min, goG_dec, goG_ndec, xi_indexAddr, indexAddr_at, xi_slice, xi_append, xi_clear, isNil_slice, xi_conv, xi_alloc, box_agg, box_string, box_bool, xi_buildSlice, xparts_nil, xparts_cons, xi_build, xi_field, field_one, xi_makeFunc, makeFunc_nil, xi_loadA, go_opsd, goD_nil, goD_cons, goD_guard, goDG_true, goDG_false, goDV0, goDV1, goDV2, goDV3, goDV3s, again_nil, again_cons, againE_val, veq_int, veq_slice, veq_ptr, veq_bool, veq_string, veq_agg, veqL_nil, veqL_cons, veqC_int, veqC_bool, veqC_string, veqC_slice, veqC_ptr, List.filter_cons, List.filter_nil, Nat.testBit_eq_decide_div_mod_eq, asNat_nat, asNat_zero, asNat_one, noTup, cls, quiet, Option.isNone_some, Option.isNone_none, Bool.and_true, Bool.and_self, Bool.true_and, Nat.add_zero, Nat.mul_one, Nat.mul_zero, Nat.zero_mul, List.length_map, Option.bind_some, Option.map_some, List.getElem?_cons_zero, List.getElem?_cons_succ, Nat.reduceAdd, Nat.reduceEqDiff, reduceIte, reduceCtorEq, goInt, bne_self_eq_false, Bool.false_bne, Bool.true_bne, Bool.not_true, Bool.not_false, decide_eq_true_eq, decide_eq_false_iff_not, Option.some.injEq, exists_eq_left', Nat.zero_add, beq_self_eq_true, cond_true, cond_false, eqb_t, eqb_f, Int.cast_ofNat_Int, eq_self, decide_true, decide_false, Int.reduceLT, Int.reduceLE, Int.reduceEq, Int.reduceNeg, Int.reduceAdd, Int.reduceSub, and_true, true_and, forall_const, Bool.true_eq_false, Bool.false_eq_true, false_implies, ne_eq, not_true_eq_false, not_false_eq_true, true_implies, Decidable.not_not, undef, List.size_toArray, List.length_nil, Nat.reducePow, Nat.reduceDiv, Nat.reduceMod, goR_call (awake_call _), goR_call a1]
    exact hQ _ _ _ rfl rfl
  | false =>
  rw [hf] at a1
  have hl : vs.length ≤ 100 := by simp [farV] at hf; omega
  obtain ⟨m1, r1, f1⟩ := rright_loop h hw (by omega) (Nat.le_refl _)
  cases hr : okC 0 vs with
  | false =>
    rw [hr] at r1
    simp only [go_nil, go_inBlock, go_skip, go_seq, go_block, go_exit, go_ret, go_ops, go_opsr, go_cond, ex_nil, ex_code, ex_inLoop, ex_inBlock, goC_true, goC_false, goC_dec, goO_nil, goO_cons, goO_guard, goG_true, goG_false, goR_val, goR_skip, wantedX, X.put, X.look, look_hit, Arg.ev, keepOf, restrict, evs, evO, initEnv, xres, tup, xi_move, xi_pick, pick_bool, xi_bin, bin_add, bin_sub, bin_mul, bin_eql, bin_neq, bin_lss, bin_leq, bin_gtr, bin_geq, xi_load1, ld_ptr, xi_nilCheck, nilCheck_ptr, xi_fieldAddr, fieldAddr_ptr, xi_isNil, isNil_some, isNil_none, xi_extract, extract_tuple, xi_call, call_func, xi_len, len_slice, xi_un, un_not, xi_store, xi_box, box_int, box_ptr, box_slice, push_self, push_two, Mem.next_push, xi_calcB, calc_max, calc_min, goG_dec, goG_ndec, xi_indexAddr, indexAddr_at, xi_slice, xi_append, xi_clear, isNil_slice, xi_conv, xi_alloc, box_agg, box_string, box_bool, xi_buildSlice, xparts_nil, xparts_cons, xi_build, xi_field, field_one, xi_makeFunc, makeFunc_nil, xi_loadA, go_opsd, goD_nil, goD_cons, goD_guard, goDG_true, goDG_false, goDV0, goDV1, goDV2, goDV3, goDV3s, again_nil, again_cons, againE_val, veq_int, veq_slice, veq_ptr, veq_bool, veq_string, veq_agg, veqL_nil, veqL_cons, veqC_int, veqC_bool, veqC_string, veqC_slice, veqC_ptr, List.filter_cons, List.filter_nil, Nat.testBit_eq_decide_div_mod_eq, asNat_nat, asNat_zero, asNat_one, noTup, cls, quiet, Option.isNone_some, Option.isNone_none, Bool.and_true, Bool.and_self, Bool.true_and, Nat.add_zero, Nat.mul_one, Nat.mul_zero, Nat.zero_mul, List.length_map, Option.bind_some, Option.map_some, List.getElem?_cons_zero, List.getElem?_cons_succ, Nat.reduceAdd, Nat.reduceEqDiff, reduceIte, reduceCtorEq, goInt, bne_self_eq_false, Bool.false_bne, Bool.true_bne, Bool.not_true, Bool.not_false, decide_eq_true_eq, decide_eq_false_iff_not, Option.some.injEq, exists_eq_left', Nat.zero_add, beq_self_eq_true, cond_true, cond_false, eqb_t, eqb_f, Int.cast_ofNat_Int, eq_self, decide_true, decide_false, Int.reduceLT, Int.reduceLE, Int.reduceEq, Int.reduceNeg, Int.reduceAdd, Int.reduceSub, and_true, true_and, forall_const, Bool.true_eq_false, Bool.false_eq_true, false_implies, ne_eq, not_true_eq_false, not_false_eq_true, true_implies, Decidable.not_not, undef, List.size_toArray, List.length_nil, Nat.reducePow, Nat.reduceDiv, Nat.reduceMod, goR_call (awake_call _), goR_call a1, goR_call r1]
    exact hQ _ _ _ rfl rfl
  | true =>
  rw [hr] at r1
  have hn1 := f1.next
  obtain ⟨v2, m2, F2, s1, s2, s3, s4⟩ := sweep_spec (f := a) (h.fr f1 (Nat.le_refl _) (fun _ h => h.elim)) (fun m' _ => hc m') hw (by omega) ha hn1
  have f2 : Nx m m2 := f1.comp s4 fun _ _ h => h
  have hn2 := f2.next
  have hw2 : ∀ x ∈ sweepV vs a, x.Wf := fun x hx => by
    unfold sweepV at hx
    rw [if_pos hr] at hx
    exact hw x (List.mem_of_mem_drop hx)
  have hl2 : (sweepV vs a).length ≤ 100 := by unfold sweepV; rw [if_pos hr, List.length_drop]; omega
  obtain ⟨v3, m3, F3, t1, t2, t3, t4⟩ := sweep_spec (f := b) (ownv_rd s2) (fun m' hx => (Own2.fr s2 hx (fun _ _ h => h)).cut) hw2 (by omega) hb (Nat.le_refl _)
  have f3 : Nx m m3 := f2.comp t4 fun _ _ h => h
  have hn3 := f3.next
  obtain ⟨v4, m4, u1, u2, u3⟩ := rsweep_spec (f := max a b) (h.fr f3 (Nat.le_refl _) (fun _ h => h.elim)) hl hn3
  have f4 : Nx m m4 := f3.comp u3 fun _ _ h => h
  have hn4 := f4.next
  obtain ⟨e1, e2⟩ := sweep_sweep hr a b
  rw [rsweep_eq hr, ← e1] at u2
  have q1 := same_spec (ownv_rd (Own2.fr t2 u3 (fun _ _ h => h))) u2 (by rw [e1]; unfold sweepV; rw [if_pos hr, List.length_drop]; omega)
  obtain ⟨m5, k1, k2⟩ := old_spec (f := max a b) (h.fr f4 (Nat.le_refl _) (fun _ h => h.elim)) hw (by omega) (by omega) hn4
  have f5 : Nx m m5 := f4.comp k2 fun _ _ h => h
  have hn5 := f5.next
  obtain ⟨m6, j1, j2⟩ := old_spec (f := a) (h.fr f5 (Nat.le_refl _) (fun _ h => h.elim)) hw (by omega) ha hn5
  have e3 : (oldV vs a : Int) ≤ (oldV vs (max a b) : Int) := by omega
  simp only [go_nil, go_inBlock, go_skip, go_seq, go_block, go_exit, go_ret, go_ops, go_opsr, go_cond, ex_nil, ex_code, ex_inLoop, ex_inBlock, goC_true, goC_false, goC_dec, goO_nil, goO_cons, goO_guard, goG_true, goG_false, goR_val, goR_skip, wantedX, X.put, X.look, look_hit, Arg.ev, keepOf, restrict, evs, evO, initEnv, xres, tup, xi_move, xi_pick, pick_bool, xi_bin, bin_add, bin_sub, bin_mul, bin_eql, bin_neq, bin_lss, bin_leq, bin_gtr, bin_geq, xi_load1, ld_ptr, xi_nilCheck, nilCheck_ptr, xi_fieldAddr, fieldAddr_ptr, xi_isNil, isNil_some, isNil_none, xi_extract, extract_tuple, xi_call, call_func, xi_len, len_slice, xi_un, un_not, xi_store, xi_box, box_int, box_ptr, box_slice, push_self, push_two, Mem.next_push, xi_calcB, calc_max, calc_min, goG_dec, goG_ndec, xi_indexAddr, indexAddr_at, xi_slice, xi_append, xi_clear, isNil_slice, xi_conv, xi_alloc, box_agg, box_string, box_bool, xi_buildSlice, xparts_nil, xparts_cons, xi_build, xi_field, field_one, xi_makeFunc, makeFunc_nil, xi_loadA, go_opsd, goD_nil, goD_cons, goD_guard, goDG_true, goDG_false, goDV0, goDV1, goDV2, goDV3, goDV3s, again_nil, again_cons, againE_val, veq_int, veq_slice, veq_ptr, veq_bool, veq_string, veq_agg, veqL_nil, veqL_cons, veqC_int, veqC_bool, veqC_string, veqC_slice, veqC_ptr, List.filter_cons, List.filter_nil, Nat.testBit_eq_decide_div_mod_eq, asNat_nat, asNat_zero, asNat_one, noTup, cls, quiet, Option.isNone_some, Option.isNone_none, Bool.and_true, Bool.and_self, Bool.true_and, Nat.add_zero, Nat.mul_one, Nat.mul_zero, Nat.zero_mul, List.length_map, Option.bind_some, Option.map_some, List.getElem?_cons_zero, List.getElem?_cons_succ, Nat.reduceAdd, Nat.reduceEqDiff, reduceIte, reduceCtorEq, goInt, bne_self_eq_false, Bool.false_bne, Bool.true_bne, Bool.not_true, Bool.not_false, decide_eq_true_eq, decide_eq_false_iff_not, Option.some.injEq, exists_eq_left', Nat.zero_add, beq_self_eq_true, cond_true, cond_false, eqb_t, eqb_f, Int.cast_ofNat_Int, eq_self, decide_true, decide_false, Int.reduceLT, Int.reduceLE, Int.reduceEq, Int.reduceNeg, Int.reduceAdd, Int.reduceSub, and_true, true_and, forall_const, Bool.true_eq_false, Bool.false_eq_true, false_implies, ne_eq, not_true_eq_false, not_false_eq_true, true_implies, Decidable.not_not, undef, List.size_toArray, List.length_nil, Nat.reducePow, Nat.reduceDiv, Nat.reduceMod, goR_call (awake_call _), goR_call a1, goR_call r1, goR_call s1, goR_call t1, goR_call u1, goR_call q1, goR_call k1, goR_call j1, e3]
  exact hQ _ _ _ rfl rfl

theorem chainSwept_args {H : Type} (ds : List (DataW H)) (h : wfEach Try.prog ds Try.f3.params.toList) : ∃ (d : DataW H) (a b : Int), ds = [d, .lit (.int .i64 a), .lit (.int .i64 b)] ∧ wfD Try.prog d 22 ∧ a ≤ 9223372036854775807 ∧ b ≤ 9223372036854775807 := by
  rw [Try.params3] at h
  obtain ⟨d0, r, rfl, h0, h⟩ := wf_more h
  obtain ⟨d1, r, rfl, h1, h⟩ := wf_more h
  obtain ⟨d2, rfl, h2⟩ := wf_one h
  obtain ⟨a, rfl, _, a2⟩ := wf_int Try.underlying3 h1
  obtain ⟨b, rfl, _, b2⟩ := wf_int Try.underlying3 h2
  exact ⟨d0, a, b, rfl, h0, a2, b2⟩

theorem chainSwept_lifted (os : Os) (started : os.Started) (H : Type) (enc : TypeId × Value → H) :
    ReturnsInHanded {} Try.checked os 3 .any (Rows.chainSweptOnceSpec.pre6 enc Try.prog Try.f3 Rows.chainSweptOnceRow.domain false) (Rows.chainSweptOnceSpec.post enc Try.prog Try.f3 false true false false) := by
  refine returnsInHanded_of_change (C := Try.checked) own started (by kernel_rfl) Try.func3
    (ChangeSpec.witness6 (enc := enc) (C := Try.checked) false ⟨#[], #[.slice none 0 0, .int .i64 0, .int .i64 0], []⟩ 8 (by kernel_rfl) (by kernel_rfl) (by kernel_rfl) (by kernel_rfl)) ?_
  intro W base args ds gs before hval0 hW hcnd _
  refine law_contract mixed tabK_is (f := 3) rfl (k := 10) (by rw [← List.all_eq_true]; kernel_rfl) (fun t ht => ?_) laid rfl (by kernel_rfl) rfl ?_ ?_ H enc W base args ds gs before hval0 hW
  · have : (Try.f3.params.toList.all fun t => Try.prog.readableRec t && decide (t < Try.prog.types.size)) = true := by kernel_rfl
    have := List.all_eq_true.1 this t ht
    simp only [Bool.and_eq_true, decide_eq_true_eq] at this
    exact this
  · intro H ds hd
    obtain ⟨_, _, _, rfl, _⟩ := chainSwept_args ds hd
    rfl
  · intro H ds hd
    obtain ⟨d, a, b, rfl, hd1, ha2, hb2⟩ := chainSwept_args ds hd
    obtain ⟨vs, v, g1, g2, g3, g4, g5⟩ := abs_slice_vers (m := Mem.empty) hd1
    have ha : absArgs Try.prog [d, .lit (.int .i64 a), .lit (.int .i64 b)] Try.f3.params.toList Mem.empty
        = ([argVal Try.prog 22 (absD Try.prog d 22 Mem.empty).1, I a, I b], (absD Try.prog d 22 Mem.empty).2) := by kernel_rfl
    have hv : argVal Try.prog 22 (absD Try.prog d 22 Mem.empty).1 = v := by rw [g1]; kernel_rfl
    rw [ha, hv]
    obtain ⟨v, m', ⟨n, hn⟩, rfl⟩ := chainSwept_run g4 g5 g2 ha2 hb2
    exact ⟨n, m', hn⟩

theorem chainSweptOnce_holds : Rows.ChainSweptOnceSaid :=
  OpenClaim.holds_of_wide 3 Try.f3 rfl rfl rfl rfl rfl rfl rfl ⟨rfl, rfl, rfl, rfl, rfl⟩ rfl rfl rfl rfl rfl (by kernel_rfl) Try.func3 (by kernel_rfl)
    (of_decide_eq_true (by kernel_rfl)) (by unfold Func.isWrapper; first | (rw [if_pos (by decide +kernel)]; kernel_rfl) | (rw [if_neg (by decide +kernel)]; exact ⟨rfl, rfl⟩))
    (fun os started H enc _ => chainSwept_lifted os started H enc)

end Go.Proofs.Ytbcoijgoipnelab
