/-
  Own work. The walk of the ways between rooms: the innermost loop.
-/
import Derived.Test.YtfjeccaffenngaaG4
import Derived.Test.YtfjeccaffenngaaXF
namespace Go.Proofs.Ytfjeccaffenngaa
open Go X
set_option maxRecDepth 100000
set_option linter.unusedVariables false
set_option linter.unusedSimpArgs false

def x18L4 : XCode := (.seq (.ops [⟨(some 76), none, .bin .lss 3 (.t 75) (.t 74)⟩] (some [1, 7, 13, 14, 64, 65, 69, 70, 74, 75, 76]))
         (.seq (.cond (.t 76)
          .skip
          (.exit 9))
         (.seq (.block 10
          (.seq (.ops [⟨(some 77), none, .move (.t 75)⟩,
            ⟨(some 15), none, .move (.t 77)⟩] (some [1, 7, 13, 14, 15, 64, 65, 69, 70, 74, 75]))
          (.opsd [(0, 0, ⟨(some 78), none, .move (.t 7)⟩),
            (1, 0, ⟨(some 79), none, .move (.t 14)⟩),
            (2, 3, ⟨(some 80), none, .indexAddr 1 (.t 78) (.t 79)⟩),
            (3, 7, ⟨(some 81), none, .load false 1 (.t 80)⟩),
            (4, 0, ⟨(some 82), none, .move (.t 15)⟩),
            (5, 0, ⟨(some 83), none, .move (.t 7)⟩),
            (6, 0, ⟨(some 84), none, .move (.t 14)⟩),
            (7, 96, ⟨(some 85), none, .indexAddr 1 (.t 83) (.t 84)⟩),
            (8, 224, ⟨(some 86), none, .load false 1 (.t 85)⟩),
            (9, 0, ⟨(some 87), none, .move (.t 15)⟩),
            (10, 992, ⟨(some 88), none, .indexAddr 1 (.t 86) (.t 87)⟩),
            (11, 2016, ⟨(some 89), none, .load false 1 (.t 88)⟩),
            (12, 4064, ⟨(some 90), none, .move (.t 89)⟩),
            (13, 8160, ⟨(some 91), (some (90, false)), .move (.t 7)⟩),
            (14, 8160, ⟨(some 92), (some (90, false)), .move (.t 14)⟩),
            (15, 32736, ⟨(some 93), (some (90, false)), .indexAddr 1 (.t 91) (.t 92)⟩),
            (16, 65504, ⟨(some 94), (some (90, false)), .load false 1 (.t 93)⟩),
            (17, 8160, ⟨(some 95), (some (90, false)), .move (.t 13)⟩),
            (18, 262112, ⟨(some 96), (some (90, false)), .indexAddr 1 (.t 94) (.t 95)⟩),
            (19, 524256, ⟨(some 97), (some (90, false)), .load false 1 (.t 96)⟩),
            (20, 1048544, ⟨(some 98), (some (90, false)), .move (.t 97)⟩),
            (21, 2097120, ⟨(some 99), (some (98, true)), .move (.t 7)⟩),
            (22, 2097120, ⟨(some 100), (some (98, true)), .move (.t 13)⟩),
            (23, 8388576, ⟨(some 101), (some (98, true)), .indexAddr 1 (.t 99) (.t 100)⟩),
            (24, 16777184, ⟨(some 102), (some (98, true)), .load false 1 (.t 101)⟩),
            (25, 2097120, ⟨(some 103), (some (98, true)), .move (.t 15)⟩),
            (26, 67108832, ⟨(some 104), (some (98, true)), .indexAddr 1 (.t 102) (.t 103)⟩),
            (27, 134217696, ⟨(some 105), (some (98, true)), .load false 1 (.t 104)⟩),
            (28, 268435424, ⟨(some 106), (some (90, false)), .pick (.t 98) (.t 105) (.c (.bool false))⟩),
            (29, 536870880, ⟨(some 107), none, .pick (.t 90) (.c (.bool true)) (.t 106)⟩),
            (30, 1073741823, ⟨(some 108), none, .indexAddr 1 (.t 81) (.t 82)⟩),
            (31, 2147483647, ⟨none, none, .store 1 (.t 108) (.t 107)⟩)] (some [1, 7, 13, 14, 64, 65, 69, 70, 74, 75]))))
         (.ops [⟨(some 109), none, .bin .add 3 (.t 75) (.c (.int .i64 1))⟩,
           ⟨(some 75), none, .move (.t 109)⟩] (some [1, 7, 13, 14, 64, 65, 69, 70, 74, 75])))))
section
variable {b t r : Nat} {m : Mem} {v : Value} {T : Tb} {rooms : List (List Int)}
theorem kbody_spec {m m4 : Mem} {F rids : List Nat} {po p : Option Addr} {i c co by_ x k : Nat} {W : Nat → Nat → Bool} {Q N : Post} {B : Nat → Post} (hi8 : i ≤ 8) (hx : x < i) (hb : by_ < i) (hkt : k < i) (f4 : Nx m m4)
    (hM4 : MatAt m4 F (.slice po i co) i i m.next rids W)
    (h : ∀ m5, Nx m m5 → MatAt m5 F (.slice po i co) i i m.next rids (updK W by_ x k) → N [(1, .slice p i c), (7, .slice po i co), (13, I by_), (14, I x), (64, I i), (65, I by_), (69, I i), (70, I x), (74, I i), (75, I ((k + 1 : Nat)))] m5) :
    Go' Try.prog tabK [.code x18L4] [(1, .slice p i c), (7, .slice po i co), (13, I by_), (14, I x), (64, I i), (65, I by_), (69, I i), (70, I x), (74, I i), (75, I k)] m4 Q N B := by
  unfold x18L4
  have hkt' : (k : Int) < (i : Int) := by omega
  have wk : IntKind.i64.wrap ((k : Int) + 1) = ((k + 1 : Nat) : Int) := by rw [wrap_i64 (by omega) (by omega)]; omega
  obtain ⟨oid, o, cap, id, hov, ho, hc, hid, hrow⟩ := hM4.at hx
  obtain ⟨oid2, o2, cap2, id2, hov2, ho2, hc2, hid2, hrow2⟩ := hM4.at hb
  cases hov
  cases hov2
  rw [ho] at ho2
  cases ho2
  have q1 := cellsB_at (f := W x) hkt
  have q2 := cellsB_at (f := W x) hb
  have q3 := cellsB_at (f := W by_) hkt
  obtain ⟨m5, s5, hM5, f5⟩ := hM4.upd (by_ := by_) hid hkt
  have hlow := (hM4.low id (List.mem_of_getElem? hid)).1
  have fin := h m5 (f4.comp f5 (fun y hy h => by omega)) hM5
  simp only [go_nil, go_inBlock, go_skip, go_seq, go_block, go_exit, go_ret, go_ops, go_opsr, go_cond, ex_nil, ex_code, ex_inLoop, ex_inBlock, goC_true, goC_false, goC_dec, goO_nil, goO_cons, goO_guard, goG_true, goG_false, goR_val, goR_skip, wantedX, X.put, X.look, look_hit, Arg.ev, keepOf, restrict, evs, evO, initEnv, xres, tup, xi_move, xi_pick, pick_bool, xi_bin, bin_add, bin_sub, bin_mul, bin_eql, bin_neq, bin_lss, bin_leq, bin_gtr, bin_geq, xi_load1, ld_ptr, xi_nilCheck, nilCheck_ptr, xi_fieldAddr, fieldAddr_ptr, xi_isNil, isNil_some, isNil_none, xi_extract, extract_tuple, xi_call, call_func, xi_len, len_slice, xi_un, un_not, xi_store, xi_box, box_int, box_ptr, box_slice, push_self, push_two, Mem.next_push, xi_calcB, calc_max, calc_min, goG_dec, goG_ndec, xi_indexAddr, indexAddr_at, indexAddr_zero, xi_slice, xi_append, xi_clear, isNil_slice, xi_conv, xi_alloc, box_agg, box_string, box_bool, xi_buildSlice, xparts_nil, xparts_cons, xi_build, xi_field, field_one, xi_makeFunc, makeFunc_nil, xi_loadA, goD_nil, goD_cons, goD_guard, goDG_true, goDG_false, goDV0, goDV1, goDV2, goDV3, goDV3s, again_nil, again_cons, againE_val, veq_int, veq_slice, veq_ptr, veq_bool, veq_string, veq_agg, veqL_nil, veqL_cons, veqC_int, veqC_bool, veqC_string, veqC_slice, veqC_ptr, List.filter_cons, List.filter_nil, Nat.testBit_eq_decide_div_mod_eq, asNat_nat, asNat_zero, asNat_one, noTup, cls, quiet, Option.isNone_some, Option.isNone_none, Bool.and_true, Bool.and_self, Bool.true_and, Nat.add_zero, Nat.mul_one, Nat.mul_zero, Nat.zero_mul, List.length_map, Option.bind_some, Option.map_some, List.getElem?_cons_zero, List.getElem?_cons_succ, Nat.reduceAdd, Nat.reduceEqDiff, ↓reduceIte, reduceCtorEq, goInt, bne_self_eq_false, Bool.false_bne, Bool.true_bne, Bool.not_true, Bool.not_false, decide_eq_true_eq, decide_eq_false_iff_not, Option.some.injEq, exists_eq_left', Nat.zero_add, beq_self_eq_true, cond_true, cond_false, eqb_t, eqb_f, Int.cast_ofNat_Int, eq_self, decide_true, decide_false, Int.reduceLT, Int.reduceLE, Int.reduceEq, Int.reduceNeg, Int.reduceAdd, Int.reduceSub, and_true, true_and, forall_const, Bool.true_eq_false, Bool.false_eq_true, false_implies, ne_eq, not_true_eq_false, not_false_eq_true, true_implies, Decidable.not_not, undef, List.size_toArray, List.length_nil, Nat.reducePow, Nat.reduceDiv, Nat.reduceMod, goF_nil, goF_cons, goF_guard, goFG_true, goFG_false, goFV0, goFV1, goFV2, goFV3, goFV3s, Nat.reduceOr, Nat.reduceAnd, Nat.reduceShiftLeft, Nat.zero_or, hkt']
  refine goF_of ?_
  cases h1 : W x k with
  | true =>
    rw [h1] at s5 q1
    simp only [Bool.true_or] at s5
    simp only [go_nil, go_inBlock, go_skip, go_seq, go_block, go_exit, go_ret, go_ops, go_opsr, go_cond, ex_nil, ex_code, ex_inLoop, ex_inBlock, goC_true, goC_false, goC_dec, goO_nil, goO_cons, goO_guard, goG_true, goG_false, goR_val, goR_skip, wantedX, X.put, X.look, look_hit, Arg.ev, keepOf, restrict, evs, evO, initEnv, xres, tup, xi_move, xi_pick, pick_bool, xi_bin, bin_add, bin_sub, bin_mul, bin_eql, bin_neq, bin_lss, bin_leq, bin_gtr, bin_geq, xi_load1, ld_ptr, xi_nilCheck, nilCheck_ptr, xi_fieldAddr, fieldAddr_ptr, xi_isNil, isNil_some, isNil_none, xi_extract, extract_tuple, xi_call, call_func, xi_len, len_slice, xi_un, un_not, xi_store, xi_box, box_int, box_ptr, box_slice, push_self, push_two, Mem.next_push, xi_calcB, calc_max, calc_min, goG_dec, goG_ndec, xi_indexAddr, indexAddr_at, indexAddr_zero, xi_slice, xi_append, xi_clear, isNil_slice, xi_conv, xi_alloc, box_agg, box_string, box_bool, xi_buildSlice, xparts_nil, xparts_cons, xi_build, xi_field, field_one, xi_makeFunc, makeFunc_nil, xi_loadA, goD_nil, goD_cons, goD_guard, goDG_true, goDG_false, goDV0, goDV1, goDV2, goDV3, goDV3s, again_nil, again_cons, againE_val, veq_int, veq_slice, veq_ptr, veq_bool, veq_string, veq_agg, veqL_nil, veqL_cons, veqC_int, veqC_bool, veqC_string, veqC_slice, veqC_ptr, List.filter_cons, List.filter_nil, Nat.testBit_eq_decide_div_mod_eq, asNat_nat, asNat_zero, asNat_one, noTup, cls, quiet, Option.isNone_some, Option.isNone_none, Bool.and_true, Bool.and_self, Bool.true_and, Nat.add_zero, Nat.mul_one, Nat.mul_zero, Nat.zero_mul, List.length_map, Option.bind_some, Option.map_some, List.getElem?_cons_zero, List.getElem?_cons_succ, Nat.reduceAdd, Nat.reduceEqDiff, ↓reduceIte, reduceCtorEq, goInt, bne_self_eq_false, Bool.false_bne, Bool.true_bne, Bool.not_true, Bool.not_false, decide_eq_true_eq, decide_eq_false_iff_not, Option.some.injEq, exists_eq_left', Nat.zero_add, beq_self_eq_true, cond_true, cond_false, eqb_t, eqb_f, Int.cast_ofNat_Int, eq_self, decide_true, decide_false, Int.reduceLT, Int.reduceLE, Int.reduceEq, Int.reduceNeg, Int.reduceAdd, Int.reduceSub, and_true, true_and, forall_const, Bool.true_eq_false, Bool.false_eq_true, false_implies, ne_eq, not_true_eq_false, not_false_eq_true, true_implies, Decidable.not_not, undef, List.size_toArray, List.length_nil, Nat.reducePow, Nat.reduceDiv, Nat.reduceMod, goF_nil, goF_cons, goF_guard, goFG_true, goFG_false, goFV0, goFV1, goFV2, goFV3, goFV3s, Nat.reduceOr, Nat.reduceAnd, Nat.reduceShiftLeft, Nat.zero_or, hkt, hkt', hx, hb, ho, hc, hc2, hrow, hrow2, q1, s5, wk]
    exact fin
  | false => 
    rw [h1] at s5 q1
    cases h2 : W x by_ with
    | true =>
      rw [h2] at s5 q2
      simp only [Bool.false_or, Bool.true_and] at s5
      simp only [go_nil, go_inBlock, go_skip, go_seq, go_block, go_exit, go_ret, go_ops, go_opsr, go_cond, ex_nil, ex_code, ex_inLoop, ex_inBlock, goC_true, goC_false, goC_dec, goO_nil, goO_cons, goO_guard, goG_true, goG_false, goR_val, goR_skip, wantedX, X.put, X.look, look_hit, Arg.ev, keepOf, restrict, evs, evO, initEnv, xres, tup, xi_move, xi_pick, pick_bool, xi_bin, bin_add, bin_sub, bin_mul, bin_eql, bin_neq, bin_lss, bin_leq, bin_gtr, bin_geq, xi_load1, ld_ptr, xi_nilCheck, nilCheck_ptr, xi_fieldAddr, fieldAddr_ptr, xi_isNil, isNil_some, isNil_none, xi_extract, extract_tuple, xi_call, call_func, xi_len, len_slice, xi_un, un_not, xi_store, xi_box, box_int, box_ptr, box_slice, push_self, push_two, Mem.next_push, xi_calcB, calc_max, calc_min, goG_dec, goG_ndec, xi_indexAddr, indexAddr_at, indexAddr_zero, xi_slice, xi_append, xi_clear, isNil_slice, xi_conv, xi_alloc, box_agg, box_string, box_bool, xi_buildSlice, xparts_nil, xparts_cons, xi_build, xi_field, field_one, xi_makeFunc, makeFunc_nil, xi_loadA, goD_nil, goD_cons, goD_guard, goDG_true, goDG_false, goDV0, goDV1, goDV2, goDV3, goDV3s, again_nil, again_cons, againE_val, veq_int, veq_slice, veq_ptr, veq_bool, veq_string, veq_agg, veqL_nil, veqL_cons, veqC_int, veqC_bool, veqC_string, veqC_slice, veqC_ptr, List.filter_cons, List.filter_nil, Nat.testBit_eq_decide_div_mod_eq, asNat_nat, asNat_zero, asNat_one, noTup, cls, quiet, Option.isNone_some, Option.isNone_none, Bool.and_true, Bool.and_self, Bool.true_and, Nat.add_zero, Nat.mul_one, Nat.mul_zero, Nat.zero_mul, List.length_map, Option.bind_some, Option.map_some, List.getElem?_cons_zero, List.getElem?_cons_succ, Nat.reduceAdd, Nat.reduceEqDiff, ↓reduceIte, reduceCtorEq, goInt, bne_self_eq_false, Bool.false_bne, Bool.true_bne, Bool.not_true, Bool.not_false, decide_eq_true_eq, decide_eq_false_iff_not, Option.some.injEq, exists_eq_left', Nat.zero_add, beq_self_eq_true, cond_true, cond_false, eqb_t, eqb_f, Int.cast_ofNat_Int, eq_self, decide_true, decide_false, Int.reduceLT, Int.reduceLE, Int.reduceEq, Int.reduceNeg, Int.reduceAdd, Int.reduceSub, and_true, true_and, forall_const, Bool.true_eq_false, Bool.false_eq_true, false_implies, ne_eq, not_true_eq_false, not_false_eq_true, true_implies, Decidable.not_not, undef, List.size_toArray, List.length_nil, Nat.reducePow, Nat.reduceDiv, Nat.reduceMod, goF_nil, goF_cons, goF_guard, goFG_true, goFG_false, goFV0, goFV1, goFV2, goFV3, goFV3s, Nat.reduceOr, Nat.reduceAnd, Nat.reduceShiftLeft, Nat.zero_or, hkt, hkt', hx, hb, ho, hc, hc2, hrow, hrow2, q1, q2, q3, s5, wk]
      exact fin
    | false =>
      rw [h2] at s5 q2
      simp only [Bool.false_or, Bool.false_and] at s5
      simp only [go_nil, go_inBlock, go_skip, go_seq, go_block, go_exit, go_ret, go_ops, go_opsr, go_cond, ex_nil, ex_code, ex_inLoop, ex_inBlock, goC_true, goC_false, goC_dec, goO_nil, goO_cons, goO_guard, goG_true, goG_false, goR_val, goR_skip, wantedX, X.put, X.look, look_hit, Arg.ev, keepOf, restrict, evs, evO, initEnv, xres, tup, xi_move, xi_pick, pick_bool, xi_bin, bin_add, bin_sub, bin_mul, bin_eql, bin_neq, bin_lss, bin_leq, bin_gtr, bin_geq, xi_load1, ld_ptr, xi_nilCheck, nilCheck_ptr, xi_fieldAddr, fieldAddr_ptr, xi_isNil, isNil_some, isNil_none, xi_extract, extract_tuple, xi_call, call_func, xi_len, len_slice, xi_un, un_not, xi_store, xi_box, box_int, box_ptr, box_slice, push_self, push_two, Mem.next_push, xi_calcB, calc_max, calc_min, goG_dec, goG_ndec, xi_indexAddr, indexAddr_at, indexAddr_zero, xi_slice, xi_append, xi_clear, isNil_slice, xi_conv, xi_alloc, box_agg, box_string, box_bool, xi_buildSlice, xparts_nil, xparts_cons, xi_build, xi_field, field_one, xi_makeFunc, makeFunc_nil, xi_loadA, goD_nil, goD_cons, goD_guard, goDG_true, goDG_false, goDV0, goDV1, goDV2, goDV3, goDV3s, again_nil, again_cons, againE_val, veq_int, veq_slice, veq_ptr, veq_bool, veq_string, veq_agg, veqL_nil, veqL_cons, veqC_int, veqC_bool, veqC_string, veqC_slice, veqC_ptr, List.filter_cons, List.filter_nil, Nat.testBit_eq_decide_div_mod_eq, asNat_nat, asNat_zero, asNat_one, noTup, cls, quiet, Option.isNone_some, Option.isNone_none, Bool.and_true, Bool.and_self, Bool.true_and, Nat.add_zero, Nat.mul_one, Nat.mul_zero, Nat.zero_mul, List.length_map, Option.bind_some, Option.map_some, List.getElem?_cons_zero, List.getElem?_cons_succ, Nat.reduceAdd, Nat.reduceEqDiff, ↓reduceIte, reduceCtorEq, goInt, bne_self_eq_false, Bool.false_bne, Bool.true_bne, Bool.not_true, Bool.not_false, decide_eq_true_eq, decide_eq_false_iff_not, Option.some.injEq, exists_eq_left', Nat.zero_add, beq_self_eq_true, cond_true, cond_false, eqb_t, eqb_f, Int.cast_ofNat_Int, eq_self, decide_true, decide_false, Int.reduceLT, Int.reduceLE, Int.reduceEq, Int.reduceNeg, Int.reduceAdd, Int.reduceSub, and_true, true_and, forall_const, Bool.true_eq_false, Bool.false_eq_true, false_implies, ne_eq, not_true_eq_false, not_false_eq_true, true_implies, Decidable.not_not, undef, List.size_toArray, List.length_nil, Nat.reducePow, Nat.reduceDiv, Nat.reduceMod, goF_nil, goF_cons, goF_guard, goFG_true, goFG_false, goFV0, goFV1, goFV2, goFV3, goFV3s, Nat.reduceOr, Nat.reduceAnd, Nat.reduceShiftLeft, Nat.zero_or, hkt, hkt', hx, hb, ho, hc, hc2, hrow, hrow2, q1, q2, s5, wk]
      exact fin
end
end Go.Proofs.Ytfjeccaffenngaa
