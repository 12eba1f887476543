/-
  Own work. The list of rewriting steps as one conjunction, so that texts stay short.
-/
import Derived.Test.YtnlmnejellipdaaGreatXF
namespace Go.Proofs.YtnlmnejellipdaaGreat.X
open Go
set_option maxRecDepth 100000

theorem symA : type_of% (And.intro @go_nil (And.intro @go_inBlock (And.intro @go_skip (And.intro @go_seq (And.intro @go_block (And.intro @go_exit (And.intro @go_ret
    (And.intro @go_ops (And.intro @go_opsr (And.intro @go_cond (And.intro @ex_nil (And.intro @ex_code (And.intro @ex_inLoop (And.intro @ex_inBlock
    (And.intro @goC_true (And.intro @goC_false (And.intro @goC_dec (And.intro @goO_nil (And.intro @goO_cons (And.intro @goO_guard (And.intro @goG_true
    (And.intro @goG_false (And.intro @goR_val (And.intro @goR_skip (And.intro @look_hit (And.intro @xi_move (And.intro @xi_pick (And.intro @pick_bool
    (And.intro @xi_bin (And.intro @bin_add (And.intro @bin_sub (And.intro @bin_mul (And.intro @bin_eql (And.intro @bin_neq (And.intro @bin_lss (And.intro
    @bin_leq (And.intro @bin_gtr (And.intro @bin_geq (And.intro @xi_load1 (And.intro @ld_ptr (And.intro @xi_nilCheck (And.intro @nilCheck_ptr (And.intro
    @xi_fieldAddr (And.intro @fieldAddr_ptr (And.intro @xi_isNil (And.intro @isNil_some (And.intro @isNil_none (And.intro @xi_extract (And.intro
    @extract_tuple (And.intro @xi_call (And.intro @call_func (And.intro @xi_len (And.intro @len_slice (And.intro @xi_un (And.intro @un_not (And.intro
    @xi_store (And.intro @xi_box (And.intro @box_int (And.intro @box_ptr (And.intro @box_slice (And.intro @push_self (And.intro @push_two (And.intro
    @Mem.next_push (And.intro @xi_calcB (And.intro @calc_max (And.intro @calc_min (And.intro @goG_dec (And.intro @goG_ndec (And.intro @xi_indexAddr
    (And.intro @indexAddr_at (And.intro @indexAddr_zero (And.intro @xi_slice (And.intro @xi_append (And.intro @xi_clear (And.intro @isNil_slice (And.intro
    @xi_conv (And.intro @xi_alloc (And.intro @box_agg (And.intro @box_string (And.intro @box_bool (And.intro @xi_buildSlice (And.intro @xparts_nil
    (And.intro @xparts_cons (And.intro @xi_build (And.intro @xi_field (And.intro @field_one (And.intro @xi_makeFunc (And.intro @makeFunc_nil (And.intro
    @xi_loadA (And.intro @goD_nil (And.intro @goD_cons (And.intro @goD_guard (And.intro @goDG_true (And.intro @goDG_false (And.intro @goDV0 (And.intro
    @goDV1 (And.intro @goDV2 (And.intro @goDV3 (And.intro @goDV3s (And.intro @again_nil (And.intro @again_cons (And.intro @againE_val (And.intro @veq_int
    (And.intro @veq_slice (And.intro @veq_ptr (And.intro @veq_bool (And.intro @veq_string (And.intro @veq_agg (And.intro @veqL_nil (And.intro @veqL_cons
    (And.intro @veqC_int (And.intro @veqC_bool (And.intro @veqC_string (And.intro @veqC_slice (And.intro @veqC_ptr (And.intro @asNat_nat (And.intro
    @asNat_zero (And.intro @asNat_one (And.intro @eqb_t
    @eqb_f))))))))))))))))))))))))))))))))))))))))))))))))))))))))))))))))))))))))))))))))))))))))))))))))))))))))))))))))))))))) :=
  (And.intro @go_nil (And.intro @go_inBlock (And.intro @go_skip (And.intro @go_seq (And.intro @go_block (And.intro @go_exit (And.intro @go_ret
    (And.intro @go_ops (And.intro @go_opsr (And.intro @go_cond (And.intro @ex_nil (And.intro @ex_code (And.intro @ex_inLoop (And.intro @ex_inBlock
    (And.intro @goC_true (And.intro @goC_false (And.intro @goC_dec (And.intro @goO_nil (And.intro @goO_cons (And.intro @goO_guard (And.intro @goG_true
    (And.intro @goG_false (And.intro @goR_val (And.intro @goR_skip (And.intro @look_hit (And.intro @xi_move (And.intro @xi_pick (And.intro @pick_bool
    (And.intro @xi_bin (And.intro @bin_add (And.intro @bin_sub (And.intro @bin_mul (And.intro @bin_eql (And.intro @bin_neq (And.intro @bin_lss (And.intro
    @bin_leq (And.intro @bin_gtr (And.intro @bin_geq (And.intro @xi_load1 (And.intro @ld_ptr (And.intro @xi_nilCheck (And.intro @nilCheck_ptr (And.intro
    @xi_fieldAddr (And.intro @fieldAddr_ptr (And.intro @xi_isNil (And.intro @isNil_some (And.intro @isNil_none (And.intro @xi_extract (And.intro
    @extract_tuple (And.intro @xi_call (And.intro @call_func (And.intro @xi_len (And.intro @len_slice (And.intro @xi_un (And.intro @un_not (And.intro
    @xi_store (And.intro @xi_box (And.intro @box_int (And.intro @box_ptr (And.intro @box_slice (And.intro @push_self (And.intro @push_two (And.intro
    @Mem.next_push (And.intro @xi_calcB (And.intro @calc_max (And.intro @calc_min (And.intro @goG_dec (And.intro @goG_ndec (And.intro @xi_indexAddr
    (And.intro @indexAddr_at (And.intro @indexAddr_zero (And.intro @xi_slice (And.intro @xi_append (And.intro @xi_clear (And.intro @isNil_slice (And.intro
    @xi_conv (And.intro @xi_alloc (And.intro @box_agg (And.intro @box_string (And.intro @box_bool (And.intro @xi_buildSlice (And.intro @xparts_nil
    (And.intro @xparts_cons (And.intro @xi_build (And.intro @xi_field (And.intro @field_one (And.intro @xi_makeFunc (And.intro @makeFunc_nil (And.intro
    @xi_loadA (And.intro @goD_nil (And.intro @goD_cons (And.intro @goD_guard (And.intro @goDG_true (And.intro @goDG_false (And.intro @goDV0 (And.intro
    @goDV1 (And.intro @goDV2 (And.intro @goDV3 (And.intro @goDV3s (And.intro @again_nil (And.intro @again_cons (And.intro @againE_val (And.intro @veq_int
    (And.intro @veq_slice (And.intro @veq_ptr (And.intro @veq_bool (And.intro @veq_string (And.intro @veq_agg (And.intro @veqL_nil (And.intro @veqL_cons
    (And.intro @veqC_int (And.intro @veqC_bool (And.intro @veqC_string (And.intro @veqC_slice (And.intro @veqC_ptr (And.intro @asNat_nat (And.intro
    @asNat_zero (And.intro @asNat_one (And.intro @eqb_t
    @eqb_f)))))))))))))))))))))))))))))))))))))))))))))))))))))))))))))))))))))))))))))))))))))))))))))))))))))))))))))))))))))))

theorem symF : type_of% (And.intro @goF_nil (And.intro @goF_cons (And.intro @goF_guard (And.intro @goFG_true (And.intro @goFG_false (And.intro @goFV0 (And.intro @goFV1
    (And.intro @goFV2 (And.intro @goFV3 @goFV3s))))))))) :=
  (And.intro @goF_nil (And.intro @goF_cons (And.intro @goF_guard (And.intro @goFG_true (And.intro @goFG_false (And.intro @goFV0 (And.intro @goFV1
    (And.intro @goFV2 (And.intro @goFV3 @goFV3s)))))))))

theorem symB : type_of% (And.intro @List.filter_cons.{0} (And.intro @List.filter_nil.{0} (And.intro @Option.isNone_some.{0} (And.intro @Option.isNone_none.{0} (And.intro
    @List.length_map.{0,0} (And.intro @Option.bind_some.{0,0} (And.intro @Option.map_some.{0,0} (And.intro @List.getElem?_cons_zero.{0} (And.intro
    @List.getElem?_cons_succ.{0} (And.intro @bne_self_eq_false.{0} (And.intro @Option.some.injEq.{0} (And.intro @beq_self_eq_true.{0} (And.intro
    @cond_true.{1} (And.intro @cond_false.{1} (And.intro @List.size_toArray.{0} (And.intro @List.length_nil.{0} (And.intro
    @Nat.testBit_eq_decide_div_mod_eq (And.intro @Bool.and_true (And.intro @Bool.and_self (And.intro @Bool.true_and (And.intro @Nat.add_zero (And.intro
    @Nat.mul_one (And.intro @Nat.mul_zero (And.intro @Nat.zero_mul (And.intro @Bool.false_bne (And.intro @Bool.true_bne (And.intro @Bool.not_true
    (And.intro @Bool.not_false (And.intro @Nat.zero_add (And.intro @Int.cast_ofNat_Int (And.intro @decide_true (And.intro @decide_false (And.intro
    @and_true (And.intro @true_and (And.intro @Bool.true_eq_false (And.intro @Bool.false_eq_true (And.intro @false_implies (And.intro @not_true_eq_false
    (And.intro @not_false_eq_true (And.intro @true_implies (And.intro @Decidable.not_not (And.intro @decide_eq_true_eq
    @decide_eq_false_iff_not)))))))))))))))))))))))))))))))))))))))))) :=
  (And.intro @List.filter_cons.{0} (And.intro @List.filter_nil.{0} (And.intro @Option.isNone_some.{0} (And.intro @Option.isNone_none.{0} (And.intro
    @List.length_map.{0,0} (And.intro @Option.bind_some.{0,0} (And.intro @Option.map_some.{0,0} (And.intro @List.getElem?_cons_zero.{0} (And.intro
    @List.getElem?_cons_succ.{0} (And.intro @bne_self_eq_false.{0} (And.intro @Option.some.injEq.{0} (And.intro @beq_self_eq_true.{0} (And.intro
    @cond_true.{1} (And.intro @cond_false.{1} (And.intro @List.size_toArray.{0} (And.intro @List.length_nil.{0} (And.intro
    @Nat.testBit_eq_decide_div_mod_eq (And.intro @Bool.and_true (And.intro @Bool.and_self (And.intro @Bool.true_and (And.intro @Nat.add_zero (And.intro
    @Nat.mul_one (And.intro @Nat.mul_zero (And.intro @Nat.zero_mul (And.intro @Bool.false_bne (And.intro @Bool.true_bne (And.intro @Bool.not_true
    (And.intro @Bool.not_false (And.intro @Nat.zero_add (And.intro @Int.cast_ofNat_Int (And.intro @decide_true (And.intro @decide_false (And.intro
    @and_true (And.intro @true_and (And.intro @Bool.true_eq_false (And.intro @Bool.false_eq_true (And.intro @false_implies (And.intro @not_true_eq_false
    (And.intro @not_false_eq_true (And.intro @true_implies (And.intro @Decidable.not_not (And.intro @decide_eq_true_eq
    @decide_eq_false_iff_not))))))))))))))))))))))))))))))))))))))))))

end Go.Proofs.YtnlmnejellipdaaGreat.X
