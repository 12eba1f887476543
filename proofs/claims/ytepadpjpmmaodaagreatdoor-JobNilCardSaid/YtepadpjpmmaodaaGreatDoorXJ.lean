/-
  Own work. PROVED HERE: JobNil: whatever the act, the law returns true (a job that is not there does nothing); then its tied card. No condition.
-/
import Derived.Test.YtepadpjpmmaodaaGreatDoorXA
import Derived.Test.YtepadpjpmmaodaaGreatDoorXOwn2
import Derived.Test.YtepadpjpmmaodaaGreatDoorRows
import Derived.Test.YtepadpjpmmaodaaGreatDoorTie
import Derived.Test.YtepadpjpmmaodaaGreatDoorCards
import Derived.ProofKit
import Derived.LaidMore
import Derived.Lay
import Derived.SevenTiedAt
import Derived.Stop.Joined
namespace Go.Proofs.YtepadpjpmmaodaaGreatDoor
open Go Go.ChangeShapes Go.WideShapes Go.ChangeAt Go.RowKit X
set_option maxRecDepth 100000
set_option linter.unusedVariables false
set_option linter.unusedSimpArgs false

/-- A write's row, as far as it is looked at. -/
def GoodW (r : List Value) : Prop := ∃ (k t : ByteArray) (a b c : Value), r = [.string k, a, b, .string t, c]
theorem calc_len {m : Mem} {t : ByteArray} {n : List Bool} : calcE Tryz.prog .len [9] 3 n [.string t] m = some (.val (I (t.size : Nat)) m) := by kernel_rfl

abbrev rowA (k s a b : Int) (L : Value) (d1 d2 d3 d4 : Int) (d5 : Bool) (Pk : Value) : List Value := [I k, I s, I a, .int .u8 b, L, I d1, I d2, I d3, U d4, .bool d5, Pk]

theorem far_spec {b0 : Nat} {m : Mem} {p : Option Addr} {c pn pc : Nat} {pp : Option Addr} {rows : List (List Value)} {k s a b d1 d2 d3 d4 : Int} {d5 : Bool} (h : RdS b0 m 5 (.slice p rows.length c) rows) (hg : ∀ r ∈ rows, GoodW r) (hb : b0 ≤ m.next) (hl : rows.length ≤ 4611686018427387903) :
    Wc 23 [.agg ⟨rowA k s a b (.slice p rows.length c) d1 d2 d3 d4 d5 (.slice pp pn pc)⟩] m fun r m' => (∃ t, r = .bool t) ∧ Nx m m' := by
  refine call_go (F := _) rfl rfl fun Q hQ => ?_
  obtain ⟨m0, hm0⟩ : ∃ m0, m.push { cells := rowA k s a b (.slice p rows.length c) d1 d2 d3 d4 d5 (.slice pp pn pc), rw := true, spare := none, kin := [] } = m0 := ⟨_, rfl⟩
  have g0 : m0.get m.next = some { cells := rowA k s a b (.slice p rows.length c) d1 d2 d3 d4 d5 (.slice pp pn pc), rw := true, spare := none, kin := [] } := by rw [← hm0, push_self]
  have f0 : Nx m m0 := by rw [← hm0]; exact .push
  have h0 := h.fr f0 hb (fun _ h => h.elim)
  by_cases h30 : (30 : Int) < (rows.length : Int)
  · simp only [go_nil, go_inBlock, go_skip, go_seq, go_block, go_exit, go_ret, go_ops, go_opsr, go_cond, ex_nil, ex_code, ex_inLoop, ex_inBlock, goC_true, goC_false, goC_dec, goO_nil, goO_cons, goO_guard, goG_true, goG_false, goR_val, goR_skip, wantedX, X.put, X.look, look_hit, Arg.ev, keepOf, restrict, evs, evO, initEnv, xres, tup, xi_move, xi_pick, pick_bool, xi_bin, bin_add, bin_sub, bin_mul, bin_eql, bin_neq, bin_lss, bin_leq, bin_gtr, bin_geq, xi_load1, ld_ptr, xi_nilCheck, nilCheck_ptr, xi_fieldAddr, fieldAddr_ptr, xi_isNil, isNil_some, isNil_none, xi_extract, extract_tuple, xi_call, call_func, xi_len, len_slice, xi_un, un_not, xi_store, xi_box, box_int, box_ptr, box_slice, push_self, push_two, Mem.next_push, xi_calcB, calc_max, calc_min, goG_dec, goG_ndec, xi_indexAddr, indexAddr_at, indexAddr_zero, xi_slice, xi_append, xi_clear, isNil_slice, xi_conv, xi_alloc, box_agg, box_string, box_bool, xi_buildSlice, xparts_nil, xparts_cons, xi_build, xi_field, field_one, xi_makeFunc, makeFunc_nil, xi_loadA, go_opsd, goD_nil, goD_cons, goD_guard, goDG_true, goDG_false, goDV0, goDV1, goDV2, goDV3, goDV3s, again_nil, again_cons, againE_val, veq_int, veq_slice, veq_ptr, veq_bool, veq_string, veq_agg, veqL_nil, veqL_cons, veqC_int, veqC_bool, veqC_string, veqC_slice, veqC_ptr, List.filter_cons, List.filter_nil, Nat.testBit_eq_decide_div_mod_eq, asNat_nat, asNat_zero, asNat_one, noTup, cls, quiet, Option.isNone_some, Option.isNone_none, Bool.and_true, Bool.and_self, Bool.true_and, Nat.add_zero, Nat.mul_one, Nat.mul_zero, Nat.zero_mul, List.length_map, Option.bind_some, Option.map_some, List.getElem?_cons_zero, List.getElem?_cons_succ, Nat.reduceAdd, Nat.reduceEqDiff, ↓reduceIte, reduceCtorEq, goInt, bne_self_eq_false, Bool.false_bne, Bool.true_bne, Bool.not_true, Bool.not_false, decide_eq_true_eq, decide_eq_false_iff_not, Option.some.injEq, exists_eq_left', Nat.zero_add, beq_self_eq_true, cond_true, cond_false, eqb_t, eqb_f, Int.cast_ofNat_Int, eq_self, decide_true, decide_false, Int.reduceLT, Int.reduceLE, Int.reduceEq, Int.reduceNeg, Int.reduceAdd, Int.reduceSub, and_true, true_and, forall_const, Bool.true_eq_false, Bool.false_eq_true, false_implies, ne_eq, not_true_eq_false, not_false_eq_true, true_implies, Decidable.not_not, undef, List.size_toArray, List.length_nil, Nat.reducePow, Nat.reduceDiv, Nat.reduceMod, hm0, g0, h30]
    exact hQ _ _ _ rfl ⟨⟨_, rfl⟩, f0⟩
  · by_cases h100 : (100 : Int) < (pn : Int)
    · simp only [go_nil, go_inBlock, go_skip, go_seq, go_block, go_exit, go_ret, go_ops, go_opsr, go_cond, ex_nil, ex_code, ex_inLoop, ex_inBlock, goC_true, goC_false, goC_dec, goO_nil, goO_cons, goO_guard, goG_true, goG_false, goR_val, goR_skip, wantedX, X.put, X.look, look_hit, Arg.ev, keepOf, restrict, evs, evO, initEnv, xres, tup, xi_move, xi_pick, pick_bool, xi_bin, bin_add, bin_sub, bin_mul, bin_eql, bin_neq, bin_lss, bin_leq, bin_gtr, bin_geq, xi_load1, ld_ptr, xi_nilCheck, nilCheck_ptr, xi_fieldAddr, fieldAddr_ptr, xi_isNil, isNil_some, isNil_none, xi_extract, extract_tuple, xi_call, call_func, xi_len, len_slice, xi_un, un_not, xi_store, xi_box, box_int, box_ptr, box_slice, push_self, push_two, Mem.next_push, xi_calcB, calc_max, calc_min, goG_dec, goG_ndec, xi_indexAddr, indexAddr_at, indexAddr_zero, xi_slice, xi_append, xi_clear, isNil_slice, xi_conv, xi_alloc, box_agg, box_string, box_bool, xi_buildSlice, xparts_nil, xparts_cons, xi_build, xi_field, field_one, xi_makeFunc, makeFunc_nil, xi_loadA, go_opsd, goD_nil, goD_cons, goD_guard, goDG_true, goDG_false, goDV0, goDV1, goDV2, goDV3, goDV3s, again_nil, again_cons, againE_val, veq_int, veq_slice, veq_ptr, veq_bool, veq_string, veq_agg, veqL_nil, veqL_cons, veqC_int, veqC_bool, veqC_string, veqC_slice, veqC_ptr, List.filter_cons, List.filter_nil, Nat.testBit_eq_decide_div_mod_eq, asNat_nat, asNat_zero, asNat_one, noTup, cls, quiet, Option.isNone_some, Option.isNone_none, Bool.and_true, Bool.and_self, Bool.true_and, Nat.add_zero, Nat.mul_one, Nat.mul_zero, Nat.zero_mul, List.length_map, Option.bind_some, Option.map_some, List.getElem?_cons_zero, List.getElem?_cons_succ, Nat.reduceAdd, Nat.reduceEqDiff, ↓reduceIte, reduceCtorEq, goInt, bne_self_eq_false, Bool.false_bne, Bool.true_bne, Bool.not_true, Bool.not_false, decide_eq_true_eq, decide_eq_false_iff_not, Option.some.injEq, exists_eq_left', Nat.zero_add, beq_self_eq_true, cond_true, cond_false, eqb_t, eqb_f, Int.cast_ofNat_Int, eq_self, decide_true, decide_false, Int.reduceLT, Int.reduceLE, Int.reduceEq, Int.reduceNeg, Int.reduceAdd, Int.reduceSub, and_true, true_and, forall_const, Bool.true_eq_false, Bool.false_eq_true, false_implies, ne_eq, not_true_eq_false, not_false_eq_true, true_implies, Decidable.not_not, undef, List.size_toArray, List.length_nil, Nat.reducePow, Nat.reduceDiv, Nat.reduceMod, hm0, g0, h30, h100]
      exact hQ _ _ _ rfl ⟨⟨_, rfl⟩, f0⟩
    · simp only [go_nil, go_inBlock, go_skip, go_seq, go_block, go_exit, go_ret, go_ops, go_opsr, go_cond, ex_nil, ex_code, ex_inLoop, ex_inBlock, goC_true, goC_false, goC_dec, goO_nil, goO_cons, goO_guard, goG_true, goG_false, goR_val, goR_skip, wantedX, X.put, X.look, look_hit, Arg.ev, keepOf, restrict, evs, evO, initEnv, xres, tup, xi_move, xi_pick, pick_bool, xi_bin, bin_add, bin_sub, bin_mul, bin_eql, bin_neq, bin_lss, bin_leq, bin_gtr, bin_geq, xi_load1, ld_ptr, xi_nilCheck, nilCheck_ptr, xi_fieldAddr, fieldAddr_ptr, xi_isNil, isNil_some, isNil_none, xi_extract, extract_tuple, xi_call, call_func, xi_len, len_slice, xi_un, un_not, xi_store, xi_box, box_int, box_ptr, box_slice, push_self, push_two, Mem.next_push, xi_calcB, calc_max, calc_min, goG_dec, goG_ndec, xi_indexAddr, indexAddr_at, indexAddr_zero, xi_slice, xi_append, xi_clear, isNil_slice, xi_conv, xi_alloc, box_agg, box_string, box_bool, xi_buildSlice, xparts_nil, xparts_cons, xi_build, xi_field, field_one, xi_makeFunc, makeFunc_nil, xi_loadA, go_opsd, goD_nil, goD_cons, goD_guard, goDG_true, goDG_false, goDV0, goDV1, goDV2, goDV3, goDV3s, again_nil, again_cons, againE_val, veq_int, veq_slice, veq_ptr, veq_bool, veq_string, veq_agg, veqL_nil, veqL_cons, veqC_int, veqC_bool, veqC_string, veqC_slice, veqC_ptr, List.filter_cons, List.filter_nil, Nat.testBit_eq_decide_div_mod_eq, asNat_nat, asNat_zero, asNat_one, noTup, cls, quiet, Option.isNone_some, Option.isNone_none, Bool.and_true, Bool.and_self, Bool.true_and, Nat.add_zero, Nat.mul_one, Nat.mul_zero, Nat.zero_mul, List.length_map, Option.bind_some, Option.map_some, List.getElem?_cons_zero, List.getElem?_cons_succ, Nat.reduceAdd, Nat.reduceEqDiff, ↓reduceIte, reduceCtorEq, goInt, bne_self_eq_false, Bool.false_bne, Bool.true_bne, Bool.not_true, Bool.not_false, decide_eq_true_eq, decide_eq_false_iff_not, Option.some.injEq, exists_eq_left', Nat.zero_add, beq_self_eq_true, cond_true, cond_false, eqb_t, eqb_f, Int.cast_ofNat_Int, eq_self, decide_true, decide_false, Int.reduceLT, Int.reduceLE, Int.reduceEq, Int.reduceNeg, Int.reduceAdd, Int.reduceSub, and_true, true_and, forall_const, Bool.true_eq_false, Bool.false_eq_true, false_implies, ne_eq, not_true_eq_false, not_false_eq_true, true_implies, Decidable.not_not, undef, List.size_toArray, List.length_nil, Nat.reducePow, Nat.reduceDiv, Nat.reduceMod, hm0, g0, h30, h100]
      refine loop_go (fun j e m' => m' = m0 ∧ ∃ i : Nat, i ≤ rows.length ∧ j = rows.length - i ∧ e = [(1, .pointer (some ⟨m.next, 0, none⟩)), (3, I i)]) rows.length ⟨rfl, 0, by omega, rfl, rfl⟩ ?_
      rintro j e m' N' B' hN hB ⟨rfl, i, hi, rfl, rfl⟩
      by_cases hlt : i < rows.length
      · have hlt' : (i : Int) < (rows.length : Int) := by omega
        obtain ⟨r, hr⟩ : ∃ r, rows[i]? = some r := ⟨_, List.getElem?_eq_getElem hlt⟩
        obtain ⟨kk, tt, a1, a2, a3, rfl⟩ := hg r (List.mem_of_getElem? hr)
        obtain ⟨p', c', hv, hc, hh⟩ := h0
        cases hv
        obtain ⟨_, ad, o, rfl, _, ho, hcell⟩ := hh i _ hr
        have c0 : o.cells[ad.off + i * 5]? = some (.string kk) := hcell 0 (by omega)
        have c3 : o.cells[ad.off + i * 5 + 2 + 1]? = some (.string tt) := hcell 3 (by omega)
        have w1 : IntKind.i64.wrap ((i : Int) + 1) = ((i + 1 : Nat) : Int) := by rw [wrap_i64 (by omega) (by omega)]; omega
        by_cases hk : (200 : Int) < (kk.size : Int)
        · simp only [go_nil, go_inBlock, go_skip, go_seq, go_block, go_exit, go_ret, go_ops, go_opsr, go_cond, ex_nil, ex_code, ex_inLoop, ex_inBlock, goC_true, goC_false, goC_dec, goO_nil, goO_cons, goO_guard, goG_true, goG_false, goR_val, goR_skip, wantedX, X.put, X.look, look_hit, Arg.ev, keepOf, restrict, evs, evO, initEnv, xres, tup, xi_move, xi_pick, pick_bool, xi_bin, bin_add, bin_sub, bin_mul, bin_eql, bin_neq, bin_lss, bin_leq, bin_gtr, bin_geq, xi_load1, ld_ptr, xi_nilCheck, nilCheck_ptr, xi_fieldAddr, fieldAddr_ptr, xi_isNil, isNil_some, isNil_none, xi_extract, extract_tuple, xi_call, call_func, xi_len, len_slice, xi_un, un_not, xi_store, xi_box, box_int, box_ptr, box_slice, push_self, push_two, Mem.next_push, xi_calcB, calc_max, calc_min, goG_dec, goG_ndec, xi_indexAddr, indexAddr_at, indexAddr_zero, xi_slice, xi_append, xi_clear, isNil_slice, xi_conv, xi_alloc, box_agg, box_string, box_bool, xi_buildSlice, xparts_nil, xparts_cons, xi_build, xi_field, field_one, xi_makeFunc, makeFunc_nil, xi_loadA, go_opsd, goD_nil, goD_cons, goD_guard, goDG_true, goDG_false, goDV0, goDV1, goDV2, goDV3, goDV3s, again_nil, again_cons, againE_val, veq_int, veq_slice, veq_ptr, veq_bool, veq_string, veq_agg, veqL_nil, veqL_cons, veqC_int, veqC_bool, veqC_string, veqC_slice, veqC_ptr, List.filter_cons, List.filter_nil, Nat.testBit_eq_decide_div_mod_eq, asNat_nat, asNat_zero, asNat_one, noTup, cls, quiet, Option.isNone_some, Option.isNone_none, Bool.and_true, Bool.and_self, Bool.true_and, Nat.add_zero, Nat.mul_one, Nat.mul_zero, Nat.zero_mul, List.length_map, Option.bind_some, Option.map_some, List.getElem?_cons_zero, List.getElem?_cons_succ, Nat.reduceAdd, Nat.reduceEqDiff, ↓reduceIte, reduceCtorEq, goInt, bne_self_eq_false, Bool.false_bne, Bool.true_bne, Bool.not_true, Bool.not_false, decide_eq_true_eq, decide_eq_false_iff_not, Option.some.injEq, exists_eq_left', Nat.zero_add, beq_self_eq_true, cond_true, cond_false, eqb_t, eqb_f, Int.cast_ofNat_Int, eq_self, decide_true, decide_false, Int.reduceLT, Int.reduceLE, Int.reduceEq, Int.reduceNeg, Int.reduceAdd, Int.reduceSub, and_true, true_and, forall_const, Bool.true_eq_false, Bool.false_eq_true, false_implies, ne_eq, not_true_eq_false, not_false_eq_true, true_implies, Decidable.not_not, undef, List.size_toArray, List.length_nil, Nat.reducePow, Nat.reduceDiv, Nat.reduceMod, g0, hlt, hlt', ho, c0, calc_len, hk]
          exact hQ _ _ _ rfl ⟨⟨_, rfl⟩, f0⟩
        · by_cases ht : (200 : Int) < (tt.size : Int)
          · simp only [go_nil, go_inBlock, go_skip, go_seq, go_block, go_exit, go_ret, go_ops, go_opsr, go_cond, ex_nil, ex_code, ex_inLoop, ex_inBlock, goC_true, goC_false, goC_dec, goO_nil, goO_cons, goO_guard, goG_true, goG_false, goR_val, goR_skip, wantedX, X.put, X.look, look_hit, Arg.ev, keepOf, restrict, evs, evO, initEnv, xres, tup, xi_move, xi_pick, pick_bool, xi_bin, bin_add, bin_sub, bin_mul, bin_eql, bin_neq, bin_lss, bin_leq, bin_gtr, bin_geq, xi_load1, ld_ptr, xi_nilCheck, nilCheck_ptr, xi_fieldAddr, fieldAddr_ptr, xi_isNil, isNil_some, isNil_none, xi_extract, extract_tuple, xi_call, call_func, xi_len, len_slice, xi_un, un_not, xi_store, xi_box, box_int, box_ptr, box_slice, push_self, push_two, Mem.next_push, xi_calcB, calc_max, calc_min, goG_dec, goG_ndec, xi_indexAddr, indexAddr_at, indexAddr_zero, xi_slice, xi_append, xi_clear, isNil_slice, xi_conv, xi_alloc, box_agg, box_string, box_bool, xi_buildSlice, xparts_nil, xparts_cons, xi_build, xi_field, field_one, xi_makeFunc, makeFunc_nil, xi_loadA, go_opsd, goD_nil, goD_cons, goD_guard, goDG_true, goDG_false, goDV0, goDV1, goDV2, goDV3, goDV3s, again_nil, again_cons, againE_val, veq_int, veq_slice, veq_ptr, veq_bool, veq_string, veq_agg, veqL_nil, veqL_cons, veqC_int, veqC_bool, veqC_string, veqC_slice, veqC_ptr, List.filter_cons, List.filter_nil, Nat.testBit_eq_decide_div_mod_eq, asNat_nat, asNat_zero, asNat_one, noTup, cls, quiet, Option.isNone_some, Option.isNone_none, Bool.and_true, Bool.and_self, Bool.true_and, Nat.add_zero, Nat.mul_one, Nat.mul_zero, Nat.zero_mul, List.length_map, Option.bind_some, Option.map_some, List.getElem?_cons_zero, List.getElem?_cons_succ, Nat.reduceAdd, Nat.reduceEqDiff, ↓reduceIte, reduceCtorEq, goInt, bne_self_eq_false, Bool.false_bne, Bool.true_bne, Bool.not_true, Bool.not_false, decide_eq_true_eq, decide_eq_false_iff_not, Option.some.injEq, exists_eq_left', Nat.zero_add, beq_self_eq_true, cond_true, cond_false, eqb_t, eqb_f, Int.cast_ofNat_Int, eq_self, decide_true, decide_false, Int.reduceLT, Int.reduceLE, Int.reduceEq, Int.reduceNeg, Int.reduceAdd, Int.reduceSub, and_true, true_and, forall_const, Bool.true_eq_false, Bool.false_eq_true, false_implies, ne_eq, not_true_eq_false, not_false_eq_true, true_implies, Decidable.not_not, undef, List.size_toArray, List.length_nil, Nat.reducePow, Nat.reduceDiv, Nat.reduceMod, g0, hlt, hlt', ho, c0, c3, calc_len, hk, ht]
            exact hQ _ _ _ rfl ⟨⟨_, rfl⟩, f0⟩
          · simp only [go_nil, go_inBlock, go_skip, go_seq, go_block, go_exit, go_ret, go_ops, go_opsr, go_cond, ex_nil, ex_code, ex_inLoop, ex_inBlock, goC_true, goC_false, goC_dec, goO_nil, goO_cons, goO_guard, goG_true, goG_false, goR_val, goR_skip, wantedX, X.put, X.look, look_hit, Arg.ev, keepOf, restrict, evs, evO, initEnv, xres, tup, xi_move, xi_pick, pick_bool, xi_bin, bin_add, bin_sub, bin_mul, bin_eql, bin_neq, bin_lss, bin_leq, bin_gtr, bin_geq, xi_load1, ld_ptr, xi_nilCheck, nilCheck_ptr, xi_fieldAddr, fieldAddr_ptr, xi_isNil, isNil_some, isNil_none, xi_extract, extract_tuple, xi_call, call_func, xi_len, len_slice, xi_un, un_not, xi_store, xi_box, box_int, box_ptr, box_slice, push_self, push_two, Mem.next_push, xi_calcB, calc_max, calc_min, goG_dec, goG_ndec, xi_indexAddr, indexAddr_at, indexAddr_zero, xi_slice, xi_append, xi_clear, isNil_slice, xi_conv, xi_alloc, box_agg, box_string, box_bool, xi_buildSlice, xparts_nil, xparts_cons, xi_build, xi_field, field_one, xi_makeFunc, makeFunc_nil, xi_loadA, go_opsd, goD_nil, goD_cons, goD_guard, goDG_true, goDG_false, goDV0, goDV1, goDV2, goDV3, goDV3s, again_nil, again_cons, againE_val, veq_int, veq_slice, veq_ptr, veq_bool, veq_string, veq_agg, veqL_nil, veqL_cons, veqC_int, veqC_bool, veqC_string, veqC_slice, veqC_ptr, List.filter_cons, List.filter_nil, Nat.testBit_eq_decide_div_mod_eq, asNat_nat, asNat_zero, asNat_one, noTup, cls, quiet, Option.isNone_some, Option.isNone_none, Bool.and_true, Bool.and_self, Bool.true_and, Nat.add_zero, Nat.mul_one, Nat.mul_zero, Nat.zero_mul, List.length_map, Option.bind_some, Option.map_some, List.getElem?_cons_zero, List.getElem?_cons_succ, Nat.reduceAdd, Nat.reduceEqDiff, ↓reduceIte, reduceCtorEq, goInt, bne_self_eq_false, Bool.false_bne, Bool.true_bne, Bool.not_true, Bool.not_false, decide_eq_true_eq, decide_eq_false_iff_not, Option.some.injEq, exists_eq_left', Nat.zero_add, beq_self_eq_true, cond_true, cond_false, eqb_t, eqb_f, Int.cast_ofNat_Int, eq_self, decide_true, decide_false, Int.reduceLT, Int.reduceLE, Int.reduceEq, Int.reduceNeg, Int.reduceAdd, Int.reduceSub, and_true, true_and, forall_const, Bool.true_eq_false, Bool.false_eq_true, false_implies, ne_eq, not_true_eq_false, not_false_eq_true, true_implies, Decidable.not_not, undef, List.size_toArray, List.length_nil, Nat.reducePow, Nat.reduceDiv, Nat.reduceMod, g0, hlt, hlt', ho, c0, c3, calc_len, hk, ht, w1]
            exact hN _ _ (rows.length - (i + 1)) (by omega) ⟨rfl, i + 1, by omega, rfl, rfl⟩
      · have hlt' : ¬ (i : Int) < (rows.length : Int) := by omega
        simp only [go_nil, go_inBlock, go_skip, go_seq, go_block, go_exit, go_ret, go_ops, go_opsr, go_cond, ex_nil, ex_code, ex_inLoop, ex_inBlock, goC_true, goC_false, goC_dec, goO_nil, goO_cons, goO_guard, goG_true, goG_false, goR_val, goR_skip, wantedX, X.put, X.look, look_hit, Arg.ev, keepOf, restrict, evs, evO, initEnv, xres, tup, xi_move, xi_pick, pick_bool, xi_bin, bin_add, bin_sub, bin_mul, bin_eql, bin_neq, bin_lss, bin_leq, bin_gtr, bin_geq, xi_load1, ld_ptr, xi_nilCheck, nilCheck_ptr, xi_fieldAddr, fieldAddr_ptr, xi_isNil, isNil_some, isNil_none, xi_extract, extract_tuple, xi_call, call_func, xi_len, len_slice, xi_un, un_not, xi_store, xi_box, box_int, box_ptr, box_slice, push_self, push_two, Mem.next_push, xi_calcB, calc_max, calc_min, goG_dec, goG_ndec, xi_indexAddr, indexAddr_at, indexAddr_zero, xi_slice, xi_append, xi_clear, isNil_slice, xi_conv, xi_alloc, box_agg, box_string, box_bool, xi_buildSlice, xparts_nil, xparts_cons, xi_build, xi_field, field_one, xi_makeFunc, makeFunc_nil, xi_loadA, go_opsd, goD_nil, goD_cons, goD_guard, goDG_true, goDG_false, goDV0, goDV1, goDV2, goDV3, goDV3s, again_nil, again_cons, againE_val, veq_int, veq_slice, veq_ptr, veq_bool, veq_string, veq_agg, veqL_nil, veqL_cons, veqC_int, veqC_bool, veqC_string, veqC_slice, veqC_ptr, List.filter_cons, List.filter_nil, Nat.testBit_eq_decide_div_mod_eq, asNat_nat, asNat_zero, asNat_one, noTup, cls, quiet, Option.isNone_some, Option.isNone_none, Bool.and_true, Bool.and_self, Bool.true_and, Nat.add_zero, Nat.mul_one, Nat.mul_zero, Nat.zero_mul, List.length_map, Option.bind_some, Option.map_some, List.getElem?_cons_zero, List.getElem?_cons_succ, Nat.reduceAdd, Nat.reduceEqDiff, ↓reduceIte, reduceCtorEq, goInt, bne_self_eq_false, Bool.false_bne, Bool.true_bne, Bool.not_true, Bool.not_false, decide_eq_true_eq, decide_eq_false_iff_not, Option.some.injEq, exists_eq_left', Nat.zero_add, beq_self_eq_true, cond_true, cond_false, eqb_t, eqb_f, Int.cast_ofNat_Int, eq_self, decide_true, decide_false, Int.reduceLT, Int.reduceLE, Int.reduceEq, Int.reduceNeg, Int.reduceAdd, Int.reduceSub, and_true, true_and, forall_const, Bool.true_eq_false, Bool.false_eq_true, false_implies, ne_eq, not_true_eq_false, not_false_eq_true, true_implies, Decidable.not_not, undef, List.size_toArray, List.length_nil, Nat.reducePow, Nat.reduceDiv, Nat.reduceMod, g0, hlt']
        refine hB _ _ _ ?_
        simp only [go_nil, go_inBlock, go_skip, go_seq, go_block, go_exit, go_ret, go_ops, go_opsr, go_cond, ex_nil, ex_code, ex_inLoop, ex_inBlock, goC_true, goC_false, goC_dec, goO_nil, goO_cons, goO_guard, goG_true, goG_false, goR_val, goR_skip, wantedX, X.put, X.look, look_hit, Arg.ev, keepOf, restrict, evs, evO, initEnv, xres, tup, xi_move, xi_pick, pick_bool, xi_bin, bin_add, bin_sub, bin_mul, bin_eql, bin_neq, bin_lss, bin_leq, bin_gtr, bin_geq, xi_load1, ld_ptr, xi_nilCheck, nilCheck_ptr, xi_fieldAddr, fieldAddr_ptr, xi_isNil, isNil_some, isNil_none, xi_extract, extract_tuple, xi_call, call_func, xi_len, len_slice, xi_un, un_not, xi_store, xi_box, box_int, box_ptr, box_slice, push_self, push_two, Mem.next_push, xi_calcB, calc_max, calc_min, goG_dec, goG_ndec, xi_indexAddr, indexAddr_at, indexAddr_zero, xi_slice, xi_append, xi_clear, isNil_slice, xi_conv, xi_alloc, box_agg, box_string, box_bool, xi_buildSlice, xparts_nil, xparts_cons, xi_build, xi_field, field_one, xi_makeFunc, makeFunc_nil, xi_loadA, go_opsd, goD_nil, goD_cons, goD_guard, goDG_true, goDG_false, goDV0, goDV1, goDV2, goDV3, goDV3s, again_nil, again_cons, againE_val, veq_int, veq_slice, veq_ptr, veq_bool, veq_string, veq_agg, veqL_nil, veqL_cons, veqC_int, veqC_bool, veqC_string, veqC_slice, veqC_ptr, List.filter_cons, List.filter_nil, Nat.testBit_eq_decide_div_mod_eq, asNat_nat, asNat_zero, asNat_one, noTup, cls, quiet, Option.isNone_some, Option.isNone_none, Bool.and_true, Bool.and_self, Bool.true_and, Nat.add_zero, Nat.mul_one, Nat.mul_zero, Nat.zero_mul, List.length_map, Option.bind_some, Option.map_some, List.getElem?_cons_zero, List.getElem?_cons_succ, Nat.reduceAdd, Nat.reduceEqDiff, ↓reduceIte, reduceCtorEq, goInt, bne_self_eq_false, Bool.false_bne, Bool.true_bne, Bool.not_true, Bool.not_false, decide_eq_true_eq, decide_eq_false_iff_not, Option.some.injEq, exists_eq_left', Nat.zero_add, beq_self_eq_true, cond_true, cond_false, eqb_t, eqb_f, Int.cast_ofNat_Int, eq_self, decide_true, decide_false, Int.reduceLT, Int.reduceLE, Int.reduceEq, Int.reduceNeg, Int.reduceAdd, Int.reduceSub, and_true, true_and, forall_const, Bool.true_eq_false, Bool.false_eq_true, false_implies, ne_eq, not_true_eq_false, not_false_eq_true, true_implies, Decidable.not_not, undef, List.size_toArray, List.length_nil, Nat.reducePow, Nat.reduceDiv, Nat.reduceMod]
        exact hQ _ _ _ rfl ⟨⟨_, rfl⟩, f0⟩

theorem n24 (m : Mem) : Ca 24 [.pointer none] m (.tuple #[I 0, I 2]) m := ⟨100, by kernel_rfl⟩
theorem n25 (m : Mem) : Ca 25 [.pointer none] m (.tuple #[U 0, I 2, .bool false]) m := ⟨100, by kernel_rfl⟩
theorem n26 (m : Mem) (s a u : Int) (l : Value) : Ca 26 [.pointer none, I s, I a, l, U u] m (.tuple #[.pointer none, I 2]) m := ⟨100, by kernel_rfl⟩
theorem n27 (m : Mem) (s : Int) (l : List Value) : Ca 27 [.pointer none, I s, .agg ⟨l⟩] m (.tuple #[.pointer none, I 2]) (m.push { cells := l, rw := true, spare := none, kin := [] }) := ⟨100, by kernel_rfl⟩
theorem n28 (m : Mem) (s a : Int) : Ca 28 [.pointer none, I s, I a] m (.tuple #[.pointer none, I 2]) m := ⟨100, by kernel_rfl⟩
theorem n29 (m : Mem) : Ca 29 [.pointer none] m (.bool false) m := ⟨100, by kernel_rfl⟩
theorem n30 (m : Mem) : Ca 30 [.pointer none] m (I 0) m := ⟨100, by kernel_rfl⟩

theorem jobNil_run {b0 : Nat} {m : Mem} {p : Option Addr} {c pn pc : Nat} {pp : Option Addr} {rows : List (List Value)} {k s a b d1 d2 d3 d4 : Int} {d5 : Bool} (h : RdS b0 m 5 (.slice p rows.length c) rows) (hg : ∀ r ∈ rows, GoodW r) (hb : b0 ≤ m.next) (hl : rows.length ≤ 9223372036854775807) :
    Wc 4 [.agg ⟨rowA k s a b (.slice p rows.length c) d1 d2 d3 d4 d5 (.slice pp pn pc)⟩] m fun r _ => r = .bool true := by
  refine call_go (F := _) rfl rfl fun Q hQ => ?_
  obtain ⟨m0, hm0⟩ : ∃ m0, m.push { cells := rowA k s a b (.slice p rows.length c) d1 d2 d3 d4 d5 (.slice pp pn pc), rw := true, spare := none, kin := [] } = m0 := ⟨_, rfl⟩
  have g0 : m0.get m.next = some { cells := rowA k s a b (.slice p rows.length c) d1 d2 d3 d4 d5 (.slice pp pn pc), rw := true, spare := none, kin := [] } := by rw [← hm0, push_self]
  have f0 : Nx m m0 := by rw [← hm0]; exact .push
  have n0 : m0.next = m.next + 1 := by rw [← hm0]; simp
  have lA : ldA m0 11 (.pointer (some ⟨m.next, 0, none⟩)) = some (.val (.agg ⟨rowA k s a b (.slice p rows.length c) d1 d2 d3 d4 d5 (.slice pp pn pc)⟩) m0) := by simp [ldA, xload, g0]
  have key : ∃ t m1, Ca 23 [.agg ⟨rowA k s a b (.slice p rows.length c) d1 d2 d3 d4 d5 (.slice pp pn pc)⟩] m0 (.bool t) m1 ∧ Nx m0 m1 := by
    by_cases hbig : rows.length ≤ 4611686018427387903
    · obtain ⟨r, m1, h1, ⟨t, rfl⟩, h3⟩ := far_spec (k := k) (s := s) (a := a) (b := b) (d1 := d1) (d2 := d2) (d3 := d3) (d4 := d4) (d5 := d5) (pp := pp) (pn := pn) (pc := pc) (h.fr f0 hb (fun _ h => h.elim)) hg (Nat.le_trans hb f0.next) hbig
      exact ⟨t, m1, h1, h3⟩
    · refine ⟨true, m0.push { cells := rowA k s a b (.slice p rows.length c) d1 d2 d3 d4 d5 (.slice pp pn pc), rw := true, spare := none, kin := [] }, callX_of (call_go (F := _) rfl rfl fun Q hQ => ?_), .push⟩
      have h30 : (30 : Int) < (rows.length : Int) := by omega
      simp only [go_nil, go_inBlock, go_skip, go_seq, go_block, go_exit, go_ret, go_ops, go_opsr, go_cond, ex_nil, ex_code, ex_inLoop, ex_inBlock, goC_true, goC_false, goC_dec, goO_nil, goO_cons, goO_guard, goG_true, goG_false, goR_val, goR_skip, wantedX, X.put, X.look, look_hit, Arg.ev, keepOf, restrict, evs, evO, initEnv, xres, tup, xi_move, xi_pick, pick_bool, xi_bin, bin_add, bin_sub, bin_mul, bin_eql, bin_neq, bin_lss, bin_leq, bin_gtr, bin_geq, xi_load1, ld_ptr, xi_nilCheck, nilCheck_ptr, xi_fieldAddr, fieldAddr_ptr, xi_isNil, isNil_some, isNil_none, xi_extract, extract_tuple, xi_call, call_func, xi_len, len_slice, xi_un, un_not, xi_store, xi_box, box_int, box_ptr, box_slice, push_self, push_two, Mem.next_push, xi_calcB, calc_max, calc_min, goG_dec, goG_ndec, xi_indexAddr, indexAddr_at, indexAddr_zero, xi_slice, xi_append, xi_clear, isNil_slice, xi_conv, xi_alloc, box_agg, box_string, box_bool, xi_buildSlice, xparts_nil, xparts_cons, xi_build, xi_field, field_one, xi_makeFunc, makeFunc_nil, xi_loadA, go_opsd, goD_nil, goD_cons, goD_guard, goDG_true, goDG_false, goDV0, goDV1, goDV2, goDV3, goDV3s, again_nil, again_cons, againE_val, veq_int, veq_slice, veq_ptr, veq_bool, veq_string, veq_agg, veqL_nil, veqL_cons, veqC_int, veqC_bool, veqC_string, veqC_slice, veqC_ptr, List.filter_cons, List.filter_nil, Nat.testBit_eq_decide_div_mod_eq, asNat_nat, asNat_zero, asNat_one, noTup, cls, quiet, Option.isNone_some, Option.isNone_none, Bool.and_true, Bool.and_self, Bool.true_and, Nat.add_zero, Nat.mul_one, Nat.mul_zero, Nat.zero_mul, List.length_map, Option.bind_some, Option.map_some, List.getElem?_cons_zero, List.getElem?_cons_succ, Nat.reduceAdd, Nat.reduceEqDiff, ↓reduceIte, reduceCtorEq, goInt, bne_self_eq_false, Bool.false_bne, Bool.true_bne, Bool.not_true, Bool.not_false, decide_eq_true_eq, decide_eq_false_iff_not, Option.some.injEq, exists_eq_left', Nat.zero_add, beq_self_eq_true, cond_true, cond_false, eqb_t, eqb_f, Int.cast_ofNat_Int, eq_self, decide_true, decide_false, Int.reduceLT, Int.reduceLE, Int.reduceEq, Int.reduceNeg, Int.reduceAdd, Int.reduceSub, and_true, true_and, forall_const, Bool.true_eq_false, Bool.false_eq_true, false_implies, ne_eq, not_true_eq_false, not_false_eq_true, true_implies, Decidable.not_not, undef, List.size_toArray, List.length_nil, Nat.reducePow, Nat.reduceDiv, Nat.reduceMod, h30]
      exact hQ _ _ _ rfl ⟨rfl, rfl⟩
  obtain ⟨t, m1, k1, k2⟩ := key
  have g1 := k2.get (by omega) (fun h => h) g0
  cases t with
  | true =>
    simp only [go_nil, go_inBlock, go_skip, go_seq, go_block, go_exit, go_ret, go_ops, go_opsr, go_cond, ex_nil, ex_code, ex_inLoop, ex_inBlock, goC_true, goC_false, goC_dec, goO_nil, goO_cons, goO_guard, goG_true, goG_false, goR_val, goR_skip, wantedX, X.put, X.look, look_hit, Arg.ev, keepOf, restrict, evs, evO, initEnv, xres, tup, xi_move, xi_pick, pick_bool, xi_bin, bin_add, bin_sub, bin_mul, bin_eql, bin_neq, bin_lss, bin_leq, bin_gtr, bin_geq, xi_load1, ld_ptr, xi_nilCheck, nilCheck_ptr, xi_fieldAddr, fieldAddr_ptr, xi_isNil, isNil_some, isNil_none, xi_extract, extract_tuple, xi_call, call_func, xi_len, len_slice, xi_un, un_not, xi_store, xi_box, box_int, box_ptr, box_slice, push_self, push_two, Mem.next_push, xi_calcB, calc_max, calc_min, goG_dec, goG_ndec, xi_indexAddr, indexAddr_at, indexAddr_zero, xi_slice, xi_append, xi_clear, isNil_slice, xi_conv, xi_alloc, box_agg, box_string, box_bool, xi_buildSlice, xparts_nil, xparts_cons, xi_build, xi_field, field_one, xi_makeFunc, makeFunc_nil, xi_loadA, go_opsd, goD_nil, goD_cons, goD_guard, goDG_true, goDG_false, goDV0, goDV1, goDV2, goDV3, goDV3s, again_nil, again_cons, againE_val, veq_int, veq_slice, veq_ptr, veq_bool, veq_string, veq_agg, veqL_nil, veqL_cons, veqC_int, veqC_bool, veqC_string, veqC_slice, veqC_ptr, List.filter_cons, List.filter_nil, Nat.testBit_eq_decide_div_mod_eq, asNat_nat, asNat_zero, asNat_one, noTup, cls, quiet, Option.isNone_some, Option.isNone_none, Bool.and_true, Bool.and_self, Bool.true_and, Nat.add_zero, Nat.mul_one, Nat.mul_zero, Nat.zero_mul, List.length_map, Option.bind_some, Option.map_some, List.getElem?_cons_zero, List.getElem?_cons_succ, Nat.reduceAdd, Nat.reduceEqDiff, ↓reduceIte, reduceCtorEq, goInt, bne_self_eq_false, Bool.false_bne, Bool.true_bne, Bool.not_true, Bool.not_false, decide_eq_true_eq, decide_eq_false_iff_not, Option.some.injEq, exists_eq_left', Nat.zero_add, beq_self_eq_true, cond_true, cond_false, eqb_t, eqb_f, Int.cast_ofNat_Int, eq_self, decide_true, decide_false, Int.reduceLT, Int.reduceLE, Int.reduceEq, Int.reduceNeg, Int.reduceAdd, Int.reduceSub, and_true, true_and, forall_const, Bool.true_eq_false, Bool.false_eq_true, false_implies, ne_eq, not_true_eq_false, not_false_eq_true, true_implies, Decidable.not_not, undef, List.size_toArray, List.length_nil, Nat.reducePow, Nat.reduceDiv, Nat.reduceMod, goR_call (awake_call _), hm0, lA, goR_call k1]
    exact hQ _ _ _ rfl rfl
  | false =>
    have lD : ldA m1 5 (.pointer (some ⟨m.next, 5, none⟩)) = some (.val (.agg ⟨[I d1, I d2, I d3, U d4, .bool d5]⟩) m1) := by simp [ldA, xload, g1]
    have g2 : ∀ o : XObj, (m1.push o).get m.next = some { cells := rowA k s a b (.slice p rows.length c) d1 d2 d3 d4 d5 (.slice pp pn pc), rw := true, spare := none, kin := [] } := fun o => by
      have := k2.next
      exact (Fm.push (S := fun _ => False)).get (by omega) (fun h => h) g1
    simp only [go_nil, go_inBlock, go_skip, go_seq, go_block, go_exit, go_ret, go_ops, go_opsr, go_cond, ex_nil, ex_code, ex_inLoop, ex_inBlock, goC_true, goC_false, goC_dec, goO_nil, goO_cons, goO_guard, goG_true, goG_false, goR_val, goR_skip, wantedX, X.put, X.look, look_hit, Arg.ev, keepOf, restrict, evs, evO, initEnv, xres, tup, xi_move, xi_pick, pick_bool, xi_bin, bin_add, bin_sub, bin_mul, bin_eql, bin_neq, bin_lss, bin_leq, bin_gtr, bin_geq, xi_load1, ld_ptr, xi_nilCheck, nilCheck_ptr, xi_fieldAddr, fieldAddr_ptr, xi_isNil, isNil_some, isNil_none, xi_extract, extract_tuple, xi_call, call_func, xi_len, len_slice, xi_un, un_not, xi_store, xi_box, box_int, box_ptr, box_slice, push_self, push_two, Mem.next_push, xi_calcB, calc_max, calc_min, goG_dec, goG_ndec, xi_indexAddr, indexAddr_at, indexAddr_zero, xi_slice, xi_append, xi_clear, isNil_slice, xi_conv, xi_alloc, box_agg, box_string, box_bool, xi_buildSlice, xparts_nil, xparts_cons, xi_build, xi_field, field_one, xi_makeFunc, makeFunc_nil, xi_loadA, go_opsd, goD_nil, goD_cons, goD_guard, goDG_true, goDG_false, goDV0, goDV1, goDV2, goDV3, goDV3s, again_nil, again_cons, againE_val, veq_int, veq_slice, veq_ptr, veq_bool, veq_string, veq_agg, veqL_nil, veqL_cons, veqC_int, veqC_bool, veqC_string, veqC_slice, veqC_ptr, List.filter_cons, List.filter_nil, Nat.testBit_eq_decide_div_mod_eq, asNat_nat, asNat_zero, asNat_one, noTup, cls, quiet, Option.isNone_some, Option.isNone_none, Bool.and_true, Bool.and_self, Bool.true_and, Nat.add_zero, Nat.mul_one, Nat.mul_zero, Nat.zero_mul, List.length_map, Option.bind_some, Option.map_some, List.getElem?_cons_zero, List.getElem?_cons_succ, Nat.reduceAdd, Nat.reduceEqDiff, ↓reduceIte, reduceCtorEq, goInt, bne_self_eq_false, Bool.false_bne, Bool.true_bne, Bool.not_true, Bool.not_false, decide_eq_true_eq, decide_eq_false_iff_not, Option.some.injEq, exists_eq_left', Nat.zero_add, beq_self_eq_true, cond_true, cond_false, eqb_t, eqb_f, Int.cast_ofNat_Int, eq_self, decide_true, decide_false, Int.reduceLT, Int.reduceLE, Int.reduceEq, Int.reduceNeg, Int.reduceAdd, Int.reduceSub, and_true, true_and, forall_const, Bool.true_eq_false, Bool.false_eq_true, false_implies, ne_eq, not_true_eq_false, not_false_eq_true, true_implies, Decidable.not_not, undef, List.size_toArray, List.length_nil, Nat.reducePow, Nat.reduceDiv, Nat.reduceMod, goR_call (awake_call _), hm0, lA, goR_call k1, goR_call (n24 _), goR_call (n25 _), g1, goR_call (n26 _ _ _ _ _), lD, goR_call (n27 _ _ _), g2, goR_call (n28 _ _ _), goR_call (n29 _), goR_call (n30 _)]
    exact hQ _ _ _ rfl rfl

theorem wf_write {H : Type} (d : DataW H) (h : wfD Tryz.prog d 97) : ∃ r, GoodW r ∧ ∀ m, absD Tryz.prog d 97 m = (r, m) := by
  obtain ⟨xs, rfl, h⟩ := wf_struct Tryz.underlying97 h
  change wfEach Tryz.prog xs [9, 4, 95] at h
  obtain ⟨a0, r, rfl, k0, h⟩ := wf_more h
  obtain ⟨a1, r, rfl, k1, h⟩ := wf_more h
  obtain ⟨a2, rfl, k2⟩ := wf_one h
  obtain ⟨k, rfl, _⟩ := wf_string Tryz.underlying9 k0
  obtain ⟨g, rfl⟩ := wf_bool Tryz.underlying4 k1
  obtain ⟨ys, rfl, k2⟩ := wf_struct Tryz.underlying95 k2
  change wfEach Tryz.prog ys [4, 9, 40] at k2
  obtain ⟨b0, r, rfl, j0, k2⟩ := wf_more k2
  obtain ⟨b1, r, rfl, j1, k2⟩ := wf_more k2
  obtain ⟨b2, rfl, j2⟩ := wf_one k2
  obtain ⟨n, rfl⟩ := wf_bool Tryz.underlying4 j0
  obtain ⟨t, rfl, _⟩ := wf_string Tryz.underlying9 j1
  obtain ⟨u, rfl, _⟩ := wf_int Tryz.underlying40 j2
  exact ⟨_, ⟨⟨k.toArray⟩, ⟨t.toArray⟩, .bool g, .bool n, .int .u64 u, rfl⟩, fun m => by kernel_rfl⟩
theorem wf_pick {H : Type} (d : DataW H) (h : wfD Tryz.prog d 91) : ∃ r : List Value, r.length = 2 ∧ ∀ m, absD Tryz.prog d 91 m = (r, m) := by
  obtain ⟨xs, rfl, h⟩ := wf_struct Tryz.underlying91 h
  change wfEach Tryz.prog xs [3, 3] at h
  obtain ⟨a0, r, rfl, k0, h⟩ := wf_more h
  obtain ⟨a1, rfl, k1⟩ := wf_one h
  obtain ⟨k, rfl, _⟩ := wf_int Tryz.underlying3 k0
  obtain ⟨g, rfl, _⟩ := wf_int Tryz.underlying3 k1
  exact ⟨[I k, I g], rfl, fun m => by kernel_rfl⟩

theorem jobNil_args {H : Type} (ds : List (DataW H)) (h : wfEach Tryz.prog ds Tryz.f4.params.toList) : ∃ (k s a b d1 d2 d3 d4 : Int) (d5 : Bool) (L Pk : DataW H),
    ds = [.agg [.lit (.int .i64 k), .lit (.int .i64 s), .lit (.int .i64 a), .lit (.int .u8 b), L, .agg [.lit (.int .i64 d1), .lit (.int .i64 d2), .lit (.int .i64 d3), .lit (.int .u64 d4), .lit (.bool d5)], Pk]] ∧ wfD Tryz.prog L 52 ∧ wfD Tryz.prog Pk 55 := by
  rw [Tryz.params4] at h
  obtain ⟨d0, rfl, h0⟩ := wf_one h
  obtain ⟨xs, rfl, h0⟩ := wf_struct Tryz.underlying57 h0
  change wfEach Tryz.prog xs [3, 3, 3, 5, 52, 54, 55] at h0
  obtain ⟨a0, r, rfl, k0, h0⟩ := wf_more h0
  obtain ⟨a1, r, rfl, k1, h0⟩ := wf_more h0
  obtain ⟨a2, r, rfl, k2, h0⟩ := wf_more h0
  obtain ⟨a3, r, rfl, k3, h0⟩ := wf_more h0
  obtain ⟨a4, r, rfl, k4, h0⟩ := wf_more h0
  obtain ⟨a5, r, rfl, k5, h0⟩ := wf_more h0
  obtain ⟨a6, rfl, k6⟩ := wf_one h0
  obtain ⟨k, rfl, _⟩ := wf_int Tryz.underlying3 k0
  obtain ⟨s, rfl, _⟩ := wf_int Tryz.underlying3 k1
  obtain ⟨a, rfl, _⟩ := wf_int Tryz.underlying3 k2
  obtain ⟨b, rfl, _⟩ := wf_int Tryz.underlying5 k3
  obtain ⟨ys, rfl, k5⟩ := wf_struct Tryz.underlying54 k5
  change wfEach Tryz.prog ys [3, 3, 3, 40, 4] at k5
  obtain ⟨b0, r, rfl, j0, k5⟩ := wf_more k5
  obtain ⟨b1, r, rfl, j1, k5⟩ := wf_more k5
  obtain ⟨b2, r, rfl, j2, k5⟩ := wf_more k5
  obtain ⟨b3, r, rfl, j3, k5⟩ := wf_more k5
  obtain ⟨b4, rfl, j4⟩ := wf_one k5
  obtain ⟨d1, rfl, _⟩ := wf_int Tryz.underlying3 j0
  obtain ⟨d2, rfl, _⟩ := wf_int Tryz.underlying3 j1
  obtain ⟨d3, rfl, _⟩ := wf_int Tryz.underlying3 j2
  obtain ⟨d4, rfl, _⟩ := wf_int Tryz.underlying40 j3
  obtain ⟨d5, rfl⟩ := wf_bool Tryz.underlying4 j4
  exact ⟨k, s, a, b, d1, d2, d3, d4, d5, a4, a6, rfl, k4, k6⟩

theorem jobNil_lifted (os : Os) (started : os.Started) (H : Type) (enc : TypeId × Value → H) :
    ReturnsInHanded {} Tryz.checked os 4 .any (fun w args => (Rows.jobNilSpec.pre enc Tryz.prog Tryz.f4 Rows.jobNilRow.domain false w args ∧ laidMetH Tryz.prog Rows.jobNilRow.laid w) ∧ sizedMet enc Tryz.prog Tryz.f4 (OpenSpec.ofChange Rows.jobNilSpec) false w args)
      (Rows.jobNilSpec.post enc Tryz.prog Tryz.f4 false true false false) := by
  refine returnsInHanded_of_change_and (C := Tryz.checked) (X := fun w _ => laidMetH Tryz.prog Rows.jobNilRow.laid w) (fun _ _ _ hh h => h.of_heap hh) own started (by kernel_rfl) Tryz.func4
    (ChangeSpec.witness_shaped (enc := enc) (C := Tryz.checked) (os := os) (X := fun w _ => laidMetH Tryz.prog Rows.jobNilRow.laid w) false (World.laidAll Tryz.prog os Rows.jobNilRow.laid) #[.agg #[I 0, I 0, I 0, .int .u8 0, .slice none 0 0, I 0, I 0, I 0, U 0, .bool false, .slice none 0 0]] 8 (World.laidAll_os _ _ _)
      (World.shaped_of_ZipB (by kernel_rfl) (by kernel_rfl)) (by kernel_rfl) (by kernel_rfl) (by kernel_rfl)
      (by rw [MakeChecks.laidMetH_plain _ _ _ (by kernel_rfl)]; exact laidMet_laidAll _ (by kernel_rfl) (by kernel_rfl))) ?_
  intro W base args ds gs before hval0 hW hcnd _ _ _
  refine law_contract mixed tabK_is (f := 4) rfl (k := 10) (by rw [← List.all_eq_true]; kernel_rfl) (fun t ht => ?_) laid rfl (by kernel_rfl) rfl ?_ ?_ H enc W base args ds gs before hval0 hW
  · have : (Tryz.f4.params.toList.all fun t => Tryz.prog.readableRec t && decide (t < Tryz.prog.types.size)) = true := by kernel_rfl
    have := List.all_eq_true.1 this t ht
    simp only [Bool.and_eq_true, decide_eq_true_eq] at this
    exact this
  · intro H ds hd
    obtain ⟨_, _, _, _, _, _, _, _, _, _, _, rfl, _⟩ := jobNil_args ds hd
    rfl
  · intro H ds hd
    obtain ⟨k, s, a, b, d1, d2, d3, d4, d5, L, Pk, rfl, hL, hP⟩ := jobNil_args ds hd
    have ha : absArgs Tryz.prog [(.agg [.lit (.int .i64 k), .lit (.int .i64 s), .lit (.int .i64 a), .lit (.int .u8 b), L, .agg [.lit (.int .i64 d1), .lit (.int .i64 d2), .lit (.int .i64 d3), .lit (.int .u64 d4), .lit (.bool d5)], Pk] : DataW H)] Tryz.f4.params.toList Mem.empty
        = ([Value.agg (([I k, I s, I a, .int .u8 b] ++ ((absD Tryz.prog L 52 Mem.empty).1 ++ ([I d1, I d2, I d3, U d4, .bool d5] ++ ((absD Tryz.prog Pk 55 (absD Tryz.prog L 52 Mem.empty).2).1 ++ [])))).toArray)], (absD Tryz.prog Pk 55 (absD Tryz.prog L 52 Mem.empty).2).2) := by kernel_rfl
    obtain ⟨rows, v, h1, h2, h3, h4, h5, _⟩ := abs_slice_rows (m := Mem.empty) (size := 5) (Good := GoodW) (by omega) (fun r hr => by obtain ⟨_, _, _, _, _, rfl⟩ := hr; rfl) (fun d hd => wf_write d hd) Tryz.underlying52 hL
    obtain ⟨rows', v', k1, k2, k3, k4, k5, _⟩ := abs_slice_rows (m := (absD Tryz.prog L 52 Mem.empty).2) (size := 2) (Good := fun r => r.length = 2) (by omega) (fun r hr => hr) (fun d hd => wf_pick d hd) Tryz.underlying55 hP
    rw [ha, h1, k1]
    obtain ⟨p, c, rfl⟩ := h5.slice
    obtain ⟨pp, pc, rfl⟩ := k5.slice
    obtain ⟨v, m', ⟨n, hn⟩, rfl⟩ := jobNil_run (k := k) (s := s) (a := a) (b := b) (d1 := d1) (d2 := d2) (d3 := d3) (d4 := d4) (d5 := d5) (pp := pp) (pn := rows'.length) (pc := pc) (h5.fr k4 (Nat.le_refl _) (fun _ h => h.elim)) h2 k4.next h3
    exact ⟨n, m', hn⟩

theorem jobNil_holds : Rows.JobNilSaid :=
  OpenClaim.holds_of_wide 4 Tryz.f4 rfl rfl rfl rfl rfl rfl rfl ⟨rfl, rfl, rfl, rfl, rfl⟩ rfl rfl rfl rfl rfl (by kernel_rfl) Tryz.func4 (by kernel_rfl)
    (of_decide_eq_true (by kernel_rfl)) (by unfold Func.isWrapper; first | (rw [if_pos (by decide +kernel)]; kernel_rfl) | (rw [if_neg (by decide +kernel)]; exact ⟨rfl, rfl⟩))
    (fun os started H enc _ => jobNil_lifted os started H enc)

theorem jobNil_card : Rows.JobNilCardSaid :=
  Claim7.holds_tied_plain_at .later [] [.data, .pinned] true (true, "a225c24a6074297bf0a0c600b938b345ffcb8445f80663ad39f3e4b08a6b3e7c") true jobNil_holds (fun _ h => by cases h) (by kernel_rfl) (fun _ h => by cases h) jobNil_row_tie rfl ⟨rfl, rfl⟩ (by kernel_rfl) rfl
    (fun f fn hf hfn => by
      obtain rfl : f = 4 := Option.some.inj ((show Tryz.prog.funcNamed "cloisonne/cloisonnelaw19.JobNil" = some 4 by kernel_rfl).symm.trans hf) |>.symm
      obtain rfl : fn = Tryz.f4 := (Option.some.inj (Tryz.func4.symm.trans hfn)).symm
      exact ⟨by kernel_rfl, fun j t ht => by
        rw [Tryz.params4] at ht
        have hm : t ∈ [57] := by simpa using Array.mem_of_getElem? ht
        have hall : ([57].all fun u => !Tryz.prog.wantsStandIn u) = true := by kernel_rfl
        exact (show Tryz.prog.wantsStandIn t = false by simpa using List.all_eq_true.1 hall t hm)⟩)
    (by kernel_rfl)

end Go.Proofs.YtepadpjpmmaodaaGreatDoor
