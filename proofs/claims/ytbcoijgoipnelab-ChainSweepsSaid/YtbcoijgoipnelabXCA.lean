/-
  Own work. What the chain's functions come to: the document's At, and what all say.
-/
import Derived.Test.YtbcoijgoipnelabXC9
namespace Go.Proofs.Ytbcoijgoipnelab
open Go X
set_option maxRecDepth 100000
set_option linter.unusedVariables false
set_option linter.unusedSimpArgs false

theorem eqb4 {m : Mem} {a b : Bool} : binE Try.prog .eql 4 (.bool a) (.bool b) m = some (.val (.bool (a == b)) m) := by cases a <;> cases b <;> kernel_rfl
theorem neb4 {m : Mem} {a b : Bool} : binE Try.prog .neq 4 (.bool a) (.bool b) m = some (.val (.bool (a != b)) m) := by cases a <;> cases b <;> kernel_rfl

def rlast (s : Int) (vs : List Ver) : Option Ver := (vs.filter fun x => decide (x.seq ≤ s)).getLast?
def okOf (o : Option Ver) : Bool := match o with
  | some x => !x.gone
  | none => false
def ratV (vs : List Ver) (s : Int) : Option Ver := if okOf (rlast s vs) = true then rlast s vs else none

theorem rlast_snoc {s : Int} {vs : List Ver} {x : Ver} : rlast s (vs ++ [x]) = if x.seq ≤ s then some x else rlast s vs := by
  unfold rlast
  rw [List.filter_append]
  by_cases h : x.seq ≤ s
  · rw [if_pos h]; simp [h]
  · rw [if_neg h]; simp [h]

theorem rat_spec {b : Nat} {m : Mem} {v : Value} {vs : List Ver} {s : Int} (h : RdV b m v vs) (hl : vs.length ≤ 1000) (hb : b ≤ m.next) : ∃ m', Ca 19 [v, I s] m (tupV (ratV vs s)) m' ∧ Nx m m' := by
  have key : Wc 19 [v, I s] m fun r m' => r = tupV (ratV vs s) ∧ Nx m m' := by
    refine call_go (F := _) rfl rfl fun Q hQ => ?_
    obtain ⟨m1, hm1⟩ : ∃ m1, m.push { cells := zv.row, rw := true, spare := none, kin := [] } = m1 := ⟨_, rfl⟩
    have hz : m.push { cells := [I 0, .bool false, .bool false, .string .empty, U 0], rw := true, spare := none, kin := [] } = m1 := hm1
    have g1 : m1.get m.next = some { cells := zv.row, rw := true, spare := none, kin := [] } := by rw [← hm1, push_self]
    have f1 : Nx m m1 := hm1 ▸ .push
    have n1 : m1.next = m.next + 1 := by rw [← hm1]; simp
    obtain ⟨m2, s1, s2, s3, s4⟩ := new_store (m := m1) (z := [I 0, .bool false, .bool false, .string .empty, U 0]) (row := zv.row) (n := 5) rfl rfl (by omega)
    have f2 : Nx m m2 := f1.comp s3 fun _ _ h => h
    have g2 := s3.get (by omega) (fun h => h) g1
    obtain ⟨p, c, hv⟩ := rdv_slice h
    subst hv
    simp only [go_nil, go_inBlock, go_skip, go_seq, go_block, go_exit, go_ret, go_ops, go_opsr, go_cond, ex_nil, ex_code, ex_inLoop, ex_inBlock, goC_true, goC_false, goC_dec, goO_nil, goO_cons, goO_guard, goG_true, goG_false, goR_val, goR_skip, wantedX, X.put, X.look, look_hit, Arg.ev, keepOf, restrict, evs, evO, initEnv, xres, tup, xi_move, xi_pick, pick_bool, xi_bin, bin_add, bin_sub, bin_mul, bin_eql, bin_neq, bin_lss, bin_leq, bin_gtr, bin_geq, xi_load1, ld_ptr, xi_nilCheck, nilCheck_ptr, xi_fieldAddr, fieldAddr_ptr, xi_isNil, isNil_some, isNil_none, xi_extract, extract_tuple, xi_call, call_func, xi_len, len_slice, xi_un, un_not, xi_store, xi_box, box_int, box_ptr, box_slice, push_self, push_two, Mem.next_push, xi_calcB, calc_max, calc_min, goG_dec, goG_ndec, xi_indexAddr, indexAddr_at, xi_slice, xi_append, xi_clear, isNil_slice, xi_conv, xi_alloc, box_agg, box_string, box_bool, xi_buildSlice, xparts_nil, xparts_cons, xi_build, xi_field, field_one, xi_makeFunc, makeFunc_nil, xi_loadA, go_opsd, goD_nil, goD_cons, goD_guard, goDG_true, goDG_false, goDV0, goDV1, goDV2, goDV3, goDV3s, again_nil, again_cons, againE_val, veq_int, veq_slice, veq_ptr, veq_bool, veq_string, veq_agg, veqL_nil, veqL_cons, veqC_int, veqC_bool, veqC_string, veqC_slice, veqC_ptr, List.filter_cons, List.filter_nil, Nat.testBit_eq_decide_div_mod_eq, asNat_nat, asNat_zero, asNat_one, noTup, cls, quiet, Option.isNone_some, Option.isNone_none, Bool.and_true, Bool.and_self, Bool.true_and, Nat.add_zero, Nat.mul_one, Nat.mul_zero, Nat.zero_mul, List.length_map, Option.bind_some, Option.map_some, List.getElem?_cons_zero, List.getElem?_cons_succ, Nat.reduceAdd, Nat.reduceEqDiff, reduceIte, reduceCtorEq, goInt, bne_self_eq_false, Bool.false_bne, Bool.true_bne, Bool.not_true, Bool.not_false, decide_eq_true_eq, decide_eq_false_iff_not, Option.some.injEq, exists_eq_left', Nat.zero_add, beq_self_eq_true, cond_true, cond_false, eqb_t, eqb_f, Int.cast_ofNat_Int, eq_self, decide_true, decide_false, Int.reduceLT, Int.reduceLE, Int.reduceEq, Int.reduceNeg, Int.reduceAdd, Int.reduceSub, and_true, true_and, forall_const, Bool.true_eq_false, Bool.false_eq_true, false_implies, ne_eq, not_true_eq_false, not_false_eq_true, true_implies, Decidable.not_not, undef, List.size_toArray, List.length_nil, Nat.reducePow, Nat.reduceDiv, Nat.reduceMod, hz, build33, s1]
    refine loop_go (fun j e m' => Nx m m' ∧ ∃ i : Nat, i ≤ vs.length ∧ j = vs.length - i ∧ m1.next < m'.next ∧ m'.get m.next = some { cells := zv.row, rw := true, spare := none, kin := [] } ∧ m'.get m1.next = some { cells := ((rlast s (vs.take i)).getD zv).row, rw := true, spare := none, kin := [] } ∧
      e = [(0, .slice p vs.length c), (1, I s), (4, .pointer (some ⟨m.next, 0, none⟩)), (6, .pointer (some ⟨m1.next, 0, none⟩)), (7, .bool (okOf (rlast s (vs.take i)))), (8, I i)]) vs.length ⟨f2, 0, by omega, rfl, by omega, g2, by rw [s2]; rfl, rfl⟩ ?_
    rintro j e m3 N' B' hN hB ⟨hnx, i, hi, rfl, hlt3, hg4, hg6, rfl⟩
    have hr := h.fr hnx hb (fun _ h => h.elim)
    by_cases hlt : i < vs.length
    · have hlt' : (i : Int) < (vs.length : Int) := by omega
      obtain ⟨x, hx⟩ : ∃ x, vs[i]? = some x := ⟨_, List.getElem?_eq_getElem hlt⟩
      obtain ⟨a, c', hv, ⟨o, hg, c0, c1, c2, c3, c4⟩, l5, l3⟩ := rdv_at hr hx
      cases hv
      have w1 : IntKind.i64.wrap ((i : Int) + 1) = ((i + 1 : Nat) : Int) := by rw [wrap_i64 (by omega) (by omega)]; omega
      have hts : vs.take (i + 1) = vs.take i ++ [x] := by rw [List.take_add_one, hx]; rfl
      by_cases hxs : x.seq ≤ s
      · have e : rlast s (vs.take (i + 1)) = some x := by rw [hts, rlast_snoc, if_pos hxs]
        obtain ⟨m4, t1, t2, t3, t4⟩ := row_store (n := 5) (row := x.row) hg6 rfl rfl rfl rfl (by omega)
        have hn3 := hnx.next
        have g4 := t3.get (by omega) (fun h => by omega) hg4
        simp only [go_nil, go_inBlock, go_skip, go_seq, go_block, go_exit, go_ret, go_ops, go_opsr, go_cond, ex_nil, ex_code, ex_inLoop, ex_inBlock, goC_true, goC_false, goC_dec, goO_nil, goO_cons, goO_guard, goG_true, goG_false, goR_val, goR_skip, wantedX, X.put, X.look, look_hit, Arg.ev, keepOf, restrict, evs, evO, initEnv, xres, tup, xi_move, xi_pick, pick_bool, xi_bin, bin_add, bin_sub, bin_mul, bin_eql, bin_neq, bin_lss, bin_leq, bin_gtr, bin_geq, xi_load1, ld_ptr, xi_nilCheck, nilCheck_ptr, xi_fieldAddr, fieldAddr_ptr, xi_isNil, isNil_some, isNil_none, xi_extract, extract_tuple, xi_call, call_func, xi_len, len_slice, xi_un, un_not, xi_store, xi_box, box_int, box_ptr, box_slice, push_self, push_two, Mem.next_push, xi_calcB, calc_max, calc_min, goG_dec, goG_ndec, xi_indexAddr, indexAddr_at, xi_slice, xi_append, xi_clear, isNil_slice, xi_conv, xi_alloc, box_agg, box_string, box_bool, xi_buildSlice, xparts_nil, xparts_cons, xi_build, xi_field, field_one, xi_makeFunc, makeFunc_nil, xi_loadA, go_opsd, goD_nil, goD_cons, goD_guard, goDG_true, goDG_false, goDV0, goDV1, goDV2, goDV3, goDV3s, again_nil, again_cons, againE_val, veq_int, veq_slice, veq_ptr, veq_bool, veq_string, veq_agg, veqL_nil, veqL_cons, veqC_int, veqC_bool, veqC_string, veqC_slice, veqC_ptr, List.filter_cons, List.filter_nil, Nat.testBit_eq_decide_div_mod_eq, asNat_nat, asNat_zero, asNat_one, noTup, cls, quiet, Option.isNone_some, Option.isNone_none, Bool.and_true, Bool.and_self, Bool.true_and, Nat.add_zero, Nat.mul_one, Nat.mul_zero, Nat.zero_mul, List.length_map, Option.bind_some, Option.map_some, List.getElem?_cons_zero, List.getElem?_cons_succ, Nat.reduceAdd, Nat.reduceEqDiff, reduceIte, reduceCtorEq, goInt, bne_self_eq_false, Bool.false_bne, Bool.true_bne, Bool.not_true, Bool.not_false, decide_eq_true_eq, decide_eq_false_iff_not, Option.some.injEq, exists_eq_left', Nat.zero_add, beq_self_eq_true, cond_true, cond_false, eqb_t, eqb_f, Int.cast_ofNat_Int, eq_self, decide_true, decide_false, Int.reduceLT, Int.reduceLE, Int.reduceEq, Int.reduceNeg, Int.reduceAdd, Int.reduceSub, and_true, true_and, forall_const, Bool.true_eq_false, Bool.false_eq_true, false_implies, ne_eq, not_true_eq_false, not_false_eq_true, true_implies, Decidable.not_not, undef, List.size_toArray, List.length_nil, Nat.reducePow, Nat.reduceDiv, Nat.reduceMod, hlt, hlt', hg, c0, hxs, l5, t1, t2, w1]
        exact hN _ _ (vs.length - (i + 1)) (by omega) ⟨hnx.comp t3 fun i hi h => by omega, i + 1, by omega, rfl, by omega, g4, by rw [e]; exact t2, by rw [e]; rfl⟩
      · have e : rlast s (vs.take (i + 1)) = rlast s (vs.take i) := by rw [hts, rlast_snoc, if_neg hxs]
        simp only [go_nil, go_inBlock, go_skip, go_seq, go_block, go_exit, go_ret, go_ops, go_opsr, go_cond, ex_nil, ex_code, ex_inLoop, ex_inBlock, goC_true, goC_false, goC_dec, goO_nil, goO_cons, goO_guard, goG_true, goG_false, goR_val, goR_skip, wantedX, X.put, X.look, look_hit, Arg.ev, keepOf, restrict, evs, evO, initEnv, xres, tup, xi_move, xi_pick, pick_bool, xi_bin, bin_add, bin_sub, bin_mul, bin_eql, bin_neq, bin_lss, bin_leq, bin_gtr, bin_geq, xi_load1, ld_ptr, xi_nilCheck, nilCheck_ptr, xi_fieldAddr, fieldAddr_ptr, xi_isNil, isNil_some, isNil_none, xi_extract, extract_tuple, xi_call, call_func, xi_len, len_slice, xi_un, un_not, xi_store, xi_box, box_int, box_ptr, box_slice, push_self, push_two, Mem.next_push, xi_calcB, calc_max, calc_min, goG_dec, goG_ndec, xi_indexAddr, indexAddr_at, xi_slice, xi_append, xi_clear, isNil_slice, xi_conv, xi_alloc, box_agg, box_string, box_bool, xi_buildSlice, xparts_nil, xparts_cons, xi_build, xi_field, field_one, xi_makeFunc, makeFunc_nil, xi_loadA, go_opsd, goD_nil, goD_cons, goD_guard, goDG_true, goDG_false, goDV0, goDV1, goDV2, goDV3, goDV3s, again_nil, again_cons, againE_val, veq_int, veq_slice, veq_ptr, veq_bool, veq_string, veq_agg, veqL_nil, veqL_cons, veqC_int, veqC_bool, veqC_string, veqC_slice, veqC_ptr, List.filter_cons, List.filter_nil, Nat.testBit_eq_decide_div_mod_eq, asNat_nat, asNat_zero, asNat_one, noTup, cls, quiet, Option.isNone_some, Option.isNone_none, Bool.and_true, Bool.and_self, Bool.true_and, Nat.add_zero, Nat.mul_one, Nat.mul_zero, Nat.zero_mul, List.length_map, Option.bind_some, Option.map_some, List.getElem?_cons_zero, List.getElem?_cons_succ, Nat.reduceAdd, Nat.reduceEqDiff, reduceIte, reduceCtorEq, goInt, bne_self_eq_false, Bool.false_bne, Bool.true_bne, Bool.not_true, Bool.not_false, decide_eq_true_eq, decide_eq_false_iff_not, Option.some.injEq, exists_eq_left', Nat.zero_add, beq_self_eq_true, cond_true, cond_false, eqb_t, eqb_f, Int.cast_ofNat_Int, eq_self, decide_true, decide_false, Int.reduceLT, Int.reduceLE, Int.reduceEq, Int.reduceNeg, Int.reduceAdd, Int.reduceSub, and_true, true_and, forall_const, Bool.true_eq_false, Bool.false_eq_true, false_implies, ne_eq, not_true_eq_false, not_false_eq_true, true_implies, Decidable.not_not, undef, List.size_toArray, List.length_nil, Nat.reducePow, Nat.reduceDiv, Nat.reduceMod, hlt, hlt', hg, c0, hxs, w1]
        exact hN _ _ (vs.length - (i + 1)) (by omega) ⟨hnx, i + 1, by omega, rfl, hlt3, hg4, by rw [e]; exact hg6, by rw [e]⟩
    · have hlt' : ¬ (i : Int) < (vs.length : Int) := by omega
      have hti : vs.take i = vs := List.take_of_length_le (by omega)
      rw [hti] at hg6
      rw [hti]
      have l6 : ldA m3 5 (.pointer (some ⟨m1.next, 0, none⟩)) = some (.val (.agg ⟨((rlast s vs).getD zv).row⟩) m3) := by simp [ldA, xload, hg6]
      simp only [go_nil, go_inBlock, go_skip, go_seq, go_block, go_exit, go_ret, go_ops, go_opsr, go_cond, ex_nil, ex_code, ex_inLoop, ex_inBlock, goC_true, goC_false, goC_dec, goO_nil, goO_cons, goO_guard, goG_true, goG_false, goR_val, goR_skip, wantedX, X.put, X.look, look_hit, Arg.ev, keepOf, restrict, evs, evO, initEnv, xres, tup, xi_move, xi_pick, pick_bool, xi_bin, bin_add, bin_sub, bin_mul, bin_eql, bin_neq, bin_lss, bin_leq, bin_gtr, bin_geq, xi_load1, ld_ptr, xi_nilCheck, nilCheck_ptr, xi_fieldAddr, fieldAddr_ptr, xi_isNil, isNil_some, isNil_none, xi_extract, extract_tuple, xi_call, call_func, xi_len, len_slice, xi_un, un_not, xi_store, xi_box, box_int, box_ptr, box_slice, push_self, push_two, Mem.next_push, xi_calcB, calc_max, calc_min, goG_dec, goG_ndec, xi_indexAddr, indexAddr_at, xi_slice, xi_append, xi_clear, isNil_slice, xi_conv, xi_alloc, box_agg, box_string, box_bool, xi_buildSlice, xparts_nil, xparts_cons, xi_build, xi_field, field_one, xi_makeFunc, makeFunc_nil, xi_loadA, go_opsd, goD_nil, goD_cons, goD_guard, goDG_true, goDG_false, goDV0, goDV1, goDV2, goDV3, goDV3s, again_nil, again_cons, againE_val, veq_int, veq_slice, veq_ptr, veq_bool, veq_string, veq_agg, veqL_nil, veqL_cons, veqC_int, veqC_bool, veqC_string, veqC_slice, veqC_ptr, List.filter_cons, List.filter_nil, Nat.testBit_eq_decide_div_mod_eq, asNat_nat, asNat_zero, asNat_one, noTup, cls, quiet, Option.isNone_some, Option.isNone_none, Bool.and_true, Bool.and_self, Bool.true_and, Nat.add_zero, Nat.mul_one, Nat.mul_zero, Nat.zero_mul, List.length_map, Option.bind_some, Option.map_some, List.getElem?_cons_zero, List.getElem?_cons_succ, Nat.reduceAdd, Nat.reduceEqDiff, reduceIte, reduceCtorEq, goInt, bne_self_eq_false, Bool.false_bne, Bool.true_bne, Bool.not_true, Bool.not_false, decide_eq_true_eq, decide_eq_false_iff_not, Option.some.injEq, exists_eq_left', Nat.zero_add, beq_self_eq_true, cond_true, cond_false, eqb_t, eqb_f, Int.cast_ofNat_Int, eq_self, decide_true, decide_false, Int.reduceLT, Int.reduceLE, Int.reduceEq, Int.reduceNeg, Int.reduceAdd, Int.reduceSub, and_true, true_and, forall_const, Bool.true_eq_false, Bool.false_eq_true, false_implies, ne_eq, not_true_eq_false, not_false_eq_true, true_implies, Decidable.not_not, undef, List.size_toArray, List.length_nil, Nat.reducePow, Nat.reduceDiv, Nat.reduceMod, hlt']
      refine hB _ _ _ ?_
      cases hok : okOf (rlast s vs) with
      | false =>
        have e : ratV vs s = none := by simp [ratV, hok]
        rw [e] at hQ
        obtain ⟨m4, t1, t2, t3, t4⟩ := row_store (n := 5) (row := zv.row) hg4 rfl rfl rfl rfl (by omega)
        simp only [go_nil, go_inBlock, go_skip, go_seq, go_block, go_exit, go_ret, go_ops, go_opsr, go_cond, ex_nil, ex_code, ex_inLoop, ex_inBlock, goC_true, goC_false, goC_dec, goO_nil, goO_cons, goO_guard, goG_true, goG_false, goR_val, goR_skip, wantedX, X.put, X.look, look_hit, Arg.ev, keepOf, restrict, evs, evO, initEnv, xres, tup, xi_move, xi_pick, pick_bool, xi_bin, bin_add, bin_sub, bin_mul, bin_eql, bin_neq, bin_lss, bin_leq, bin_gtr, bin_geq, xi_load1, ld_ptr, xi_nilCheck, nilCheck_ptr, xi_fieldAddr, fieldAddr_ptr, xi_isNil, isNil_some, isNil_none, xi_extract, extract_tuple, xi_call, call_func, xi_len, len_slice, xi_un, un_not, xi_store, xi_box, box_int, box_ptr, box_slice, push_self, push_two, Mem.next_push, xi_calcB, calc_max, calc_min, goG_dec, goG_ndec, xi_indexAddr, indexAddr_at, xi_slice, xi_append, xi_clear, isNil_slice, xi_conv, xi_alloc, box_agg, box_string, box_bool, xi_buildSlice, xparts_nil, xparts_cons, xi_build, xi_field, field_one, xi_makeFunc, makeFunc_nil, xi_loadA, go_opsd, goD_nil, goD_cons, goD_guard, goDG_true, goDG_false, goDV0, goDV1, goDV2, goDV3, goDV3s, again_nil, again_cons, againE_val, veq_int, veq_slice, veq_ptr, veq_bool, veq_string, veq_agg, veqL_nil, veqL_cons, veqC_int, veqC_bool, veqC_string, veqC_slice, veqC_ptr, List.filter_cons, List.filter_nil, Nat.testBit_eq_decide_div_mod_eq, asNat_nat, asNat_zero, asNat_one, noTup, cls, quiet, Option.isNone_some, Option.isNone_none, Bool.and_true, Bool.and_self, Bool.true_and, Nat.add_zero, Nat.mul_one, Nat.mul_zero, Nat.zero_mul, List.length_map, Option.bind_some, Option.map_some, List.getElem?_cons_zero, List.getElem?_cons_succ, Nat.reduceAdd, Nat.reduceEqDiff, reduceIte, reduceCtorEq, goInt, bne_self_eq_false, Bool.false_bne, Bool.true_bne, Bool.not_true, Bool.not_false, decide_eq_true_eq, decide_eq_false_iff_not, Option.some.injEq, exists_eq_left', Nat.zero_add, beq_self_eq_true, cond_true, cond_false, eqb_t, eqb_f, Int.cast_ofNat_Int, eq_self, decide_true, decide_false, Int.reduceLT, Int.reduceLE, Int.reduceEq, Int.reduceNeg, Int.reduceAdd, Int.reduceSub, and_true, true_and, forall_const, Bool.true_eq_false, Bool.false_eq_true, false_implies, ne_eq, not_true_eq_false, not_false_eq_true, true_implies, Decidable.not_not, undef, List.size_toArray, List.length_nil, Nat.reducePow, Nat.reduceDiv, Nat.reduceMod, build33, t1]
        exact hQ _ _ _ (by exact res_cell (x := zv) (b := false) rfl rfl t2) ⟨rfl, hnx.comp t3 fun i hi h => by omega⟩
      | true =>
        have e : ratV vs s = rlast s vs := by simp [ratV, hok]
        rw [e] at hQ
        obtain ⟨m4, t1, t2, t3, t4⟩ := row_store (n := 5) (row := ((rlast s vs).getD zv).row) hg4 rfl rfl rfl rfl (by omega)
        have hsome : (rlast s vs).isSome = true := by
          unfold okOf at hok
          cases hrl : rlast s vs with
          | none => rw [hrl] at hok; cases hok
          | some _ => rfl
        simp only [go_nil, go_inBlock, go_skip, go_seq, go_block, go_exit, go_ret, go_ops, go_opsr, go_cond, ex_nil, ex_code, ex_inLoop, ex_inBlock, goC_true, goC_false, goC_dec, goO_nil, goO_cons, goO_guard, goG_true, goG_false, goR_val, goR_skip, wantedX, X.put, X.look, look_hit, Arg.ev, keepOf, restrict, evs, evO, initEnv, xres, tup, xi_move, xi_pick, pick_bool, xi_bin, bin_add, bin_sub, bin_mul, bin_eql, bin_neq, bin_lss, bin_leq, bin_gtr, bin_geq, xi_load1, ld_ptr, xi_nilCheck, nilCheck_ptr, xi_fieldAddr, fieldAddr_ptr, xi_isNil, isNil_some, isNil_none, xi_extract, extract_tuple, xi_call, call_func, xi_len, len_slice, xi_un, un_not, xi_store, xi_box, box_int, box_ptr, box_slice, push_self, push_two, Mem.next_push, xi_calcB, calc_max, calc_min, goG_dec, goG_ndec, xi_indexAddr, indexAddr_at, xi_slice, xi_append, xi_clear, isNil_slice, xi_conv, xi_alloc, box_agg, box_string, box_bool, xi_buildSlice, xparts_nil, xparts_cons, xi_build, xi_field, field_one, xi_makeFunc, makeFunc_nil, xi_loadA, go_opsd, goD_nil, goD_cons, goD_guard, goDG_true, goDG_false, goDV0, goDV1, goDV2, goDV3, goDV3s, again_nil, again_cons, againE_val, veq_int, veq_slice, veq_ptr, veq_bool, veq_string, veq_agg, veqL_nil, veqL_cons, veqC_int, veqC_bool, veqC_string, veqC_slice, veqC_ptr, List.filter_cons, List.filter_nil, Nat.testBit_eq_decide_div_mod_eq, asNat_nat, asNat_zero, asNat_one, noTup, cls, quiet, Option.isNone_some, Option.isNone_none, Bool.and_true, Bool.and_self, Bool.true_and, Nat.add_zero, Nat.mul_one, Nat.mul_zero, Nat.zero_mul, List.length_map, Option.bind_some, Option.map_some, List.getElem?_cons_zero, List.getElem?_cons_succ, Nat.reduceAdd, Nat.reduceEqDiff, reduceIte, reduceCtorEq, goInt, bne_self_eq_false, Bool.false_bne, Bool.true_bne, Bool.not_true, Bool.not_false, decide_eq_true_eq, decide_eq_false_iff_not, Option.some.injEq, exists_eq_left', Nat.zero_add, beq_self_eq_true, cond_true, cond_false, eqb_t, eqb_f, Int.cast_ofNat_Int, eq_self, decide_true, decide_false, Int.reduceLT, Int.reduceLE, Int.reduceEq, Int.reduceNeg, Int.reduceAdd, Int.reduceSub, and_true, true_and, forall_const, Bool.true_eq_false, Bool.false_eq_true, false_implies, ne_eq, not_true_eq_false, not_false_eq_true, true_implies, Decidable.not_not, undef, List.size_toArray, List.length_nil, Nat.reducePow, Nat.reduceDiv, Nat.reduceMod, l6, t1]
        exact hQ _ _ _ (by exact res_cell (x := (rlast s vs).getD zv) (b := true) rfl rfl t2) ⟨by unfold tupV; rw [hsome]; rfl, hnx.comp t3 fun i hi h => by omega⟩
  obtain ⟨r, m', hc, rfl, hf⟩ := key
  exact ⟨m', hc, hf⟩

/-! ## What they say -/
theorem filter_take : ∀ {vs : List Ver} {s : Int}, (seqs vs).Pairwise (· < ·) → (vs.filter fun x => decide (x.seq ≤ s)) = vs.take (upto (seqs vs) s)
  | [], s, _ => by simp
  | x :: vs, s, h => by
    have h2 : (seqs vs).Pairwise (· < ·) := (List.pairwise_cons.1 h).2
    have ih := filter_take (vs := vs) (s := s) h2
    rw [show seqs (x :: vs) = x.seq :: seqs vs from rfl, upto_cons]
    by_cases hx : x.seq ≤ s
    · rw [if_pos hx, List.take_succ_cons, ← ih]; simp [hx]
    · have hz : upto (seqs vs) s = 0 := by
        unfold upto
        rw [List.countP_eq_zero]
        intro y hy
        have := (List.pairwise_cons.1 h).1 y hy
        simp; omega
      rw [if_neg hx, hz, List.take_zero]
      rw [hz, List.take_zero] at ih
      simp [hx, ih]

theorem rlast_eq {vs : List Ver} {s : Int} (h : (seqs vs).Pairwise (· < ·)) : rlast s vs = if upto (seqs vs) s = 0 then none else vs[upto (seqs vs) s - 1]? := by
  unfold rlast
  rw [filter_take h]
  have hle := (upto_split s h).1
  rw [List.length_map] at hle
  split
  · rename_i h0; rw [h0]; simp
  · rename_i h0
    rw [List.getLast?_eq_getElem?, List.length_take, Nat.min_eq_left hle, List.getElem?_take, if_pos (by omega)]

theorem rat_eq {vs : List Ver} (h : okC 0 vs = true) (s : Int) : ratV vs s = atV vs s := by
  obtain ⟨hbd, hs⟩ := okC_bounds (Int.le_refl 0) h
  have e := rlast_eq (s := s) hs
  have hle := (upto_split s hs).1
  rw [List.length_map] at hle
  by_cases h1 : 1 ≤ s
  · have eA : atV vs s = atN vs (upto (seqs vs) s) := by unfold atV; rw [if_pos ⟨h, h1⟩]
    rw [eA]
    unfold atN
    by_cases h0 : upto (seqs vs) s = 0
    · rw [if_pos h0] at e
      rw [if_pos h0]
      unfold ratV
      rw [e]; simp [okOf]
    · rw [if_neg h0] at e
      rw [if_neg h0]
      obtain ⟨x, hx⟩ : ∃ x, vs[upto (seqs vs) s - 1]? = some x := ⟨_, List.getElem?_eq_getElem (by omega)⟩
      rw [hx] at e
      rw [hx]
      unfold ratV
      rw [e]
      cases hg : x.gone <;> simp [okOf, hg]
  · have eA : atV vs s = none := by unfold atV; rw [if_neg (by omega)]
    rw [eA]
    have : upto (seqs vs) s = 0 := by
      unfold upto
      rw [List.countP_eq_zero]
      intro y hy
      obtain ⟨x, hx, rfl⟩ := List.mem_map.1 hy
      have := hbd x hx
      simp; omega
    rw [if_pos this] at e
    unfold ratV
    rw [e]; simp [okOf]

theorem sweep_len {vs : List Ver} (h : okC 0 vs = true) (s : Int) : (sweepV vs s).length = vs.length - oldV vs s := by
  unfold sweepV; rw [if_pos h, List.length_drop]

/-- What is still asked for stays. -/
theorem at_sweep {vs : List Ver} (h : okC 0 vs = true) {f s : Int} (hfs : f ≤ s) : atV (sweepV vs f) s = atV vs s := by
  obtain ⟨hbd, hs⟩ := okC_bounds (Int.le_refl 0) h
  have h1 := sweep_ok h f
  have hu := upto_mono (xs := seqs vs) hfs
  have e1 : sweepV vs f = vs.drop (cutV vs (upto (seqs vs) f)) := by unfold sweepV; rw [if_pos h, oldV_eq h]
  have e2 : upto (seqs (sweepV vs f)) s = upto (seqs vs) s - cutV vs (upto (seqs vs) f) := by rw [e1, seqs, List.map_drop, upto_drop hs]
  have hle := (upto_split s hs).1
  rw [List.length_map] at hle
  by_cases hs1 : 1 ≤ s
  · have eA : atV (sweepV vs f) s = atN (sweepV vs f) (upto (seqs (sweepV vs f)) s) := by unfold atV; rw [if_pos ⟨h1, hs1⟩]
    have eB : atV vs s = atN vs (upto (seqs vs) s) := by unfold atV; rw [if_pos ⟨h, hs1⟩]
    rw [eA, eB, e2, e1]
    unfold atN
    generalize upto (seqs vs) f = uf at hu
    generalize upto (seqs vs) s = us at hu hle
    have hcut : cutV vs uf = uf ∧ ¬ (0 < uf ∧ (vs[uf - 1]?.map Ver.gone) = some false) ∨ (cutV vs uf + 1 = uf) := by
      unfold cutV
      split
      · rename_i h; right; omega
      · rename_i h; left; exact ⟨rfl, h⟩
    by_cases h0 : us = 0
    · rw [if_pos (by omega), if_pos h0]
    · rw [if_neg h0]
      by_cases hk : us - cutV vs uf = 0
      · rw [if_pos hk]
        rcases hcut with ⟨k1, k2⟩ | k1
        · have : us = uf := by omega
          subst this
          obtain ⟨x, hx⟩ : ∃ x, vs[us - 1]? = some x := ⟨_, List.getElem?_eq_getElem (by omega)⟩
          rw [hx]
          cases hg : x.gone with
          | true => simp [hg]
          | false => exact absurd ⟨by omega, by rw [hx]; simp [hg]⟩ k2
        · omega
      · rw [if_neg hk, List.getElem?_drop, show cutV vs uf + (us - cutV vs uf - 1) = us - 1 by omega]
  · unfold atV; rw [if_neg (by omega), if_neg (by omega)]

theorem last_sweep {vs : List Ver} (h : okC 0 vs = true) (f : Int) : wgtL (lastV (sweepV vs f)) = wgtL vs.getLast? := by
  obtain ⟨hbd, hs⟩ := okC_bounds (Int.le_refl 0) h
  have h1 := sweep_ok h f
  have e1 : sweepV vs f = vs.drop (cutV vs (upto (seqs vs) f)) := by unfold sweepV; rw [if_pos h, oldV_eq h]
  have hle := (upto_split f hs).1
  rw [List.length_map] at hle
  unfold lastV
  rw [if_pos h1, e1]
  generalize upto (seqs vs) f = u at hle
  by_cases hk : cutV vs u < vs.length
  · rw [List.getLast?_drop, if_neg (by omega)]
  · rw [List.drop_eq_nil_of_le (by omega)]
    have hcut : cutV vs u = u ∧ ¬ (0 < u ∧ (vs[u - 1]?.map Ver.gone) = some false) ∨ (cutV vs u + 1 = u) := by
      unfold cutV
      split
      · rename_i h; right; omega
      · rename_i h; left; exact ⟨rfl, h⟩
    rcases hcut with ⟨k1, k2⟩ | k1
    · have hu : u = vs.length := by omega
      subst hu
      by_cases h0 : vs.length = 0
      · have := List.eq_nil_of_length_eq_zero h0
        subst this; rfl
      · obtain ⟨x, hx⟩ : ∃ x, vs[vs.length - 1]? = some x := ⟨_, List.getElem?_eq_getElem (by omega)⟩
        have hgl : vs.getLast? = some x := by rw [List.getLast?_eq_getElem?, hx]
        rw [hgl]
        cases hg : x.gone with
        | true => simp [wgtL, hg]
        | false => exact absurd ⟨by omega, by rw [hx]; simp [hg]⟩ k2
    · omega
end Go.Proofs.Ytbcoijgoipnelab
