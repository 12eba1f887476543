/-
  Own work. The document's ring, and a ring's copy.
-/
import Derived.Test.YtbcoijgoipnelaaXR4
namespace Go.Proofs.Ytbcoijgoipnelaa
open Go X
set_option maxRecDepth 100000
set_option linter.unusedVariables false
set_option linter.unusedSimpArgs false

/-- The document's ring stands at p. -/
def RefAt (F : List Nat) (m : Mem) (p : Nat) (size begin : Int) (xs : List Int) : Prop :=
  ∃ sl o, m.get p = some o ∧ p < m.next ∧ o.cells = [I size, I begin, sl] ∧ o.rw = true ∧ o.kin = [] ∧ p ∉ F ∧ OwnU F m sl xs

section
variable {F : List Nat} {m m' : Mem} {p : Nat} {size begin : Int} {xs : List Int} {t : Int}
theorem RefAt.fr {S : Nat → Prop} (h : RefAt F m p size begin xs) (hf : Fm S m m') (hp : ¬ S p) (hs : ∀ i ∈ F, ¬ S i) : RefAt F m' p size begin xs := by
  obtain ⟨sl, o, h1, h2, h3, h4, h5, h6, h7⟩ := h
  exact ⟨sl, o, hf.get h2 hp h1, Nat.lt_of_lt_of_le h2 hf.next, h3, h4, h5, h6, h7.fr hf hs⟩
theorem RefAt.lt (h : RefAt F m p size begin xs) : p < m.next ∧ ∀ i ∈ F, i < m.next := by
  obtain ⟨sl, o, h1, h2, h3, h4, h5, h6, h7⟩ := h
  exact ⟨h2, h7.lt⟩

def SmallR (size begin : Int) (xs : List Int) : Prop := 1 ≤ size ∧ size ≤ 16 ∧ 0 ≤ begin ∧ begin ≤ 1073741824 ∧ xs.length ≤ 100

theorem rseq_spec (h : RefAt F m p size begin xs) (hs : SmallR size begin xs) : Ca 14 [Pt p] m (I (begin + xs.length)) m := by
  obtain ⟨sl, o, h1, h2, h3, h4, h5, h6, h7⟩ := h
  obtain ⟨s1, s2, s3, s4, s5⟩ := hs
  obtain ⟨q, c, rfl⟩ := h7.slice
  have w1 : IntKind.i64.wrap (begin + (xs.length : Int)) = begin + xs.length := wrap_i64 (by omega) (by omega)
  refine callX_of (call_go (F := _) rfl rfl fun Q hQ => ?_)
  simp only [go_nil, go_inBlock, go_skip, go_seq, go_block, go_exit, go_ret, go_ops, go_opsr, go_cond, ex_nil, ex_code, ex_inLoop, ex_inBlock, goC_true, goC_false, goC_dec, goO_nil, goO_cons, goO_guard, goG_true, goG_false, goR_val, goR_skip, wantedX, X.put, X.look, look_hit, Arg.ev, keepOf, restrict, evs, evO, initEnv, xres, tup, xi_move, xi_pick, pick_bool, xi_bin, bin_add, bin_sub, bin_mul, bin_eql, bin_neq, bin_lss, bin_leq, bin_gtr, bin_geq, xi_load1, ld_ptr, xi_nilCheck, nilCheck_ptr, xi_fieldAddr, fieldAddr_ptr, xi_isNil, isNil_some, isNil_none, xi_extract, extract_tuple, xi_call, call_func, xi_len, len_slice, xi_un, un_not, xi_store, xi_box, box_int, box_ptr, box_slice, push_self, push_two, Mem.next_push, xi_calcB, calc_max, calc_min, goG_dec, goG_ndec, xi_indexAddr, indexAddr_at, xi_slice, xi_append, xi_clear, isNil_slice, xi_conv, xi_alloc, box_agg, box_string, box_bool, xi_buildSlice, xparts_nil, xparts_cons, xi_build, xi_field, field_one, xi_makeFunc, makeFunc_nil, xi_loadA, go_opsd, goD_nil, goD_cons, goDV0, goDV1, goDV2, goDV3, goDV3s, again_nil, again_cons, againE_val, veq_int, veq_slice, veq_ptr, veq_bool, veq_string, asNat_nat, asNat_zero, asNat_one, noTup, cls, quiet, Option.isNone_some, Option.isNone_none, Bool.and_true, Bool.and_self, Bool.true_and, Nat.add_zero, Nat.mul_one, Nat.mul_zero, Nat.zero_mul, List.length_map, Option.bind_some, Option.map_some, List.getElem?_cons_zero, List.getElem?_cons_succ, Nat.reduceAdd, Nat.reduceEqDiff, reduceIte, reduceCtorEq, goInt, bne_self_eq_false, Bool.false_bne, Bool.true_bne, Bool.not_true, Bool.not_false, decide_eq_true_eq, decide_eq_false_iff_not, Option.some.injEq, exists_eq_left', Nat.zero_add, beq_self_eq_true, cond_true, cond_false, eqb_t, eqb_f, Int.cast_ofNat_Int, eq_self, decide_true, decide_false, Int.reduceLT, Int.reduceLE, Int.reduceEq, Int.reduceNeg, Int.reduceAdd, Int.reduceSub, and_true, true_and, forall_const, Bool.true_eq_false, Bool.false_eq_true, false_implies, ne_eq, not_true_eq_false, not_false_eq_true, true_implies, Decidable.not_not, undef, List.size_toArray, List.length_nil, h1, h3, w1]
  exact hQ _ _ _ rfl ⟨rfl, rfl⟩

theorem take_succ {xs : List Int} {i : Nat} {x : Int} (hx : xs[i]? = some x) : xs.take (i + 1) = xs.take i ++ [x] := by
  rw [List.take_add_one, hx]; rfl

def refV (size begin : Int) (xs : List Int) (t : Int) : Int × Int :=
  if size ≤ xs.length - upto xs t then (0, 14) else (begin + upto xs t, 0)

theorem rasof_spec (h : RefAt F m p size begin xs) (hs : SmallR size begin xs) : Ca 17 [Pt p, U t] m (.tuple #[I (refV size begin xs t).1, I (refV size begin xs t).2]) m := by
  obtain ⟨sl, o, h1, h2, h3, h4, h5, h6, h7⟩ := h
  obtain ⟨s1, s2, s3, s4, s5⟩ := hs
  have hrd := own_rd h7
  obtain ⟨q, c, rfl⟩ := h7.slice
  refine callX_of (call_go (F := _) rfl rfl fun Q hQ => ?_)
  simp only [go_nil, go_inBlock, go_skip, go_seq, go_block, go_exit, go_ret, go_ops, go_opsr, go_cond, ex_nil, ex_code, ex_inLoop, ex_inBlock, goC_true, goC_false, goC_dec, goO_nil, goO_cons, goO_guard, goG_true, goG_false, goR_val, goR_skip, wantedX, X.put, X.look, look_hit, Arg.ev, keepOf, restrict, evs, evO, initEnv, xres, tup, xi_move, xi_pick, pick_bool, xi_bin, bin_add, bin_sub, bin_mul, bin_eql, bin_neq, bin_lss, bin_leq, bin_gtr, bin_geq, xi_load1, ld_ptr, xi_nilCheck, nilCheck_ptr, xi_fieldAddr, fieldAddr_ptr, xi_isNil, isNil_some, isNil_none, xi_extract, extract_tuple, xi_call, call_func, xi_len, len_slice, xi_un, un_not, xi_store, xi_box, box_int, box_ptr, box_slice, push_self, push_two, Mem.next_push, xi_calcB, calc_max, calc_min, goG_dec, goG_ndec, xi_indexAddr, indexAddr_at, xi_slice, xi_append, xi_clear, isNil_slice, xi_conv, xi_alloc, box_agg, box_string, box_bool, xi_buildSlice, xparts_nil, xparts_cons, xi_build, xi_field, field_one, xi_makeFunc, makeFunc_nil, xi_loadA, go_opsd, goD_nil, goD_cons, goDV0, goDV1, goDV2, goDV3, goDV3s, again_nil, again_cons, againE_val, veq_int, veq_slice, veq_ptr, veq_bool, veq_string, asNat_nat, asNat_zero, asNat_one, noTup, cls, quiet, Option.isNone_some, Option.isNone_none, Bool.and_true, Bool.and_self, Bool.true_and, Nat.add_zero, Nat.mul_one, Nat.mul_zero, Nat.zero_mul, List.length_map, Option.bind_some, Option.map_some, List.getElem?_cons_zero, List.getElem?_cons_succ, Nat.reduceAdd, Nat.reduceEqDiff, reduceIte, reduceCtorEq, goInt, bne_self_eq_false, Bool.false_bne, Bool.true_bne, Bool.not_true, Bool.not_false, decide_eq_true_eq, decide_eq_false_iff_not, Option.some.injEq, exists_eq_left', Nat.zero_add, beq_self_eq_true, cond_true, cond_false, eqb_t, eqb_f, Int.cast_ofNat_Int, eq_self, decide_true, decide_false, Int.reduceLT, Int.reduceLE, Int.reduceEq, Int.reduceNeg, Int.reduceAdd, Int.reduceSub, and_true, true_and, forall_const, Bool.true_eq_false, Bool.false_eq_true, false_implies, ne_eq, not_true_eq_false, not_false_eq_true, true_implies, Decidable.not_not, undef, List.size_toArray, List.length_nil]
  refine loop_go (fun j e m' => m' = m ∧ ∃ i : Nat, i ≤ xs.length ∧ j = xs.length - i ∧ e = [(0, Pt p), (1, U t), (6, I (upto (xs.take i) t)), (7, I i)]) xs.length ⟨rfl, 0, by omega, rfl, by simp [upto]⟩ ?_
  rintro j e m' N' B' hN hB ⟨rfl, i, hi, rfl, rfl⟩
  have hle : upto (xs.take i) t ≤ i := by
    have : upto (xs.take i) t ≤ (xs.take i).length := List.countP_le_length
    rw [List.length_take] at this; omega
  by_cases hlt : i < xs.length
  · have hlt' : (i : Int) < (xs.length : Int) := by omega
    obtain ⟨x, hx⟩ : ∃ x, xs[i]? = some x := ⟨_, List.getElem?_eq_getElem hlt⟩
    obtain ⟨a, c', o', hv, hg, hc⟩ := rd_at hrd hx
    cases hv
    have w1 : IntKind.i64.wrap ((i : Int) + 1) = ((i + 1 : Nat) : Int) := by rw [wrap_i64 (by omega) (by omega)]; omega
    have w2 : IntKind.i64.wrap ((upto (xs.take i) t : Int) + 1) = ((upto (xs.take i) t + 1 : Nat) : Int) := by rw [wrap_i64 (by omega) (by omega)]; omega
    by_cases hxt : x ≤ t
    · have hu : upto (xs.take (i + 1)) t = upto (xs.take i) t + 1 := by rw [take_succ hx]; simp [upto, List.countP_append, hxt]
      simp only [go_nil, go_inBlock, go_skip, go_seq, go_block, go_exit, go_ret, go_ops, go_opsr, go_cond, ex_nil, ex_code, ex_inLoop, ex_inBlock, goC_true, goC_false, goC_dec, goO_nil, goO_cons, goO_guard, goG_true, goG_false, goR_val, goR_skip, wantedX, X.put, X.look, look_hit, Arg.ev, keepOf, restrict, evs, evO, initEnv, xres, tup, xi_move, xi_pick, pick_bool, xi_bin, bin_add, bin_sub, bin_mul, bin_eql, bin_neq, bin_lss, bin_leq, bin_gtr, bin_geq, xi_load1, ld_ptr, xi_nilCheck, nilCheck_ptr, xi_fieldAddr, fieldAddr_ptr, xi_isNil, isNil_some, isNil_none, xi_extract, extract_tuple, xi_call, call_func, xi_len, len_slice, xi_un, un_not, xi_store, xi_box, box_int, box_ptr, box_slice, push_self, push_two, Mem.next_push, xi_calcB, calc_max, calc_min, goG_dec, goG_ndec, xi_indexAddr, indexAddr_at, xi_slice, xi_append, xi_clear, isNil_slice, xi_conv, xi_alloc, box_agg, box_string, box_bool, xi_buildSlice, xparts_nil, xparts_cons, xi_build, xi_field, field_one, xi_makeFunc, makeFunc_nil, xi_loadA, go_opsd, goD_nil, goD_cons, goDV0, goDV1, goDV2, goDV3, goDV3s, again_nil, again_cons, againE_val, veq_int, veq_slice, veq_ptr, veq_bool, veq_string, asNat_nat, asNat_zero, asNat_one, noTup, cls, quiet, Option.isNone_some, Option.isNone_none, Bool.and_true, Bool.and_self, Bool.true_and, Nat.add_zero, Nat.mul_one, Nat.mul_zero, Nat.zero_mul, List.length_map, Option.bind_some, Option.map_some, List.getElem?_cons_zero, List.getElem?_cons_succ, Nat.reduceAdd, Nat.reduceEqDiff, reduceIte, reduceCtorEq, goInt, bne_self_eq_false, Bool.false_bne, Bool.true_bne, Bool.not_true, Bool.not_false, decide_eq_true_eq, decide_eq_false_iff_not, Option.some.injEq, exists_eq_left', Nat.zero_add, beq_self_eq_true, cond_true, cond_false, eqb_t, eqb_f, Int.cast_ofNat_Int, eq_self, decide_true, decide_false, Int.reduceLT, Int.reduceLE, Int.reduceEq, Int.reduceNeg, Int.reduceAdd, Int.reduceSub, and_true, true_and, forall_const, Bool.true_eq_false, Bool.false_eq_true, false_implies, ne_eq, not_true_eq_false, not_false_eq_true, true_implies, Decidable.not_not, undef, List.size_toArray, List.length_nil, h1, h3, hlt, hlt', hg, hc, hxt, w1, w2]
      exact hN _ _ (xs.length - (i + 1)) (by omega) ⟨rfl, i + 1, by omega, rfl, by rw [hu]⟩
    · have hu : upto (xs.take (i + 1)) t = upto (xs.take i) t := by rw [take_succ hx]; simp [upto, List.countP_append, hxt]
      simp only [go_nil, go_inBlock, go_skip, go_seq, go_block, go_exit, go_ret, go_ops, go_opsr, go_cond, ex_nil, ex_code, ex_inLoop, ex_inBlock, goC_true, goC_false, goC_dec, goO_nil, goO_cons, goO_guard, goG_true, goG_false, goR_val, goR_skip, wantedX, X.put, X.look, look_hit, Arg.ev, keepOf, restrict, evs, evO, initEnv, xres, tup, xi_move, xi_pick, pick_bool, xi_bin, bin_add, bin_sub, bin_mul, bin_eql, bin_neq, bin_lss, bin_leq, bin_gtr, bin_geq, xi_load1, ld_ptr, xi_nilCheck, nilCheck_ptr, xi_fieldAddr, fieldAddr_ptr, xi_isNil, isNil_some, isNil_none, xi_extract, extract_tuple, xi_call, call_func, xi_len, len_slice, xi_un, un_not, xi_store, xi_box, box_int, box_ptr, box_slice, push_self, push_two, Mem.next_push, xi_calcB, calc_max, calc_min, goG_dec, goG_ndec, xi_indexAddr, indexAddr_at, xi_slice, xi_append, xi_clear, isNil_slice, xi_conv, xi_alloc, box_agg, box_string, box_bool, xi_buildSlice, xparts_nil, xparts_cons, xi_build, xi_field, field_one, xi_makeFunc, makeFunc_nil, xi_loadA, go_opsd, goD_nil, goD_cons, goDV0, goDV1, goDV2, goDV3, goDV3s, again_nil, again_cons, againE_val, veq_int, veq_slice, veq_ptr, veq_bool, veq_string, asNat_nat, asNat_zero, asNat_one, noTup, cls, quiet, Option.isNone_some, Option.isNone_none, Bool.and_true, Bool.and_self, Bool.true_and, Nat.add_zero, Nat.mul_one, Nat.mul_zero, Nat.zero_mul, List.length_map, Option.bind_some, Option.map_some, List.getElem?_cons_zero, List.getElem?_cons_succ, Nat.reduceAdd, Nat.reduceEqDiff, reduceIte, reduceCtorEq, goInt, bne_self_eq_false, Bool.false_bne, Bool.true_bne, Bool.not_true, Bool.not_false, decide_eq_true_eq, decide_eq_false_iff_not, Option.some.injEq, exists_eq_left', Nat.zero_add, beq_self_eq_true, cond_true, cond_false, eqb_t, eqb_f, Int.cast_ofNat_Int, eq_self, decide_true, decide_false, Int.reduceLT, Int.reduceLE, Int.reduceEq, Int.reduceNeg, Int.reduceAdd, Int.reduceSub, and_true, true_and, forall_const, Bool.true_eq_false, Bool.false_eq_true, false_implies, ne_eq, not_true_eq_false, not_false_eq_true, true_implies, Decidable.not_not, undef, List.size_toArray, List.length_nil, h1, h3, hlt, hlt', hg, hc, hxt, w1, w2]
      exact hN _ _ (xs.length - (i + 1)) (by omega) ⟨rfl, i + 1, by omega, rfl, by rw [hu]⟩
  · have hlt' : ¬ (i : Int) < (xs.length : Int) := by omega
    have hii : i = xs.length := by omega
    subst hii
    simp only [go_nil, go_inBlock, go_skip, go_seq, go_block, go_exit, go_ret, go_ops, go_opsr, go_cond, ex_nil, ex_code, ex_inLoop, ex_inBlock, goC_true, goC_false, goC_dec, goO_nil, goO_cons, goO_guard, goG_true, goG_false, goR_val, goR_skip, wantedX, X.put, X.look, look_hit, Arg.ev, keepOf, restrict, evs, evO, initEnv, xres, tup, xi_move, xi_pick, pick_bool, xi_bin, bin_add, bin_sub, bin_mul, bin_eql, bin_neq, bin_lss, bin_leq, bin_gtr, bin_geq, xi_load1, ld_ptr, xi_nilCheck, nilCheck_ptr, xi_fieldAddr, fieldAddr_ptr, xi_isNil, isNil_some, isNil_none, xi_extract, extract_tuple, xi_call, call_func, xi_len, len_slice, xi_un, un_not, xi_store, xi_box, box_int, box_ptr, box_slice, push_self, push_two, Mem.next_push, xi_calcB, calc_max, calc_min, goG_dec, goG_ndec, xi_indexAddr, indexAddr_at, xi_slice, xi_append, xi_clear, isNil_slice, xi_conv, xi_alloc, box_agg, box_string, box_bool, xi_buildSlice, xparts_nil, xparts_cons, xi_build, xi_field, field_one, xi_makeFunc, makeFunc_nil, xi_loadA, go_opsd, goD_nil, goD_cons, goDV0, goDV1, goDV2, goDV3, goDV3s, again_nil, again_cons, againE_val, veq_int, veq_slice, veq_ptr, veq_bool, veq_string, asNat_nat, asNat_zero, asNat_one, noTup, cls, quiet, Option.isNone_some, Option.isNone_none, Bool.and_true, Bool.and_self, Bool.true_and, Nat.add_zero, Nat.mul_one, Nat.mul_zero, Nat.zero_mul, List.length_map, Option.bind_some, Option.map_some, List.getElem?_cons_zero, List.getElem?_cons_succ, Nat.reduceAdd, Nat.reduceEqDiff, reduceIte, reduceCtorEq, goInt, bne_self_eq_false, Bool.false_bne, Bool.true_bne, Bool.not_true, Bool.not_false, decide_eq_true_eq, decide_eq_false_iff_not, Option.some.injEq, exists_eq_left', Nat.zero_add, beq_self_eq_true, cond_true, cond_false, eqb_t, eqb_f, Int.cast_ofNat_Int, eq_self, decide_true, decide_false, Int.reduceLT, Int.reduceLE, Int.reduceEq, Int.reduceNeg, Int.reduceAdd, Int.reduceSub, and_true, true_and, forall_const, Bool.true_eq_false, Bool.false_eq_true, false_implies, ne_eq, not_true_eq_false, not_false_eq_true, true_implies, Decidable.not_not, undef, List.size_toArray, List.length_nil, h1, h3, hlt', List.take_length]
    refine hB _ _ _ ?_
    rw [List.take_length] at hle
    have w1 : IntKind.i64.wrap ((xs.length : Int) - (upto xs t : Int)) = xs.length - upto xs t := wrap_i64 (by omega) (by omega)
    have w2 : IntKind.i64.wrap (begin + (upto xs t : Int)) = begin + upto xs t := wrap_i64 (by omega) (by omega)
    by_cases hge : size ≤ xs.length - upto xs t
    · rw [refV, if_pos hge] at hQ
      simp only [go_nil, go_inBlock, go_skip, go_seq, go_block, go_exit, go_ret, go_ops, go_opsr, go_cond, ex_nil, ex_code, ex_inLoop, ex_inBlock, goC_true, goC_false, goC_dec, goO_nil, goO_cons, goO_guard, goG_true, goG_false, goR_val, goR_skip, wantedX, X.put, X.look, look_hit, Arg.ev, keepOf, restrict, evs, evO, initEnv, xres, tup, xi_move, xi_pick, pick_bool, xi_bin, bin_add, bin_sub, bin_mul, bin_eql, bin_neq, bin_lss, bin_leq, bin_gtr, bin_geq, xi_load1, ld_ptr, xi_nilCheck, nilCheck_ptr, xi_fieldAddr, fieldAddr_ptr, xi_isNil, isNil_some, isNil_none, xi_extract, extract_tuple, xi_call, call_func, xi_len, len_slice, xi_un, un_not, xi_store, xi_box, box_int, box_ptr, box_slice, push_self, push_two, Mem.next_push, xi_calcB, calc_max, calc_min, goG_dec, goG_ndec, xi_indexAddr, indexAddr_at, xi_slice, xi_append, xi_clear, isNil_slice, xi_conv, xi_alloc, box_agg, box_string, box_bool, xi_buildSlice, xparts_nil, xparts_cons, xi_build, xi_field, field_one, xi_makeFunc, makeFunc_nil, xi_loadA, go_opsd, goD_nil, goD_cons, goDV0, goDV1, goDV2, goDV3, goDV3s, again_nil, again_cons, againE_val, veq_int, veq_slice, veq_ptr, veq_bool, veq_string, asNat_nat, asNat_zero, asNat_one, noTup, cls, quiet, Option.isNone_some, Option.isNone_none, Bool.and_true, Bool.and_self, Bool.true_and, Nat.add_zero, Nat.mul_one, Nat.mul_zero, Nat.zero_mul, List.length_map, Option.bind_some, Option.map_some, List.getElem?_cons_zero, List.getElem?_cons_succ, Nat.reduceAdd, Nat.reduceEqDiff, reduceIte, reduceCtorEq, goInt, bne_self_eq_false, Bool.false_bne, Bool.true_bne, Bool.not_true, Bool.not_false, decide_eq_true_eq, decide_eq_false_iff_not, Option.some.injEq, exists_eq_left', Nat.zero_add, beq_self_eq_true, cond_true, cond_false, eqb_t, eqb_f, Int.cast_ofNat_Int, eq_self, decide_true, decide_false, Int.reduceLT, Int.reduceLE, Int.reduceEq, Int.reduceNeg, Int.reduceAdd, Int.reduceSub, and_true, true_and, forall_const, Bool.true_eq_false, Bool.false_eq_true, false_implies, ne_eq, not_true_eq_false, not_false_eq_true, true_implies, Decidable.not_not, undef, List.size_toArray, List.length_nil, h1, h3, w1, hge]
      exact hQ _ _ _ rfl ⟨rfl, rfl⟩
    · rw [refV, if_neg hge] at hQ
      simp only [go_nil, go_inBlock, go_skip, go_seq, go_block, go_exit, go_ret, go_ops, go_opsr, go_cond, ex_nil, ex_code, ex_inLoop, ex_inBlock, goC_true, goC_false, goC_dec, goO_nil, goO_cons, goO_guard, goG_true, goG_false, goR_val, goR_skip, wantedX, X.put, X.look, look_hit, Arg.ev, keepOf, restrict, evs, evO, initEnv, xres, tup, xi_move, xi_pick, pick_bool, xi_bin, bin_add, bin_sub, bin_mul, bin_eql, bin_neq, bin_lss, bin_leq, bin_gtr, bin_geq, xi_load1, ld_ptr, xi_nilCheck, nilCheck_ptr, xi_fieldAddr, fieldAddr_ptr, xi_isNil, isNil_some, isNil_none, xi_extract, extract_tuple, xi_call, call_func, xi_len, len_slice, xi_un, un_not, xi_store, xi_box, box_int, box_ptr, box_slice, push_self, push_two, Mem.next_push, xi_calcB, calc_max, calc_min, goG_dec, goG_ndec, xi_indexAddr, indexAddr_at, xi_slice, xi_append, xi_clear, isNil_slice, xi_conv, xi_alloc, box_agg, box_string, box_bool, xi_buildSlice, xparts_nil, xparts_cons, xi_build, xi_field, field_one, xi_makeFunc, makeFunc_nil, xi_loadA, go_opsd, goD_nil, goD_cons, goDV0, goDV1, goDV2, goDV3, goDV3s, again_nil, again_cons, againE_val, veq_int, veq_slice, veq_ptr, veq_bool, veq_string, asNat_nat, asNat_zero, asNat_one, noTup, cls, quiet, Option.isNone_some, Option.isNone_none, Bool.and_true, Bool.and_self, Bool.true_and, Nat.add_zero, Nat.mul_one, Nat.mul_zero, Nat.zero_mul, List.length_map, Option.bind_some, Option.map_some, List.getElem?_cons_zero, List.getElem?_cons_succ, Nat.reduceAdd, Nat.reduceEqDiff, reduceIte, reduceCtorEq, goInt, bne_self_eq_false, Bool.false_bne, Bool.true_bne, Bool.not_true, Bool.not_false, decide_eq_true_eq, decide_eq_false_iff_not, Option.some.injEq, exists_eq_left', Nat.zero_add, beq_self_eq_true, cond_true, cond_false, eqb_t, eqb_f, Int.cast_ofNat_Int, eq_self, decide_true, decide_false, Int.reduceLT, Int.reduceLE, Int.reduceEq, Int.reduceNeg, Int.reduceAdd, Int.reduceSub, and_true, true_and, forall_const, Bool.true_eq_false, Bool.false_eq_true, false_implies, ne_eq, not_true_eq_false, not_false_eq_true, true_implies, Decidable.not_not, undef, List.size_toArray, List.length_nil, h1, h3, w1, w2, hge]
      exact hQ _ _ _ rfl ⟨rfl, rfl⟩

/-- Push as data: stamps, answer, error. -/
def rpushV (begin : Int) (xs : List Int) (t : Int) : List Int × Int × Int :=
  if t ≤ lastOf xs then (xs, 0, 1) else if 1073741824 ≤ begin + xs.length then (xs, 0, 17) else (xs ++ [t], begin + xs.length + 1, 0)

theorem rpush_spec (h : RefAt F m p size begin xs) (hs : SmallR size begin xs) (h99 : xs.length ≤ 99) :
    ∃ m' F', Ca 15 [Pt p, U t] m (.tuple #[I (rpushV begin xs t).2.1, I (rpushV begin xs t).2.2]) m' ∧ RefAt F' m' p size begin (rpushV begin xs t).1 ∧ Fm (fun i => i = p ∨ i ∈ F) m m' ∧ ∀ i ∈ F', i ∈ F ∨ m.next ≤ i := by
  have hsq := rseq_spec h hs
  have hh := h
  obtain ⟨sl, o, h1, h2, h3, h4, h5, h6, h7⟩ := h
  have hss := hs
  obtain ⟨s1, s2, s3, s4, s5⟩ := hs
  have hrd := own_rd h7
  -- the last one
  have hlast : ∀ (e : Env) (Q : Post), True := fun _ _ => trivial
  unfold rpushV
  by_cases ht : t ≤ lastOf xs
  · rw [if_pos ht]
    refine ⟨m, F, ?_, hh, .refl, fun i hi => .inl hi⟩
    refine callX_of (call_go (F := _) rfl rfl fun Q hQ => ?_)
    obtain ⟨q, c, rfl⟩ := h7.slice
    by_cases h0 : xs.length = 0
    · have hpos : ¬ (0 : Int) < (xs.length : Int) := by omega
      have hx0 : xs = [] := List.eq_nil_of_length_eq_zero h0
      have ht' : t ≤ 0 := by rw [hx0] at ht; exact ht
      simp only [go_nil, go_inBlock, go_skip, go_seq, go_block, go_exit, go_ret, go_ops, go_opsr, go_cond, ex_nil, ex_code, ex_inLoop, ex_inBlock, goC_true, goC_false, goC_dec, goO_nil, goO_cons, goO_guard, goG_true, goG_false, goR_val, goR_skip, wantedX, X.put, X.look, look_hit, Arg.ev, keepOf, restrict, evs, evO, initEnv, xres, tup, xi_move, xi_pick, pick_bool, xi_bin, bin_add, bin_sub, bin_mul, bin_eql, bin_neq, bin_lss, bin_leq, bin_gtr, bin_geq, xi_load1, ld_ptr, xi_nilCheck, nilCheck_ptr, xi_fieldAddr, fieldAddr_ptr, xi_isNil, isNil_some, isNil_none, xi_extract, extract_tuple, xi_call, call_func, xi_len, len_slice, xi_un, un_not, xi_store, xi_box, box_int, box_ptr, box_slice, push_self, push_two, Mem.next_push, xi_calcB, calc_max, calc_min, goG_dec, goG_ndec, xi_indexAddr, indexAddr_at, xi_slice, xi_append, xi_clear, isNil_slice, xi_conv, xi_alloc, box_agg, box_string, box_bool, xi_buildSlice, xparts_nil, xparts_cons, xi_build, xi_field, field_one, xi_makeFunc, makeFunc_nil, xi_loadA, go_opsd, goD_nil, goD_cons, goDV0, goDV1, goDV2, goDV3, goDV3s, again_nil, again_cons, againE_val, veq_int, veq_slice, veq_ptr, veq_bool, veq_string, asNat_nat, asNat_zero, asNat_one, noTup, cls, quiet, Option.isNone_some, Option.isNone_none, Bool.and_true, Bool.and_self, Bool.true_and, Nat.add_zero, Nat.mul_one, Nat.mul_zero, Nat.zero_mul, List.length_map, Option.bind_some, Option.map_some, List.getElem?_cons_zero, List.getElem?_cons_succ, Nat.reduceAdd, Nat.reduceEqDiff, reduceIte, reduceCtorEq, goInt, bne_self_eq_false, Bool.false_bne, Bool.true_bne, Bool.not_true, Bool.not_false, decide_eq_true_eq, decide_eq_false_iff_not, Option.some.injEq, exists_eq_left', Nat.zero_add, beq_self_eq_true, cond_true, cond_false, eqb_t, eqb_f, Int.cast_ofNat_Int, eq_self, decide_true, decide_false, Int.reduceLT, Int.reduceLE, Int.reduceEq, Int.reduceNeg, Int.reduceAdd, Int.reduceSub, and_true, true_and, forall_const, Bool.true_eq_false, Bool.false_eq_true, false_implies, ne_eq, not_true_eq_false, not_false_eq_true, true_implies, Decidable.not_not, undef, List.size_toArray, List.length_nil, h1, h3, hpos, ht']
      exact hQ _ _ _ rfl ⟨rfl, rfl⟩
    · have hpos : (0 : Int) < (xs.length : Int) := by omega
      obtain ⟨x, hx⟩ : ∃ x, xs[xs.length - 1]? = some x := ⟨_, List.getElem?_eq_getElem (by omega)⟩
      obtain ⟨a, c', o', hv, hg, hc⟩ := rd_at hrd hx
      cases hv
      have w1 : IntKind.i64.wrap ((xs.length : Int) - 1) = ((xs.length - 1 : Nat) : Int) := by rw [wrap_i64 (by omega) (by omega)]; omega
      have hlt : xs.length - 1 < xs.length := by omega
      have ht' : t ≤ x := by
        unfold lastOf at ht
        rw [List.getLast?_eq_getElem?, hx] at ht
        exact ht
      simp only [go_nil, go_inBlock, go_skip, go_seq, go_block, go_exit, go_ret, go_ops, go_opsr, go_cond, ex_nil, ex_code, ex_inLoop, ex_inBlock, goC_true, goC_false, goC_dec, goO_nil, goO_cons, goO_guard, goG_true, goG_false, goR_val, goR_skip, wantedX, X.put, X.look, look_hit, Arg.ev, keepOf, restrict, evs, evO, initEnv, xres, tup, xi_move, xi_pick, pick_bool, xi_bin, bin_add, bin_sub, bin_mul, bin_eql, bin_neq, bin_lss, bin_leq, bin_gtr, bin_geq, xi_load1, ld_ptr, xi_nilCheck, nilCheck_ptr, xi_fieldAddr, fieldAddr_ptr, xi_isNil, isNil_some, isNil_none, xi_extract, extract_tuple, xi_call, call_func, xi_len, len_slice, xi_un, un_not, xi_store, xi_box, box_int, box_ptr, box_slice, push_self, push_two, Mem.next_push, xi_calcB, calc_max, calc_min, goG_dec, goG_ndec, xi_indexAddr, indexAddr_at, xi_slice, xi_append, xi_clear, isNil_slice, xi_conv, xi_alloc, box_agg, box_string, box_bool, xi_buildSlice, xparts_nil, xparts_cons, xi_build, xi_field, field_one, xi_makeFunc, makeFunc_nil, xi_loadA, go_opsd, goD_nil, goD_cons, goDV0, goDV1, goDV2, goDV3, goDV3s, again_nil, again_cons, againE_val, veq_int, veq_slice, veq_ptr, veq_bool, veq_string, asNat_nat, asNat_zero, asNat_one, noTup, cls, quiet, Option.isNone_some, Option.isNone_none, Bool.and_true, Bool.and_self, Bool.true_and, Nat.add_zero, Nat.mul_one, Nat.mul_zero, Nat.zero_mul, List.length_map, Option.bind_some, Option.map_some, List.getElem?_cons_zero, List.getElem?_cons_succ, Nat.reduceAdd, Nat.reduceEqDiff, reduceIte, reduceCtorEq, goInt, bne_self_eq_false, Bool.false_bne, Bool.true_bne, Bool.not_true, Bool.not_false, decide_eq_true_eq, decide_eq_false_iff_not, Option.some.injEq, exists_eq_left', Nat.zero_add, beq_self_eq_true, cond_true, cond_false, eqb_t, eqb_f, Int.cast_ofNat_Int, eq_self, decide_true, decide_false, Int.reduceLT, Int.reduceLE, Int.reduceEq, Int.reduceNeg, Int.reduceAdd, Int.reduceSub, and_true, true_and, forall_const, Bool.true_eq_false, Bool.false_eq_true, false_implies, ne_eq, not_true_eq_false, not_false_eq_true, true_implies, Decidable.not_not, undef, List.size_toArray, List.length_nil, h1, h3, hpos, w1, hlt, hg, hc, ht']
      exact hQ _ _ _ rfl ⟨rfl, rfl⟩
  · rw [if_neg ht]
    by_cases hf : 1073741824 ≤ begin + xs.length
    · rw [if_pos hf]
      refine ⟨m, F, ?_, hh, .refl, fun i hi => .inl hi⟩
      refine callX_of (call_go (F := _) rfl rfl fun Q hQ => ?_)
      obtain ⟨q, c, rfl⟩ := h7.slice
      by_cases h0 : xs.length = 0
      · have hpos : ¬ (0 : Int) < (xs.length : Int) := by omega
        have hx0 : xs = [] := List.eq_nil_of_length_eq_zero h0
        have ht' : ¬ t ≤ 0 := by rw [hx0] at ht; exact ht
        simp only [go_nil, go_inBlock, go_skip, go_seq, go_block, go_exit, go_ret, go_ops, go_opsr, go_cond, ex_nil, ex_code, ex_inLoop, ex_inBlock, goC_true, goC_false, goC_dec, goO_nil, goO_cons, goO_guard, goG_true, goG_false, goR_val, goR_skip, wantedX, X.put, X.look, look_hit, Arg.ev, keepOf, restrict, evs, evO, initEnv, xres, tup, xi_move, xi_pick, pick_bool, xi_bin, bin_add, bin_sub, bin_mul, bin_eql, bin_neq, bin_lss, bin_leq, bin_gtr, bin_geq, xi_load1, ld_ptr, xi_nilCheck, nilCheck_ptr, xi_fieldAddr, fieldAddr_ptr, xi_isNil, isNil_some, isNil_none, xi_extract, extract_tuple, xi_call, call_func, xi_len, len_slice, xi_un, un_not, xi_store, xi_box, box_int, box_ptr, box_slice, push_self, push_two, Mem.next_push, xi_calcB, calc_max, calc_min, goG_dec, goG_ndec, xi_indexAddr, indexAddr_at, xi_slice, xi_append, xi_clear, isNil_slice, xi_conv, xi_alloc, box_agg, box_string, box_bool, xi_buildSlice, xparts_nil, xparts_cons, xi_build, xi_field, field_one, xi_makeFunc, makeFunc_nil, xi_loadA, go_opsd, goD_nil, goD_cons, goDV0, goDV1, goDV2, goDV3, goDV3s, again_nil, again_cons, againE_val, veq_int, veq_slice, veq_ptr, veq_bool, veq_string, asNat_nat, asNat_zero, asNat_one, noTup, cls, quiet, Option.isNone_some, Option.isNone_none, Bool.and_true, Bool.and_self, Bool.true_and, Nat.add_zero, Nat.mul_one, Nat.mul_zero, Nat.zero_mul, List.length_map, Option.bind_some, Option.map_some, List.getElem?_cons_zero, List.getElem?_cons_succ, Nat.reduceAdd, Nat.reduceEqDiff, reduceIte, reduceCtorEq, goInt, bne_self_eq_false, Bool.false_bne, Bool.true_bne, Bool.not_true, Bool.not_false, decide_eq_true_eq, decide_eq_false_iff_not, Option.some.injEq, exists_eq_left', Nat.zero_add, beq_self_eq_true, cond_true, cond_false, eqb_t, eqb_f, Int.cast_ofNat_Int, eq_self, decide_true, decide_false, Int.reduceLT, Int.reduceLE, Int.reduceEq, Int.reduceNeg, Int.reduceAdd, Int.reduceSub, and_true, true_and, forall_const, Bool.true_eq_false, Bool.false_eq_true, false_implies, ne_eq, not_true_eq_false, not_false_eq_true, true_implies, Decidable.not_not, undef, List.size_toArray, List.length_nil, h1, h3, hpos, ht', goR_call hsq, hf]
        exact hQ _ _ _ rfl ⟨rfl, rfl⟩
      · have hpos : (0 : Int) < (xs.length : Int) := by omega
        obtain ⟨x, hx⟩ : ∃ x, xs[xs.length - 1]? = some x := ⟨_, List.getElem?_eq_getElem (by omega)⟩
        obtain ⟨a, c', o', hv, hg, hc⟩ := rd_at hrd hx
        cases hv
        have w1 : IntKind.i64.wrap ((xs.length : Int) - 1) = ((xs.length - 1 : Nat) : Int) := by rw [wrap_i64 (by omega) (by omega)]; omega
        have hlt : xs.length - 1 < xs.length := by omega
        have ht' : ¬ t ≤ x := by
          unfold lastOf at ht
          rw [List.getLast?_eq_getElem?, hx] at ht
          exact ht
        simp only [go_nil, go_inBlock, go_skip, go_seq, go_block, go_exit, go_ret, go_ops, go_opsr, go_cond, ex_nil, ex_code, ex_inLoop, ex_inBlock, goC_true, goC_false, goC_dec, goO_nil, goO_cons, goO_guard, goG_true, goG_false, goR_val, goR_skip, wantedX, X.put, X.look, look_hit, Arg.ev, keepOf, restrict, evs, evO, initEnv, xres, tup, xi_move, xi_pick, pick_bool, xi_bin, bin_add, bin_sub, bin_mul, bin_eql, bin_neq, bin_lss, bin_leq, bin_gtr, bin_geq, xi_load1, ld_ptr, xi_nilCheck, nilCheck_ptr, xi_fieldAddr, fieldAddr_ptr, xi_isNil, isNil_some, isNil_none, xi_extract, extract_tuple, xi_call, call_func, xi_len, len_slice, xi_un, un_not, xi_store, xi_box, box_int, box_ptr, box_slice, push_self, push_two, Mem.next_push, xi_calcB, calc_max, calc_min, goG_dec, goG_ndec, xi_indexAddr, indexAddr_at, xi_slice, xi_append, xi_clear, isNil_slice, xi_conv, xi_alloc, box_agg, box_string, box_bool, xi_buildSlice, xparts_nil, xparts_cons, xi_build, xi_field, field_one, xi_makeFunc, makeFunc_nil, xi_loadA, go_opsd, goD_nil, goD_cons, goDV0, goDV1, goDV2, goDV3, goDV3s, again_nil, again_cons, againE_val, veq_int, veq_slice, veq_ptr, veq_bool, veq_string, asNat_nat, asNat_zero, asNat_one, noTup, cls, quiet, Option.isNone_some, Option.isNone_none, Bool.and_true, Bool.and_self, Bool.true_and, Nat.add_zero, Nat.mul_one, Nat.mul_zero, Nat.zero_mul, List.length_map, Option.bind_some, Option.map_some, List.getElem?_cons_zero, List.getElem?_cons_succ, Nat.reduceAdd, Nat.reduceEqDiff, reduceIte, reduceCtorEq, goInt, bne_self_eq_false, Bool.false_bne, Bool.true_bne, Bool.not_true, Bool.not_false, decide_eq_true_eq, decide_eq_false_iff_not, Option.some.injEq, exists_eq_left', Nat.zero_add, beq_self_eq_true, cond_true, cond_false, eqb_t, eqb_f, Int.cast_ofNat_Int, eq_self, decide_true, decide_false, Int.reduceLT, Int.reduceLE, Int.reduceEq, Int.reduceNeg, Int.reduceAdd, Int.reduceSub, and_true, true_and, forall_const, Bool.true_eq_false, Bool.false_eq_true, false_implies, ne_eq, not_true_eq_false, not_false_eq_true, true_implies, Decidable.not_not, undef, List.size_toArray, List.length_nil, h1, h3, hpos, w1, hlt, hg, hc, ht', goR_call hsq, hf]
        exact hQ _ _ _ rfl ⟨rfl, rfl⟩
    · rw [if_neg hf]
      have b1 := buildSlice_one (m := m) (zero := U 0) (v := U t) rfl
      generalize hm2 : m.push { cells := [U t], rw := true, spare := none, kin := [] } = m2 at b1
      have f2 : Fm (fun _ => False) m m2 := hm2 ▸ Fm.push
      have g2 : m2.get m.next = some { cells := [U t], rw := true, spare := none, kin := [] } := by rw [← hm2, push_self]
      have o2 : OwnU F m2 sl xs := h7.fr f2 (fun _ _ h => h)
      obtain ⟨sl', m3, F', a1, a2, a3, a4, a5⟩ := OwnS.append (bytes := 8) (zero := [U 0]) (new := [U t]) (vx := .slice (some ⟨m.next, 0, none⟩) 1 1) o2 rfl (by omega) rfl (by simp [xfirst, xload, g2]) rfl (by omega) (by omega)
      have hm2n : m.next ≤ m2.next := f2.next
      have hp2 : p < m2.next := by omega
      have g3 : m3.get p = some o := a3.get hp2 h6 (f2.get (by omega) (fun h => h) h1)
      have st2 : storeE m3 1 (.pointer (some ⟨p, 2, none⟩)) sl' = some (.skip (put1 m3 p 2 o sl')) := by
        obtain ⟨q, c, rfl⟩ := a2.slice
        exact store1 g3 h4 h5 (by simp [h3]) rfl rfl
      have g4 : (put1 m3 p 2 o sl').get p = some { o with cells := [I size, I begin, sl'] } := by rw [get_put1, h3]; rfl
      generalize hm4 : put1 m3 p 2 o sl' = m4 at st2 g4
      have f4 : Fm (· = p) m3 m4 := hm4 ▸ fm_put1
      have hpF' : ∀ i ∈ F', ¬ i = p := fun i hi e => by
        subst e
        rcases a5 _ hi with h | h
        · exact h6 h
        · omega
      have o4 : OwnU F' m4 sl' (xs ++ [t]) := by
        have := a2.fr f4 hpF'
        rw [OwnU, List.length_append, List.map_append]
        exact this
      have hr4 : RefAt F' m4 p size begin (xs ++ [t]) := ⟨sl', _, g4, by have := a3.next; have := f4.next; omega, rfl, h4, h5, fun h => hpF' p h rfl, o4⟩
      have hsq4 := rseq_spec hr4 ⟨s1, s2, s3, s4, by simp; omega⟩
      have e4 : begin + ((xs ++ [t]).length : Int) = begin + xs.length + 1 := by simp; omega
      rw [e4] at hsq4
      refine ⟨m4, F', ?_, hr4, ?_, fun i hi => (a5 i hi).imp id (fun h => by omega)⟩
      · refine callX_of (call_go (F := _) rfl rfl fun Q hQ => ?_)
        obtain ⟨q, c, rfl⟩ := h7.slice
        by_cases h0 : xs.length = 0
        · have hpos : ¬ (0 : Int) < (xs.length : Int) := by omega
          have hx0 : xs = [] := List.eq_nil_of_length_eq_zero h0
          have ht' : ¬ t ≤ 0 := by rw [hx0] at ht; exact ht
          simp only [go_nil, go_inBlock, go_skip, go_seq, go_block, go_exit, go_ret, go_ops, go_opsr, go_cond, ex_nil, ex_code, ex_inLoop, ex_inBlock, goC_true, goC_false, goC_dec, goO_nil, goO_cons, goO_guard, goG_true, goG_false, goR_val, goR_skip, wantedX, X.put, X.look, look_hit, Arg.ev, keepOf, restrict, evs, evO, initEnv, xres, tup, xi_move, xi_pick, pick_bool, xi_bin, bin_add, bin_sub, bin_mul, bin_eql, bin_neq, bin_lss, bin_leq, bin_gtr, bin_geq, xi_load1, ld_ptr, xi_nilCheck, nilCheck_ptr, xi_fieldAddr, fieldAddr_ptr, xi_isNil, isNil_some, isNil_none, xi_extract, extract_tuple, xi_call, call_func, xi_len, len_slice, xi_un, un_not, xi_store, xi_box, box_int, box_ptr, box_slice, push_self, push_two, Mem.next_push, xi_calcB, calc_max, calc_min, goG_dec, goG_ndec, xi_indexAddr, indexAddr_at, xi_slice, xi_append, xi_clear, isNil_slice, xi_conv, xi_alloc, box_agg, box_string, box_bool, xi_buildSlice, xparts_nil, xparts_cons, xi_build, xi_field, field_one, xi_makeFunc, makeFunc_nil, xi_loadA, go_opsd, goD_nil, goD_cons, goDV0, goDV1, goDV2, goDV3, goDV3s, again_nil, again_cons, againE_val, veq_int, veq_slice, veq_ptr, veq_bool, veq_string, asNat_nat, asNat_zero, asNat_one, noTup, cls, quiet, Option.isNone_some, Option.isNone_none, Bool.and_true, Bool.and_self, Bool.true_and, Nat.add_zero, Nat.mul_one, Nat.mul_zero, Nat.zero_mul, List.length_map, Option.bind_some, Option.map_some, List.getElem?_cons_zero, List.getElem?_cons_succ, Nat.reduceAdd, Nat.reduceEqDiff, reduceIte, reduceCtorEq, goInt, bne_self_eq_false, Bool.false_bne, Bool.true_bne, Bool.not_true, Bool.not_false, decide_eq_true_eq, decide_eq_false_iff_not, Option.some.injEq, exists_eq_left', Nat.zero_add, beq_self_eq_true, cond_true, cond_false, eqb_t, eqb_f, Int.cast_ofNat_Int, eq_self, decide_true, decide_false, Int.reduceLT, Int.reduceLE, Int.reduceEq, Int.reduceNeg, Int.reduceAdd, Int.reduceSub, and_true, true_and, forall_const, Bool.true_eq_false, Bool.false_eq_true, false_implies, ne_eq, not_true_eq_false, not_false_eq_true, true_implies, Decidable.not_not, undef, List.size_toArray, List.length_nil, h1, h3, hpos, ht', goR_call hsq, hf, b1, a1, st2, goR_call hsq4]
          exact hQ _ _ _ rfl ⟨rfl, rfl⟩
        · have hpos : (0 : Int) < (xs.length : Int) := by omega
          obtain ⟨x, hx⟩ : ∃ x, xs[xs.length - 1]? = some x := ⟨_, List.getElem?_eq_getElem (by omega)⟩
          obtain ⟨a, c', o', hv, hg, hc⟩ := rd_at hrd hx
          cases hv
          have w1 : IntKind.i64.wrap ((xs.length : Int) - 1) = ((xs.length - 1 : Nat) : Int) := by rw [wrap_i64 (by omega) (by omega)]; omega
          have hlt : xs.length - 1 < xs.length := by omega
          have ht' : ¬ t ≤ x := by
            unfold lastOf at ht
            rw [List.getLast?_eq_getElem?, hx] at ht
            exact ht
          simp only [go_nil, go_inBlock, go_skip, go_seq, go_block, go_exit, go_ret, go_ops, go_opsr, go_cond, ex_nil, ex_code, ex_inLoop, ex_inBlock, goC_true, goC_false, goC_dec, goO_nil, goO_cons, goO_guard, goG_true, goG_false, goR_val, goR_skip, wantedX, X.put, X.look, look_hit, Arg.ev, keepOf, restrict, evs, evO, initEnv, xres, tup, xi_move, xi_pick, pick_bool, xi_bin, bin_add, bin_sub, bin_mul, bin_eql, bin_neq, bin_lss, bin_leq, bin_gtr, bin_geq, xi_load1, ld_ptr, xi_nilCheck, nilCheck_ptr, xi_fieldAddr, fieldAddr_ptr, xi_isNil, isNil_some, isNil_none, xi_extract, extract_tuple, xi_call, call_func, xi_len, len_slice, xi_un, un_not, xi_store, xi_box, box_int, box_ptr, box_slice, push_self, push_two, Mem.next_push, xi_calcB, calc_max, calc_min, goG_dec, goG_ndec, xi_indexAddr, indexAddr_at, xi_slice, xi_append, xi_clear, isNil_slice, xi_conv, xi_alloc, box_agg, box_string, box_bool, xi_buildSlice, xparts_nil, xparts_cons, xi_build, xi_field, field_one, xi_makeFunc, makeFunc_nil, xi_loadA, go_opsd, goD_nil, goD_cons, goDV0, goDV1, goDV2, goDV3, goDV3s, again_nil, again_cons, againE_val, veq_int, veq_slice, veq_ptr, veq_bool, veq_string, asNat_nat, asNat_zero, asNat_one, noTup, cls, quiet, Option.isNone_some, Option.isNone_none, Bool.and_true, Bool.and_self, Bool.true_and, Nat.add_zero, Nat.mul_one, Nat.mul_zero, Nat.zero_mul, List.length_map, Option.bind_some, Option.map_some, List.getElem?_cons_zero, List.getElem?_cons_succ, Nat.reduceAdd, Nat.reduceEqDiff, reduceIte, reduceCtorEq, goInt, bne_self_eq_false, Bool.false_bne, Bool.true_bne, Bool.not_true, Bool.not_false, decide_eq_true_eq, decide_eq_false_iff_not, Option.some.injEq, exists_eq_left', Nat.zero_add, beq_self_eq_true, cond_true, cond_false, eqb_t, eqb_f, Int.cast_ofNat_Int, eq_self, decide_true, decide_false, Int.reduceLT, Int.reduceLE, Int.reduceEq, Int.reduceNeg, Int.reduceAdd, Int.reduceSub, and_true, true_and, forall_const, Bool.true_eq_false, Bool.false_eq_true, false_implies, ne_eq, not_true_eq_false, not_false_eq_true, true_implies, Decidable.not_not, undef, List.size_toArray, List.length_nil, h1, h3, hpos, w1, hlt, hg, hc, ht', goR_call hsq, hf, b1, a1, st2, goR_call hsq4]
          exact hQ _ _ _ rfl ⟨rfl, rfl⟩
      · exact (f2.mono (S' := fun i => i = p ∨ i ∈ F) fun _ _ h => h.elim).comp ((a3.mono (S' := fun i => i = p ∨ i ∈ F) fun i _ h => .inr h).comp (f4.mono (S' := fun i => i = p ∨ i ∈ F) fun i _ h => .inl h) fun i _ h => h) fun i _ h => h
end

/-! ## A ring's copy -/
theorem cloneS_spec {F : List Nat} {m : Mem} {v : Value} {xs : List Int} (h : OwnU F m v xs) (hl : xs.length ≤ 100) : ∃ p n c m', Ca 21 [v] m (.slice p n c) m' ∧ Fm (fun _ => False) m m' := by
  obtain ⟨h1, h2, ⟨rfl, hn⟩ | ⟨id, o, cap, rest, rfl, h5, h6, h7, h8, h9, h10, h11⟩⟩ := h
  · refine ⟨none, 0, 0, m, ?_, .refl⟩
    refine callX_of (call_go (F := _) rfl rfl fun Q hQ => ?_)
    simp only [go_nil, go_inBlock, go_skip, go_seq, go_block, go_exit, go_ret, go_ops, go_opsr, go_cond, ex_nil, ex_code, ex_inLoop, ex_inBlock, goC_true, goC_false, goC_dec, goO_nil, goO_cons, goO_guard, goG_true, goG_false, goR_val, goR_skip, wantedX, X.put, X.look, look_hit, Arg.ev, keepOf, restrict, evs, evO, initEnv, xres, tup, xi_move, xi_pick, pick_bool, xi_bin, bin_add, bin_sub, bin_mul, bin_eql, bin_neq, bin_lss, bin_leq, bin_gtr, bin_geq, xi_load1, ld_ptr, xi_nilCheck, nilCheck_ptr, xi_fieldAddr, fieldAddr_ptr, xi_isNil, isNil_some, isNil_none, xi_extract, extract_tuple, xi_call, call_func, xi_len, len_slice, xi_un, un_not, xi_store, xi_box, box_int, box_ptr, box_slice, push_self, push_two, Mem.next_push, xi_calcB, calc_max, calc_min, goG_dec, goG_ndec, xi_indexAddr, indexAddr_at, xi_slice, xi_append, xi_clear, isNil_slice, xi_conv, xi_alloc, box_agg, box_string, box_bool, xi_buildSlice, xparts_nil, xparts_cons, xi_build, xi_field, field_one, xi_makeFunc, makeFunc_nil, xi_loadA, go_opsd, goD_nil, goD_cons, goDV0, goDV1, goDV2, goDV3, goDV3s, again_nil, again_cons, againE_val, veq_int, veq_slice, veq_ptr, veq_bool, veq_string, asNat_nat, asNat_zero, asNat_one, noTup, cls, quiet, Option.isNone_some, Option.isNone_none, Bool.and_true, Bool.and_self, Bool.true_and, Nat.add_zero, Nat.mul_one, Nat.mul_zero, Nat.zero_mul, List.length_map, Option.bind_some, Option.map_some, List.getElem?_cons_zero, List.getElem?_cons_succ, Nat.reduceAdd, Nat.reduceEqDiff, reduceIte, reduceCtorEq, goInt, bne_self_eq_false, Bool.false_bne, Bool.true_bne, Bool.not_true, Bool.not_false, decide_eq_true_eq, decide_eq_false_iff_not, Option.some.injEq, exists_eq_left', Nat.zero_add, beq_self_eq_true, cond_true, cond_false, eqb_t, eqb_f, Int.cast_ofNat_Int, eq_self, decide_true, decide_false, Int.reduceLT, Int.reduceLE, Int.reduceEq, Int.reduceNeg, Int.reduceAdd, Int.reduceSub, and_true, true_and, forall_const, Bool.true_eq_false, Bool.false_eq_true, false_implies, ne_eq, not_true_eq_false, not_false_eq_true, true_implies, Decidable.not_not, undef, List.size_toArray, List.length_nil]
    exact hQ _ _ _ rfl ⟨rfl, rfl⟩
  · have b1 : buildSliceE m [U 0] 1 0 [] = some (.val (.slice (some ⟨m.next, 0, none⟩) 0 0) (m.push { cells := [], rw := true, spare := none, kin := [] })) := by kernel_rfl
    generalize hm1 : m.push { cells := [], rw := true, spare := none, kin := [] } = m1 at b1
    have f1 : Fm (fun _ => False) m m1 := hm1 ▸ Fm.push
    have g1 : m1.get id = some o := f1.get (h2 _ h6) (fun h => h) h5
    by_cases h0 : xs.length = 0
    · rw [h0]
      have a1 : appendE m1 1 8 [U 0] (.slice (some ⟨m.next, 0, none⟩) 0 0) (.slice (some ⟨id, 0, some 0⟩) 0 cap) = some (.val (.slice (some ⟨m.next, 0, none⟩) 0 0) m1) := by
        simp [appendE, xlen, xfirst, xappend]
      refine ⟨some ⟨m.next, 0, none⟩, 0, 0, m1, ?_, f1⟩
      refine callX_of (call_go (F := _) rfl rfl fun Q hQ => ?_)
      simp only [go_nil, go_inBlock, go_skip, go_seq, go_block, go_exit, go_ret, go_ops, go_opsr, go_cond, ex_nil, ex_code, ex_inLoop, ex_inBlock, goC_true, goC_false, goC_dec, goO_nil, goO_cons, goO_guard, goG_true, goG_false, goR_val, goR_skip, wantedX, X.put, X.look, look_hit, Arg.ev, keepOf, restrict, evs, evO, initEnv, xres, tup, xi_move, xi_pick, pick_bool, xi_bin, bin_add, bin_sub, bin_mul, bin_eql, bin_neq, bin_lss, bin_leq, bin_gtr, bin_geq, xi_load1, ld_ptr, xi_nilCheck, nilCheck_ptr, xi_fieldAddr, fieldAddr_ptr, xi_isNil, isNil_some, isNil_none, xi_extract, extract_tuple, xi_call, call_func, xi_len, len_slice, xi_un, un_not, xi_store, xi_box, box_int, box_ptr, box_slice, push_self, push_two, Mem.next_push, xi_calcB, calc_max, calc_min, goG_dec, goG_ndec, xi_indexAddr, indexAddr_at, xi_slice, xi_append, xi_clear, isNil_slice, xi_conv, xi_alloc, box_agg, box_string, box_bool, xi_buildSlice, xparts_nil, xparts_cons, xi_build, xi_field, field_one, xi_makeFunc, makeFunc_nil, xi_loadA, go_opsd, goD_nil, goD_cons, goDV0, goDV1, goDV2, goDV3, goDV3s, again_nil, again_cons, againE_val, veq_int, veq_slice, veq_ptr, veq_bool, veq_string, asNat_nat, asNat_zero, asNat_one, noTup, cls, quiet, Option.isNone_some, Option.isNone_none, Bool.and_true, Bool.and_self, Bool.true_and, Nat.add_zero, Nat.mul_one, Nat.mul_zero, Nat.zero_mul, List.length_map, Option.bind_some, Option.map_some, List.getElem?_cons_zero, List.getElem?_cons_succ, Nat.reduceAdd, Nat.reduceEqDiff, reduceIte, reduceCtorEq, goInt, bne_self_eq_false, Bool.false_bne, Bool.true_bne, Bool.not_true, Bool.not_false, decide_eq_true_eq, decide_eq_false_iff_not, Option.some.injEq, exists_eq_left', Nat.zero_add, beq_self_eq_true, cond_true, cond_false, eqb_t, eqb_f, Int.cast_ofNat_Int, eq_self, decide_true, decide_false, Int.reduceLT, Int.reduceLE, Int.reduceEq, Int.reduceNeg, Int.reduceAdd, Int.reduceSub, and_true, true_and, forall_const, Bool.true_eq_false, Bool.false_eq_true, false_implies, ne_eq, not_true_eq_false, not_false_eq_true, true_implies, Decidable.not_not, undef, List.size_toArray, List.length_nil, b1, a1]
      exact hQ _ _ _ rfl ⟨rfl, rfl⟩
    · have hld := xload_own (m := m1) (off := 0) (c := xs.length) g1 (by rw [h10]; simp)
      have a1 : appendE m1 1 8 [U 0] (.slice (some ⟨m.next, 0, none⟩) 0 0) (.slice (some ⟨id, 0, some 0⟩) xs.length cap) = some (.val (.slice (some ⟨m1.next, 0, some 0⟩) (0 + xs.length) (0 + xs.length)) (m1.push { cells := [] ++ (o.cells.drop 0).take xs.length, rw := true, spare := some 1, kin := [] })) := by
        simp only [appendE, xlen, xfirst, if_neg h0, Option.bind_some, Nat.mul_one, hld, List.length_cons, List.length_nil, Nat.zero_add, if_true, xappend]
        rw [if_neg (by omega), if_pos (by omega)]
        rfl
      refine ⟨some ⟨m1.next, 0, some 0⟩, xs.length, xs.length, m1.push { cells := [] ++ (o.cells.drop 0).take xs.length, rw := true, spare := some 1, kin := [] }, ?_, f1.comp (Fm.push (S := fun _ => False)) (fun _ _ h => h)⟩
      refine callX_of (call_go (F := _) rfl rfl fun Q hQ => ?_)
      simp only [go_nil, go_inBlock, go_skip, go_seq, go_block, go_exit, go_ret, go_ops, go_opsr, go_cond, ex_nil, ex_code, ex_inLoop, ex_inBlock, goC_true, goC_false, goC_dec, goO_nil, goO_cons, goO_guard, goG_true, goG_false, goR_val, goR_skip, wantedX, X.put, X.look, look_hit, Arg.ev, keepOf, restrict, evs, evO, initEnv, xres, tup, xi_move, xi_pick, pick_bool, xi_bin, bin_add, bin_sub, bin_mul, bin_eql, bin_neq, bin_lss, bin_leq, bin_gtr, bin_geq, xi_load1, ld_ptr, xi_nilCheck, nilCheck_ptr, xi_fieldAddr, fieldAddr_ptr, xi_isNil, isNil_some, isNil_none, xi_extract, extract_tuple, xi_call, call_func, xi_len, len_slice, xi_un, un_not, xi_store, xi_box, box_int, box_ptr, box_slice, push_self, push_two, Mem.next_push, xi_calcB, calc_max, calc_min, goG_dec, goG_ndec, xi_indexAddr, indexAddr_at, xi_slice, xi_append, xi_clear, isNil_slice, xi_conv, xi_alloc, box_agg, box_string, box_bool, xi_buildSlice, xparts_nil, xparts_cons, xi_build, xi_field, field_one, xi_makeFunc, makeFunc_nil, xi_loadA, go_opsd, goD_nil, goD_cons, goDV0, goDV1, goDV2, goDV3, goDV3s, again_nil, again_cons, againE_val, veq_int, veq_slice, veq_ptr, veq_bool, veq_string, asNat_nat, asNat_zero, asNat_one, noTup, cls, quiet, Option.isNone_some, Option.isNone_none, Bool.and_true, Bool.and_self, Bool.true_and, Nat.add_zero, Nat.mul_one, Nat.mul_zero, Nat.zero_mul, List.length_map, Option.bind_some, Option.map_some, List.getElem?_cons_zero, List.getElem?_cons_succ, Nat.reduceAdd, Nat.reduceEqDiff, reduceIte, reduceCtorEq, goInt, bne_self_eq_false, Bool.false_bne, Bool.true_bne, Bool.not_true, Bool.not_false, decide_eq_true_eq, decide_eq_false_iff_not, Option.some.injEq, exists_eq_left', Nat.zero_add, beq_self_eq_true, cond_true, cond_false, eqb_t, eqb_f, Int.cast_ofNat_Int, eq_self, decide_true, decide_false, Int.reduceLT, Int.reduceLE, Int.reduceEq, Int.reduceNeg, Int.reduceAdd, Int.reduceSub, and_true, true_and, forall_const, Bool.true_eq_false, Bool.false_eq_true, false_implies, ne_eq, not_true_eq_false, not_false_eq_true, true_implies, Decidable.not_not, undef, List.size_toArray, List.length_nil, b1, a1]
      exact hQ _ _ _ rfl ⟨rfl, rfl⟩

theorem clone_spec {F : List Nat} {m : Mem} {p : Nat} {size begin seq : Int} {xs : List Int} (h : RingAt F m p size begin seq xs) (hs : Small size begin seq xs) :
    ∃ m' o', Ca 13 [Pt p] m (Pt m.next) m' ∧ m'.get m.next = some o' ∧ (∃ sl, o'.cells = [I size, I begin, I seq, sl]) ∧ Fm (fun _ => False) m m' ∧ m.next < m'.next := by
  obtain ⟨sl, o, h1, h2, h3, h4, h5, h6, h7⟩ := h
  obtain ⟨s1, s2, s3, s4, s5, s6, s7⟩ := hs
  have hld : xload m ⟨p, 0, none⟩ 4 = some [I size, I begin, I seq, sl] := by rw [xload_own h1 (by simp [h3])]; simp [h3]
  have b1 : ldA m 4 (Pt p) = some (.val (.agg #[I size, I begin, I seq, sl]) m) := by simp [ldA, hld]
  let z : XObj := { cells := [I 0, I 0, I 0, .slice none 0 0], rw := true, spare := none, kin := [] }
  let c0 : XObj := { cells := [I size, I begin, I seq, sl], rw := true, spare := none, kin := [] }
  have st1 : storeE (m.push z) 4 (.pointer (some ⟨m.next, 0, none⟩)) (.agg #[I size, I begin, I seq, sl]) = some (.skip ((m.push z).set m.next c0)) := by
    simp [storeE, Value.cells, noTup, xstore, push_self, z, c0, Mem.eraseAll, setAll]
  have g1 : ((m.push z).set m.next c0).get m.next = some c0 := by rw [Mem.get_set, if_pos rfl]
  have f1 : Fm (fun _ => False) m ((m.push z).set m.next c0) := (Fm.push (S := fun _ => False)).comp (Fm.set (S := (· = m.next)) rfl) (fun i hi h => by omega)
  have hn1 : ((m.push z).set m.next c0).next = m.next + 1 := by simp
  have hz : (m.push { cells := [.int .i64 0, .int .i64 0, .int .i64 0, .slice none 0 0], rw := true, spare := none, kin := [] }) = m.push z := rfl
  generalize hm2 : (m.push z).set m.next c0 = m2 at st1 g1 f1 hn1
  have o2 : OwnU F m2 sl xs := h7.fr f1 (fun _ _ h => h)
  have gp : m2.get p = some o := f1.get h2 (fun h => h) h1
  obtain ⟨q, n, c, m3, k1, k2⟩ := cloneS_spec o2 (by omega)
  have g3 : m3.get m.next = some c0 := k2.get (by omega) (fun h => h) g1
  have st2 : storeE m3 1 (.pointer (some ⟨m.next, 3, none⟩)) (.slice q n c) = some (.skip (put1 m3 m.next 3 c0 (.slice q n c))) := store1 g3 rfl rfl (by simp [c0]) rfl rfl
  refine ⟨put1 m3 m.next 3 c0 (.slice q n c), _, ?_, get_put1, ⟨.slice q n c, rfl⟩, (f1.comp k2 fun _ _ h => h).comp fm_put1 (fun i hi h => by omega), ?_⟩
  · refine callX_of (call_go (F := _) rfl rfl fun Q hQ => ?_)
    simp only [go_nil, go_inBlock, go_skip, go_seq, go_block, go_exit, go_ret, go_ops, go_opsr, go_cond, ex_nil, ex_code, ex_inLoop, ex_inBlock, goC_true, goC_false, goC_dec, goO_nil, goO_cons, goO_guard, goG_true, goG_false, goR_val, goR_skip, wantedX, X.put, X.look, look_hit, Arg.ev, keepOf, restrict, evs, evO, initEnv, xres, tup, xi_move, xi_pick, pick_bool, xi_bin, bin_add, bin_sub, bin_mul, bin_eql, bin_neq, bin_lss, bin_leq, bin_gtr, bin_geq, xi_load1, ld_ptr, xi_nilCheck, nilCheck_ptr, xi_fieldAddr, fieldAddr_ptr, xi_isNil, isNil_some, isNil_none, xi_extract, extract_tuple, xi_call, call_func, xi_len, len_slice, xi_un, un_not, xi_store, xi_box, box_int, box_ptr, box_slice, push_self, push_two, Mem.next_push, xi_calcB, calc_max, calc_min, goG_dec, goG_ndec, xi_indexAddr, indexAddr_at, xi_slice, xi_append, xi_clear, isNil_slice, xi_conv, xi_alloc, box_agg, box_string, box_bool, xi_buildSlice, xparts_nil, xparts_cons, xi_build, xi_field, field_one, xi_makeFunc, makeFunc_nil, xi_loadA, go_opsd, goD_nil, goD_cons, goDV0, goDV1, goDV2, goDV3, goDV3s, again_nil, again_cons, againE_val, veq_int, veq_slice, veq_ptr, veq_bool, veq_string, asNat_nat, asNat_zero, asNat_one, noTup, cls, quiet, Option.isNone_some, Option.isNone_none, Bool.and_true, Bool.and_self, Bool.true_and, Nat.add_zero, Nat.mul_one, Nat.mul_zero, Nat.zero_mul, List.length_map, Option.bind_some, Option.map_some, List.getElem?_cons_zero, List.getElem?_cons_succ, Nat.reduceAdd, Nat.reduceEqDiff, reduceIte, reduceCtorEq, goInt, bne_self_eq_false, Bool.false_bne, Bool.true_bne, Bool.not_true, Bool.not_false, decide_eq_true_eq, decide_eq_false_iff_not, Option.some.injEq, exists_eq_left', Nat.zero_add, beq_self_eq_true, cond_true, cond_false, eqb_t, eqb_f, Int.cast_ofNat_Int, eq_self, decide_true, decide_false, Int.reduceLT, Int.reduceLE, Int.reduceEq, Int.reduceNeg, Int.reduceAdd, Int.reduceSub, and_true, true_and, forall_const, Bool.true_eq_false, Bool.false_eq_true, false_implies, ne_eq, not_true_eq_false, not_false_eq_true, true_implies, Decidable.not_not, undef, List.size_toArray, List.length_nil, b1, hz, st1, gp, h3, goR_call k1, st2]
    exact hQ _ _ _ rfl ⟨rfl, rfl⟩
  · have := k2.next
    show m.next < m3.next
    omega

theorem seqc_spec {m : Mem} {c : Nat} {o : XObj} {size begin seq : Int} {sl : Value} (h : m.get c = some o) (hc : o.cells = [I size, I begin, I seq, sl]) : Ca 12 [Pt c] m (I seq) m := by
  refine callX_of (call_go (F := _) rfl rfl fun Q hQ => ?_)
  simp only [go_nil, go_inBlock, go_skip, go_seq, go_block, go_exit, go_ret, go_ops, go_opsr, go_cond, ex_nil, ex_code, ex_inLoop, ex_inBlock, goC_true, goC_false, goC_dec, goO_nil, goO_cons, goO_guard, goG_true, goG_false, goR_val, goR_skip, wantedX, X.put, X.look, look_hit, Arg.ev, keepOf, restrict, evs, evO, initEnv, xres, tup, xi_move, xi_pick, pick_bool, xi_bin, bin_add, bin_sub, bin_mul, bin_eql, bin_neq, bin_lss, bin_leq, bin_gtr, bin_geq, xi_load1, ld_ptr, xi_nilCheck, nilCheck_ptr, xi_fieldAddr, fieldAddr_ptr, xi_isNil, isNil_some, isNil_none, xi_extract, extract_tuple, xi_call, call_func, xi_len, len_slice, xi_un, un_not, xi_store, xi_box, box_int, box_ptr, box_slice, push_self, push_two, Mem.next_push, xi_calcB, calc_max, calc_min, goG_dec, goG_ndec, xi_indexAddr, indexAddr_at, xi_slice, xi_append, xi_clear, isNil_slice, xi_conv, xi_alloc, box_agg, box_string, box_bool, xi_buildSlice, xparts_nil, xparts_cons, xi_build, xi_field, field_one, xi_makeFunc, makeFunc_nil, xi_loadA, go_opsd, goD_nil, goD_cons, goDV0, goDV1, goDV2, goDV3, goDV3s, again_nil, again_cons, againE_val, veq_int, veq_slice, veq_ptr, veq_bool, veq_string, asNat_nat, asNat_zero, asNat_one, noTup, cls, quiet, Option.isNone_some, Option.isNone_none, Bool.and_true, Bool.and_self, Bool.true_and, Nat.add_zero, Nat.mul_one, Nat.mul_zero, Nat.zero_mul, List.length_map, Option.bind_some, Option.map_some, List.getElem?_cons_zero, List.getElem?_cons_succ, Nat.reduceAdd, Nat.reduceEqDiff, reduceIte, reduceCtorEq, goInt, bne_self_eq_false, Bool.false_bne, Bool.true_bne, Bool.not_true, Bool.not_false, decide_eq_true_eq, decide_eq_false_iff_not, Option.some.injEq, exists_eq_left', Nat.zero_add, beq_self_eq_true, cond_true, cond_false, eqb_t, eqb_f, Int.cast_ofNat_Int, eq_self, decide_true, decide_false, Int.reduceLT, Int.reduceLE, Int.reduceEq, Int.reduceNeg, Int.reduceAdd, Int.reduceSub, and_true, true_and, forall_const, Bool.true_eq_false, Bool.false_eq_true, false_implies, ne_eq, not_true_eq_false, not_false_eq_true, true_implies, Decidable.not_not, undef, List.size_toArray, List.length_nil, h, hc]
  exact hQ _ _ _ rfl ⟨rfl, rfl⟩

/-! ## The plain law -/
theorem upto_take_drop (L : List Int) (t : Int) (k : Nat) : upto L t = upto (L.take k) t + upto (L.drop k) t := by
  unfold upto
  rw [← List.countP_append, List.take_append_drop]

theorem asof_ref {size begin seq : Int} {L : List Int} {t : Int} (h1 : 1 ≤ size) (hs : L.Pairwise (· < ·)) (hq : seq = begin + L.length) :
    asofV size begin seq (L.drop (L.length - size.toNat)) t = refV size begin L t := by
  have hu := upto_take_drop L t (L.length - size.toNat)
  have hl1 : upto (L.take (L.length - size.toNat)) t ≤ (L.take (L.length - size.toNat)).length := List.countP_le_length
  have hl2 : upto (L.drop (L.length - size.toNat)) t ≤ (L.drop (L.length - size.toNat)).length := List.countP_le_length
  rw [List.length_take] at hl1
  rw [List.length_drop] at hl2
  unfold asofV refV floorOf
  rw [List.length_drop]
  by_cases h0 : upto (L.drop (L.length - size.toNat)) t = 0
  · -- none is
    by_cases hk : L.length - size.toNat = 0
    · rw [hk] at hu h0 hl1 ⊢
      simp only [List.drop_zero, List.take_zero] at hu h0 ⊢
      have : upto L t = 0 := h0
      by_cases hc : size ≤ L.length - (upto L t : Int)
      · rw [if_pos hc, if_pos (by omega)]
      · rw [if_neg hc, if_neg (by omega)]
        simp only [Prod.mk.injEq, and_true]; omega
    · rw [if_pos (by omega), if_pos (by omega)]
  · -- some are
    have hall : upto (L.take (L.length - size.toNat)) t = L.length - size.toNat := by
      have : 0 < upto (L.drop (L.length - size.toNat)) t := by omega
      obtain ⟨y, hy, hyt⟩ := List.countP_pos_iff.1 this
      have hy' : y ≤ t := by simpa using hyt
      have : upto (L.take (L.length - size.toNat)) t = (L.take (L.length - size.toNat)).length := by
        unfold upto
        rw [List.countP_eq_length]
        intro x hx
        have hs' := hs
        rw [← List.take_append_drop (L.length - size.toNat) L, List.pairwise_append] at hs'
        have := hs'.2.2 x hx y hy
        simp; omega
      rw [this, List.length_take]; omega
    by_cases hc : size ≤ L.length - (upto L t : Int)
    · rw [if_pos hc, if_pos (by omega)]
    · rw [if_neg hc, if_neg (by omega)]
      simp only [Prod.mk.injEq, and_true]; omega

theorem last_drop {L : List Int} {k : Nat} (h : k < L.length) : lastOf (L.drop k) = lastOf L := by
  unfold lastOf
  rw [List.getLast?_drop, if_neg (by omega)]

theorem push_ref {size begin seq : Int} {L : List Int} {t : Int} (h1 : 1 ≤ size) (hq : seq = begin + L.length) :
    ∃ L' r e, rpushV begin L t = (L', r, e) ∧ pushV size seq (L.drop (L.length - size.toNat)) t = (begin + L'.length, L'.drop (L'.length - size.toNat), r, e) ∧ L'.length ≤ L.length + 1 ∧ (L.Pairwise (· < ·) → L'.Pairwise (· < ·)) := by
  have hlast : lastOf (L.drop (L.length - size.toNat)) = lastOf L := by
    by_cases h0 : L.length = 0
    · have := List.eq_nil_of_length_eq_zero h0
      subst this; simp
    · exact last_drop (by omega)
  unfold rpushV pushV
  rw [hlast]
  by_cases ht : t ≤ lastOf L
  · rw [if_pos ht, if_pos ht]
    exact ⟨L, 0, 1, rfl, by rw [hq], by omega, fun h => h⟩
  · rw [if_neg ht, if_neg ht]
    by_cases hf : 1073741824 ≤ seq
    · rw [if_pos (by omega), if_pos hf]
      exact ⟨L, 0, 17, rfl, by rw [hq], by omega, fun h => h⟩
    · rw [if_neg (by omega), if_neg hf]
      refine ⟨L ++ [t], _, 0, rfl, ?_, by simp, fun h => sorted_push h ht⟩
      have e1 : pushed size (L.drop (L.length - size.toNat)) t = (L ++ [t]).drop ((L ++ [t]).length - size.toNat) := by
        unfold pushed
        have e2 : (L.drop (L.length - size.toNat)) ++ [t] = (L ++ [t]).drop (L.length - size.toNat) := by rw [List.drop_append_of_le_length (by omega)]
        rw [e2, List.drop_drop]
        simp only [List.length_drop, List.length_append, List.length_cons, List.length_nil]
        congr 1; omega
      rw [e1, hq]
      simp only [List.length_append, List.length_cons, List.length_nil, Prod.mk.injEq, and_true, true_and]
      first | omega | exact ⟨by omega, by omega⟩
end Go.Proofs.Ytbcoijgoipnelaa
