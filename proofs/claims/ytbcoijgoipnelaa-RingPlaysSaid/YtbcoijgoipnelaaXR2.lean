/-
  Own work. What the ring's functions come to: slices, Push, AsOf, Clone.
-/
import Derived.Test.YtbcoijgoipnelaaXR1
namespace Go.Proofs.Ytbcoijgoipnelaa
open Go X
set_option maxRecDepth 100000
set_option linter.unusedVariables false
set_option linter.unusedSimpArgs false

abbrev OwnU (F : List Nat) (m : Mem) (v : Value) (xs : List Int) : Prop := OwnS 1 F m v xs.length (xs.map U)

theorem own_rd {F : List Nat} {m : Mem} {v : Value} {xs : List Int} (h : OwnU F m v xs) : RdS m.next m 1 v (rowsU xs) := by
  obtain ⟨h1, h2, ⟨rfl, hn⟩ | ⟨id, o, cap, rest, rfl, h5, h6, h7, h8, h9, h10, h11⟩⟩ := h
  · have : xs = [] := List.eq_nil_of_length_eq_zero hn
    subst this
    exact .nil
  · refine ⟨some ⟨id, 0, some 0⟩, cap, by simp, ?_, fun i r hr => ?_⟩
    · have := h11
      rw [h10] at this
      simp at this ⊢; omega
    · simp only [List.getElem?_map, Option.map_eq_some_iff] at hr
      obtain ⟨x, hx, rfl⟩ := hr
      refine ⟨rfl, _, o, rfl, h2 _ h6, h5, fun j hj => ?_⟩
      have hj0 : j = 0 := by omega
      subst hj0
      have hi := (List.getElem?_eq_some_iff.1 hx).1
      rw [h10, List.getElem?_append_left (by simp; omega)]
      simp [hx]

theorem drop_map {xs : List Int} {k : Nat} : (xs.map U).take (0 * 1) ++ (xs.map U).drop (k * 1) = (xs.drop k).map U := by simp

theorem delete_spec {F : List Nat} {m : Mem} {v : Value} {xs : List Int} {k : Nat} (h : OwnU F m v xs) (h0 : 0 < k) (hk : k ≤ xs.length) (hl : xs.length ≤ 4611686018427387903) :
    ∃ v' m', Ca 19 [v, I 0, I k] m v' m' ∧ OwnU F m' v' (xs.drop k) ∧ Fm (· ∈ F) m m' := by
  obtain ⟨id, o, cap, m1, o1, m2, rfl, hcap, hg, hsp, k1, k2, k3, k4, k5, k6⟩ := OwnS.delete (bytes := 8) (zero := [U 0]) (i := 0) (j := k) h rfl (by omega) h0 hk
  refine ⟨.slice (some ⟨id, 0, some 0⟩) (xs.length - k) cap, m2, ?_, ?_, k6⟩
  · refine callX_of (call_go (F := _) rfl rfl fun Q hQ => ?_)
    obtain ⟨v3, hv3⟩ := slice_three (m := m) (size := 1) (n := xs.length) (id := id) (off := 0) (a := 0) (b := k) (k := xs.length) (cap := cap) (kd := .i64) (Nat.zero_le _) hk hcap
    have s1 := slice_hi (n := xs.length) (off := 0) (k := 0) (cap := cap) (kd := .i64) hg hsp (Nat.zero_le _)
    have s2 := slice_lo (n := xs.length) (off := 0) (k := k) (cap := cap) (kd := .i64) hg hsp hk
    have s3 := slice_lohi (n := 0 + (xs.length - k)) (off := 0) (a := 0 + (xs.length - k)) (b := xs.length) (cap := cap) (kd := .i64) k2 k3 (by omega) hcap
    have hne : ¬ (0 : Int) = (k : Int) := by omega
    simp only [Int.ofNat_zero, Nat.zero_add, Nat.mul_one] at hv3 s1 s2 s3 k1 k4
    simp only [go_nil, go_inBlock, go_skip, go_seq, go_block, go_exit, go_ret, go_ops, go_opsr, go_cond, ex_nil, ex_code, ex_inLoop, ex_inBlock, goC_true, goC_false, goC_dec, goO_nil, goO_cons, goO_guard, goG_true, goG_false, goR_val, goR_skip, wantedX, X.put, X.look, look_hit, Arg.ev, keepOf, restrict, evs, evO, initEnv, xres, tup, xi_move, xi_pick, pick_bool, xi_bin, bin_add, bin_sub, bin_mul, bin_eql, bin_neq, bin_lss, bin_leq, bin_gtr, bin_geq, xi_load1, ld_ptr, xi_nilCheck, nilCheck_ptr, xi_fieldAddr, fieldAddr_ptr, xi_isNil, isNil_some, isNil_none, xi_extract, extract_tuple, xi_call, call_func, xi_len, len_slice, xi_un, un_not, xi_store, xi_box, box_int, box_ptr, box_slice, push_self, push_two, Mem.next_push, xi_calcB, calc_max, calc_min, goG_dec, goG_ndec, xi_indexAddr, indexAddr_at, xi_slice, xi_append, xi_clear, isNil_slice, xi_conv, xi_alloc, box_agg, box_string, box_bool, xi_buildSlice, xparts_nil, xparts_cons, xi_build, xi_field, field_one, xi_makeFunc, makeFunc_nil, xi_loadA, go_opsd, goD_nil, goD_cons, goDV0, goDV1, goDV2, goDV3, goDV3s, again_nil, again_cons, againE_val, veq_int, veq_slice, veq_ptr, veq_bool, veq_string, asNat_nat, asNat_zero, asNat_one, noTup, cls, quiet, Option.isNone_some, Option.isNone_none, Bool.and_true, Bool.and_self, Bool.true_and, Nat.add_zero, Nat.mul_one, Nat.mul_zero, Nat.zero_mul, List.length_map, Option.bind_some, Option.map_some, List.getElem?_cons_zero, List.getElem?_cons_succ, Nat.reduceAdd, Nat.reduceEqDiff, reduceIte, reduceCtorEq, goInt, bne_self_eq_false, Bool.false_bne, Bool.true_bne, Bool.not_true, Bool.not_false, decide_eq_true_eq, decide_eq_false_iff_not, Option.some.injEq, exists_eq_left', Nat.zero_add, beq_self_eq_true, cond_true, cond_false, eqb_t, eqb_f, Int.cast_ofNat_Int, eq_self, decide_true, decide_false, Int.reduceLT, Int.reduceLE, Int.reduceEq, Int.reduceNeg, Int.reduceAdd, Int.reduceSub, and_true, true_and, forall_const, Bool.true_eq_false, Bool.false_eq_true, false_implies, ne_eq, not_true_eq_false, not_false_eq_true, true_implies, Decidable.not_not, hv3, hne, s1, s2, s3, k1, k4]
    exact ⟨by simp [List.filter_cons, Nat.testBit_eq_decide_div_mod_eq, again_nil], hQ _ _ _ rfl ⟨rfl, rfl⟩⟩
  · have := k5
    rw [drop_map, Nat.zero_add] at this
    rw [OwnU, List.length_drop]
    exact this

/-! ## The ring -/
/-- A ring stands at p. -/
def RingAt (F : List Nat) (m : Mem) (p : Nat) (size begin seq : Int) (xs : List Int) : Prop :=
  ∃ sl o, m.get p = some o ∧ p < m.next ∧ o.cells = [I size, I begin, I seq, sl] ∧ o.rw = true ∧ o.kin = [] ∧ p ∉ F ∧ OwnU F m sl xs

section
variable {F : List Nat} {m m' : Mem} {p : Nat} {size begin seq : Int} {xs : List Int}
theorem RingAt.fr {S : Nat → Prop} (h : RingAt F m p size begin seq xs) (hf : Fm S m m') (hp : ¬ S p) (hs : ∀ i ∈ F, ¬ S i) : RingAt F m' p size begin seq xs := by
  obtain ⟨sl, o, h1, h2, h3, h4, h5, h6, h7⟩ := h
  exact ⟨sl, o, hf.get h2 hp h1, Nat.lt_of_lt_of_le h2 hf.next, h3, h4, h5, h6, h7.fr hf hs⟩
theorem RingAt.lt (h : RingAt F m p size begin seq xs) : p < m.next ∧ ∀ i ∈ F, i < m.next := by
  obtain ⟨sl, o, h1, h2, h3, h4, h5, h6, h7⟩ := h
  exact ⟨h2, h7.lt⟩

theorem seq_spec (h : RingAt F m p size begin seq xs) : Ca 12 [Pt p] m (I seq) m := by
  obtain ⟨sl, o, h1, h2, h3, h4, h5, h6, h7⟩ := h
  refine callX_of (call_go (F := _) rfl rfl fun Q hQ => ?_)
  simp only [go_nil, go_inBlock, go_skip, go_seq, go_block, go_exit, go_ret, go_ops, go_opsr, go_cond, ex_nil, ex_code, ex_inLoop, ex_inBlock, goC_true, goC_false, goC_dec, goO_nil, goO_cons, goO_guard, goG_true, goG_false, goR_val, goR_skip, wantedX, X.put, X.look, look_hit, Arg.ev, keepOf, restrict, evs, evO, initEnv, xres, tup, xi_move, xi_pick, pick_bool, xi_bin, bin_add, bin_sub, bin_mul, bin_eql, bin_neq, bin_lss, bin_leq, bin_gtr, bin_geq, xi_load1, ld_ptr, xi_nilCheck, nilCheck_ptr, xi_fieldAddr, fieldAddr_ptr, xi_isNil, isNil_some, isNil_none, xi_extract, extract_tuple, xi_call, call_func, xi_len, len_slice, xi_un, un_not, xi_store, xi_box, box_int, box_ptr, box_slice, push_self, push_two, Mem.next_push, xi_calcB, calc_max, calc_min, goG_dec, goG_ndec, xi_indexAddr, indexAddr_at, xi_slice, xi_append, xi_clear, isNil_slice, xi_conv, xi_alloc, box_agg, box_string, box_bool, xi_buildSlice, xparts_nil, xparts_cons, xi_build, xi_field, field_one, xi_makeFunc, makeFunc_nil, xi_loadA, go_opsd, goD_nil, goD_cons, goDV0, goDV1, goDV2, goDV3, goDV3s, again_nil, again_cons, againE_val, veq_int, veq_slice, veq_ptr, veq_bool, veq_string, asNat_nat, asNat_zero, asNat_one, noTup, cls, quiet, Option.isNone_some, Option.isNone_none, Bool.and_true, Bool.and_self, Bool.true_and, Nat.add_zero, Nat.mul_one, Nat.mul_zero, Nat.zero_mul, List.length_map, Option.bind_some, Option.map_some, List.getElem?_cons_zero, List.getElem?_cons_succ, Nat.reduceAdd, Nat.reduceEqDiff, reduceIte, reduceCtorEq, goInt, bne_self_eq_false, Bool.false_bne, Bool.true_bne, Bool.not_true, Bool.not_false, decide_eq_true_eq, decide_eq_false_iff_not, Option.some.injEq, exists_eq_left', Nat.zero_add, beq_self_eq_true, cond_true, cond_false, eqb_t, eqb_f, Int.cast_ofNat_Int, eq_self, decide_true, decide_false, Int.reduceLT, Int.reduceLE, Int.reduceEq, Int.reduceNeg, Int.reduceAdd, Int.reduceSub, and_true, true_and, forall_const, Bool.true_eq_false, Bool.false_eq_true, false_implies, ne_eq, not_true_eq_false, not_false_eq_true, true_implies, Decidable.not_not, h1, h3]
  exact hQ _ _ _ rfl ⟨rfl, rfl⟩

theorem size_spec (h : RingAt F m p size begin seq xs) : Ca 16 [Pt p] m (I size) m := by
  obtain ⟨sl, o, h1, h2, h3, h4, h5, h6, h7⟩ := h
  refine callX_of (call_go (F := _) rfl rfl fun Q hQ => ?_)
  simp only [go_nil, go_inBlock, go_skip, go_seq, go_block, go_exit, go_ret, go_ops, go_opsr, go_cond, ex_nil, ex_code, ex_inLoop, ex_inBlock, goC_true, goC_false, goC_dec, goO_nil, goO_cons, goO_guard, goG_true, goG_false, goR_val, goR_skip, wantedX, X.put, X.look, look_hit, Arg.ev, keepOf, restrict, evs, evO, initEnv, xres, tup, xi_move, xi_pick, pick_bool, xi_bin, bin_add, bin_sub, bin_mul, bin_eql, bin_neq, bin_lss, bin_leq, bin_gtr, bin_geq, xi_load1, ld_ptr, xi_nilCheck, nilCheck_ptr, xi_fieldAddr, fieldAddr_ptr, xi_isNil, isNil_some, isNil_none, xi_extract, extract_tuple, xi_call, call_func, xi_len, len_slice, xi_un, un_not, xi_store, xi_box, box_int, box_ptr, box_slice, push_self, push_two, Mem.next_push, xi_calcB, calc_max, calc_min, goG_dec, goG_ndec, xi_indexAddr, indexAddr_at, xi_slice, xi_append, xi_clear, isNil_slice, xi_conv, xi_alloc, box_agg, box_string, box_bool, xi_buildSlice, xparts_nil, xparts_cons, xi_build, xi_field, field_one, xi_makeFunc, makeFunc_nil, xi_loadA, go_opsd, goD_nil, goD_cons, goDV0, goDV1, goDV2, goDV3, goDV3s, again_nil, again_cons, againE_val, veq_int, veq_slice, veq_ptr, veq_bool, veq_string, asNat_nat, asNat_zero, asNat_one, noTup, cls, quiet, Option.isNone_some, Option.isNone_none, Bool.and_true, Bool.and_self, Bool.true_and, Nat.add_zero, Nat.mul_one, Nat.mul_zero, Nat.zero_mul, List.length_map, Option.bind_some, Option.map_some, List.getElem?_cons_zero, List.getElem?_cons_succ, Nat.reduceAdd, Nat.reduceEqDiff, reduceIte, reduceCtorEq, goInt, bne_self_eq_false, Bool.false_bne, Bool.true_bne, Bool.not_true, Bool.not_false, decide_eq_true_eq, decide_eq_false_iff_not, Option.some.injEq, exists_eq_left', Nat.zero_add, beq_self_eq_true, cond_true, cond_false, eqb_t, eqb_f, Int.cast_ofNat_Int, eq_self, decide_true, decide_false, Int.reduceLT, Int.reduceLE, Int.reduceEq, Int.reduceNeg, Int.reduceAdd, Int.reduceSub, and_true, true_and, forall_const, Bool.true_eq_false, Bool.false_eq_true, false_implies, ne_eq, not_true_eq_false, not_false_eq_true, true_implies, Decidable.not_not, h1, h3]
  exact hQ _ _ _ rfl ⟨rfl, rfl⟩

/-- Numbers as they may be. -/
def Small (size begin seq : Int) (xs : List Int) : Prop := 1 ≤ size ∧ size ≤ 16 ∧ 0 ≤ begin ∧ begin ≤ seq ∧ seq ≤ 1073741824 ∧ (xs.length : Int) ≤ size ∧ (xs.length : Int) ≤ seq - begin

def floorOf (size begin seq : Int) : Int := max (seq - size + 1) begin

theorem floor_spec (h : RingAt F m p size begin seq xs) (hs : Small size begin seq xs) : Ca 11 [Pt p] m (I (floorOf size begin seq)) m := by
  obtain ⟨sl, o, h1, h2, h3, h4, h5, h6, h7⟩ := h
  obtain ⟨s1, s2, s3, s4, s5, s6, s7⟩ := hs
  refine callX_of (call_go (F := _) rfl rfl fun Q hQ => ?_)
  have w1 : IntKind.i64.wrap (seq - size) = seq - size := wrap_i64 (by omega) (by omega)
  have w2 : IntKind.i64.wrap (seq - size + 1) = seq - size + 1 := wrap_i64 (by omega) (by omega)
  simp only [go_nil, go_inBlock, go_skip, go_seq, go_block, go_exit, go_ret, go_ops, go_opsr, go_cond, ex_nil, ex_code, ex_inLoop, ex_inBlock, goC_true, goC_false, goC_dec, goO_nil, goO_cons, goO_guard, goG_true, goG_false, goR_val, goR_skip, wantedX, X.put, X.look, look_hit, Arg.ev, keepOf, restrict, evs, evO, initEnv, xres, tup, xi_move, xi_pick, pick_bool, xi_bin, bin_add, bin_sub, bin_mul, bin_eql, bin_neq, bin_lss, bin_leq, bin_gtr, bin_geq, xi_load1, ld_ptr, xi_nilCheck, nilCheck_ptr, xi_fieldAddr, fieldAddr_ptr, xi_isNil, isNil_some, isNil_none, xi_extract, extract_tuple, xi_call, call_func, xi_len, len_slice, xi_un, un_not, xi_store, xi_box, box_int, box_ptr, box_slice, push_self, push_two, Mem.next_push, xi_calcB, calc_max, calc_min, goG_dec, goG_ndec, xi_indexAddr, indexAddr_at, xi_slice, xi_append, xi_clear, isNil_slice, xi_conv, xi_alloc, box_agg, box_string, box_bool, xi_buildSlice, xparts_nil, xparts_cons, xi_build, xi_field, field_one, xi_makeFunc, makeFunc_nil, xi_loadA, go_opsd, goD_nil, goD_cons, goDV0, goDV1, goDV2, goDV3, goDV3s, again_nil, again_cons, againE_val, veq_int, veq_slice, veq_ptr, veq_bool, veq_string, asNat_nat, asNat_zero, asNat_one, noTup, cls, quiet, Option.isNone_some, Option.isNone_none, Bool.and_true, Bool.and_self, Bool.true_and, Nat.add_zero, Nat.mul_one, Nat.mul_zero, Nat.zero_mul, List.length_map, Option.bind_some, Option.map_some, List.getElem?_cons_zero, List.getElem?_cons_succ, Nat.reduceAdd, Nat.reduceEqDiff, reduceIte, reduceCtorEq, goInt, bne_self_eq_false, Bool.false_bne, Bool.true_bne, Bool.not_true, Bool.not_false, decide_eq_true_eq, decide_eq_false_iff_not, Option.some.injEq, exists_eq_left', Nat.zero_add, beq_self_eq_true, cond_true, cond_false, eqb_t, eqb_f, Int.cast_ofNat_Int, eq_self, decide_true, decide_false, Int.reduceLT, Int.reduceLE, Int.reduceEq, Int.reduceNeg, Int.reduceAdd, Int.reduceSub, and_true, true_and, forall_const, Bool.true_eq_false, Bool.false_eq_true, false_implies, ne_eq, not_true_eq_false, not_false_eq_true, true_implies, Decidable.not_not, h1, h3, w1, w2]
  exact hQ _ _ _ rfl ⟨rfl, rfl⟩

theorem last_spec (h : RingAt F m p size begin seq xs) (hs : Small size begin seq xs) : Ca 18 [Pt p] m (U (xs.getLast?.getD 0)) m := by
  obtain ⟨sl, o, h1, h2, h3, h4, h5, h6, h7⟩ := h
  obtain ⟨s1, s2, s3, s4, s5, s6, s7⟩ := hs
  obtain ⟨q, c, rfl⟩ := h7.slice
  refine callX_of (call_go (F := _) rfl rfl fun Q hQ => ?_)
  by_cases h0 : xs = []
  · subst h0
    simp only [go_nil, go_inBlock, go_skip, go_seq, go_block, go_exit, go_ret, go_ops, go_opsr, go_cond, ex_nil, ex_code, ex_inLoop, ex_inBlock, goC_true, goC_false, goC_dec, goO_nil, goO_cons, goO_guard, goG_true, goG_false, goR_val, goR_skip, wantedX, X.put, X.look, look_hit, Arg.ev, keepOf, restrict, evs, evO, initEnv, xres, tup, xi_move, xi_pick, pick_bool, xi_bin, bin_add, bin_sub, bin_mul, bin_eql, bin_neq, bin_lss, bin_leq, bin_gtr, bin_geq, xi_load1, ld_ptr, xi_nilCheck, nilCheck_ptr, xi_fieldAddr, fieldAddr_ptr, xi_isNil, isNil_some, isNil_none, xi_extract, extract_tuple, xi_call, call_func, xi_len, len_slice, xi_un, un_not, xi_store, xi_box, box_int, box_ptr, box_slice, push_self, push_two, Mem.next_push, xi_calcB, calc_max, calc_min, goG_dec, goG_ndec, xi_indexAddr, indexAddr_at, xi_slice, xi_append, xi_clear, isNil_slice, xi_conv, xi_alloc, box_agg, box_string, box_bool, xi_buildSlice, xparts_nil, xparts_cons, xi_build, xi_field, field_one, xi_makeFunc, makeFunc_nil, xi_loadA, go_opsd, goD_nil, goD_cons, goDV0, goDV1, goDV2, goDV3, goDV3s, again_nil, again_cons, againE_val, veq_int, veq_slice, veq_ptr, veq_bool, veq_string, asNat_nat, asNat_zero, asNat_one, noTup, cls, quiet, Option.isNone_some, Option.isNone_none, Bool.and_true, Bool.and_self, Bool.true_and, Nat.add_zero, Nat.mul_one, Nat.mul_zero, Nat.zero_mul, List.length_map, Option.bind_some, Option.map_some, List.getElem?_cons_zero, List.getElem?_cons_succ, Nat.reduceAdd, Nat.reduceEqDiff, reduceIte, reduceCtorEq, goInt, bne_self_eq_false, Bool.false_bne, Bool.true_bne, Bool.not_true, Bool.not_false, decide_eq_true_eq, decide_eq_false_iff_not, Option.some.injEq, exists_eq_left', Nat.zero_add, beq_self_eq_true, cond_true, cond_false, eqb_t, eqb_f, Int.cast_ofNat_Int, eq_self, decide_true, decide_false, Int.reduceLT, Int.reduceLE, Int.reduceEq, Int.reduceNeg, Int.reduceAdd, Int.reduceSub, and_true, true_and, forall_const, Bool.true_eq_false, Bool.false_eq_true, false_implies, ne_eq, not_true_eq_false, not_false_eq_true, true_implies, Decidable.not_not, h1, h3, List.length_nil]
    exact hQ _ _ _ rfl ⟨rfl, rfl⟩
  · have hl : 0 < xs.length := List.length_pos_iff.2 h0
    have hne : ¬ (xs.length : Int) = 0 := by omega
    obtain ⟨x, hx⟩ : ∃ x, xs[xs.length - 1]? = some x := ⟨_, List.getElem?_eq_getElem (by omega)⟩
    obtain ⟨a, c', o', hv, hg, hc⟩ := rd_at (own_rd h7) hx
    cases hv
    have w1 : IntKind.i64.wrap ((xs.length : Int) - 1) = ((xs.length - 1 : Nat) : Int) := by rw [wrap_i64 (by omega) (by omega)]; omega
    have hlt : xs.length - 1 < xs.length := by omega
    rw [List.getLast?_eq_getElem?, hx] at hQ
    simp only [go_nil, go_inBlock, go_skip, go_seq, go_block, go_exit, go_ret, go_ops, go_opsr, go_cond, ex_nil, ex_code, ex_inLoop, ex_inBlock, goC_true, goC_false, goC_dec, goO_nil, goO_cons, goO_guard, goG_true, goG_false, goR_val, goR_skip, wantedX, X.put, X.look, look_hit, Arg.ev, keepOf, restrict, evs, evO, initEnv, xres, tup, xi_move, xi_pick, pick_bool, xi_bin, bin_add, bin_sub, bin_mul, bin_eql, bin_neq, bin_lss, bin_leq, bin_gtr, bin_geq, xi_load1, ld_ptr, xi_nilCheck, nilCheck_ptr, xi_fieldAddr, fieldAddr_ptr, xi_isNil, isNil_some, isNil_none, xi_extract, extract_tuple, xi_call, call_func, xi_len, len_slice, xi_un, un_not, xi_store, xi_box, box_int, box_ptr, box_slice, push_self, push_two, Mem.next_push, xi_calcB, calc_max, calc_min, goG_dec, goG_ndec, xi_indexAddr, indexAddr_at, xi_slice, xi_append, xi_clear, isNil_slice, xi_conv, xi_alloc, box_agg, box_string, box_bool, xi_buildSlice, xparts_nil, xparts_cons, xi_build, xi_field, field_one, xi_makeFunc, makeFunc_nil, xi_loadA, go_opsd, goD_nil, goD_cons, goDV0, goDV1, goDV2, goDV3, goDV3s, again_nil, again_cons, againE_val, veq_int, veq_slice, veq_ptr, veq_bool, veq_string, asNat_nat, asNat_zero, asNat_one, noTup, cls, quiet, Option.isNone_some, Option.isNone_none, Bool.and_true, Bool.and_self, Bool.true_and, Nat.add_zero, Nat.mul_one, Nat.mul_zero, Nat.zero_mul, List.length_map, Option.bind_some, Option.map_some, List.getElem?_cons_zero, List.getElem?_cons_succ, Nat.reduceAdd, Nat.reduceEqDiff, reduceIte, reduceCtorEq, goInt, bne_self_eq_false, Bool.false_bne, Bool.true_bne, Bool.not_true, Bool.not_false, decide_eq_true_eq, decide_eq_false_iff_not, Option.some.injEq, exists_eq_left', Nat.zero_add, beq_self_eq_true, cond_true, cond_false, eqb_t, eqb_f, Int.cast_ofNat_Int, eq_self, decide_true, decide_false, Int.reduceLT, Int.reduceLE, Int.reduceEq, Int.reduceNeg, Int.reduceAdd, Int.reduceSub, and_true, true_and, forall_const, Bool.true_eq_false, Bool.false_eq_true, false_implies, ne_eq, not_true_eq_false, not_false_eq_true, true_implies, Decidable.not_not, h1, h3, hne, w1, hlt, hg, hc]
    exact hQ _ _ _ rfl ⟨rfl, rfl⟩

/-- How many are not above. -/
def upto (xs : List Int) (t : Int) : Nat := xs.countP (· ≤ t)

theorem upto_eq {xs : List Int} (hs : xs.Pairwise (· < ·)) (t : Int) : upto xs t = below xs t + if t ∈ xs then 1 else 0 := by
  induction xs with
  | nil => simp [upto, below]
  | cons x xs ih =>
    have ih := ih (List.pairwise_cons.1 hs).2
    have hx := (List.pairwise_cons.1 hs).1
    simp only [upto, below, List.countP_cons, List.mem_cons] at ih ⊢
    rcases Int.lt_trichotomy x t with h1 | h1 | h1
    · have h2 : ¬ t = x := by omega
      have h3 : x ≤ t := by omega
      simp only [h1, h2, h3, decide_true, if_true, false_or]
      omega
    · subst h1
      have h2 : x ∉ xs := fun h => absurd (hx x h) (by omega)
      have h3 : xs.countP (· < x) = 0 := by rw [List.countP_eq_zero]; intro y hy; have := hx y hy; simp; omega
      have h4 : xs.countP (· ≤ x) = 0 := by rw [List.countP_eq_zero]; intro y hy; have := hx y hy; simp; omega
      simp [h3, h4]
    · have h2 : t ∉ xs := fun h => absurd (hx t h) (by omega)
      have h3 : xs.countP (· < t) = 0 := by rw [List.countP_eq_zero]; intro y hy; have := hx y hy; simp; omega
      have h4 : xs.countP (· ≤ t) = 0 := by rw [List.countP_eq_zero]; intro y hy; have := hx y hy; simp; omega
      have h5 : ¬ x ≤ t := by omega
      have h6 : ¬ x < t := by omega
      have h7 : ¬ t = x := by omega
      simp [h3, h4, h5, h6, h7, h2]

/-- The number as of a stamp, and the error. -/
def asofV (size begin seq : Int) (xs : List Int) (t : Int) : Int × Int :=
  if seq - xs.length + upto xs t < floorOf size begin seq then (0, 14) else (seq - xs.length + upto xs t, 0)

theorem asof_spec {t : Int} (h : RingAt F m p size begin seq xs) (hs : Small size begin seq xs) (hp : xs.Pairwise (· < ·)) :
    Ca 10 [Pt p, U t] m (.tuple #[I (asofV size begin seq xs t).1, I (asofV size begin seq xs t).2]) m := by
  have hfl := floor_spec h hs
  obtain ⟨sl, o, h1, h2, h3, h4, h5, h6, h7⟩ := h
  obtain ⟨s1, s2, s3, s4, s5, s6, s7⟩ := hs
  have hsr := search_spec (t := t) (own_rd h7) hp (by omega)
  obtain ⟨q, c, rfl⟩ := h7.slice
  have hle : upto xs t ≤ xs.length := List.countP_le_length
  have hue := upto_eq hp t
  have w2 : IntKind.i64.wrap (seq - (xs.length : Int)) = seq - xs.length := wrap_i64 (by omega) (by omega)
  have w3 : IntKind.i64.wrap (seq - (xs.length : Int) + (upto xs t : Int)) = seq - xs.length + upto xs t := wrap_i64 (by omega) (by omega)
  have hin : ∀ b : Bool, decide (t ∈ xs) = b → IntKind.i64.wrap ((below xs t : Int) + 1) = ((below xs t + 1 : Nat) : Int) := fun b _ => by rw [wrap_i64 (by omega) (by omega)]; omega
  refine callX_of (call_go (F := _) rfl rfl fun Q hQ => ?_)
  by_cases hm : t ∈ xs
  · have w1 := hin true (by simp [hm])
    rw [if_pos hm] at hue
    rw [← hue] at w1
    by_cases hlt : seq - xs.length + upto xs t < floorOf size begin seq
    · rw [asofV, if_pos hlt] at hQ
      simp only [go_nil, go_inBlock, go_skip, go_seq, go_block, go_exit, go_ret, go_ops, go_opsr, go_cond, ex_nil, ex_code, ex_inLoop, ex_inBlock, goC_true, goC_false, goC_dec, goO_nil, goO_cons, goO_guard, goG_true, goG_false, goR_val, goR_skip, wantedX, X.put, X.look, look_hit, Arg.ev, keepOf, restrict, evs, evO, initEnv, xres, tup, xi_move, xi_pick, pick_bool, xi_bin, bin_add, bin_sub, bin_mul, bin_eql, bin_neq, bin_lss, bin_leq, bin_gtr, bin_geq, xi_load1, ld_ptr, xi_nilCheck, nilCheck_ptr, xi_fieldAddr, fieldAddr_ptr, xi_isNil, isNil_some, isNil_none, xi_extract, extract_tuple, xi_call, call_func, xi_len, len_slice, xi_un, un_not, xi_store, xi_box, box_int, box_ptr, box_slice, push_self, push_two, Mem.next_push, xi_calcB, calc_max, calc_min, goG_dec, goG_ndec, xi_indexAddr, indexAddr_at, xi_slice, xi_append, xi_clear, isNil_slice, xi_conv, xi_alloc, box_agg, box_string, box_bool, xi_buildSlice, xparts_nil, xparts_cons, xi_build, xi_field, field_one, xi_makeFunc, makeFunc_nil, xi_loadA, go_opsd, goD_nil, goD_cons, goDV0, goDV1, goDV2, goDV3, goDV3s, again_nil, again_cons, againE_val, veq_int, veq_slice, veq_ptr, veq_bool, veq_string, asNat_nat, asNat_zero, asNat_one, noTup, cls, quiet, Option.isNone_some, Option.isNone_none, Bool.and_true, Bool.and_self, Bool.true_and, Nat.add_zero, Nat.mul_one, Nat.mul_zero, Nat.zero_mul, List.length_map, Option.bind_some, Option.map_some, List.getElem?_cons_zero, List.getElem?_cons_succ, Nat.reduceAdd, Nat.reduceEqDiff, reduceIte, reduceCtorEq, goInt, bne_self_eq_false, Bool.false_bne, Bool.true_bne, Bool.not_true, Bool.not_false, decide_eq_true_eq, decide_eq_false_iff_not, Option.some.injEq, exists_eq_left', Nat.zero_add, beq_self_eq_true, cond_true, cond_false, eqb_t, eqb_f, Int.cast_ofNat_Int, eq_self, decide_true, decide_false, Int.reduceLT, Int.reduceLE, Int.reduceEq, Int.reduceNeg, Int.reduceAdd, Int.reduceSub, and_true, true_and, forall_const, Bool.true_eq_false, Bool.false_eq_true, false_implies, ne_eq, not_true_eq_false, not_false_eq_true, true_implies, Decidable.not_not, h1, h3, goR_call hsr, hm, w1, w2, w3, goR_call hfl, hlt]
      exact hQ _ _ _ rfl ⟨rfl, rfl⟩
    · rw [asofV, if_neg hlt] at hQ
      simp only [go_nil, go_inBlock, go_skip, go_seq, go_block, go_exit, go_ret, go_ops, go_opsr, go_cond, ex_nil, ex_code, ex_inLoop, ex_inBlock, goC_true, goC_false, goC_dec, goO_nil, goO_cons, goO_guard, goG_true, goG_false, goR_val, goR_skip, wantedX, X.put, X.look, look_hit, Arg.ev, keepOf, restrict, evs, evO, initEnv, xres, tup, xi_move, xi_pick, pick_bool, xi_bin, bin_add, bin_sub, bin_mul, bin_eql, bin_neq, bin_lss, bin_leq, bin_gtr, bin_geq, xi_load1, ld_ptr, xi_nilCheck, nilCheck_ptr, xi_fieldAddr, fieldAddr_ptr, xi_isNil, isNil_some, isNil_none, xi_extract, extract_tuple, xi_call, call_func, xi_len, len_slice, xi_un, un_not, xi_store, xi_box, box_int, box_ptr, box_slice, push_self, push_two, Mem.next_push, xi_calcB, calc_max, calc_min, goG_dec, goG_ndec, xi_indexAddr, indexAddr_at, xi_slice, xi_append, xi_clear, isNil_slice, xi_conv, xi_alloc, box_agg, box_string, box_bool, xi_buildSlice, xparts_nil, xparts_cons, xi_build, xi_field, field_one, xi_makeFunc, makeFunc_nil, xi_loadA, go_opsd, goD_nil, goD_cons, goDV0, goDV1, goDV2, goDV3, goDV3s, again_nil, again_cons, againE_val, veq_int, veq_slice, veq_ptr, veq_bool, veq_string, asNat_nat, asNat_zero, asNat_one, noTup, cls, quiet, Option.isNone_some, Option.isNone_none, Bool.and_true, Bool.and_self, Bool.true_and, Nat.add_zero, Nat.mul_one, Nat.mul_zero, Nat.zero_mul, List.length_map, Option.bind_some, Option.map_some, List.getElem?_cons_zero, List.getElem?_cons_succ, Nat.reduceAdd, Nat.reduceEqDiff, reduceIte, reduceCtorEq, goInt, bne_self_eq_false, Bool.false_bne, Bool.true_bne, Bool.not_true, Bool.not_false, decide_eq_true_eq, decide_eq_false_iff_not, Option.some.injEq, exists_eq_left', Nat.zero_add, beq_self_eq_true, cond_true, cond_false, eqb_t, eqb_f, Int.cast_ofNat_Int, eq_self, decide_true, decide_false, Int.reduceLT, Int.reduceLE, Int.reduceEq, Int.reduceNeg, Int.reduceAdd, Int.reduceSub, and_true, true_and, forall_const, Bool.true_eq_false, Bool.false_eq_true, false_implies, ne_eq, not_true_eq_false, not_false_eq_true, true_implies, Decidable.not_not, h1, h3, goR_call hsr, hm, w1, w2, w3, goR_call hfl, hlt]
      exact hQ _ _ _ rfl ⟨rfl, rfl⟩
  · rw [if_neg hm, Nat.add_zero] at hue
    by_cases hlt : seq - xs.length + upto xs t < floorOf size begin seq
    · rw [asofV, if_pos hlt] at hQ
      simp only [go_nil, go_inBlock, go_skip, go_seq, go_block, go_exit, go_ret, go_ops, go_opsr, go_cond, ex_nil, ex_code, ex_inLoop, ex_inBlock, goC_true, goC_false, goC_dec, goO_nil, goO_cons, goO_guard, goG_true, goG_false, goR_val, goR_skip, wantedX, X.put, X.look, look_hit, Arg.ev, keepOf, restrict, evs, evO, initEnv, xres, tup, xi_move, xi_pick, pick_bool, xi_bin, bin_add, bin_sub, bin_mul, bin_eql, bin_neq, bin_lss, bin_leq, bin_gtr, bin_geq, xi_load1, ld_ptr, xi_nilCheck, nilCheck_ptr, xi_fieldAddr, fieldAddr_ptr, xi_isNil, isNil_some, isNil_none, xi_extract, extract_tuple, xi_call, call_func, xi_len, len_slice, xi_un, un_not, xi_store, xi_box, box_int, box_ptr, box_slice, push_self, push_two, Mem.next_push, xi_calcB, calc_max, calc_min, goG_dec, goG_ndec, xi_indexAddr, indexAddr_at, xi_slice, xi_append, xi_clear, isNil_slice, xi_conv, xi_alloc, box_agg, box_string, box_bool, xi_buildSlice, xparts_nil, xparts_cons, xi_build, xi_field, field_one, xi_makeFunc, makeFunc_nil, xi_loadA, go_opsd, goD_nil, goD_cons, goDV0, goDV1, goDV2, goDV3, goDV3s, again_nil, again_cons, againE_val, veq_int, veq_slice, veq_ptr, veq_bool, veq_string, asNat_nat, asNat_zero, asNat_one, noTup, cls, quiet, Option.isNone_some, Option.isNone_none, Bool.and_true, Bool.and_self, Bool.true_and, Nat.add_zero, Nat.mul_one, Nat.mul_zero, Nat.zero_mul, List.length_map, Option.bind_some, Option.map_some, List.getElem?_cons_zero, List.getElem?_cons_succ, Nat.reduceAdd, Nat.reduceEqDiff, reduceIte, reduceCtorEq, goInt, bne_self_eq_false, Bool.false_bne, Bool.true_bne, Bool.not_true, Bool.not_false, decide_eq_true_eq, decide_eq_false_iff_not, Option.some.injEq, exists_eq_left', Nat.zero_add, beq_self_eq_true, cond_true, cond_false, eqb_t, eqb_f, Int.cast_ofNat_Int, eq_self, decide_true, decide_false, Int.reduceLT, Int.reduceLE, Int.reduceEq, Int.reduceNeg, Int.reduceAdd, Int.reduceSub, and_true, true_and, forall_const, Bool.true_eq_false, Bool.false_eq_true, false_implies, ne_eq, not_true_eq_false, not_false_eq_true, true_implies, Decidable.not_not, h1, h3, goR_call hsr, hm, ← hue, w2, w3, goR_call hfl, hlt]
      exact hQ _ _ _ rfl ⟨rfl, rfl⟩
    · rw [asofV, if_neg hlt] at hQ
      simp only [go_nil, go_inBlock, go_skip, go_seq, go_block, go_exit, go_ret, go_ops, go_opsr, go_cond, ex_nil, ex_code, ex_inLoop, ex_inBlock, goC_true, goC_false, goC_dec, goO_nil, goO_cons, goO_guard, goG_true, goG_false, goR_val, goR_skip, wantedX, X.put, X.look, look_hit, Arg.ev, keepOf, restrict, evs, evO, initEnv, xres, tup, xi_move, xi_pick, pick_bool, xi_bin, bin_add, bin_sub, bin_mul, bin_eql, bin_neq, bin_lss, bin_leq, bin_gtr, bin_geq, xi_load1, ld_ptr, xi_nilCheck, nilCheck_ptr, xi_fieldAddr, fieldAddr_ptr, xi_isNil, isNil_some, isNil_none, xi_extract, extract_tuple, xi_call, call_func, xi_len, len_slice, xi_un, un_not, xi_store, xi_box, box_int, box_ptr, box_slice, push_self, push_two, Mem.next_push, xi_calcB, calc_max, calc_min, goG_dec, goG_ndec, xi_indexAddr, indexAddr_at, xi_slice, xi_append, xi_clear, isNil_slice, xi_conv, xi_alloc, box_agg, box_string, box_bool, xi_buildSlice, xparts_nil, xparts_cons, xi_build, xi_field, field_one, xi_makeFunc, makeFunc_nil, xi_loadA, go_opsd, goD_nil, goD_cons, goDV0, goDV1, goDV2, goDV3, goDV3s, again_nil, again_cons, againE_val, veq_int, veq_slice, veq_ptr, veq_bool, veq_string, asNat_nat, asNat_zero, asNat_one, noTup, cls, quiet, Option.isNone_some, Option.isNone_none, Bool.and_true, Bool.and_self, Bool.true_and, Nat.add_zero, Nat.mul_one, Nat.mul_zero, Nat.zero_mul, List.length_map, Option.bind_some, Option.map_some, List.getElem?_cons_zero, List.getElem?_cons_succ, Nat.reduceAdd, Nat.reduceEqDiff, reduceIte, reduceCtorEq, goInt, bne_self_eq_false, Bool.false_bne, Bool.true_bne, Bool.not_true, Bool.not_false, decide_eq_true_eq, decide_eq_false_iff_not, Option.some.injEq, exists_eq_left', Nat.zero_add, beq_self_eq_true, cond_true, cond_false, eqb_t, eqb_f, Int.cast_ofNat_Int, eq_self, decide_true, decide_false, Int.reduceLT, Int.reduceLE, Int.reduceEq, Int.reduceNeg, Int.reduceAdd, Int.reduceSub, and_true, true_and, forall_const, Bool.true_eq_false, Bool.false_eq_true, false_implies, ne_eq, not_true_eq_false, not_false_eq_true, true_implies, Decidable.not_not, h1, h3, goR_call hsr, hm, ← hue, w2, w3, goR_call hfl, hlt]
      exact hQ _ _ _ rfl ⟨rfl, rfl⟩
end

end Go.Proofs.Ytbcoijgoipnelaa
