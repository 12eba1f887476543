/-
  Own work. What the ring's functions come to, whatever the data.
-/
import Derived.Test.YtbcoijgoipnelaaXProg
import Derived.Test.YtbcoijgoipnelaaXOwn
namespace Go.Proofs.Ytbcoijgoipnelaa
open Go X
set_option maxRecDepth 100000
set_option linter.unusedVariables false
set_option linter.unusedSimpArgs false

theorem awake_known : FnIs Try.prog 7 (.known (.bool true)) := known_of mixed tab_is (n := 2000) rfl (by kernel_rfl) rfl
def tabK (f : FuncId) : Option XDecl := if f = 7 then some (.known (.bool true)) else tab f
theorem tabK_is : ∀ f d, tabK f = some d → FnIs Try.prog f d := by
  intro f d h
  unfold tabK at h
  split at h
  · rename_i hf
    cases h; subst hf; exact awake_known
  · exact tab_is f d h

abbrev Ca (f : FuncId) (args : List Value) (m : Mem) (v : Value) (m' : Mem) : Prop := CallX Try.prog tabK f args m v m'
abbrev Wc (f : FuncId) (args : List Value) (m : Mem) (K : Value → Mem → Prop) : Prop := wpCall Try.prog tabK f args m K
theorem awake_call (m : Mem) : Ca 7 [] m (.bool true) m := ⟨0, rfl⟩

abbrev U (n : Int) : Value := .int .u64 n
abbrev I (n : Int) : Value := .int .i64 n
abbrev Pt (p : Nat) : Value := .pointer (some ⟨p, 0, none⟩)

/-! ## Comparisons -/
theorem isNaN_spec {m : Mem} {n : Int} : Ca 24 [U n] m (.bool false) m := by
  refine callX_of (call_go (F := _) rfl rfl fun Q hQ => ?_)
  have h : ¬ (n ≠ n) := by simp
  simp only [go_nil, go_inBlock, go_skip, go_seq, go_block, go_exit, go_ret, go_ops, go_opsr, go_cond, ex_nil, ex_code, ex_inLoop, ex_inBlock, goC_true, goC_false, goC_dec, goO_nil, goO_cons, goO_guard, goG_true, goG_false, goR_val, goR_skip, wantedX, X.put, X.look, look_hit, Arg.ev, keepOf, restrict, evs, evO, initEnv, xres, tup, xi_move, xi_pick, pick_bool, xi_bin, bin_add, bin_sub, bin_mul, bin_eql, bin_neq, bin_lss, bin_leq, bin_gtr, bin_geq, xi_load1, ld_ptr, xi_nilCheck, nilCheck_ptr, xi_fieldAddr, fieldAddr_ptr, xi_isNil, isNil_some, isNil_none, xi_extract, extract_tuple, xi_call, call_func, xi_len, len_slice, xi_un, un_not, xi_store, xi_box, box_int, box_ptr, box_slice, push_self, push_two, Mem.next_push, xi_calcB, calc_max, calc_min, goG_dec, goG_ndec, xi_indexAddr, indexAddr_at, xi_slice, xi_append, xi_clear, isNil_slice, xi_conv, xi_alloc, box_agg, box_string, box_bool, xi_buildSlice, xparts_nil, xparts_cons, xi_build, xi_field, field_one, xi_makeFunc, makeFunc_nil, xi_loadA, go_opsd, goD_nil, goD_cons, goDV0, goDV1, goDV2, goDV3, goDV3s, again_nil, again_cons, againE_val, veq_int, veq_slice, veq_ptr, veq_bool, veq_string, asNat_nat, asNat_zero, asNat_one, noTup, cls, quiet, Option.isNone_some, Option.isNone_none, Bool.and_true, Bool.and_self, Bool.true_and, Nat.add_zero, Nat.mul_one, Nat.mul_zero, Nat.zero_mul, List.length_map, Option.bind_some, Option.map_some, List.getElem?_cons_zero, List.getElem?_cons_succ, Nat.reduceAdd, Nat.reduceEqDiff, reduceIte, reduceCtorEq, goInt, bne_self_eq_false, Bool.false_bne, Bool.true_bne, Bool.not_true, Bool.not_false, decide_eq_true_eq, decide_eq_false_iff_not, Option.some.injEq, exists_eq_left', Nat.zero_add, beq_self_eq_true, cond_true, cond_false, eqb_t, eqb_f, Int.cast_ofNat_Int, eq_self, decide_true, decide_false, Int.reduceLT, Int.reduceLE, Int.reduceEq, Int.reduceNeg, Int.reduceAdd, Int.reduceSub, and_true, true_and, forall_const, Bool.true_eq_false, Bool.false_eq_true, false_implies, ne_eq, not_true_eq_false, not_false_eq_true, true_implies, Decidable.not_not, h]
  exact hQ _ _ _ rfl ⟨rfl, rfl⟩
theorem isNaN2_spec {m : Mem} {n : Int} : Ca 23 [U n] m (.bool false) m := by
  refine callX_of (call_go (F := _) rfl rfl fun Q hQ => ?_)
  have h : ¬ (n ≠ n) := by simp
  simp only [go_nil, go_inBlock, go_skip, go_seq, go_block, go_exit, go_ret, go_ops, go_opsr, go_cond, ex_nil, ex_code, ex_inLoop, ex_inBlock, goC_true, goC_false, goC_dec, goO_nil, goO_cons, goO_guard, goG_true, goG_false, goR_val, goR_skip, wantedX, X.put, X.look, look_hit, Arg.ev, keepOf, restrict, evs, evO, initEnv, xres, tup, xi_move, xi_pick, pick_bool, xi_bin, bin_add, bin_sub, bin_mul, bin_eql, bin_neq, bin_lss, bin_leq, bin_gtr, bin_geq, xi_load1, ld_ptr, xi_nilCheck, nilCheck_ptr, xi_fieldAddr, fieldAddr_ptr, xi_isNil, isNil_some, isNil_none, xi_extract, extract_tuple, xi_call, call_func, xi_len, len_slice, xi_un, un_not, xi_store, xi_box, box_int, box_ptr, box_slice, push_self, push_two, Mem.next_push, xi_calcB, calc_max, calc_min, goG_dec, goG_ndec, xi_indexAddr, indexAddr_at, xi_slice, xi_append, xi_clear, isNil_slice, xi_conv, xi_alloc, box_agg, box_string, box_bool, xi_buildSlice, xparts_nil, xparts_cons, xi_build, xi_field, field_one, xi_makeFunc, makeFunc_nil, xi_loadA, go_opsd, goD_nil, goD_cons, goDV0, goDV1, goDV2, goDV3, goDV3s, again_nil, again_cons, againE_val, veq_int, veq_slice, veq_ptr, veq_bool, veq_string, asNat_nat, asNat_zero, asNat_one, noTup, cls, quiet, Option.isNone_some, Option.isNone_none, Bool.and_true, Bool.and_self, Bool.true_and, Nat.add_zero, Nat.mul_one, Nat.mul_zero, Nat.zero_mul, List.length_map, Option.bind_some, Option.map_some, List.getElem?_cons_zero, List.getElem?_cons_succ, Nat.reduceAdd, Nat.reduceEqDiff, reduceIte, reduceCtorEq, goInt, bne_self_eq_false, Bool.false_bne, Bool.true_bne, Bool.not_true, Bool.not_false, decide_eq_true_eq, decide_eq_false_iff_not, Option.some.injEq, exists_eq_left', Nat.zero_add, beq_self_eq_true, cond_true, cond_false, eqb_t, eqb_f, Int.cast_ofNat_Int, eq_self, decide_true, decide_false, Int.reduceLT, Int.reduceLE, Int.reduceEq, Int.reduceNeg, Int.reduceAdd, Int.reduceSub, and_true, true_and, forall_const, Bool.true_eq_false, Bool.false_eq_true, false_implies, ne_eq, not_true_eq_false, not_false_eq_true, true_implies, Decidable.not_not, h]
  exact hQ _ _ _ rfl ⟨rfl, rfl⟩
theorem less_spec {m : Mem} {a b : Int} : Ca 22 [U a, U b] m (.bool (decide (a < b))) m := by
  refine callX_of (call_go (F := _) rfl rfl fun Q hQ => ?_)
  simp only [go_nil, go_inBlock, go_skip, go_seq, go_block, go_exit, go_ret, go_ops, go_opsr, go_cond, ex_nil, ex_code, ex_inLoop, ex_inBlock, goC_true, goC_false, goC_dec, goO_nil, goO_cons, goO_guard, goG_true, goG_false, goR_val, goR_skip, wantedX, X.put, X.look, look_hit, Arg.ev, keepOf, restrict, evs, evO, initEnv, xres, tup, xi_move, xi_pick, pick_bool, xi_bin, bin_add, bin_sub, bin_mul, bin_eql, bin_neq, bin_lss, bin_leq, bin_gtr, bin_geq, xi_load1, ld_ptr, xi_nilCheck, nilCheck_ptr, xi_fieldAddr, fieldAddr_ptr, xi_isNil, isNil_some, isNil_none, xi_extract, extract_tuple, xi_call, call_func, xi_len, len_slice, xi_un, un_not, xi_store, xi_box, box_int, box_ptr, box_slice, push_self, push_two, Mem.next_push, xi_calcB, calc_max, calc_min, goG_dec, goG_ndec, xi_indexAddr, indexAddr_at, xi_slice, xi_append, xi_clear, isNil_slice, xi_conv, xi_alloc, box_agg, box_string, box_bool, xi_buildSlice, xparts_nil, xparts_cons, xi_build, xi_field, field_one, xi_makeFunc, makeFunc_nil, xi_loadA, go_opsd, goD_nil, goD_cons, goDV0, goDV1, goDV2, goDV3, goDV3s, again_nil, again_cons, againE_val, veq_int, veq_slice, veq_ptr, veq_bool, veq_string, asNat_nat, asNat_zero, asNat_one, noTup, cls, quiet, Option.isNone_some, Option.isNone_none, Bool.and_true, Bool.and_self, Bool.true_and, Nat.add_zero, Nat.mul_one, Nat.mul_zero, Nat.zero_mul, List.length_map, Option.bind_some, Option.map_some, List.getElem?_cons_zero, List.getElem?_cons_succ, Nat.reduceAdd, Nat.reduceEqDiff, reduceIte, reduceCtorEq, goInt, bne_self_eq_false, Bool.false_bne, Bool.true_bne, Bool.not_true, Bool.not_false, decide_eq_true_eq, decide_eq_false_iff_not, Option.some.injEq, exists_eq_left', Nat.zero_add, beq_self_eq_true, cond_true, cond_false, eqb_t, eqb_f, Int.cast_ofNat_Int, eq_self, decide_true, decide_false, Int.reduceLT, Int.reduceLE, Int.reduceEq, Int.reduceNeg, Int.reduceAdd, Int.reduceSub, and_true, true_and, forall_const, Bool.true_eq_false, Bool.false_eq_true, false_implies, ne_eq, not_true_eq_false, not_false_eq_true, true_implies, Decidable.not_not, goR_call isNaN_spec]
  exact hQ _ _ _ rfl ⟨rfl, rfl⟩

/-! ## Binary search -/
theorem conv_iu {m : Mem} {n : Int} : convE Try.prog 3 48 m (I n) = some (.val (U (IntKind.u64.wrap n)) m) := by kernel_rfl
theorem conv_ui {m : Mem} {n : Int} : convE Try.prog 48 3 m (U n) = some (.val (I (IntKind.i64.wrap n)) m) := by kernel_rfl
theorem bin_shr1 {m : Mem} {n : Int} : binE Try.prog .shr 48 (U n) (U 1) m = some (.val (U (n.fdiv 2)) m) := by kernel_rfl

/-- The cells of numbers. -/
abbrev rowsU (xs : List Int) : List (List Value) := xs.map fun n => [U n]

theorem rd_at {b : Nat} {m : Mem} {v : Value} {xs : List Int} (h : RdS b m 1 v (rowsU xs)) {i : Nat} {x : Int} (hi : xs[i]? = some x) : ∃ a c o, v = .slice (some a) xs.length c ∧ m.get a.block = some o ∧ o.cells[a.off + i]? = some (U x) := by
  obtain ⟨p, c, rfl, hc, h⟩ := h
  obtain ⟨h1, a, o, rfl, h3, h4, h5⟩ := h i [U x] (by simp [hi])
  exact ⟨a, c, o, by simp, h4, by simpa using h5 0 (by omega)⟩

theorem rd_slice {b : Nat} {m : Mem} {v : Value} {xs : List Int} (h : RdS b m 1 v (rowsU xs)) : ∃ p c, v = .slice p xs.length c := by
  obtain ⟨p, c, rfl⟩ := h.slice
  exact ⟨p, c, by simp⟩

/-- How many are below. -/
def below (xs : List Int) (t : Int) : Nat := xs.countP (· < t)

theorem pw_lt {xs : List Int} (hs : xs.Pairwise (· < ·)) {i j : Nat} {x y : Int} (h : i < j) (hx : xs[i]? = some x) (hy : xs[j]? = some y) : x < y := by
  obtain ⟨h1, rfl⟩ := List.getElem?_eq_some_iff.1 hx
  obtain ⟨h2, rfl⟩ := List.getElem?_eq_some_iff.1 hy
  exact List.pairwise_iff_getElem.1 hs i j h1 h2 h

theorem below_eq {xs : List Int} {t : Int} (hs : xs.Pairwise (· < ·)) {i : Nat} (hi : i ≤ xs.length) (hlo : ∀ d, d < i → ∀ x, xs[d]? = some x → x < t) (hhi : ∀ d, i ≤ d → ∀ x, xs[d]? = some x → t ≤ x) : below xs t = i := by
  have h1 : xs = xs.take i ++ xs.drop i := (List.take_append_drop i xs).symm
  unfold below
  rw [h1, List.countP_append]
  have h2 : (xs.take i).countP (· < t) = i := by
    rw [List.countP_eq_length.2]
    · simp [hi]
    · intro x hx
      obtain ⟨d, hd, rfl⟩ := List.mem_iff_getElem.1 hx
      simp only [List.length_take] at hd
      have := hlo d (by omega) xs[d] (List.getElem?_eq_getElem (by omega))
      simpa using this
  have h3 : (xs.drop i).countP (· < t) = 0 := by
    rw [List.countP_eq_zero]
    intro x hx
    obtain ⟨d, hd, rfl⟩ := List.mem_iff_getElem.1 hx
    simp at hd
    have := hhi (i + d) (by omega) xs[i + d] (List.getElem?_eq_getElem (by omega))
    simp; omega
  omega

theorem search_spec {b : Nat} {m : Mem} {v : Value} {xs : List Int} {t : Int} (h : RdS b m 1 v (rowsU xs)) (hs : xs.Pairwise (· < ·)) (hl : xs.length ≤ 4611686018427387903) :
    Ca 20 [v, U t] m (.tuple #[I (below xs t), .bool (decide (t ∈ xs))]) m := by
  refine callX_of (call_go (F := _) rfl rfl fun Q hQ => ?_)
  obtain ⟨p, c, rfl⟩ := rd_slice h
  simp only [go_nil, go_inBlock, go_skip, go_seq, go_block, go_exit, go_ret, go_ops, go_opsr, go_cond, ex_nil, ex_code, ex_inLoop, ex_inBlock, goC_true, goC_false, goC_dec, goO_nil, goO_cons, goO_guard, goG_true, goG_false, goR_val, goR_skip, wantedX, X.put, X.look, look_hit, Arg.ev, keepOf, restrict, evs, evO, initEnv, xres, tup, xi_move, xi_pick, pick_bool, xi_bin, bin_add, bin_sub, bin_mul, bin_eql, bin_neq, bin_lss, bin_leq, bin_gtr, bin_geq, xi_load1, ld_ptr, xi_nilCheck, nilCheck_ptr, xi_fieldAddr, fieldAddr_ptr, xi_isNil, isNil_some, isNil_none, xi_extract, extract_tuple, xi_call, call_func, xi_len, len_slice, xi_un, un_not, xi_store, xi_box, box_int, box_ptr, box_slice, push_self, push_two, Mem.next_push, xi_calcB, calc_max, calc_min, goG_dec, goG_ndec, xi_indexAddr, indexAddr_at, xi_slice, xi_append, xi_clear, isNil_slice, xi_conv, xi_alloc, box_agg, box_string, box_bool, xi_buildSlice, xparts_nil, xparts_cons, xi_build, xi_field, field_one, xi_makeFunc, makeFunc_nil, xi_loadA, go_opsd, goD_nil, goD_cons, goDV0, goDV1, goDV2, goDV3, goDV3s, again_nil, again_cons, againE_val, veq_int, veq_slice, veq_ptr, veq_bool, veq_string, asNat_nat, asNat_zero, asNat_one, noTup, cls, quiet, Option.isNone_some, Option.isNone_none, Bool.and_true, Bool.and_self, Bool.true_and, Nat.add_zero, Nat.mul_one, Nat.mul_zero, Nat.zero_mul, List.length_map, Option.bind_some, Option.map_some, List.getElem?_cons_zero, List.getElem?_cons_succ, Nat.reduceAdd, Nat.reduceEqDiff, reduceIte, reduceCtorEq, goInt, bne_self_eq_false, Bool.false_bne, Bool.true_bne, Bool.not_true, Bool.not_false, decide_eq_true_eq, decide_eq_false_iff_not, Option.some.injEq, exists_eq_left', Nat.zero_add, beq_self_eq_true, cond_true, cond_false, eqb_t, eqb_f, Int.cast_ofNat_Int, eq_self, decide_true, decide_false, Int.reduceLT, Int.reduceLE, Int.reduceEq, Int.reduceNeg, Int.reduceAdd, Int.reduceSub, and_true, true_and, forall_const, Bool.true_eq_false, Bool.false_eq_true, false_implies, ne_eq, not_true_eq_false, not_false_eq_true, true_implies, Decidable.not_not]
  refine loop_go (fun k e m' => m' = m ∧ ∃ i j : Nat, i ≤ j ∧ j ≤ xs.length ∧ k = j - i ∧ (∀ d, d < i → ∀ x, xs[d]? = some x → x < t) ∧ (∀ d, j ≤ d → ∀ x, xs[d]? = some x → t ≤ x) ∧
    e = [(0, .slice p xs.length c), (1, U t), (6, I xs.length), (7, I i), (8, I j)]) xs.length ⟨rfl, 0, xs.length, by omega, by omega, by omega, by intros; omega, fun d hd x hx => by simp [List.getElem?_eq_none hd] at hx, ?_⟩ ?_
  · rfl
  rintro k e m' N' B' hN hB ⟨rfl, i, j, hij, hj, rfl, hlo, hhi, rfl⟩
  by_cases hlt : i < j
  · -- one step
    have hlt' : (i : Int) < (j : Int) := by omega
    obtain ⟨x, hx⟩ : ∃ x, xs[(i + j) / 2]? = some x := ⟨_, List.getElem?_eq_getElem (by omega)⟩
    obtain ⟨a, c', o, hv, hg, hc⟩ := rd_at h hx
    cases hv
    have w1 : IntKind.i64.wrap ((i : Int) + (j : Int)) = ((i + j : Nat) : Int) := by rw [wrap_i64 (by omega) (by omega)]; omega
    have w2 : IntKind.u64.wrap ((i + j : Nat) : Int) = ((i + j : Nat) : Int) := wrap_u64 (by omega) (by omega)
    have w3 : (((i + j : Nat) : Int)).fdiv 2 = (((i + j) / 2 : Nat) : Int) := by rw [Int.fdiv_eq_ediv_of_nonneg _ (by omega)]; omega
    have w4 : IntKind.i64.wrap (((i + j) / 2 : Nat) : Int) = (((i + j) / 2 : Nat) : Int) := wrap_i64 (by omega) (by omega)
    have w5 : IntKind.i64.wrap ((((i + j) / 2 : Nat) : Int) + 1) = (((i + j) / 2 + 1 : Nat) : Int) := by rw [wrap_i64 (by omega) (by omega)]; omega
    have hmid : (i + j) / 2 < xs.length := by omega
    simp only [go_nil, go_inBlock, go_skip, go_seq, go_block, go_exit, go_ret, go_ops, go_opsr, go_cond, ex_nil, ex_code, ex_inLoop, ex_inBlock, goC_true, goC_false, goC_dec, goO_nil, goO_cons, goO_guard, goG_true, goG_false, goR_val, goR_skip, wantedX, X.put, X.look, look_hit, Arg.ev, keepOf, restrict, evs, evO, initEnv, xres, tup, xi_move, xi_pick, pick_bool, xi_bin, bin_add, bin_sub, bin_mul, bin_eql, bin_neq, bin_lss, bin_leq, bin_gtr, bin_geq, xi_load1, ld_ptr, xi_nilCheck, nilCheck_ptr, xi_fieldAddr, fieldAddr_ptr, xi_isNil, isNil_some, isNil_none, xi_extract, extract_tuple, xi_call, call_func, xi_len, len_slice, xi_un, un_not, xi_store, xi_box, box_int, box_ptr, box_slice, push_self, push_two, Mem.next_push, xi_calcB, calc_max, calc_min, goG_dec, goG_ndec, xi_indexAddr, indexAddr_at, xi_slice, xi_append, xi_clear, isNil_slice, xi_conv, xi_alloc, box_agg, box_string, box_bool, xi_buildSlice, xparts_nil, xparts_cons, xi_build, xi_field, field_one, xi_makeFunc, makeFunc_nil, xi_loadA, go_opsd, goD_nil, goD_cons, goDV0, goDV1, goDV2, goDV3, goDV3s, again_nil, again_cons, againE_val, veq_int, veq_slice, veq_ptr, veq_bool, veq_string, asNat_nat, asNat_zero, asNat_one, noTup, cls, quiet, Option.isNone_some, Option.isNone_none, Bool.and_true, Bool.and_self, Bool.true_and, Nat.add_zero, Nat.mul_one, Nat.mul_zero, Nat.zero_mul, List.length_map, Option.bind_some, Option.map_some, List.getElem?_cons_zero, List.getElem?_cons_succ, Nat.reduceAdd, Nat.reduceEqDiff, reduceIte, reduceCtorEq, goInt, bne_self_eq_false, Bool.false_bne, Bool.true_bne, Bool.not_true, Bool.not_false, decide_eq_true_eq, decide_eq_false_iff_not, Option.some.injEq, exists_eq_left', Nat.zero_add, beq_self_eq_true, cond_true, cond_false, eqb_t, eqb_f, Int.cast_ofNat_Int, eq_self, decide_true, decide_false, Int.reduceLT, Int.reduceLE, Int.reduceEq, Int.reduceNeg, Int.reduceAdd, Int.reduceSub, and_true, true_and, forall_const, Bool.true_eq_false, Bool.false_eq_true, false_implies, ne_eq, not_true_eq_false, not_false_eq_true, true_implies, Decidable.not_not, hlt', w1, conv_iu, w2, bin_shr1, w3, conv_ui, w4, w5, hmid, hg, hc, goR_call less_spec]
    constructor
    · intro hxt
      refine hN _ _ (j - ((i + j) / 2 + 1)) (by omega) ⟨rfl, (i + j) / 2 + 1, j, by omega, hj, rfl, fun d hd y hy => ?_, hhi, rfl⟩
      rcases Nat.lt_or_ge d ((i + j) / 2) with h1 | h1
      · exact Int.lt_trans (pw_lt hs h1 hy hx) hxt
      · have : d = (i + j) / 2 := by omega
        subst this
        rw [hx] at hy; cases hy; exact hxt
    · intro hxt
      refine hN _ _ ((i + j) / 2 - i) (by omega) ⟨rfl, i, (i + j) / 2, by omega, by omega, rfl, hlo, fun d hd y hy => ?_, rfl⟩
      rcases Nat.lt_or_ge ((i + j) / 2) d with h1 | h1
      · exact Int.le_trans (Int.not_lt.1 hxt) (Int.le_of_lt (pw_lt hs h1 hx hy))
      · have : d = (i + j) / 2 := by omega
        subst this
        rw [hx] at hy; cases hy; exact Int.not_lt.1 hxt
  · have hlt' : ¬ (i : Int) < (j : Int) := by omega
    have hji : i = j := by omega
    subst hji
    have hb := below_eq hs hj hlo hhi
    simp only [go_nil, go_inBlock, go_skip, go_seq, go_block, go_exit, go_ret, go_ops, go_opsr, go_cond, ex_nil, ex_code, ex_inLoop, ex_inBlock, goC_true, goC_false, goC_dec, goO_nil, goO_cons, goO_guard, goG_true, goG_false, goR_val, goR_skip, wantedX, X.put, X.look, look_hit, Arg.ev, keepOf, restrict, evs, evO, initEnv, xres, tup, xi_move, xi_pick, pick_bool, xi_bin, bin_add, bin_sub, bin_mul, bin_eql, bin_neq, bin_lss, bin_leq, bin_gtr, bin_geq, xi_load1, ld_ptr, xi_nilCheck, nilCheck_ptr, xi_fieldAddr, fieldAddr_ptr, xi_isNil, isNil_some, isNil_none, xi_extract, extract_tuple, xi_call, call_func, xi_len, len_slice, xi_un, un_not, xi_store, xi_box, box_int, box_ptr, box_slice, push_self, push_two, Mem.next_push, xi_calcB, calc_max, calc_min, goG_dec, goG_ndec, xi_indexAddr, indexAddr_at, xi_slice, xi_append, xi_clear, isNil_slice, xi_conv, xi_alloc, box_agg, box_string, box_bool, xi_buildSlice, xparts_nil, xparts_cons, xi_build, xi_field, field_one, xi_makeFunc, makeFunc_nil, xi_loadA, go_opsd, goD_nil, goD_cons, goDV0, goDV1, goDV2, goDV3, goDV3s, again_nil, again_cons, againE_val, veq_int, veq_slice, veq_ptr, veq_bool, veq_string, asNat_nat, asNat_zero, asNat_one, noTup, cls, quiet, Option.isNone_some, Option.isNone_none, Bool.and_true, Bool.and_self, Bool.true_and, Nat.add_zero, Nat.mul_one, Nat.mul_zero, Nat.zero_mul, List.length_map, Option.bind_some, Option.map_some, List.getElem?_cons_zero, List.getElem?_cons_succ, Nat.reduceAdd, Nat.reduceEqDiff, reduceIte, reduceCtorEq, goInt, bne_self_eq_false, Bool.false_bne, Bool.true_bne, Bool.not_true, Bool.not_false, decide_eq_true_eq, decide_eq_false_iff_not, Option.some.injEq, exists_eq_left', Nat.zero_add, beq_self_eq_true, cond_true, cond_false, eqb_t, eqb_f, Int.cast_ofNat_Int, eq_self, decide_true, decide_false, Int.reduceLT, Int.reduceLE, Int.reduceEq, Int.reduceNeg, Int.reduceAdd, Int.reduceSub, and_true, true_and, forall_const, Bool.true_eq_false, Bool.false_eq_true, false_implies, ne_eq, not_true_eq_false, not_false_eq_true, true_implies, Decidable.not_not, hlt']
    refine hB _ _ _ ?_
    by_cases hi : i < xs.length
    · have hi' : (i : Int) < (xs.length : Int) := by omega
      obtain ⟨x, hx⟩ : ∃ x, xs[i]? = some x := ⟨_, List.getElem?_eq_getElem hi⟩
      obtain ⟨a, c', o, hv, hg, hc⟩ := rd_at h hx
      cases hv
      by_cases hxt : x = t
      · have hmem : t ∈ xs := by rw [← hxt]; exact List.mem_of_getElem? hx
        simp only [go_nil, go_inBlock, go_skip, go_seq, go_block, go_exit, go_ret, go_ops, go_opsr, go_cond, ex_nil, ex_code, ex_inLoop, ex_inBlock, goC_true, goC_false, goC_dec, goO_nil, goO_cons, goO_guard, goG_true, goG_false, goR_val, goR_skip, wantedX, X.put, X.look, look_hit, Arg.ev, keepOf, restrict, evs, evO, initEnv, xres, tup, xi_move, xi_pick, pick_bool, xi_bin, bin_add, bin_sub, bin_mul, bin_eql, bin_neq, bin_lss, bin_leq, bin_gtr, bin_geq, xi_load1, ld_ptr, xi_nilCheck, nilCheck_ptr, xi_fieldAddr, fieldAddr_ptr, xi_isNil, isNil_some, isNil_none, xi_extract, extract_tuple, xi_call, call_func, xi_len, len_slice, xi_un, un_not, xi_store, xi_box, box_int, box_ptr, box_slice, push_self, push_two, Mem.next_push, xi_calcB, calc_max, calc_min, goG_dec, goG_ndec, xi_indexAddr, indexAddr_at, xi_slice, xi_append, xi_clear, isNil_slice, xi_conv, xi_alloc, box_agg, box_string, box_bool, xi_buildSlice, xparts_nil, xparts_cons, xi_build, xi_field, field_one, xi_makeFunc, makeFunc_nil, xi_loadA, go_opsd, goD_nil, goD_cons, goDV0, goDV1, goDV2, goDV3, goDV3s, again_nil, again_cons, againE_val, veq_int, veq_slice, veq_ptr, veq_bool, veq_string, asNat_nat, asNat_zero, asNat_one, noTup, cls, quiet, Option.isNone_some, Option.isNone_none, Bool.and_true, Bool.and_self, Bool.true_and, Nat.add_zero, Nat.mul_one, Nat.mul_zero, Nat.zero_mul, List.length_map, Option.bind_some, Option.map_some, List.getElem?_cons_zero, List.getElem?_cons_succ, Nat.reduceAdd, Nat.reduceEqDiff, reduceIte, reduceCtorEq, goInt, bne_self_eq_false, Bool.false_bne, Bool.true_bne, Bool.not_true, Bool.not_false, decide_eq_true_eq, decide_eq_false_iff_not, Option.some.injEq, exists_eq_left', Nat.zero_add, beq_self_eq_true, cond_true, cond_false, eqb_t, eqb_f, Int.cast_ofNat_Int, eq_self, decide_true, decide_false, Int.reduceLT, Int.reduceLE, Int.reduceEq, Int.reduceNeg, Int.reduceAdd, Int.reduceSub, and_true, true_and, forall_const, Bool.true_eq_false, Bool.false_eq_true, false_implies, ne_eq, not_true_eq_false, not_false_eq_true, true_implies, Decidable.not_not, hi', hi, hg, hc, hxt]
        rw [hb, decide_eq_true hmem] at hQ
        exact hQ _ _ _ rfl ⟨rfl, rfl⟩
      · have hmem : t ∉ xs := by
          intro hm
          obtain ⟨d, hd, rfl⟩ := List.mem_iff_getElem.1 hm
          rcases Nat.lt_trichotomy d i with h1 | h1 | h1
          · exact absurd (hlo d h1 _ (List.getElem?_eq_getElem hd)) (by omega)
          · subst h1; rw [List.getElem?_eq_getElem hd] at hx; cases hx; exact hxt rfl
          · have h2 := pw_lt hs h1 hx (List.getElem?_eq_getElem hd)
            have h3 := hhi i (Nat.le_refl _) _ hx
            omega
        simp only [go_nil, go_inBlock, go_skip, go_seq, go_block, go_exit, go_ret, go_ops, go_opsr, go_cond, ex_nil, ex_code, ex_inLoop, ex_inBlock, goC_true, goC_false, goC_dec, goO_nil, goO_cons, goO_guard, goG_true, goG_false, goR_val, goR_skip, wantedX, X.put, X.look, look_hit, Arg.ev, keepOf, restrict, evs, evO, initEnv, xres, tup, xi_move, xi_pick, pick_bool, xi_bin, bin_add, bin_sub, bin_mul, bin_eql, bin_neq, bin_lss, bin_leq, bin_gtr, bin_geq, xi_load1, ld_ptr, xi_nilCheck, nilCheck_ptr, xi_fieldAddr, fieldAddr_ptr, xi_isNil, isNil_some, isNil_none, xi_extract, extract_tuple, xi_call, call_func, xi_len, len_slice, xi_un, un_not, xi_store, xi_box, box_int, box_ptr, box_slice, push_self, push_two, Mem.next_push, xi_calcB, calc_max, calc_min, goG_dec, goG_ndec, xi_indexAddr, indexAddr_at, xi_slice, xi_append, xi_clear, isNil_slice, xi_conv, xi_alloc, box_agg, box_string, box_bool, xi_buildSlice, xparts_nil, xparts_cons, xi_build, xi_field, field_one, xi_makeFunc, makeFunc_nil, xi_loadA, go_opsd, goD_nil, goD_cons, goDV0, goDV1, goDV2, goDV3, goDV3s, again_nil, again_cons, againE_val, veq_int, veq_slice, veq_ptr, veq_bool, veq_string, asNat_nat, asNat_zero, asNat_one, noTup, cls, quiet, Option.isNone_some, Option.isNone_none, Bool.and_true, Bool.and_self, Bool.true_and, Nat.add_zero, Nat.mul_one, Nat.mul_zero, Nat.zero_mul, List.length_map, Option.bind_some, Option.map_some, List.getElem?_cons_zero, List.getElem?_cons_succ, Nat.reduceAdd, Nat.reduceEqDiff, reduceIte, reduceCtorEq, goInt, bne_self_eq_false, Bool.false_bne, Bool.true_bne, Bool.not_true, Bool.not_false, decide_eq_true_eq, decide_eq_false_iff_not, Option.some.injEq, exists_eq_left', Nat.zero_add, beq_self_eq_true, cond_true, cond_false, eqb_t, eqb_f, Int.cast_ofNat_Int, eq_self, decide_true, decide_false, Int.reduceLT, Int.reduceLE, Int.reduceEq, Int.reduceNeg, Int.reduceAdd, Int.reduceSub, and_true, true_and, forall_const, Bool.true_eq_false, Bool.false_eq_true, false_implies, ne_eq, not_true_eq_false, not_false_eq_true, true_implies, Decidable.not_not, hi', hi, hg, hc, hxt, goR_call isNaN2_spec]
        rw [hb, decide_eq_false hmem] at hQ
        exact hQ _ _ _ rfl ⟨rfl, rfl⟩
    · have hi' : ¬ (i : Int) < (xs.length : Int) := by omega
      have hmem : t ∉ xs := by
        intro hm
        obtain ⟨d, hd, rfl⟩ := List.mem_iff_getElem.1 hm
        exact absurd (hlo d (by omega) _ (List.getElem?_eq_getElem hd)) (by omega)
      simp only [go_nil, go_inBlock, go_skip, go_seq, go_block, go_exit, go_ret, go_ops, go_opsr, go_cond, ex_nil, ex_code, ex_inLoop, ex_inBlock, goC_true, goC_false, goC_dec, goO_nil, goO_cons, goO_guard, goG_true, goG_false, goR_val, goR_skip, wantedX, X.put, X.look, look_hit, Arg.ev, keepOf, restrict, evs, evO, initEnv, xres, tup, xi_move, xi_pick, pick_bool, xi_bin, bin_add, bin_sub, bin_mul, bin_eql, bin_neq, bin_lss, bin_leq, bin_gtr, bin_geq, xi_load1, ld_ptr, xi_nilCheck, nilCheck_ptr, xi_fieldAddr, fieldAddr_ptr, xi_isNil, isNil_some, isNil_none, xi_extract, extract_tuple, xi_call, call_func, xi_len, len_slice, xi_un, un_not, xi_store, xi_box, box_int, box_ptr, box_slice, push_self, push_two, Mem.next_push, xi_calcB, calc_max, calc_min, goG_dec, goG_ndec, xi_indexAddr, indexAddr_at, xi_slice, xi_append, xi_clear, isNil_slice, xi_conv, xi_alloc, box_agg, box_string, box_bool, xi_buildSlice, xparts_nil, xparts_cons, xi_build, xi_field, field_one, xi_makeFunc, makeFunc_nil, xi_loadA, go_opsd, goD_nil, goD_cons, goDV0, goDV1, goDV2, goDV3, goDV3s, again_nil, again_cons, againE_val, veq_int, veq_slice, veq_ptr, veq_bool, veq_string, asNat_nat, asNat_zero, asNat_one, noTup, cls, quiet, Option.isNone_some, Option.isNone_none, Bool.and_true, Bool.and_self, Bool.true_and, Nat.add_zero, Nat.mul_one, Nat.mul_zero, Nat.zero_mul, List.length_map, Option.bind_some, Option.map_some, List.getElem?_cons_zero, List.getElem?_cons_succ, Nat.reduceAdd, Nat.reduceEqDiff, reduceIte, reduceCtorEq, goInt, bne_self_eq_false, Bool.false_bne, Bool.true_bne, Bool.not_true, Bool.not_false, decide_eq_true_eq, decide_eq_false_iff_not, Option.some.injEq, exists_eq_left', Nat.zero_add, beq_self_eq_true, cond_true, cond_false, eqb_t, eqb_f, Int.cast_ofNat_Int, eq_self, decide_true, decide_false, Int.reduceLT, Int.reduceLE, Int.reduceEq, Int.reduceNeg, Int.reduceAdd, Int.reduceSub, and_true, true_and, forall_const, Bool.true_eq_false, Bool.false_eq_true, false_implies, ne_eq, not_true_eq_false, not_false_eq_true, true_implies, Decidable.not_not, hi']
      rw [hb, decide_eq_false hmem] at hQ
      exact hQ _ _ _ rfl ⟨rfl, rfl⟩

end Go.Proofs.Ytbcoijgoipnelaa
