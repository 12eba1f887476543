/-
  Own work. What the chain's functions come to: bytes of values, weights.
-/
import Derived.Test.YtbcoijgoipnelabXC6
namespace Go.Proofs.Ytbcoijgoipnelab
open Go X
set_option maxRecDepth 100000
set_option linter.unusedVariables false
set_option linter.unusedSimpArgs false

/-! ## Texts -/
theorem bin_sadd {m : Mem} {a b : ByteArray} (h : a.size + b.size ≤ 4611686018427387903) : binE Try.prog .add 9 (.string a) (.string b) m = some (.val (.string (a ++ b)) m) := by
  have h1 : ¬ (((a.size + b.size : Nat) : Int) > IntKind.i64.max) := by
    have : IntKind.i64.max = 9223372036854775807 := by decide
    rw [this]; omega
  unfold binE
  rw [if_pos (show (plain (.string a) && plain (.string b)) = true from rfl), ans_bind]
  have hg : ans Try.prog (eqGuard .add 9 (.const (.string a)) (.const (.string b)) (.string a) (.string b)) = some () := rfl
  rw [hg]
  simp only [Option.bind_some, binOp, Op.stringOp]
  rw [if_neg h1]
  rfl
theorem size_append {a b : ByteArray} : (a ++ b).size = a.size + b.size := ByteArray.size_append

def bstrE (m : Mem) (v : Value) : Option XR := (xlen v).bind fun n => (xfirst m 1 n v).bind fun cs => (byteL cs).bind fun bs => match v with
    | .slice _ _ _ => some (.val (.string ⟨bs.toArray⟩) m)
    | _ => none
theorem xi_bstr {e : Env} {m : Mem} {x : Arg} : xi Try.prog e m (.bstr x) = (x.ev e).bind (bstrE m) := (rfl)
def arrSliceE (m : Mem) (n : Nat) : Value → Option XR
  | .pointer (some a) => if a.spot.isNone then some (.val (.slice (some ⟨a.block, a.off, none⟩) n n) m) else none
  | _ => none
theorem xi_arrSlice {e : Env} {m : Mem} {n : Nat} {x : Arg} : xi Try.prog e m (.arrSlice n x) = (x.ev e).bind (arrSliceE m n) := (rfl)
theorem arrSlice_ptr {m : Mem} {n b off : Nat} : arrSliceE m n (.pointer (some ⟨b, off, none⟩)) = some (.val (.slice (some ⟨b, off, none⟩) n n) m) := (rfl)
theorem byteL_len : ∀ {cs : List Value}, (∀ c ∈ cs, ∃ n, c = .int .u8 n) → ∃ bs, byteL cs = some bs ∧ bs.length = cs.length
  | [], _ => ⟨[], rfl, rfl⟩
  | c :: cs, h => by
    obtain ⟨n, rfl⟩ := h c (by simp)
    obtain ⟨bs, h1, h2⟩ := byteL_len (cs := cs) (fun c hc => h c (by simp [hc]))
    exact ⟨_ :: bs, by simp only [byteL, h1, Option.map_some]; rfl, by simp [h2]⟩
theorem bstr_row {m : Mem} {b n : Nat} {o : XObj} (hg : m.get b = some o) (hl : o.cells.length = n) (h0 : 0 < n) (h : ∀ c ∈ o.cells, ∃ k, c = .int .u8 k) : ∃ s, bstrE m (.slice (some ⟨b, 0, none⟩) n n) = some (.val (.string s) m) ∧ s.size = n := by
  obtain ⟨bs, h1, h2⟩ := byteL_len h
  refine ⟨⟨bs.toArray⟩, ?_, by show bs.toArray.size = n; simp [h2, hl]⟩
  have hx : xfirst m 1 n (.slice (some ⟨b, 0, none⟩) n n) = some o.cells := by
    simp only [xfirst]
    rw [if_neg (by omega), xload_own hg (by omega), List.drop_zero, List.take_of_length_le (by omega)]
  simp only [bstrE, xlen, Option.bind_some, hx, h1]
theorem conv_u8 {m : Mem} {n : Int} : convE Try.prog 29 5 m (U n) = some (.val (.int .u8 (IntKind.u8.wrap n)) m) := by kernel_rfl
theorem calc_lenn {m : Mem} {t : ByteArray} {n : List Bool} : calcE Try.prog .len [9] 3 n [.string t] m = some (.val (I (t.size : Nat)) m) := calc_len

/-- A row of bytes. -/
def Bytes8 (cs : List Value) : Prop := cs.length = 8 ∧ ∀ c ∈ cs, ∃ n, c = .int .u8 n
theorem bytes8_set {cs : List Value} {i : Nat} {n : Int} (h : Bytes8 cs) : Bytes8 (cs.set i (.int .u8 n)) := by
  refine ⟨by simp [h.1], fun c hc => ?_⟩
  rcases List.mem_or_eq_of_mem_set hc with h1 | rfl
  · exact h.2 c h1
  · exact ⟨n, rfl⟩
theorem bytes8_zero : Bytes8 [.int .u8 0, .int .u8 0, .int .u8 0, .int .u8 0, .int .u8 0, .int .u8 0, .int .u8 0, .int .u8 0] := ⟨rfl, by simp⟩

/-! ## A number's bytes -/
theorem shr_any {m : Mem} {p : Int} {i : Nat} (h : i < 8) : ∃ q, binE Try.prog .shr 29 (U p) (I (8 * (7 - (i : Int)))) m = some (.val (U q) m) := by
  have : i = 0 ∨ i = 1 ∨ i = 2 ∨ i = 3 ∨ i = 4 ∨ i = 5 ∨ i = 6 ∨ i = 7 := by omega
  rcases this with rfl | rfl | rfl | rfl | rfl | rfl | rfl | rfl
  · exact ⟨p.fdiv (2 ^ 56), by kernel_rfl⟩
  · exact ⟨p.fdiv (2 ^ 48), by kernel_rfl⟩
  · exact ⟨p.fdiv (2 ^ 40), by kernel_rfl⟩
  · exact ⟨p.fdiv (2 ^ 32), by kernel_rfl⟩
  · exact ⟨p.fdiv (2 ^ 24), by kernel_rfl⟩
  · exact ⟨p.fdiv (2 ^ 16), by kernel_rfl⟩
  · exact ⟨p.fdiv (2 ^ 8), by kernel_rfl⟩
  · exact ⟨p.fdiv (2 ^ 0), by kernel_rfl⟩
def indexArrE (m : Mem) (n size : Nat) : Value → Value → Option XR
  | .pointer (some a), vi => (asNat vi).bind fun j => if j < n ∧ a.spot.isNone then some (.val (.pointer (some ⟨a.block, a.off + j * size, none⟩)) m) else none
  | _, _ => none
theorem xi_indexArr {e : Env} {m : Mem} {n size : Nat} {x y : Arg} : xi Try.prog e m (.indexAddrArr n size x y) = (x.ev e).bind fun v => (y.ev e).bind fun vi => indexArrE m n size v vi := by
  simp only [xi]
  congr 1; funext v; congr 1; funext vi
  cases v with
  | pointer p => cases p <;> rfl
  | _ => rfl
theorem indexArr_at {m : Mem} {n size i b off : Nat} {kd : IntKind} (h : i < n) : indexArrE m n size (.pointer (some ⟨b, off, none⟩)) (.int kd (i : Int)) = some (.val (.pointer (some ⟨b, off + i * size, none⟩)) m) := by
  simp [indexArrE, asNat_nat, h]

theorem and_any {m : Mem} {p : Int} : binE Try.prog .and 29 (U p) (U 9223372036854775808) m = some (.val (U (IntKind.u64.wrap ((BitVec.ofInt 64 p) &&& (BitVec.ofInt 64 9223372036854775808)).toNat)) m) := by kernel_rfl
theorem andNot_any {m : Mem} {p : Int} : binE Try.prog .andNot 29 (U p) (U 9223372036854775808) m = some (.val (U (IntKind.u64.wrap ((BitVec.ofInt 64 p) &&& ~~~(BitVec.ofInt 64 9223372036854775808)).toNat)) m) := by kernel_rfl

theorem place_spec {m : Mem} {b : Nat} (hb : b < 18446744073709551616) : ∃ q, Ca 42 [Fl b] m (U q) m := by
  have key : Wc 42 [Fl b] m fun r m' => (∃ q, r = U q) ∧ m' = m := by
    refine call_go (F := _) rfl rfl fun Q hQ => ?_
    by_cases h1 : ((nb b : Nat) : Int) = 9221120237041090561
    · simp only [go_nil, go_inBlock, go_skip, go_seq, go_block, go_exit, go_ret, go_ops, go_opsr, go_cond, ex_nil, ex_code, ex_inLoop, ex_inBlock, goC_true, goC_false, goC_dec, goO_nil, goO_cons, goO_guard, goG_true, goG_false, goR_val, goR_skip, wantedX, X.put, X.look, look_hit, Arg.ev, keepOf, restrict, evs, evO, initEnv, xres, tup, xi_move, xi_pick, pick_bool, xi_bin, bin_add, bin_sub, bin_mul, bin_eql, bin_neq, bin_lss, bin_leq, bin_gtr, bin_geq, xi_load1, ld_ptr, xi_nilCheck, nilCheck_ptr, xi_fieldAddr, fieldAddr_ptr, xi_isNil, isNil_some, isNil_none, xi_extract, extract_tuple, xi_call, call_func, xi_len, len_slice, xi_un, un_not, xi_store, xi_box, box_int, box_ptr, box_slice, push_self, push_two, Mem.next_push, xi_calcB, calc_max, calc_min, goG_dec, goG_ndec, xi_indexAddr, indexAddr_at, xi_slice, xi_append, xi_clear, isNil_slice, xi_conv, xi_alloc, box_agg, box_string, box_bool, xi_buildSlice, xparts_nil, xparts_cons, xi_build, xi_field, field_one, xi_makeFunc, makeFunc_nil, xi_loadA, go_opsd, goD_nil, goD_cons, goD_guard, goDG_true, goDG_false, goDV0, goDV1, goDV2, goDV3, goDV3s, again_nil, again_cons, againE_val, veq_int, veq_slice, veq_ptr, veq_bool, veq_string, veq_agg, veqL_nil, veqL_cons, veqC_int, veqC_bool, veqC_string, veqC_slice, veqC_ptr, List.filter_cons, List.filter_nil, Nat.testBit_eq_decide_div_mod_eq, asNat_nat, asNat_zero, asNat_one, noTup, cls, quiet, Option.isNone_some, Option.isNone_none, Bool.and_true, Bool.and_self, Bool.true_and, Nat.add_zero, Nat.mul_one, Nat.mul_zero, Nat.zero_mul, List.length_map, Option.bind_some, Option.map_some, List.getElem?_cons_zero, List.getElem?_cons_succ, Nat.reduceAdd, Nat.reduceEqDiff, reduceIte, reduceCtorEq, goInt, bne_self_eq_false, Bool.false_bne, Bool.true_bne, Bool.not_true, Bool.not_false, decide_eq_true_eq, decide_eq_false_iff_not, Option.some.injEq, exists_eq_left', Nat.zero_add, beq_self_eq_true, cond_true, cond_false, eqb_t, eqb_f, Int.cast_ofNat_Int, eq_self, decide_true, decide_false, Int.reduceLT, Int.reduceLE, Int.reduceEq, Int.reduceNeg, Int.reduceAdd, Int.reduceSub, and_true, true_and, forall_const, Bool.true_eq_false, Bool.false_eq_true, false_implies, ne_eq, not_true_eq_false, not_false_eq_true, true_implies, Decidable.not_not, undef, List.size_toArray, List.length_nil, Nat.reducePow, Nat.reduceDiv, Nat.reduceMod, goR_call (bits_spec hb), h1]
      exact hQ _ _ _ rfl ⟨⟨_, rfl⟩, rfl⟩
    · obtain ⟨q1, e1⟩ : ∃ q1, binE Try.prog .and 29 (U ((nb b : Nat) : Int)) (U 9223372036854775808) m = some (.val (U q1) m) := ⟨_, and_any⟩
      obtain ⟨q2, e2⟩ : ∃ q2, binE Try.prog .andNot 29 (U ((nb b : Nat) : Int)) (U 9223372036854775808) m = some (.val (U q2) m) := ⟨_, andNot_any⟩
      by_cases h2 : q1 = 0
      · simp only [go_nil, go_inBlock, go_skip, go_seq, go_block, go_exit, go_ret, go_ops, go_opsr, go_cond, ex_nil, ex_code, ex_inLoop, ex_inBlock, goC_true, goC_false, goC_dec, goO_nil, goO_cons, goO_guard, goG_true, goG_false, goR_val, goR_skip, wantedX, X.put, X.look, look_hit, Arg.ev, keepOf, restrict, evs, evO, initEnv, xres, tup, xi_move, xi_pick, pick_bool, xi_bin, bin_add, bin_sub, bin_mul, bin_eql, bin_neq, bin_lss, bin_leq, bin_gtr, bin_geq, xi_load1, ld_ptr, xi_nilCheck, nilCheck_ptr, xi_fieldAddr, fieldAddr_ptr, xi_isNil, isNil_some, isNil_none, xi_extract, extract_tuple, xi_call, call_func, xi_len, len_slice, xi_un, un_not, xi_store, xi_box, box_int, box_ptr, box_slice, push_self, push_two, Mem.next_push, xi_calcB, calc_max, calc_min, goG_dec, goG_ndec, xi_indexAddr, indexAddr_at, xi_slice, xi_append, xi_clear, isNil_slice, xi_conv, xi_alloc, box_agg, box_string, box_bool, xi_buildSlice, xparts_nil, xparts_cons, xi_build, xi_field, field_one, xi_makeFunc, makeFunc_nil, xi_loadA, go_opsd, goD_nil, goD_cons, goD_guard, goDG_true, goDG_false, goDV0, goDV1, goDV2, goDV3, goDV3s, again_nil, again_cons, againE_val, veq_int, veq_slice, veq_ptr, veq_bool, veq_string, veq_agg, veqL_nil, veqL_cons, veqC_int, veqC_bool, veqC_string, veqC_slice, veqC_ptr, List.filter_cons, List.filter_nil, Nat.testBit_eq_decide_div_mod_eq, asNat_nat, asNat_zero, asNat_one, noTup, cls, quiet, Option.isNone_some, Option.isNone_none, Bool.and_true, Bool.and_self, Bool.true_and, Nat.add_zero, Nat.mul_one, Nat.mul_zero, Nat.zero_mul, List.length_map, Option.bind_some, Option.map_some, List.getElem?_cons_zero, List.getElem?_cons_succ, Nat.reduceAdd, Nat.reduceEqDiff, reduceIte, reduceCtorEq, goInt, bne_self_eq_false, Bool.false_bne, Bool.true_bne, Bool.not_true, Bool.not_false, decide_eq_true_eq, decide_eq_false_iff_not, Option.some.injEq, exists_eq_left', Nat.zero_add, beq_self_eq_true, cond_true, cond_false, eqb_t, eqb_f, Int.cast_ofNat_Int, eq_self, decide_true, decide_false, Int.reduceLT, Int.reduceLE, Int.reduceEq, Int.reduceNeg, Int.reduceAdd, Int.reduceSub, and_true, true_and, forall_const, Bool.true_eq_false, Bool.false_eq_true, false_implies, ne_eq, not_true_eq_false, not_false_eq_true, true_implies, Decidable.not_not, undef, List.size_toArray, List.length_nil, Nat.reducePow, Nat.reduceDiv, Nat.reduceMod, goR_call (bits_spec hb), h1, e1, h2]
        exact hQ _ _ _ rfl ⟨⟨_, rfl⟩, rfl⟩
      · simp only [go_nil, go_inBlock, go_skip, go_seq, go_block, go_exit, go_ret, go_ops, go_opsr, go_cond, ex_nil, ex_code, ex_inLoop, ex_inBlock, goC_true, goC_false, goC_dec, goO_nil, goO_cons, goO_guard, goG_true, goG_false, goR_val, goR_skip, wantedX, X.put, X.look, look_hit, Arg.ev, keepOf, restrict, evs, evO, initEnv, xres, tup, xi_move, xi_pick, pick_bool, xi_bin, bin_add, bin_sub, bin_mul, bin_eql, bin_neq, bin_lss, bin_leq, bin_gtr, bin_geq, xi_load1, ld_ptr, xi_nilCheck, nilCheck_ptr, xi_fieldAddr, fieldAddr_ptr, xi_isNil, isNil_some, isNil_none, xi_extract, extract_tuple, xi_call, call_func, xi_len, len_slice, xi_un, un_not, xi_store, xi_box, box_int, box_ptr, box_slice, push_self, push_two, Mem.next_push, xi_calcB, calc_max, calc_min, goG_dec, goG_ndec, xi_indexAddr, indexAddr_at, xi_slice, xi_append, xi_clear, isNil_slice, xi_conv, xi_alloc, box_agg, box_string, box_bool, xi_buildSlice, xparts_nil, xparts_cons, xi_build, xi_field, field_one, xi_makeFunc, makeFunc_nil, xi_loadA, go_opsd, goD_nil, goD_cons, goD_guard, goDG_true, goDG_false, goDV0, goDV1, goDV2, goDV3, goDV3s, again_nil, again_cons, againE_val, veq_int, veq_slice, veq_ptr, veq_bool, veq_string, veq_agg, veqL_nil, veqL_cons, veqC_int, veqC_bool, veqC_string, veqC_slice, veqC_ptr, List.filter_cons, List.filter_nil, Nat.testBit_eq_decide_div_mod_eq, asNat_nat, asNat_zero, asNat_one, noTup, cls, quiet, Option.isNone_some, Option.isNone_none, Bool.and_true, Bool.and_self, Bool.true_and, Nat.add_zero, Nat.mul_one, Nat.mul_zero, Nat.zero_mul, List.length_map, Option.bind_some, Option.map_some, List.getElem?_cons_zero, List.getElem?_cons_succ, Nat.reduceAdd, Nat.reduceEqDiff, reduceIte, reduceCtorEq, goInt, bne_self_eq_false, Bool.false_bne, Bool.true_bne, Bool.not_true, Bool.not_false, decide_eq_true_eq, decide_eq_false_iff_not, Option.some.injEq, exists_eq_left', Nat.zero_add, beq_self_eq_true, cond_true, cond_false, eqb_t, eqb_f, Int.cast_ofNat_Int, eq_self, decide_true, decide_false, Int.reduceLT, Int.reduceLE, Int.reduceEq, Int.reduceNeg, Int.reduceAdd, Int.reduceSub, and_true, true_and, forall_const, Bool.true_eq_false, Bool.false_eq_true, false_implies, ne_eq, not_true_eq_false, not_false_eq_true, true_implies, Decidable.not_not, undef, List.size_toArray, List.length_nil, Nat.reducePow, Nat.reduceDiv, Nat.reduceMod, goR_call (bits_spec hb), h1, e1, h2, e2]
        exact hQ _ _ _ rfl ⟨⟨_, rfl⟩, rfl⟩
  obtain ⟨r, m', hc, ⟨q, rfl⟩, rfl⟩ := key
  exact ⟨q, hc⟩

theorem key_spec {m : Mem} {b : Nat} (hb : b < 18446744073709551616) : ∃ s m', Ca 39 [Fl b] m (.string s) m' ∧ s.size = 8 ∧ Nx m m' := by
  have key : Wc 39 [Fl b] m fun r m' => (∃ s : ByteArray, r = .string s ∧ s.size = 8) ∧ Nx m m' := by
    refine call_go (F := _) rfl rfl fun Q hQ => ?_
    obtain ⟨m1, hm1⟩ : ∃ m1, m.push { cells := [.int .u8 0, .int .u8 0, .int .u8 0, .int .u8 0, .int .u8 0, .int .u8 0, .int .u8 0, .int .u8 0], rw := true, spare := none, kin := [] } = m1 := ⟨_, rfl⟩
    have g1 : m1.get m.next = some { cells := [.int .u8 0, .int .u8 0, .int .u8 0, .int .u8 0, .int .u8 0, .int .u8 0, .int .u8 0, .int .u8 0], rw := true, spare := none, kin := [] } := by rw [← hm1, push_self]
    have f1 : Nx m m1 := hm1 ▸ .push
    obtain ⟨q, hp⟩ := place_spec (m := m1) hb
    simp only [go_nil, go_inBlock, go_skip, go_seq, go_block, go_exit, go_ret, go_ops, go_opsr, go_cond, ex_nil, ex_code, ex_inLoop, ex_inBlock, goC_true, goC_false, goC_dec, goO_nil, goO_cons, goO_guard, goG_true, goG_false, goR_val, goR_skip, wantedX, X.put, X.look, look_hit, Arg.ev, keepOf, restrict, evs, evO, initEnv, xres, tup, xi_move, xi_pick, pick_bool, xi_bin, bin_add, bin_sub, bin_mul, bin_eql, bin_neq, bin_lss, bin_leq, bin_gtr, bin_geq, xi_load1, ld_ptr, xi_nilCheck, nilCheck_ptr, xi_fieldAddr, fieldAddr_ptr, xi_isNil, isNil_some, isNil_none, xi_extract, extract_tuple, xi_call, call_func, xi_len, len_slice, xi_un, un_not, xi_store, xi_box, box_int, box_ptr, box_slice, push_self, push_two, Mem.next_push, xi_calcB, calc_max, calc_min, goG_dec, goG_ndec, xi_indexAddr, indexAddr_at, xi_slice, xi_append, xi_clear, isNil_slice, xi_conv, xi_alloc, box_agg, box_string, box_bool, xi_buildSlice, xparts_nil, xparts_cons, xi_build, xi_field, field_one, xi_makeFunc, makeFunc_nil, xi_loadA, go_opsd, goD_nil, goD_cons, goD_guard, goDG_true, goDG_false, goDV0, goDV1, goDV2, goDV3, goDV3s, again_nil, again_cons, againE_val, veq_int, veq_slice, veq_ptr, veq_bool, veq_string, veq_agg, veqL_nil, veqL_cons, veqC_int, veqC_bool, veqC_string, veqC_slice, veqC_ptr, List.filter_cons, List.filter_nil, Nat.testBit_eq_decide_div_mod_eq, asNat_nat, asNat_zero, asNat_one, noTup, cls, quiet, Option.isNone_some, Option.isNone_none, Bool.and_true, Bool.and_self, Bool.true_and, Nat.add_zero, Nat.mul_one, Nat.mul_zero, Nat.zero_mul, List.length_map, Option.bind_some, Option.map_some, List.getElem?_cons_zero, List.getElem?_cons_succ, Nat.reduceAdd, Nat.reduceEqDiff, reduceIte, reduceCtorEq, goInt, bne_self_eq_false, Bool.false_bne, Bool.true_bne, Bool.not_true, Bool.not_false, decide_eq_true_eq, decide_eq_false_iff_not, Option.some.injEq, exists_eq_left', Nat.zero_add, beq_self_eq_true, cond_true, cond_false, eqb_t, eqb_f, Int.cast_ofNat_Int, eq_self, decide_true, decide_false, Int.reduceLT, Int.reduceLE, Int.reduceEq, Int.reduceNeg, Int.reduceAdd, Int.reduceSub, and_true, true_and, forall_const, Bool.true_eq_false, Bool.false_eq_true, false_implies, ne_eq, not_true_eq_false, not_false_eq_true, true_implies, Decidable.not_not, undef, List.size_toArray, List.length_nil, Nat.reducePow, Nat.reduceDiv, Nat.reduceMod, hm1, goR_call hp]
    refine loop_go (fun j e m' => Nx m m' ∧ ∃ (i : Nat) (cs : List Value), i ≤ 8 ∧ j = 8 - i ∧ Bytes8 cs ∧ m'.get m.next = some { cells := cs, rw := true, spare := none, kin := [] } ∧
      e = [(3, .pointer (some ⟨m.next, 0, none⟩)), (4, U q), (8, I i)]) 8 ⟨f1, 0, _, by omega, rfl, bytes8_zero, g1, rfl⟩ ?_
    rintro j e m2 N' B' hN hB ⟨hnx, i, cs, hi, rfl, hcs, hg, rfl⟩
    by_cases hlt : i < 8
    · have hlt' : (i : Int) < 8 := by omega
      obtain ⟨u, hu⟩ := shr_any (m := m2) (p := q) hlt
      have w1 : IntKind.i64.wrap (7 - (i : Int)) = 7 - i := wrap_i64 (by omega) (by omega)
      have w2 : IntKind.i64.wrap (8 * (7 - (i : Int))) = 8 * (7 - i) := wrap_i64 (by omega) (by omega)
      have w3 : IntKind.i64.wrap ((i : Int) + 1) = ((i + 1 : Nat) : Int) := by rw [wrap_i64 (by omega) (by omega)]; omega
      have st : storeE m2 1 (.pointer (some ⟨m.next, i, none⟩)) (.int .u8 (IntKind.u8.wrap u)) = some (.skip (put1 m2 m.next i { cells := cs, rw := true, spare := none, kin := [] } (.int .u8 (IntKind.u8.wrap u)))) := store1 hg rfl rfl (by show i < cs.length; rw [hcs.1]; exact hlt) rfl rfl
      simp only [go_nil, go_inBlock, go_skip, go_seq, go_block, go_exit, go_ret, go_ops, go_opsr, go_cond, ex_nil, ex_code, ex_inLoop, ex_inBlock, goC_true, goC_false, goC_dec, goO_nil, goO_cons, goO_guard, goG_true, goG_false, goR_val, goR_skip, wantedX, X.put, X.look, look_hit, Arg.ev, keepOf, restrict, evs, evO, initEnv, xres, tup, xi_move, xi_pick, pick_bool, xi_bin, bin_add, bin_sub, bin_mul, bin_eql, bin_neq, bin_lss, bin_leq, bin_gtr, bin_geq, xi_load1, ld_ptr, xi_nilCheck, nilCheck_ptr, xi_fieldAddr, fieldAddr_ptr, xi_isNil, isNil_some, isNil_none, xi_extract, extract_tuple, xi_call, call_func, xi_len, len_slice, xi_un, un_not, xi_store, xi_box, box_int, box_ptr, box_slice, push_self, push_two, Mem.next_push, xi_calcB, calc_max, calc_min, goG_dec, goG_ndec, xi_indexAddr, indexAddr_at, xi_slice, xi_append, xi_clear, isNil_slice, xi_conv, xi_alloc, box_agg, box_string, box_bool, xi_buildSlice, xparts_nil, xparts_cons, xi_build, xi_field, field_one, xi_makeFunc, makeFunc_nil, xi_loadA, go_opsd, goD_nil, goD_cons, goD_guard, goDG_true, goDG_false, goDV0, goDV1, goDV2, goDV3, goDV3s, again_nil, again_cons, againE_val, veq_int, veq_slice, veq_ptr, veq_bool, veq_string, veq_agg, veqL_nil, veqL_cons, veqC_int, veqC_bool, veqC_string, veqC_slice, veqC_ptr, List.filter_cons, List.filter_nil, Nat.testBit_eq_decide_div_mod_eq, asNat_nat, asNat_zero, asNat_one, noTup, cls, quiet, Option.isNone_some, Option.isNone_none, Bool.and_true, Bool.and_self, Bool.true_and, Nat.add_zero, Nat.mul_one, Nat.mul_zero, Nat.zero_mul, List.length_map, Option.bind_some, Option.map_some, List.getElem?_cons_zero, List.getElem?_cons_succ, Nat.reduceAdd, Nat.reduceEqDiff, reduceIte, reduceCtorEq, goInt, bne_self_eq_false, Bool.false_bne, Bool.true_bne, Bool.not_true, Bool.not_false, decide_eq_true_eq, decide_eq_false_iff_not, Option.some.injEq, exists_eq_left', Nat.zero_add, beq_self_eq_true, cond_true, cond_false, eqb_t, eqb_f, Int.cast_ofNat_Int, eq_self, decide_true, decide_false, Int.reduceLT, Int.reduceLE, Int.reduceEq, Int.reduceNeg, Int.reduceAdd, Int.reduceSub, and_true, true_and, forall_const, Bool.true_eq_false, Bool.false_eq_true, false_implies, ne_eq, not_true_eq_false, not_false_eq_true, true_implies, Decidable.not_not, undef, List.size_toArray, List.length_nil, Nat.reducePow, Nat.reduceDiv, Nat.reduceMod, hlt', w1, w2, hu, conv_u8, xi_indexArr, indexArr_at hlt, st, w3]
      exact hN _ _ (8 - (i + 1)) (by omega) ⟨hnx.comp (Fm.set (S := (· = m.next)) rfl) (fun i hi h => by omega), i + 1, cs.set i (.int .u8 (IntKind.u8.wrap u)), by omega, rfl, bytes8_set hcs, by simp [put1, Mem.get_set], rfl⟩
    · have hlt' : ¬ (i : Int) < 8 := by omega
      obtain ⟨s, hs, hsz⟩ := bstr_row hg hcs.1 (by omega) hcs.2
      simp only [go_nil, go_inBlock, go_skip, go_seq, go_block, go_exit, go_ret, go_ops, go_opsr, go_cond, ex_nil, ex_code, ex_inLoop, ex_inBlock, goC_true, goC_false, goC_dec, goO_nil, goO_cons, goO_guard, goG_true, goG_false, goR_val, goR_skip, wantedX, X.put, X.look, look_hit, Arg.ev, keepOf, restrict, evs, evO, initEnv, xres, tup, xi_move, xi_pick, pick_bool, xi_bin, bin_add, bin_sub, bin_mul, bin_eql, bin_neq, bin_lss, bin_leq, bin_gtr, bin_geq, xi_load1, ld_ptr, xi_nilCheck, nilCheck_ptr, xi_fieldAddr, fieldAddr_ptr, xi_isNil, isNil_some, isNil_none, xi_extract, extract_tuple, xi_call, call_func, xi_len, len_slice, xi_un, un_not, xi_store, xi_box, box_int, box_ptr, box_slice, push_self, push_two, Mem.next_push, xi_calcB, calc_max, calc_min, goG_dec, goG_ndec, xi_indexAddr, indexAddr_at, xi_slice, xi_append, xi_clear, isNil_slice, xi_conv, xi_alloc, box_agg, box_string, box_bool, xi_buildSlice, xparts_nil, xparts_cons, xi_build, xi_field, field_one, xi_makeFunc, makeFunc_nil, xi_loadA, go_opsd, goD_nil, goD_cons, goD_guard, goDG_true, goDG_false, goDV0, goDV1, goDV2, goDV3, goDV3s, again_nil, again_cons, againE_val, veq_int, veq_slice, veq_ptr, veq_bool, veq_string, veq_agg, veqL_nil, veqL_cons, veqC_int, veqC_bool, veqC_string, veqC_slice, veqC_ptr, List.filter_cons, List.filter_nil, Nat.testBit_eq_decide_div_mod_eq, asNat_nat, asNat_zero, asNat_one, noTup, cls, quiet, Option.isNone_some, Option.isNone_none, Bool.and_true, Bool.and_self, Bool.true_and, Nat.add_zero, Nat.mul_one, Nat.mul_zero, Nat.zero_mul, List.length_map, Option.bind_some, Option.map_some, List.getElem?_cons_zero, List.getElem?_cons_succ, Nat.reduceAdd, Nat.reduceEqDiff, reduceIte, reduceCtorEq, goInt, bne_self_eq_false, Bool.false_bne, Bool.true_bne, Bool.not_true, Bool.not_false, decide_eq_true_eq, decide_eq_false_iff_not, Option.some.injEq, exists_eq_left', Nat.zero_add, beq_self_eq_true, cond_true, cond_false, eqb_t, eqb_f, Int.cast_ofNat_Int, eq_self, decide_true, decide_false, Int.reduceLT, Int.reduceLE, Int.reduceEq, Int.reduceNeg, Int.reduceAdd, Int.reduceSub, and_true, true_and, forall_const, Bool.true_eq_false, Bool.false_eq_true, false_implies, ne_eq, not_true_eq_false, not_false_eq_true, true_implies, Decidable.not_not, undef, List.size_toArray, List.length_nil, Nat.reducePow, Nat.reduceDiv, Nat.reduceMod, hlt']
      refine hB _ _ _ ?_
      simp only [go_nil, go_inBlock, go_skip, go_seq, go_block, go_exit, go_ret, go_ops, go_opsr, go_cond, ex_nil, ex_code, ex_inLoop, ex_inBlock, goC_true, goC_false, goC_dec, goO_nil, goO_cons, goO_guard, goG_true, goG_false, goR_val, goR_skip, wantedX, X.put, X.look, look_hit, Arg.ev, keepOf, restrict, evs, evO, initEnv, xres, tup, xi_move, xi_pick, pick_bool, xi_bin, bin_add, bin_sub, bin_mul, bin_eql, bin_neq, bin_lss, bin_leq, bin_gtr, bin_geq, xi_load1, ld_ptr, xi_nilCheck, nilCheck_ptr, xi_fieldAddr, fieldAddr_ptr, xi_isNil, isNil_some, isNil_none, xi_extract, extract_tuple, xi_call, call_func, xi_len, len_slice, xi_un, un_not, xi_store, xi_box, box_int, box_ptr, box_slice, push_self, push_two, Mem.next_push, xi_calcB, calc_max, calc_min, goG_dec, goG_ndec, xi_indexAddr, indexAddr_at, xi_slice, xi_append, xi_clear, isNil_slice, xi_conv, xi_alloc, box_agg, box_string, box_bool, xi_buildSlice, xparts_nil, xparts_cons, xi_build, xi_field, field_one, xi_makeFunc, makeFunc_nil, xi_loadA, go_opsd, goD_nil, goD_cons, goD_guard, goDG_true, goDG_false, goDV0, goDV1, goDV2, goDV3, goDV3s, again_nil, again_cons, againE_val, veq_int, veq_slice, veq_ptr, veq_bool, veq_string, veq_agg, veqL_nil, veqL_cons, veqC_int, veqC_bool, veqC_string, veqC_slice, veqC_ptr, List.filter_cons, List.filter_nil, Nat.testBit_eq_decide_div_mod_eq, asNat_nat, asNat_zero, asNat_one, noTup, cls, quiet, Option.isNone_some, Option.isNone_none, Bool.and_true, Bool.and_self, Bool.true_and, Nat.add_zero, Nat.mul_one, Nat.mul_zero, Nat.zero_mul, List.length_map, Option.bind_some, Option.map_some, List.getElem?_cons_zero, List.getElem?_cons_succ, Nat.reduceAdd, Nat.reduceEqDiff, reduceIte, reduceCtorEq, goInt, bne_self_eq_false, Bool.false_bne, Bool.true_bne, Bool.not_true, Bool.not_false, decide_eq_true_eq, decide_eq_false_iff_not, Option.some.injEq, exists_eq_left', Nat.zero_add, beq_self_eq_true, cond_true, cond_false, eqb_t, eqb_f, Int.cast_ofNat_Int, eq_self, decide_true, decide_false, Int.reduceLT, Int.reduceLE, Int.reduceEq, Int.reduceNeg, Int.reduceAdd, Int.reduceSub, and_true, true_and, forall_const, Bool.true_eq_false, Bool.false_eq_true, false_implies, ne_eq, not_true_eq_false, not_false_eq_true, true_implies, Decidable.not_not, undef, List.size_toArray, List.length_nil, Nat.reducePow, Nat.reduceDiv, Nat.reduceMod, xi_arrSlice, arrSlice_ptr, xi_bstr, hs]
      exact hQ _ _ _ rfl ⟨⟨s, rfl, hsz⟩, hnx⟩
  obtain ⟨r, m', hc, ⟨s, rfl, hs⟩, hf⟩ := key
  exact ⟨s, m', hc, hs, hf⟩
end Go.Proofs.Ytbcoijgoipnelab
