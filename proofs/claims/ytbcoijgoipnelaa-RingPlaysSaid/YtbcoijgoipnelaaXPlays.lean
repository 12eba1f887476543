/-
  Own work. PROVED HERE: RingPlays: whatever size, number, commits and asked stamps, the law returns true. No condition.
-/
import Derived.Test.YtbcoijgoipnelaaXR5
import Derived.Test.YtbcoijgoipnelaaRows
import Derived.ProofKit
namespace Go.Proofs.Ytbcoijgoipnelaa
open Go Go.ChangeShapes Go.WideShapes Go.ChangeAt Go.RowKit X
set_option maxRecDepth 100000
set_option linter.unusedVariables false
set_option linter.unusedSimpArgs false

theorem _root_.Go.Proofs.Ytbcoijgoipnelaa.X.RdS.mono {b b' : Nat} {m : Mem} {size : Nat} {v : Value} {rows : List (List Value)} (h : RdS b m size v rows) (hb : b ≤ b') : RdS b' m size v rows := by
  obtain ⟨p, c, rfl, hc, h⟩ := h
  refine ⟨p, c, rfl, hc, fun i r hr => ?_⟩
  obtain ⟨h1, a, o, h2, h3, h4, h5⟩ := h i r hr
  exact ⟨h1, a, o, h2, by omega, h4, h5⟩

/-- The part that a ring keeps. -/
abbrev kept (size : Int) (L : List Int) : List Int := L.drop (L.length - size.toNat)

/-- A ring and the document's, of all stamps L. -/
structure Both (b : Nat) (m : Mem) (p1 p2 : Nat) (size begin : Int) (L : List Int) : Prop where
  ex : ∃ F1 F2, RingAt F1 m p1 size begin (begin + L.length) (kept size L) ∧ RefAt F2 m p2 size begin L ∧ (∀ i ∈ F1, b ≤ i ∧ i ≠ p2 ∧ i ∉ F2) ∧ (∀ i ∈ F2, b ≤ i ∧ i ≠ p1) ∧ b ≤ p1 ∧ b ≤ p2 ∧ p1 ≠ p2
  sort : L.Pairwise (· < ·)
  s1 : 1 ≤ size
  s2 : size ≤ 16
  s3 : 0 ≤ begin
  s4 : begin + L.length ≤ 1073741824

theorem Both.small {b : Nat} {m : Mem} {p1 p2 : Nat} {size begin : Int} {L : List Int} (h : Both b m p1 p2 size begin L) : Small size begin (begin + L.length) (kept size L) := by
  have h1 := h.s1
  have h2 := h.s2
  have h3 := h.s3
  have h4 := h.s4
  refine ⟨h1, h2, h3, by omega, h4, ?_, ?_⟩
  · simp only [kept, List.length_drop]; omega
  · simp only [kept, List.length_drop]; omega

theorem Both.fr {b : Nat} {m m' : Mem} {p1 p2 : Nat} {size begin : Int} {L : List Int} (h : Both b m p1 p2 size begin L) (hf : Fm (fun _ => False) m m') : Both b m' p1 p2 size begin L := by
  obtain ⟨⟨F1, F2, r1, r2, r3⟩, h1, h2, h3, h4, h5⟩ := h
  exact ⟨⟨F1, F2, r1.fr hf (fun h => h) (fun _ _ h => h), r2.fr hf (fun h => h) (fun _ _ h => h), r3⟩, h1, h2, h3, h4, h5⟩

theorem Both.smallR {b : Nat} {m : Mem} {p1 p2 : Nat} {size begin : Int} {L : List Int} (h : Both b m p1 p2 size begin L) (hl : L.length ≤ 100) : SmallR size begin L := by
  have h1 := h.s1
  have h2 := h.s2
  have h3 := h.s3
  have h4 := h.s4
  exact ⟨h1, h2, h3, by omega, hl⟩

/-- A copy, and a commit on both. -/
theorem Both.round {b : Nat} {m : Mem} {p1 p2 : Nat} {size begin t : Int} {L : List Int} (h : Both b m p1 p2 size begin L) (hb : b ≤ m.next) (hl : L.length ≤ 99) :
    ∃ c o m0 r e L' m1 m2 sl, Ca 13 [Pt p1] m (Pt c) m0 ∧ Ca 14 [Pt p2] m0 (I (begin + L.length)) m0 ∧ Ca 9 [Pt p1, U t] m0 (.tuple #[I r, I e]) m1 ∧ Ca 15 [Pt p2, U t] m1 (.tuple #[I r, I e]) m2 ∧ Both b m2 p1 p2 size begin L' ∧ Fm (b ≤ ·) m m2 ∧
      L'.length ≤ L.length + 1 ∧ m2.get c = some o ∧ o.cells = [I size, I begin, I (begin + L.length), sl] ∧ Fm (fun _ => False) m m0 ∧ Fm (b ≤ ·) m0 m1 := by
  obtain ⟨F1, F2, r1, r2, d1, d2, b1, b2, hne⟩ := h.ex
  have hs := h.small
  have hsr := h.smallR (by omega)
  have h1 := h.s1
  have h2 := h.s2
  have h3 := h.s3
  have h4 := h.s4
  have lt1 := r1.lt
  have lt2 := r2.lt
  obtain ⟨m0, o, c1, c2, ⟨sl, c3⟩, c4, c5⟩ := clone_spec r1 hs
  have r1 := r1.fr c4 (fun h => h) (fun _ _ h => h)
  have r2 := r2.fr c4 (fun h => h) (fun _ _ h => h)
  obtain ⟨L', r, e, e1, e2, e3, e4⟩ := push_ref (size := size) (t := t) h.s1 (rfl : begin + (L.length : Int) = begin + L.length)
  obtain ⟨m1, F1', k1, k2, k3, k4⟩ := push_spec (t := t) r1 hs
  have hst := push_state (t := t) hs h.sort.drop
  rw [e2] at k1 k2 hst
  have r2' := r2.fr k3 (by rintro (h | h); exact hne h.symm; exact (d1 _ h).2.1 rfl) (fun i hi hh => hh.elim (d2 i hi).2 (fun h => (d1 i h).2.2 hi))
  obtain ⟨m2, F2', l1, l2, l3, l4⟩ := rpush_spec (t := t) r2' hsr hl
  rw [e1] at l1 l2
  have hn0 := c4.next
  have hn1 := k3.next
  have lk := k2.lt
  have f1 : Fm (b ≤ ·) m0 m1 := k3.mono (S' := (b ≤ ·)) fun i _ hi => by
    rcases hi with h | h
    · subst h; exact b1
    · exact (d1 i h).1
  have f2 : Fm (b ≤ ·) m1 m2 := l3.mono (S' := (b ≤ ·)) fun i _ hi => by
    rcases hi with h | h
    · subst h; exact b2
    · exact (d2 i h).1
  have r1' := k2.fr l3 (by
      rintro (h | h)
      · exact hne h
      · exact (d2 _ h).2 rfl) (fun i hi hh => by
      rcases k4 i hi with h1 | h1
      · rcases hh with h | h
        · exact (d1 i h1).2.1 h
        · exact (d1 i h1).2.2 h
      · rcases hh with h | h
        · subst h; have := lt2.1; omega
        · have := lt2.2 i h; omega)
  have g1 : m1.get m.next = some o := k3.get c5 (by
    rintro (h | h)
    · have := lt1.1; omega
    · have := lt1.2 _ h; omega) c2
  have g2 : m2.get m.next = some o := l3.get (by omega) (by
    rintro (h | h)
    · have := lt2.1; omega
    · have := lt2.2 _ h; omega) g1
  refine ⟨m.next, o, m0, r, e, L', m1, m2, sl, c1, rseq_spec r2 hsr, k1, l1, ⟨⟨F1', F2', r1', l2, fun i hi => ?_, fun i hi => ?_, b1, b2, hne⟩, e4 h.sort, h1, h2, h3, ?_⟩, ((c4.mono fun _ _ h => h.elim).comp f1 fun _ _ h => h).comp f2 fun _ _ h => h, e3, g2, c3, c4, f1⟩
  · refine ⟨?_, ?_, ?_⟩
    · rcases k4 i hi with h1 | h1
      · exact (d1 i h1).1
      · omega
    · rcases k4 i hi with h1 | h1
      · exact (d1 i h1).2.1
      · intro h; subst h; have := lt2.1; omega
    · intro h2
      rcases l4 i h2 with h3 | h3
      · rcases k4 i hi with h1 | h1
        · exact (d1 i h1).2.2 h3
        · have := lt2.2 i h3; omega
      · have := lk.2 i hi; omega
  · refine ⟨?_, ?_⟩
    · rcases l4 i hi with h1 | h1
      · exact (d2 i h1).1
      · omega
    · rcases l4 i hi with h1 | h1
      · exact (d2 i h1).2
      · intro h; subst h; have := lt1.1; omega
  · exact hst.1.2.2.2.2.1

theorem ringPlays_run {m : Mem} {size seq : Int} {l asks : Value} {ns ms : List Int} (h1 : RdS m.next m 1 l (rowsU ns)) (h2 : RdS m.next m 1 asks (rowsU ms)) :
    Wc 5 [I size, I seq, l, asks] m fun r _ => r = .bool true := by
  refine call_go (F := _) rfl rfl fun Q hQ => ?_
  by_cases a1 : size < 1
  · have hbad : size < 1 ∨ 16 < size ∨ seq < 0 ∨ 1073741824 < seq := .inl a1
    simp only [go_nil, go_inBlock, go_skip, go_seq, go_block, go_exit, go_ret, go_ops, go_opsr, go_cond, ex_nil, ex_code, ex_inLoop, ex_inBlock, goC_true, goC_false, goC_dec, goO_nil, goO_cons, goO_guard, goG_true, goG_false, goR_val, goR_skip, wantedX, X.put, X.look, look_hit, Arg.ev, keepOf, restrict, evs, evO, initEnv, xres, tup, xi_move, xi_pick, pick_bool, xi_bin, bin_add, bin_sub, bin_mul, bin_eql, bin_neq, bin_lss, bin_leq, bin_gtr, bin_geq, xi_load1, ld_ptr, xi_nilCheck, nilCheck_ptr, xi_fieldAddr, fieldAddr_ptr, xi_isNil, isNil_some, isNil_none, xi_extract, extract_tuple, xi_call, call_func, xi_len, len_slice, xi_un, un_not, xi_store, xi_box, box_int, box_ptr, box_slice, push_self, push_two, Mem.next_push, xi_calcB, calc_max, calc_min, goG_dec, goG_ndec, xi_indexAddr, indexAddr_at, xi_slice, xi_append, xi_clear, isNil_slice, xi_conv, xi_alloc, box_agg, box_string, box_bool, xi_buildSlice, xparts_nil, xparts_cons, xi_build, xi_field, field_one, xi_makeFunc, makeFunc_nil, xi_loadA, go_opsd, goD_nil, goD_cons, goDV0, goDV1, goDV2, goDV3, goDV3s, again_nil, again_cons, againE_val, veq_int, veq_slice, veq_ptr, veq_bool, veq_string, asNat_nat, asNat_zero, asNat_one, noTup, cls, quiet, Option.isNone_some, Option.isNone_none, Bool.and_true, Bool.and_self, Bool.true_and, Nat.add_zero, Nat.mul_one, Nat.mul_zero, Nat.zero_mul, List.length_map, Option.bind_some, Option.map_some, List.getElem?_cons_zero, List.getElem?_cons_succ, Nat.reduceAdd, Nat.reduceEqDiff, reduceIte, reduceCtorEq, goInt, bne_self_eq_false, Bool.false_bne, Bool.true_bne, Bool.not_true, Bool.not_false, decide_eq_true_eq, decide_eq_false_iff_not, Option.some.injEq, exists_eq_left', Nat.zero_add, beq_self_eq_true, cond_true, cond_false, eqb_t, eqb_f, Int.cast_ofNat_Int, eq_self, decide_true, decide_false, Int.reduceLT, Int.reduceLE, Int.reduceEq, Int.reduceNeg, Int.reduceAdd, Int.reduceSub, and_true, true_and, forall_const, Bool.true_eq_false, Bool.false_eq_true, false_implies, ne_eq, not_true_eq_false, not_false_eq_true, true_implies, Decidable.not_not, undef, List.size_toArray, List.length_nil, goR_call (awake_call _), goR_call (new_bad hbad), a1]
    exact hQ _ _ _ rfl rfl
  by_cases a2 : 16 < size
  · have hbad : size < 1 ∨ 16 < size ∨ seq < 0 ∨ 1073741824 < seq := .inr (.inl a2)
    simp only [go_nil, go_inBlock, go_skip, go_seq, go_block, go_exit, go_ret, go_ops, go_opsr, go_cond, ex_nil, ex_code, ex_inLoop, ex_inBlock, goC_true, goC_false, goC_dec, goO_nil, goO_cons, goO_guard, goG_true, goG_false, goR_val, goR_skip, wantedX, X.put, X.look, look_hit, Arg.ev, keepOf, restrict, evs, evO, initEnv, xres, tup, xi_move, xi_pick, pick_bool, xi_bin, bin_add, bin_sub, bin_mul, bin_eql, bin_neq, bin_lss, bin_leq, bin_gtr, bin_geq, xi_load1, ld_ptr, xi_nilCheck, nilCheck_ptr, xi_fieldAddr, fieldAddr_ptr, xi_isNil, isNil_some, isNil_none, xi_extract, extract_tuple, xi_call, call_func, xi_len, len_slice, xi_un, un_not, xi_store, xi_box, box_int, box_ptr, box_slice, push_self, push_two, Mem.next_push, xi_calcB, calc_max, calc_min, goG_dec, goG_ndec, xi_indexAddr, indexAddr_at, xi_slice, xi_append, xi_clear, isNil_slice, xi_conv, xi_alloc, box_agg, box_string, box_bool, xi_buildSlice, xparts_nil, xparts_cons, xi_build, xi_field, field_one, xi_makeFunc, makeFunc_nil, xi_loadA, go_opsd, goD_nil, goD_cons, goDV0, goDV1, goDV2, goDV3, goDV3s, again_nil, again_cons, againE_val, veq_int, veq_slice, veq_ptr, veq_bool, veq_string, asNat_nat, asNat_zero, asNat_one, noTup, cls, quiet, Option.isNone_some, Option.isNone_none, Bool.and_true, Bool.and_self, Bool.true_and, Nat.add_zero, Nat.mul_one, Nat.mul_zero, Nat.zero_mul, List.length_map, Option.bind_some, Option.map_some, List.getElem?_cons_zero, List.getElem?_cons_succ, Nat.reduceAdd, Nat.reduceEqDiff, reduceIte, reduceCtorEq, goInt, bne_self_eq_false, Bool.false_bne, Bool.true_bne, Bool.not_true, Bool.not_false, decide_eq_true_eq, decide_eq_false_iff_not, Option.some.injEq, exists_eq_left', Nat.zero_add, beq_self_eq_true, cond_true, cond_false, eqb_t, eqb_f, Int.cast_ofNat_Int, eq_self, decide_true, decide_false, Int.reduceLT, Int.reduceLE, Int.reduceEq, Int.reduceNeg, Int.reduceAdd, Int.reduceSub, and_true, true_and, forall_const, Bool.true_eq_false, Bool.false_eq_true, false_implies, ne_eq, not_true_eq_false, not_false_eq_true, true_implies, Decidable.not_not, undef, List.size_toArray, List.length_nil, goR_call (awake_call _), goR_call (new_bad hbad), a1, a2]
    exact hQ _ _ _ rfl rfl
  by_cases a3 : seq < 0
  · have hbad : size < 1 ∨ 16 < size ∨ seq < 0 ∨ 1073741824 < seq := .inr (.inr (.inl a3))
    simp only [go_nil, go_inBlock, go_skip, go_seq, go_block, go_exit, go_ret, go_ops, go_opsr, go_cond, ex_nil, ex_code, ex_inLoop, ex_inBlock, goC_true, goC_false, goC_dec, goO_nil, goO_cons, goO_guard, goG_true, goG_false, goR_val, goR_skip, wantedX, X.put, X.look, look_hit, Arg.ev, keepOf, restrict, evs, evO, initEnv, xres, tup, xi_move, xi_pick, pick_bool, xi_bin, bin_add, bin_sub, bin_mul, bin_eql, bin_neq, bin_lss, bin_leq, bin_gtr, bin_geq, xi_load1, ld_ptr, xi_nilCheck, nilCheck_ptr, xi_fieldAddr, fieldAddr_ptr, xi_isNil, isNil_some, isNil_none, xi_extract, extract_tuple, xi_call, call_func, xi_len, len_slice, xi_un, un_not, xi_store, xi_box, box_int, box_ptr, box_slice, push_self, push_two, Mem.next_push, xi_calcB, calc_max, calc_min, goG_dec, goG_ndec, xi_indexAddr, indexAddr_at, xi_slice, xi_append, xi_clear, isNil_slice, xi_conv, xi_alloc, box_agg, box_string, box_bool, xi_buildSlice, xparts_nil, xparts_cons, xi_build, xi_field, field_one, xi_makeFunc, makeFunc_nil, xi_loadA, go_opsd, goD_nil, goD_cons, goDV0, goDV1, goDV2, goDV3, goDV3s, again_nil, again_cons, againE_val, veq_int, veq_slice, veq_ptr, veq_bool, veq_string, asNat_nat, asNat_zero, asNat_one, noTup, cls, quiet, Option.isNone_some, Option.isNone_none, Bool.and_true, Bool.and_self, Bool.true_and, Nat.add_zero, Nat.mul_one, Nat.mul_zero, Nat.zero_mul, List.length_map, Option.bind_some, Option.map_some, List.getElem?_cons_zero, List.getElem?_cons_succ, Nat.reduceAdd, Nat.reduceEqDiff, reduceIte, reduceCtorEq, goInt, bne_self_eq_false, Bool.false_bne, Bool.true_bne, Bool.not_true, Bool.not_false, decide_eq_true_eq, decide_eq_false_iff_not, Option.some.injEq, exists_eq_left', Nat.zero_add, beq_self_eq_true, cond_true, cond_false, eqb_t, eqb_f, Int.cast_ofNat_Int, eq_self, decide_true, decide_false, Int.reduceLT, Int.reduceLE, Int.reduceEq, Int.reduceNeg, Int.reduceAdd, Int.reduceSub, and_true, true_and, forall_const, Bool.true_eq_false, Bool.false_eq_true, false_implies, ne_eq, not_true_eq_false, not_false_eq_true, true_implies, Decidable.not_not, undef, List.size_toArray, List.length_nil, goR_call (awake_call _), goR_call (new_bad hbad), a1, a2, a3]
    exact hQ _ _ _ rfl rfl
  by_cases a4 : 1073741824 < seq
  · have hbad : size < 1 ∨ 16 < size ∨ seq < 0 ∨ 1073741824 < seq := .inr (.inr (.inr a4))
    simp only [go_nil, go_inBlock, go_skip, go_seq, go_block, go_exit, go_ret, go_ops, go_opsr, go_cond, ex_nil, ex_code, ex_inLoop, ex_inBlock, goC_true, goC_false, goC_dec, goO_nil, goO_cons, goO_guard, goG_true, goG_false, goR_val, goR_skip, wantedX, X.put, X.look, look_hit, Arg.ev, keepOf, restrict, evs, evO, initEnv, xres, tup, xi_move, xi_pick, pick_bool, xi_bin, bin_add, bin_sub, bin_mul, bin_eql, bin_neq, bin_lss, bin_leq, bin_gtr, bin_geq, xi_load1, ld_ptr, xi_nilCheck, nilCheck_ptr, xi_fieldAddr, fieldAddr_ptr, xi_isNil, isNil_some, isNil_none, xi_extract, extract_tuple, xi_call, call_func, xi_len, len_slice, xi_un, un_not, xi_store, xi_box, box_int, box_ptr, box_slice, push_self, push_two, Mem.next_push, xi_calcB, calc_max, calc_min, goG_dec, goG_ndec, xi_indexAddr, indexAddr_at, xi_slice, xi_append, xi_clear, isNil_slice, xi_conv, xi_alloc, box_agg, box_string, box_bool, xi_buildSlice, xparts_nil, xparts_cons, xi_build, xi_field, field_one, xi_makeFunc, makeFunc_nil, xi_loadA, go_opsd, goD_nil, goD_cons, goDV0, goDV1, goDV2, goDV3, goDV3s, again_nil, again_cons, againE_val, veq_int, veq_slice, veq_ptr, veq_bool, veq_string, asNat_nat, asNat_zero, asNat_one, noTup, cls, quiet, Option.isNone_some, Option.isNone_none, Bool.and_true, Bool.and_self, Bool.true_and, Nat.add_zero, Nat.mul_one, Nat.mul_zero, Nat.zero_mul, List.length_map, Option.bind_some, Option.map_some, List.getElem?_cons_zero, List.getElem?_cons_succ, Nat.reduceAdd, Nat.reduceEqDiff, reduceIte, reduceCtorEq, goInt, bne_self_eq_false, Bool.false_bne, Bool.true_bne, Bool.not_true, Bool.not_false, decide_eq_true_eq, decide_eq_false_iff_not, Option.some.injEq, exists_eq_left', Nat.zero_add, beq_self_eq_true, cond_true, cond_false, eqb_t, eqb_f, Int.cast_ofNat_Int, eq_self, decide_true, decide_false, Int.reduceLT, Int.reduceLE, Int.reduceEq, Int.reduceNeg, Int.reduceAdd, Int.reduceSub, and_true, true_and, forall_const, Bool.true_eq_false, Bool.false_eq_true, false_implies, ne_eq, not_true_eq_false, not_false_eq_true, true_implies, Decidable.not_not, undef, List.size_toArray, List.length_nil, goR_call (awake_call _), goR_call (new_bad hbad), a1, a2, a3, a4]
    exact hQ _ _ _ rfl rfl
  obtain ⟨m1, n1, n2, n3⟩ := new_ok (m := m) a1 a2 a3 a4
  have b1 : buildE m1 [I 0, I 0, .slice none 0 0] [(0, 1), (1, 1), (2, 1)] [(0, I size), (1, I seq)] = some (.val (.agg #[I size, I seq, .slice none 0 0]) m1) := by kernel_rfl
  have hlt := n2.lt.1
  have hnn := n3.next
  simp only [go_nil, go_inBlock, go_skip, go_seq, go_block, go_exit, go_ret, go_ops, go_opsr, go_cond, ex_nil, ex_code, ex_inLoop, ex_inBlock, goC_true, goC_false, goC_dec, goO_nil, goO_cons, goO_guard, goG_true, goG_false, goR_val, goR_skip, wantedX, X.put, X.look, look_hit, Arg.ev, keepOf, restrict, evs, evO, initEnv, xres, tup, xi_move, xi_pick, pick_bool, xi_bin, bin_add, bin_sub, bin_mul, bin_eql, bin_neq, bin_lss, bin_leq, bin_gtr, bin_geq, xi_load1, ld_ptr, xi_nilCheck, nilCheck_ptr, xi_fieldAddr, fieldAddr_ptr, xi_isNil, isNil_some, isNil_none, xi_extract, extract_tuple, xi_call, call_func, xi_len, len_slice, xi_un, un_not, xi_store, xi_box, box_int, box_ptr, box_slice, push_self, push_two, Mem.next_push, xi_calcB, calc_max, calc_min, goG_dec, goG_ndec, xi_indexAddr, indexAddr_at, xi_slice, xi_append, xi_clear, isNil_slice, xi_conv, xi_alloc, box_agg, box_string, box_bool, xi_buildSlice, xparts_nil, xparts_cons, xi_build, xi_field, field_one, xi_makeFunc, makeFunc_nil, xi_loadA, go_opsd, goD_nil, goD_cons, goDV0, goDV1, goDV2, goDV3, goDV3s, again_nil, again_cons, againE_val, veq_int, veq_slice, veq_ptr, veq_bool, veq_string, asNat_nat, asNat_zero, asNat_one, noTup, cls, quiet, Option.isNone_some, Option.isNone_none, Bool.and_true, Bool.and_self, Bool.true_and, Nat.add_zero, Nat.mul_one, Nat.mul_zero, Nat.zero_mul, List.length_map, Option.bind_some, Option.map_some, List.getElem?_cons_zero, List.getElem?_cons_succ, Nat.reduceAdd, Nat.reduceEqDiff, reduceIte, reduceCtorEq, goInt, bne_self_eq_false, Bool.false_bne, Bool.true_bne, Bool.not_true, Bool.not_false, decide_eq_true_eq, decide_eq_false_iff_not, Option.some.injEq, exists_eq_left', Nat.zero_add, beq_self_eq_true, cond_true, cond_false, eqb_t, eqb_f, Int.cast_ofNat_Int, eq_self, decide_true, decide_false, Int.reduceLT, Int.reduceLE, Int.reduceEq, Int.reduceNeg, Int.reduceAdd, Int.reduceSub, and_true, true_and, forall_const, Bool.true_eq_false, Bool.false_eq_true, false_implies, ne_eq, not_true_eq_false, not_false_eq_true, true_implies, Decidable.not_not, undef, List.size_toArray, List.length_nil, goR_call (awake_call _), goR_call n1, a1, a2, a3, a4, b1]
  generalize hm2 : m1.push { cells := [I size, I seq, .slice none 0 0], rw := true, spare := none, kin := [] } = m2
  have f2 : Fm (fun _ => False) m1 m2 := hm2 ▸ Fm.push
  have g2 : m2.get m1.next = some { cells := [I size, I seq, .slice none 0 0], rw := true, spare := none, kin := [] } := by rw [← hm2, push_self]
  have hn2 : m2.next = m1.next + 1 := by rw [← hm2]; rfl
  obtain ⟨u1, c1, hv1⟩ := rd_slice h1
  obtain ⟨u2, c2, hv2⟩ := rd_slice h2
  have hB0 : Both m.next m2 m.next m1.next size seq [] := by
    refine ⟨⟨[], [], ?_, ⟨.slice none 0 0, _, g2, by omega, rfl, rfl, rfl, by simp, .nil (by simp)⟩, by simp, by simp, Nat.le_refl _, hnn, by omega⟩, .nil, by omega, by omega, by omega, by simp; omega⟩
    have := n2.fr f2 (fun h => h) (fun _ _ h => h)
    simpa [kept] using this
  have f02 : Fm (fun _ => False) m m2 := n3.comp f2 fun _ _ h => h
  refine loop_go (fun j e m' => ∃ (i : Nat) (L : List Int), i ≤ 100 ∧ j = 100 - i ∧ L.length ≤ i ∧ m.next ≤ m'.next ∧ Both m.next m' m.next m1.next size seq L ∧ RdS m.next m' 1 l (rowsU ns) ∧ RdS m.next m' 1 asks (rowsU ms) ∧
    e = [(0, I size), (1, I seq), (2, l), (3, asks), (9, Pt m.next), (11, Pt m1.next), (12, I i)]) 100
    ⟨0, [], by omega, rfl, by simp, f02.next, hB0, h1.fr f02 (Nat.le_refl _) (fun _ h => h.elim), h2.fr f02 (Nat.le_refl _) (fun _ h => h.elim), rfl⟩ ?_
  rintro j e m' N' B' hN hB ⟨i, L, hi, rfl, hLi, hnx, hBo, hl1, hl2, rfl⟩
  subst hv1 hv2
  by_cases i1 : i < ns.length
  · have i1' : (i : Int) < (ns.length : Int) := by omega
    by_cases i3 : i < 100
    · have i3' : (i : Int) < 100 := by omega
      obtain ⟨x, hx⟩ : ∃ x, ns[i]? = some x := ⟨_, List.getElem?_eq_getElem i1⟩
      obtain ⟨c, o, m3, r, er, L', m4, m5, sl, k1, k2, k3, k4, k5, k6, k7, k8, k9, k10, k11⟩ := hBo.round (t := x) hnx (by omega)
      have hn3 := k10.next
      have hn4 := k11.next
      have hl3 := hl1.fr k10 hnx (fun _ h => h.elim)
      have hl4 := hl3.fr k11 (by omega) (fun _ h => h)
      have hl5 := hl1.fr k6 hnx (fun _ h => h)
      have ha5 := hl2.fr k6 hnx (fun _ h => h)
      obtain ⟨ad, cc, o3, hva, ha1, ha2⟩ := rd_at hl3 hx
      cases hva
      obtain ⟨ad', cc', o4, hva', hb1, hb2⟩ := rd_at hl4 hx
      cases hva'
      obtain ⟨ad'', cc'', o5, hva'', hc1, hc2⟩ := rd_at hl5 hx
      cases hva''
      obtain ⟨F1, F2, r1, r2, _⟩ := k5.ex
      have hs5 := k5.small
      have hr5 := k5.smallR (by omega)
      have q1 := seq_spec r1
      have q2 := rseq_spec r2 hr5
      have q3 := size_spec r1
      have q4 := seqc_spec k8 k9
      have q5 := floor_spec r1 hs5
      have w1 : IntKind.i64.wrap ((i : Int) + 1) = ((i + 1 : Nat) : Int) := by rw [wrap_i64 (by omega) (by omega)]; omega
      have w2 : IntKind.i64.wrap (seq + (L'.length : Int) - size) = seq + L'.length - size := wrap_i64 (by have := k5.s4; omega) (by have := k5.s4; omega)
      have w3 : IntKind.i64.wrap (seq + (L'.length : Int) - size + 1) = seq + L'.length - size + 1 := wrap_i64 (by have := k5.s4; omega) (by have := k5.s4; omega)
      have hasof : ∀ t, Ca 10 [Pt m.next, U t] m5 (.tuple #[I (refV size seq L' t).1, I (refV size seq L' t).2]) m5 := fun t => by
        rw [← asof_ref (t := t) k5.s1 k5.sort rfl]
        exact asof_spec r1 hs5 k5.sort.drop
      have hrasof : ∀ t, Ca 17 [Pt m1.next, U t] m5 (.tuple #[I (refV size seq L' t).1, I (refV size seq L' t).2]) m5 := fun t => rasof_spec r2 hr5
      simp only [go_nil, go_inBlock, go_skip, go_seq, go_block, go_exit, go_ret, go_ops, go_opsr, go_cond, ex_nil, ex_code, ex_inLoop, ex_inBlock, goC_true, goC_false, goC_dec, goO_nil, goO_cons, goO_guard, goG_true, goG_false, goR_val, goR_skip, wantedX, X.put, X.look, look_hit, Arg.ev, keepOf, restrict, evs, evO, initEnv, xres, tup, xi_move, xi_pick, pick_bool, xi_bin, bin_add, bin_sub, bin_mul, bin_eql, bin_neq, bin_lss, bin_leq, bin_gtr, bin_geq, xi_load1, ld_ptr, xi_nilCheck, nilCheck_ptr, xi_fieldAddr, fieldAddr_ptr, xi_isNil, isNil_some, isNil_none, xi_extract, extract_tuple, xi_call, call_func, xi_len, len_slice, xi_un, un_not, xi_store, xi_box, box_int, box_ptr, box_slice, push_self, push_two, Mem.next_push, xi_calcB, calc_max, calc_min, goG_dec, goG_ndec, xi_indexAddr, indexAddr_at, xi_slice, xi_append, xi_clear, isNil_slice, xi_conv, xi_alloc, box_agg, box_string, box_bool, xi_buildSlice, xparts_nil, xparts_cons, xi_build, xi_field, field_one, xi_makeFunc, makeFunc_nil, xi_loadA, go_opsd, goD_nil, goD_cons, goDV0, goDV1, goDV2, goDV3, goDV3s, again_nil, again_cons, againE_val, veq_int, veq_slice, veq_ptr, veq_bool, veq_string, asNat_nat, asNat_zero, asNat_one, noTup, cls, quiet, Option.isNone_some, Option.isNone_none, Bool.and_true, Bool.and_self, Bool.true_and, Nat.add_zero, Nat.mul_one, Nat.mul_zero, Nat.zero_mul, List.length_map, Option.bind_some, Option.map_some, List.getElem?_cons_zero, List.getElem?_cons_succ, Nat.reduceAdd, Nat.reduceEqDiff, reduceIte, reduceCtorEq, goInt, bne_self_eq_false, Bool.false_bne, Bool.true_bne, Bool.not_true, Bool.not_false, decide_eq_true_eq, decide_eq_false_iff_not, Option.some.injEq, exists_eq_left', Nat.zero_add, beq_self_eq_true, cond_true, cond_false, eqb_t, eqb_f, Int.cast_ofNat_Int, eq_self, decide_true, decide_false, Int.reduceLT, Int.reduceLE, Int.reduceEq, Int.reduceNeg, Int.reduceAdd, Int.reduceSub, and_true, true_and, forall_const, Bool.true_eq_false, Bool.false_eq_true, false_implies, ne_eq, not_true_eq_false, not_false_eq_true, true_implies, Decidable.not_not, undef, List.size_toArray, List.length_nil, i1, i1', i3', goR_call k1, goR_call k2, ha1, ha2, goR_call k3, hb1, hb2, goR_call k4, goR_call q1, goR_call q2, goR_call q3, goR_call q4]
      refine loop_go (fun j' e' m'' => m'' = m5 ∧ ∃ j : Nat, j ≤ 11 ∧ j ≤ ms.length + 1 ∧ j' = 11 - j ∧
        e' = [(0, I size), (1, I seq), (2, .slice (some ad) ns.length c1), (3, .slice u2 ms.length c2), (9, Pt m.next), (11, Pt m1.next), (12, I i), (19, I j)]) 11 ⟨rfl, 0, by omega, by omega, rfl, rfl⟩ ?_
      rintro j' e' m'' N'' B'' hN2 hB2 ⟨rfl, j, hj, hj2, rfl, rfl⟩
      have hdone : B'' 2 [(0, I size), (1, I seq), (2, .slice (some ad) ns.length c1), (3, .slice u2 ms.length c2), (9, Pt m.next), (11, Pt m1.next), (12, I i), (19, I j), (124, .bool false)] m'' := by
        refine hB2 _ _ _ ?_
        have hB5 := k5.s4
        by_cases hfl : seq + (L'.length : Int) - size + 1 < seq
        · have hf5 : floorOf size seq (seq + L'.length) = seq := by unfold floorOf; omega
          rw [hf5] at q5
          simp only [go_nil, go_inBlock, go_skip, go_seq, go_block, go_exit, go_ret, go_ops, go_opsr, go_cond, ex_nil, ex_code, ex_inLoop, ex_inBlock, goC_true, goC_false, goC_dec, goO_nil, goO_cons, goO_guard, goG_true, goG_false, goR_val, goR_skip, wantedX, X.put, X.look, look_hit, Arg.ev, keepOf, restrict, evs, evO, initEnv, xres, tup, xi_move, xi_pick, pick_bool, xi_bin, bin_add, bin_sub, bin_mul, bin_eql, bin_neq, bin_lss, bin_leq, bin_gtr, bin_geq, xi_load1, ld_ptr, xi_nilCheck, nilCheck_ptr, xi_fieldAddr, fieldAddr_ptr, xi_isNil, isNil_some, isNil_none, xi_extract, extract_tuple, xi_call, call_func, xi_len, len_slice, xi_un, un_not, xi_store, xi_box, box_int, box_ptr, box_slice, push_self, push_two, Mem.next_push, xi_calcB, calc_max, calc_min, goG_dec, goG_ndec, xi_indexAddr, indexAddr_at, xi_slice, xi_append, xi_clear, isNil_slice, xi_conv, xi_alloc, box_agg, box_string, box_bool, xi_buildSlice, xparts_nil, xparts_cons, xi_build, xi_field, field_one, xi_makeFunc, makeFunc_nil, xi_loadA, go_opsd, goD_nil, goD_cons, goDV0, goDV1, goDV2, goDV3, goDV3s, again_nil, again_cons, againE_val, veq_int, veq_slice, veq_ptr, veq_bool, veq_string, asNat_nat, asNat_zero, asNat_one, noTup, cls, quiet, Option.isNone_some, Option.isNone_none, Bool.and_true, Bool.and_self, Bool.true_and, Nat.add_zero, Nat.mul_one, Nat.mul_zero, Nat.zero_mul, List.length_map, Option.bind_some, Option.map_some, List.getElem?_cons_zero, List.getElem?_cons_succ, Nat.reduceAdd, Nat.reduceEqDiff, reduceIte, reduceCtorEq, goInt, bne_self_eq_false, Bool.false_bne, Bool.true_bne, Bool.not_true, Bool.not_false, decide_eq_true_eq, decide_eq_false_iff_not, Option.some.injEq, exists_eq_left', Nat.zero_add, beq_self_eq_true, cond_true, cond_false, eqb_t, eqb_f, Int.cast_ofNat_Int, eq_self, decide_true, decide_false, Int.reduceLT, Int.reduceLE, Int.reduceEq, Int.reduceNeg, Int.reduceAdd, Int.reduceSub, and_true, true_and, forall_const, Bool.true_eq_false, Bool.false_eq_true, false_implies, ne_eq, not_true_eq_false, not_false_eq_true, true_implies, Decidable.not_not, undef, List.size_toArray, List.length_nil, goR_call q2, w1, w2, w3, hfl, goR_call q5]
          exact hN _ _ (100 - (i + 1)) (by omega) ⟨i + 1, L', by omega, rfl, by omega, by have := k6.next; omega, k5, hl5, ha5, rfl⟩
        · have hf5 : floorOf size seq (seq + L'.length) = seq + L'.length - size + 1 := by unfold floorOf; omega
          rw [hf5] at q5
          simp only [go_nil, go_inBlock, go_skip, go_seq, go_block, go_exit, go_ret, go_ops, go_opsr, go_cond, ex_nil, ex_code, ex_inLoop, ex_inBlock, goC_true, goC_false, goC_dec, goO_nil, goO_cons, goO_guard, goG_true, goG_false, goR_val, goR_skip, wantedX, X.put, X.look, look_hit, Arg.ev, keepOf, restrict, evs, evO, initEnv, xres, tup, xi_move, xi_pick, pick_bool, xi_bin, bin_add, bin_sub, bin_mul, bin_eql, bin_neq, bin_lss, bin_leq, bin_gtr, bin_geq, xi_load1, ld_ptr, xi_nilCheck, nilCheck_ptr, xi_fieldAddr, fieldAddr_ptr, xi_isNil, isNil_some, isNil_none, xi_extract, extract_tuple, xi_call, call_func, xi_len, len_slice, xi_un, un_not, xi_store, xi_box, box_int, box_ptr, box_slice, push_self, push_two, Mem.next_push, xi_calcB, calc_max, calc_min, goG_dec, goG_ndec, xi_indexAddr, indexAddr_at, xi_slice, xi_append, xi_clear, isNil_slice, xi_conv, xi_alloc, box_agg, box_string, box_bool, xi_buildSlice, xparts_nil, xparts_cons, xi_build, xi_field, field_one, xi_makeFunc, makeFunc_nil, xi_loadA, go_opsd, goD_nil, goD_cons, goDV0, goDV1, goDV2, goDV3, goDV3s, again_nil, again_cons, againE_val, veq_int, veq_slice, veq_ptr, veq_bool, veq_string, asNat_nat, asNat_zero, asNat_one, noTup, cls, quiet, Option.isNone_some, Option.isNone_none, Bool.and_true, Bool.and_self, Bool.true_and, Nat.add_zero, Nat.mul_one, Nat.mul_zero, Nat.zero_mul, List.length_map, Option.bind_some, Option.map_some, List.getElem?_cons_zero, List.getElem?_cons_succ, Nat.reduceAdd, Nat.reduceEqDiff, reduceIte, reduceCtorEq, goInt, bne_self_eq_false, Bool.false_bne, Bool.true_bne, Bool.not_true, Bool.not_false, decide_eq_true_eq, decide_eq_false_iff_not, Option.some.injEq, exists_eq_left', Nat.zero_add, beq_self_eq_true, cond_true, cond_false, eqb_t, eqb_f, Int.cast_ofNat_Int, eq_self, decide_true, decide_false, Int.reduceLT, Int.reduceLE, Int.reduceEq, Int.reduceNeg, Int.reduceAdd, Int.reduceSub, and_true, true_and, forall_const, Bool.true_eq_false, Bool.false_eq_true, false_implies, ne_eq, not_true_eq_false, not_false_eq_true, true_implies, Decidable.not_not, undef, List.size_toArray, List.length_nil, goR_call q2, w1, w2, w3, hfl, goR_call q5]
          exact hN _ _ (100 - (i + 1)) (by omega) ⟨i + 1, L', by omega, rfl, by omega, by have := k6.next; omega, k5, hl5, ha5, rfl⟩
      by_cases j1 : (j : Int) ≤ (ms.length : Int)
      · by_cases j2 : (j : Int) ≤ 10
        · have wj : IntKind.i64.wrap ((j : Int) + 1) = ((j + 1 : Nat) : Int) := by rw [wrap_i64 (by omega) (by omega)]; omega
          by_cases j3 : j < ms.length
          · have j3' : (j : Int) < (ms.length : Int) := by omega
            by_cases j4 : j < 10
            · have j4' : (j : Int) < 10 := by omega
              obtain ⟨y, hy⟩ : ∃ y, ms[j]? = some y := ⟨_, List.getElem?_eq_getElem j3⟩
              obtain ⟨bd, ccc, o6, hvb, hd1, hd2⟩ := rd_at ha5 hy
              cases hvb
              simp only [go_nil, go_inBlock, go_skip, go_seq, go_block, go_exit, go_ret, go_ops, go_opsr, go_cond, ex_nil, ex_code, ex_inLoop, ex_inBlock, goC_true, goC_false, goC_dec, goO_nil, goO_cons, goO_guard, goG_true, goG_false, goR_val, goR_skip, wantedX, X.put, X.look, look_hit, Arg.ev, keepOf, restrict, evs, evO, initEnv, xres, tup, xi_move, xi_pick, pick_bool, xi_bin, bin_add, bin_sub, bin_mul, bin_eql, bin_neq, bin_lss, bin_leq, bin_gtr, bin_geq, xi_load1, ld_ptr, xi_nilCheck, nilCheck_ptr, xi_fieldAddr, fieldAddr_ptr, xi_isNil, isNil_some, isNil_none, xi_extract, extract_tuple, xi_call, call_func, xi_len, len_slice, xi_un, un_not, xi_store, xi_box, box_int, box_ptr, box_slice, push_self, push_two, Mem.next_push, xi_calcB, calc_max, calc_min, goG_dec, goG_ndec, xi_indexAddr, indexAddr_at, xi_slice, xi_append, xi_clear, isNil_slice, xi_conv, xi_alloc, box_agg, box_string, box_bool, xi_buildSlice, xparts_nil, xparts_cons, xi_build, xi_field, field_one, xi_makeFunc, makeFunc_nil, xi_loadA, go_opsd, goD_nil, goD_cons, goDV0, goDV1, goDV2, goDV3, goDV3s, again_nil, again_cons, againE_val, veq_int, veq_slice, veq_ptr, veq_bool, veq_string, asNat_nat, asNat_zero, asNat_one, noTup, cls, quiet, Option.isNone_some, Option.isNone_none, Bool.and_true, Bool.and_self, Bool.true_and, Nat.add_zero, Nat.mul_one, Nat.mul_zero, Nat.zero_mul, List.length_map, Option.bind_some, Option.map_some, List.getElem?_cons_zero, List.getElem?_cons_succ, Nat.reduceAdd, Nat.reduceEqDiff, reduceIte, reduceCtorEq, goInt, bne_self_eq_false, Bool.false_bne, Bool.true_bne, Bool.not_true, Bool.not_false, decide_eq_true_eq, decide_eq_false_iff_not, Option.some.injEq, exists_eq_left', Nat.zero_add, beq_self_eq_true, cond_true, cond_false, eqb_t, eqb_f, Int.cast_ofNat_Int, eq_self, decide_true, decide_false, Int.reduceLT, Int.reduceLE, Int.reduceEq, Int.reduceNeg, Int.reduceAdd, Int.reduceSub, and_true, true_and, forall_const, Bool.true_eq_false, Bool.false_eq_true, false_implies, ne_eq, not_true_eq_false, not_false_eq_true, true_implies, Decidable.not_not, undef, List.size_toArray, List.length_nil, j1, j2, j3, j3', j4', i1, hc1, hc2, hd1, hd2, goR_call (hasof _), goR_call (hrasof _), wj]
              exact hN2 _ _ (11 - (j + 1)) (by omega) ⟨rfl, j + 1, by omega, by omega, rfl, rfl⟩
            · have j4' : ¬ (j : Int) < 10 := by omega
              simp only [go_nil, go_inBlock, go_skip, go_seq, go_block, go_exit, go_ret, go_ops, go_opsr, go_cond, ex_nil, ex_code, ex_inLoop, ex_inBlock, goC_true, goC_false, goC_dec, goO_nil, goO_cons, goO_guard, goG_true, goG_false, goR_val, goR_skip, wantedX, X.put, X.look, look_hit, Arg.ev, keepOf, restrict, evs, evO, initEnv, xres, tup, xi_move, xi_pick, pick_bool, xi_bin, bin_add, bin_sub, bin_mul, bin_eql, bin_neq, bin_lss, bin_leq, bin_gtr, bin_geq, xi_load1, ld_ptr, xi_nilCheck, nilCheck_ptr, xi_fieldAddr, fieldAddr_ptr, xi_isNil, isNil_some, isNil_none, xi_extract, extract_tuple, xi_call, call_func, xi_len, len_slice, xi_un, un_not, xi_store, xi_box, box_int, box_ptr, box_slice, push_self, push_two, Mem.next_push, xi_calcB, calc_max, calc_min, goG_dec, goG_ndec, xi_indexAddr, indexAddr_at, xi_slice, xi_append, xi_clear, isNil_slice, xi_conv, xi_alloc, box_agg, box_string, box_bool, xi_buildSlice, xparts_nil, xparts_cons, xi_build, xi_field, field_one, xi_makeFunc, makeFunc_nil, xi_loadA, go_opsd, goD_nil, goD_cons, goDV0, goDV1, goDV2, goDV3, goDV3s, again_nil, again_cons, againE_val, veq_int, veq_slice, veq_ptr, veq_bool, veq_string, asNat_nat, asNat_zero, asNat_one, noTup, cls, quiet, Option.isNone_some, Option.isNone_none, Bool.and_true, Bool.and_self, Bool.true_and, Nat.add_zero, Nat.mul_one, Nat.mul_zero, Nat.zero_mul, List.length_map, Option.bind_some, Option.map_some, List.getElem?_cons_zero, List.getElem?_cons_succ, Nat.reduceAdd, Nat.reduceEqDiff, reduceIte, reduceCtorEq, goInt, bne_self_eq_false, Bool.false_bne, Bool.true_bne, Bool.not_true, Bool.not_false, decide_eq_true_eq, decide_eq_false_iff_not, Option.some.injEq, exists_eq_left', Nat.zero_add, beq_self_eq_true, cond_true, cond_false, eqb_t, eqb_f, Int.cast_ofNat_Int, eq_self, decide_true, decide_false, Int.reduceLT, Int.reduceLE, Int.reduceEq, Int.reduceNeg, Int.reduceAdd, Int.reduceSub, and_true, true_and, forall_const, Bool.true_eq_false, Bool.false_eq_true, false_implies, ne_eq, not_true_eq_false, not_false_eq_true, true_implies, Decidable.not_not, undef, List.size_toArray, List.length_nil, j1, j2, j3, j3', j4', i1, hc1, hc2, goR_call (hasof _), goR_call (hrasof _), wj]
              exact hN2 _ _ (11 - (j + 1)) (by omega) ⟨rfl, j + 1, by omega, by omega, rfl, rfl⟩
          · have j3' : ¬ (j : Int) < (ms.length : Int) := by omega
            simp only [go_nil, go_inBlock, go_skip, go_seq, go_block, go_exit, go_ret, go_ops, go_opsr, go_cond, ex_nil, ex_code, ex_inLoop, ex_inBlock, goC_true, goC_false, goC_dec, goO_nil, goO_cons, goO_guard, goG_true, goG_false, goR_val, goR_skip, wantedX, X.put, X.look, look_hit, Arg.ev, keepOf, restrict, evs, evO, initEnv, xres, tup, xi_move, xi_pick, pick_bool, xi_bin, bin_add, bin_sub, bin_mul, bin_eql, bin_neq, bin_lss, bin_leq, bin_gtr, bin_geq, xi_load1, ld_ptr, xi_nilCheck, nilCheck_ptr, xi_fieldAddr, fieldAddr_ptr, xi_isNil, isNil_some, isNil_none, xi_extract, extract_tuple, xi_call, call_func, xi_len, len_slice, xi_un, un_not, xi_store, xi_box, box_int, box_ptr, box_slice, push_self, push_two, Mem.next_push, xi_calcB, calc_max, calc_min, goG_dec, goG_ndec, xi_indexAddr, indexAddr_at, xi_slice, xi_append, xi_clear, isNil_slice, xi_conv, xi_alloc, box_agg, box_string, box_bool, xi_buildSlice, xparts_nil, xparts_cons, xi_build, xi_field, field_one, xi_makeFunc, makeFunc_nil, xi_loadA, go_opsd, goD_nil, goD_cons, goDV0, goDV1, goDV2, goDV3, goDV3s, again_nil, again_cons, againE_val, veq_int, veq_slice, veq_ptr, veq_bool, veq_string, asNat_nat, asNat_zero, asNat_one, noTup, cls, quiet, Option.isNone_some, Option.isNone_none, Bool.and_true, Bool.and_self, Bool.true_and, Nat.add_zero, Nat.mul_one, Nat.mul_zero, Nat.zero_mul, List.length_map, Option.bind_some, Option.map_some, List.getElem?_cons_zero, List.getElem?_cons_succ, Nat.reduceAdd, Nat.reduceEqDiff, reduceIte, reduceCtorEq, goInt, bne_self_eq_false, Bool.false_bne, Bool.true_bne, Bool.not_true, Bool.not_false, decide_eq_true_eq, decide_eq_false_iff_not, Option.some.injEq, exists_eq_left', Nat.zero_add, beq_self_eq_true, cond_true, cond_false, eqb_t, eqb_f, Int.cast_ofNat_Int, eq_self, decide_true, decide_false, Int.reduceLT, Int.reduceLE, Int.reduceEq, Int.reduceNeg, Int.reduceAdd, Int.reduceSub, and_true, true_and, forall_const, Bool.true_eq_false, Bool.false_eq_true, false_implies, ne_eq, not_true_eq_false, not_false_eq_true, true_implies, Decidable.not_not, undef, List.size_toArray, List.length_nil, j1, j2, j3', i1, hc1, hc2, goR_call (hasof _), goR_call (hrasof _), wj]
            exact hN2 _ _ (11 - (j + 1)) (by omega) ⟨rfl, j + 1, by omega, by omega, rfl, rfl⟩
        · simp only [go_nil, go_inBlock, go_skip, go_seq, go_block, go_exit, go_ret, go_ops, go_opsr, go_cond, ex_nil, ex_code, ex_inLoop, ex_inBlock, goC_true, goC_false, goC_dec, goO_nil, goO_cons, goO_guard, goG_true, goG_false, goR_val, goR_skip, wantedX, X.put, X.look, look_hit, Arg.ev, keepOf, restrict, evs, evO, initEnv, xres, tup, xi_move, xi_pick, pick_bool, xi_bin, bin_add, bin_sub, bin_mul, bin_eql, bin_neq, bin_lss, bin_leq, bin_gtr, bin_geq, xi_load1, ld_ptr, xi_nilCheck, nilCheck_ptr, xi_fieldAddr, fieldAddr_ptr, xi_isNil, isNil_some, isNil_none, xi_extract, extract_tuple, xi_call, call_func, xi_len, len_slice, xi_un, un_not, xi_store, xi_box, box_int, box_ptr, box_slice, push_self, push_two, Mem.next_push, xi_calcB, calc_max, calc_min, goG_dec, goG_ndec, xi_indexAddr, indexAddr_at, xi_slice, xi_append, xi_clear, isNil_slice, xi_conv, xi_alloc, box_agg, box_string, box_bool, xi_buildSlice, xparts_nil, xparts_cons, xi_build, xi_field, field_one, xi_makeFunc, makeFunc_nil, xi_loadA, go_opsd, goD_nil, goD_cons, goDV0, goDV1, goDV2, goDV3, goDV3s, again_nil, again_cons, againE_val, veq_int, veq_slice, veq_ptr, veq_bool, veq_string, asNat_nat, asNat_zero, asNat_one, noTup, cls, quiet, Option.isNone_some, Option.isNone_none, Bool.and_true, Bool.and_self, Bool.true_and, Nat.add_zero, Nat.mul_one, Nat.mul_zero, Nat.zero_mul, List.length_map, Option.bind_some, Option.map_some, List.getElem?_cons_zero, List.getElem?_cons_succ, Nat.reduceAdd, Nat.reduceEqDiff, reduceIte, reduceCtorEq, goInt, bne_self_eq_false, Bool.false_bne, Bool.true_bne, Bool.not_true, Bool.not_false, decide_eq_true_eq, decide_eq_false_iff_not, Option.some.injEq, exists_eq_left', Nat.zero_add, beq_self_eq_true, cond_true, cond_false, eqb_t, eqb_f, Int.cast_ofNat_Int, eq_self, decide_true, decide_false, Int.reduceLT, Int.reduceLE, Int.reduceEq, Int.reduceNeg, Int.reduceAdd, Int.reduceSub, and_true, true_and, forall_const, Bool.true_eq_false, Bool.false_eq_true, false_implies, ne_eq, not_true_eq_false, not_false_eq_true, true_implies, Decidable.not_not, undef, List.size_toArray, List.length_nil, j1, j2]
          exact hdone
      · simp only [go_nil, go_inBlock, go_skip, go_seq, go_block, go_exit, go_ret, go_ops, go_opsr, go_cond, ex_nil, ex_code, ex_inLoop, ex_inBlock, goC_true, goC_false, goC_dec, goO_nil, goO_cons, goO_guard, goG_true, goG_false, goR_val, goR_skip, wantedX, X.put, X.look, look_hit, Arg.ev, keepOf, restrict, evs, evO, initEnv, xres, tup, xi_move, xi_pick, pick_bool, xi_bin, bin_add, bin_sub, bin_mul, bin_eql, bin_neq, bin_lss, bin_leq, bin_gtr, bin_geq, xi_load1, ld_ptr, xi_nilCheck, nilCheck_ptr, xi_fieldAddr, fieldAddr_ptr, xi_isNil, isNil_some, isNil_none, xi_extract, extract_tuple, xi_call, call_func, xi_len, len_slice, xi_un, un_not, xi_store, xi_box, box_int, box_ptr, box_slice, push_self, push_two, Mem.next_push, xi_calcB, calc_max, calc_min, goG_dec, goG_ndec, xi_indexAddr, indexAddr_at, xi_slice, xi_append, xi_clear, isNil_slice, xi_conv, xi_alloc, box_agg, box_string, box_bool, xi_buildSlice, xparts_nil, xparts_cons, xi_build, xi_field, field_one, xi_makeFunc, makeFunc_nil, xi_loadA, go_opsd, goD_nil, goD_cons, goDV0, goDV1, goDV2, goDV3, goDV3s, again_nil, again_cons, againE_val, veq_int, veq_slice, veq_ptr, veq_bool, veq_string, asNat_nat, asNat_zero, asNat_one, noTup, cls, quiet, Option.isNone_some, Option.isNone_none, Bool.and_true, Bool.and_self, Bool.true_and, Nat.add_zero, Nat.mul_one, Nat.mul_zero, Nat.zero_mul, List.length_map, Option.bind_some, Option.map_some, List.getElem?_cons_zero, List.getElem?_cons_succ, Nat.reduceAdd, Nat.reduceEqDiff, reduceIte, reduceCtorEq, goInt, bne_self_eq_false, Bool.false_bne, Bool.true_bne, Bool.not_true, Bool.not_false, decide_eq_true_eq, decide_eq_false_iff_not, Option.some.injEq, exists_eq_left', Nat.zero_add, beq_self_eq_true, cond_true, cond_false, eqb_t, eqb_f, Int.cast_ofNat_Int, eq_self, decide_true, decide_false, Int.reduceLT, Int.reduceLE, Int.reduceEq, Int.reduceNeg, Int.reduceAdd, Int.reduceSub, and_true, true_and, forall_const, Bool.true_eq_false, Bool.false_eq_true, false_implies, ne_eq, not_true_eq_false, not_false_eq_true, true_implies, Decidable.not_not, undef, List.size_toArray, List.length_nil, j1]
        exact hdone
    · have i3' : ¬ (i : Int) < 100 := by omega
      simp only [go_nil, go_inBlock, go_skip, go_seq, go_block, go_exit, go_ret, go_ops, go_opsr, go_cond, ex_nil, ex_code, ex_inLoop, ex_inBlock, goC_true, goC_false, goC_dec, goO_nil, goO_cons, goO_guard, goG_true, goG_false, goR_val, goR_skip, wantedX, X.put, X.look, look_hit, Arg.ev, keepOf, restrict, evs, evO, initEnv, xres, tup, xi_move, xi_pick, pick_bool, xi_bin, bin_add, bin_sub, bin_mul, bin_eql, bin_neq, bin_lss, bin_leq, bin_gtr, bin_geq, xi_load1, ld_ptr, xi_nilCheck, nilCheck_ptr, xi_fieldAddr, fieldAddr_ptr, xi_isNil, isNil_some, isNil_none, xi_extract, extract_tuple, xi_call, call_func, xi_len, len_slice, xi_un, un_not, xi_store, xi_box, box_int, box_ptr, box_slice, push_self, push_two, Mem.next_push, xi_calcB, calc_max, calc_min, goG_dec, goG_ndec, xi_indexAddr, indexAddr_at, xi_slice, xi_append, xi_clear, isNil_slice, xi_conv, xi_alloc, box_agg, box_string, box_bool, xi_buildSlice, xparts_nil, xparts_cons, xi_build, xi_field, field_one, xi_makeFunc, makeFunc_nil, xi_loadA, go_opsd, goD_nil, goD_cons, goDV0, goDV1, goDV2, goDV3, goDV3s, again_nil, again_cons, againE_val, veq_int, veq_slice, veq_ptr, veq_bool, veq_string, asNat_nat, asNat_zero, asNat_one, noTup, cls, quiet, Option.isNone_some, Option.isNone_none, Bool.and_true, Bool.and_self, Bool.true_and, Nat.add_zero, Nat.mul_one, Nat.mul_zero, Nat.zero_mul, List.length_map, Option.bind_some, Option.map_some, List.getElem?_cons_zero, List.getElem?_cons_succ, Nat.reduceAdd, Nat.reduceEqDiff, reduceIte, reduceCtorEq, goInt, bne_self_eq_false, Bool.false_bne, Bool.true_bne, Bool.not_true, Bool.not_false, decide_eq_true_eq, decide_eq_false_iff_not, Option.some.injEq, exists_eq_left', Nat.zero_add, beq_self_eq_true, cond_true, cond_false, eqb_t, eqb_f, Int.cast_ofNat_Int, eq_self, decide_true, decide_false, Int.reduceLT, Int.reduceLE, Int.reduceEq, Int.reduceNeg, Int.reduceAdd, Int.reduceSub, and_true, true_and, forall_const, Bool.true_eq_false, Bool.false_eq_true, false_implies, ne_eq, not_true_eq_false, not_false_eq_true, true_implies, Decidable.not_not, undef, List.size_toArray, List.length_nil, i1', i3']
      refine hB _ _ _ ?_
      simp only [go_nil, go_inBlock, go_skip, go_seq, go_block, go_exit, go_ret, go_ops, go_opsr, go_cond, ex_nil, ex_code, ex_inLoop, ex_inBlock, goC_true, goC_false, goC_dec, goO_nil, goO_cons, goO_guard, goG_true, goG_false, goR_val, goR_skip, wantedX, X.put, X.look, look_hit, Arg.ev, keepOf, restrict, evs, evO, initEnv, xres, tup, xi_move, xi_pick, pick_bool, xi_bin, bin_add, bin_sub, bin_mul, bin_eql, bin_neq, bin_lss, bin_leq, bin_gtr, bin_geq, xi_load1, ld_ptr, xi_nilCheck, nilCheck_ptr, xi_fieldAddr, fieldAddr_ptr, xi_isNil, isNil_some, isNil_none, xi_extract, extract_tuple, xi_call, call_func, xi_len, len_slice, xi_un, un_not, xi_store, xi_box, box_int, box_ptr, box_slice, push_self, push_two, Mem.next_push, xi_calcB, calc_max, calc_min, goG_dec, goG_ndec, xi_indexAddr, indexAddr_at, xi_slice, xi_append, xi_clear, isNil_slice, xi_conv, xi_alloc, box_agg, box_string, box_bool, xi_buildSlice, xparts_nil, xparts_cons, xi_build, xi_field, field_one, xi_makeFunc, makeFunc_nil, xi_loadA, go_opsd, goD_nil, goD_cons, goDV0, goDV1, goDV2, goDV3, goDV3s, again_nil, again_cons, againE_val, veq_int, veq_slice, veq_ptr, veq_bool, veq_string, asNat_nat, asNat_zero, asNat_one, noTup, cls, quiet, Option.isNone_some, Option.isNone_none, Bool.and_true, Bool.and_self, Bool.true_and, Nat.add_zero, Nat.mul_one, Nat.mul_zero, Nat.zero_mul, List.length_map, Option.bind_some, Option.map_some, List.getElem?_cons_zero, List.getElem?_cons_succ, Nat.reduceAdd, Nat.reduceEqDiff, reduceIte, reduceCtorEq, goInt, bne_self_eq_false, Bool.false_bne, Bool.true_bne, Bool.not_true, Bool.not_false, decide_eq_true_eq, decide_eq_false_iff_not, Option.some.injEq, exists_eq_left', Nat.zero_add, beq_self_eq_true, cond_true, cond_false, eqb_t, eqb_f, Int.cast_ofNat_Int, eq_self, decide_true, decide_false, Int.reduceLT, Int.reduceLE, Int.reduceEq, Int.reduceNeg, Int.reduceAdd, Int.reduceSub, and_true, true_and, forall_const, Bool.true_eq_false, Bool.false_eq_true, false_implies, ne_eq, not_true_eq_false, not_false_eq_true, true_implies, Decidable.not_not, undef, List.size_toArray, List.length_nil]
      exact hQ _ _ _ rfl rfl
  · have i1' : ¬ (i : Int) < (ns.length : Int) := by omega
    simp only [go_nil, go_inBlock, go_skip, go_seq, go_block, go_exit, go_ret, go_ops, go_opsr, go_cond, ex_nil, ex_code, ex_inLoop, ex_inBlock, goC_true, goC_false, goC_dec, goO_nil, goO_cons, goO_guard, goG_true, goG_false, goR_val, goR_skip, wantedX, X.put, X.look, look_hit, Arg.ev, keepOf, restrict, evs, evO, initEnv, xres, tup, xi_move, xi_pick, pick_bool, xi_bin, bin_add, bin_sub, bin_mul, bin_eql, bin_neq, bin_lss, bin_leq, bin_gtr, bin_geq, xi_load1, ld_ptr, xi_nilCheck, nilCheck_ptr, xi_fieldAddr, fieldAddr_ptr, xi_isNil, isNil_some, isNil_none, xi_extract, extract_tuple, xi_call, call_func, xi_len, len_slice, xi_un, un_not, xi_store, xi_box, box_int, box_ptr, box_slice, push_self, push_two, Mem.next_push, xi_calcB, calc_max, calc_min, goG_dec, goG_ndec, xi_indexAddr, indexAddr_at, xi_slice, xi_append, xi_clear, isNil_slice, xi_conv, xi_alloc, box_agg, box_string, box_bool, xi_buildSlice, xparts_nil, xparts_cons, xi_build, xi_field, field_one, xi_makeFunc, makeFunc_nil, xi_loadA, go_opsd, goD_nil, goD_cons, goDV0, goDV1, goDV2, goDV3, goDV3s, again_nil, again_cons, againE_val, veq_int, veq_slice, veq_ptr, veq_bool, veq_string, asNat_nat, asNat_zero, asNat_one, noTup, cls, quiet, Option.isNone_some, Option.isNone_none, Bool.and_true, Bool.and_self, Bool.true_and, Nat.add_zero, Nat.mul_one, Nat.mul_zero, Nat.zero_mul, List.length_map, Option.bind_some, Option.map_some, List.getElem?_cons_zero, List.getElem?_cons_succ, Nat.reduceAdd, Nat.reduceEqDiff, reduceIte, reduceCtorEq, goInt, bne_self_eq_false, Bool.false_bne, Bool.true_bne, Bool.not_true, Bool.not_false, decide_eq_true_eq, decide_eq_false_iff_not, Option.some.injEq, exists_eq_left', Nat.zero_add, beq_self_eq_true, cond_true, cond_false, eqb_t, eqb_f, Int.cast_ofNat_Int, eq_self, decide_true, decide_false, Int.reduceLT, Int.reduceLE, Int.reduceEq, Int.reduceNeg, Int.reduceAdd, Int.reduceSub, and_true, true_and, forall_const, Bool.true_eq_false, Bool.false_eq_true, false_implies, ne_eq, not_true_eq_false, not_false_eq_true, true_implies, Decidable.not_not, undef, List.size_toArray, List.length_nil, i1']
    refine hB _ _ _ ?_
    simp only [go_nil, go_inBlock, go_skip, go_seq, go_block, go_exit, go_ret, go_ops, go_opsr, go_cond, ex_nil, ex_code, ex_inLoop, ex_inBlock, goC_true, goC_false, goC_dec, goO_nil, goO_cons, goO_guard, goG_true, goG_false, goR_val, goR_skip, wantedX, X.put, X.look, look_hit, Arg.ev, keepOf, restrict, evs, evO, initEnv, xres, tup, xi_move, xi_pick, pick_bool, xi_bin, bin_add, bin_sub, bin_mul, bin_eql, bin_neq, bin_lss, bin_leq, bin_gtr, bin_geq, xi_load1, ld_ptr, xi_nilCheck, nilCheck_ptr, xi_fieldAddr, fieldAddr_ptr, xi_isNil, isNil_some, isNil_none, xi_extract, extract_tuple, xi_call, call_func, xi_len, len_slice, xi_un, un_not, xi_store, xi_box, box_int, box_ptr, box_slice, push_self, push_two, Mem.next_push, xi_calcB, calc_max, calc_min, goG_dec, goG_ndec, xi_indexAddr, indexAddr_at, xi_slice, xi_append, xi_clear, isNil_slice, xi_conv, xi_alloc, box_agg, box_string, box_bool, xi_buildSlice, xparts_nil, xparts_cons, xi_build, xi_field, field_one, xi_makeFunc, makeFunc_nil, xi_loadA, go_opsd, goD_nil, goD_cons, goDV0, goDV1, goDV2, goDV3, goDV3s, again_nil, again_cons, againE_val, veq_int, veq_slice, veq_ptr, veq_bool, veq_string, asNat_nat, asNat_zero, asNat_one, noTup, cls, quiet, Option.isNone_some, Option.isNone_none, Bool.and_true, Bool.and_self, Bool.true_and, Nat.add_zero, Nat.mul_one, Nat.mul_zero, Nat.zero_mul, List.length_map, Option.bind_some, Option.map_some, List.getElem?_cons_zero, List.getElem?_cons_succ, Nat.reduceAdd, Nat.reduceEqDiff, reduceIte, reduceCtorEq, goInt, bne_self_eq_false, Bool.false_bne, Bool.true_bne, Bool.not_true, Bool.not_false, decide_eq_true_eq, decide_eq_false_iff_not, Option.some.injEq, exists_eq_left', Nat.zero_add, beq_self_eq_true, cond_true, cond_false, eqb_t, eqb_f, Int.cast_ofNat_Int, eq_self, decide_true, decide_false, Int.reduceLT, Int.reduceLE, Int.reduceEq, Int.reduceNeg, Int.reduceAdd, Int.reduceSub, and_true, true_and, forall_const, Bool.true_eq_false, Bool.false_eq_true, false_implies, ne_eq, not_true_eq_false, not_false_eq_true, true_implies, Decidable.not_not, undef, List.size_toArray, List.length_nil]
    exact hQ _ _ _ rfl rfl

theorem ringPlays_args {H : Type} (ds : List (DataW H)) (h : wfEach Try.prog ds Try.f5.params.toList) : ∃ (size seq : Int) (d e : DataW H), ds = [.lit (.int .i64 size), .lit (.int .i64 seq), d, e] ∧ wfD Try.prog d 33 ∧ wfD Try.prog e 33 := by
  rw [Try.params5] at h
  obtain ⟨d0, r, rfl, h0, h⟩ := wf_more h
  obtain ⟨d1, r, rfl, h1, h⟩ := wf_more h
  obtain ⟨d2, r, rfl, h2, h⟩ := wf_more h
  obtain ⟨d3, rfl, h3⟩ := wf_one h
  obtain ⟨n0, rfl, _⟩ := wf_int Try.underlying3 h0
  obtain ⟨n1, rfl, _⟩ := wf_int Try.underlying3 h1
  exact ⟨n0, n1, d2, d3, rfl, h2, h3⟩

theorem ringPlays_lifted (os : Os) (started : os.Started) (H : Type) (enc : TypeId × Value → H) :
    ReturnsInHanded {} Try.checked os 5 .any (Rows.ringPlaysSpec.pre6 enc Try.prog Try.f5 Rows.ringPlaysRow.domain false) (Rows.ringPlaysSpec.post enc Try.prog Try.f5 false true false false) := by
  refine returnsInHanded_of_change (C := Try.checked) own started (by kernel_rfl) Try.func5
    (ChangeSpec.witness6 (enc := enc) (C := Try.checked) false ⟨#[], #[.int .i64 0, .int .i64 0, .slice none 0 0, .slice none 0 0], []⟩ 8 (by kernel_rfl) (by kernel_rfl) (by kernel_rfl) (by kernel_rfl)) ?_
  intro W base args ds gs before hval0 hW hcnd _
  refine law_contract mixed tabK_is (f := 5) rfl (k := 10) (by rw [← List.all_eq_true]; kernel_rfl) (fun t ht => ?_) laid rfl (by kernel_rfl) rfl ?_ ?_ H enc W base args ds gs before hval0 hW
  · have : (Try.f5.params.toList.all fun t => Try.prog.readableRec t && decide (t < Try.prog.types.size)) = true := by kernel_rfl
    have := List.all_eq_true.1 this t ht
    simp only [Bool.and_eq_true, decide_eq_true_eq] at this
    exact this
  · intro H ds hd
    obtain ⟨_, _, _, _, rfl, _⟩ := ringPlays_args ds hd
    rfl
  · intro H ds hd
    obtain ⟨size, seq, d, e, rfl, hd2, hd3⟩ := ringPlays_args ds hd
    obtain ⟨ns, v, g1, g2, _, g3, g4⟩ := abs_slice_ints (m := Mem.empty) Try.underlying33 Try.underlying28 hd2
    obtain ⟨ms, v', k1, k2, k5, k3, k4⟩ := abs_slice_ints (m := (absD Try.prog d 33 Mem.empty).2) Try.underlying33 Try.underlying28 hd3
    have ha : absArgs Try.prog [(.lit (.int .i64 size) : DataW H), .lit (.int .i64 seq), d, e] Try.f5.params.toList Mem.empty
        = ([I size, I seq, argVal Try.prog 33 (absD Try.prog d 33 Mem.empty).1, argVal Try.prog 33 (absD Try.prog e 33 (absD Try.prog d 33 Mem.empty).2).1], (absD Try.prog e 33 (absD Try.prog d 33 Mem.empty).2).2) := by kernel_rfl
    have hv : argVal Try.prog 33 (absD Try.prog d 33 Mem.empty).1 = v := by rw [g1]; kernel_rfl
    have hv' : argVal Try.prog 33 (absD Try.prog e 33 (absD Try.prog d 33 Mem.empty).2).1 = v' := by rw [k1]; kernel_rfl
    rw [ha, hv, hv']
    have g5 := (g4.fr k3 (Nat.le_refl _) (fun _ h => h.elim)).mono k3.next
    obtain ⟨v, m', ⟨n, hn⟩, rfl⟩ := ringPlays_run (size := size) (seq := seq) g5 k4
    exact ⟨n, m', hn⟩

theorem ringPlays_holds : Rows.RingPlaysSaid :=
  OpenClaim.holds_of_wide 5 Try.f5 rfl rfl rfl rfl rfl rfl rfl ⟨rfl, rfl, rfl, rfl, rfl⟩ rfl rfl rfl rfl rfl (by kernel_rfl) Try.func5 (by kernel_rfl)
    (of_decide_eq_true (by kernel_rfl)) (by unfold Func.isWrapper; first | (rw [if_pos (by decide +kernel)]; kernel_rfl) | (rw [if_neg (by decide +kernel)]; exact ⟨rfl, rfl⟩))
    (fun os started H enc _ => ringPlays_lifted os started H enc)

end Go.Proofs.Ytbcoijgoipnelaa
