/-
  Own work. PROVED HERE: RingHidden: whatever size, number, steps and place, the law returns true (stamps are hidden). No condition.
-/
import Derived.Test.YtbcoijgoipnelaaXR4
import Derived.Test.YtbcoijgoipnelaaRows
import Derived.ProofKit
namespace Go.Proofs.Ytbcoijgoipnelaa
open Go Go.ChangeShapes Go.WideShapes Go.ChangeAt Go.RowKit X
set_option maxRecDepth 100000
set_option linter.unusedVariables false
set_option linter.unusedSimpArgs false

theorem rdk_at {k : IntKind} {b : Nat} {m : Mem} {v : Value} {xs : List Int} (h : RdS b m 1 v (xs.map fun n => [.int k n])) {i : Nat} {x : Int} (hi : xs[i]? = some x) : ∃ a c o, v = .slice (some a) xs.length c ∧ m.get a.block = some o ∧ o.cells[a.off + i]? = some (.int k x) := by
  obtain ⟨p, c, rfl, hc, h⟩ := h
  obtain ⟨h1, a, o, rfl, h3, h4, h5⟩ := h i [.int k x] (by simp [hi])
  exact ⟨a, c, o, by simp, h4, by simpa using h5 0 (by omega)⟩
theorem rdk_slice {k : IntKind} {b : Nat} {m : Mem} {v : Value} {xs : List Int} (h : RdS b m 1 v (xs.map fun n => [.int k n])) : ∃ p c, v = .slice p xs.length c := by
  obtain ⟨p, c, rfl⟩ := h.slice
  exact ⟨p, c, by simp⟩

theorem conv_8u {m : Mem} {n : Int} : convE Try.prog 5 28 m (.int .u8 n) = some (.val (U (IntKind.u64.wrap n)) m) := by kernel_rfl

theorem _root_.Go.Proofs.Ytbcoijgoipnelaa.X.RdS.mono {b b' : Nat} {m : Mem} {size : Nat} {v : Value} {rows : List (List Value)} (h : RdS b m size v rows) (hb : b ≤ b') : RdS b' m size v rows := by
  obtain ⟨p, c, rfl, hc, h⟩ := h
  refine ⟨p, c, rfl, hc, fun i r hr => ?_⟩
  obtain ⟨h1, a, o, h2, h3, h4, h5⟩ := h i r hr
  exact ⟨h1, a, o, h2, by omega, h4, h5⟩

/-- Both rings tell alike. -/
structure Alike (size begin : Int) (sq : Int) (xs ys : List Int) (x y p q : Int) : Prop where
  small1 : Small size begin sq xs
  small2 : Small size begin sq ys
  sort1 : xs.Pairwise (· < ·)
  sort2 : ys.Pairwise (· < ·)
  top1 : ∀ z ∈ xs, z ≤ x
  top2 : ∀ z ∈ ys, z ≤ y
  px : p ≤ x
  qy : q ≤ y
  x0 : 0 ≤ x
  y0 : 0 ≤ y
  same : xs.map (fun z => decide (z ≤ p)) = ys.map (fun z => decide (z ≤ q))

theorem Alike.len {size begin sq : Int} {xs ys : List Int} {x y p q : Int} (h : Alike size begin sq xs ys x y p q) : xs.length = ys.length := by
  have := congrArg List.length h.same
  simpa using this

theorem count_map (xs : List Int) (p : Int) : upto xs p = (xs.map fun z => decide (z ≤ p)).countP id := by
  unfold upto; rw [List.countP_map]; rfl

theorem Alike.upto {size begin sq : Int} {xs ys : List Int} {x y p q : Int} (h : Alike size begin sq xs ys x y p q) : upto xs p = upto ys q := by
  rw [count_map, count_map, h.same]

theorem Alike.asof {size begin sq : Int} {xs ys : List Int} {x y p q : Int} (h : Alike size begin sq xs ys x y p q) : asofV size begin sq xs p = asofV size begin sq ys q := by
  unfold asofV; rw [h.len, h.upto]

theorem lastOf_le {xs : List Int} {x : Int} (h0 : 0 ≤ x) (h : ∀ z ∈ xs, z ≤ x) : lastOf xs ≤ x := by
  unfold lastOf
  cases hl : xs.getLast? with
  | none => simpa using h0
  | some z => simpa using h z (List.mem_of_getLast? hl)

theorem Alike.push {size begin sq : Int} {xs ys : List Int} {x y p q x' y' : Int} (h : Alike size begin sq xs ys x y p q) (hx : x < x') (hy : y < y') :
    ∃ r e sq' xs' ys', pushV size sq xs x' = (sq', xs', r, e) ∧ pushV size sq ys y' = (sq', ys', r, e) ∧ Alike size begin sq' xs' ys' x' y' p q ∧ Alike size begin sq' xs' ys' x' y' x' y' := by
  have l1 : ¬ x' ≤ lastOf xs := by have := lastOf_le h.x0 h.top1; omega
  have l2 : ¬ y' ≤ lastOf ys := by have := lastOf_le h.y0 h.top2; omega
  have k1 := push_state (t := x') h.small1 h.sort1
  have k2 := push_state (t := y') h.small2 h.sort2
  have hall : ∀ (us vs : List Int) (a b : Int), us.length = vs.length → (∀ z ∈ us, z ≤ a) → (∀ z ∈ vs, z ≤ b) → us.map (fun z => decide (z ≤ a)) = vs.map (fun z => decide (z ≤ b)) := by
    intro us vs a b hl hu hv
    have e1 : us.map (fun z => decide (z ≤ a)) = List.replicate us.length true := by
      rw [List.eq_replicate_iff]; refine ⟨by simp, fun b hb => ?_⟩
      obtain ⟨z, hz, rfl⟩ := List.mem_map.1 hb
      simp [hu z hz]
    have e2 : vs.map (fun z => decide (z ≤ b)) = List.replicate vs.length true := by
      rw [List.eq_replicate_iff]; refine ⟨by simp, fun b hb => ?_⟩
      obtain ⟨z, hz, rfl⟩ := List.mem_map.1 hb
      simp [hv z hz]
    rw [e1, e2, hl]
  by_cases hf : 1073741824 ≤ sq
  · have e1 : pushV size sq xs x' = (sq, xs, 0, 17) := by unfold pushV; rw [if_neg l1, if_pos hf]
    have e2 : pushV size sq ys y' = (sq, ys, 0, 17) := by unfold pushV; rw [if_neg l2, if_pos hf]
    have t1 : ∀ z ∈ xs, z ≤ x' := fun z hz => by have := h.top1 z hz; omega
    have t2 : ∀ z ∈ ys, z ≤ y' := fun z hz => by have := h.top2 z hz; omega
    have hx0 := h.x0
    have hy0 := h.y0
    have hpx := h.px
    have hqy := h.qy
    exact ⟨0, 17, sq, xs, ys, e1, e2, ⟨h.small1, h.small2, h.sort1, h.sort2, t1, t2, by omega, by omega, by omega, by omega, h.same⟩,
      ⟨h.small1, h.small2, h.sort1, h.sort2, t1, t2, by omega, by omega, by omega, by omega, hall _ _ _ _ h.len t1 t2⟩⟩
  · have e1 : pushV size sq xs x' = (sq + 1, pushed size xs x', sq + 1, 0) := by unfold pushV; rw [if_neg l1, if_neg hf]
    have e2 : pushV size sq ys y' = (sq + 1, pushed size ys y', sq + 1, 0) := by unfold pushV; rw [if_neg l2, if_neg hf]
    rw [e1] at k1
    rw [e2] at k2
    have hx0 := h.x0
    have hy0 := h.y0
    have hpx := h.px
    have hqy := h.qy
    have t1 : ∀ z ∈ pushed size xs x', z ≤ x' := fun z hz => by
      have := List.mem_of_mem_drop hz
      simp only [List.mem_append, List.mem_singleton] at this
      rcases this with h1 | h1
      · have := h.top1 z h1; omega
      · omega
    have t2 : ∀ z ∈ pushed size ys y', z ≤ y' := fun z hz => by
      have := List.mem_of_mem_drop hz
      simp only [List.mem_append, List.mem_singleton] at this
      rcases this with h1 | h1
      · have := h.top2 z h1; omega
      · omega
    have hlen : (pushed size xs x').length = (pushed size ys y').length := by simp [pushed, h.len]
    refine ⟨sq + 1, 0, sq + 1, _, _, e1, e2, ⟨k1.1, k2.1, k1.2.1, k2.2.1, t1, t2, by omega, by omega, by omega, by omega, ?_⟩, ⟨k1.1, k2.1, k1.2.1, k2.2.1, t1, t2, by omega, by omega, by omega, by omega, hall _ _ _ _ hlen t1 t2⟩⟩
    unfold pushed
    rw [List.map_drop, List.map_drop, List.map_append, List.map_append, h.same]
    have d1 : decide (x' ≤ p) = false := by simp; omega
    have d2 : decide (y' ≤ q) = false := by simp; omega
    simp only [List.map_cons, List.map_nil, d1, d2, List.length_append, h.len, List.length_cons, List.length_nil]

/-- Two rings that have no memory in common. -/
structure Two (b : Nat) (m : Mem) (p1 p2 : Nat) (size begin sq : Int) (xs ys : List Int) : Prop where
  ex : ∃ F1 F2, RingAt F1 m p1 size begin sq xs ∧ RingAt F2 m p2 size begin sq ys ∧ (∀ i ∈ F1, b ≤ i ∧ i ≠ p2 ∧ i ∉ F2) ∧ (∀ i ∈ F2, b ≤ i ∧ i ≠ p1) ∧ b ≤ p1 ∧ b ≤ p2 ∧ p1 ≠ p2

theorem Two.push {b : Nat} {m : Mem} {p1 p2 : Nat} {size begin sq : Int} {xs ys : List Int} {x y p q x' y' : Int} (h : Two b m p1 p2 size begin sq xs ys) (ha : Alike size begin sq xs ys x y p q) (hx : x < x') (hy : y < y') (hb : b ≤ m.next) :
    ∃ r e sq' xs' ys' m1 m2, Ca 9 [Pt p1, U x'] m (.tuple #[I r, I e]) m1 ∧ Ca 9 [Pt p2, U y'] m1 (.tuple #[I r, I e]) m2 ∧ Two b m2 p1 p2 size begin sq' xs' ys' ∧ Fm (b ≤ ·) m m2 ∧
      Alike size begin sq' xs' ys' x' y' p q ∧ Alike size begin sq' xs' ys' x' y' x' y' := by
  obtain ⟨F1, F2, r1, r2, d1, d2, b1, b2, hne⟩ := h.ex
  obtain ⟨r, e, sq', xs', ys', e1, e2, a1, a2⟩ := ha.push hx hy
  obtain ⟨m1, F1', k1, k2, k3, k4⟩ := push_spec (t := x') r1 ha.small1
  rw [e1] at k1 k2
  have r2' := r2.fr k3 (by rintro (h | h); exact hne h.symm; exact (d1 _ h).2.1 rfl) (fun i hi hh => hh.elim (d2 i hi).2 (fun h => (d1 i h).2.2 hi))
  obtain ⟨m2, F2', l1, l2, l3, l4⟩ := push_spec (t := y') r2' ha.small2
  rw [e2] at l1 l2
  have hn1 := k3.next
  have lt2 := r2.lt
  have lt1 := k2.lt
  have r1' := k2.fr l3 (by
      rintro (h | h)
      · exact hne h
      · exact (d2 _ h).2 rfl) (fun i hi hh => by
      rcases k4 i hi with h1 | h1
      · rcases hh with h | h
        · exact (d1 i h1).2.1 h
        · exact (d1 i h1).2.2 h
      · rcases hh with h | h
        · subst h; have := lt2.1; omega
        · have := lt2.2 i h; omega)
  refine ⟨r, e, sq', xs', ys', m1, m2, k1, l1, ⟨F1', F2', r1', l2, fun i hi => ?_, fun i hi => ?_, b1, b2, hne⟩, ?_, a1, a2⟩
  · refine ⟨?_, ?_, ?_⟩
    · rcases k4 i hi with h1 | h1
      · exact (d1 i h1).1
      · omega
    · rcases k4 i hi with h1 | h1
      · exact (d1 i h1).2.1
      · intro h; subst h; have := lt2.1; omega
    · intro h2
      rcases l4 i h2 with h3 | h3
      · rcases k4 i hi with h1 | h1
        · exact (d1 i h1).2.2 h3
        · have := lt2.2 i h3; omega
      · have := lt1.2 i hi; omega
  · refine ⟨?_, ?_⟩
    · rcases l4 i hi with h1 | h1
      · exact (d2 i h1).1
      · omega
    · rcases l4 i hi with h1 | h1
      · exact (d2 i h1).2
      · intro h; subst h; have := r1.lt.1; omega
  · refine (k3.mono (S' := (b ≤ ·)) fun i _ hi => ?_).comp (l3.mono (S' := (b ≤ ·)) fun i _ hi => ?_) (fun i _ h => h)
    · rcases hi with h | h
      · subst h; exact b1
      · exact (d1 i h).1
    · rcases hi with h | h
      · subst h; exact b2
      · exact (d2 i h).1

theorem ringHidden_run {m : Mem} {size seq at_ : Int} {l1 l2 : Value} {ns ms : List Int} (h1 : RdS m.next m 1 l1 (ns.map fun n => [.int .u8 n])) (h2 : RdS m.next m 1 l2 (ms.map fun n => [.int .u8 n]))
    (hn : ∀ n ∈ ns, 0 ≤ n ∧ n ≤ 255) (hm : ∀ n ∈ ms, 0 ≤ n ∧ n ≤ 255) : Wc 3 [I size, I seq, l1, l2, I at_] m fun r _ => r = .bool true := by
  refine call_go (F := _) rfl rfl fun Q hQ => ?_
  by_cases hbad : size < 1 ∨ 16 < size ∨ seq < 0 ∨ 1073741824 < seq
  · simp only [go_nil, go_inBlock, go_skip, go_seq, go_block, go_exit, go_ret, go_ops, go_opsr, go_cond, ex_nil, ex_code, ex_inLoop, ex_inBlock, goC_true, goC_false, goC_dec, goO_nil, goO_cons, goO_guard, goG_true, goG_false, goR_val, goR_skip, wantedX, X.put, X.look, look_hit, Arg.ev, keepOf, restrict, evs, evO, initEnv, xres, tup, xi_move, xi_pick, pick_bool, xi_bin, bin_add, bin_sub, bin_mul, bin_eql, bin_neq, bin_lss, bin_leq, bin_gtr, bin_geq, xi_load1, ld_ptr, xi_nilCheck, nilCheck_ptr, xi_fieldAddr, fieldAddr_ptr, xi_isNil, isNil_some, isNil_none, xi_extract, extract_tuple, xi_call, call_func, xi_len, len_slice, xi_un, un_not, xi_store, xi_box, box_int, box_ptr, box_slice, push_self, push_two, Mem.next_push, xi_calcB, calc_max, calc_min, goG_dec, goG_ndec, xi_indexAddr, indexAddr_at, xi_slice, xi_append, xi_clear, isNil_slice, xi_conv, xi_alloc, box_agg, box_string, box_bool, xi_buildSlice, xparts_nil, xparts_cons, xi_build, xi_field, field_one, xi_makeFunc, makeFunc_nil, xi_loadA, go_opsd, goD_nil, goD_cons, goDV0, goDV1, goDV2, goDV3, goDV3s, again_nil, again_cons, againE_val, veq_int, veq_slice, veq_ptr, veq_bool, veq_string, asNat_nat, asNat_zero, asNat_one, noTup, cls, quiet, Option.isNone_some, Option.isNone_none, Bool.and_true, Bool.and_self, Bool.true_and, Nat.add_zero, Nat.mul_one, Nat.mul_zero, Nat.zero_mul, List.length_map, Option.bind_some, Option.map_some, List.getElem?_cons_zero, List.getElem?_cons_succ, Nat.reduceAdd, Nat.reduceEqDiff, reduceIte, reduceCtorEq, goInt, bne_self_eq_false, Bool.false_bne, Bool.true_bne, Bool.not_true, Bool.not_false, decide_eq_true_eq, decide_eq_false_iff_not, Option.some.injEq, exists_eq_left', Nat.zero_add, beq_self_eq_true, cond_true, cond_false, eqb_t, eqb_f, Int.cast_ofNat_Int, eq_self, decide_true, decide_false, Int.reduceLT, Int.reduceLE, Int.reduceEq, Int.reduceNeg, Int.reduceAdd, Int.reduceSub, and_true, true_and, forall_const, Bool.true_eq_false, Bool.false_eq_true, false_implies, ne_eq, not_true_eq_false, not_false_eq_true, true_implies, Decidable.not_not, undef, List.size_toArray, List.length_nil, goR_call (awake_call _), goR_call (new_bad hbad)]
    exact hQ _ _ _ rfl rfl
  have a1 : ¬ size < 1 := fun h => hbad (.inl h)
  have a2 : ¬ 16 < size := fun h => hbad (.inr (.inl h))
  have a3 : ¬ seq < 0 := fun h => hbad (.inr (.inr (.inl h)))
  have a4 : ¬ 1073741824 < seq := fun h => hbad (.inr (.inr (.inr h)))
  obtain ⟨m1, n1, n2, n3⟩ := new_ok (m := m) a1 a2 a3 a4
  obtain ⟨m2, o1, o2, o3⟩ := new_ok (m := m1) a1 a2 a3 a4
  have hlt := n2.lt.1
  have hnn := n3.next
  have hs0 : Small size seq seq [] := ⟨by omega, by omega, by omega, by omega, by omega, by simp; omega, by simp⟩
  simp only [go_nil, go_inBlock, go_skip, go_seq, go_block, go_exit, go_ret, go_ops, go_opsr, go_cond, ex_nil, ex_code, ex_inLoop, ex_inBlock, goC_true, goC_false, goC_dec, goO_nil, goO_cons, goO_guard, goG_true, goG_false, goR_val, goR_skip, wantedX, X.put, X.look, look_hit, Arg.ev, keepOf, restrict, evs, evO, initEnv, xres, tup, xi_move, xi_pick, pick_bool, xi_bin, bin_add, bin_sub, bin_mul, bin_eql, bin_neq, bin_lss, bin_leq, bin_gtr, bin_geq, xi_load1, ld_ptr, xi_nilCheck, nilCheck_ptr, xi_fieldAddr, fieldAddr_ptr, xi_isNil, isNil_some, isNil_none, xi_extract, extract_tuple, xi_call, call_func, xi_len, len_slice, xi_un, un_not, xi_store, xi_box, box_int, box_ptr, box_slice, push_self, push_two, Mem.next_push, xi_calcB, calc_max, calc_min, goG_dec, goG_ndec, xi_indexAddr, indexAddr_at, xi_slice, xi_append, xi_clear, isNil_slice, xi_conv, xi_alloc, box_agg, box_string, box_bool, xi_buildSlice, xparts_nil, xparts_cons, xi_build, xi_field, field_one, xi_makeFunc, makeFunc_nil, xi_loadA, go_opsd, goD_nil, goD_cons, goDV0, goDV1, goDV2, goDV3, goDV3s, again_nil, again_cons, againE_val, veq_int, veq_slice, veq_ptr, veq_bool, veq_string, asNat_nat, asNat_zero, asNat_one, noTup, cls, quiet, Option.isNone_some, Option.isNone_none, Bool.and_true, Bool.and_self, Bool.true_and, Nat.add_zero, Nat.mul_one, Nat.mul_zero, Nat.zero_mul, List.length_map, Option.bind_some, Option.map_some, List.getElem?_cons_zero, List.getElem?_cons_succ, Nat.reduceAdd, Nat.reduceEqDiff, reduceIte, reduceCtorEq, goInt, bne_self_eq_false, Bool.false_bne, Bool.true_bne, Bool.not_true, Bool.not_false, decide_eq_true_eq, decide_eq_false_iff_not, Option.some.injEq, exists_eq_left', Nat.zero_add, beq_self_eq_true, cond_true, cond_false, eqb_t, eqb_f, Int.cast_ofNat_Int, eq_self, decide_true, decide_false, Int.reduceLT, Int.reduceLE, Int.reduceEq, Int.reduceNeg, Int.reduceAdd, Int.reduceSub, and_true, true_and, forall_const, Bool.true_eq_false, Bool.false_eq_true, false_implies, ne_eq, not_true_eq_false, not_false_eq_true, true_implies, Decidable.not_not, undef, List.size_toArray, List.length_nil, goR_call (awake_call _), goR_call n1, goR_call o1]
  obtain ⟨q1, c1, hv1⟩ := rdk_slice h1
  obtain ⟨q2, c2, hv2⟩ := rdk_slice h2
  have hT : Two m.next m2 m.next m1.next size seq seq [] [] := ⟨[], [], n2.fr o3 (fun h => h) (by simp), o2, by simp, by simp, Nat.le_refl _, hnn, by omega⟩
  have hA : Alike size seq seq [] [] 0 0 0 0 := ⟨hs0, hs0, .nil, .nil, by simp, by simp, by omega, by omega, by omega, by omega, rfl⟩
  have f2 : Fm (m.next ≤ ·) m m2 := (n3.mono fun _ _ h => h.elim).comp (o3.mono fun _ _ h => h.elim) fun _ _ h => h
  refine loop_go (fun j e m' => ∃ (i : Nat) (sq x y p q : Int) (xs ys : List Int), i ≤ 100 ∧ j = 100 - i ∧ m.next ≤ m'.next ∧ Two m.next m' m.next m1.next size seq sq xs ys ∧ Alike size seq sq xs ys x y p q ∧ x ≤ 256 * i ∧ y ≤ 256 * i ∧
    RdS m.next m' 1 l1 (ns.map fun n => [.int .u8 n]) ∧ RdS m.next m' 1 l2 (ms.map fun n => [.int .u8 n]) ∧
    e = [(2, l1), (3, l2), (4, I at_), (11, Pt m.next), (13, Pt m1.next), (15, U x), (16, U y), (17, U p), (18, U q), (19, I i)]) 100
    ⟨0, seq, 0, 0, 0, 0, [], [], by omega, rfl, f2.next, hT, hA, by omega, by omega, h1.fr f2 (Nat.le_refl _) (fun _ h => h), h2.fr f2 (Nat.le_refl _) (fun _ h => h), rfl⟩ ?_
  rintro j e m' N' B' hN hB ⟨i, sq, x, y, p, q, xs, ys, hi, rfl, hnx, hT, hA, hx, hy, hl1, hl2, rfl⟩
  subst hv1 hv2
  have hend : ∀ Q' : Post, (∀ e m, Q' e m ↔ Q e m) → True := fun _ _ => trivial
  obtain ⟨F1, F2, r1, r2, _⟩ := hT.ex
  have g1 := asof_spec (t := p) r1 hA.small1 hA.sort1
  have g2 := asof_spec (t := q) r2 hA.small2 hA.sort2
  rw [hA.asof] at g1
  have g3 := floor_spec r1 hA.small1
  have g4 := floor_spec r2 hA.small2
  by_cases i1 : i < ns.length
  · have i1' : (i : Int) < (ns.length : Int) := by omega
    by_cases i2 : i < ms.length
    · have i2' : (i : Int) < (ms.length : Int) := by omega
      by_cases i3 : i < 100
      · have i3' : (i : Int) < 100 := by omega
        obtain ⟨u, hu⟩ : ∃ u, ns[i]? = some u := ⟨_, List.getElem?_eq_getElem i1⟩
        obtain ⟨v, hv⟩ : ∃ v, ms[i]? = some v := ⟨_, List.getElem?_eq_getElem i2⟩
        have bu := hn u (List.mem_of_getElem? hu)
        have bv := hm v (List.mem_of_getElem? hv)
        obtain ⟨ad, c', o', hva, ha1, ha2⟩ := rdk_at hl1 hu
        cases hva
        obtain ⟨bd, c'', o'', hvb, hb1, hb2⟩ := rdk_at hl2 hv
        cases hvb
        have hx0 := hA.x0
        have hy0 := hA.y0
        have w1 : IntKind.i64.wrap ((i : Int) + 1) = ((i + 1 : Nat) : Int) := by rw [wrap_i64 (by omega) (by omega)]; omega
        have w2 : IntKind.u64.wrap u = u := wrap_u64 (by omega) (by omega)
        have w3 : IntKind.u64.wrap v = v := wrap_u64 (by omega) (by omega)
        have w4 : IntKind.u64.wrap (x + 1) = x + 1 := wrap_u64 (by omega) (by omega)
        have w5 : IntKind.u64.wrap (y + 1) = y + 1 := wrap_u64 (by omega) (by omega)
        have w6 : IntKind.u64.wrap (x + 1 + u) = x + 1 + u := wrap_u64 (by omega) (by omega)
        have w7 : IntKind.u64.wrap (y + 1 + v) = y + 1 + v := wrap_u64 (by omega) (by omega)
        obtain ⟨r, er, sq', xs', ys', m3, m4, k1, k2, k3, k4, k5, k6⟩ := hT.push hA (x' := x + 1 + u) (y' := y + 1 + v) (by omega) (by omega) hnx
        have hnx' := k4.next
        have hl1' := hl1.fr k4 hnx (fun _ h => h)
        have hl2' := hl2.fr k4 hnx (fun _ h => h)
        by_cases hat : (i : Int) = at_
        · replace hat : decide ((i : Int) = at_) = true := by simp [hat]
          simp only [go_nil, go_inBlock, go_skip, go_seq, go_block, go_exit, go_ret, go_ops, go_opsr, go_cond, ex_nil, ex_code, ex_inLoop, ex_inBlock, goC_true, goC_false, goC_dec, goO_nil, goO_cons, goO_guard, goG_true, goG_false, goR_val, goR_skip, wantedX, X.put, X.look, look_hit, Arg.ev, keepOf, restrict, evs, evO, initEnv, xres, tup, xi_move, xi_pick, pick_bool, xi_bin, bin_add, bin_sub, bin_mul, bin_eql, bin_neq, bin_lss, bin_leq, bin_gtr, bin_geq, xi_load1, ld_ptr, xi_nilCheck, nilCheck_ptr, xi_fieldAddr, fieldAddr_ptr, xi_isNil, isNil_some, isNil_none, xi_extract, extract_tuple, xi_call, call_func, xi_len, len_slice, xi_un, un_not, xi_store, xi_box, box_int, box_ptr, box_slice, push_self, push_two, Mem.next_push, xi_calcB, calc_max, calc_min, goG_dec, goG_ndec, xi_indexAddr, indexAddr_at, xi_slice, xi_append, xi_clear, isNil_slice, xi_conv, xi_alloc, box_agg, box_string, box_bool, xi_buildSlice, xparts_nil, xparts_cons, xi_build, xi_field, field_one, xi_makeFunc, makeFunc_nil, xi_loadA, go_opsd, goD_nil, goD_cons, goDV0, goDV1, goDV2, goDV3, goDV3s, again_nil, again_cons, againE_val, veq_int, veq_slice, veq_ptr, veq_bool, veq_string, asNat_nat, asNat_zero, asNat_one, noTup, cls, quiet, Option.isNone_some, Option.isNone_none, Bool.and_true, Bool.and_self, Bool.true_and, Nat.add_zero, Nat.mul_one, Nat.mul_zero, Nat.zero_mul, List.length_map, Option.bind_some, Option.map_some, List.getElem?_cons_zero, List.getElem?_cons_succ, Nat.reduceAdd, Nat.reduceEqDiff, reduceIte, reduceCtorEq, goInt, bne_self_eq_false, Bool.false_bne, Bool.true_bne, Bool.not_true, Bool.not_false, decide_eq_true_eq, decide_eq_false_iff_not, Option.some.injEq, exists_eq_left', Nat.zero_add, beq_self_eq_true, cond_true, cond_false, eqb_t, eqb_f, Int.cast_ofNat_Int, eq_self, decide_true, decide_false, Int.reduceLT, Int.reduceLE, Int.reduceEq, Int.reduceNeg, Int.reduceAdd, Int.reduceSub, and_true, true_and, forall_const, Bool.true_eq_false, Bool.false_eq_true, false_implies, ne_eq, not_true_eq_false, not_false_eq_true, true_implies, Decidable.not_not, undef, List.size_toArray, List.length_nil, i1, i1', i2, i2', i3', ha1, ha2, hb1, hb2, conv_8u, w1, w2, w3, w4, w5, w6, w7, goR_call k1, goR_call k2, hat]
          exact hN _ _ (100 - (i + 1)) (by omega) ⟨i + 1, sq', _, _, _, _, xs', ys', by omega, rfl, by omega, k3, k6, by omega, by omega, hl1', hl2', rfl⟩
        · simp only [go_nil, go_inBlock, go_skip, go_seq, go_block, go_exit, go_ret, go_ops, go_opsr, go_cond, ex_nil, ex_code, ex_inLoop, ex_inBlock, goC_true, goC_false, goC_dec, goO_nil, goO_cons, goO_guard, goG_true, goG_false, goR_val, goR_skip, wantedX, X.put, X.look, look_hit, Arg.ev, keepOf, restrict, evs, evO, initEnv, xres, tup, xi_move, xi_pick, pick_bool, xi_bin, bin_add, bin_sub, bin_mul, bin_eql, bin_neq, bin_lss, bin_leq, bin_gtr, bin_geq, xi_load1, ld_ptr, xi_nilCheck, nilCheck_ptr, xi_fieldAddr, fieldAddr_ptr, xi_isNil, isNil_some, isNil_none, xi_extract, extract_tuple, xi_call, call_func, xi_len, len_slice, xi_un, un_not, xi_store, xi_box, box_int, box_ptr, box_slice, push_self, push_two, Mem.next_push, xi_calcB, calc_max, calc_min, goG_dec, goG_ndec, xi_indexAddr, indexAddr_at, xi_slice, xi_append, xi_clear, isNil_slice, xi_conv, xi_alloc, box_agg, box_string, box_bool, xi_buildSlice, xparts_nil, xparts_cons, xi_build, xi_field, field_one, xi_makeFunc, makeFunc_nil, xi_loadA, go_opsd, goD_nil, goD_cons, goDV0, goDV1, goDV2, goDV3, goDV3s, again_nil, again_cons, againE_val, veq_int, veq_slice, veq_ptr, veq_bool, veq_string, asNat_nat, asNat_zero, asNat_one, noTup, cls, quiet, Option.isNone_some, Option.isNone_none, Bool.and_true, Bool.and_self, Bool.true_and, Nat.add_zero, Nat.mul_one, Nat.mul_zero, Nat.zero_mul, List.length_map, Option.bind_some, Option.map_some, List.getElem?_cons_zero, List.getElem?_cons_succ, Nat.reduceAdd, Nat.reduceEqDiff, reduceIte, reduceCtorEq, goInt, bne_self_eq_false, Bool.false_bne, Bool.true_bne, Bool.not_true, Bool.not_false, decide_eq_true_eq, decide_eq_false_iff_not, Option.some.injEq, exists_eq_left', Nat.zero_add, beq_self_eq_true, cond_true, cond_false, eqb_t, eqb_f, Int.cast_ofNat_Int, eq_self, decide_true, decide_false, Int.reduceLT, Int.reduceLE, Int.reduceEq, Int.reduceNeg, Int.reduceAdd, Int.reduceSub, and_true, true_and, forall_const, Bool.true_eq_false, Bool.false_eq_true, false_implies, ne_eq, not_true_eq_false, not_false_eq_true, true_implies, Decidable.not_not, undef, List.size_toArray, List.length_nil, i1, i1', i2, i2', i3', ha1, ha2, hb1, hb2, conv_8u, w1, w2, w3, w4, w5, w6, w7, goR_call k1, goR_call k2, hat]
          exact hN _ _ (100 - (i + 1)) (by omega) ⟨i + 1, sq', _, _, _, _, xs', ys', by omega, rfl, by omega, k3, k5, by omega, by omega, hl1', hl2', rfl⟩
      · have i3' : ¬ (i : Int) < 100 := by omega
        simp only [go_nil, go_inBlock, go_skip, go_seq, go_block, go_exit, go_ret, go_ops, go_opsr, go_cond, ex_nil, ex_code, ex_inLoop, ex_inBlock, goC_true, goC_false, goC_dec, goO_nil, goO_cons, goO_guard, goG_true, goG_false, goR_val, goR_skip, wantedX, X.put, X.look, look_hit, Arg.ev, keepOf, restrict, evs, evO, initEnv, xres, tup, xi_move, xi_pick, pick_bool, xi_bin, bin_add, bin_sub, bin_mul, bin_eql, bin_neq, bin_lss, bin_leq, bin_gtr, bin_geq, xi_load1, ld_ptr, xi_nilCheck, nilCheck_ptr, xi_fieldAddr, fieldAddr_ptr, xi_isNil, isNil_some, isNil_none, xi_extract, extract_tuple, xi_call, call_func, xi_len, len_slice, xi_un, un_not, xi_store, xi_box, box_int, box_ptr, box_slice, push_self, push_two, Mem.next_push, xi_calcB, calc_max, calc_min, goG_dec, goG_ndec, xi_indexAddr, indexAddr_at, xi_slice, xi_append, xi_clear, isNil_slice, xi_conv, xi_alloc, box_agg, box_string, box_bool, xi_buildSlice, xparts_nil, xparts_cons, xi_build, xi_field, field_one, xi_makeFunc, makeFunc_nil, xi_loadA, go_opsd, goD_nil, goD_cons, goDV0, goDV1, goDV2, goDV3, goDV3s, again_nil, again_cons, againE_val, veq_int, veq_slice, veq_ptr, veq_bool, veq_string, asNat_nat, asNat_zero, asNat_one, noTup, cls, quiet, Option.isNone_some, Option.isNone_none, Bool.and_true, Bool.and_self, Bool.true_and, Nat.add_zero, Nat.mul_one, Nat.mul_zero, Nat.zero_mul, List.length_map, Option.bind_some, Option.map_some, List.getElem?_cons_zero, List.getElem?_cons_succ, Nat.reduceAdd, Nat.reduceEqDiff, reduceIte, reduceCtorEq, goInt, bne_self_eq_false, Bool.false_bne, Bool.true_bne, Bool.not_true, Bool.not_false, decide_eq_true_eq, decide_eq_false_iff_not, Option.some.injEq, exists_eq_left', Nat.zero_add, beq_self_eq_true, cond_true, cond_false, eqb_t, eqb_f, Int.cast_ofNat_Int, eq_self, decide_true, decide_false, Int.reduceLT, Int.reduceLE, Int.reduceEq, Int.reduceNeg, Int.reduceAdd, Int.reduceSub, and_true, true_and, forall_const, Bool.true_eq_false, Bool.false_eq_true, false_implies, ne_eq, not_true_eq_false, not_false_eq_true, true_implies, Decidable.not_not, undef, List.size_toArray, List.length_nil, i1', i2', i3']
        refine hB _ _ _ ?_
        simp only [go_nil, go_inBlock, go_skip, go_seq, go_block, go_exit, go_ret, go_ops, go_opsr, go_cond, ex_nil, ex_code, ex_inLoop, ex_inBlock, goC_true, goC_false, goC_dec, goO_nil, goO_cons, goO_guard, goG_true, goG_false, goR_val, goR_skip, wantedX, X.put, X.look, look_hit, Arg.ev, keepOf, restrict, evs, evO, initEnv, xres, tup, xi_move, xi_pick, pick_bool, xi_bin, bin_add, bin_sub, bin_mul, bin_eql, bin_neq, bin_lss, bin_leq, bin_gtr, bin_geq, xi_load1, ld_ptr, xi_nilCheck, nilCheck_ptr, xi_fieldAddr, fieldAddr_ptr, xi_isNil, isNil_some, isNil_none, xi_extract, extract_tuple, xi_call, call_func, xi_len, len_slice, xi_un, un_not, xi_store, xi_box, box_int, box_ptr, box_slice, push_self, push_two, Mem.next_push, xi_calcB, calc_max, calc_min, goG_dec, goG_ndec, xi_indexAddr, indexAddr_at, xi_slice, xi_append, xi_clear, isNil_slice, xi_conv, xi_alloc, box_agg, box_string, box_bool, xi_buildSlice, xparts_nil, xparts_cons, xi_build, xi_field, field_one, xi_makeFunc, makeFunc_nil, xi_loadA, go_opsd, goD_nil, goD_cons, goDV0, goDV1, goDV2, goDV3, goDV3s, again_nil, again_cons, againE_val, veq_int, veq_slice, veq_ptr, veq_bool, veq_string, asNat_nat, asNat_zero, asNat_one, noTup, cls, quiet, Option.isNone_some, Option.isNone_none, Bool.and_true, Bool.and_self, Bool.true_and, Nat.add_zero, Nat.mul_one, Nat.mul_zero, Nat.zero_mul, List.length_map, Option.bind_some, Option.map_some, List.getElem?_cons_zero, List.getElem?_cons_succ, Nat.reduceAdd, Nat.reduceEqDiff, reduceIte, reduceCtorEq, goInt, bne_self_eq_false, Bool.false_bne, Bool.true_bne, Bool.not_true, Bool.not_false, decide_eq_true_eq, decide_eq_false_iff_not, Option.some.injEq, exists_eq_left', Nat.zero_add, beq_self_eq_true, cond_true, cond_false, eqb_t, eqb_f, Int.cast_ofNat_Int, eq_self, decide_true, decide_false, Int.reduceLT, Int.reduceLE, Int.reduceEq, Int.reduceNeg, Int.reduceAdd, Int.reduceSub, and_true, true_and, forall_const, Bool.true_eq_false, Bool.false_eq_true, false_implies, ne_eq, not_true_eq_false, not_false_eq_true, true_implies, Decidable.not_not, undef, List.size_toArray, List.length_nil, goR_call g1, goR_call g2, goR_call g3, goR_call g4]
        exact hQ _ _ _ rfl rfl
    · have i2' : ¬ (i : Int) < (ms.length : Int) := by omega
      simp only [go_nil, go_inBlock, go_skip, go_seq, go_block, go_exit, go_ret, go_ops, go_opsr, go_cond, ex_nil, ex_code, ex_inLoop, ex_inBlock, goC_true, goC_false, goC_dec, goO_nil, goO_cons, goO_guard, goG_true, goG_false, goR_val, goR_skip, wantedX, X.put, X.look, look_hit, Arg.ev, keepOf, restrict, evs, evO, initEnv, xres, tup, xi_move, xi_pick, pick_bool, xi_bin, bin_add, bin_sub, bin_mul, bin_eql, bin_neq, bin_lss, bin_leq, bin_gtr, bin_geq, xi_load1, ld_ptr, xi_nilCheck, nilCheck_ptr, xi_fieldAddr, fieldAddr_ptr, xi_isNil, isNil_some, isNil_none, xi_extract, extract_tuple, xi_call, call_func, xi_len, len_slice, xi_un, un_not, xi_store, xi_box, box_int, box_ptr, box_slice, push_self, push_two, Mem.next_push, xi_calcB, calc_max, calc_min, goG_dec, goG_ndec, xi_indexAddr, indexAddr_at, xi_slice, xi_append, xi_clear, isNil_slice, xi_conv, xi_alloc, box_agg, box_string, box_bool, xi_buildSlice, xparts_nil, xparts_cons, xi_build, xi_field, field_one, xi_makeFunc, makeFunc_nil, xi_loadA, go_opsd, goD_nil, goD_cons, goDV0, goDV1, goDV2, goDV3, goDV3s, again_nil, again_cons, againE_val, veq_int, veq_slice, veq_ptr, veq_bool, veq_string, asNat_nat, asNat_zero, asNat_one, noTup, cls, quiet, Option.isNone_some, Option.isNone_none, Bool.and_true, Bool.and_self, Bool.true_and, Nat.add_zero, Nat.mul_one, Nat.mul_zero, Nat.zero_mul, List.length_map, Option.bind_some, Option.map_some, List.getElem?_cons_zero, List.getElem?_cons_succ, Nat.reduceAdd, Nat.reduceEqDiff, reduceIte, reduceCtorEq, goInt, bne_self_eq_false, Bool.false_bne, Bool.true_bne, Bool.not_true, Bool.not_false, decide_eq_true_eq, decide_eq_false_iff_not, Option.some.injEq, exists_eq_left', Nat.zero_add, beq_self_eq_true, cond_true, cond_false, eqb_t, eqb_f, Int.cast_ofNat_Int, eq_self, decide_true, decide_false, Int.reduceLT, Int.reduceLE, Int.reduceEq, Int.reduceNeg, Int.reduceAdd, Int.reduceSub, and_true, true_and, forall_const, Bool.true_eq_false, Bool.false_eq_true, false_implies, ne_eq, not_true_eq_false, not_false_eq_true, true_implies, Decidable.not_not, undef, List.size_toArray, List.length_nil, i1', i2']
      refine hB _ _ _ ?_
      simp only [go_nil, go_inBlock, go_skip, go_seq, go_block, go_exit, go_ret, go_ops, go_opsr, go_cond, ex_nil, ex_code, ex_inLoop, ex_inBlock, goC_true, goC_false, goC_dec, goO_nil, goO_cons, goO_guard, goG_true, goG_false, goR_val, goR_skip, wantedX, X.put, X.look, look_hit, Arg.ev, keepOf, restrict, evs, evO, initEnv, xres, tup, xi_move, xi_pick, pick_bool, xi_bin, bin_add, bin_sub, bin_mul, bin_eql, bin_neq, bin_lss, bin_leq, bin_gtr, bin_geq, xi_load1, ld_ptr, xi_nilCheck, nilCheck_ptr, xi_fieldAddr, fieldAddr_ptr, xi_isNil, isNil_some, isNil_none, xi_extract, extract_tuple, xi_call, call_func, xi_len, len_slice, xi_un, un_not, xi_store, xi_box, box_int, box_ptr, box_slice, push_self, push_two, Mem.next_push, xi_calcB, calc_max, calc_min, goG_dec, goG_ndec, xi_indexAddr, indexAddr_at, xi_slice, xi_append, xi_clear, isNil_slice, xi_conv, xi_alloc, box_agg, box_string, box_bool, xi_buildSlice, xparts_nil, xparts_cons, xi_build, xi_field, field_one, xi_makeFunc, makeFunc_nil, xi_loadA, go_opsd, goD_nil, goD_cons, goDV0, goDV1, goDV2, goDV3, goDV3s, again_nil, again_cons, againE_val, veq_int, veq_slice, veq_ptr, veq_bool, veq_string, asNat_nat, asNat_zero, asNat_one, noTup, cls, quiet, Option.isNone_some, Option.isNone_none, Bool.and_true, Bool.and_self, Bool.true_and, Nat.add_zero, Nat.mul_one, Nat.mul_zero, Nat.zero_mul, List.length_map, Option.bind_some, Option.map_some, List.getElem?_cons_zero, List.getElem?_cons_succ, Nat.reduceAdd, Nat.reduceEqDiff, reduceIte, reduceCtorEq, goInt, bne_self_eq_false, Bool.false_bne, Bool.true_bne, Bool.not_true, Bool.not_false, decide_eq_true_eq, decide_eq_false_iff_not, Option.some.injEq, exists_eq_left', Nat.zero_add, beq_self_eq_true, cond_true, cond_false, eqb_t, eqb_f, Int.cast_ofNat_Int, eq_self, decide_true, decide_false, Int.reduceLT, Int.reduceLE, Int.reduceEq, Int.reduceNeg, Int.reduceAdd, Int.reduceSub, and_true, true_and, forall_const, Bool.true_eq_false, Bool.false_eq_true, false_implies, ne_eq, not_true_eq_false, not_false_eq_true, true_implies, Decidable.not_not, undef, List.size_toArray, List.length_nil, goR_call g1, goR_call g2, goR_call g3, goR_call g4]
      exact hQ _ _ _ rfl rfl
  · have i1' : ¬ (i : Int) < (ns.length : Int) := by omega
    simp only [go_nil, go_inBlock, go_skip, go_seq, go_block, go_exit, go_ret, go_ops, go_opsr, go_cond, ex_nil, ex_code, ex_inLoop, ex_inBlock, goC_true, goC_false, goC_dec, goO_nil, goO_cons, goO_guard, goG_true, goG_false, goR_val, goR_skip, wantedX, X.put, X.look, look_hit, Arg.ev, keepOf, restrict, evs, evO, initEnv, xres, tup, xi_move, xi_pick, pick_bool, xi_bin, bin_add, bin_sub, bin_mul, bin_eql, bin_neq, bin_lss, bin_leq, bin_gtr, bin_geq, xi_load1, ld_ptr, xi_nilCheck, nilCheck_ptr, xi_fieldAddr, fieldAddr_ptr, xi_isNil, isNil_some, isNil_none, xi_extract, extract_tuple, xi_call, call_func, xi_len, len_slice, xi_un, un_not, xi_store, xi_box, box_int, box_ptr, box_slice, push_self, push_two, Mem.next_push, xi_calcB, calc_max, calc_min, goG_dec, goG_ndec, xi_indexAddr, indexAddr_at, xi_slice, xi_append, xi_clear, isNil_slice, xi_conv, xi_alloc, box_agg, box_string, box_bool, xi_buildSlice, xparts_nil, xparts_cons, xi_build, xi_field, field_one, xi_makeFunc, makeFunc_nil, xi_loadA, go_opsd, goD_nil, goD_cons, goDV0, goDV1, goDV2, goDV3, goDV3s, again_nil, again_cons, againE_val, veq_int, veq_slice, veq_ptr, veq_bool, veq_string, asNat_nat, asNat_zero, asNat_one, noTup, cls, quiet, Option.isNone_some, Option.isNone_none, Bool.and_true, Bool.and_self, Bool.true_and, Nat.add_zero, Nat.mul_one, Nat.mul_zero, Nat.zero_mul, List.length_map, Option.bind_some, Option.map_some, List.getElem?_cons_zero, List.getElem?_cons_succ, Nat.reduceAdd, Nat.reduceEqDiff, reduceIte, reduceCtorEq, goInt, bne_self_eq_false, Bool.false_bne, Bool.true_bne, Bool.not_true, Bool.not_false, decide_eq_true_eq, decide_eq_false_iff_not, Option.some.injEq, exists_eq_left', Nat.zero_add, beq_self_eq_true, cond_true, cond_false, eqb_t, eqb_f, Int.cast_ofNat_Int, eq_self, decide_true, decide_false, Int.reduceLT, Int.reduceLE, Int.reduceEq, Int.reduceNeg, Int.reduceAdd, Int.reduceSub, and_true, true_and, forall_const, Bool.true_eq_false, Bool.false_eq_true, false_implies, ne_eq, not_true_eq_false, not_false_eq_true, true_implies, Decidable.not_not, undef, List.size_toArray, List.length_nil, i1']
    refine hB _ _ _ ?_
    simp only [go_nil, go_inBlock, go_skip, go_seq, go_block, go_exit, go_ret, go_ops, go_opsr, go_cond, ex_nil, ex_code, ex_inLoop, ex_inBlock, goC_true, goC_false, goC_dec, goO_nil, goO_cons, goO_guard, goG_true, goG_false, goR_val, goR_skip, wantedX, X.put, X.look, look_hit, Arg.ev, keepOf, restrict, evs, evO, initEnv, xres, tup, xi_move, xi_pick, pick_bool, xi_bin, bin_add, bin_sub, bin_mul, bin_eql, bin_neq, bin_lss, bin_leq, bin_gtr, bin_geq, xi_load1, ld_ptr, xi_nilCheck, nilCheck_ptr, xi_fieldAddr, fieldAddr_ptr, xi_isNil, isNil_some, isNil_none, xi_extract, extract_tuple, xi_call, call_func, xi_len, len_slice, xi_un, un_not, xi_store, xi_box, box_int, box_ptr, box_slice, push_self, push_two, Mem.next_push, xi_calcB, calc_max, calc_min, goG_dec, goG_ndec, xi_indexAddr, indexAddr_at, xi_slice, xi_append, xi_clear, isNil_slice, xi_conv, xi_alloc, box_agg, box_string, box_bool, xi_buildSlice, xparts_nil, xparts_cons, xi_build, xi_field, field_one, xi_makeFunc, makeFunc_nil, xi_loadA, go_opsd, goD_nil, goD_cons, goDV0, goDV1, goDV2, goDV3, goDV3s, again_nil, again_cons, againE_val, veq_int, veq_slice, veq_ptr, veq_bool, veq_string, asNat_nat, asNat_zero, asNat_one, noTup, cls, quiet, Option.isNone_some, Option.isNone_none, Bool.and_true, Bool.and_self, Bool.true_and, Nat.add_zero, Nat.mul_one, Nat.mul_zero, Nat.zero_mul, List.length_map, Option.bind_some, Option.map_some, List.getElem?_cons_zero, List.getElem?_cons_succ, Nat.reduceAdd, Nat.reduceEqDiff, reduceIte, reduceCtorEq, goInt, bne_self_eq_false, Bool.false_bne, Bool.true_bne, Bool.not_true, Bool.not_false, decide_eq_true_eq, decide_eq_false_iff_not, Option.some.injEq, exists_eq_left', Nat.zero_add, beq_self_eq_true, cond_true, cond_false, eqb_t, eqb_f, Int.cast_ofNat_Int, eq_self, decide_true, decide_false, Int.reduceLT, Int.reduceLE, Int.reduceEq, Int.reduceNeg, Int.reduceAdd, Int.reduceSub, and_true, true_and, forall_const, Bool.true_eq_false, Bool.false_eq_true, false_implies, ne_eq, not_true_eq_false, not_false_eq_true, true_implies, Decidable.not_not, undef, List.size_toArray, List.length_nil, goR_call g1, goR_call g2, goR_call g3, goR_call g4]
    exact hQ _ _ _ rfl rfl
theorem ringHidden_args {H : Type} (ds : List (DataW H)) (h : wfEach Try.prog ds Try.f3.params.toList) : ∃ (size seq at_ : Int) (d e : DataW H), ds = [.lit (.int .i64 size), .lit (.int .i64 seq), d, e, .lit (.int .i64 at_)] ∧ wfD Try.prog d 22 ∧ wfD Try.prog e 22 := by
  rw [Try.params3] at h
  obtain ⟨d0, r, rfl, h0, h⟩ := wf_more h
  obtain ⟨d1, r, rfl, h1, h⟩ := wf_more h
  obtain ⟨d2, r, rfl, h2, h⟩ := wf_more h
  obtain ⟨d3, r, rfl, h3, h⟩ := wf_more h
  obtain ⟨d4, rfl, h4⟩ := wf_one h
  obtain ⟨n0, rfl, _⟩ := wf_int Try.underlying3 h0
  obtain ⟨n1, rfl, _⟩ := wf_int Try.underlying3 h1
  obtain ⟨n4, rfl, _⟩ := wf_int Try.underlying3 h4
  exact ⟨n0, n1, n4, d2, d3, rfl, h2, h3⟩

theorem ringHidden_lifted (os : Os) (started : os.Started) (H : Type) (enc : TypeId × Value → H) :
    ReturnsInHanded {} Try.checked os 3 .any (Rows.ringHiddenSpec.pre6 enc Try.prog Try.f3 Rows.ringHiddenRow.domain false) (Rows.ringHiddenSpec.post enc Try.prog Try.f3 false true false false) := by
  refine returnsInHanded_of_change (C := Try.checked) own started (by kernel_rfl) Try.func3
    (ChangeSpec.witness6 (enc := enc) (C := Try.checked) false ⟨#[], #[.int .i64 0, .int .i64 0, .slice none 0 0, .slice none 0 0, .int .i64 0], []⟩ 8 (by kernel_rfl) (by kernel_rfl) (by kernel_rfl) (by kernel_rfl)) ?_
  intro W base args ds gs before hval0 hW hcnd _
  refine law_contract mixed tabK_is (f := 3) rfl (k := 10) (by rw [← List.all_eq_true]; kernel_rfl) (fun t ht => ?_) laid rfl (by kernel_rfl) rfl ?_ ?_ H enc W base args ds gs before hval0 hW
  · have : (Try.f3.params.toList.all fun t => Try.prog.readableRec t && decide (t < Try.prog.types.size)) = true := by kernel_rfl
    have := List.all_eq_true.1 this t ht
    simp only [Bool.and_eq_true, decide_eq_true_eq] at this
    exact this
  · intro H ds hd
    obtain ⟨_, _, _, _, _, rfl, _⟩ := ringHidden_args ds hd
    rfl
  · intro H ds hd
    obtain ⟨size, seq, at_, d, e, rfl, hd2, hd3⟩ := ringHidden_args ds hd
    obtain ⟨ns, v, g1, g2, _, g3, g4⟩ := abs_slice_ints (m := Mem.empty) Try.underlying22 Try.underlying5 hd2
    obtain ⟨ms, v', k1, k2, _, k3, k4⟩ := abs_slice_ints (m := (absD Try.prog d 22 Mem.empty).2) Try.underlying22 Try.underlying5 hd3
    have ha : absArgs Try.prog [(.lit (.int .i64 size) : DataW H), .lit (.int .i64 seq), d, e, .lit (.int .i64 at_)] Try.f3.params.toList Mem.empty
        = ([I size, I seq, argVal Try.prog 22 (absD Try.prog d 22 Mem.empty).1, argVal Try.prog 22 (absD Try.prog e 22 (absD Try.prog d 22 Mem.empty).2).1, I at_], (absD Try.prog e 22 (absD Try.prog d 22 Mem.empty).2).2) := by kernel_rfl
    have hv : argVal Try.prog 22 (absD Try.prog d 22 Mem.empty).1 = v := by rw [g1]; kernel_rfl
    have hv' : argVal Try.prog 22 (absD Try.prog e 22 (absD Try.prog d 22 Mem.empty).2).1 = v' := by rw [k1]; kernel_rfl
    rw [ha, hv, hv']
    have g5 := (g4.fr k3 (Nat.le_refl _) (fun _ h => h.elim)).mono k3.next
    obtain ⟨v, m', ⟨n, hn⟩, rfl⟩ := ringHidden_run (size := size) (seq := seq) (at_ := at_) g5 k4 (fun n h => g2 n h) (fun n h => k2 n h)
    exact ⟨n, m', hn⟩

theorem ringHidden_holds : Rows.RingHiddenSaid :=
  OpenClaim.holds_of_wide 3 Try.f3 rfl rfl rfl rfl rfl rfl rfl ⟨rfl, rfl, rfl, rfl, rfl⟩ rfl rfl rfl rfl rfl (by kernel_rfl) Try.func3 (by kernel_rfl)
    (of_decide_eq_true (by kernel_rfl)) (by unfold Func.isWrapper; first | (rw [if_pos (by decide +kernel)]; kernel_rfl) | (rw [if_neg (by decide +kernel)]; exact ⟨rfl, rfl⟩))
    (fun os started H enc _ => ringHidden_lifted os started H enc)

end Go.Proofs.Ytbcoijgoipnelaa
