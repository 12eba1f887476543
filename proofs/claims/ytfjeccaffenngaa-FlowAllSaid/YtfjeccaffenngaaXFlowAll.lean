/-
  Own work. PROVED HERE: FlowAll: whatever people, deeds, rooms and tag, the law returns true (between which rooms what is known may go, and where it leaks). No condition.
-/
import Derived.Test.YtfjeccaffenngaaHA
import Derived.Test.YtfjeccaffenngaaRows
import Derived.ProofKit
namespace Go.Proofs.Ytfjeccaffenngaa
open Go Go.ChangeShapes Go.WideShapes Go.ChangeAt Go.RowKit X
set_option maxRecDepth 100000
set_option linter.unusedVariables false
set_option linter.unusedSimpArgs false

structure RdRT (b : Nat) (m : Mem) (v : Value) (rooms : List (List Int)) : Prop where
  rd : RdRooms b m v rooms
  len : rooms.length ≤ 9223372036854775807
  ok : ∀ us ∈ rooms, us.length ≤ 9223372036854775807 ∧ ∀ x ∈ us, 0 ≤ x
section
variable {H : Type} {m m' : Mem} {v : Value}
theorem roomsT_last {rooms : List (List Int)} (h : RdRT m.next m v rooms) (f : Nx m m') : RdRT m'.next m' v rooms := ⟨rooms_last h.rd f, h.len, h.ok⟩
def RepT (b : Nat) (m : Mem) (r : List Value) (ns : List Int) : Prop := ∃ x, r = [x] ∧ RdT b m x ns
theorem abs_roomsT {d : DataW H} (h : wfD Try.prog d 41) :
    ∃ (rooms : List (List Int)) (v : Value), (absD Try.prog d 41 m).1 = [v] ∧ Nx m (absD Try.prog d 41 m).2 ∧ RdRT (absD Try.prog d 41 m).2.next (absD Try.prog d 41 m).2 v rooms := by
  obtain ⟨xs, v, h1, h2, h3, h4, h5⟩ := abs_slice_rep (m := m) (size := 1) (Rep := RepT)
    (fun b b' m m' r x h hb f hbb => by obtain ⟨y, rfl, h⟩ := h; exact ⟨y, rfl, rd_up (h.rd.fr f hb (fun _ h => h.elim)) hbb, h.len, h.nn⟩)
    (fun d m hd => by
      obtain ⟨ns, v, h1, h2, h3⟩ := abs_tagsT (m := m) hd
      exact ⟨ns, ⟨v, h1, h3⟩, by rw [h1]; rfl, h2⟩) Try.underlying41 h
  refine ⟨xs, v, h1, h3, ?_⟩
  obtain ⟨rows, k1, k2, k3⟩ := h4
  have k4 : ∃ vals : List Value, rows = vals.map fun x => [x] := by
    refine ⟨rows.map fun r => r.headD .nilFunc, ?_⟩
    rw [List.map_map]
    apply List.ext_getElem?
    intro i
    rw [List.getElem?_map]
    cases hi : rows[i]? with
    | none => rfl
    | some r =>
      have hlt := (List.getElem?_eq_some_iff.1 hi).1
      obtain ⟨r', q1, y, rfl, q2⟩ := k3 i _ (List.getElem?_eq_getElem (by omega))
      rw [hi] at q1
      cases q1
      rfl
  obtain ⟨vals, rfl⟩ := k4
  refine ⟨⟨vals, by simpa using k1, k2, fun i ns hi => ?_⟩, h2, fun us hus => ?_⟩
  · obtain ⟨r, q1, y, rfl, q2⟩ := k3 i ns hi
    rw [List.getElem?_map] at q1
    cases hv : vals[i]? with
    | none => rw [hv] at q1; cases q1
    | some z =>
      rw [hv] at q1
      simp only [Option.map_some, Option.some.injEq, List.cons.injEq, and_true] at q1
      exact ⟨z, rfl, q1 ▸ q2.rd⟩
  · obtain ⟨i, hi⟩ := List.mem_iff_getElem?.1 hus
    obtain ⟨r, q1, y, rfl, q2⟩ := k3 i us hi
    exact ⟨q2.len, q2.nn⟩
end

section
variable {b t r : Nat} {m : Mem} {v : Value} {T : Tb} {rooms : List (List Int)}
theorem flows_long (h : TabAt m t r T) (hv : RdRooms b m v rooms) (hl : 8 < rooms.length) : Ca 18 [Pt t, v] m (.tuple #[.slice none 0 0, I 1]) m := by
  refine callX_of (call_go (F := _) rfl rfl fun Q hQ => ?_)
  obtain ⟨p, c, rfl⟩ := hv.slice
  have h8 : (8 : Int) < (rooms.length : Int) := by omega
  simp only [symA, go_opsd, symB, wantedX, X.put, X.look, Arg.ev, keepOf, restrict, evs, evO, initEnv, xres, tup, noTup, cls, quiet, Nat.reduceAdd, Nat.reduceEqDiff, ↓reduceIte, reduceCtorEq, goInt, exists_eq_left', eq_self, Int.reduceLT, Int.reduceLE, Int.reduceEq, Int.reduceNeg, Int.reduceAdd, Int.reduceSub, forall_const, ne_eq, undef, Nat.reducePow, Nat.reduceDiv, Nat.reduceMod, h8]
  exact hQ _ _ _ rfl ⟨rfl, rfl⟩
theorem MatAt.at2 {F : List Nat} {ov : Value} {n i lo : Nat} {rids : List Nat} {W : Nat → Nat → Bool} (h : MatAt m F ov n i lo rids W) {j : Nat} (hj : j < i) : ∃ oid o cap id, ov = .slice (some ⟨oid, 0, some 0⟩) i cap ∧ m.get oid = some o ∧ o.cells[j]? = some (RowV n id) ∧ m.get id = some (rowB n (W j)) ∧ oid < m.next ∧ id < m.next := by
  obtain ⟨oid, o, cap, id, hv, ho, hc, hid, hrow⟩ := h.at hj
  have hlt := (h.low id (List.mem_of_getElem? hid)).2.1
  obtain ⟨_, h2, ⟨hv2, _⟩ | ⟨id', o', cap', rest, hv2, _, hmem, _⟩⟩ := h.own
  · rw [hv] at hv2; cases hv2
  · rw [hv] at hv2; cases hv2
    exact ⟨oid, o, cap, id, hv, ho, hc, hrow, h2 _ hmem, hlt⟩
end

def x7L0 : XCode := (.seq (.seq (.ops [⟨(some 57), none, .move (.t 13)⟩,
     ⟨(some 58), none, .move (.t 2)⟩,
     ⟨(some 59), none, .len (.t 58)⟩,
     ⟨(some 60), none, .bin .lss 3 (.t 57) (.t 59)⟩] (some [0, 2, 3, 9, 10, 12, 13, 60]))
   (.cond (.t 60)
    .skip
    (.exit 0)))
   (.seq (.block 1
    (.seq (.seq (.ops [⟨(some 63), none, .move (.t 2)⟩,
      ⟨(some 64), none, .move (.t 13)⟩,
      ⟨(some 65), none, .indexAddr 1 (.t 63) (.t 64)⟩,
      ⟨(some 66), none, .load false 1 (.t 65)⟩,
      ⟨(some 67), none, .len (.t 66)⟩,
      ⟨(some 68), none, .bin .gtr 3 (.t 67) (.c (.int .i64 60))⟩,
      ⟨(some 69), none, .move (.t 68)⟩,
      ⟨(some 70), (some (69, false)), .move (.t 2)⟩,
      ⟨(some 71), (some (69, false)), .move (.t 13)⟩,
      ⟨(some 72), (some (69, false)), .indexAddr 1 (.t 70) (.t 71)⟩,
      ⟨(some 73), (some (69, false)), .load false 1 (.t 72)⟩,
      ⟨(some 74), (some (69, false)), .call (.c (.func (.func 23) #[] #[])) [(.t 73)]⟩,
      ⟨(some 75), (some (69, false)), .move (.t 74)⟩,
      ⟨(some 76), (some (75, true)), .move (.t 2)⟩,
      ⟨(some 77), (some (75, true)), .move (.t 13)⟩,
      ⟨(some 78), (some (75, true)), .indexAddr 1 (.t 76) (.t 77)⟩,
      ⟨(some 79), (some (75, true)), .load false 1 (.t 78)⟩,
      ⟨(some 80), (some (75, true)), .call (.c (.func (.func 12) #[] #[])) [(.t 79)]⟩,
      ⟨(some 81), (some (75, true)), .un .not (.t 80)⟩,
      ⟨(some 82), (some (69, false)), .pick (.t 75) (.t 81) (.c (.bool false))⟩,
      ⟨(some 83), none, .pick (.t 69) (.c (.bool true)) (.t 82)⟩] (some [0, 2, 3, 9, 10, 12, 13, 83]))
    (.cond (.t 83)
     (.seq (.ops [⟨(some 8), none, .move (.c (.bool true))⟩] (some [8]))
     .ret)
     .skip))
    (.ops [⟨(some 84), none, .move (.t 12)⟩,
      ⟨(some 85), none, .move (.t 84)⟩,
      ⟨(some 86), (some (85, true)), .move (.t 2)⟩,
      ⟨(some 87), (some (85, true)), .move (.t 13)⟩,
      ⟨(some 88), (some (85, true)), .indexAddr 1 (.t 86) (.t 87)⟩,
      ⟨(some 89), (some (85, true)), .load false 1 (.t 88)⟩,
      ⟨(some 90), (some (85, true)), .call (.c (.func (.func 23) #[] #[])) [(.t 89)]⟩,
      ⟨(some 91), none, .pick (.t 85) (.t 90) (.c (.bool false))⟩,
      ⟨(some 12), none, .move (.t 91)⟩] (some [0, 2, 3, 9, 10, 12, 13]))))
   (.ops [⟨(some 61), none, .move (.t 13)⟩,
     ⟨(some 62), none, .bin .add 3 (.t 61) (.c (.int .i64 1))⟩,
     ⟨(some 13), none, .move (.t 62)⟩] (some [0, 2, 3, 9, 10, 12, 13]))))
abbrev REnv (k : Nat) (vr : Value) (g : Int) (t bq : Nat) (ok : Bool) (i : Nat) : Env := [(0, I k), (2, vr), (3, U g), (9, Pt t), (10, Pt bq), (12, .bool ok), (13, I i)]
theorem right_loop {b t bq k : Nat} {m : Mem} {vr : Value} {rooms : List (List Int)} {g : Int} {K : List XItem} {Q N : Post} {B : Nat → Post} {ok0 : Bool} (hr : RdRT b m vr rooms) (hq : ∀ m', Q [(8, .bool true)] m')
    (h : ∀ ok : Bool, ok = (ok0 && !wrongR rooms) → (∀ us ∈ rooms, rightL us = true → fewL us = true) → Ex Try.prog tabK 0 K (REnv k vr g t bq ok rooms.length ++ [(60, .bool false)]) m Q N B) :
    Go' Try.prog tabK (.code (.loop x7L0) :: K) (REnv k vr g t bq ok0 0) m Q N B := by
  have hrl := hr.len
  obtain ⟨p, c, rfl⟩ := hr.rd.slice
  refine loop_go (fun jj e m' => m' = m ∧ ∃ (i : Nat) (ok : Bool), i ≤ rooms.length ∧ jj = rooms.length - i ∧ ok = (ok0 && (rooms.take i).all rightL) ∧ (∀ us ∈ rooms.take i, rightL us = true → fewL us = true) ∧ e = REnv k (.slice p rooms.length c) g t bq ok i) rooms.length ⟨rfl, 0, ok0, by omega, rfl, by simp, by simp, rfl⟩ ?_
  rintro jj e m' N' B' hN hB ⟨rfl, i, ok, hi, rfl, hok, hfew, rfl⟩
  unfold x7L0
  by_cases hlt : i < rooms.length
  · have hlt' : (i : Int) < (rooms.length : Int) := by omega
    obtain ⟨us, hus⟩ : ∃ us, rooms[i]? = some us := ⟨_, List.getElem?_eq_getElem hlt⟩
    obtain ⟨a, c3, o3, p3, c3', hva3, ho3, hc3, hru⟩ := hr.rd.at hus
    cases hva3
    have hT : RdT b m' (.slice p3 us.length c3') us := ⟨hru, (hr.ok us (List.mem_of_getElem? hus)).1, (hr.ok us (List.mem_of_getElem? hus)).2⟩
    have wi : IntKind.i64.wrap ((i : Int) + 1) = ((i + 1 : Nat) : Int) := by rw [wrap_i64 (by omega) (by omega)]; omega
    by_cases h60 : (60 : Int) < (us.length : Int)
    · simp only [symA, go_opsd, symB, wantedX, X.put, X.look, Arg.ev, keepOf, restrict, evs, evO, initEnv, xres, tup, noTup, cls, quiet, Nat.reduceAdd, Nat.reduceEqDiff, ↓reduceIte, reduceCtorEq, goInt, exists_eq_left', eq_self, Int.reduceLT, Int.reduceLE, Int.reduceEq, Int.reduceNeg, Int.reduceAdd, Int.reduceSub, forall_const, ne_eq, undef, Nat.reducePow, Nat.reduceDiv, Nat.reduceMod, hlt, hlt', ho3, hc3, h60]
      exact hq _
    · have k1 := rright_spec hT
      have k2 := few_spec hT
      have htake : rooms.take (i + 1) = rooms.take i ++ [us] := by rw [List.take_add_one, hus]; rfl
      have fin : ∀ ok' : Bool, ok' = (ok && rightL us) → (rightL us = true → fewL us = true) → N' (REnv k (.slice (some a) rooms.length c) g t bq ok' (i + 1)) m' := fun ok' h1 h2 => by
        refine hN _ _ (rooms.length - (i + 1)) (by omega) ⟨rfl, i + 1, ok', by omega, rfl, ?_, fun z hz => ?_, rfl⟩
        · rw [h1, hok, htake, List.all_append]
          simp [Bool.and_assoc]
        · rw [htake] at hz
          rcases List.mem_append.1 hz with hz | hz
          · exact hfew z hz
          · simp at hz; subst hz; exact h2
      cases hr1 : rightL us with
      | false =>
        rw [hr1] at k1
        have f := fin false (by rw [hr1, Bool.and_false]) (by rw [hr1]; intro h; cases h)
        cases ok with
        | false =>
          simp only [symA, go_opsd, symB, wantedX, X.put, X.look, Arg.ev, keepOf, restrict, evs, evO, initEnv, xres, tup, noTup, cls, quiet, Nat.reduceAdd, Nat.reduceEqDiff, ↓reduceIte, reduceCtorEq, goInt, exists_eq_left', eq_self, Int.reduceLT, Int.reduceLE, Int.reduceEq, Int.reduceNeg, Int.reduceAdd, Int.reduceSub, forall_const, ne_eq, undef, Nat.reducePow, Nat.reduceDiv, Nat.reduceMod, hlt, hlt', ho3, hc3, h60, goR_call k1, wi]
          exact f
        | true =>
          simp only [symA, go_opsd, symB, wantedX, X.put, X.look, Arg.ev, keepOf, restrict, evs, evO, initEnv, xres, tup, noTup, cls, quiet, Nat.reduceAdd, Nat.reduceEqDiff, ↓reduceIte, reduceCtorEq, goInt, exists_eq_left', eq_self, Int.reduceLT, Int.reduceLE, Int.reduceEq, Int.reduceNeg, Int.reduceAdd, Int.reduceSub, forall_const, ne_eq, undef, Nat.reducePow, Nat.reduceDiv, Nat.reduceMod, hlt, hlt', ho3, hc3, h60, goR_call k1, wi]
          exact f
      | true =>
        rw [hr1] at k1
        cases hf : fewL us with
        | false =>
          rw [hf] at k2
          simp only [symA, go_opsd, symB, wantedX, X.put, X.look, Arg.ev, keepOf, restrict, evs, evO, initEnv, xres, tup, noTup, cls, quiet, Nat.reduceAdd, Nat.reduceEqDiff, ↓reduceIte, reduceCtorEq, goInt, exists_eq_left', eq_self, Int.reduceLT, Int.reduceLE, Int.reduceEq, Int.reduceNeg, Int.reduceAdd, Int.reduceSub, forall_const, ne_eq, undef, Nat.reducePow, Nat.reduceDiv, Nat.reduceMod, hlt, hlt', ho3, hc3, h60, goR_call k1, goR_call k2]
          exact hq _
        | true =>
          rw [hf] at k2
          have f := fin ok (by rw [hr1, Bool.and_true]) (fun _ => hf)
          cases ok with
          | false =>
            simp only [symA, go_opsd, symB, wantedX, X.put, X.look, Arg.ev, keepOf, restrict, evs, evO, initEnv, xres, tup, noTup, cls, quiet, Nat.reduceAdd, Nat.reduceEqDiff, ↓reduceIte, reduceCtorEq, goInt, exists_eq_left', eq_self, Int.reduceLT, Int.reduceLE, Int.reduceEq, Int.reduceNeg, Int.reduceAdd, Int.reduceSub, forall_const, ne_eq, undef, Nat.reducePow, Nat.reduceDiv, Nat.reduceMod, hlt, hlt', ho3, hc3, h60, goR_call k1, goR_call k2, wi]
            exact f
          | true =>
            simp only [symA, go_opsd, symB, wantedX, X.put, X.look, Arg.ev, keepOf, restrict, evs, evO, initEnv, xres, tup, noTup, cls, quiet, Nat.reduceAdd, Nat.reduceEqDiff, ↓reduceIte, reduceCtorEq, goInt, exists_eq_left', eq_self, Int.reduceLT, Int.reduceLE, Int.reduceEq, Int.reduceNeg, Int.reduceAdd, Int.reduceSub, forall_const, ne_eq, undef, Nat.reducePow, Nat.reduceDiv, Nat.reduceMod, hlt, hlt', ho3, hc3, h60, goR_call k1, goR_call k2, wi]
            exact f
  · have hlt' : ¬ (i : Int) < (rooms.length : Int) := by omega
    have hie : i = rooms.length := by omega
    subst hie
    rw [List.take_length] at hok hfew
    have hw : rooms.all rightL = !wrongR rooms := by
      unfold wrongR
      rw [List.not_any_eq_all_not]
      simp
    rw [hw] at hok
    simp only [symA, go_opsd, symB, wantedX, X.put, X.look, Arg.ev, keepOf, restrict, evs, evO, initEnv, xres, tup, noTup, cls, quiet, Nat.reduceAdd, Nat.reduceEqDiff, ↓reduceIte, reduceCtorEq, goInt, exists_eq_left', eq_self, Int.reduceLT, Int.reduceLE, Int.reduceEq, Int.reduceNeg, Int.reduceAdd, Int.reduceSub, forall_const, ne_eq, undef, Nat.reducePow, Nat.reduceDiv, Nat.reduceMod, hlt']
    exact hB _ _ _ (h ok hok hfew)

theorem flowAll_run {b : Nat} {m : Mem} {n0 n3 : Int} {vl vr : Value} {ls : List Deed} {rooms : List (List Int)} (hl : RdD b m vl ls) (hr : RdRT b m vr rooms) (hm : b ≤ m.next) :
    Wc 7 [I n0, vl, vr, U n3] m fun r _ => r = .bool true := by
  obtain ⟨n, hn0⟩ : ∃ n, n0 = n := ⟨_, rfl⟩
  obtain ⟨g, hg0⟩ : ∃ g, n3 = g := ⟨_, rfl⟩
  rw [hn0, hg0]
  refine call_go (F := _) rfl rfl fun Q hQ => ?_
  obtain ⟨p, c, rfl⟩ := hr.rd.slice
  have hrl := hr.len
  have hret : ∀ m', Q [(8, .bool true)] m' := fun m' => hQ _ _ _ rfl rfl
  by_cases hn : n < 1 ∨ 8 < n
  · simp only [symA, go_opsd, symB, wantedX, X.put, X.look, Arg.ev, keepOf, restrict, evs, evO, initEnv, xres, tup, noTup, cls, quiet, Nat.reduceAdd, Nat.reduceEqDiff, ↓reduceIte, reduceCtorEq, goInt, exists_eq_left', eq_self, Int.reduceLT, Int.reduceLE, Int.reduceEq, Int.reduceNeg, Int.reduceAdd, Int.reduceSub, forall_const, ne_eq, undef, Nat.reducePow, Nat.reduceDiv, Nat.reduceMod, goR_call (awake_call _), goR_call (table_bad hn)]
    exact hret _
  · obtain ⟨k, rfl⟩ : ∃ k : Nat, n = (k : Int) := ⟨n.toNat, by omega⟩
    simp only [symA, go_opsd, symB, wantedX, X.put, X.look, Arg.ev, keepOf, restrict, evs, evO, initEnv, xres, tup, noTup, cls, quiet, Nat.reduceAdd, Nat.reduceEqDiff, ↓reduceIte, reduceCtorEq, goInt, exists_eq_left', eq_self, Int.reduceLT, Int.reduceLE, Int.reduceEq, Int.reduceNeg, Int.reduceAdd, Int.reduceSub, forall_const, ne_eq, undef, Nat.reducePow, Nat.reduceDiv, Nat.reduceMod, goR_call (awake_call _)]
    refine goR_wp (table_spec (n := k) (by omega) (by omega) hl hm) ?_
    rintro r' m1 ⟨t, r, bq, F, pq, rfl, hB, ⟨ht1, hr1, _, _⟩, f1⟩
    by_cases h20 : (20 : Int) < (rooms.length : Int)
    · have h5 : (5 : Int) < (rooms.length : Int) := by omega
      have h8 : ¬ (rooms.length : Int) ≤ 8 := by omega
      simp only [symA, go_opsd, symB, wantedX, X.put, X.look, Arg.ev, keepOf, restrict, evs, evO, initEnv, xres, tup, noTup, cls, quiet, Nat.reduceAdd, Nat.reduceEqDiff, ↓reduceIte, reduceCtorEq, goInt, exists_eq_left', eq_self, Int.reduceLT, Int.reduceLE, Int.reduceEq, Int.reduceNeg, Int.reduceAdd, Int.reduceSub, forall_const, ne_eq, undef, Nat.reducePow, Nat.reduceDiv, Nat.reduceMod, h5, h8, h20]
      exact hret _
    · by_cases hmid : 5 < rooms.length ∧ rooms.length ≤ 8
      · have h5 : (5 : Int) < (rooms.length : Int) := by omega
        have h8 : (rooms.length : Int) ≤ 8 := by omega
        simp only [symA, go_opsd, symB, wantedX, X.put, X.look, Arg.ev, keepOf, restrict, evs, evO, initEnv, xres, tup, noTup, cls, quiet, Nat.reduceAdd, Nat.reduceEqDiff, ↓reduceIte, reduceCtorEq, goInt, exists_eq_left', eq_self, Int.reduceLT, Int.reduceLE, Int.reduceEq, Int.reduceNeg, Int.reduceAdd, Int.reduceSub, forall_const, ne_eq, undef, Nat.reducePow, Nat.reduceDiv, Nat.reduceMod, h5, h8]
        exact hret _
      · obtain ⟨s, hs⟩ : ∃ s, (ls.take 60).foldl stepB (startB k) = s := ⟨_, rfl⟩
        have rel : RelTR s.1 s.2 := by
          rw [← hs]
          exact fold_wf (n := k) _ _ (newT_wf (by omega) (by omega)) rel_start
        have hlen : s.1.l.length = k := by rw [← hs, fold_people]; simp [startB, newT]
        have hdl : s.2.l.length ≤ 100000 := by
          have := fold_deeds (ls.take 60) (startB k)
          rw [hs] at this
          have h2 : (ls.take 60).length ≤ 60 := by simp; omega
          have h3 : (startB k).2.l.length = 0 := rfl
          omega
        rw [hs] at hB
        obtain ⟨T, R⟩ := s
        have t1 := hB.tab
        have w1 := hB.wf
        have r1 := hB.ref
        simp only at t1 w1 r1 rel hlen hdl
        subst hlen
        have hn1 := f1.next
        have hv1 : RdRT b m1 (.slice p rooms.length c) rooms := ⟨hr.rd.fr f1 hm (fun _ h => h.elim), hr.len, hr.ok⟩
        by_cases h8n : 8 < rooms.length
        · have h5 : (5 : Int) < (rooms.length : Int) := by omega
          have h8 : ¬ (rooms.length : Int) ≤ 8 := by omega
          have k1 := flows_long t1 hv1.rd h8n
          have k2 := leaks_bad t1 hv1.rd k1
          simp only [symA, go_opsd, symB, wantedX, X.put, X.look, Arg.ev, keepOf, restrict, evs, evO, initEnv, xres, tup, noTup, cls, quiet, Nat.reduceAdd, Nat.reduceEqDiff, ↓reduceIte, reduceCtorEq, goInt, exists_eq_left', eq_self, Int.reduceLT, Int.reduceLE, Int.reduceEq, Int.reduceNeg, Int.reduceAdd, Int.reduceSub, forall_const, ne_eq, undef, Nat.reducePow, Nat.reduceDiv, Nat.reduceMod, h5, h8, h20]
          refine right_loop (ok0 := false) hv1 hret ?_
          intro ok hok _
          rw [Bool.false_and] at hok
          subst hok
          show Ex _ _ _ _ [(0, _), (2, _), (3, _), (9, _), (10, _), (12, _), (13, _), (60, _)] _ _ _ _
          simp only [symA, go_opsd, symB, wantedX, X.put, X.look, Arg.ev, keepOf, restrict, evs, evO, initEnv, xres, tup, noTup, cls, quiet, Nat.reduceAdd, Nat.reduceEqDiff, ↓reduceIte, reduceCtorEq, goInt, exists_eq_left', eq_self, Int.reduceLT, Int.reduceLE, Int.reduceEq, Int.reduceNeg, Int.reduceAdd, Int.reduceSub, forall_const, ne_eq, undef, Nat.reducePow, Nat.reduceDiv, Nat.reduceMod, goR_call k1, goR_call k2]
          exact hret _
        · have h5 : ¬ (5 : Int) < (rooms.length : Int) := by omega
          have h8 : (rooms.length : Int) ≤ 8 := by omega
          have hl8 : rooms.length ≤ 8 := by omega
          simp only [symA, go_opsd, symB, wantedX, X.put, X.look, Arg.ev, keepOf, restrict, evs, evO, initEnv, xres, tup, noTup, cls, quiet, Nat.reduceAdd, Nat.reduceEqDiff, ↓reduceIte, reduceCtorEq, goInt, exists_eq_left', eq_self, Int.reduceLT, Int.reduceLE, Int.reduceEq, Int.reduceNeg, Int.reduceAdd, Int.reduceSub, forall_const, ne_eq, undef, Nat.reducePow, Nat.reduceDiv, Nat.reduceMod, h5, h8, h20]
          refine right_loop (ok0 := true) hv1 hret ?_
          intro ok hok hfew
          rw [Bool.true_and] at hok
          subst hok
          show Ex _ _ _ _ [(0, _), (2, _), (3, _), (9, _), (10, _), (12, _), (13, _), (60, _)] _ _ _ _
          cases hw : wrongR rooms with
          | true =>
            have k1 := flows_bad t1 hv1.rd hl8 hw
            have k2 := leaks_bad t1 hv1.rd k1
            simp only [symA, go_opsd, symB, wantedX, X.put, X.look, Arg.ev, keepOf, restrict, evs, evO, initEnv, xres, tup, noTup, cls, quiet, Nat.reduceAdd, Nat.reduceEqDiff, ↓reduceIte, reduceCtorEq, goInt, exists_eq_left', eq_self, Int.reduceLT, Int.reduceLE, Int.reduceEq, Int.reduceNeg, Int.reduceAdd, Int.reduceSub, forall_const, ne_eq, undef, Nat.reducePow, Nat.reduceDiv, Nat.reduceMod, goR_call k1, goR_call k2]
            exact hret _
          | false =>
            obtain ⟨_, m2, k1, f2, F2, ov, rids, rfl, hM⟩ := flows_spec t1 w1 hv1.rd (by omega) hl8 hw
            have hn2 := f2.next
            obtain ⟨_, m3, k2, f3, F3, lv, rfl, hLk⟩ := leaks_spec (t1.nx f2) w1 (hv1.rd.fr f2 (by omega) (fun _ h => h.elim)) (by omega) hl8 hw
            have hn3 := f3.next
            obtain ⟨po, co, hov⟩ := hM.slice
            have t3 := (t1.nx f2).nx f3
            have r3 := (r1.nx f2).nx f3
            have hD : Dx T R rooms := ⟨rel, hdl, fun us hus => by
              have hru : rightL us = true := by
                unfold wrongR at hw
                rw [List.any_eq_false] at hw
                simpa using hw us hus
              have := hfew us hus hru
              unfold fewL at this
              rw [Bool.and_eq_true, List.all_eq_true] at this
              exact few_lab hru (fun x hx => by simpa using this.1 x hx), by omega, w1⟩
            have hlks := hLk.rd (by omega)
            obtain ⟨pl, cl, hlv⟩ := hlks.slice
            rw [List.length_map] at hlv
            have hC : Cx m3 m3.next t r bq F pq (.slice p rooms.length c) ov lv T R rooms (wayA T rooms) (leakTo (wayA T rooms) rooms rooms.length rooms.length) := by
              refine ⟨Nat.le_refl _, r3, ⟨r3.lb, r3.own.lt⟩, t3, ⟨?_, ?_⟩, rooms_up (hv1.rd.fr (f2.trans f3) (by omega) (fun _ h => h.elim)) (by omega), fun i hi => ?_, hlks⟩
              · exact t3.lt
              · exact t3.lr
              · exact (hM.nx f3).at2 hi
            obtain ⟨L, hL⟩ : ∃ L, leakTo (wayA T rooms) rooms rooms.length rooms.length = L := ⟨_, rfl⟩
            subst hov hlv
            simp only [symA, go_opsd, symB, wantedX, X.put, X.look, Arg.ev, keepOf, restrict, evs, evO, initEnv, xres, tup, noTup, cls, quiet, Nat.reduceAdd, Nat.reduceEqDiff, ↓reduceIte, reduceCtorEq, goInt, exists_eq_left', eq_self, Int.reduceLT, Int.reduceLE, Int.reduceEq, Int.reduceNeg, Int.reduceAdd, Int.reduceSub, forall_const, ne_eq, undef, Nat.reducePow, Nat.reduceDiv, Nat.reduceMod, goR_call k1, goR_call k2]
            refine loop_go (fun jj e m' => Fm (fun z => m3.next ≤ z) m3 m' ∧ ∃ i : Nat, i ≤ rooms.length ∧ jj = rooms.length - i ∧ e = IEnv T.l.length (.slice p rooms.length c) g t bq _ _ (leakTo (wayA T rooms) rooms rooms.length i).length i) rooms.length ⟨.refl, 0, by omega, rfl, rfl⟩ ?_
            rintro jj e m4 N4 B4 hN4 hB4 ⟨f4, i, hi, rfl, rfl⟩
            by_cases hit : i < rooms.length
            · exact i_body (hC.fr f4) hD hit rfl fun m5 f5 => hN4 _ _ (rooms.length - (i + 1)) (by omega) ⟨f4.trans f5, i + 1, by omega, rfl, rfl⟩
            · have hit' : ¬ (i : Int) < (rooms.length : Int) := by omega
              have hie : i = rooms.length := by omega
              subst hie
              have hC4 := hC.fr f4
              have hn4 := f4.next
              obtain ⟨m5, hm5⟩ : ∃ m5, m4.push { cells := [], rw := true, spare := none, kin := [] } = m5 := ⟨_, rfl⟩
              have f5 : Nx m4 m5 := hm5 ▸ .push
              have bz : buildSliceE m4 [I 0] 1 0 [] = some (.val (.slice (some ⟨m4.next, 0, none⟩) 0 0) m5) := by rw [← hm5]; exact buildSlice_zero
              simp only [symA, go_opsd, symB, wantedX, X.put, X.look, Arg.ev, keepOf, restrict, evs, evO, initEnv, xres, tup, noTup, cls, quiet, Nat.reduceAdd, Nat.reduceEqDiff, ↓reduceIte, reduceCtorEq, goInt, exists_eq_left', eq_self, Int.reduceLT, Int.reduceLE, Int.reduceEq, Int.reduceNeg, Int.reduceAdd, Int.reduceSub, forall_const, ne_eq, undef, Nat.reducePow, Nat.reduceDiv, Nat.reduceMod, hit']
              refine hB4 _ _ _ ?_
              simp only [symA, go_opsd, symB, wantedX, X.put, X.look, Arg.ev, keepOf, restrict, evs, evO, initEnv, xres, tup, noTup, cls, quiet, Nat.reduceAdd, Nat.reduceEqDiff, ↓reduceIte, reduceCtorEq, goInt, exists_eq_left', eq_self, Int.reduceLT, Int.reduceLE, Int.reduceEq, Int.reduceNeg, Int.reduceAdd, Int.reduceSub, forall_const, ne_eq, undef, Nat.reducePow, Nat.reduceDiv, Nat.reduceMod, bz]
              refine loop_go (fun jj e m' => Fm (fun z => m3.next ≤ z) m4 m' ∧ ∃ (w : Nat) (F6 : List Nat) (tv : Value), w ≤ T.l.length ∧ jj = T.l.length - w ∧ Own3 1 F6 m' tv (((((List.range w).filter fun i : Nat => mayDrop T (i : Int) g).map fun i : Nat => (i : Int)).map I).map fun x => [x]) ∧ (∀ z ∈ F6, m4.next ≤ z) ∧
                e = [(0, I T.l.length), (3, U g), (9, Pt t), (10, Pt bq), (16, .slice pl (leakTo (wayA T rooms) rooms rooms.length rooms.length).length cl), (18, I (leakTo (wayA T rooms) rooms rooms.length rooms.length).length), (26, tv), (27, I w)]) T.l.length ⟨f5.mono fun _ _ h => h.elim, 0, [], _, by omega, rfl, .inl ⟨by simp, .inr ⟨rfl, by simp, m4.next, rfl⟩⟩, by simp, rfl⟩ ?_
              rintro jj e m6 N6 B6 hN6 hB6 ⟨f6, w, F6, tv, hwl, rfl, hO, hF6, rfl⟩
              have hC6 := hC4.fr f6
              have hn6 := f6.next
              have hTl := w1.hi
              by_cases hwt : w < T.l.length
              · have hwt' : (w : Int) < (T.l.length : Int) := by omega
                have ww : IntKind.i64.wrap ((w : Int) + 1) = ((w + 1 : Nat) : Int) := by rw [wrap_i64 (by omega) (by omega)]; omega
                have k21 := rhas_spec (w := (w : Int)) (g := g) (dm := true) hC6.ref hdl
                have ho : oneB T (w : Int) = true := by unfold oneB; simp; omega
                have hmd : hasR R ((w : Int), g, true) = mayDrop T (w : Int) g := by
                  unfold mayDrop
                  rw [ho, Bool.true_and]
                  exact (rel.has w g true ho).symm
                rw [hmd] at k21
                have hnext : (List.range (w + 1)).filter (fun i : Nat => mayDrop T (i : Int) g) = (List.range w).filter (fun i : Nat => mayDrop T (i : Int) g) ++ (bif mayDrop T (w : Int) g then [w] else []) := by
                  rw [List.range_succ, List.filter_append, List.filter_cons, List.filter_nil]
                  cases mayDrop T (w : Int) g <;> rfl
                have hfl : ((List.range w).filter fun i : Nat => mayDrop T (i : Int) g).length ≤ w := Nat.le_trans (List.length_filter_le _ _) (by simp)
                cases hq : mayDrop T (w : Int) g with
                | false =>
                  rw [hq] at k21 hnext
                  simp only [symA, go_opsd, symB, wantedX, X.put, X.look, Arg.ev, keepOf, restrict, evs, evO, initEnv, xres, tup, noTup, cls, quiet, Nat.reduceAdd, Nat.reduceEqDiff, ↓reduceIte, reduceCtorEq, goInt, exists_eq_left', eq_self, Int.reduceLT, Int.reduceLE, Int.reduceEq, Int.reduceNeg, Int.reduceAdd, Int.reduceSub, forall_const, ne_eq, undef, Nat.reducePow, Nat.reduceDiv, Nat.reduceMod, hwt', goR_call k21, ww]
                  exact hN6 _ _ (T.l.length - (w + 1)) (by omega) ⟨f6, w + 1, F6, tv, by omega, rfl, by rw [hnext]; simpa using hO, hF6, rfl⟩
                | true =>
                  rw [hq] at k21 hnext
                  obtain ⟨m7, v', m8, F8, s1, s2, s3, s4, s5, s6⟩ := hO.app1 (bytes := 8) (zero := I 0) (x := I (w : Int)) rfl (by simp; omega) (by simp; omega)
                  simp only [symA, go_opsd, symB, wantedX, X.put, X.look, Arg.ev, keepOf, restrict, evs, evO, initEnv, xres, tup, noTup, cls, quiet, Nat.reduceAdd, Nat.reduceEqDiff, ↓reduceIte, reduceCtorEq, goInt, exists_eq_left', eq_self, Int.reduceLT, Int.reduceLE, Int.reduceEq, Int.reduceNeg, Int.reduceAdd, Int.reduceSub, forall_const, ne_eq, undef, Nat.reducePow, Nat.reduceDiv, Nat.reduceMod, hwt', goR_call k21, s1, s2, ww]
                  refine hN6 _ _ (T.l.length - (w + 1)) (by omega) ⟨f6.trans (s4.mono fun z _ hz => by have := hF6 z hz; omega), w + 1, F8, v', by omega, rfl, by rw [hnext]; simpa using s3, fun z hz => ?_, rfl⟩
                  rcases s6 z hz with h | h
                  · exact hF6 z h
                  · omega
              · have hwt' : ¬ (w : Int) < (T.l.length : Int) := by omega
                have hwe : w = T.l.length := by omega
                subst hwe
                obtain ⟨vt, m7, F7, k20, hOt, f7⟩ := trusted_spec (g := g) hC6.tab w1
                have hfl : (trusted T g).length ≤ T.l.length := by unfold trusted; exact Nat.le_trans (List.length_filter_le _ _) (by simp)
                have k25 : Ca 25 [vt, tv] m7 (.bool true) m7 := by
                  refine ints_same (b := m7.next) (xs := (trusted T g).map fun i : Nat => (i : Int)) ?_ ((hO.fr f7 (fun _ _ h => h)).rd (by omega)) (by simp; omega)
                  have : Own2 1 F7 m7 vt ((((trusted T g).map fun i : Nat => (i : Int)).map I).map fun x => [x]) := ⟨by simp, .inl (by
                    have e1 : ((((trusted T g).map fun i : Nat => (i : Int)).map I).map fun x => [x]).flatten = (trusted T g).map fun i : Nat => I (i : Int) := by
                      induction trusted T g with
                      | nil => rfl
                      | cons x l ih => simp only [List.map_cons, List.flatten_cons, ih]; rfl
                    rw [e1]
                    simpa using hOt)⟩
                  exact this.rd (by omega)
                simp only [symA, go_opsd, symB, wantedX, X.put, X.look, Arg.ev, keepOf, restrict, evs, evO, initEnv, xres, tup, noTup, cls, quiet, Nat.reduceAdd, Nat.reduceEqDiff, ↓reduceIte, reduceCtorEq, goInt, exists_eq_left', eq_self, Int.reduceLT, Int.reduceLE, Int.reduceEq, Int.reduceNeg, Int.reduceAdd, Int.reduceSub, forall_const, ne_eq, undef, Nat.reducePow, Nat.reduceDiv, Nat.reduceMod, hwt']
                refine hB6 _ _ _ ?_
                simp only [symA, go_opsd, symB, wantedX, X.put, X.look, Arg.ev, keepOf, restrict, evs, evO, initEnv, xres, tup, noTup, cls, quiet, Nat.reduceAdd, Nat.reduceEqDiff, ↓reduceIte, reduceCtorEq, goInt, exists_eq_left', eq_self, Int.reduceLT, Int.reduceLE, Int.reduceEq, Int.reduceNeg, Int.reduceAdd, Int.reduceSub, forall_const, ne_eq, undef, Nat.reducePow, Nat.reduceDiv, Nat.reduceMod, goR_call k20, goR_call k25]
                exact hret _

theorem flowAll_args {H : Type} (ds : List (DataW H)) (h : wfEach Try.prog ds Try.f7.params.toList) : ∃ (n0 : Int) (n3 : Int) (d1 d2 : DataW H), ds = [.lit (.int .i64 n0), d1, d2, .lit (.int .u64 n3)] ∧ wfD Try.prog d1 22 ∧ wfD Try.prog d2 41 := by
  rw [Try.params7] at h
  obtain ⟨d0, r, rfl, h0, h⟩ := wf_more h
  obtain ⟨d1, r, rfl, h1, h⟩ := wf_more h
  obtain ⟨d2, r, rfl, h2, h⟩ := wf_more h
  obtain ⟨d3, rfl, h3⟩ := wf_one h
  obtain ⟨n0, rfl, _⟩ := wf_int Try.underlying3 h0
  obtain ⟨n3, rfl, _⟩ := wf_int Try.underlying30 h3
  exact ⟨n0, n3, d1, d2, rfl, h1, h2⟩

theorem flowAll_lifted (os : Os) (started : os.Started) (H : Type) (enc : TypeId × Value → H) :
    ReturnsInHanded {} Try.checked os 7 .any (Rows.flowAllSpec.pre6 enc Try.prog Try.f7 Rows.flowAllRow.domain false) (Rows.flowAllSpec.post enc Try.prog Try.f7 false true false false) := by
  refine returnsInHanded_of_change (C := Try.checked) own started (by kernel_rfl) Try.func7
    (ChangeSpec.witness6 (enc := enc) (C := Try.checked) false ⟨#[], #[.int .i64 0, .slice none 0 0, .slice none 0 0, .int .u64 0], []⟩ 8 (by kernel_rfl) (by kernel_rfl) (by kernel_rfl) (by kernel_rfl)) ?_
  intro W base args ds gs before hval0 hW hcnd _
  refine law_contract mixed tabK_is (f := 7) rfl (k := 10) (by rw [← List.all_eq_true]; kernel_rfl) (fun t ht => ?_) laid rfl (by kernel_rfl) rfl ?_ ?_ H enc W base args ds gs before hval0 hW
  · have : (Try.f7.params.toList.all fun t => Try.prog.readableRec t && decide (t < Try.prog.types.size)) = true := by kernel_rfl
    have := List.all_eq_true.1 this t ht
    simp only [Bool.and_eq_true, decide_eq_true_eq] at this
    exact this
  · intro H ds hd
    obtain ⟨_, _, _, _, rfl, _⟩ := flowAll_args ds hd
    rfl
  · intro H ds hd
    obtain ⟨n0, n3, d1, d2, rfl, h1, h2⟩ := flowAll_args ds hd
    obtain ⟨x1, v1, a1, b1, c1⟩ := abs_deeds (m := Mem.empty) h1
    obtain ⟨M1, hM1⟩ : ∃ M, (absD Try.prog d1 22 Mem.empty).2 = M := ⟨_, rfl⟩
    rw [hM1] at b1 c1
    obtain ⟨x2, v2, a2, b2, c2⟩ := abs_roomsT (m := M1) h2
    obtain ⟨M2, hM2⟩ : ∃ M, (absD Try.prog d2 41 M1).2 = M := ⟨_, rfl⟩
    rw [hM2] at b2 c2
    have ha : absArgs Try.prog [.lit (.int .i64 n0), d1, d2, .lit (.int .u64 n3)] Try.f7.params.toList Mem.empty = ([.int .i64 n0, argVal Try.prog 22 (absD Try.prog d1 22 Mem.empty).1, argVal Try.prog 41 (absD Try.prog d2 41 (absD Try.prog d1 22 Mem.empty).2).1, .int .u64 n3], (absD Try.prog d2 41 (absD Try.prog d1 22 Mem.empty).2).2) := by kernel_rfl
    rw [ha, hM1, hM2, a1, a2]
    have q22 : ∀ v, argVal Try.prog 22 [v] = v := fun v => by kernel_rfl
    have q41 : ∀ v, argVal Try.prog 41 [v] = v := fun v => by kernel_rfl
    rw [q22, q41]
    obtain ⟨v, m', ⟨k, hk⟩, rfl⟩ := flowAll_run (n0 := n0) (n3 := n3) (b := M2.next) (deeds_last c1 b2) c2 (Nat.le_refl _)
    exact ⟨k, m', hk⟩

theorem flowAll_holds : Rows.FlowAllSaid :=
  OpenClaim.holds_of_wide 7 Try.f7 rfl rfl rfl rfl rfl rfl rfl ⟨rfl, rfl, rfl, rfl, rfl⟩ rfl rfl rfl rfl rfl (by kernel_rfl) Try.func7 (by kernel_rfl)
    (of_decide_eq_true (by kernel_rfl)) (by unfold Func.isWrapper; first | (rw [if_pos (by decide +kernel)]; kernel_rfl) | (rw [if_neg (by decide +kernel)]; exact ⟨rfl, rfl⟩))
    (fun os started H enc _ => flowAll_lifted os started H enc)


end Go.Proofs.Ytfjeccaffenngaa
