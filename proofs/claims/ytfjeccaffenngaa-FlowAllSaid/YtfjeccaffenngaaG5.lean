/-
  Own work. The walk of the ways between rooms: the innermost loop. The walk of the ways between rooms.
-/
import Derived.Test.YtfjeccaffenngaaG4
import Derived.Test.YtfjeccaffenngaaXF
namespace Go.Proofs.Ytfjeccaffenngaa
open Go X
set_option maxRecDepth 100000
set_option linter.unusedVariables false
set_option linter.unusedSimpArgs false

def x18L4 : XCode := (.seq (.ops [⟨(some 76), none, .bin .lss 3 (.t 75) (.t 74)⟩] (some [1, 7, 13, 14, 64, 65, 69, 70, 74, 75, 76]))
         (.seq (.cond (.t 76)
          .skip
          (.exit 9))
         (.seq (.block 10
          (.seq (.ops [⟨(some 77), none, .move (.t 75)⟩,
            ⟨(some 15), none, .move (.t 77)⟩] (some [1, 7, 13, 14, 15, 64, 65, 69, 70, 74, 75]))
          (.opsd [(0, 0, ⟨(some 78), none, .move (.t 7)⟩),
            (1, 0, ⟨(some 79), none, .move (.t 14)⟩),
            (2, 3, ⟨(some 80), none, .indexAddr 1 (.t 78) (.t 79)⟩),
            (3, 7, ⟨(some 81), none, .load false 1 (.t 80)⟩),
            (4, 0, ⟨(some 82), none, .move (.t 15)⟩),
            (5, 0, ⟨(some 83), none, .move (.t 7)⟩),
            (6, 0, ⟨(some 84), none, .move (.t 14)⟩),
            (7, 96, ⟨(some 85), none, .indexAddr 1 (.t 83) (.t 84)⟩),
            (8, 224, ⟨(some 86), none, .load false 1 (.t 85)⟩),
            (9, 0, ⟨(some 87), none, .move (.t 15)⟩),
            (10, 992, ⟨(some 88), none, .indexAddr 1 (.t 86) (.t 87)⟩),
            (11, 2016, ⟨(some 89), none, .load false 1 (.t 88)⟩),
            (12, 4064, ⟨(some 90), none, .move (.t 89)⟩),
            (13, 8160, ⟨(some 91), (some (90, false)), .move (.t 7)⟩),
            (14, 8160, ⟨(some 92), (some (90, false)), .move (.t 14)⟩),
            (15, 32736, ⟨(some 93), (some (90, false)), .indexAddr 1 (.t 91) (.t 92)⟩),
            (16, 65504, ⟨(some 94), (some (90, false)), .load false 1 (.t 93)⟩),
            (17, 8160, ⟨(some 95), (some (90, false)), .move (.t 13)⟩),
            (18, 262112, ⟨(some 96), (some (90, false)), .indexAddr 1 (.t 94) (.t 95)⟩),
            (19, 524256, ⟨(some 97), (some (90, false)), .load false 1 (.t 96)⟩),
            (20, 1048544, ⟨(some 98), (some (90, false)), .move (.t 97)⟩),
            (21, 2097120, ⟨(some 99), (some (98, true)), .move (.t 7)⟩),
            (22, 2097120, ⟨(some 100), (some (98, true)), .move (.t 13)⟩),
            (23, 8388576, ⟨(some 101), (some (98, true)), .indexAddr 1 (.t 99) (.t 100)⟩),
            (24, 16777184, ⟨(some 102), (some (98, true)), .load false 1 (.t 101)⟩),
            (25, 2097120, ⟨(some 103), (some (98, true)), .move (.t 15)⟩),
            (26, 67108832, ⟨(some 104), (some (98, true)), .indexAddr 1 (.t 102) (.t 103)⟩),
            (27, 134217696, ⟨(some 105), (some (98, true)), .load false 1 (.t 104)⟩),
            (28, 268435424, ⟨(some 106), (some (90, false)), .pick (.t 98) (.t 105) (.c (.bool false))⟩),
            (29, 536870880, ⟨(some 107), none, .pick (.t 90) (.c (.bool true)) (.t 106)⟩),
            (30, 1073741823, ⟨(some 108), none, .indexAddr 1 (.t 81) (.t 82)⟩),
            (31, 2147483647, ⟨none, none, .store 1 (.t 108) (.t 107)⟩)] (some [1, 7, 13, 14, 64, 65, 69, 70, 74, 75]))))
         (.ops [⟨(some 109), none, .bin .add 3 (.t 75) (.c (.int .i64 1))⟩,
           ⟨(some 75), none, .move (.t 109)⟩] (some [1, 7, 13, 14, 64, 65, 69, 70, 74, 75])))))
section
variable {b t r : Nat} {m : Mem} {v : Value} {T : Tb} {rooms : List (List Int)}
theorem kbody_spec {m m4 : Mem} {F rids : List Nat} {po p : Option Addr} {i c co by_ x k : Nat} {W : Nat → Nat → Bool} {Q N : Post} {B : Nat → Post} (hi8 : i ≤ 8) (hx : x < i) (hb : by_ < i) (hkt : k < i) (f4 : Nx m m4)
    (hM4 : MatAt m4 F (.slice po i co) i i m.next rids W)
    (h : ∀ m5, Nx m m5 → MatAt m5 F (.slice po i co) i i m.next rids (updK W by_ x k) → N [(1, .slice p i c), (7, .slice po i co), (13, I by_), (14, I x), (64, I i), (65, I by_), (69, I i), (70, I x), (74, I i), (75, I ((k + 1 : Nat)))] m5) :
    Go' Try.prog tabK [.code x18L4] [(1, .slice p i c), (7, .slice po i co), (13, I by_), (14, I x), (64, I i), (65, I by_), (69, I i), (70, I x), (74, I i), (75, I k)] m4 Q N B := by
  unfold x18L4
  have hkt' : (k : Int) < (i : Int) := by omega
  have wk : IntKind.i64.wrap ((k : Int) + 1) = ((k + 1 : Nat) : Int) := by rw [wrap_i64 (by omega) (by omega)]; omega
  obtain ⟨oid, o, cap, id, hov, ho, hc, hid, hrow⟩ := hM4.at hx
  obtain ⟨oid2, o2, cap2, id2, hov2, ho2, hc2, hid2, hrow2⟩ := hM4.at hb
  cases hov
  cases hov2
  rw [ho] at ho2
  cases ho2
  have q1 := cellsB_at (f := W x) hkt
  have q2 := cellsB_at (f := W x) hb
  have q3 := cellsB_at (f := W by_) hkt
  obtain ⟨m5, s5, hM5, f5⟩ := hM4.upd (by_ := by_) hid hkt
  have hlow := (hM4.low id (List.mem_of_getElem? hid)).1
  have fin := h m5 (f4.comp f5 (fun y hy h => by omega)) hM5
  simp only [symA, symF, Nat.reduceOr, Nat.reduceAnd, Nat.reduceShiftLeft, Nat.zero_or, symB, wantedX, X.put, X.look, Arg.ev, keepOf, restrict, evs, evO, initEnv, xres, tup, noTup, cls, quiet, Nat.reduceAdd, Nat.reduceEqDiff, ↓reduceIte, reduceCtorEq, goInt, exists_eq_left', eq_self, Int.reduceLT, Int.reduceLE, Int.reduceEq, Int.reduceNeg, Int.reduceAdd, Int.reduceSub, forall_const, ne_eq, undef, Nat.reducePow, Nat.reduceDiv, Nat.reduceMod, hkt']
  refine goF_of ?_
  cases h1 : W x k with
  | true =>
    rw [h1] at s5 q1
    simp only [Bool.true_or] at s5
    simp only [symA, symF, Nat.reduceOr, Nat.reduceAnd, Nat.reduceShiftLeft, Nat.zero_or, symB, wantedX, X.put, X.look, Arg.ev, keepOf, restrict, evs, evO, initEnv, xres, tup, noTup, cls, quiet, Nat.reduceAdd, Nat.reduceEqDiff, ↓reduceIte, reduceCtorEq, goInt, exists_eq_left', eq_self, Int.reduceLT, Int.reduceLE, Int.reduceEq, Int.reduceNeg, Int.reduceAdd, Int.reduceSub, forall_const, ne_eq, undef, Nat.reducePow, Nat.reduceDiv, Nat.reduceMod, hkt, hkt', hx, hb, ho, hc, hc2, hrow, hrow2, q1, s5, wk]
    exact fin
  | false => 
    rw [h1] at s5 q1
    cases h2 : W x by_ with
    | true =>
      rw [h2] at s5 q2
      simp only [Bool.false_or, Bool.true_and] at s5
      simp only [symA, symF, Nat.reduceOr, Nat.reduceAnd, Nat.reduceShiftLeft, Nat.zero_or, symB, wantedX, X.put, X.look, Arg.ev, keepOf, restrict, evs, evO, initEnv, xres, tup, noTup, cls, quiet, Nat.reduceAdd, Nat.reduceEqDiff, ↓reduceIte, reduceCtorEq, goInt, exists_eq_left', eq_self, Int.reduceLT, Int.reduceLE, Int.reduceEq, Int.reduceNeg, Int.reduceAdd, Int.reduceSub, forall_const, ne_eq, undef, Nat.reducePow, Nat.reduceDiv, Nat.reduceMod, hkt, hkt', hx, hb, ho, hc, hc2, hrow, hrow2, q1, q2, q3, s5, wk]
      exact fin
    | false =>
      rw [h2] at s5 q2
      simp only [Bool.false_or, Bool.false_and] at s5
      simp only [symA, symF, Nat.reduceOr, Nat.reduceAnd, Nat.reduceShiftLeft, Nat.zero_or, symB, wantedX, X.put, X.look, Arg.ev, keepOf, restrict, evs, evO, initEnv, xres, tup, noTup, cls, quiet, Nat.reduceAdd, Nat.reduceEqDiff, ↓reduceIte, reduceCtorEq, goInt, exists_eq_left', eq_self, Int.reduceLT, Int.reduceLE, Int.reduceEq, Int.reduceNeg, Int.reduceAdd, Int.reduceSub, forall_const, ne_eq, undef, Nat.reducePow, Nat.reduceDiv, Nat.reduceMod, hkt, hkt', hx, hb, ho, hc, hc2, hrow, hrow2, q1, q2, s5, wk]
      exact fin
end
end Go.Proofs.Ytfjeccaffenngaa

namespace Go.Proofs.Ytfjeccaffenngaa
open Go X
set_option maxRecDepth 100000
set_option linter.unusedVariables false
set_option linter.unusedSimpArgs false

section
variable {b t r : Nat} {m : Mem} {v : Value} {T : Tb} {rooms : List (List Int)}
theorem flows_spec (h : TabAt m t r T) (hT : T.Wf) (hv : RdRooms b m v rooms) (hb : b ≤ m.next) (hl : rooms.length ≤ 8) (hw : wrongR rooms = false) :
    Wc 18 [Pt t, v] m fun r' m' => Nx m m' ∧ ∃ F ov rids, r' = .tuple #[ov, I 0] ∧ MatAt m' F ov rooms.length rooms.length m.next rids (allU rooms.length (way0 T rooms) rooms.length) := by
  refine call_go (F := _) rfl rfl fun Q hQ => ?_
  have k1 := containsW_spec hv hl
  rw [hw] at k1
  obtain ⟨p, c, rfl⟩ := hv.slice
  have h8 : ¬ (8 : Int) < (rooms.length : Int) := by omega
  have hlen6 : ∀ (i : Nat) us, rooms[i]? = some us → us.length ≤ 6 := fun i us hi => by
    refine right_len ?_
    unfold wrongR at hw
    rw [List.any_eq_false] at hw
    have := hw us (List.mem_of_getElem? hi)
    simpa using this
  obtain ⟨n, hn⟩ : ∃ n, rooms.length = n := ⟨_, rfl⟩
  have rd : ∀ {m'}, Nx m m' → RdRooms b m' (.slice p n c) rooms := fun f => by rw [← hn]; exact hv.fr f hb (fun _ h => h.elim)
  rw [hn] at h8 hl k1 ⊢
  rw [hn] at hQ
  simp only [symA, go_opsd, symB, wantedX, X.put, X.look, Arg.ev, keepOf, restrict, evs, evO, initEnv, xres, tup, noTup, cls, quiet, Nat.reduceAdd, Nat.reduceEqDiff, ↓reduceIte, reduceCtorEq, goInt, exists_eq_left', eq_self, Int.reduceLT, Int.reduceLE, Int.reduceEq, Int.reduceNeg, Int.reduceAdd, Int.reduceSub, forall_const, ne_eq, undef, Nat.reducePow, Nat.reduceDiv, Nat.reduceMod, h8, goR_call k1]
  refine loop_go (fun j e m' => Nx m m' ∧ ∃ (i : Nat) (F rids : List Nat) (ov : Value), i ≤ n ∧ j = n - i ∧ MatAt m' F ov n i m.next rids (way0 T rooms) ∧ e = [(0, Pt t), (1, .slice p n c), (7, ov), (28, .slice p n c), (29, I n), (30, I i)]) n ⟨.refl, 0, [], [], .slice none 0 0, by omega, rfl, ⟨.nil (by simp), rfl, by simp, by simp, by simp, by simp⟩, rfl⟩ ?_
  rintro j e m1 N1 B1 hN1 hB1 ⟨f1, i, F, rids, ov, hi, rfl, hM, rfl⟩
  have hn1 := f1.next
  by_cases hlt : i < n
  · have hlt' : (i : Int) < (n : Int) := by omega
    obtain ⟨us, hus⟩ : ∃ us, rooms[i]? = some us := ⟨_, List.getElem?_eq_getElem (by omega)⟩
    obtain ⟨a, c', o, p', c'', hva, ho, hc, hru⟩ := (rd f1).at hus
    have ea : p = some a := (Value.slice.inj hva).1
    subst ea
    obtain ⟨m2, hm2⟩ : ∃ m2, m1.push (rowB n fun _ => false) = m2 := ⟨_, rfl⟩
    have f2 : Nx m1 m2 := hm2 ▸ .push
    have hn2 : m2.next = m1.next + 1 := by rw [← hm2]; simp
    have g2 : m2.get m1.next = some (rowB n fun _ => false) := by rw [← hm2, push_self]
    have mk : makeSliceE m1 [.bool false] 1 (I (n : Int)) (I (n : Int)) = some (.val (RowV n m1.next) m2) := by
      rw [makeSlice_at (by omega) (by omega), cellsB_zero, hm2]
    have w1 : IntKind.i64.wrap ((i : Int) + 1) = ((i + 1 : Nat) : Int) := by rw [wrap_i64 (by omega) (by omega)]; omega
    simp only [symA, go_opsd, symB, wantedX, X.put, X.look, Arg.ev, keepOf, restrict, evs, evO, initEnv, xres, tup, noTup, cls, quiet, Nat.reduceAdd, Nat.reduceEqDiff, ↓reduceIte, reduceCtorEq, goInt, exists_eq_left', eq_self, Int.reduceLT, Int.reduceLE, Int.reduceEq, Int.reduceNeg, Int.reduceAdd, Int.reduceSub, forall_const, ne_eq, undef, Nat.reducePow, Nat.reduceDiv, Nat.reduceMod, hlt, hlt', ho, hc, xi_makeSlice, mk]
    refine loop_go (fun j e m3 => ∃ k : Nat, k ≤ n ∧ j = n - k ∧ Nx m m3 ∧ Fm (· = m1.next) m2 m3 ∧ m3.get m1.next = some (rowB n fun c => decide (c < k) && way0 T rooms i c) ∧
      e = [(0, Pt t), (1, .slice (some a) n c), (7, ov), (8, I i), (9, .slice p' us.length c''), (10, RowV n m1.next), (28, .slice (some a) n c), (29, I n), (30, I i), (38, .slice (some a) n c), (39, I n), (40, I k)]) n ⟨0, by omega, rfl, f1.trans f2, .refl, by rw [g2]; congr 2, rfl⟩ ?_
    rintro j e m3 N3 B3 hN3 hB3 ⟨k, hk, rfl, f3, q3, g3, rfl⟩
    have hn3 := f3.next
    have hq3 := q3.next
    by_cases hkt : k < n
    · have hkt' : (k : Int) < (n : Int) := by omega
      obtain ⟨ws, hws⟩ : ∃ ws, rooms[k]? = some ws := ⟨_, List.getElem?_eq_getElem (by omega)⟩
      obtain ⟨a3, c3, o3, p3, c3', hva3, ho3, hc3, hrw⟩ := (rd f3).at hws
      have ea3 : a = a3 := Option.some.inj (Value.slice.inj hva3).1
      subst ea3
      have w2 : IntKind.i64.wrap ((k : Int) + 1) = ((k + 1 : Nat) : Int) := by rw [wrap_i64 (by omega) (by omega)]; omega
      have hcong : ∀ x, way0 T rooms i k = x → (rowB n fun c => if c = k then x else decide (c < k) && way0 T rooms i c) = rowB n fun c => decide (c < k + 1) && way0 T rooms i c := fun x hx => by
        show XObj.mk _ _ _ _ _ = XObj.mk _ _ _ _ _
        congr 1
        refine cellsB_congr fun c hc => ?_
        by_cases hck : c = k
        · subst hck
          rw [if_pos rfl, decide_eq_true (by omega), Bool.true_and, hx]
        · rw [if_neg hck]
          congr 1
          exact decide_eq_decide.2 (by omega)
      by_cases hik : i = k
      · have hik' : (i : Int) = (k : Int) := by omega
        have hx : way0 T rooms i k = true := by unfold way0; rw [decide_eq_true hik]; rfl
        obtain ⟨m5, s5, g5, f5, n5⟩ := rowB_store (x := true) g3 hkt
        rw [hcong true hx] at g5
        simp only [symA, go_opsd, symB, wantedX, X.put, X.look, Arg.ev, keepOf, restrict, evs, evO, initEnv, xres, tup, noTup, cls, quiet, Nat.reduceAdd, Nat.reduceEqDiff, ↓reduceIte, reduceCtorEq, goInt, exists_eq_left', eq_self, Int.reduceLT, Int.reduceLE, Int.reduceEq, Int.reduceNeg, Int.reduceAdd, Int.reduceSub, forall_const, ne_eq, undef, Nat.reducePow, Nat.reduceDiv, Nat.reduceMod, hkt, hkt', ho3, hc3, hik', s5, w2]
        exact hN3 _ _ (n - (k + 1)) (by omega) ⟨k + 1, by omega, rfl, f3.comp f5 (fun x hx h => by omega), q3.trans f5, g5, by rw [hik']⟩
      · have hik' : ¬ (i : Int) = (k : Int) := by omega
        have l1 := hlen6 i us hus
        have l2 := hlen6 k ws hws
        have hru3 := hru.fr (show Nx m1 m3 from f2.comp q3 (fun x hx h => by omega)) (by omega) (fun _ h => h.elim)
        obtain ⟨m4, k4, f4⟩ := any_spec (h.nx f3) hT hru3 hrw (by omega) (by omega) (by omega)
        have hn4 := f4.next
        have g4 := f4.get (by omega) (fun h => h) g3
        obtain ⟨m5, s5, g5, f5, n5⟩ := rowB_store (x := anyT T us ws) g4 hkt
        have hx : way0 T rooms i k = anyT T us ws := by
          unfold way0
          rw [decide_eq_false hik, hus, hws]; rfl
        rw [hcong _ hx] at g5
        simp only [symA, go_opsd, symB, wantedX, X.put, X.look, Arg.ev, keepOf, restrict, evs, evO, initEnv, xres, tup, noTup, cls, quiet, Nat.reduceAdd, Nat.reduceEqDiff, ↓reduceIte, reduceCtorEq, goInt, exists_eq_left', eq_self, Int.reduceLT, Int.reduceLE, Int.reduceEq, Int.reduceNeg, Int.reduceAdd, Int.reduceSub, forall_const, ne_eq, undef, Nat.reducePow, Nat.reduceDiv, Nat.reduceMod, hkt, hkt', ho3, hc3, hik', goR_call k4, s5, w2]
        exact hN3 _ _ (n - (k + 1)) (by omega) ⟨k + 1, by omega, rfl, (f3.trans f4).comp f5 (fun x hx h => by omega), (q3.trans (f4.mono fun _ _ h => h.elim)).trans f5, g5, rfl⟩
    · have hkt' : ¬ (k : Int) < (n : Int) := by omega
      have hke : k = n := by omega
      subst hke
      simp only [symA, go_opsd, symB, wantedX, X.put, X.look, Arg.ev, keepOf, restrict, evs, evO, initEnv, xres, tup, noTup, cls, quiet, Nat.reduceAdd, Nat.reduceEqDiff, ↓reduceIte, reduceCtorEq, goInt, exists_eq_left', eq_self, Int.reduceLT, Int.reduceLE, Int.reduceEq, Int.reduceNeg, Int.reduceAdd, Int.reduceSub, forall_const, ne_eq, undef, Nat.reducePow, Nat.reduceDiv, Nat.reduceMod, hkt']
      refine hB3 _ _ _ ?_
      obtain ⟨m6, hm6⟩ : ∃ m6, m3.push { cells := [RowV k m1.next], rw := true, spare := none, kin := [] } = m6 := ⟨_, rfl⟩
      have f6 : Nx m3 m6 := hm6 ▸ .push
      have hn6 : m6.next = m3.next + 1 := by rw [← hm6]; simp
      have bs : buildSliceE m3 [.slice none 0 0] 1 1 [(0, RowV k m1.next)] = some (.val (.slice (some ⟨m3.next, 0, none⟩) 1 1) m6) := by rw [← hm6]; exact buildSlice_one rfl
      have g6 : m6.get m3.next = some { cells := [RowV k m1.next], rw := true, spare := none, kin := [] } := by rw [← hm6, push_self]
      have hFlt := hM.own.lt
      have f26 : Fm (· = m1.next) m1 m6 := (f2.mono (S' := (· = m1.next)) fun _ _ h => h.elim).trans (q3.trans (f6.mono fun _ _ h => h.elim))
      have hM6 : MatAt m6 F ov k i m.next rids (way0 T rooms) := hM.fr f26 (fun x hx => by
        subst hx
        exact ⟨fun hx => by have := hFlt _ hx; omega, fun hx => by have := (hM.low _ hx).2.1; omega⟩)
      obtain ⟨ov', m7, F', a1, a2, a3, a4, a5⟩ := hM6.own.append (bytes := 24) (zero := [.slice none 0 0]) (new := [RowV k m1.next]) (vx := .slice (some ⟨m3.next, 0, none⟩) 1 1) rfl (by omega) rfl (by simp [xfirst, xload, g6]) rfl (by omega) (by omega)
      have hn7 := a3.next
      have grow : m7.get m1.next = some (rowB k (way0 T rooms i)) := by
        have e1 := f6.get (by omega) (fun h => h) g3
        rw [a3.get (by omega) (fun hx => by have := hFlt _ hx; omega) e1]
        show some (XObj.mk _ _ _ _ _) = some (XObj.mk _ _ _ _ _)
        congr 2
        refine cellsB_congr fun c hc => ?_
        rw [decide_eq_true hc, Bool.true_and]
      have hq6 := f26.next
      simp only [symA, go_opsd, symB, wantedX, X.put, X.look, Arg.ev, keepOf, restrict, evs, evO, initEnv, xres, tup, noTup, cls, quiet, Nat.reduceAdd, Nat.reduceEqDiff, ↓reduceIte, reduceCtorEq, goInt, exists_eq_left', eq_self, Int.reduceLT, Int.reduceLE, Int.reduceEq, Int.reduceNeg, Int.reduceAdd, Int.reduceSub, forall_const, ne_eq, undef, Nat.reducePow, Nat.reduceDiv, Nat.reduceMod, bs, a1, w1]
      refine hN1 _ _ (k - (i + 1)) (by omega) ⟨(f3.trans f6).comp a3 (fun x hx h => by have := hM.lowF x h; omega), i + 1, F', rids ++ [m1.next], ov', by omega, rfl, ⟨?_, ?_, ?_, fun id hid => ?_, fun x hx => ?_, fun j id hj => ?_⟩, rfl⟩
      · rw [List.map_append]; exact a2
      · have := hM.len
        simp; omega
      · intro x y id hx hy
        have hl := hM.len
        have key : ∀ x id : Nat, (rids ++ [m1.next])[x]? = some id → (x < rids.length ∧ rids[x]? = some id) ∨ (x = rids.length ∧ id = m1.next) := fun x id hx => by
          by_cases hxl : x < rids.length
          · rw [List.getElem?_append_left hxl] at hx
            exact .inl ⟨hxl, hx⟩
          · rw [List.getElem?_append_right (by omega)] at hx
            have hx0 := (List.getElem?_eq_some_iff.1 hx).1
            have hx1 : x - rids.length = 0 := by simp at hx0; omega
            rw [hx1] at hx
            simp only [List.getElem?_cons_zero, Option.some.injEq] at hx
            exact .inr ⟨by omega, hx.symm⟩
        rcases key x id hx with ⟨h1, h2⟩ | ⟨h1, h2⟩ <;> rcases key y id hy with ⟨h3, h4⟩ | ⟨h3, h4⟩
        · exact hM.nd x y id h2 h4
        · have := (hM.low id (List.mem_of_getElem? h2)).2.1; omega
        · have := (hM.low id (List.mem_of_getElem? h4)).2.1; omega
        · omega
      · rcases List.mem_append.1 hid with hid | hid
        · have h3 := hM6.low id hid
          refine ⟨h3.1, by omega, fun hF => ?_⟩
          rcases a5 id hF with h | h
          · exact h3.2.2 h
          · omega
        · simp only [List.mem_singleton] at hid
          subst hid
          refine ⟨by omega, by omega, fun hF => ?_⟩
          rcases a5 _ hF with h | h
          · have := hFlt _ h; omega
          · omega
      · rcases a5 x hx with h | h
        · exact hM.lowF x h
        · omega
      · have hlen := hM.len
        by_cases hji : j < i
        · rw [List.getElem?_append_left (by omega)] at hj
          have hid := List.mem_of_getElem? hj
          exact a3.get (hM6.low id hid).2.1 (hM6.low id hid).2.2 (hM6.row j id hj)
        · rw [List.getElem?_append_right (by omega)] at hj
          have hj0 : j - rids.length = 0 := by
            have := (List.getElem?_eq_some_iff.1 hj).1
            simp at this; omega
          rw [hj0] at hj
          simp only [List.getElem?_cons_zero, Option.some.injEq] at hj
          subst hj
          have : j = i := by omega
          subst this
          exact grow
  · have hlt' : ¬ (i : Int) < (n : Int) := by omega
    have hie : i = n := by omega
    subst hie
    obtain ⟨po, co, rfl⟩ := hM.slice
    simp only [symA, go_opsd, symB, wantedX, X.put, X.look, Arg.ev, keepOf, restrict, evs, evO, initEnv, xres, tup, noTup, cls, quiet, Nat.reduceAdd, Nat.reduceEqDiff, ↓reduceIte, reduceCtorEq, goInt, exists_eq_left', eq_self, Int.reduceLT, Int.reduceLE, Int.reduceEq, Int.reduceNeg, Int.reduceAdd, Int.reduceSub, forall_const, ne_eq, undef, Nat.reducePow, Nat.reduceDiv, Nat.reduceMod, hlt']
    refine hB1 _ _ _ ?_
    simp only [symA, go_opsd, symB, wantedX, X.put, X.look, Arg.ev, keepOf, restrict, evs, evO, initEnv, xres, tup, noTup, cls, quiet, Nat.reduceAdd, Nat.reduceEqDiff, ↓reduceIte, reduceCtorEq, goInt, exists_eq_left', eq_self, Int.reduceLT, Int.reduceLE, Int.reduceEq, Int.reduceNeg, Int.reduceAdd, Int.reduceSub, forall_const, ne_eq, undef, Nat.reducePow, Nat.reduceDiv, Nat.reduceMod]
    refine loop_go (fun j e m' => Nx m m' ∧ ∃ by_ : Nat, by_ ≤ i ∧ j = i - by_ ∧ MatAt m' F (.slice po i co) i i m.next rids (allU i (way0 T rooms) by_) ∧ e = [(1, .slice p i c), (7, .slice po i co), (64, I i), (65, I by_)]) i ⟨f1, 0, by omega, rfl, hM, rfl⟩ ?_
    rintro j e m2 N2 B2 hN2 hB2 ⟨f2, by_, hby, rfl, hM2, rfl⟩
    by_cases hbt : by_ < i
    · have hbt' : (by_ : Int) < (i : Int) := by omega
      have wb : IntKind.i64.wrap ((by_ : Int) + 1) = ((by_ + 1 : Nat) : Int) := by rw [wrap_i64 (by omega) (by omega)]; omega
      simp only [symA, go_opsd, symB, wantedX, X.put, X.look, Arg.ev, keepOf, restrict, evs, evO, initEnv, xres, tup, noTup, cls, quiet, Nat.reduceAdd, Nat.reduceEqDiff, ↓reduceIte, reduceCtorEq, goInt, exists_eq_left', eq_self, Int.reduceLT, Int.reduceLE, Int.reduceEq, Int.reduceNeg, Int.reduceAdd, Int.reduceSub, forall_const, ne_eq, undef, Nat.reducePow, Nat.reduceDiv, Nat.reduceMod, hbt']
      refine loop_go (fun j e m' => Nx m m' ∧ ∃ x : Nat, x ≤ i ∧ j = i - x ∧ MatAt m' F (.slice po i co) i i m.next rids (colU i (allU i (way0 T rooms) by_) by_ x) ∧ e = [(1, .slice p i c), (7, .slice po i co), (13, I by_), (64, I i), (65, I by_), (69, I i), (70, I x)]) i ⟨f2, 0, by omega, rfl, hM2, rfl⟩ ?_
      rintro j e m3 N3 B3 hN3 hB3 ⟨f3, x, hx, rfl, hM3, rfl⟩
      by_cases hxt : x < i
      · have hxt' : (x : Int) < (i : Int) := by omega
        have wx : IntKind.i64.wrap ((x : Int) + 1) = ((x + 1 : Nat) : Int) := by rw [wrap_i64 (by omega) (by omega)]; omega
        simp only [symA, go_opsd, symB, wantedX, X.put, X.look, Arg.ev, keepOf, restrict, evs, evO, initEnv, xres, tup, noTup, cls, quiet, Nat.reduceAdd, Nat.reduceEqDiff, ↓reduceIte, reduceCtorEq, goInt, exists_eq_left', eq_self, Int.reduceLT, Int.reduceLE, Int.reduceEq, Int.reduceNeg, Int.reduceAdd, Int.reduceSub, forall_const, ne_eq, undef, Nat.reducePow, Nat.reduceDiv, Nat.reduceMod, hxt']
        refine loop_go (fun j e m' => Nx m m' ∧ ∃ k : Nat, k ≤ i ∧ j = i - k ∧ MatAt m' F (.slice po i co) i i m.next rids (rowU i (colU i (allU i (way0 T rooms) by_) by_ x) by_ x k) ∧ e = [(1, .slice p i c), (7, .slice po i co), (13, I by_), (14, I x), (64, I i), (65, I by_), (69, I i), (70, I x), (74, I i), (75, I k)]) i ⟨f3, 0, by omega, rfl, hM3, rfl⟩ ?_
        rintro j e m4 N4 B4 hN4 hB4 ⟨f4, k, hk, rfl, hM4, rfl⟩
        by_cases hkt : k < i
        · exact kbody_spec hl hxt hbt hkt f4 hM4 fun m5 f5 hM5 => hN4 _ _ (i - (k + 1)) (by omega) ⟨f5, k + 1, by omega, rfl, by rw [rowU_succ]; exact hM5, rfl⟩
        · have hkt' : ¬ (k : Int) < (i : Int) := by omega
          have hke : k = i := by omega
          subst hke
          simp only [symA, go_opsd, symB, wantedX, X.put, X.look, Arg.ev, keepOf, restrict, evs, evO, initEnv, xres, tup, noTup, cls, quiet, Nat.reduceAdd, Nat.reduceEqDiff, ↓reduceIte, reduceCtorEq, goInt, exists_eq_left', eq_self, Int.reduceLT, Int.reduceLE, Int.reduceEq, Int.reduceNeg, Int.reduceAdd, Int.reduceSub, forall_const, ne_eq, undef, Nat.reducePow, Nat.reduceDiv, Nat.reduceMod, hkt']
          refine hB4 _ _ _ ?_
          simp only [symA, go_opsd, symB, wantedX, X.put, X.look, Arg.ev, keepOf, restrict, evs, evO, initEnv, xres, tup, noTup, cls, quiet, Nat.reduceAdd, Nat.reduceEqDiff, ↓reduceIte, reduceCtorEq, goInt, exists_eq_left', eq_self, Int.reduceLT, Int.reduceLE, Int.reduceEq, Int.reduceNeg, Int.reduceAdd, Int.reduceSub, forall_const, ne_eq, undef, Nat.reducePow, Nat.reduceDiv, Nat.reduceMod, wx]
          refine hN3 _ _ (k - (x + 1)) (by omega) ⟨f4, x + 1, by omega, rfl, ?_, rfl⟩
          rw [colU_succ]
          exact hM4
      · have hxt' : ¬ (x : Int) < (i : Int) := by omega
        have hxe : x = i := by omega
        subst hxe
        simp only [symA, go_opsd, symB, wantedX, X.put, X.look, Arg.ev, keepOf, restrict, evs, evO, initEnv, xres, tup, noTup, cls, quiet, Nat.reduceAdd, Nat.reduceEqDiff, ↓reduceIte, reduceCtorEq, goInt, exists_eq_left', eq_self, Int.reduceLT, Int.reduceLE, Int.reduceEq, Int.reduceNeg, Int.reduceAdd, Int.reduceSub, forall_const, ne_eq, undef, Nat.reducePow, Nat.reduceDiv, Nat.reduceMod, hxt']
        refine hB3 _ _ _ ?_
        simp only [symA, go_opsd, symB, wantedX, X.put, X.look, Arg.ev, keepOf, restrict, evs, evO, initEnv, xres, tup, noTup, cls, quiet, Nat.reduceAdd, Nat.reduceEqDiff, ↓reduceIte, reduceCtorEq, goInt, exists_eq_left', eq_self, Int.reduceLT, Int.reduceLE, Int.reduceEq, Int.reduceNeg, Int.reduceAdd, Int.reduceSub, forall_const, ne_eq, undef, Nat.reducePow, Nat.reduceDiv, Nat.reduceMod, wb]
        refine hN2 _ _ (x - (by_ + 1)) (by omega) ⟨f3, by_ + 1, by omega, rfl, ?_, rfl⟩
        rw [allU_succ]
        exact hM3
    · have hbt' : ¬ (by_ : Int) < (i : Int) := by omega
      have hbe : by_ = i := by omega
      subst hbe
      simp only [symA, go_opsd, symB, wantedX, X.put, X.look, Arg.ev, keepOf, restrict, evs, evO, initEnv, xres, tup, noTup, cls, quiet, Nat.reduceAdd, Nat.reduceEqDiff, ↓reduceIte, reduceCtorEq, goInt, exists_eq_left', eq_self, Int.reduceLT, Int.reduceLE, Int.reduceEq, Int.reduceNeg, Int.reduceAdd, Int.reduceSub, forall_const, ne_eq, undef, Nat.reducePow, Nat.reduceDiv, Nat.reduceMod, hbt']
      refine hB2 _ _ _ ?_
      simp only [symA, go_opsd, symB, wantedX, X.put, X.look, Arg.ev, keepOf, restrict, evs, evO, initEnv, xres, tup, noTup, cls, quiet, Nat.reduceAdd, Nat.reduceEqDiff, ↓reduceIte, reduceCtorEq, goInt, exists_eq_left', eq_self, Int.reduceLT, Int.reduceLE, Int.reduceEq, Int.reduceNeg, Int.reduceAdd, Int.reduceSub, forall_const, ne_eq, undef, Nat.reducePow, Nat.reduceDiv, Nat.reduceMod]
      refine hQ _ _ _ rfl ⟨f2, F, .slice po by_ co, rids, rfl, ?_⟩
      exact hM2
end

end Go.Proofs.Ytfjeccaffenngaa
