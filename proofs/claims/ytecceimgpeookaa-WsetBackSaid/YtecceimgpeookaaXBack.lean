/-
  Own work. PROVED HERE: WsetBack: whatever calls are made ahead of a mark and behind it, the law returns true (back is as it was). No condition.
-/
import Derived.Test.YtecceimgpeookaaVD
import Derived.Test.YtecceimgpeookaaRows
import Derived.ProofKit
namespace Go.Proofs.Ytecceimgpeookaa
open Go Go.ChangeShapes Go.WideShapes Go.ChangeAt Go.RowKit X
set_option maxRecDepth 100000
set_option maxHeartbeats 2000000
attribute [local irreducible] X.Go' X.GoO X.GoR X.GoG X.GoC X.GoF X.GoFV X.GoFG X.Ex X.GoD X.GoDV X.GoDG
set_option linter.unusedVariables false
set_option linter.unusedSimpArgs false

/-- Both sets stand there, in rows of S; since m0 rows of S alone were changed. -/
def StB (S : Nat → Prop) (m0 m : Mem) (s d : Value) (W : List Wr) (R : List (List Wr)) (V : List Wr) (T : List (List Wr)) (c : Nat) : Prop :=
  ∃ G H, SetP G m s W R c ∧ RefP H m d V T ∧ Good V T ∧ (∀ i ∈ G, i ∉ H) ∧ (∀ y, y ∈ G ∨ y ∈ H → S y) ∧ Fm S m0 m
section
variable {S : Nat → Prop} {m0 m m' : Mem} {s d : Value} {W V : List Wr} {R T : List (List Wr)} {c : Nat} {x : Act}
theorem StB.nx (h : StB S m0 m s d W R V T c) (f : Nx m m') : StB S m0 m' s d W R V T c := by
  obtain ⟨G, H, h1, h2, h3, h4, h5, h6⟩ := h
  exact ⟨G, H, h1.nx f, h2.nx f, h3, h4, h5, h6.comp f fun _ _ h => h.elim⟩
theorem StB.le {c' : Nat} (h : StB S m0 m s d W R V T c) (hc : c ≤ c') : StB S m0 m s d W R V T c' := by
  obtain ⟨G, H, h1, h2, h3, h4, h5, h6⟩ := h
  exact ⟨G, H, h1.le hc, h2, h3, h4, h5, h6⟩
theorem StB.fm (h : StB S m0 m s d W R V T c) : Fm S m0 m := by
  obtain ⟨G, H, h1, h2, h3, h4, h5, h6⟩ := h
  exact h6
theorem StB.step (h : StB S m0 m s d W R V T c) (hS : ∀ y, m0.next ≤ y → S y) (hc : c ≤ 700) (hx : x.Wf) :
    ∃ v m', Ca 11 [s, d, .agg ⟨x.row⟩] m v m' ∧ StB S m0 m' s d (stepA x (W, R)).1 (stepA x (W, R)).2 (stepA x (V, T)).1 (stepA x (V, T)).2 (c + 1) := by
  obtain ⟨G, H, h1, h2, h3, h4, h5, h6⟩ := h
  obtain ⟨v, m', G', H', k1, k2, k3, k4, k5, k6⟩ := does_any h1 h2 h3 h4 hc hx
  exact ⟨v, m', k1, G', H', k2, k3, h3.step, k4, fun y hy => (k6 y hy).elim (h5 y) fun h => hS y (Nat.le_trans h6.next h), h6.comp k5 fun y _ hy => h5 y hy⟩
end
/-- A mark stays where none goes back further. -/
theorem mark_stays {W W0 : List Wr} {R : List (List Wr)} {q : Nat} {x : Act} (h1 : q + 1 ≤ R.length) (h2 : R[q]? = some W0) (h : ¬ (x.kind = 4 ∧ x.n < ((q + 1 : Nat) : Int))) :
    q + 1 ≤ (stepA x (W, R)).2.length ∧ (stepA x (W, R)).2[q]? = some W0 := by
  unfold stepA
  split
  · exact ⟨h1, h2⟩
  · split
    · exact ⟨h1, h2⟩
    · split
      · unfold markR
        split
        · exact ⟨h1, h2⟩
        · exact ⟨by simp; omega, by show (R ++ [W])[q]? = _; rw [List.getElem?_append_left (by omega)]; exact h2⟩
      · split
        · rename_i k4
          have hn : ¬ x.n < ((q + 1 : Nat) : Int) := fun q => h ⟨k4, q⟩
          unfold backR
          split
          · exact ⟨h1, h2⟩
          · rename_i hk
            have hk : ¬ (x.n < 1 ∨ (R.length : Int) < x.n) := hk
            exact ⟨by show _ ≤ (R.take x.n.toNat).length; rw [List.length_take]; omega, by show (R.take x.n.toNat)[q]? = _; rw [List.getElem?_take, if_pos (by omega)]; exact h2⟩
        · exact ⟨h1, h2⟩

theorem wsetBack_run {b : Nat} {m : Mem} {l t : Value} {xs ys : List Act} (h : RdAW b m l xs) (h' : RdAW b m t ys) (hb : b ≤ m.next) : Wc 3 [l, t] m fun v m' => v = .bool true := by
  refine call_go (F := _) rfl rfl fun Q hQ => ?_
  obtain ⟨m1, a1, hs1, f1, n1⟩ := new_spec (m := m)
  obtain ⟨p, c, rfl⟩ := act_slice h.rd
  obtain ⟨p', c', rfl⟩ := act_slice h'.rd
  obtain ⟨m2, hm2⟩ : ∃ m2, m1.push { cells := [.slice none 0 0, .slice none 0 0], rw := true, spare := none, kin := [] } = m2 := ⟨_, rfl⟩
  have hr2 := ref_new hm2
  have f2 : Nx m1 m2 := hm2 ▸ .push
  have up : ∀ {x y : Mem}, Nx x y → Fm (b ≤ ·) x y := fun f => f.mono fun _ _ h => h.elim
  have st0 : StB (b ≤ ·) m m2 (Pt m.next) (Pt m1.next) [] [] [] [] 0 := ⟨[m.next], [m1.next], hs1.nx f2, hr2, ⟨.nil, by simp, by simp, by simp⟩, by simp; omega, by simp; omega, up (f1.comp f2 fun _ _ h => h)⟩
  simp only [symA, go_opsd, symB, wantedX, X.put, X.look, Arg.ev, keepOf, restrict, evs, evO, initEnv, xres, tup, noTup, cls, quiet, Nat.reduceAdd, Nat.reduceEqDiff, ↓reduceIte, reduceCtorEq, goInt, exists_eq_left', eq_self, Int.reduceLT, Int.reduceLE, Int.reduceEq, Int.reduceNeg, Int.reduceAdd, Int.reduceSub, forall_const, ne_eq, undef, Nat.reducePow, Nat.reduceDiv, Nat.reduceMod, goR_call (awake_call _), goR_call a1, build2, hm2]
  refine loop_go (fun j e m' => ∃ (i : Nat) (W : List Wr) (R : List (List Wr)) (V : List Wr) (T : List (List Wr)), i ≤ xs.length ∧ i ≤ 120 ∧ j = xs.length - i ∧ StB (b ≤ ·) m m' (Pt m.next) (Pt m1.next) W R V T i ∧ e = [(0, .slice p xs.length c), (1, .slice p' ys.length c'), (5, Pt m.next), (6, Pt m1.next), (7, I (i : Int))]) xs.length ⟨0, [], [], [], [], by omega, by omega, rfl, st0, rfl⟩ ?_
  rintro j e m3 N' B' hN hB ⟨i, W, R, V, T, hi, h120, rfl, st, rfl⟩
  by_cases hcond : i < xs.length ∧ i < 120
  · -- a call ahead of the mark
    obtain ⟨hlt, hlm⟩ := hcond
    have hlt' : (i : Int) < (xs.length : Int) := by omega
    have hlm' : (i : Int) < 120 := by omega
    obtain ⟨x, hx⟩ : ∃ x, xs[i]? = some x := ⟨_, List.getElem?_eq_getElem hlt⟩
    have hxw := h.wf x (List.mem_of_getElem? hx)
    have w1 : IntKind.i64.wrap ((i : Int) + 1) = ((i + 1 : Nat) : Int) := by rw [wrap_i64 (by omega) (by omega)]; omega
    obtain ⟨m4, y1, y2⟩ := far_spec (m := m3) (x := x)
    have st4 := st.nx y2
    obtain ⟨a, c1, hv, l6, _⟩ := act_at (h.rd.fr st.fm hb fun _ h => h) hx
    obtain ⟨a', c2, hv', l6', _⟩ := act_at (h.rd.fr st4.fm hb fun _ h => h) hx
    cases hv
    cases hv'
    cases hfar : farA x with
    | true =>
      rw [hfar] at y1
      simp only [symA, go_opsd, symB, wantedX, X.put, X.look, Arg.ev, keepOf, restrict, evs, evO, initEnv, xres, tup, noTup, cls, quiet, Nat.reduceAdd, Nat.reduceEqDiff, ↓reduceIte, reduceCtorEq, goInt, exists_eq_left', eq_self, Int.reduceLT, Int.reduceLE, Int.reduceEq, Int.reduceNeg, Int.reduceAdd, Int.reduceSub, forall_const, ne_eq, undef, Nat.reducePow, Nat.reduceDiv, Nat.reduceMod, hlt', hlt, hlm', l6, goR_call y1, w1]
      exact hN _ _ (xs.length - (i + 1)) (by omega) ⟨i + 1, W, R, V, T, by omega, by omega, rfl, st4.le (by omega), rfl⟩
    | false =>
      rw [hfar] at y1
      obtain ⟨v, m5, d1, st5⟩ := st4.step (fun y hy => Nat.le_trans hb hy) (by omega) hxw
      simp only [symA, go_opsd, symB, wantedX, X.put, X.look, Arg.ev, keepOf, restrict, evs, evO, initEnv, xres, tup, noTup, cls, quiet, Nat.reduceAdd, Nat.reduceEqDiff, ↓reduceIte, reduceCtorEq, goInt, exists_eq_left', eq_self, Int.reduceLT, Int.reduceLE, Int.reduceEq, Int.reduceNeg, Int.reduceAdd, Int.reduceSub, forall_const, ne_eq, undef, Nat.reducePow, Nat.reduceDiv, Nat.reduceMod, hlt', hlt, hlm', l6, goR_call y1, l6', goR_call d1, w1]
      exact hN _ _ (xs.length - (i + 1)) (by omega) ⟨i + 1, _, _, _, _, by omega, by omega, rfl, st5, rfl⟩
  -- the mark
  have goOn : ∀ {N2 : Post}, True := trivial
  obtain ⟨G, H, hS, hD, hg, dis, hGH, hf⟩ := st
  obtain ⟨was, m4, F4, c1, c2, c3, c4⟩ := all_call hS
  have hS4 := hS.nx c4
  obtain ⟨hso, h16, hR4⟩ := hS.sort
  obtain ⟨m5, G5, k1, k2, k3, k4⟩ := mark_spec hS4 (by omega)
  have hmk5 := marks_call k2
  have hGl := hS.lt
  have hHl := hD.lt
  have hF4 := c2.lt
  have hnG : ∀ y ∈ F4, y ∉ G := fun y hy q => by have := hGl y q; have := c3 y hy; omega
  have was5 := c2.fr k3 hnG
  have hD5 : RefP H m5 (Pt m1.next) V T := (hD.nx c4).fr k3 fun y hy q => dis y q hy
  by_cases h4 : 4 ≤ R.length
  · have e : markR W R = (0, 5, R) := by unfold markR; rw [if_pos h4]
    rw [e] at k1 hmk5
    have hR : (R.length : Int) = 4 := by omega
    simp only [Int.natCast_zero, show ((5 : Nat) : Int) = 5 from rfl] at k1
    have hlast : ∀ {K : Prop}, True := trivial
    rcases Nat.lt_or_ge i xs.length with hlt | hlt
    · have hlm' : ¬ (i : Int) < 120 := by omega
      have hlt' : (i : Int) < (xs.length : Int) := by omega
      simp only [symA, go_opsd, symB, wantedX, X.put, X.look, Arg.ev, keepOf, restrict, evs, evO, initEnv, xres, tup, noTup, cls, quiet, Nat.reduceAdd, Nat.reduceEqDiff, ↓reduceIte, reduceCtorEq, goInt, exists_eq_left', eq_self, Int.reduceLT, Int.reduceLE, Int.reduceEq, Int.reduceNeg, Int.reduceAdd, Int.reduceSub, forall_const, ne_eq, undef, Nat.reducePow, Nat.reduceDiv, Nat.reduceMod, hlt', hlm']
      refine hB _ _ _ ?_
      simp only [symA, go_opsd, symB, wantedX, X.put, X.look, Arg.ev, keepOf, restrict, evs, evO, initEnv, xres, tup, noTup, cls, quiet, Nat.reduceAdd, Nat.reduceEqDiff, ↓reduceIte, reduceCtorEq, goInt, exists_eq_left', eq_self, Int.reduceLT, Int.reduceLE, Int.reduceEq, Int.reduceNeg, Int.reduceAdd, Int.reduceSub, forall_const, ne_eq, undef, Nat.reducePow, Nat.reduceDiv, Nat.reduceMod, goR_call c1, goR_call k1, goR_call hmk5, hR]
      exact hQ _ _ _ rfl rfl
    · have hlt' : ¬ (i : Int) < (xs.length : Int) := by omega
      simp only [symA, go_opsd, symB, wantedX, X.put, X.look, Arg.ev, keepOf, restrict, evs, evO, initEnv, xres, tup, noTup, cls, quiet, Nat.reduceAdd, Nat.reduceEqDiff, ↓reduceIte, reduceCtorEq, goInt, exists_eq_left', eq_self, Int.reduceLT, Int.reduceLE, Int.reduceEq, Int.reduceNeg, Int.reduceAdd, Int.reduceSub, forall_const, ne_eq, undef, Nat.reducePow, Nat.reduceDiv, Nat.reduceMod, hlt']
      refine hB _ _ _ ?_
      simp only [symA, go_opsd, symB, wantedX, X.put, X.look, Arg.ev, keepOf, restrict, evs, evO, initEnv, xres, tup, noTup, cls, quiet, Nat.reduceAdd, Nat.reduceEqDiff, ↓reduceIte, reduceCtorEq, goInt, exists_eq_left', eq_self, Int.reduceLT, Int.reduceLE, Int.reduceEq, Int.reduceNeg, Int.reduceAdd, Int.reduceSub, forall_const, ne_eq, undef, Nat.reducePow, Nat.reduceDiv, Nat.reduceMod, goR_call c1, goR_call k1, goR_call hmk5, hR]
      exact hQ _ _ _ rfl rfl
  have e : markR W R = (R.length + 1, 0, R ++ [W]) := by unfold markR; rw [if_neg h4]
  rw [e] at k1 k2
  simp only [Int.natCast_zero] at k1
  -- what may be changed behind it
  have n34 := c4.next
  have n45 := k3.next
  have hH5 : ∀ y ∈ H, y < m5.next := hD5.lt
  have dis5 : ∀ y ∈ G5, y ∉ H := fun y hy q => (k4 y hy).elim (fun h => dis y h q) fun h => by have := hHl y q; omega
  have hF5 : ∀ y ∈ F4, ¬ ((y ∈ G5 ∨ y ∈ H) ∨ m5.next ≤ y) := fun y hy q => by
    have h1 := c3 y hy
    have h2 := hF4 y hy
    rcases q with (q | q) | q
    · exact (k4 y q).elim (hnG y hy) fun h => by omega
    · have := hHl y q; omega
    · omega
  have hSb : ∀ y, ((y ∈ G5 ∨ y ∈ H) ∨ m5.next ≤ y) → b ≤ y := fun y q => by
    have hn := hf.next
    rcases q with (q | q) | q
    · exact (k4 y q).elim (fun h => hGH y (.inl h)) fun h => by omega
    · exact hGH y (.inr q)
    · omega
  have fm5 : Fm (b ≤ ·) m m5 := (hf.comp (up c4) fun _ _ h => h).comp k3 fun y _ hy => hGH y (.inl hy)
  have st5 : StB (fun y => (y ∈ G5 ∨ y ∈ H) ∨ m5.next ≤ y) m5 m5 (Pt m.next) (Pt m1.next) W (R ++ [W]) V T 120 := ⟨G5, H, k2.le h120, hD5, hg, dis5, fun y hy => .inl hy, .refl⟩
  have rd' : ∀ {m' : Mem}, Fm (fun y => (y ∈ G5 ∨ y ∈ H) ∨ m5.next ≤ y) m5 m' → RdA b m' (.slice p' ys.length c') ys := fun f => h'.rd.fr (fm5.comp f fun y _ hy => hSb y hy) hb fun _ h => h
  obtain ⟨qw, cw, hvw⟩ := own_slice was5 (by omega)
  rw [List.length_map] at hvw
  subst hvw
  have hq : R.length < 4 := by omega
  have fin : ∀ (m' : Mem) (N2 : Post) (B2 : Nat → Post), True := fun _ _ _ => trivial
  rcases Nat.lt_or_ge i xs.length with hlt | hlt
  case' inl =>
    have hlm' : ¬ (i : Int) < 120 := by omega
    have hlt' : (i : Int) < (xs.length : Int) := by omega
    simp only [symA, go_opsd, symB, wantedX, X.put, X.look, Arg.ev, keepOf, restrict, evs, evO, initEnv, xres, tup, noTup, cls, quiet, Nat.reduceAdd, Nat.reduceEqDiff, ↓reduceIte, reduceCtorEq, goInt, exists_eq_left', eq_self, Int.reduceLT, Int.reduceLE, Int.reduceEq, Int.reduceNeg, Int.reduceAdd, Int.reduceSub, forall_const, ne_eq, undef, Nat.reducePow, Nat.reduceDiv, Nat.reduceMod, hlt', hlm']
    refine hB _ _ _ ?_
    simp only [symA, go_opsd, symB, wantedX, X.put, X.look, Arg.ev, keepOf, restrict, evs, evO, initEnv, xres, tup, noTup, cls, quiet, Nat.reduceAdd, Nat.reduceEqDiff, ↓reduceIte, reduceCtorEq, goInt, exists_eq_left', eq_self, Int.reduceLT, Int.reduceLE, Int.reduceEq, Int.reduceNeg, Int.reduceAdd, Int.reduceSub, forall_const, ne_eq, undef, Nat.reducePow, Nat.reduceDiv, Nat.reduceMod, goR_call c1, goR_call k1]
  case' inr =>
    have hlt' : ¬ (i : Int) < (xs.length : Int) := by omega
    simp only [symA, go_opsd, symB, wantedX, X.put, X.look, Arg.ev, keepOf, restrict, evs, evO, initEnv, xres, tup, noTup, cls, quiet, Nat.reduceAdd, Nat.reduceEqDiff, ↓reduceIte, reduceCtorEq, goInt, exists_eq_left', eq_self, Int.reduceLT, Int.reduceLE, Int.reduceEq, Int.reduceNeg, Int.reduceAdd, Int.reduceSub, forall_const, ne_eq, undef, Nat.reducePow, Nat.reduceDiv, Nat.reduceMod, hlt']
    refine hB _ _ _ ?_
    simp only [symA, go_opsd, symB, wantedX, X.put, X.look, Arg.ev, keepOf, restrict, evs, evO, initEnv, xres, tup, noTup, cls, quiet, Nat.reduceAdd, Nat.reduceEqDiff, ↓reduceIte, reduceCtorEq, goInt, exists_eq_left', eq_self, Int.reduceLT, Int.reduceLE, Int.reduceEq, Int.reduceNeg, Int.reduceAdd, Int.reduceSub, forall_const, ne_eq, undef, Nat.reducePow, Nat.reduceDiv, Nat.reduceMod, goR_call c1, goR_call k1]
  all_goals
    refine loop_go (fun j e m' => ∃ (kk : Nat) (W2 : List Wr) (R2 : List (List Wr)) (V2 : List Wr) (T2 : List (List Wr)), kk ≤ 2 ∧ j = 2 - kk ∧ StB (fun y => (y ∈ G5 ∨ y ∈ H) ∨ m5.next ≤ y) m5 m' (Pt m.next) (Pt m1.next) W2 R2 V2 T2 (120 * (kk + 1)) ∧ R.length + 1 ≤ R2.length ∧ R2[R.length]? = some W ∧ e = [(1, .slice p' ys.length c'), (5, Pt m.next), (6, Pt m1.next), (8, .slice qw W.length cw), (9, I ((R.length + 1 : Nat) : Int)), (11, I (kk : Int))]) 2 ⟨0, W, R ++ [W], V, T, by omega, rfl, st5, by simp, by simp, rfl⟩ ?_
    rintro j e m6 N2 B2 hN2 hB2 ⟨kk, W2, R2, V2, T2, hkk, rfl, st6, hm1', hm2', rfl⟩
    by_cases hk2 : kk < 2
    · have hk2' : (kk : Int) < 2 := by omega
      simp only [symA, go_opsd, symB, wantedX, X.put, X.look, Arg.ev, keepOf, restrict, evs, evO, initEnv, xres, tup, noTup, cls, quiet, Nat.reduceAdd, Nat.reduceEqDiff, ↓reduceIte, reduceCtorEq, goInt, exists_eq_left', eq_self, Int.reduceLT, Int.reduceLE, Int.reduceEq, Int.reduceNeg, Int.reduceAdd, Int.reduceSub, forall_const, ne_eq, undef, Nat.reducePow, Nat.reduceDiv, Nat.reduceMod, hk2']
      refine loop_go (fun j e m' => ∃ (i : Nat) (W2 : List Wr) (R2 : List (List Wr)) (V2 : List Wr) (T2 : List (List Wr)), i ≤ ys.length ∧ i ≤ 120 ∧ j = ys.length - i ∧ StB (fun y => (y ∈ G5 ∨ y ∈ H) ∨ m5.next ≤ y) m5 m' (Pt m.next) (Pt m1.next) W2 R2 V2 T2 (120 * (kk + 1) + i) ∧ R.length + 1 ≤ R2.length ∧ R2[R.length]? = some W ∧ e = [(1, .slice p' ys.length c'), (5, Pt m.next), (6, Pt m1.next), (8, .slice qw W.length cw), (9, I ((R.length + 1 : Nat) : Int)), (11, I (kk : Int)), (12, I (i : Int))]) ys.length ⟨0, W2, R2, V2, T2, by omega, by omega, rfl, st6, hm1', hm2', rfl⟩ ?_
      rintro j e m7 N3 B3 hN3 hB3 ⟨i3, W3, R3, V3, T3, hi3, h123, rfl, st7, hm3, hm4, rfl⟩
      by_cases hcond3 : i3 < ys.length ∧ i3 < 120
      · obtain ⟨hlt3, hlm3⟩ := hcond3
        have hlt3' : (i3 : Int) < (ys.length : Int) := by omega
        have hlm3' : (i3 : Int) < 120 := by omega
        obtain ⟨x, hx⟩ : ∃ x, ys[i3]? = some x := ⟨_, List.getElem?_eq_getElem hlt3⟩
        have hxw := h'.wf x (List.mem_of_getElem? hx)
        have w1 : IntKind.i64.wrap ((i3 : Int) + 1) = ((i3 + 1 : Nat) : Int) := by rw [wrap_i64 (by omega) (by omega)]; omega
        obtain ⟨m8, y1, y2⟩ := far_spec (m := m7) (x := x)
        have st8 := st7.nx y2
        obtain ⟨a, c5, hv, l6, _⟩ := act_at (rd' st7.fm) hx
        obtain ⟨a', c6, hv', l6', o, hgo, hk0, hk5⟩ := act_at (rd' st8.fm) hx
        cases hv
        cases hv'
        have skip : StB (fun y => (y ∈ G5 ∨ y ∈ H) ∨ m5.next ≤ y) m5 m8 (Pt m.next) (Pt m1.next) W3 R3 V3 T3 (120 * (kk + 1) + (i3 + 1)) := st8.le (by omega)
        obtain ⟨v, m9, d1, st9⟩ := st8.step (x := x) (fun y hy => .inr hy) (by omega) hxw
        cases hfar : farA x with
        | true =>
          rw [hfar] at y1
          simp only [symA, go_opsd, symB, wantedX, X.put, X.look, Arg.ev, keepOf, restrict, evs, evO, initEnv, xres, tup, noTup, cls, quiet, Nat.reduceAdd, Nat.reduceEqDiff, ↓reduceIte, reduceCtorEq, goInt, exists_eq_left', eq_self, Int.reduceLT, Int.reduceLE, Int.reduceEq, Int.reduceNeg, Int.reduceAdd, Int.reduceSub, forall_const, ne_eq, undef, Nat.reducePow, Nat.reduceDiv, Nat.reduceMod, hlt3', hlt3, hlm3', l6, goR_call y1, w1]
          exact hN3 _ _ (ys.length - (i3 + 1)) (by omega) ⟨i3 + 1, W3, R3, V3, T3, by omega, by omega, rfl, skip, hm3, hm4, rfl⟩
        | false =>
          rw [hfar] at y1
          by_cases hk4 : x.kind = 4
          · by_cases hnn : x.n < ((R.length + 1 : Nat) : Int)
            · simp only [symA, go_opsd, symB, wantedX, X.put, X.look, Arg.ev, keepOf, restrict, evs, evO, initEnv, xres, tup, noTup, cls, quiet, Nat.reduceAdd, Nat.reduceEqDiff, ↓reduceIte, reduceCtorEq, goInt, exists_eq_left', eq_self, Int.reduceLT, Int.reduceLE, Int.reduceEq, Int.reduceNeg, Int.reduceAdd, Int.reduceSub, forall_const, ne_eq, undef, Nat.reducePow, Nat.reduceDiv, Nat.reduceMod, hlt3', hlt3, hlm3', l6, goR_call y1, hgo, hk0, hk5, hk4, hnn, w1]
              exact hN3 _ _ (ys.length - (i3 + 1)) (by omega) ⟨i3 + 1, W3, R3, V3, T3, by omega, by omega, rfl, skip, hm3, hm4, rfl⟩
            · obtain ⟨z1, z2⟩ := mark_stays (W := W3) (x := x) hm3 hm4 (fun q => hnn q.2)
              simp only [symA, go_opsd, symB, wantedX, X.put, X.look, Arg.ev, keepOf, restrict, evs, evO, initEnv, xres, tup, noTup, cls, quiet, Nat.reduceAdd, Nat.reduceEqDiff, ↓reduceIte, reduceCtorEq, goInt, exists_eq_left', eq_self, Int.reduceLT, Int.reduceLE, Int.reduceEq, Int.reduceNeg, Int.reduceAdd, Int.reduceSub, forall_const, ne_eq, undef, Nat.reducePow, Nat.reduceDiv, Nat.reduceMod, hlt3', hlt3, hlm3', l6, goR_call y1, hgo, hk0, hk5, hk4, hnn, l6', goR_call d1, w1]
              exact hN3 _ _ (ys.length - (i3 + 1)) (by omega) ⟨i3 + 1, _, _, _, _, by omega, by omega, rfl, st9, z1, z2, rfl⟩
          · obtain ⟨z1, z2⟩ := mark_stays (W := W3) (x := x) hm3 hm4 (fun q => hk4 q.1)
            simp only [symA, go_opsd, symB, wantedX, X.put, X.look, Arg.ev, keepOf, restrict, evs, evO, initEnv, xres, tup, noTup, cls, quiet, Nat.reduceAdd, Nat.reduceEqDiff, ↓reduceIte, reduceCtorEq, goInt, exists_eq_left', eq_self, Int.reduceLT, Int.reduceLE, Int.reduceEq, Int.reduceNeg, Int.reduceAdd, Int.reduceSub, forall_const, ne_eq, undef, Nat.reducePow, Nat.reduceDiv, Nat.reduceMod, hlt3', hlt3, hlm3', l6, goR_call y1, hgo, hk0, hk4, l6', goR_call d1, w1]
            exact hN3 _ _ (ys.length - (i3 + 1)) (by omega) ⟨i3 + 1, _, _, _, _, by omega, by omega, rfl, st9, z1, z2, rfl⟩
      · -- back
        obtain ⟨G7, H7, hS7, hD7, hg7, dis7, hGH7, hf7⟩ := st7
        obtain ⟨m8, G8, b1, b2, b3, b4⟩ := back_spec (n := ((R.length + 1 : Nat) : Int)) hS7 (by omega)
        have eb : backR ((R.length + 1 : Nat) : Int) W3 R3 = (0, W, R3.take (R.length + 1)) := by
          unfold backR
          rw [if_neg (by omega), Int.toNat_natCast, Nat.add_sub_cancel, hm4]; rfl
        rw [eb] at b1 b2
        simp only [Int.natCast_zero] at b1
        have b2 : SetP G8 m8 (Pt m.next) W (R3.take (R.length + 1)) (120 * (kk + 1) + i3) := b2
        obtain ⟨now, m9, F9, d1, d2, d3, d4⟩ := all_call b2
        have hS9 := b2.nx d4
        have hmk9 := marks_call hS9
        have f59 : Fm (fun y => (y ∈ G5 ∨ y ∈ H) ∨ m5.next ≤ y) m5 m9 := (hf7.comp b3 fun y _ hy => hGH7 y (.inl hy)).comp d4 fun _ _ h => h.elim
        have was9 := was5.fr f59 hF5
        have hsame := sameW_call (d2.rd (by omega)) (was9.rd (by omega)) (by omega)
        have hss : decide (W = W) = true := decide_eq_true rfl
        rw [hss] at hsame
        have hlen : ((R3.take (R.length + 1)).length : Int) = ((R.length + 1 : Nat) : Int) := by rw [List.length_take]; omega
        rw [hlen] at hmk9
        obtain ⟨qn, cn, hvn⟩ := own_slice d2 (by omega)
        have n8 := b3.next
        have n7 := hf7.next
        have dis8 : ∀ y ∈ G8, y ∉ H7 := fun y hy q => (b4 y hy).elim (fun h => dis7 y h q) fun h => by have := hD7.lt y q; omega
        have hD9 : RefP H7 m9 (Pt m1.next) V3 T3 := (hD7.fr b3 fun y hy q => dis7 y q hy).nx d4
        have st9 : StB (fun y => (y ∈ G5 ∨ y ∈ H) ∨ m5.next ≤ y) m5 m9 (Pt m.next) (Pt m1.next) W (R3.take (R.length + 1)) V3 T3 (120 * (kk + 1 + 1)) :=
          ⟨G8, H7, hS9.le (by omega), hD9, hg7, dis8, fun y hy => hy.elim (fun hy => (b4 y hy).elim (fun h => hGH7 y (.inl h)) fun h => .inr (by omega)) fun hy => hGH7 y (.inr hy), f59⟩
        have w2 : IntKind.i64.wrap ((kk : Int) + 1) = ((kk + 1 : Nat) : Int) := by rw [wrap_i64 (by omega) (by omega)]; omega
        have next : N2 [(1, .slice p' ys.length c'), (5, Pt m.next), (6, Pt m1.next), (8, .slice qw W.length cw), (9, I ((R.length + 1 : Nat) : Int)), (11, I ((kk + 1 : Nat) : Int))] m9 :=
          hN2 _ _ (2 - (kk + 1)) (by omega) ⟨kk + 1, W, R3.take (R.length + 1), V3, T3, by omega, rfl, st9, by rw [List.length_take]; omega, by rw [List.getElem?_take, if_pos (by omega)]; exact hm4, rfl⟩
        rcases Nat.lt_or_ge i3 ys.length with hlt3 | hlt3
        · have hlm3' : ¬ (i3 : Int) < 120 := by omega
          have hlt3' : (i3 : Int) < (ys.length : Int) := by omega
          simp only [symA, go_opsd, symB, wantedX, X.put, X.look, Arg.ev, keepOf, restrict, evs, evO, initEnv, xres, tup, noTup, cls, quiet, Nat.reduceAdd, Nat.reduceEqDiff, ↓reduceIte, reduceCtorEq, goInt, exists_eq_left', eq_self, Int.reduceLT, Int.reduceLE, Int.reduceEq, Int.reduceNeg, Int.reduceAdd, Int.reduceSub, forall_const, ne_eq, undef, Nat.reducePow, Nat.reduceDiv, Nat.reduceMod, hlt3', hlm3']
          refine hB3 _ _ _ ?_
          simp only [symA, go_opsd, symB, wantedX, X.put, X.look, Arg.ev, keepOf, restrict, evs, evO, initEnv, xres, tup, noTup, cls, quiet, Nat.reduceAdd, Nat.reduceEqDiff, ↓reduceIte, reduceCtorEq, goInt, exists_eq_left', eq_self, Int.reduceLT, Int.reduceLE, Int.reduceEq, Int.reduceNeg, Int.reduceAdd, Int.reduceSub, forall_const, ne_eq, undef, Nat.reducePow, Nat.reduceDiv, Nat.reduceMod, goR_call b1, goR_call d1, goR_call hsame, goR_call hmk9, w2]
          exact next
        · have hlt3' : ¬ (i3 : Int) < (ys.length : Int) := by omega
          simp only [symA, go_opsd, symB, wantedX, X.put, X.look, Arg.ev, keepOf, restrict, evs, evO, initEnv, xres, tup, noTup, cls, quiet, Nat.reduceAdd, Nat.reduceEqDiff, ↓reduceIte, reduceCtorEq, goInt, exists_eq_left', eq_self, Int.reduceLT, Int.reduceLE, Int.reduceEq, Int.reduceNeg, Int.reduceAdd, Int.reduceSub, forall_const, ne_eq, undef, Nat.reducePow, Nat.reduceDiv, Nat.reduceMod, hlt3']
          refine hB3 _ _ _ ?_
          simp only [symA, go_opsd, symB, wantedX, X.put, X.look, Arg.ev, keepOf, restrict, evs, evO, initEnv, xres, tup, noTup, cls, quiet, Nat.reduceAdd, Nat.reduceEqDiff, ↓reduceIte, reduceCtorEq, goInt, exists_eq_left', eq_self, Int.reduceLT, Int.reduceLE, Int.reduceEq, Int.reduceNeg, Int.reduceAdd, Int.reduceSub, forall_const, ne_eq, undef, Nat.reducePow, Nat.reduceDiv, Nat.reduceMod, goR_call b1, goR_call d1, goR_call hsame, goR_call hmk9, w2]
          exact next
    · have hk2' : ¬ (kk : Int) < 2 := by omega
      simp only [symA, go_opsd, symB, wantedX, X.put, X.look, Arg.ev, keepOf, restrict, evs, evO, initEnv, xres, tup, noTup, cls, quiet, Nat.reduceAdd, Nat.reduceEqDiff, ↓reduceIte, reduceCtorEq, goInt, exists_eq_left', eq_self, Int.reduceLT, Int.reduceLE, Int.reduceEq, Int.reduceNeg, Int.reduceAdd, Int.reduceSub, forall_const, ne_eq, undef, Nat.reducePow, Nat.reduceDiv, Nat.reduceMod, hk2']
      refine hB2 _ _ _ ?_
      simp only [symA, go_opsd, symB, wantedX, X.put, X.look, Arg.ev, keepOf, restrict, evs, evO, initEnv, xres, tup, noTup, cls, quiet, Nat.reduceAdd, Nat.reduceEqDiff, ↓reduceIte, reduceCtorEq, goInt, exists_eq_left', eq_self, Int.reduceLT, Int.reduceLE, Int.reduceEq, Int.reduceNeg, Int.reduceAdd, Int.reduceSub, forall_const, ne_eq, undef, Nat.reducePow, Nat.reduceDiv, Nat.reduceMod]
      exact hQ _ _ _ rfl rfl

theorem wsetBack_args {H : Type} (ds : List (DataW H)) (h : wfEach Try.prog ds Try.f3.params.toList) : ∃ (d0 d1 : DataW H), ds = [d0, d1] ∧ wfD Try.prog d0 22 ∧ wfD Try.prog d1 22 := by
  rw [Try.params3] at h
  obtain ⟨d0, r, rfl, h0, h⟩ := wf_more h
  obtain ⟨d1, rfl, h1⟩ := wf_one h
  exact ⟨d0, d1, rfl, h0, h1⟩

theorem wsetBack_lifted (os : Os) (started : os.Started) (H : Type) (enc : TypeId × Value → H) :
    ReturnsInHanded {} Try.checked os 3 .any (Rows.wsetBackSpec.pre6 enc Try.prog Try.f3 Rows.wsetBackRow.domain false) (Rows.wsetBackSpec.post enc Try.prog Try.f3 false true false false) := by
  refine returnsInHanded_of_change (C := Try.checked) own started (by kernel_rfl) Try.func3
    (ChangeSpec.witness6 (enc := enc) (C := Try.checked) false ⟨#[], #[.slice none 0 0, .slice none 0 0], []⟩ 8 (by kernel_rfl) (by kernel_rfl) (by kernel_rfl) (by kernel_rfl)) ?_
  intro W base args ds gs before hval0 hW hcnd _
  refine law_contract mixed tabK_is (f := 3) rfl (k := 10) (by rw [← List.all_eq_true]; kernel_rfl) (fun t ht => ?_) laid rfl (by kernel_rfl) rfl ?_ ?_ H enc W base args ds gs before hval0 hW
  · have : (Try.f3.params.toList.all fun t => Try.prog.readableRec t && decide (t < Try.prog.types.size)) = true := by kernel_rfl
    have := List.all_eq_true.1 this t ht
    simp only [Bool.and_eq_true, decide_eq_true_eq] at this
    exact this
  · intro H ds hd
    obtain ⟨_, _, rfl, _⟩ := wsetBack_args ds hd
    rfl
  · intro H ds hd
    obtain ⟨d0, d1, rfl, h0, h1⟩ := wsetBack_args ds hd
    obtain ⟨x0, v0, a0, b0, c0⟩ := abs_acts (m := Mem.empty) h0
    obtain ⟨M0, hM0⟩ : ∃ M, (absD Try.prog d0 22 Mem.empty).2 = M := ⟨_, rfl⟩
    rw [hM0] at b0 c0
    obtain ⟨x1, v1, a1, b1, c1⟩ := abs_acts (m := M0) h1
    obtain ⟨M1, hM1⟩ : ∃ M, (absD Try.prog d1 22 M0).2 = M := ⟨_, rfl⟩
    rw [hM1] at b1 c1
    have ha : absArgs Try.prog [d0, d1] Try.f3.params.toList Mem.empty = ([argVal Try.prog 22 (absD Try.prog d0 22 Mem.empty).1, argVal Try.prog 22 (absD Try.prog d1 22 (absD Try.prog d0 22 Mem.empty).2).1], (absD Try.prog d1 22 (absD Try.prog d0 22 Mem.empty).2).2) := by kernel_rfl
    rw [ha, hM0, hM1, a0, a1]
    have q22 : ∀ v, argVal Try.prog 22 [v] = v := fun v => by kernel_rfl
    rw [q22, q22]
    obtain ⟨v, m', ⟨k, hk⟩, rfl⟩ := wsetBack_run  (b := M1.next) (acts_last c0 b1) c1 (Nat.le_refl _)
    exact ⟨k, m', hk⟩

theorem wsetBack_holds : Rows.WsetBackSaid :=
  OpenClaim.holds_of_wide 3 Try.f3 rfl rfl rfl rfl rfl rfl rfl ⟨rfl, rfl, rfl, rfl, rfl⟩ rfl rfl rfl rfl rfl (by kernel_rfl) Try.func3 (by kernel_rfl)
    (of_decide_eq_true (by kernel_rfl)) (by unfold Func.isWrapper; first | (rw [if_pos (by decide +kernel)]; kernel_rfl) | (rw [if_neg (by decide +kernel)]; exact ⟨rfl, rfl⟩))
    (fun os started H enc _ => wsetBack_lifted os started H enc)


end Go.Proofs.Ytecceimgpeookaa
