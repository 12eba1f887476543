/-
  Own work. A call on both sets: they answer alike, and stand alike behind it.
-/
import Derived.Test.YtecceimgpeookaaVA
namespace Go.Proofs.Ytecceimgpeookaa
open Go X
set_option maxRecDepth 100000
attribute [local irreducible] X.Go' X.GoO X.GoR X.GoG X.GoC X.GoF X.GoFV X.GoFG X.Ex X.GoD X.GoDV X.GoDG
set_option linter.unusedVariables false
set_option linter.unusedSimpArgs false

structure Act where
  kind : Int
  key : ByteArray
  num : Bool
  text : ByteArray
  bits : Nat
  n : Int
abbrev Act.row (x : Act) : List Value := [I x.kind, .string x.key, .bool x.num, .string x.text, U (x.bits : Int), I x.n]
structure Act.Wf (x : Act) : Prop where
  bits : x.bits < 18446744073709551616
def farA (x : Act) : Bool := decide (200 < x.key.size) || decide (200 < x.text.size)
def Act.put (x : Act) : Wr := putW x.key x.num x.text x.bits
/-- A call on the plain set. -/
def stepA (x : Act) (s : List Wr × List (List Wr)) : List Wr × List (List Wr) :=
  if x.kind = 1 then ((writeR x.put s.1).2, s.2) else if x.kind = 2 then ((writeR (delW x.key) s.1).2, s.2) else if x.kind = 3 then (s.1, (markR s.1 s.2).2.2) else if x.kind = 4 then (backR x.n s.1 s.2).2 else s

section
variable {G H : List Nat} {m m' m2 m3 : Mem} {s d : Value} {W W' : List Wr} {R R' : List (List Wr)} {c c' : Nat} {x : Act}
theorem far_spec : ∃ m', Ca 10 [.agg ⟨x.row⟩] m (.bool (farA x)) m' ∧ Nx m m' := by
  refine ⟨m.push { cells := x.row, rw := true, spare := none, kin := [] }, callX_of (call_go (F := _) rfl rfl fun Q hQ => ?_), .push⟩
  by_cases h1 : (200 : Int) < (x.key.size : Int)
  · have e : farA x = true := by
      have : 200 < x.key.size := by omega
      simp [farA, this]
    rw [e] at hQ
    simp only [symA, go_opsd, symB, wantedX, X.put, X.look, Arg.ev, keepOf, restrict, evs, evO, initEnv, xres, tup, noTup, cls, quiet, Nat.reduceAdd, Nat.reduceEqDiff, ↓reduceIte, reduceCtorEq, goInt, exists_eq_left', eq_self, Int.reduceLT, Int.reduceLE, Int.reduceEq, Int.reduceNeg, Int.reduceAdd, Int.reduceSub, forall_const, ne_eq, undef, Nat.reducePow, Nat.reduceDiv, Nat.reduceMod, calc_len, h1]
    exact hQ _ _ _ rfl ⟨rfl, rfl⟩
  · by_cases h2 : (200 : Int) < (x.text.size : Int)
    · have e : farA x = true := by
        have : 200 < x.text.size := by omega
        simp [farA, this]
      rw [e] at hQ
      simp only [symA, go_opsd, symB, wantedX, X.put, X.look, Arg.ev, keepOf, restrict, evs, evO, initEnv, xres, tup, noTup, cls, quiet, Nat.reduceAdd, Nat.reduceEqDiff, ↓reduceIte, reduceCtorEq, goInt, exists_eq_left', eq_self, Int.reduceLT, Int.reduceLE, Int.reduceEq, Int.reduceNeg, Int.reduceAdd, Int.reduceSub, forall_const, ne_eq, undef, Nat.reducePow, Nat.reduceDiv, Nat.reduceMod, calc_len, h1, h2]
      exact hQ _ _ _ rfl ⟨rfl, rfl⟩
    · have e : farA x = false := by
        have a1 : ¬ 200 < x.key.size := by omega
        have a2 : ¬ 200 < x.text.size := by omega
        simp [farA, a1, a2]
      rw [e] at hQ
      simp only [symA, go_opsd, symB, wantedX, X.put, X.look, Arg.ev, keepOf, restrict, evs, evO, initEnv, xres, tup, noTup, cls, quiet, Nat.reduceAdd, Nat.reduceEqDiff, ↓reduceIte, reduceCtorEq, goInt, exists_eq_left', eq_self, Int.reduceLT, Int.reduceLE, Int.reduceEq, Int.reduceNeg, Int.reduceAdd, Int.reduceSub, forall_const, ne_eq, undef, Nat.reducePow, Nat.reduceDiv, Nat.reduceMod, calc_len, h1, h2]
      exact hQ _ _ _ rfl ⟨rfl, rfl⟩

theorem SetP.rs (h : SetP G m s W R c) : ∀ S ∈ R, SortW S ∧ S.length ≤ 16 := by
  obtain ⟨p, vl, vu, vm, FL, FU, FM, us, Mk, h1, h2, h3, h4⟩ := h
  exact h3.rs
/-- Both stand there, apart. -/
structure Both (G H : List Nat) (m : Mem) (s d : Value) (W : List Wr) (R : List (List Wr)) (c : Nat) : Prop where
  set : SetP G m s W R c
  ref : RefP H m d W R
  dis : ∀ i ∈ G, i ∉ H
theorem Both.nx (h : Both G H m s d W R c) (f : Nx m m') : Both G H m' s d W R c := ⟨h.set.nx f, h.ref.nx f, h.dis⟩
theorem Both.le (h : Both G H m s d W R c) (hc : c ≤ c') : Both G H m s d W R c' := ⟨h.set.le hc, h.ref, h.dis⟩
theorem Both.refA (h : Both G H m s d W R c) (f : Fm (· ∈ G) m m2) : RefP H m2 d W R := h.ref.fr f fun i hi hg => h.dis i hg hi
theorem Both.step {G' H' : List Nat} (b : Both G H m s d W R c) (hA : SetP G' m2 s W' R' c') (fA : Fm (· ∈ G) m m2) (nA : ∀ i ∈ G', i ∈ G ∨ m.next ≤ i) (hB : RefP H' m3 d W' R') (fB : Fm (· ∈ H) m2 m3) (nB : ∀ i ∈ H', i ∈ H ∨ m2.next ≤ i) :
    Both G' H' m3 s d W' R' c' ∧ Fm (fun i => i ∈ G ∨ i ∈ H) m m3 ∧ ∀ i, i ∈ G' ∨ i ∈ H' → (i ∈ G ∨ i ∈ H) ∨ m.next ≤ i := by
  have hG := hA.lt
  have hH := b.ref.lt
  have hn := fA.next
  have d1 : ∀ i ∈ G', i ∉ H := fun i hi q => (nA i hi).elim (fun h => b.dis i h q) fun h => by have := hH i q; omega
  refine ⟨⟨hA.fr fB fun i hi q => d1 i hi q, hB, fun i hi q => (nB i q).elim (d1 i hi) fun h => by have := hG i hi; omega⟩, (fA.mono fun _ _ h => .inl h).comp fB fun _ _ h => .inr h, fun i hi => ?_⟩
  rcases hi with hi | hi
  · exact (nA i hi).imp .inl id
  · exact (nB i hi).imp .inr fun h => by omega

theorem buildA {m : Mem} {k t : ByteArray} {n : Bool} {b : Nat} : buildE m ZW [(0, 1), (1, 1), (2, 3)] [(0, .string k), (2, .agg ⟨valL n t b⟩)] = some (.val (.agg ⟨(putW k n t b).row⟩) m) := buildPut
theorem does_spec (b : Both G H m s d W R c) (hc : c ≤ 700) (hx : x.Wf) :
    ∃ m' G' H', Ca 11 [s, d, .agg ⟨x.row⟩] m (.bool true) m' ∧ Both G' H' m' s d (stepA x (W, R)).1 (stepA x (W, R)).2 (c + 1) ∧ Fm (fun i => i ∈ G ∨ i ∈ H) m m' ∧ ∀ i, i ∈ G' ∨ i ∈ H' → (i ∈ G ∨ i ∈ H) ∨ m.next ≤ i := by
  obtain ⟨m1, hm1⟩ : ∃ m1, m.push { cells := x.row, rw := true, spare := none, kin := [] } = m1 := ⟨_, rfl⟩
  have f1 : Nx m m1 := hm1 ▸ .push
  have n1 : m1.next = m.next + 1 := by rw [← hm1]; simp
  have g1 : m1.get m.next = some { cells := x.row, rw := true, spare := none, kin := [] } := by rw [← hm1, push_self]
  have b1 := b.nx f1
  have hG := b.set.lt
  have hH := b.ref.lt
  obtain ⟨hso, h16, hR4⟩ := b.set.sort
  have lv : ∀ {m : Mem} {p : Nat}, m.get p = some { cells := x.row, rw := true, spare := none, kin := [] } → ldA m 3 (.pointer (some ⟨p, 2, none⟩)) = some (.val (.agg ⟨valL x.num x.text x.bits⟩) m) := fun hg => by simp [ldA, xload, hg]
  have fin : ∀ {m' : Mem} {G' H' : List Nat} {W' : List Wr} {R' : List (List Wr)}, Both G' H' m' s d W' R' (c + 1) ∧ Fm (fun i => i ∈ G ∨ i ∈ H) m1 m' ∧ (∀ i, i ∈ G' ∨ i ∈ H' → (i ∈ G ∨ i ∈ H) ∨ m1.next ≤ i) → Both G' H' m' s d W' R' (c + 1) ∧ Fm (fun i => i ∈ G ∨ i ∈ H) m m' ∧ ∀ i, i ∈ G' ∨ i ∈ H' → (i ∈ G ∨ i ∈ H) ∨ m.next ≤ i := fun h =>
    ⟨h.1, (f1.mono fun _ _ h => h.elim).trans h.2.1, fun i hi => (h.2.2 i hi).imp id fun h => by omega⟩
  have keep : ∀ {m2 : Mem}, Fm (· ∈ G) m1 m2 → m2.get m.next = some { cells := x.row, rw := true, spare := none, kin := [] } := fun f => f.get (by omega) (fun h => by have := hG _ h; omega) g1
  by_cases k1 : x.kind = 1
  · have e : stepA x (W, R) = ((writeR x.put W).2, R) := by unfold stepA; rw [if_pos k1]
    rw [e]
    obtain ⟨m2, G2, p1, p2, p3, p4⟩ := put_spec (k := x.key) (n := x.num) (t := x.text) (b := x.bits) b1.set (by omega) hx.bits
    obtain ⟨m3, H3, q1, q2, q3, q4⟩ := rwrite_call (w := putW x.key x.num x.text x.bits) (b1.refA p3) hso h16 hx.bits
    have g2 := keep p3
    refine ⟨m3, G2, H3, callX_of (call_go (F := _) rfl rfl fun Q hQ => ?_), fin (b1.step p2 p3 p4 q2 q3 q4)⟩
    have l1 := lv g1
    have l2 := lv g2
    simp only [symA, go_opsd, symB, wantedX, X.put, X.look, Arg.ev, keepOf, restrict, evs, evO, initEnv, xres, tup, noTup, cls, quiet, Nat.reduceAdd, Nat.reduceEqDiff, ↓reduceIte, reduceCtorEq, goInt, exists_eq_left', eq_self, Int.reduceLT, Int.reduceLE, Int.reduceEq, Int.reduceNeg, Int.reduceAdd, Int.reduceSub, forall_const, ne_eq, undef, Nat.reducePow, Nat.reduceDiv, Nat.reduceMod, hm1, g1, k1, l1, buildA, goDV3c p1, g2, l2, goDV3c q1]
    exact hQ _ _ _ rfl ⟨rfl, rfl⟩
  by_cases k2 : x.kind = 2
  · have e : stepA x (W, R) = ((writeR (delW x.key) W).2, R) := by unfold stepA; rw [if_neg k1, if_pos k2]
    rw [e]
    obtain ⟨m2, G2, p1, p2, p3, p4⟩ := del_call (k := x.key) b1.set (by omega)
    obtain ⟨m3, H3, q1, q2, q3, q4⟩ := rwrite_call (w := delW x.key) (b1.refA p3) hso h16 (by show 0 < _; omega)
    have g2 := keep p3
    refine ⟨m3, G2, H3, callX_of (call_go (F := _) rfl rfl fun Q hQ => ?_), fin (b1.step p2 p3 p4 q2 q3 q4)⟩
    simp only [symA, go_opsd, symB, wantedX, X.put, X.look, Arg.ev, keepOf, restrict, evs, evO, initEnv, xres, tup, noTup, cls, quiet, Nat.reduceAdd, Nat.reduceEqDiff, ↓reduceIte, reduceCtorEq, goInt, exists_eq_left', eq_self, Int.reduceLT, Int.reduceLE, Int.reduceEq, Int.reduceNeg, Int.reduceAdd, Int.reduceSub, forall_const, ne_eq, undef, Nat.reducePow, Nat.reduceDiv, Nat.reduceMod, hm1, g1, k2, buildDel, goDV3c p1, g2, goDV3c q1]
    exact hQ _ _ _ rfl ⟨rfl, rfl⟩
  by_cases k3 : x.kind = 3
  · have e : stepA x (W, R) = (W, (markR W R).2.2) := by unfold stepA; rw [if_neg k1, if_neg k2, if_pos k3]
    rw [e]
    obtain ⟨m2, G2, p1, p2, p3, p4⟩ := mark_spec b1.set (by omega)
    obtain ⟨m3, H3, q1, q2, q3, q4⟩ := rmark_spec (b1.refA p3) h16 hR4
    refine ⟨m3, G2, H3, callX_of (call_go (F := _) rfl rfl fun Q hQ => ?_), fin (b1.step (p2.le (by omega)) p3 p4 q2 q3 q4)⟩
    simp only [symA, go_opsd, symB, wantedX, X.put, X.look, Arg.ev, keepOf, restrict, evs, evO, initEnv, xres, tup, noTup, cls, quiet, Nat.reduceAdd, Nat.reduceEqDiff, ↓reduceIte, reduceCtorEq, goInt, exists_eq_left', eq_self, Int.reduceLT, Int.reduceLE, Int.reduceEq, Int.reduceNeg, Int.reduceAdd, Int.reduceSub, forall_const, ne_eq, undef, Nat.reducePow, Nat.reduceDiv, Nat.reduceMod, hm1, g1, k3, goR_call p1, goR_call q1]
    exact hQ _ _ _ rfl ⟨rfl, rfl⟩
  by_cases k4 : x.kind = 4
  · have e : stepA x (W, R) = (backR x.n W R).2 := by unfold stepA; rw [if_neg k1, if_neg k2, if_neg k3, if_pos k4]
    rw [e]
    obtain ⟨m2, G2, p1, p2, p3, p4⟩ := back_spec (n := x.n) b1.set (by omega)
    obtain ⟨m3, H3, q1, q2, q3, q4⟩ := rback_spec (n := x.n) (b1.refA p3) hR4 (fun S hS => (b.set.rs S hS).2)
    have g2 := keep p3
    refine ⟨m3, G2, H3, callX_of (call_go (F := _) rfl rfl fun Q hQ => ?_), fin (b1.step (p2.le (by omega)) p3 p4 q2 q3 q4)⟩
    simp only [symA, go_opsd, symB, wantedX, X.put, X.look, Arg.ev, keepOf, restrict, evs, evO, initEnv, xres, tup, noTup, cls, quiet, Nat.reduceAdd, Nat.reduceEqDiff, ↓reduceIte, reduceCtorEq, goInt, exists_eq_left', eq_self, Int.reduceLT, Int.reduceLE, Int.reduceEq, Int.reduceNeg, Int.reduceAdd, Int.reduceSub, forall_const, ne_eq, undef, Nat.reducePow, Nat.reduceDiv, Nat.reduceMod, hm1, g1, k4, goDV3c p1, g2, goDV3c q1]
    exact hQ _ _ _ rfl ⟨rfl, rfl⟩
  · have e : stepA x (W, R) = (W, R) := by unfold stepA; rw [if_neg k1, if_neg k2, if_neg k3, if_neg k4]
    rw [e]
    refine ⟨m1, G, H, callX_of (call_go (F := _) rfl rfl fun Q hQ => ?_), b1.le (by omega), f1.mono fun _ _ h => h.elim, fun i hi => .inl hi⟩
    simp only [symA, go_opsd, symB, wantedX, X.put, X.look, Arg.ev, keepOf, restrict, evs, evO, initEnv, xres, tup, noTup, cls, quiet, Nat.reduceAdd, Nat.reduceEqDiff, ↓reduceIte, reduceCtorEq, goInt, exists_eq_left', eq_self, Int.reduceLT, Int.reduceLE, Int.reduceEq, Int.reduceNeg, Int.reduceAdd, Int.reduceSub, forall_const, ne_eq, undef, Nat.reducePow, Nat.reduceDiv, Nat.reduceMod, hm1, g1, k1, k2, k3, k4]
    exact hQ _ _ _ rfl ⟨rfl, rfl⟩
end
end Go.Proofs.Ytecceimgpeookaa
