/-
  Own work. A call on both sets, wherever they stand.
-/
import Derived.Test.YtecceimgpeookaaVC
namespace Go.Proofs.Ytecceimgpeookaa
open Go X
set_option maxRecDepth 100000
attribute [local irreducible] X.Go' X.GoO X.GoR X.GoG X.GoC X.GoF X.GoFV X.GoFG X.Ex X.GoD X.GoDV X.GoDG
set_option linter.unusedVariables false
set_option linter.unusedSimpArgs false

structure Good (W : List Wr) (R : List (List Wr)) : Prop where
  sort : SortW W
  len : W.length ≤ 16
  m4 : R.length ≤ 4
  rs : ∀ S ∈ R, SortW S ∧ S.length ≤ 16
section
variable {G H : List Nat} {m m' m2 m3 : Mem} {s d : Value} {W V : List Wr} {R T : List (List Wr)} {c : Nat} {x : Act} {w : Wr}
theorem Good.write (h : Good W R) : Good (writeR w W).2 R := by
  obtain ⟨A, o, B, hc⟩ := cut_ex (k := w.key) h.sort
  unfold writeR
  split
  · exact h
  · split
    · exact h
    · rename_i h16; exact ⟨hc.sort h.sort, by show (layW w true W).length ≤ 16; omega, h.m4, h.rs⟩
theorem Good.step (h : Good W R) : Good (stepA x (W, R)).1 (stepA x (W, R)).2 := by
  unfold stepA
  split
  · exact h.write
  · split
    · exact h.write
    · split
      · unfold markR
        split
        · exact h
        · rename_i hk
          have hk : ¬ 4 ≤ R.length := hk
          refine ⟨h.sort, h.len, by simp; omega, fun S hS => ?_⟩
          rcases List.mem_append.1 hS with hS | hS
          · exact h.rs S hS
          · simp at hS; subst hS; exact ⟨h.sort, h.len⟩
      · split
        · unfold backR
          split
          · exact h
          · rename_i hn
            have hn : ¬ (x.n < 1 ∨ (R.length : Int) < x.n) := hn
            have hlt : x.n.toNat - 1 < R.length := by omega
            have he : (R[x.n.toNat - 1]?).getD [] = R[x.n.toNat - 1] := by rw [List.getElem?_eq_getElem hlt]; rfl
            have := h.rs _ (List.getElem_mem hlt)
            refine ⟨by rw [he]; exact this.1, by rw [he]; exact this.2, by rw [List.length_take]; have := h.m4; omega, fun S hS => h.rs S (List.mem_of_mem_take hS)⟩
        · exact h
theorem does_any (hS : SetP G m s W R c) (hD : RefP H m d V T) (hg : Good V T) (dis : ∀ i ∈ G, i ∉ H) (hc : c ≤ 700) (hx : x.Wf) :
    ∃ v m' G' H', Ca 11 [s, d, .agg ⟨x.row⟩] m v m' ∧ SetP G' m' s (stepA x (W, R)).1 (stepA x (W, R)).2 (c + 1) ∧ RefP H' m' d (stepA x (V, T)).1 (stepA x (V, T)).2 ∧ (∀ i ∈ G', i ∉ H') ∧ Fm (fun i => i ∈ G ∨ i ∈ H) m m' ∧ ∀ i, i ∈ G' ∨ i ∈ H' → (i ∈ G ∨ i ∈ H) ∨ m.next ≤ i := by
  obtain ⟨m1, hm1⟩ : ∃ m1, m.push { cells := x.row, rw := true, spare := none, kin := [] } = m1 := ⟨_, rfl⟩
  have f1 : Nx m m1 := hm1 ▸ .push
  have n1 : m1.next = m.next + 1 := by rw [← hm1]; simp
  have g1 : m1.get m.next = some { cells := x.row, rw := true, spare := none, kin := [] } := by rw [← hm1, push_self]
  have hS1 := hS.nx f1
  have hD1 := hD.nx f1
  have hG := hS.lt
  have hH := hD.lt
  have lv : ∀ {m : Mem} {p : Nat}, m.get p = some { cells := x.row, rw := true, spare := none, kin := [] } → ldA m 3 (.pointer (some ⟨p, 2, none⟩)) = some (.val (.agg ⟨valL x.num x.text x.bits⟩) m) := fun hg => by simp [ldA, xload, hg]
  have keep : ∀ {m2 : Mem}, Fm (· ∈ G) m1 m2 → m2.get m.next = some { cells := x.row, rw := true, spare := none, kin := [] } := fun f => f.get (by omega) (fun h => by have := hG _ h; omega) g1
  have refA : ∀ {m2 : Mem}, Fm (· ∈ G) m1 m2 → RefP H m2 d V T := fun f => hD1.fr f fun i hi hg => dis i hg hi
  have fin : ∀ {m2 m3 : Mem} {G' H' : List Nat} {W' V' : List Wr} {R' T' : List (List Wr)} {c' : Nat}, SetP G' m2 s W' R' c' → Fm (· ∈ G) m1 m2 → (∀ i ∈ G', i ∈ G ∨ m1.next ≤ i) → RefP H' m3 d V' T' → Fm (· ∈ H) m2 m3 → (∀ i ∈ H', i ∈ H ∨ m2.next ≤ i) → c' ≤ c + 1 →
      SetP G' m3 s W' R' (c + 1) ∧ RefP H' m3 d V' T' ∧ (∀ i ∈ G', i ∉ H') ∧ Fm (fun i => i ∈ G ∨ i ∈ H) m m3 ∧ ∀ i, i ∈ G' ∨ i ∈ H' → (i ∈ G ∨ i ∈ H) ∨ m.next ≤ i := fun {m2 m3 G' H' W' V' R' T' c'} hA fA nA hB fB nB hcc => by
    have hG' := hA.lt
    have hn := fA.next
    have d1 : ∀ i ∈ G', i ∉ H := fun i hi q => (nA i hi).elim (fun h => dis i h q) fun h => by have := hH i q; omega
    refine ⟨(hA.fr fB fun i hi q => d1 i hi q).le hcc, hB, fun i hi q => (nB i q).elim (d1 i hi) fun h => by have := hG' i hi; omega, ((f1.mono fun _ _ h => h.elim).trans (fA.mono fun _ _ h => .inl h)).comp fB fun _ _ h => .inr h, fun i hi => ?_⟩
    rcases hi with hi | hi
    · exact (nA i hi).imp .inl fun h => by omega
    · exact (nB i hi).imp .inr fun h => by omega
  by_cases k1 : x.kind = 1
  · have e : ∀ W R, stepA x (W, R) = ((writeR (putW x.key x.num x.text x.bits) W).2, R) := fun W R => by unfold stepA; rw [if_pos k1]; rfl
    rw [e, e]
    obtain ⟨m2, G2, p1, p2, p3, p4⟩ := put_spec (k := x.key) (n := x.num) (t := x.text) (b := x.bits) hS1 (by omega) hx.bits
    obtain ⟨m3, H3, q1, q2, q3, q4⟩ := rwrite_call (w := putW x.key x.num x.text x.bits) (refA p3) hg.sort hg.len hx.bits
    have g2 := keep p3
    have key : Wc 11 [s, d, .agg ⟨x.row⟩] m fun v m' => m' = m3 := by
      refine call_go (F := _) rfl rfl fun Q hQ => ?_
      have l1 := lv g1
      have l2 := lv g2
      simp only [symA, go_opsd, symB, wantedX, X.put, X.look, Arg.ev, keepOf, restrict, evs, evO, initEnv, xres, tup, noTup, cls, quiet, Nat.reduceAdd, Nat.reduceEqDiff, ↓reduceIte, reduceCtorEq, goInt, exists_eq_left', eq_self, Int.reduceLT, Int.reduceLE, Int.reduceEq, Int.reduceNeg, Int.reduceAdd, Int.reduceSub, forall_const, ne_eq, undef, Nat.reducePow, Nat.reduceDiv, Nat.reduceMod, hm1, g1, k1, l1, buildA, goDV3c p1, g2, l2, goDV3c q1]
      exact hQ _ _ _ rfl rfl
    obtain ⟨v, _, hk, rfl⟩ := key
    exact ⟨v, _, G2, H3, hk, fin p2 p3 p4 q2 q3 q4 (by omega)⟩
  by_cases k2 : x.kind = 2
  · have e : ∀ W R, stepA x (W, R) = ((writeR (delW x.key) W).2, R) := fun W R => by unfold stepA; rw [if_neg k1, if_pos k2]
    rw [e, e]
    obtain ⟨m2, G2, p1, p2, p3, p4⟩ := del_call (k := x.key) hS1 (by omega)
    obtain ⟨m3, H3, q1, q2, q3, q4⟩ := rwrite_call (w := delW x.key) (refA p3) hg.sort hg.len (by show 0 < _; omega)
    have g2 := keep p3
    have key : Wc 11 [s, d, .agg ⟨x.row⟩] m fun v m' => m' = m3 := by
      refine call_go (F := _) rfl rfl fun Q hQ => ?_
      simp only [symA, go_opsd, symB, wantedX, X.put, X.look, Arg.ev, keepOf, restrict, evs, evO, initEnv, xres, tup, noTup, cls, quiet, Nat.reduceAdd, Nat.reduceEqDiff, ↓reduceIte, reduceCtorEq, goInt, exists_eq_left', eq_self, Int.reduceLT, Int.reduceLE, Int.reduceEq, Int.reduceNeg, Int.reduceAdd, Int.reduceSub, forall_const, ne_eq, undef, Nat.reducePow, Nat.reduceDiv, Nat.reduceMod, hm1, g1, k2, buildDel, goDV3c p1, g2, goDV3c q1]
      exact hQ _ _ _ rfl rfl
    obtain ⟨v, _, hk, rfl⟩ := key
    exact ⟨v, _, G2, H3, hk, fin p2 p3 p4 q2 q3 q4 (by omega)⟩
  by_cases k3 : x.kind = 3
  · have e : ∀ W R, stepA x (W, R) = (W, (markR W R).2.2) := fun W R => by unfold stepA; rw [if_neg k1, if_neg k2, if_pos k3]
    rw [e, e]
    obtain ⟨m2, G2, p1, p2, p3, p4⟩ := mark_spec hS1 (by omega)
    obtain ⟨m3, H3, q1, q2, q3, q4⟩ := rmark_spec (refA p3) hg.len hg.m4
    by_cases hn : ((markR W R).1 : Int) = ((markR V T).1 : Int)
    · have key : Wc 11 [s, d, .agg ⟨x.row⟩] m fun v m' => m' = m3 := by
        refine call_go (F := _) rfl rfl fun Q hQ => ?_
        simp only [symA, go_opsd, symB, wantedX, X.put, X.look, Arg.ev, keepOf, restrict, evs, evO, initEnv, xres, tup, noTup, cls, quiet, Nat.reduceAdd, Nat.reduceEqDiff, ↓reduceIte, reduceCtorEq, goInt, exists_eq_left', eq_self, Int.reduceLT, Int.reduceLE, Int.reduceEq, Int.reduceNeg, Int.reduceAdd, Int.reduceSub, forall_const, ne_eq, undef, Nat.reducePow, Nat.reduceDiv, Nat.reduceMod, hm1, g1, k3, goR_call p1, goR_call q1, hn]
        exact hQ _ _ _ rfl rfl
      obtain ⟨v, _, hk, rfl⟩ := key
      exact ⟨v, _, G2, H3, hk, fin p2 p3 p4 q2 q3 q4 (by omega)⟩
    · have key : Wc 11 [s, d, .agg ⟨x.row⟩] m fun v m' => m' = m3 := by
        refine call_go (F := _) rfl rfl fun Q hQ => ?_
        simp only [symA, go_opsd, symB, wantedX, X.put, X.look, Arg.ev, keepOf, restrict, evs, evO, initEnv, xres, tup, noTup, cls, quiet, Nat.reduceAdd, Nat.reduceEqDiff, ↓reduceIte, reduceCtorEq, goInt, exists_eq_left', eq_self, Int.reduceLT, Int.reduceLE, Int.reduceEq, Int.reduceNeg, Int.reduceAdd, Int.reduceSub, forall_const, ne_eq, undef, Nat.reducePow, Nat.reduceDiv, Nat.reduceMod, hm1, g1, k3, goR_call p1, goR_call q1, hn]
        exact hQ _ _ _ rfl rfl
      obtain ⟨v, _, hk, rfl⟩ := key
      exact ⟨v, _, G2, H3, hk, fin p2 p3 p4 q2 q3 q4 (by omega)⟩
  by_cases k4 : x.kind = 4
  · have e : ∀ W R, stepA x (W, R) = (backR x.n W R).2 := fun W R => by unfold stepA; rw [if_neg k1, if_neg k2, if_neg k3, if_pos k4]
    rw [e, e]
    obtain ⟨m2, G2, p1, p2, p3, p4⟩ := back_spec (n := x.n) hS1 (by omega)
    obtain ⟨m3, H3, q1, q2, q3, q4⟩ := rback_spec (n := x.n) (refA p3) hg.m4 (fun S hS => (hg.rs S hS).2)
    have g2 := keep p3
    have key : Wc 11 [s, d, .agg ⟨x.row⟩] m fun v m' => m' = m3 := by
      refine call_go (F := _) rfl rfl fun Q hQ => ?_
      simp only [symA, go_opsd, symB, wantedX, X.put, X.look, Arg.ev, keepOf, restrict, evs, evO, initEnv, xres, tup, noTup, cls, quiet, Nat.reduceAdd, Nat.reduceEqDiff, ↓reduceIte, reduceCtorEq, goInt, exists_eq_left', eq_self, Int.reduceLT, Int.reduceLE, Int.reduceEq, Int.reduceNeg, Int.reduceAdd, Int.reduceSub, forall_const, ne_eq, undef, Nat.reducePow, Nat.reduceDiv, Nat.reduceMod, hm1, g1, k4, goDV3c p1, g2, goDV3c q1]
      exact hQ _ _ _ rfl rfl
    obtain ⟨v, _, hk, rfl⟩ := key
    exact ⟨v, _, G2, H3, hk, fin p2 p3 p4 q2 q3 q4 (by omega)⟩
  · have e : ∀ W R, stepA x (W, R) = (W, R) := fun W R => by unfold stepA; rw [if_neg k1, if_neg k2, if_neg k3, if_neg k4]
    rw [e, e]
    have key : Wc 11 [s, d, .agg ⟨x.row⟩] m fun v m' => m' = m1 := by
      refine call_go (F := _) rfl rfl fun Q hQ => ?_
      simp only [symA, go_opsd, symB, wantedX, X.put, X.look, Arg.ev, keepOf, restrict, evs, evO, initEnv, xres, tup, noTup, cls, quiet, Nat.reduceAdd, Nat.reduceEqDiff, ↓reduceIte, reduceCtorEq, goInt, exists_eq_left', eq_self, Int.reduceLT, Int.reduceLE, Int.reduceEq, Int.reduceNeg, Int.reduceAdd, Int.reduceSub, forall_const, ne_eq, undef, Nat.reducePow, Nat.reduceDiv, Nat.reduceMod, hm1, g1, k1, k2, k3, k4]
      exact hQ _ _ _ rfl rfl
    obtain ⟨v, _, hk, rfl⟩ := key
    exact ⟨v, _, G, H, hk, hS1.le (by omega), hD1, dis, f1.mono fun _ _ h => h.elim, fun i hi => .inl hi⟩
end
end Go.Proofs.Ytecceimgpeookaa
