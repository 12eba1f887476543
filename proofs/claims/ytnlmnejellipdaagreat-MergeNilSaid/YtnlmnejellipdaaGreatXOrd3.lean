/-
  Own work. Regions whose order the tape draws, with operations that change memory: every order comes to what the text's run comes to.
-/
import Derived.Test.YtnlmnejellipdaaGreatXOrd2
namespace Go.Proofs.YtnlmnejellipdaaGreat.X
open Go
set_option linter.unusedVariables false
set_option linter.unusedSimpArgs false

section
variable {P : Program} {ρ : Rho} {N : Nat} {e : Env} {a : Act} {m : Mem} {w : World} {C : FuncId → List Value → Mem → Option (Value × Mem)}

/-- The memory at a place in the text's run is that of the model; what stands behind is not done; new rows that are not done are not seen. -/
structure PInv (l : List (Nat × Nat × XOp)) (vs : List Value) (μ : Nat → Mem) (e : Env) (ρ : Rho) (m : Mem) (w : World) (L : Nat → Bool) (p : Nat) (ρ1 : Rho) (w1 : World) : Prop where
  le : p ≤ l.length
  done : ∀ (k : Nat) (x : Nat × Nat × XOp), k < p → l[k]? = some x → cls x.2.2.i = 3 → L x.1 = true
  undone : ∀ (k : Nat) (x : Nat × Nat × XOp), p ≤ k → l[k]? = some x → cls x.2.2.i ≠ 0 → L x.1 = false
  step : Step ρ m w ρ1 (μ p) w1
  nexts : ∀ k k', k ≤ k' → k' ≤ p → (μ k).next ≤ (μ k').next
  news : ∀ (k : Nat) (x : Nat × Nat × XOp), k < p → l[k]? = some x → cls x.2.2.i = 2 → wantedX (envAt (lo l) vs e k) x.2.2.guard = some true → (μ (k + 1)).next = (μ k).next + 1
  late : ∀ (k : Nat) (x : Nat × Nat × XOp) v, k < p → l[k]? = some x → vs[k]? = some v → cls x.2.2.i = 2 → wantedX (envAt (lo l) vs e k) x.2.2.guard = some true → L x.1 = false →
    ρ1 (μ k).next = none ∧ ∃ cells len, (μ p).get (μ k).next = some { cells, rw := true, spare := none, kin := [] } ∧ xnew (envAt (lo l) vs e k) x.2.2.i = some (cells, len) ∧ v = mkv (μ k).next len

theorem PInv.adv {l : List (Nat × Nat × XOp)} {vs : List Value} {μ : Nat → Mem} {pend : List Pend} {L : Nat → Bool} {ρ1 : Rho} {w1 : World} (hT : Trace P C l vs μ e pend) :
    ∀ (d p : Nat), p + d = l.length → PInv l vs μ e ρ m w L p ρ1 w1 → ∃ g, PInv l vs μ e ρ m w L g ρ1 w1 ∧ stop l g := by
  intro d
  induction d with
  | zero => intro p hp h; exact ⟨p, h, .inl (by omega)⟩
  | succ d ih =>
    intro p hp h
    have hpl : p < l.length := by omega
    have hx : l[p]? = some l[p] := by rw [List.getElem?_eq_getElem]
    have hv : vs[p]? = some (vs[p]'(by rw [hT.len]; exact hpl)) := by rw [List.getElem?_eq_getElem]
    generalize l[p] = x at hx
    generalize vs[p]'(by rw [hT.len]; exact hpl) = v at hv
    by_cases hc : cls x.2.2.i = 3
    · exact ⟨p, h, .inr ⟨x, hx, hc⟩⟩
    · have hkey : (μ (p + 1) = μ p ∧ ¬ (cls x.2.2.i = 2 ∧ wantedX (envAt (lo l) vs e p) x.2.2.guard = some true)) ∨
          (∃ cells len, μ (p + 1) = (μ p).push { cells, rw := true, spare := none, kin := [] } ∧ xnew (envAt (lo l) vs e p) x.2.2.i = some (cells, len) ∧ v = mkv (μ p).next len ∧ cls x.2.2.i = 2) := by
        rcases hT.ops p x v hx hv with ⟨h1, _, h2⟩ | ⟨h1, r, h2, h3, h4⟩
        · exact .inl ⟨h2, fun hh => by rw [h1] at hh; simp at hh⟩
        · have hlt : cls x.2.2.i < 4 := by cases x.2.2.i <;> simp [cls, quiet]
          by_cases h2c : cls x.2.2.i = 2
          · obtain ⟨m', rfl⟩ := h4 h2c
            simp only [outOf, Option.some.injEq, Prod.mk.injEq, true_and] at h3
            obtain ⟨cells, len, k1, k2, k3⟩ := xi_new h2c h2
            exact .inr ⟨cells, len, by rw [← h3, k3], k1, k2, h2c⟩
          · obtain ⟨u, rfl⟩ := quiet_spec (cls_quiet (by omega)) h2
            simp only [outOf, Option.some.injEq, Prod.mk.injEq] at h3
            exact .inl ⟨h3.2.symm, fun hh => h2c hh.1⟩
      refine ih (p + 1) (by omega) ?_
      have hdone : ∀ (k : Nat) (y : Nat × Nat × XOp), k < p + 1 → l[k]? = some y → cls y.2.2.i = 3 → L y.1 = true := by
        intro k y hk hy hcy
        rcases Nat.lt_or_ge k p with h1 | h1
        · exact h.done k y h1 hy hcy
        · obtain rfl : k = p := by omega
          rw [hx] at hy
          cases hy
          exact absurd hcy hc
      have hundone : ∀ (k : Nat) (y : Nat × Nat × XOp), p + 1 ≤ k → l[k]? = some y → cls y.2.2.i ≠ 0 → L y.1 = false := fun k y hk => h.undone k y (by omega)
      rcases hkey with ⟨hm, hno⟩ | ⟨cells, len, hm, hxn, hval, hc2⟩
      · refine ⟨by omega, hdone, hundone, by rw [hm]; exact h.step, ?_, ?_, ?_⟩
        · intro k k' h1 h2
          rcases Nat.lt_or_ge p k' with h3 | h3
          · obtain rfl : k' = p + 1 := by omega
            rcases Nat.lt_or_ge p k with h4 | h4
            · obtain rfl : k = p + 1 := by omega
              exact Nat.le_refl _
            · rw [hm]; exact h.nexts k p h4 (Nat.le_refl _)
          · exact h.nexts k k' h1 h3
        · intro k y hk hy hcy hw
          rcases Nat.lt_or_ge k p with h1 | h1
          · exact h.news k y h1 hy hcy hw
          · obtain rfl : k = p := by omega
            rw [hx] at hy
            cases hy
            exact absurd ⟨hcy, hw⟩ hno
        · intro k y u hk hy hu hcy hw hL
          rcases Nat.lt_or_ge k p with h1 | h1
          · rw [hm]; exact h.late k y u h1 hy hu hcy hw hL
          · obtain rfl : k = p := by omega
            rw [hx] at hy
            cases hy
            exact absurd ⟨hcy, hw⟩ hno
      · have hr := h.step.rel
        refine ⟨by omega, hdone, hundone, by rw [hm]; exact h.step.trans (push_none hr), ?_, ?_, ?_⟩
        · intro k k' h1 h2
          rcases Nat.lt_or_ge p k' with h3 | h3
          · obtain rfl : k' = p + 1 := by omega
            rcases Nat.lt_or_ge p k with h4 | h4
            · obtain rfl : k = p + 1 := by omega
              exact Nat.le_refl _
            · rw [hm, Mem.next_push]; exact Nat.le_succ_of_le (h.nexts k p h4 (Nat.le_refl _))
          · exact h.nexts k k' h1 h3
        · intro k y hk hy hcy hw
          rcases Nat.lt_or_ge k p with h1 | h1
          · exact h.news k y h1 hy hcy hw
          · obtain rfl : k = p := by omega
            rw [hm, Mem.next_push]
        · intro k y u hk hy hu hcy hw hL
          rcases Nat.lt_or_ge k p with h1 | h1
          · obtain ⟨k1, cells', len', k2, k3, k4⟩ := h.late k y u h1 hy hu hcy hw hL
            refine ⟨k1, cells', len', ?_, k3, k4⟩
            have := hr.alive _ _ k2
            rw [hm, Mem.get_push, if_neg (by omega)]; exact k2
          · obtain rfl : k = p := by omega
            rw [hx] at hy
            cases hy
            rw [hv] at hu
            cases hu
            exact ⟨hr.fresh _ (Nat.le_refl _), cells, len, by rw [hm, Mem.get_push, if_pos rfl], hxn, hval⟩

section
variable {l : List (Nat × Nat × XOp)} {vs : List Value} {μ : Nat → Mem} {L L' : Nat → Bool} {ρ1 ρ2 : Rho} {w1 w2 : World} {p k : Nat} {x : Nat × Nat × XOp}

theorem PInv.move (h : PInv l vs μ e ρ m w L p ρ1 w1) (hdis : ∀ (p q : Nat) (x y : Nat × Nat × XOp), p ≠ q → l[p]? = some x → l[q]? = some y → x.1 ≠ y.1) (hx : l[k]? = some x)
    (hk : cls x.2.2.i ≠ 0 → k < p) (hL : ∀ j, L' j = if j = x.1 then true else L j) (hS : Step ρ1 (μ p) w1 ρ2 (μ p) w2) : PInv l vs μ e ρ m w L' p ρ2 w2 := by
  refine ⟨h.le, ?_, ?_, h.step.trans hS, h.nexts, h.news, ?_⟩
  · intro k' y h1 h2 h3
    rw [hL]; split
    · rfl
    · exact h.done k' y h1 h2 h3
  · intro k' y h1 h2 h3
    rw [hL, if_neg]
    · exact h.undone k' y h1 h2 h3
    · intro he
      by_cases hkk : k' = k
      · subst hkk
        rw [hx] at h2
        cases h2
        have := hk h3; omega
      · exact hdis k' k y x hkk h2 hx he
  · intro k' y u h1 h2 h3 h4 h5 h6
    have h7 : L y.1 = false := by
      rw [hL] at h6
      split at h6
      · cases h6
      · exact h6
    obtain ⟨g1, cells, len, g2, g3, g4⟩ := h.late k' y u h1 h2 h3 h4 h5 h7
    exact ⟨hS.none_ _ (h.step.rel.alive _ _ g2) g1, cells, len, g2, g3, g4⟩

theorem PInv.eff (h : PInv l vs μ e ρ m w L p ρ1 w1) (hdis : ∀ (p q : Nat) (x y : Nat × Nat × XOp), p ≠ q → l[p]? = some x → l[q]? = some y → x.1 ≠ y.1) (hx : l[p]? = some x)
    (hc : cls x.2.2.i = 3) (hL : ∀ j, L' j = if j = x.1 then true else L j) (hS : Step ρ1 (μ p) w1 ρ2 (μ (p + 1)) w2) : PInv l vs μ e ρ m w L' (p + 1) ρ2 w2 := by
  have hpl : p < l.length := (List.getElem?_eq_some_iff.1 hx).1
  refine ⟨by omega, ?_, ?_, h.step.trans hS, ?_, ?_, ?_⟩
  · intro k' y h1 h2 h3
    rw [hL]
    split
    · rfl
    · rename_i hne
      rcases Nat.lt_or_ge k' p with h4 | h4
      · exact h.done k' y h4 h2 h3
      · obtain rfl : k' = p := by omega
        rw [hx] at h2
        cases h2
        exact absurd rfl hne
  · intro k' y h1 h2 h3
    rw [hL, if_neg (hdis k' p y x (by omega) h2 hx)]
    exact h.undone k' y (by omega) h2 h3
  · intro a b h1 h2
    rcases Nat.lt_or_ge p b with h3 | h3
    · obtain rfl : b = p + 1 := by omega
      rcases Nat.lt_or_ge p a with h4 | h4
      · obtain rfl : a = p + 1 := by omega
        exact Nat.le_refl _
      · exact Nat.le_trans (h.nexts a p h4 (Nat.le_refl _)) hS.next
    · exact h.nexts a b h1 h3
  · intro k' y h1 h2 h3 h4
    rcases Nat.lt_or_ge k' p with h5 | h5
    · exact h.news k' y h5 h2 h3 h4
    · obtain rfl : k' = p := by omega
      rw [hx] at h2
      cases h2
      omega
  · intro k' y u h1 h2 h3 h4 h5 h6
    have hne : k' ≠ p := by
      rintro rfl
      rw [hx] at h2
      cases h2
      omega
    have h7 : L y.1 = false := by
      rw [hL] at h6
      split at h6
      · cases h6
      · exact h6
    obtain ⟨g1, cells, len, g2, g3, g4⟩ := h.late k' y u (by omega) h2 h3 h4 h5 h7
    have hal := h.step.rel.alive _ _ g2
    exact ⟨hS.none_ _ hal g1, cells, len, by rw [hS.same _ hal g1]; exact g2, g3, g4⟩

theorem PInv.late' (h : PInv l vs μ e ρ m w L p ρ1 w1) (h0 : μ 0 = m) (hdis : ∀ (p q : Nat) (x y : Nat × Nat × XOp), p ≠ q → l[p]? = some x → l[q]? = some y → x.1 ≠ y.1) (hx : l[k]? = some x)
    (hk : k < p) (hc : cls x.2.2.i = 2) (hw : wantedX (envAt (lo l) vs e k) x.2.2.guard = some true) (hL : ∀ j, L' j = if j = x.1 then true else L j) {cells : List Value} {row : Array Value} {t : TypeId}
    (hn : ρ1 (μ k).next = none) (ho : (μ p).get (μ k).next = some { cells, rw := true, spare := none, kin := [] }) (hv : CsRel ρ1 cells row.toList) :
    PInv l vs μ e ρ m w L' p (ρ1.with (μ k).next ⟨w1.heap.size, 0, row.size, 0⟩) (w1.alloc (.cells row t)) := by
  have hm0 : m.next ≤ (μ k).next := by have := h.nexts 0 k (Nat.zero_le _) (by omega); rw [h0] at this; exact this
  have hS := late_step (e := t) h.step hm0 ho hn hv
  refine ⟨h.le, ?_, ?_, hS, h.nexts, h.news, ?_⟩
  · intro k' y h1 h2 h3
    rw [hL]; split
    · rfl
    · exact h.done k' y h1 h2 h3
  · intro k' y h1 h2 h3
    rw [hL, if_neg (hdis k' k y x (by omega) h2 hx)]
    exact h.undone k' y h1 h2 h3
  · intro k' y u h1 h2 h3 h4 h5 h6
    have h7 : L y.1 = false := by
      rw [hL] at h6
      split at h6
      · cases h6
      · exact h6
    have hne : k' ≠ k := by
      rintro rfl
      rw [hx] at h2
      cases h2
      rw [hL, if_pos rfl] at h6; cases h6
    obtain ⟨g1, cells', len', g2, g3, g4⟩ := h.late k' y u h1 h2 h3 h4 h5 h7
    refine ⟨?_, cells', len', g2, g3, g4⟩
    have hid : (μ k').next ≠ (μ k).next := by
      rcases Nat.lt_or_ge k' k with hlt | hge
      · have e1 := h.news k' y h1 h2 h4 h5
        have e2 := h.nexts (k' + 1) k (by omega) (by omega)
        omega
      · have e1 := h.news k x hk hx hc hw
        have e2 := h.nexts (k + 1) k' (by omega) (by omega)
        omega
    simp only [Rho.with, if_neg hid]; exact g1
end

end
end Go.Proofs.YtnlmnejellipdaaGreat.X
