/-
  Own work. A ring's state as data: what each call makes of it.
-/
import Derived.Test.YtbcoijgoipnelaaXR3
namespace Go.Proofs.Ytbcoijgoipnelaa
open Go X
set_option maxRecDepth 100000
set_option linter.unusedVariables false
set_option linter.unusedSimpArgs false

def lastOf (xs : List Int) : Int := xs.getLast?.getD 0

/-- Push as data: number, stamps, answer, error. -/
def pushV (size seq : Int) (xs : List Int) (t : Int) : Int × List Int × Int × Int :=
  if t ≤ lastOf xs then (seq, xs, 0, 1) else if 1073741824 ≤ seq then (seq, xs, 0, 17) else (seq + 1, pushed size xs t, seq + 1, 0)

theorem sorted_push {xs : List Int} {t : Int} (h : xs.Pairwise (· < ·)) (ht : ¬ t ≤ lastOf xs) : (xs ++ [t]).Pairwise (· < ·) := by
  rw [List.pairwise_append]
  refine ⟨h, by simp, fun x hx y hy => ?_⟩
  have : y = t := by simpa using hy
  subst this
  obtain ⟨i, hi, rfl⟩ := List.mem_iff_getElem.1 hx
  have hl : lastOf xs = xs[xs.length - 1] := by
    unfold lastOf
    rw [List.getLast?_eq_getElem?, List.getElem?_eq_getElem (by omega)]; rfl
  rcases Nat.lt_or_ge i (xs.length - 1) with h1 | h1
  · have := List.pairwise_iff_getElem.1 h i (xs.length - 1) hi (by omega) h1
    omega
  · have : i = xs.length - 1 := by omega
    subst this; omega

theorem push_state {size begin seq : Int} {xs : List Int} {t : Int} (hs : Small size begin seq xs) (hp : xs.Pairwise (· < ·)) :
    Small size begin (pushV size seq xs t).1 (pushV size seq xs t).2.1 ∧ (pushV size seq xs t).2.1.Pairwise (· < ·) ∧ seq ≤ (pushV size seq xs t).1 := by
  unfold pushV
  split
  · exact ⟨hs, hp, Int.le_refl _⟩
  · rename_i ht
    split
    · exact ⟨hs, hp, Int.le_refl _⟩
    · obtain ⟨s1, s2, s3, s4, s5, s6, s7⟩ := hs
      refine ⟨⟨s1, s2, s3, by simp only; omega, by simp only; omega, ?_, ?_⟩, ?_, by simp only; omega⟩
      · simp only [pushed, List.length_drop, List.length_append, List.length_cons, List.length_nil]; omega
      · simp only [pushed, List.length_drop, List.length_append, List.length_cons, List.length_nil]; omega
      · exact (sorted_push hp ht).drop

theorem push_spec {F : List Nat} {m : Mem} {p : Nat} {size begin seq : Int} {xs : List Int} {t : Int} (h : RingAt F m p size begin seq xs) (hs : Small size begin seq xs) :
    ∃ m' F', Ca 9 [Pt p, U t] m (.tuple #[I (pushV size seq xs t).2.2.1, I (pushV size seq xs t).2.2.2]) m' ∧ RingAt F' m' p size begin (pushV size seq xs t).1 (pushV size seq xs t).2.1 ∧ Fm (fun i => i = p ∨ i ∈ F) m m' ∧ ∀ i ∈ F', i ∈ F ∨ m.next ≤ i := by
  unfold pushV lastOf
  by_cases ht : t ≤ xs.getLast?.getD 0
  · rw [if_pos ht]
    exact ⟨m, F, push_low h hs ht, h, .refl, fun i hi => .inl hi⟩
  · rw [if_neg ht]
    by_cases hf : 1073741824 ≤ seq
    · rw [if_pos hf]
      exact ⟨m, F, push_full h hs ht hf, h, .refl, fun i hi => .inl hi⟩
    · rw [if_neg hf]
      exact push_ok h hs ht hf

theorem upto_mono {xs : List Int} {a b : Int} (h : a ≤ b) : upto xs a ≤ upto xs b := by
  unfold upto
  exact List.countP_mono_left fun x _ hx => by simp at hx ⊢; omega

/-- A ring, all of whose memory is at b and above. -/
def RingG (b : Nat) (m : Mem) (p : Nat) (size begin seq : Int) (xs : List Int) : Prop :=
  ∃ F, RingAt F m p size begin seq xs ∧ Small size begin seq xs ∧ xs.Pairwise (· < ·) ∧ b ≤ p ∧ ∀ i ∈ F, b ≤ i

theorem pushG {b : Nat} {m : Mem} {p : Nat} {size begin seq : Int} {xs : List Int} {t : Int} (h : RingG b m p size begin seq xs) (hb : b ≤ m.next) :
    ∃ m', Ca 9 [Pt p, U t] m (.tuple #[I (pushV size seq xs t).2.2.1, I (pushV size seq xs t).2.2.2]) m' ∧ RingG b m' p size begin (pushV size seq xs t).1 (pushV size seq xs t).2.1 ∧ Fm (b ≤ ·) m m' := by
  obtain ⟨F, h1, h2, h3, h4, h5⟩ := h
  obtain ⟨m', F', k1, k2, k3, k4⟩ := push_spec (t := t) h1 h2
  obtain ⟨k5, k6, _⟩ := push_state (t := t) h2 h3
  exact ⟨m', k1, ⟨F', k2, k5, k6, h4, fun i hi => (k4 i hi).elim (h5 i) (fun h => by omega)⟩, k3.mono fun i _ hi => hi.elim (fun e => e ▸ h4) (h5 i)⟩
end Go.Proofs.Ytbcoijgoipnelaa
