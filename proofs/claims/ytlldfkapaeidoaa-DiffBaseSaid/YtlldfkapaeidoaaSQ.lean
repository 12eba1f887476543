/-
  Own work. The steps of a sort, in plain lists.
-/
import Derived.Test.YtlldfkapaeidoaaSP
namespace Go.Proofs.Ytlldfkapaeidoaa
open Go X
set_option linter.unusedVariables false
set_option linter.unusedSimpArgs false

section
variable {α : Type} {lt : α → α → Prop} {l : List α} {a b c d i j : Nat} {x y : α}

/-! ## Insertion -/
/-- From a up to i all is in order, but what stands at j. -/
def InsI (lt : α → α → Prop) (a i j : Nat) (l : List α) : Prop := ∀ p q x y, a ≤ p → p < q → q ≤ i → q ≠ j → l[p]? = some x → l[q]? = some y → ¬ lt y x
theorem InsI.start (h : Srt lt a i l) : InsI lt a i i l := fun p q x y h1 h2 h3 h4 hx hy => h p q x y h1 h2 (by omega) hx hy
theorem InsI.step (ho : Ord lt) {k : Nat} (h : InsI lt a i (k + 1) l) (ha : a ≤ k) (hki : k + 1 ≤ i) (hx : l[k + 1]? = some x) (hy : l[k]? = some y) (hlt : lt x y) : InsI lt a i k (sw l (k + 1) k x y) := by
  intro p q u v h1 h2 h3 h4 hu hv
  rw [sw_get hx hy] at hu hv
  rw [if_neg h4] at hv
  by_cases hq : q = k + 1
  · rw [if_pos hq] at hv
    cases hv
    by_cases hp : p = k
    · rw [if_pos hp] at hu
      cases hu
      exact ho.asymm hlt
    · rw [if_neg hp, if_neg (by omega)] at hu
      exact h p k u y h1 (by omega) (by omega) (by omega) hu hy
  · rw [if_neg hq] at hv
    by_cases hp : p = k
    · rw [if_pos hp] at hu
      cases hu
      exact h (k + 1) q x v (by omega) (by omega) h3 hq hx hv
    · rw [if_neg hp] at hu
      by_cases hp1 : p = k + 1
      · rw [if_pos hp1] at hu
        cases hu
        exact h k q y v ha (by omega) h3 hq hy hv
      · rw [if_neg hp1] at hu
        exact h p q u v h1 h2 h3 hq hu hv
theorem InsI.done_a (h : InsI lt a i a l) : Srt lt a (i + 1) l := fun p q x y h1 h2 h3 hx hy => h p q x y h1 h2 (by omega) (by omega) hx hy
theorem InsI.done (ho : Ord lt) {k : Nat} (h : InsI lt a i (k + 1) l) (ha : a ≤ k) (hx : l[k + 1]? = some x) (hy : l[k]? = some y) (hlt : ¬ lt x y) (hki : k + 1 ≤ i) : Srt lt a (i + 1) l := by
  intro p q u v h1 h2 h3 hu hv
  by_cases hq : q = k + 1
  · subst hq
    rw [hx] at hv
    cases hv
    by_cases hp : p = k
    · subst hp
      rw [hy] at hu
      cases hu
      exact hlt
    · exact ho.le_trans (h p k u y h1 (by omega) (by omega) (by omega) hu hy) hlt
  · exact h p q u v h1 h2 (by omega) hq hu hv

/-! ## Sifting -/
structure SiftI (lt : α → α → Prop) (f lo hi r : Nat) (l : List α) : Prop where
  one : ∀ k c x y, lo ≤ k → k ≠ r → (c = 2 * k + 1 ∨ c = 2 * k + 2) → c < hi → l[f + k]? = some x → l[f + c]? = some y → ¬ lt x y
  two : ∀ p c x y, lo ≤ p → (r = 2 * p + 1 ∨ r = 2 * p + 2) → (c = 2 * r + 1 ∨ c = 2 * r + 2) → c < hi → l[f + p]? = some x → l[f + c]? = some y → ¬ lt x y
variable {f lo hi r : Nat}
theorem SiftI.start (h : Heap lt f (lo + 1) hi l) : SiftI lt f lo hi lo l :=
  ⟨fun k c x y h1 h2 h3 h4 hx hy => h k c x y (by omega) h3 h4 hx hy, fun p c x y h1 h2 _ _ _ _ => by omega⟩
theorem SiftI.done (h : SiftI lt f lo hi r l) (hr : ∀ c x y, (c = 2 * r + 1 ∨ c = 2 * r + 2) → c < hi → l[f + r]? = some x → l[f + c]? = some y → ¬ lt x y) : Heap lt f lo hi l := by
  intro k c x y h1 h2 h3 hx hy
  by_cases hk : k = r
  · subst hk
    exact hr c x y h2 h3 hx hy
  · exact h.one k c x y h1 hk h2 h3 hx hy
theorem SiftI.step (ho : Ord lt) (h : SiftI lt f lo hi r l) (hlo : lo ≤ r) {c : Nat} (hc : c = 2 * r + 1 ∨ c = 2 * r + 2) (hch : c < hi) (hx : l[f + r]? = some x) (hy : l[f + c]? = some y) (hlt : lt x y)
    (hmax : ∀ c' z, (c' = 2 * r + 1 ∨ c' = 2 * r + 2) → c' < hi → l[f + c']? = some z → ¬ lt y z) : SiftI lt f lo hi c (sw l (f + r) (f + c) x y) := by
  refine ⟨fun k d u v h1 h2 h3 h4 hu hv => ?_, fun p d u v h1 h2 h3 h4 hu hv => ?_⟩
  · rw [sw_get hx hy] at hu hv
    rw [if_neg (by omega)] at hu
    by_cases hk : k = r
    · rw [if_pos (by omega)] at hu
      cases hu
      by_cases hd : d = c
      · rw [if_pos (by omega)] at hv
        cases hv
        exact ho.asymm hlt
      · rw [if_neg (by omega), if_neg (by omega)] at hv
        subst hk
        exact hmax d v h3 h4 hv
    · rw [if_neg (by omega)] at hu
      rw [if_neg (by omega)] at hv
      by_cases hd : d = r
      · rw [if_pos (by omega)] at hv
        cases hv
        subst hd
        exact h.two k c u y h1 h3 hc hch hu hy
      · rw [if_neg (by omega)] at hv
        exact h.one k d u v h1 hk h3 h4 hu hv
  · rw [sw_get hx hy] at hu hv
    have hp : p = r := by omega
    rw [if_neg (by omega), if_pos (by omega)] at hu
    cases hu
    rw [if_neg (by omega), if_neg (by omega)] at hv
    exact h.one c d y v (by omega) (by omega) h3 h4 hy hv

/-- The top of a heap goes behind the rest. -/
theorem Heap.pop (h : Heap lt f 0 (i + 1) l) (hi0 : 0 < i) (hx : l[f]? = some x) (hy : l[f + i]? = some y) : Heap lt f 1 i (sw l f (f + i) x y) := by
  intro k c u v h1 h2 h3 hu hv
  rw [sw_get hx hy] at hu hv
  rw [if_neg (by omega), if_neg (by omega)] at hu hv
  exact h k c u v (by omega) h2 (by omega) hu hv
end

/-! ## What a sort asks of texts -/
theorem ordT : Ord ltT := ⟨ltT_irrefl, fun _ _ _ => ltT_trans, fun _ _ => ltT_total⟩
end Go.Proofs.Ytlldfkapaeidoaa
