/-
  Own work. Lists that are put in order, part by part: no program in sight.
-/
import Derived.Test.YtlldfkapaeidoaaXStr
namespace Go.Proofs.Ytlldfkapaeidoaa
open Go X
set_option linter.unusedVariables false
set_option linter.unusedSimpArgs false

section
variable {α : Type} {l l' l'' : List α} {a b c d i j : Nat} {x y : α}

/-- The same elements, in another order from a up to b. -/
structure Pm (a b : Nat) (l l' : List α) : Prop where
  perm : l'.Perm l
  same : ∀ i, (i < a ∨ b ≤ i) → l'[i]? = l[i]?

theorem Pm.refl : Pm a b l l := ⟨.refl _, fun _ _ => rfl⟩
theorem Pm.trans (h : Pm a b l l') (h' : Pm a b l' l'') : Pm a b l l'' := ⟨h'.perm.trans h.perm, fun i hi => (h'.same i hi).trans (h.same i hi)⟩
theorem Pm.mono (h : Pm a b l l') (h1 : c ≤ a) (h2 : b ≤ d) : Pm c d l l' := ⟨h.perm, fun i hi => h.same i (by omega)⟩
theorem Pm.length (h : Pm a b l l') : l'.length = l.length := h.perm.length_eq

/-- Two elements change places. -/
def sw (l : List α) (i j : Nat) (x y : α) : List α := (l.set i y).set j x
theorem sw_get (hi : l[i]? = some x) (hj : l[j]? = some y) (k : Nat) : (sw l i j x y)[k]? = if k = j then some x else if k = i then some y else l[k]? := by
  have h1 := (List.getElem?_eq_some_iff.1 hi).1
  have h2 := (List.getElem?_eq_some_iff.1 hj).1
  unfold sw
  by_cases h3 : j = k
  · subst h3
    rw [if_pos rfl, List.getElem?_set_self (by simpa using h2)]
  · rw [List.getElem?_set_ne h3, if_neg (Ne.symm h3)]
    by_cases h4 : i = k
    · subst h4
      rw [if_pos rfl, List.getElem?_set_self h1]
    · rw [List.getElem?_set_ne h4, if_neg (Ne.symm h4)]
theorem set_perm_of (hi : l[i]? = some x) : (l.set i y).Perm (y :: l.eraseIdx i) := by
  have h1 := (List.getElem?_eq_some_iff.1 hi).1
  rw [List.set_eq_take_append_cons_drop, if_pos h1, List.eraseIdx_eq_take_drop_succ]
  exact List.perm_middle
theorem self_perm_of (hi : l[i]? = some x) : l.Perm (x :: l.eraseIdx i) := by
  obtain ⟨h1, h2⟩ := List.getElem?_eq_some_iff.1 hi
  have := set_perm_of (y := x) hi
  rw [← h2, List.set_getElem_self] at this
  rw [← h2]
  exact this
theorem sw_perm (hi : l[i]? = some x) (hj : l[j]? = some y) : (sw l i j x y).Perm l := by
  by_cases hij : i = j
  · subst hij
    rw [hi] at hj
    cases hj
    unfold sw
    obtain ⟨h1, h2⟩ := List.getElem?_eq_some_iff.1 hi
    rw [List.set_set, ← h2, List.set_getElem_self]
  · have hj' : (l.set i y)[j]? = some y := by rw [List.getElem?_set_ne hij]; exact hj
    have e1 : (sw l i j x y).Perm (x :: (l.set i y).eraseIdx j) := set_perm_of hj'
    have e2 : (l.set i y).Perm (y :: (l.set i y).eraseIdx j) := self_perm_of hj'
    have e3 : (l.set i y).Perm (y :: l.eraseIdx i) := set_perm_of hi
    have e4 : ((l.set i y).eraseIdx j).Perm (l.eraseIdx i) := List.Perm.cons_inv (e2.symm.trans e3)
    exact e1.trans ((List.Perm.cons _ e4).trans (self_perm_of hi).symm)
theorem sw_pm (hi : l[i]? = some x) (hj : l[j]? = some y) (h1 : a ≤ i) (h2 : i < b) (h3 : a ≤ j) (h4 : j < b) : Pm a b l (sw l i j x y) :=
  ⟨sw_perm hi hj, fun k hk => by rw [sw_get hi hj, if_neg (by omega), if_neg (by omega)]⟩
theorem sw_length : (sw l i j x y).length = l.length := by simp [sw]

/-- All from a up to b are so. -/
def All (P : α → Prop) (a b : Nat) (l : List α) : Prop := ∀ i x, a ≤ i → i < b → l[i]? = some x → P x
theorem Pm.mem (h : Pm a b l l') (hab : a ≤ b) (hi : a ≤ i) (hib : i < b) (hx : l'[i]? = some x) : ∃ j, a ≤ j ∧ j < b ∧ l[j]? = some x := by
  have ht : l'.take a = l.take a := by
    apply List.ext_getElem?
    intro k
    rw [List.getElem?_take, List.getElem?_take]
    split
    · exact h.same k (.inl (by omega))
    · rfl
  have hd : l'.drop b = l.drop b := by
    apply List.ext_getElem?
    intro k
    rw [List.getElem?_drop, List.getElem?_drop]
    exact h.same _ (.inr (by omega))
  have split3 : ∀ q : List α, q = q.take a ++ ((q.drop a).take (b - a) ++ q.drop b) := fun q => by
    have : q.drop b = (q.drop a).drop (b - a) := by rw [List.drop_drop]; congr 1; omega
    rw [this, List.take_append_drop, List.take_append_drop]
  have hp := h.perm
  rw [split3 l', split3 l, ht, hd] at hp
  have hm : ((l'.drop a).take (b - a)).Perm ((l.drop a).take (b - a)) := (List.perm_append_right_iff _).1 ((List.perm_append_left_iff _).1 hp)
  have hx' : ((l'.drop a).take (b - a))[i - a]? = some x := by
    rw [List.getElem?_take, if_pos (by omega), List.getElem?_drop, show a + (i - a) = i by omega]; exact hx
  have := hm.mem_iff.1 (List.mem_of_getElem? hx')
  obtain ⟨k, hk⟩ := List.mem_iff_getElem?.1 this
  rw [List.getElem?_take] at hk
  split at hk
  · rw [List.getElem?_drop] at hk
    exact ⟨a + k, by omega, by omega, hk⟩
  · cases hk
theorem Pm.all {P : α → Prop} (h : Pm a b l l') (hall : All P a b l) : All P a b l' := by
  intro i x h1 h2 hx
  obtain ⟨j, h3, h4, h5⟩ := h.mem (by omega) h1 h2 hx
  exact hall j x h3 h4 h5
theorem Pm.all_off {P : α → Prop} (h : Pm a b l l') (hoff : d ≤ a ∨ b ≤ c) (hall : All P c d l) : All P c d l' := fun i x h1 h2 hx => hall i x h1 h2 (by rw [← h.same i (by omega)]; exact hx)

variable (lt : α → α → Prop)
/-- In order from a up to b. -/
def Srt (a b : Nat) (l : List α) : Prop := ∀ i j x y, a ≤ i → i < j → j < b → l[i]? = some x → l[j]? = some y → ¬ lt y x
/-- What a sort asks of an order. -/
structure Ord : Prop where
  irr : ∀ a, ¬ lt a a
  tr : ∀ a b c, lt a b → lt b c → lt a c
  tot : ∀ a b, ¬ lt a b → a = b ∨ lt b a
variable {lt}
theorem Ord.le_trans (h : Ord lt) {a b c : α} (h1 : ¬ lt b a) (h2 : ¬ lt c b) : ¬ lt c a := by
  intro h3
  rcases h.tot _ _ h1 with rfl | h4
  · exact h2 h3
  · exact h2 (h.tr _ _ _ h3 h4)
theorem Ord.lt_le (h : Ord lt) {a b c : α} (h1 : lt a b) (h2 : ¬ lt c b) : lt a c := by
  rcases h.tot _ _ h2 with rfl | h4
  · exact h1
  · exact h.tr _ _ _ h1 h4
theorem Ord.le_lt (h : Ord lt) {a b c : α} (h1 : ¬ lt b a) (h2 : lt b c) : lt a c := by
  rcases h.tot _ _ h1 with rfl | h4
  · exact h2
  · exact h.tr _ _ _ h4 h2
theorem Ord.asymm (h : Ord lt) {a b : α} (h1 : lt a b) : ¬ lt b a := fun h2 => h.irr _ (h.tr _ _ _ h1 h2)
theorem Srt.off (h : Srt lt c d l) (hp : Pm a b l l') (hoff : d ≤ a ∨ b ≤ c) : Srt lt c d l' := fun i j x y h1 h2 h3 hx hy => h i j x y h1 h2 h3 (by rw [← hp.same i (by omega)]; exact hx) (by rw [← hp.same j (by omega)]; exact hy)
theorem Srt.one (h : b ≤ a + 1) : Srt lt a b l := fun i j x y h1 h2 h3 _ _ => by omega
theorem Srt.sub (h : Srt lt a b l) (h1 : a ≤ c) (h2 : d ≤ b) : Srt lt c d l := fun i j x y k1 k2 k3 hx hy => h i j x y (by omega) k2 (by omega) hx hy
/-- Two parts in order, the one ahead of the other. -/
theorem Srt.glue (h1 : Srt lt a b l) (h2 : Srt lt b c l) (h3 : ∀ i j x y, a ≤ i → i < b → b ≤ j → j < c → l[i]? = some x → l[j]? = some y → ¬ lt y x) : Srt lt a c l := by
  intro i j x y k1 k2 k3 hx hy
  by_cases hj : j < b
  · exact h1 i j x y k1 k2 hj hx hy
  · by_cases hi : i < b
    · exact h3 i j x y k1 hi (by omega) k3 hx hy
    · exact h2 i j x y (by omega) k2 k3 hx hy
/-- Neighbours in order: all is. -/
theorem Srt.of_next (ho : Ord lt) (hl : b ≤ l.length) (h : ∀ i x y, a ≤ i → i + 1 < b → l[i]? = some x → l[i + 1]? = some y → ¬ lt y x) : Srt lt a b l := by
  intro i j x y h1 h2 h3 hx hy
  induction j generalizing y with
  | zero => omega
  | succ j ih =>
    by_cases hij : i = j
    · subst hij
      exact h i x y h1 h3 hx hy
    · obtain ⟨z, hz⟩ : ∃ z, l[j]? = some z := ⟨_, List.getElem?_eq_getElem (by omega)⟩
      exact ho.le_trans (ih z (by omega) (by omega) hz) (h j z y (by omega) h3 hz hy)

/-! ## A heap: from 'first' on, of n elements -/
def Heap (lt : α → α → Prop) (first lo n : Nat) (l : List α) : Prop := ∀ k c x y, lo ≤ k → (c = 2 * k + 1 ∨ c = 2 * k + 2) → c < n → l[first + k]? = some x → l[first + c]? = some y → ¬ lt x y
theorem Heap.top (ho : Ord lt) (h : Heap lt a 0 c l) (hl : a + c ≤ l.length) {t : α} (ht : l[a]? = some t) : ∀ k x, k < c → l[a + k]? = some x → ¬ lt t x := by
  intro k
  induction k using Nat.strongRecOn with
  | _ k ih =>
    intro x hk hx
    by_cases h0 : k = 0
    · subst h0
      rw [Nat.add_zero] at hx
      rw [ht] at hx
      cases hx
      exact ho.irr _
    · obtain ⟨p, hp⟩ : ∃ p, p = (k - 1) / 2 := ⟨_, rfl⟩
      obtain ⟨z, hz⟩ : ∃ z, l[a + p]? = some z := ⟨_, List.getElem?_eq_getElem (by omega)⟩
      have h1 := ih p (by omega) z (by omega) hz
      have h2 := h p k z x (by omega) (by omega) hk hz hx
      -- t ≥ z ≥ x
      intro h3
      rcases ho.tot _ _ h1 with rfl | h4
      · exact h2 h3
      · exact h2 (ho.tr _ _ _ h4 h3)
end
end Go.Proofs.Ytlldfkapaeidoaa
