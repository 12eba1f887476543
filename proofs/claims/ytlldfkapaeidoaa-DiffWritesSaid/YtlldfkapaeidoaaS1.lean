/-
  Own work. Lists that are put in order, part by part: no program in sight. The steps of a sort, in plain lists. What the sort's small functions do: insertion, heaps.
-/
import Derived.Test.YtlldfkapaeidoaaXStr
import Derived.Test.YtlldfkapaeidoaaD2
import Derived.Test.YtlldfkapaeidoaaXOwn3
namespace Go.Proofs.Ytlldfkapaeidoaa
open Go X
set_option linter.unusedVariables false
set_option linter.unusedSimpArgs false

section
variable {α : Type} {l l' l'' : List α} {a b c d i j : Nat} {x y : α}

/-- The same elements, in another order from a up to b. -/
structure Pm (a b : Nat) (l l' : List α) : Prop where
  perm : l'.Perm l
  same : ∀ i, (i < a ∨ b ≤ i) → l'[i]? = l[i]?

theorem Pm.refl : Pm a b l l := ⟨.refl _, fun _ _ => rfl⟩
theorem Pm.trans (h : Pm a b l l') (h' : Pm a b l' l'') : Pm a b l l'' := ⟨h'.perm.trans h.perm, fun i hi => (h'.same i hi).trans (h.same i hi)⟩
theorem Pm.mono (h : Pm a b l l') (h1 : c ≤ a) (h2 : b ≤ d) : Pm c d l l' := ⟨h.perm, fun i hi => h.same i (by omega)⟩
theorem Pm.length (h : Pm a b l l') : l'.length = l.length := h.perm.length_eq

/-- Two elements change places. -/
def sw (l : List α) (i j : Nat) (x y : α) : List α := (l.set i y).set j x
theorem sw_get (hi : l[i]? = some x) (hj : l[j]? = some y) (k : Nat) : (sw l i j x y)[k]? = if k = j then some x else if k = i then some y else l[k]? := by
  have h1 := (List.getElem?_eq_some_iff.1 hi).1
  have h2 := (List.getElem?_eq_some_iff.1 hj).1
  unfold sw
  by_cases h3 : j = k
  · subst h3
    rw [if_pos rfl, List.getElem?_set_self (by simpa using h2)]
  · rw [List.getElem?_set_ne h3, if_neg (Ne.symm h3)]
    by_cases h4 : i = k
    · subst h4
      rw [if_pos rfl, List.getElem?_set_self h1]
    · rw [List.getElem?_set_ne h4, if_neg (Ne.symm h4)]
theorem set_perm_of (hi : l[i]? = some x) : (l.set i y).Perm (y :: l.eraseIdx i) := by
  have h1 := (List.getElem?_eq_some_iff.1 hi).1
  rw [List.set_eq_take_append_cons_drop, if_pos h1, List.eraseIdx_eq_take_drop_succ]
  exact List.perm_middle
theorem self_perm_of (hi : l[i]? = some x) : l.Perm (x :: l.eraseIdx i) := by
  obtain ⟨h1, h2⟩ := List.getElem?_eq_some_iff.1 hi
  have := set_perm_of (y := x) hi
  rw [← h2, List.set_getElem_self] at this
  rw [← h2]
  exact this
theorem sw_perm (hi : l[i]? = some x) (hj : l[j]? = some y) : (sw l i j x y).Perm l := by
  by_cases hij : i = j
  · subst hij
    rw [hi] at hj
    cases hj
    unfold sw
    obtain ⟨h1, h2⟩ := List.getElem?_eq_some_iff.1 hi
    rw [List.set_set, ← h2, List.set_getElem_self]
  · have hj' : (l.set i y)[j]? = some y := by rw [List.getElem?_set_ne hij]; exact hj
    have e1 : (sw l i j x y).Perm (x :: (l.set i y).eraseIdx j) := set_perm_of hj'
    have e2 : (l.set i y).Perm (y :: (l.set i y).eraseIdx j) := self_perm_of hj'
    have e3 : (l.set i y).Perm (y :: l.eraseIdx i) := set_perm_of hi
    have e4 : ((l.set i y).eraseIdx j).Perm (l.eraseIdx i) := List.Perm.cons_inv (e2.symm.trans e3)
    exact e1.trans ((List.Perm.cons _ e4).trans (self_perm_of hi).symm)
theorem sw_pm (hi : l[i]? = some x) (hj : l[j]? = some y) (h1 : a ≤ i) (h2 : i < b) (h3 : a ≤ j) (h4 : j < b) : Pm a b l (sw l i j x y) :=
  ⟨sw_perm hi hj, fun k hk => by rw [sw_get hi hj, if_neg (by omega), if_neg (by omega)]⟩
theorem sw_length : (sw l i j x y).length = l.length := by simp [sw]

/-- All from a up to b are so. -/
def All (P : α → Prop) (a b : Nat) (l : List α) : Prop := ∀ i x, a ≤ i → i < b → l[i]? = some x → P x
theorem Pm.mem (h : Pm a b l l') (hab : a ≤ b) (hi : a ≤ i) (hib : i < b) (hx : l'[i]? = some x) : ∃ j, a ≤ j ∧ j < b ∧ l[j]? = some x := by
  have ht : l'.take a = l.take a := by
    apply List.ext_getElem?
    intro k
    rw [List.getElem?_take, List.getElem?_take]
    split
    · exact h.same k (.inl (by omega))
    · rfl
  have hd : l'.drop b = l.drop b := by
    apply List.ext_getElem?
    intro k
    rw [List.getElem?_drop, List.getElem?_drop]
    exact h.same _ (.inr (by omega))
  have split3 : ∀ q : List α, q = q.take a ++ ((q.drop a).take (b - a) ++ q.drop b) := fun q => by
    have : q.drop b = (q.drop a).drop (b - a) := by rw [List.drop_drop]; congr 1; omega
    rw [this, List.take_append_drop, List.take_append_drop]
  have hp := h.perm
  rw [split3 l', split3 l, ht, hd] at hp
  have hm : ((l'.drop a).take (b - a)).Perm ((l.drop a).take (b - a)) := (List.perm_append_right_iff _).1 ((List.perm_append_left_iff _).1 hp)
  have hx' : ((l'.drop a).take (b - a))[i - a]? = some x := by
    rw [List.getElem?_take, if_pos (by omega), List.getElem?_drop, show a + (i - a) = i by omega]; exact hx
  have := hm.mem_iff.1 (List.mem_of_getElem? hx')
  obtain ⟨k, hk⟩ := List.mem_iff_getElem?.1 this
  rw [List.getElem?_take] at hk
  split at hk
  · rw [List.getElem?_drop] at hk
    exact ⟨a + k, by omega, by omega, hk⟩
  · cases hk
theorem Pm.all {P : α → Prop} (h : Pm a b l l') (hall : All P a b l) : All P a b l' := by
  intro i x h1 h2 hx
  obtain ⟨j, h3, h4, h5⟩ := h.mem (by omega) h1 h2 hx
  exact hall j x h3 h4 h5
theorem Pm.all_off {P : α → Prop} (h : Pm a b l l') (hoff : d ≤ a ∨ b ≤ c) (hall : All P c d l) : All P c d l' := fun i x h1 h2 hx => hall i x h1 h2 (by rw [← h.same i (by omega)]; exact hx)

variable (lt : α → α → Prop)
/-- In order from a up to b. -/
def Srt (a b : Nat) (l : List α) : Prop := ∀ i j x y, a ≤ i → i < j → j < b → l[i]? = some x → l[j]? = some y → ¬ lt y x
/-- What a sort asks of an order. -/
structure Ord : Prop where
  irr : ∀ a, ¬ lt a a
  tr : ∀ a b c, lt a b → lt b c → lt a c
  tot : ∀ a b, ¬ lt a b → a = b ∨ lt b a
variable {lt}
theorem Ord.le_trans (h : Ord lt) {a b c : α} (h1 : ¬ lt b a) (h2 : ¬ lt c b) : ¬ lt c a := by
  intro h3
  rcases h.tot _ _ h1 with rfl | h4
  · exact h2 h3
  · exact h2 (h.tr _ _ _ h3 h4)
theorem Ord.lt_le (h : Ord lt) {a b c : α} (h1 : lt a b) (h2 : ¬ lt c b) : lt a c := by
  rcases h.tot _ _ h2 with rfl | h4
  · exact h1
  · exact h.tr _ _ _ h1 h4
theorem Ord.le_lt (h : Ord lt) {a b c : α} (h1 : ¬ lt b a) (h2 : lt b c) : lt a c := by
  rcases h.tot _ _ h1 with rfl | h4
  · exact h2
  · exact h.tr _ _ _ h4 h2
theorem Ord.asymm (h : Ord lt) {a b : α} (h1 : lt a b) : ¬ lt b a := fun h2 => h.irr _ (h.tr _ _ _ h1 h2)
theorem Srt.off (h : Srt lt c d l) (hp : Pm a b l l') (hoff : d ≤ a ∨ b ≤ c) : Srt lt c d l' := fun i j x y h1 h2 h3 hx hy => h i j x y h1 h2 h3 (by rw [← hp.same i (by omega)]; exact hx) (by rw [← hp.same j (by omega)]; exact hy)
theorem Srt.one (h : b ≤ a + 1) : Srt lt a b l := fun i j x y h1 h2 h3 _ _ => by omega
theorem Srt.sub (h : Srt lt a b l) (h1 : a ≤ c) (h2 : d ≤ b) : Srt lt c d l := fun i j x y k1 k2 k3 hx hy => h i j x y (by omega) k2 (by omega) hx hy
/-- Two parts in order, the one ahead of the other. -/
theorem Srt.glue (h1 : Srt lt a b l) (h2 : Srt lt b c l) (h3 : ∀ i j x y, a ≤ i → i < b → b ≤ j → j < c → l[i]? = some x → l[j]? = some y → ¬ lt y x) : Srt lt a c l := by
  intro i j x y k1 k2 k3 hx hy
  by_cases hj : j < b
  · exact h1 i j x y k1 k2 hj hx hy
  · by_cases hi : i < b
    · exact h3 i j x y k1 hi (by omega) k3 hx hy
    · exact h2 i j x y (by omega) k2 k3 hx hy
/-- Neighbours in order: all is. -/
theorem Srt.of_next (ho : Ord lt) (hl : b ≤ l.length) (h : ∀ i x y, a ≤ i → i + 1 < b → l[i]? = some x → l[i + 1]? = some y → ¬ lt y x) : Srt lt a b l := by
  intro i j x y h1 h2 h3 hx hy
  induction j generalizing y with
  | zero => omega
  | succ j ih =>
    by_cases hij : i = j
    · subst hij
      exact h i x y h1 h3 hx hy
    · obtain ⟨z, hz⟩ : ∃ z, l[j]? = some z := ⟨_, List.getElem?_eq_getElem (by omega)⟩
      exact ho.le_trans (ih z (by omega) (by omega) hz) (h j z y (by omega) h3 hz hy)

/-! ## A heap: from 'first' on, of n elements -/
def Heap (lt : α → α → Prop) (first lo n : Nat) (l : List α) : Prop := ∀ k c x y, lo ≤ k → (c = 2 * k + 1 ∨ c = 2 * k + 2) → c < n → l[first + k]? = some x → l[first + c]? = some y → ¬ lt x y
theorem Heap.top (ho : Ord lt) (h : Heap lt a 0 c l) (hl : a + c ≤ l.length) {t : α} (ht : l[a]? = some t) : ∀ k x, k < c → l[a + k]? = some x → ¬ lt t x := by
  intro k
  induction k using Nat.strongRecOn with
  | _ k ih =>
    intro x hk hx
    by_cases h0 : k = 0
    · subst h0
      rw [Nat.add_zero] at hx
      rw [ht] at hx
      cases hx
      exact ho.irr _
    · obtain ⟨p, hp⟩ : ∃ p, p = (k - 1) / 2 := ⟨_, rfl⟩
      obtain ⟨z, hz⟩ : ∃ z, l[a + p]? = some z := ⟨_, List.getElem?_eq_getElem (by omega)⟩
      have h1 := ih p (by omega) z (by omega) hz
      have h2 := h p k z x (by omega) (by omega) hk hz hx
      -- t ≥ z ≥ x
      intro h3
      rcases ho.tot _ _ h1 with rfl | h4
      · exact h2 h3
      · exact h2 (ho.tr _ _ _ h4 h3)
end
end Go.Proofs.Ytlldfkapaeidoaa

namespace Go.Proofs.Ytlldfkapaeidoaa
open Go X
set_option linter.unusedVariables false
set_option linter.unusedSimpArgs false

section
variable {α : Type} {lt : α → α → Prop} {l : List α} {a b c d i j : Nat} {x y : α}

/-! ## Insertion -/
/-- From a up to i all is in order, but what stands at j. -/
def InsI (lt : α → α → Prop) (a i j : Nat) (l : List α) : Prop := ∀ p q x y, a ≤ p → p < q → q ≤ i → q ≠ j → l[p]? = some x → l[q]? = some y → ¬ lt y x
theorem InsI.start (h : Srt lt a i l) : InsI lt a i i l := fun p q x y h1 h2 h3 h4 hx hy => h p q x y h1 h2 (by omega) hx hy
theorem InsI.step (ho : Ord lt) {k : Nat} (h : InsI lt a i (k + 1) l) (ha : a ≤ k) (hki : k + 1 ≤ i) (hx : l[k + 1]? = some x) (hy : l[k]? = some y) (hlt : lt x y) : InsI lt a i k (sw l (k + 1) k x y) := by
  intro p q u v h1 h2 h3 h4 hu hv
  rw [sw_get hx hy] at hu hv
  rw [if_neg h4] at hv
  by_cases hq : q = k + 1
  · rw [if_pos hq] at hv
    cases hv
    by_cases hp : p = k
    · rw [if_pos hp] at hu
      cases hu
      exact ho.asymm hlt
    · rw [if_neg hp, if_neg (by omega)] at hu
      exact h p k u y h1 (by omega) (by omega) (by omega) hu hy
  · rw [if_neg hq] at hv
    by_cases hp : p = k
    · rw [if_pos hp] at hu
      cases hu
      exact h (k + 1) q x v (by omega) (by omega) h3 hq hx hv
    · rw [if_neg hp] at hu
      by_cases hp1 : p = k + 1
      · rw [if_pos hp1] at hu
        cases hu
        exact h k q y v ha (by omega) h3 hq hy hv
      · rw [if_neg hp1] at hu
        exact h p q u v h1 h2 h3 hq hu hv
theorem InsI.done_a (h : InsI lt a i a l) : Srt lt a (i + 1) l := fun p q x y h1 h2 h3 hx hy => h p q x y h1 h2 (by omega) (by omega) hx hy
theorem InsI.done (ho : Ord lt) {k : Nat} (h : InsI lt a i (k + 1) l) (ha : a ≤ k) (hx : l[k + 1]? = some x) (hy : l[k]? = some y) (hlt : ¬ lt x y) (hki : k + 1 ≤ i) : Srt lt a (i + 1) l := by
  intro p q u v h1 h2 h3 hu hv
  by_cases hq : q = k + 1
  · subst hq
    rw [hx] at hv
    cases hv
    by_cases hp : p = k
    · subst hp
      rw [hy] at hu
      cases hu
      exact hlt
    · exact ho.le_trans (h p k u y h1 (by omega) (by omega) (by omega) hu hy) hlt
  · exact h p q u v h1 h2 (by omega) hq hu hv

/-! ## Sifting -/
structure SiftI (lt : α → α → Prop) (f lo hi r : Nat) (l : List α) : Prop where
  one : ∀ k c x y, lo ≤ k → k ≠ r → (c = 2 * k + 1 ∨ c = 2 * k + 2) → c < hi → l[f + k]? = some x → l[f + c]? = some y → ¬ lt x y
  two : ∀ p c x y, lo ≤ p → (r = 2 * p + 1 ∨ r = 2 * p + 2) → (c = 2 * r + 1 ∨ c = 2 * r + 2) → c < hi → l[f + p]? = some x → l[f + c]? = some y → ¬ lt x y
variable {f lo hi r : Nat}
theorem SiftI.start (h : Heap lt f (lo + 1) hi l) : SiftI lt f lo hi lo l :=
  ⟨fun k c x y h1 h2 h3 h4 hx hy => h k c x y (by omega) h3 h4 hx hy, fun p c x y h1 h2 _ _ _ _ => by omega⟩
theorem SiftI.done (h : SiftI lt f lo hi r l) (hr : ∀ c x y, (c = 2 * r + 1 ∨ c = 2 * r + 2) → c < hi → l[f + r]? = some x → l[f + c]? = some y → ¬ lt x y) : Heap lt f lo hi l := by
  intro k c x y h1 h2 h3 hx hy
  by_cases hk : k = r
  · subst hk
    exact hr c x y h2 h3 hx hy
  · exact h.one k c x y h1 hk h2 h3 hx hy
theorem SiftI.step (ho : Ord lt) (h : SiftI lt f lo hi r l) (hlo : lo ≤ r) {c : Nat} (hc : c = 2 * r + 1 ∨ c = 2 * r + 2) (hch : c < hi) (hx : l[f + r]? = some x) (hy : l[f + c]? = some y) (hlt : lt x y)
    (hmax : ∀ c' z, (c' = 2 * r + 1 ∨ c' = 2 * r + 2) → c' < hi → l[f + c']? = some z → ¬ lt y z) : SiftI lt f lo hi c (sw l (f + r) (f + c) x y) := by
  refine ⟨fun k d u v h1 h2 h3 h4 hu hv => ?_, fun p d u v h1 h2 h3 h4 hu hv => ?_⟩
  · rw [sw_get hx hy] at hu hv
    rw [if_neg (by omega)] at hu
    by_cases hk : k = r
    · rw [if_pos (by omega)] at hu
      cases hu
      by_cases hd : d = c
      · rw [if_pos (by omega)] at hv
        cases hv
        exact ho.asymm hlt
      · rw [if_neg (by omega), if_neg (by omega)] at hv
        subst hk
        exact hmax d v h3 h4 hv
    · rw [if_neg (by omega)] at hu
      rw [if_neg (by omega)] at hv
      by_cases hd : d = r
      · rw [if_pos (by omega)] at hv
        cases hv
        subst hd
        exact h.two k c u y h1 h3 hc hch hu hy
      · rw [if_neg (by omega)] at hv
        exact h.one k d u v h1 hk h3 h4 hu hv
  · rw [sw_get hx hy] at hu hv
    have hp : p = r := by omega
    rw [if_neg (by omega), if_pos (by omega)] at hu
    cases hu
    rw [if_neg (by omega), if_neg (by omega)] at hv
    exact h.one c d y v (by omega) (by omega) h3 h4 hy hv

/-- The top of a heap goes behind the rest. -/
theorem Heap.pop (h : Heap lt f 0 (i + 1) l) (hi0 : 0 < i) (hx : l[f]? = some x) (hy : l[f + i]? = some y) : Heap lt f 1 i (sw l f (f + i) x y) := by
  intro k c u v h1 h2 h3 hu hv
  rw [sw_get hx hy] at hu hv
  rw [if_neg (by omega), if_neg (by omega)] at hu hv
  exact h k c u v (by omega) h2 (by omega) hu hv
end

/-! ## What a sort asks of texts -/
theorem ordT : Ord ltT := ⟨ltT_irrefl, fun _ _ _ => ltT_trans, fun _ _ => ltT_total⟩
end Go.Proofs.Ytlldfkapaeidoaa

namespace Go.Proofs.Ytlldfkapaeidoaa
open Go X
set_option maxRecDepth 100000
set_option linter.unusedVariables false
set_option linter.unusedSimpArgs false

abbrev SV (id n cap : Nat) : Value := .slice (some ⟨id, 0, some 0⟩) n cap
/-- A slice of texts that the program owns. -/
structure OwnK (F : List Nat) (m : Mem) (id cap n : Nat) (ks : List ByteArray) : Prop where
  len : ks.length = n
  own : OwnS 1 F m (SV id n cap) n (ks.map .string)
section
variable {F : List Nat} {m m' : Mem} {id cap n : Nat} {ks : List ByteArray}
theorem OwnK.fr {S : Nat → Prop} (h : OwnK F m id cap n ks) (hf : Fm S m m') (hs : ∀ i ∈ F, ¬ S i) : OwnK F m' id cap n ks := ⟨h.len, h.own.fr hf hs⟩
theorem OwnK.obj (h : OwnK F m id cap n ks) : ∃ o, m.get id = some o ∧ ∀ (i : Nat) x, ks[i]? = some x → o.cells[i]? = some (.string x) := by
  obtain ⟨hl, h1, h2, ⟨hv, hn⟩ | ⟨id', o, cap', rest, hv, h5, h6, h7, h8, h9, h10, h11⟩⟩ := h
  · cases hv
  · cases hv
    refine ⟨o, h5, fun i x hx => ?_⟩
    have hi := (List.getElem?_eq_some_iff.1 hx).1
    rw [h10, List.getElem?_append_left (by simpa using hi), List.getElem?_map, hx]
    rfl
theorem OwnK.swap (h : OwnK F m id cap n ks) {i j : Nat} {x y : ByteArray} (hi : ks[i]? = some x) (hj : ks[j]? = some y) :
    ∃ m1 m2, storeE m 1 (.pointer (some ⟨id, i, none⟩)) (.string y) = some (.skip m1) ∧ storeE m1 1 (.pointer (some ⟨id, j, none⟩)) (.string x) = some (.skip m2) ∧ OwnK F m2 id cap n (sw ks i j x y) ∧ Fm (· ∈ F) m m2 := by
  have hl := h.len
  have hi' := (List.getElem?_eq_some_iff.1 hi).1
  have hj' := (List.getElem?_eq_some_iff.1 hj).1
  obtain ⟨id1, cap1, m1, hv, s1, o1, f1⟩ := h.own.set1 (i := i) (by omega) (x := .string y) rfl rfl
  cases hv
  obtain ⟨id2, cap2, m2, hv, s2, o2, f2⟩ := o1.set1 (i := j) (by omega) (x := .string x) rfl rfl
  cases hv
  refine ⟨m1, m2, s1, s2, ⟨by rw [sw_length]; exact hl, ?_⟩, f1.trans f2⟩
  unfold sw
  rw [List.map_set, List.map_set]
  exact o2

theorem isnan_spec {a : ByteArray} : Ca 73 [.string a] m (.bool false) m := by
  refine callX_of (call_go (F := _) rfl rfl fun Q hQ => ?_)
  simp only [symA, go_opsd, symB, wantedX, X.put, X.look, Arg.ev, keepOf, restrict, evs, evO, initEnv, xres, tup, noTup, cls, quiet, Nat.reduceAdd, Nat.reduceEqDiff, ↓reduceIte, reduceCtorEq, goInt, exists_eq_left', eq_self, Int.reduceLT, Int.reduceLE, Int.reduceEq, Int.reduceNeg, Int.reduceAdd, Int.reduceSub, forall_const, ne_eq, undef, Nat.reducePow, Nat.reduceDiv, Nat.reduceMod, bin_sneq]
  exact hQ _ _ _ rfl ⟨rfl, rfl⟩
theorem less_spec {a b : ByteArray} : Ca 61 [.string a, .string b] m (.bool (decide (ltT a b))) m := by
  refine callX_of (call_go (F := _) rfl rfl fun Q hQ => ?_)
  simp only [symA, go_opsd, symB, wantedX, X.put, X.look, Arg.ev, keepOf, restrict, evs, evO, initEnv, xres, tup, noTup, cls, quiet, Nat.reduceAdd, Nat.reduceEqDiff, ↓reduceIte, reduceCtorEq, goInt, exists_eq_left', eq_self, Int.reduceLT, Int.reduceLE, Int.reduceEq, Int.reduceNeg, Int.reduceAdd, Int.reduceSub, forall_const, ne_eq, undef, Nat.reducePow, Nat.reduceDiv, Nat.reduceMod, goR_call isnan_spec, bin_slss]
  exact hQ _ _ _ rfl ⟨rfl, rfl⟩
theorem less_t {a b : ByteArray} (h : ltT a b) : Ca 61 [.string a, .string b] m (.bool true) m := by
  have := less_spec (m := m) (a := a) (b := b)
  rwa [decide_eq_true h] at this
theorem less_f {a b : ByteArray} (h : ¬ ltT a b) : Ca 61 [.string a, .string b] m (.bool false) m := by
  have := less_spec (m := m) (a := a) (b := b)
  rwa [decide_eq_false h] at this

/-- What a step of a sort leaves. -/
def Done (F : List Nat) (m m' : Mem) (id cap n a b : Nat) (ks ks' : List ByteArray) : Prop := OwnK F m' id cap n ks' ∧ Pm a b ks ks' ∧ Fm (· ∈ F) m m'

theorem ins_spec {a b : Nat} (h : OwnK F m id cap n ks) (hab : a ≤ b) (hb : b ≤ n) (hn : n ≤ 1000000000) : Wc 55 [SV id n cap, I a, I b] m fun v m' => v = tup [] ∧ ∃ ks', OwnK F m' id cap n ks' ∧ Pm a b ks ks' ∧ Srt ltT a b ks' ∧ Fm (· ∈ F) m m' := by
  refine call_go (F := _) rfl rfl fun Q hQ => ?_
  have w0 : IntKind.i64.wrap ((a : Int) + 1) = ((a + 1 : Nat) : Int) := by rw [wrap_i64 (by omega) (by omega)]; omega
  simp only [symA, go_opsd, symB, wantedX, X.put, X.look, Arg.ev, keepOf, restrict, evs, evO, initEnv, xres, tup, noTup, cls, quiet, Nat.reduceAdd, Nat.reduceEqDiff, ↓reduceIte, reduceCtorEq, goInt, exists_eq_left', eq_self, Int.reduceLT, Int.reduceLE, Int.reduceEq, Int.reduceNeg, Int.reduceAdd, Int.reduceSub, forall_const, ne_eq, undef, Nat.reducePow, Nat.reduceDiv, Nat.reduceMod, w0]
  refine loop_go (fun k e m' => ∃ (i : Nat) (ks' : List ByteArray), a < i ∧ i ≤ b + 1 ∧ k = b + 1 - i ∧ OwnK F m' id cap n ks' ∧ Pm a b ks ks' ∧ Srt ltT a i ks' ∧ Fm (· ∈ F) m m' ∧ e = [(0, SV id n cap), (1, I a), (2, I b), (6, I i)]) (b + 1 - (a + 1)) ⟨a + 1, ks, by omega, by omega, rfl, h, .refl, .one (by omega), .refl, rfl⟩ ?_
  rintro k e m1 N1 B1 hN1 hB1 ⟨i, k1, hai, hib, rfl, o1, p1, s1, f1, rfl⟩
  by_cases hlt : i < b
  · have hlt' : (i : Int) < (b : Int) := by omega
    have w1 : IntKind.i64.wrap ((i : Int) + 1) = ((i + 1 : Nat) : Int) := by rw [wrap_i64 (by omega) (by omega)]; omega
    simp only [symA, go_opsd, symB, wantedX, X.put, X.look, Arg.ev, keepOf, restrict, evs, evO, initEnv, xres, tup, noTup, cls, quiet, Nat.reduceAdd, Nat.reduceEqDiff, ↓reduceIte, reduceCtorEq, goInt, exists_eq_left', eq_self, Int.reduceLT, Int.reduceLE, Int.reduceEq, Int.reduceNeg, Int.reduceAdd, Int.reduceSub, forall_const, ne_eq, undef, Nat.reducePow, Nat.reduceDiv, Nat.reduceMod, hlt']
    refine loop_go (fun k' e m' => ∃ (j : Nat) (k2 : List ByteArray), a ≤ j ∧ j ≤ i ∧ k' = j ∧ OwnK F m' id cap n k2 ∧ Pm a b ks k2 ∧ InsI ltT a i j k2 ∧ Fm (· ∈ F) m m' ∧ e = [(0, SV id n cap), (1, I a), (2, I b), (6, I i), (7, I j)]) i ⟨i, k1, by omega, by omega, rfl, o1, p1, .start s1, f1, rfl⟩ ?_
    rintro k' e m2 N2 B2 hN2 hB2 ⟨j, k2, haj, hji, rfl, o2, p2, s2, f2, rfl⟩
    by_cases hja : a < k'
    · have hja' : (a : Int) < (k' : Int) := by omega
      obtain ⟨j, rfl⟩ : ∃ j, k' = j + 1 := ⟨k' - 1, by omega⟩
      have hl := o2.len
      obtain ⟨x, hx⟩ : ∃ x, k2[j + 1]? = some x := ⟨_, List.getElem?_eq_getElem (by omega)⟩
      obtain ⟨y, hy⟩ : ∃ y, k2[j]? = some y := ⟨_, List.getElem?_eq_getElem (by omega)⟩
      obtain ⟨o, hg, hc⟩ := o2.obj
      have hcx := hc _ _ hx
      have hcy := hc _ _ hy
      have w2 : IntKind.i64.wrap (((j + 1 : Nat) : Int) - 1) = (j : Int) := by rw [wrap_i64 (by omega) (by omega)]; omega
      have hj1 : j + 1 < n := by omega
      have hj2 : j < n := by omega
      by_cases hxy : ltT x y
      · obtain ⟨m3, m4, t1, t2, o4, f4⟩ := o2.swap hx hy
        simp only [symA, go_opsd, symB, wantedX, X.put, X.look, Arg.ev, keepOf, restrict, evs, evO, initEnv, xres, tup, noTup, cls, quiet, Nat.reduceAdd, Nat.reduceEqDiff, ↓reduceIte, reduceCtorEq, goInt, exists_eq_left', eq_self, Int.reduceLT, Int.reduceLE, Int.reduceEq, Int.reduceNeg, Int.reduceAdd, Int.reduceSub, forall_const, ne_eq, undef, Nat.reducePow, Nat.reduceDiv, Nat.reduceMod, hja', w2, hj1, hj2, hg, hcx, hcy, goDV3c (less_t hxy), t1, t2]
        exact hN2 _ _ j (by omega) ⟨j, _, by omega, by omega, rfl, o4, p2.trans (sw_pm hx hy (by omega) (by omega) (by omega) (by omega)), s2.step ordT (by omega) (by omega) hx hy hxy, f2.trans f4, rfl⟩
      · simp only [symA, go_opsd, symB, wantedX, X.put, X.look, Arg.ev, keepOf, restrict, evs, evO, initEnv, xres, tup, noTup, cls, quiet, Nat.reduceAdd, Nat.reduceEqDiff, ↓reduceIte, reduceCtorEq, goInt, exists_eq_left', eq_self, Int.reduceLT, Int.reduceLE, Int.reduceEq, Int.reduceNeg, Int.reduceAdd, Int.reduceSub, forall_const, ne_eq, undef, Nat.reducePow, Nat.reduceDiv, Nat.reduceMod, hja', w2, hj1, hj2, hg, hcx, hcy, goDV3c (less_f hxy)]
        refine hB2 _ _ _ ?_
        simp only [symA, go_opsd, symB, wantedX, X.put, X.look, Arg.ev, keepOf, restrict, evs, evO, initEnv, xres, tup, noTup, cls, quiet, Nat.reduceAdd, Nat.reduceEqDiff, ↓reduceIte, reduceCtorEq, goInt, exists_eq_left', eq_self, Int.reduceLT, Int.reduceLE, Int.reduceEq, Int.reduceNeg, Int.reduceAdd, Int.reduceSub, forall_const, ne_eq, undef, Nat.reducePow, Nat.reduceDiv, Nat.reduceMod, w1]
        exact hN1 _ _ (b + 1 - (i + 1)) (by omega) ⟨i + 1, k2, by omega, by omega, rfl, o2, p2, s2.done ordT (by omega) hx hy hxy (by omega), f2, rfl⟩
    · have hja' : ¬ (a : Int) < (k' : Int) := by omega
      have : k' = a := by omega
      subst this
      simp only [symA, go_opsd, symB, wantedX, X.put, X.look, Arg.ev, keepOf, restrict, evs, evO, initEnv, xres, tup, noTup, cls, quiet, Nat.reduceAdd, Nat.reduceEqDiff, ↓reduceIte, reduceCtorEq, goInt, exists_eq_left', eq_self, Int.reduceLT, Int.reduceLE, Int.reduceEq, Int.reduceNeg, Int.reduceAdd, Int.reduceSub, forall_const, ne_eq, undef, Nat.reducePow, Nat.reduceDiv, Nat.reduceMod, hja']
      refine hB2 _ _ _ ?_
      simp only [symA, go_opsd, symB, wantedX, X.put, X.look, Arg.ev, keepOf, restrict, evs, evO, initEnv, xres, tup, noTup, cls, quiet, Nat.reduceAdd, Nat.reduceEqDiff, ↓reduceIte, reduceCtorEq, goInt, exists_eq_left', eq_self, Int.reduceLT, Int.reduceLE, Int.reduceEq, Int.reduceNeg, Int.reduceAdd, Int.reduceSub, forall_const, ne_eq, undef, Nat.reducePow, Nat.reduceDiv, Nat.reduceMod, w1]
      exact hN1 _ _ (b + 1 - (i + 1)) (by omega) ⟨i + 1, k2, by omega, by omega, rfl, o2, p2, s2.done_a, f2, rfl⟩
  · have hlt' : ¬ (i : Int) < (b : Int) := by omega
    simp only [symA, go_opsd, symB, wantedX, X.put, X.look, Arg.ev, keepOf, restrict, evs, evO, initEnv, xres, tup, noTup, cls, quiet, Nat.reduceAdd, Nat.reduceEqDiff, ↓reduceIte, reduceCtorEq, goInt, exists_eq_left', eq_self, Int.reduceLT, Int.reduceLE, Int.reduceEq, Int.reduceNeg, Int.reduceAdd, Int.reduceSub, forall_const, ne_eq, undef, Nat.reducePow, Nat.reduceDiv, Nat.reduceMod, hlt']
    refine hB1 _ _ _ ?_
    simp only [symA, go_opsd, symB, wantedX, X.put, X.look, Arg.ev, keepOf, restrict, evs, evO, initEnv, xres, tup, noTup, cls, quiet, Nat.reduceAdd, Nat.reduceEqDiff, ↓reduceIte, reduceCtorEq, goInt, exists_eq_left', eq_self, Int.reduceLT, Int.reduceLE, Int.reduceEq, Int.reduceNeg, Int.reduceAdd, Int.reduceSub, forall_const, ne_eq, undef, Nat.reducePow, Nat.reduceDiv, Nat.reduceMod]
    exact hQ _ _ _ rfl ⟨rfl, k1, o1, p1, s1.sub (Nat.le_refl _) (by omega), f1⟩

/-! ## Heaps -/
theorem sift_spec {f lo hi : Nat} (h : OwnK F m id cap n ks) (hhi : f + hi ≤ n) (hn : n ≤ 1000000000) (hlo : lo ≤ n) (hh : Heap ltT f (lo + 1) hi ks) : Wc 68 [SV id n cap, I lo, I hi, I f] m fun v m' => v = tup [] ∧ ∃ ks', OwnK F m' id cap n ks' ∧ Pm f (f + hi) ks ks' ∧ Heap ltT f lo hi ks' ∧ Fm (· ∈ F) m m' := by
  refine call_go (F := _) rfl rfl fun Q hQ => ?_
  simp only [symA, go_opsd, symB, wantedX, X.put, X.look, Arg.ev, keepOf, restrict, evs, evO, initEnv, xres, tup, noTup, cls, quiet, Nat.reduceAdd, Nat.reduceEqDiff, ↓reduceIte, reduceCtorEq, goInt, exists_eq_left', eq_self, Int.reduceLT, Int.reduceLE, Int.reduceEq, Int.reduceNeg, Int.reduceAdd, Int.reduceSub, forall_const, ne_eq, undef, Nat.reducePow, Nat.reduceDiv, Nat.reduceMod]
  refine loop_go (fun k e m' => ∃ (r : Nat) (ks' : List ByteArray), lo ≤ r ∧ (r = lo ∨ r < hi) ∧ k = lo + hi - r ∧ OwnK F m' id cap n ks' ∧ Pm f (f + hi) ks ks' ∧ SiftI ltT f lo hi r ks' ∧ Fm (· ∈ F) m m' ∧ e = [(0, SV id n cap), (2, I hi), (3, I f), (8, I r)]) hi ⟨lo, ks, by omega, .inl rfl, by omega, h, .refl, .start hh, .refl, rfl⟩ ?_
  rintro k e m1 N1 B1 hN1 hB1 ⟨r, k1, hlr, hr, rfl, o1, p1, s1, f1, rfl⟩
  have w0 : IntKind.i64.wrap (2 * (r : Int)) = ((2 * r : Nat) : Int) := by rw [wrap_i64 (by omega) (by omega)]; omega
  have w1 : IntKind.i64.wrap (((2 * r : Nat) : Int) + 1) = ((2 * r + 1 : Nat) : Int) := by rw [wrap_i64 (by omega) (by omega)]; omega
  by_cases hc : hi ≤ 2 * r + 1
  · have hc' : (hi : Int) ≤ ((2 * r + 1 : Nat) : Int) := by omega
    simp only [symA, go_opsd, symB, wantedX, X.put, X.look, Arg.ev, keepOf, restrict, evs, evO, initEnv, xres, tup, noTup, cls, quiet, Nat.reduceAdd, Nat.reduceEqDiff, ↓reduceIte, reduceCtorEq, goInt, exists_eq_left', eq_self, Int.reduceLT, Int.reduceLE, Int.reduceEq, Int.reduceNeg, Int.reduceAdd, Int.reduceSub, forall_const, ne_eq, undef, Nat.reducePow, Nat.reduceDiv, Nat.reduceMod, w0, w1, hc']
    refine hB1 _ _ _ ?_
    simp only [symA, go_opsd, symB, wantedX, X.put, X.look, Arg.ev, keepOf, restrict, evs, evO, initEnv, xres, tup, noTup, cls, quiet, Nat.reduceAdd, Nat.reduceEqDiff, ↓reduceIte, reduceCtorEq, goInt, exists_eq_left', eq_self, Int.reduceLT, Int.reduceLE, Int.reduceEq, Int.reduceNeg, Int.reduceAdd, Int.reduceSub, forall_const, ne_eq, undef, Nat.reducePow, Nat.reduceDiv, Nat.reduceMod]
    exact hQ _ _ _ rfl ⟨rfl, k1, o1, p1, s1.done (fun c x y h1 h2 _ _ => by omega), f1⟩
  · have hc' : ¬ (hi : Int) ≤ ((2 * r + 1 : Nat) : Int) := by omega
    have hl := o1.len
    obtain ⟨x, hx⟩ : ∃ x, k1[f + r]? = some x := ⟨_, List.getElem?_eq_getElem (by omega)⟩
    obtain ⟨y, hy⟩ : ∃ y, k1[f + (2 * r + 1)]? = some y := ⟨_, List.getElem?_eq_getElem (by omega)⟩
    obtain ⟨o, hg, hcell⟩ := o1.obj
    have cx := hcell _ _ hx
    have cy := hcell _ _ hy
    have w2 : IntKind.i64.wrap (((2 * r + 1 : Nat) : Int) + 1) = ((2 * r + 2 : Nat) : Int) := by rw [wrap_i64 (by omega) (by omega)]; omega
    have w3 : IntKind.i64.wrap ((f : Int) + ((2 * r + 1 : Nat) : Int)) = ((f + (2 * r + 1) : Nat) : Int) := by rw [wrap_i64 (by omega) (by omega)]; omega
    have w4 : IntKind.i64.wrap (((f + (2 * r + 1) : Nat) : Int) + 1) = ((f + (2 * r + 2) : Nat) : Int) := by rw [wrap_i64 (by omega) (by omega)]; omega
    have w5 : IntKind.i64.wrap ((f : Int) + (r : Int)) = ((f + r : Nat) : Int) := by rw [wrap_i64 (by omega) (by omega)]; omega
    have w6 : IntKind.i64.wrap ((f : Int) + ((2 * r + 2 : Nat) : Int)) = ((f + (2 * r + 2) : Nat) : Int) := by rw [wrap_i64 (by omega) (by omega)]; omega
    have b1 : f + (2 * r + 1) < n := by omega
    have b2 : f + r < n := by omega
    by_cases hc2 : 2 * r + 2 < hi
    · have hc2' : ((2 * r + 2 : Nat) : Int) < (hi : Int) := by omega
      have b3 : f + (2 * r + 2) < n := by omega
      obtain ⟨z, hz⟩ : ∃ z, k1[f + (2 * r + 2)]? = some z := ⟨_, List.getElem?_eq_getElem (by omega)⟩
      have cz := hcell _ _ hz
      by_cases hyz : ltT y z
      · -- the second one
        have hmax : ∀ c' u, (c' = 2 * r + 1 ∨ c' = 2 * r + 2) → c' < hi → k1[f + c']? = some u → ¬ ltT z u := by
          rintro c' u (rfl | rfl) _ hu
          · rw [hy] at hu; cases hu; exact ordT.asymm hyz
          · rw [hz] at hu; cases hu; exact ordT.irr _
        by_cases hxz : ltT x z
        · obtain ⟨m3, m4, t1, t2, o4, f4⟩ := o1.swap hx hz
          simp only [symA, go_opsd, symB, wantedX, X.put, X.look, Arg.ev, keepOf, restrict, evs, evO, initEnv, xres, tup, noTup, cls, quiet, Nat.reduceAdd, Nat.reduceEqDiff, ↓reduceIte, reduceCtorEq, goInt, exists_eq_left', eq_self, Int.reduceLT, Int.reduceLE, Int.reduceEq, Int.reduceNeg, Int.reduceAdd, Int.reduceSub, forall_const, ne_eq, undef, Nat.reducePow, Nat.reduceDiv, Nat.reduceMod, w0, w1, w2, w3, w4, w5, w6, hc', hc2', b1, b2, b3, hg, cx, cy, cz, goDV3c (less_t hyz), goDV3c (less_t hxz), t1, t2]
          exact hN1 _ _ (lo + hi - (2 * r + 2)) (by omega) ⟨2 * r + 2, _, by omega, .inr hc2, rfl, o4, p1.trans (sw_pm hx hz (by omega) (by omega) (by omega) (by omega)), s1.step ordT hlr (.inr rfl) hc2 hx hz hxz hmax, f1.trans f4, rfl⟩
        · simp only [symA, go_opsd, symB, wantedX, X.put, X.look, Arg.ev, keepOf, restrict, evs, evO, initEnv, xres, tup, noTup, cls, quiet, Nat.reduceAdd, Nat.reduceEqDiff, ↓reduceIte, reduceCtorEq, goInt, exists_eq_left', eq_self, Int.reduceLT, Int.reduceLE, Int.reduceEq, Int.reduceNeg, Int.reduceAdd, Int.reduceSub, forall_const, ne_eq, undef, Nat.reducePow, Nat.reduceDiv, Nat.reduceMod, w0, w1, w2, w3, w4, w5, w6, hc', hc2', b1, b2, b3, hg, cx, cy, cz, goDV3c (less_t hyz), goDV3c (less_f hxz)]
          refine hQ _ _ _ rfl ⟨rfl, k1, o1, p1, s1.done (fun c u v h1 h2 hu hv => ?_), f1⟩
          rw [hx] at hu
          cases hu
          exact ordT.le_trans (hmax c v h1 h2 hv) hxz
      · have hmax : ∀ c' u, (c' = 2 * r + 1 ∨ c' = 2 * r + 2) → c' < hi → k1[f + c']? = some u → ¬ ltT y u := by
          rintro c' u (rfl | rfl) _ hu
          · rw [hy] at hu; cases hu; exact ordT.irr _
          · rw [hz] at hu; cases hu; exact hyz
        by_cases hxy : ltT x y
        · obtain ⟨m3, m4, t1, t2, o4, f4⟩ := o1.swap hx hy
          simp only [symA, go_opsd, symB, wantedX, X.put, X.look, Arg.ev, keepOf, restrict, evs, evO, initEnv, xres, tup, noTup, cls, quiet, Nat.reduceAdd, Nat.reduceEqDiff, ↓reduceIte, reduceCtorEq, goInt, exists_eq_left', eq_self, Int.reduceLT, Int.reduceLE, Int.reduceEq, Int.reduceNeg, Int.reduceAdd, Int.reduceSub, forall_const, ne_eq, undef, Nat.reducePow, Nat.reduceDiv, Nat.reduceMod, w0, w1, w2, w3, w4, w5, w6, hc', hc2', b1, b2, b3, hg, cx, cy, cz, goDV3c (less_f hyz), goDV3c (less_t hxy), t1, t2]
          exact hN1 _ _ (lo + hi - (2 * r + 1)) (by omega) ⟨2 * r + 1, _, by omega, .inr (by omega), rfl, o4, p1.trans (sw_pm hx hy (by omega) (by omega) (by omega) (by omega)), s1.step ordT hlr (.inl rfl) (by omega) hx hy hxy hmax, f1.trans f4, rfl⟩
        · simp only [symA, go_opsd, symB, wantedX, X.put, X.look, Arg.ev, keepOf, restrict, evs, evO, initEnv, xres, tup, noTup, cls, quiet, Nat.reduceAdd, Nat.reduceEqDiff, ↓reduceIte, reduceCtorEq, goInt, exists_eq_left', eq_self, Int.reduceLT, Int.reduceLE, Int.reduceEq, Int.reduceNeg, Int.reduceAdd, Int.reduceSub, forall_const, ne_eq, undef, Nat.reducePow, Nat.reduceDiv, Nat.reduceMod, w0, w1, w2, w3, w4, w5, w6, hc', hc2', b1, b2, b3, hg, cx, cy, cz, goDV3c (less_f hyz), goDV3c (less_f hxy)]
          refine hQ _ _ _ rfl ⟨rfl, k1, o1, p1, s1.done (fun c u v h1 h2 hu hv => ?_), f1⟩
          rw [hx] at hu
          cases hu
          exact ordT.le_trans (hmax c v h1 h2 hv) hxy
    · have hc2' : ¬ ((2 * r + 2 : Nat) : Int) < (hi : Int) := by omega
      have hmax : ∀ c' u, (c' = 2 * r + 1 ∨ c' = 2 * r + 2) → c' < hi → k1[f + c']? = some u → ¬ ltT y u := by
        rintro c' u (rfl | rfl) hlt hu
        · rw [hy] at hu; cases hu; exact ordT.irr _
        · omega
      by_cases hxy : ltT x y
      · obtain ⟨m3, m4, t1, t2, o4, f4⟩ := o1.swap hx hy
        simp only [symA, go_opsd, symB, wantedX, X.put, X.look, Arg.ev, keepOf, restrict, evs, evO, initEnv, xres, tup, noTup, cls, quiet, Nat.reduceAdd, Nat.reduceEqDiff, ↓reduceIte, reduceCtorEq, goInt, exists_eq_left', eq_self, Int.reduceLT, Int.reduceLE, Int.reduceEq, Int.reduceNeg, Int.reduceAdd, Int.reduceSub, forall_const, ne_eq, undef, Nat.reducePow, Nat.reduceDiv, Nat.reduceMod, w0, w1, w2, w3, w4, w5, w6, hc', hc2', b1, b2, hg, cx, cy, goDV3c (less_t hxy), t1, t2]
        exact hN1 _ _ (lo + hi - (2 * r + 1)) (by omega) ⟨2 * r + 1, _, by omega, .inr (by omega), rfl, o4, p1.trans (sw_pm hx hy (by omega) (by omega) (by omega) (by omega)), s1.step ordT hlr (.inl rfl) (by omega) hx hy hxy hmax, f1.trans f4, rfl⟩
      · simp only [symA, go_opsd, symB, wantedX, X.put, X.look, Arg.ev, keepOf, restrict, evs, evO, initEnv, xres, tup, noTup, cls, quiet, Nat.reduceAdd, Nat.reduceEqDiff, ↓reduceIte, reduceCtorEq, goInt, exists_eq_left', eq_self, Int.reduceLT, Int.reduceLE, Int.reduceEq, Int.reduceNeg, Int.reduceAdd, Int.reduceSub, forall_const, ne_eq, undef, Nat.reducePow, Nat.reduceDiv, Nat.reduceMod, w0, w1, w2, w3, w4, w5, w6, hc', hc2', b1, b2, hg, cx, cy, goDV3c (less_f hxy)]
        refine hQ _ _ _ rfl ⟨rfl, k1, o1, p1, s1.done (fun c u v h1 h2 hu hv => ?_), f1⟩
        rw [hx] at hu
        cases hu
        exact ordT.le_trans (hmax c v h1 h2 hv) hxy

theorem heapSort_spec {a b : Nat} (h : OwnK F m id cap n ks) (hab : a < b) (hb : b ≤ n) (hn : n ≤ 1000000000) : Wc 56 [SV id n cap, I a, I b] m fun v m' => v = tup [] ∧ ∃ ks', OwnK F m' id cap n ks' ∧ Pm a b ks ks' ∧ Srt ltT a b ks' ∧ Fm (· ∈ F) m m' := by
  refine call_go (F := _) rfl rfl fun Q hQ => ?_
  obtain ⟨hi, hhi⟩ : ∃ hi, hi = b - a := ⟨_, rfl⟩
  have e0 : a + hi = b := by omega
  have w0 : IntKind.i64.wrap ((b : Int) - (a : Int)) = (hi : Int) := by rw [wrap_i64 (by omega) (by omega)]; omega
  have w1 : IntKind.i64.wrap ((hi : Int) - 1) = ((hi - 1 : Nat) : Int) := by rw [wrap_i64 (by omega) (by omega)]; omega
  have q0 : ∀ m : Mem, binE Try.prog .quo 3 (I ((hi - 1 : Nat) : Int)) (I 2) m = some (.val (I (((hi - 1) / 2 : Nat) : Int)) m) := fun m => by
    rw [bin_quo (by decide), Int.tdiv_eq_ediv_of_nonneg (by omega), wrap_i64 (by omega) (by omega)]
    rfl
  simp only [symA, go_opsd, symB, wantedX, X.put, X.look, Arg.ev, keepOf, restrict, evs, evO, initEnv, xres, tup, noTup, cls, quiet, Nat.reduceAdd, Nat.reduceEqDiff, ↓reduceIte, reduceCtorEq, goInt, exists_eq_left', eq_self, Int.reduceLT, Int.reduceLE, Int.reduceEq, Int.reduceNeg, Int.reduceAdd, Int.reduceSub, forall_const, ne_eq, undef, Nat.reducePow, Nat.reduceDiv, Nat.reduceMod, w0, w1, q0]
  refine loop_go (fun k e m' => ∃ (i : Int) (ks' : List ByteArray), -1 ≤ i ∧ i < hi ∧ (k : Int) = i + 1 ∧ OwnK F m' id cap n ks' ∧ Pm a b ks ks' ∧ Heap ltT a (i + 1).toNat hi ks' ∧ Fm (· ∈ F) m m' ∧ e = [(0, SV id n cap), (6, I a), (7, I 0), (8, I hi), (9, I i)]) ((hi - 1) / 2 + 1) ⟨(((hi - 1) / 2 : Nat) : Int), ks, by omega, by omega, by omega, h, .refl, fun k c x y h1 h2 h3 _ _ => by omega, .refl, rfl⟩ ?_
  rintro k e m1 N1 B1 hN1 hB1 ⟨i, k1, hi1, hi2, hk, o1, p1, s1, f1, rfl⟩
  by_cases h0 : 0 ≤ i
  · obtain ⟨j, rfl⟩ := Int.eq_ofNat_of_zero_le h0
    have hs := sift_spec (f := a) (lo := j) (hi := hi) o1 (by omega) hn (by omega) (by have : ((j : Int) + 1).toNat = j + 1 := by omega
                                                                                       rw [this] at s1; exact s1)
    have w2 : IntKind.i64.wrap ((j : Int) - 1) = (j : Int) - 1 := wrap_i64 (by omega) (by omega)
    simp only [symA, go_opsd, symB, wantedX, X.put, X.look, Arg.ev, keepOf, restrict, evs, evO, initEnv, xres, tup, noTup, cls, quiet, Nat.reduceAdd, Nat.reduceEqDiff, ↓reduceIte, reduceCtorEq, goInt, exists_eq_left', eq_self, Int.reduceLT, Int.reduceLE, Int.reduceEq, Int.reduceNeg, Int.reduceAdd, Int.reduceSub, forall_const, ne_eq, undef, Nat.reducePow, Nat.reduceDiv, Nat.reduceMod, h0]
    refine goR_wp hs ?_
    rintro v m2 ⟨rfl, k2, o2, p2, s2, f2⟩
    simp only [symA, go_opsd, symB, wantedX, X.put, X.look, Arg.ev, keepOf, restrict, evs, evO, initEnv, xres, tup, noTup, cls, quiet, Nat.reduceAdd, Nat.reduceEqDiff, ↓reduceIte, reduceCtorEq, goInt, exists_eq_left', eq_self, Int.reduceLT, Int.reduceLE, Int.reduceEq, Int.reduceNeg, Int.reduceAdd, Int.reduceSub, forall_const, ne_eq, undef, Nat.reducePow, Nat.reduceDiv, Nat.reduceMod, w2]
    refine hN1 _ _ j (by omega) ⟨(j : Int) - 1, k2, by omega, by omega, by omega, o2, p1.trans (by rw [← e0]; exact p2), ?_, f1.trans f2, rfl⟩
    have : ((j : Int) - 1 + 1).toNat = j := by omega
    rw [this]; exact s2
  · have : i = -1 := by omega
    subst this
    simp only [symA, go_opsd, symB, wantedX, X.put, X.look, Arg.ev, keepOf, restrict, evs, evO, initEnv, xres, tup, noTup, cls, quiet, Nat.reduceAdd, Nat.reduceEqDiff, ↓reduceIte, reduceCtorEq, goInt, exists_eq_left', eq_self, Int.reduceLT, Int.reduceLE, Int.reduceEq, Int.reduceNeg, Int.reduceAdd, Int.reduceSub, forall_const, ne_eq, undef, Nat.reducePow, Nat.reduceDiv, Nat.reduceMod]
    refine hB1 _ _ _ ?_
    simp only [symA, go_opsd, symB, wantedX, X.put, X.look, Arg.ev, keepOf, restrict, evs, evO, initEnv, xres, tup, noTup, cls, quiet, Nat.reduceAdd, Nat.reduceEqDiff, ↓reduceIte, reduceCtorEq, goInt, exists_eq_left', eq_self, Int.reduceLT, Int.reduceLE, Int.reduceEq, Int.reduceNeg, Int.reduceAdd, Int.reduceSub, forall_const, ne_eq, undef, Nat.reducePow, Nat.reduceDiv, Nat.reduceMod, w1]
    refine loop_go (fun k e m' => ∃ (i : Int) (ks' : List ByteArray), -1 ≤ i ∧ i < hi ∧ (k : Int) = i + 1 ∧ OwnK F m' id cap n ks' ∧ Pm a b ks ks' ∧ Heap ltT a 0 (i + 1).toNat ks' ∧ Srt ltT (a + (i + 1).toNat) b ks' ∧ (∀ p q x y, a ≤ p → p < a + (i + 1).toNat → a + (i + 1).toNat ≤ q → q < b → ks'[p]? = some x → ks'[q]? = some y → ¬ ltT y x) ∧ Fm (· ∈ F) m m' ∧ e = [(0, SV id n cap), (6, I a), (7, I 0), (10, I i)]) hi ⟨((hi - 1 : Nat) : Int), k1, by omega, by omega, by omega, o1, p1, ?_, .one (by omega), fun p q x y h1 h2 h3 h4 => by omega, f1, rfl⟩ ?_
    · have : (((hi - 1 : Nat) : Int) + 1).toNat = hi := by omega
      rw [this]; exact s1
    rintro k e m2 N2 B2 hN2 hB2 ⟨i, k2, hi1, hi2, hk, o2, p2, s2, t2, g2, f2, rfl⟩
    by_cases h0 : 0 ≤ i
    · obtain ⟨j, rfl⟩ := Int.eq_ofNat_of_zero_le h0
      have ej : ((j : Int) + 1).toNat = j + 1 := by omega
      rw [ej] at s2 t2 g2
      have hl := o2.len
      obtain ⟨x, hx⟩ : ∃ x, k2[a]? = some x := ⟨_, List.getElem?_eq_getElem (by omega)⟩
      obtain ⟨y, hy⟩ : ∃ y, k2[a + j]? = some y := ⟨_, List.getElem?_eq_getElem (by omega)⟩
      obtain ⟨o, hg, hcell⟩ := o2.obj
      have cx := hcell _ _ hx
      have cy := hcell _ _ hy
      obtain ⟨m3, m4, c1, c2, o4, f4⟩ := o2.swap hx hy
      have b1 : a < n := by omega
      have b2 : a + j < n := by omega
      have w2 : IntKind.i64.wrap ((a : Int) + (j : Int)) = ((a + j : Nat) : Int) := by rw [wrap_i64 (by omega) (by omega)]; omega
      have w3 : IntKind.i64.wrap ((j : Int) - 1) = (j : Int) - 1 := wrap_i64 (by omega) (by omega)
      have top := s2.top ordT (by omega) hx
      have hp : Heap ltT a 1 j (sw k2 a (a + j) x y) := by
        by_cases hj : 0 < j
        · exact s2.pop hj hx hy
        · intro k c u v h1 h2 h3; omega
      have hs := sift_spec (f := a) (lo := 0) (hi := j) o4 (by omega) hn (by omega) hp
      simp only [symA, go_opsd, symB, wantedX, X.put, X.look, Arg.ev, keepOf, restrict, evs, evO, initEnv, xres, tup, noTup, cls, quiet, Nat.reduceAdd, Nat.reduceEqDiff, ↓reduceIte, reduceCtorEq, goInt, exists_eq_left', eq_self, Int.reduceLT, Int.reduceLE, Int.reduceEq, Int.reduceNeg, Int.reduceAdd, Int.reduceSub, forall_const, ne_eq, undef, Nat.reducePow, Nat.reduceDiv, Nat.reduceMod, h0, w2, hg, cx, cy, b1, b2, c1, c2]
      refine goR_wp hs ?_
      rintro v m5 ⟨rfl, k5, o5, p5, s5, f5⟩
      simp only [symA, go_opsd, symB, wantedX, X.put, X.look, Arg.ev, keepOf, restrict, evs, evO, initEnv, xres, tup, noTup, cls, quiet, Nat.reduceAdd, Nat.reduceEqDiff, ↓reduceIte, reduceCtorEq, goInt, exists_eq_left', eq_self, Int.reduceLT, Int.reduceLE, Int.reduceEq, Int.reduceNeg, Int.reduceAdd, Int.reduceSub, forall_const, ne_eq, undef, Nat.reducePow, Nat.reduceDiv, Nat.reduceMod, w3]
      have ej' : ((j : Int) - 1 + 1).toNat = j := by omega
      have q1 : Pm a b k2 (sw k2 a (a + j) x y) := sw_pm hx hy (by omega) (by omega) (by omega) (by omega)
      have q2 : Pm a b (sw k2 a (a + j) x y) k5 := p5.mono (Nat.le_refl _) (by omega)
      have at5 : ∀ q, a + j ≤ q → k5[q]? = (sw k2 a (a + j) x y)[q]? := fun q hq => p5.same q (.inr hq)
      have atj : k5[a + j]? = some x := by rw [at5 _ (Nat.le_refl _), sw_get hx hy, if_pos rfl]
      have atq : ∀ q, a + j < q → k5[q]? = k2[q]? := fun q hq => by rw [at5 q (by omega), sw_get hx hy, if_neg (by omega), if_neg (by omega)]
      have low : ∀ p z, a ≤ p → p < a + j → k5[p]? = some z → ∃ p', a ≤ p' ∧ p' < a + j + 1 ∧ k2[p']? = some z := fun p z h1 h2 hz => by
        obtain ⟨p', h3, h4, h5⟩ := p5.mem (by omega) h1 h2 hz
        rw [sw_get hx hy] at h5
        rw [if_neg (by omega)] at h5
        by_cases hpa : p' = a
        · rw [if_pos hpa] at h5
          cases h5
          exact ⟨a + j, by omega, by omega, hy⟩
        · rw [if_neg hpa] at h5
          exact ⟨p', h3, by omega, h5⟩
      refine hN2 _ _ j (by omega) ⟨(j : Int) - 1, k5, by omega, by omega, by omega, o5, (p2.trans q1).trans q2, by rw [ej']; exact s5, ?_, ?_, (f2.trans f4).trans f5, rfl⟩
      · rw [ej']
        refine Srt.glue (b := a + j + 1) (.one (Nat.le_refl _)) (fun p q u v h1 h2 h3 hu hv => t2 p q u v (by omega) h2 h3 (by rw [← atq p (by omega)]; exact hu) (by rw [← atq q (by omega)]; exact hv)) (fun p q u v h1 h2 h3 h4 hu hv => ?_)
        have hpe : p = a + j := by omega
        subst hpe
        rw [atj] at hu
        cases hu
        rw [atq q (by omega)] at hv
        exact g2 a q x v (Nat.le_refl _) (by omega) (by omega) h4 hx hv
      · rw [ej']
        intro p q u v h1 h2 h3 h4 hu hv
        obtain ⟨p', h5, h6, h7⟩ := low p u h1 h2 hu
        by_cases hq : q = a + j
        · subst hq
          rw [atj] at hv
          cases hv
          obtain ⟨k', rfl⟩ : ∃ k', p' = a + k' := ⟨p' - a, by omega⟩
          exact top k' u (by omega) h7
        · rw [atq q (by omega)] at hv
          exact g2 p' q u v h5 (by omega) (by omega) h4 h7 hv
    · have : i = -1 := by omega
      subst this
      simp only [symA, go_opsd, symB, wantedX, X.put, X.look, Arg.ev, keepOf, restrict, evs, evO, initEnv, xres, tup, noTup, cls, quiet, Nat.reduceAdd, Nat.reduceEqDiff, ↓reduceIte, reduceCtorEq, goInt, exists_eq_left', eq_self, Int.reduceLT, Int.reduceLE, Int.reduceEq, Int.reduceNeg, Int.reduceAdd, Int.reduceSub, forall_const, ne_eq, undef, Nat.reducePow, Nat.reduceDiv, Nat.reduceMod]
      refine hB2 _ _ _ ?_
      simp only [symA, go_opsd, symB, wantedX, X.put, X.look, Arg.ev, keepOf, restrict, evs, evO, initEnv, xres, tup, noTup, cls, quiet, Nat.reduceAdd, Nat.reduceEqDiff, ↓reduceIte, reduceCtorEq, goInt, exists_eq_left', eq_self, Int.reduceLT, Int.reduceLE, Int.reduceEq, Int.reduceNeg, Int.reduceAdd, Int.reduceSub, forall_const, ne_eq, undef, Nat.reducePow, Nat.reduceDiv, Nat.reduceMod]
      exact hQ _ _ _ rfl ⟨rfl, k2, o2, p2, t2, f2⟩
end
end Go.Proofs.Ytlldfkapaeidoaa
