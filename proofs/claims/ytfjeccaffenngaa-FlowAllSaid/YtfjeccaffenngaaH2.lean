/-
  Own work. Sets of tags 1..8 as numbers, and a search through them by breadth: what is found, and in how many steps. Labels of tags 1..8, and numbers that stand for them.
-/
import Derived.Test.YtfjeccaffenngaaG1
import Derived.KernelRfl
namespace Go.Proofs.Ytfjeccaffenngaa
open Go X
set_option maxRecDepth 100000
set_option linter.unusedVariables false
set_option linter.unusedSimpArgs false

def T8 : List Nat := [1, 2, 3, 4, 5, 6, 7, 8]
def hasN (x t : Nat) : Bool := x.testBit (t - 1)
def tog (x t : Nat) : Nat := x ^^^ 2 ^ (t - 1)
def popN (x : Nat) : Nat := T8.countP (hasN x)
def dist (f y : Nat) : Nat := T8.countP fun t => hasN f t != hasN y t

theorem t8_iff {t : Nat} : t ∈ T8 ↔ 1 ≤ t ∧ t ≤ 8 := by simp [T8]; omega
theorem t8_nodup : T8.Nodup := by decide
theorem has_tog {x t s : Nat} (ht : t ∈ T8) (hs : s ∈ T8) : hasN (tog x t) s = (hasN x s != decide (s = t)) := by
  rw [t8_iff] at ht hs
  unfold hasN tog
  rw [Nat.testBit_xor, Nat.testBit_two_pow]
  have : decide (t - 1 = s - 1) = decide (s = t) := decide_eq_decide.2 (by omega)
  rw [this]
theorem has_tog_self {x t : Nat} (ht : t ∈ T8) : hasN (tog x t) t = !hasN x t := by rw [has_tog ht ht]; simp
theorem has_tog_ne {x t s : Nat} (ht : t ∈ T8) (hs : s ∈ T8) (h : s ≠ t) : hasN (tog x t) s = hasN x s := by rw [has_tog ht hs]; simp [h]
theorem tog_tog {x t : Nat} : tog (tog x t) t = x := by unfold tog; rw [Nat.xor_assoc, Nat.xor_self, Nat.xor_zero]
theorem tog_lt {x t : Nat} (hx : x < 256) (ht : t ∈ T8) : tog x t < 256 := by
  rw [t8_iff] at ht
  exact Nat.xor_lt_two_pow (n := 8) hx (Nat.pow_lt_pow_right (by omega) (by omega))
theorem countP_flip {p q : Nat → Bool} {t : Nat} : ∀ l : List Nat, l.Nodup → t ∈ l → (∀ s ∈ l, s ≠ t → p s = q s) → p t = true → q t = false → l.countP p = l.countP q + 1
  | [], _, hm, _, _, _ => nomatch hm
  | a :: l, hn, hm, he, hp, hq => by
    rw [List.countP_cons, List.countP_cons]
    rw [List.nodup_cons] at hn
    by_cases ha : a = t
    · subst ha
      have : l.countP p = l.countP q := List.countP_congr (fun s hs => by rw [he s (by simp [hs]) (fun h => hn.1 (h ▸ hs))])
      simp [hp, hq, this]
    · have hm' : t ∈ l := by
        rcases List.mem_cons.1 hm with h | h
        · exact absurd h.symm ha
        · exact h
      have ih := countP_flip l hn.2 hm' (fun s hs => he s (by simp [hs])) hp hq
      rw [he a (by simp) ha]
      omega
theorem pop_up {x t : Nat} (ht : t ∈ T8) (h : hasN x t = false) : popN (tog x t) = popN x + 1 :=
  countP_flip (t := t) T8 t8_nodup ht (fun s hs hne => has_tog_ne ht hs hne) (by rw [has_tog_self ht, h]; rfl) h
theorem pop_down {x t : Nat} (ht : t ∈ T8) (h : hasN x t = true) : popN x = popN (tog x t) + 1 :=
  countP_flip (t := t) T8 t8_nodup ht (fun s hs hne => (has_tog_ne ht hs hne).symm) h (by rw [has_tog_self ht, h]; rfl)
theorem dist_up {f x t : Nat} (ht : t ∈ T8) (h : hasN f t = hasN x t) : dist f (tog x t) = dist f x + 1 :=
  countP_flip (t := t) T8 t8_nodup ht (fun s hs hne => by rw [has_tog_ne ht hs hne]) (by rw [has_tog_self ht, h]; cases hasN x t <;> rfl) (by rw [h]; simp)
theorem dist_down {f x t : Nat} (ht : t ∈ T8) (h : hasN f t ≠ hasN x t) : dist f x = dist f (tog x t) + 1 :=
  countP_flip (t := t) T8 t8_nodup ht (fun s hs hne => by rw [has_tog_ne ht hs hne]) (by simpa using h) (by rw [has_tog_self ht]; cases h1 : hasN f t <;> cases h2 : hasN x t <;> simp_all)
theorem has_high {x s : Nat} (hx : x < 256) (hs : 8 ≤ s) : x.testBit s = false := Nat.testBit_lt_two_pow (Nat.lt_of_lt_of_le hx (Nat.pow_le_pow_right (n := 2) (by omega) hs))
theorem eq_of_bits {x y : Nat} (hx : x < 256) (hy : y < 256) (h : ∀ t ∈ T8, hasN x t = hasN y t) : x = y := by
  apply Nat.eq_of_testBit_eq
  intro i
  by_cases hi : i < 8
  · have := h (i + 1) (t8_iff.2 (by omega))
    simpa [hasN] using this
  · rw [has_high hx (by omega), has_high hy (by omega)]
theorem dist_zero {f y : Nat} (hf : f < 256) (hy : y < 256) (h : dist f y = 0) : f = y := by
  refine eq_of_bits hf hy fun t ht => ?_
  unfold dist at h
  rw [List.countP_eq_zero] at h
  have := h t ht
  simpa using this
theorem dist_self {f : Nat} : dist f f = 0 := by
  unfold dist
  rw [List.countP_eq_zero]
  intro t _
  simp

section
variable (plus minus : Nat → Bool) (f : Nat)
/-- One comes there. -/
structure ComesN (y : Nat) : Prop where
  lt : y < 256
  pop : popN y ≤ 6
  drop : ∀ t ∈ T8, hasN f t = true → hasN y t = false → minus t = true
  add : ∀ t ∈ T8, hasN f t = false → hasN y t = true → plus t = true
/-- One step may be done. -/
def stepN (x t : Nat) : Bool := (bif hasN x t then minus t else plus t) && decide (popN (tog x t) ≤ 6)
end
section
variable {plus minus : Nat → Bool} {f : Nat}
theorem ComesN.tog {x t : Nat} (h : ComesN plus minus f x) (ht : t ∈ T8) (hm : stepN plus minus x t = true) : ComesN plus minus f (tog x t) := by
  unfold stepN at hm
  rw [Bool.and_eq_true, decide_eq_true_eq] at hm
  obtain ⟨h1, h2⟩ := hm
  refine ⟨tog_lt h.lt ht, h2, fun s hs k1 k2 => ?_, fun s hs k1 k2 => ?_⟩
  · by_cases hst : s = t
    · subst hst
      rw [has_tog_self ht] at k2
      have : hasN x s = true := by cases hq : hasN x s <;> simp_all
      rw [this] at h1
      exact h1
    · rw [has_tog_ne ht hs hst] at k2
      exact h.drop s hs k1 k2
  · by_cases hst : s = t
    · subst hst
      rw [has_tog_self ht] at k2
      have : hasN x s = false := by cases hq : hasN x s <;> simp_all
      rw [this] at h1
      exact h1
    · rw [has_tog_ne ht hs hst] at k2
      exact h.add s hs k1 k2
theorem ex_near {y : Nat} (hf : popN f ≤ 6) (h : ComesN plus minus f y) (hd : 0 < dist f y) : ∃ t ∈ T8, ComesN plus minus f (Go.Proofs.Ytfjeccaffenngaa.tog y t) ∧ dist f (Go.Proofs.Ytfjeccaffenngaa.tog y t) + 1 = dist f y ∧ stepN plus minus (Go.Proofs.Ytfjeccaffenngaa.tog y t) t = true := by
  by_cases hx : ∃ t, t ∈ T8 ∧ hasN y t = true ∧ hasN f t = false
  · obtain ⟨t, ht, h1, h2⟩ := hx
    have hp := pop_down ht h1
    have hself := has_tog_self (x := y) ht
    rw [h1] at hself
    refine ⟨t, ht, ⟨tog_lt h.lt ht, by have := h.pop; omega, fun s hs k1 k2 => ?_, fun s hs k1 k2 => ?_⟩, (dist_down ht (by rw [h1, h2]; simp)).symm, ?_⟩
    · by_cases hst : s = t
      · subst hst; rw [h2] at k1; cases k1
      · rw [has_tog_ne ht hs hst] at k2
        exact h.drop s hs k1 k2
    · by_cases hst : s = t
      · subst hst; rw [hself] at k2; cases k2
      · rw [has_tog_ne ht hs hst] at k2
        exact h.add s hs k1 k2
    · unfold stepN
      rw [hself, tog_tog, decide_eq_true h.pop]
      show (plus t && true) = true
      rw [h.add t ht h2 h1]; rfl
  · have hsub : ∀ t ∈ T8, hasN y t = true → hasN f t = true := fun t ht h1 => by
      cases h2 : hasN f t with
      | true => rfl
      | false => exact absurd ⟨t, ht, h1, h2⟩ hx
    unfold dist at hd
    rw [List.countP_pos_iff] at hd
    obtain ⟨t, ht, hne⟩ := hd
    have hyt : hasN y t = false := by
      cases h1 : hasN y t with
      | false => rfl
      | true => rw [h1, hsub t ht h1] at hne; simp at hne
    have hft : hasN f t = true := by
      rw [hyt] at hne
      simpa using hne
    have hself := has_tog_self (x := y) ht
    rw [hyt] at hself
    have hsub' : ∀ s ∈ T8, hasN (Go.Proofs.Ytfjeccaffenngaa.tog y t) s = true → hasN f s = true := fun s hs k => by
      by_cases hst : s = t
      · subst hst; exact hft
      · rw [has_tog_ne ht hs hst] at k; exact hsub s hs k
    refine ⟨t, ht, ⟨tog_lt h.lt ht, Nat.le_trans (List.countP_mono_left hsub') hf, fun s hs k1 k2 => ?_, fun s hs k1 k2 => ?_⟩, (dist_down ht (by rw [hft, hyt]; simp)).symm, ?_⟩
    · by_cases hst : s = t
      · subst hst; rw [hself] at k2; cases k2
      · rw [has_tog_ne ht hs hst] at k2
        exact h.drop s hs k1 k2
    · rw [hsub' s hs k2] at k1; cases k1
    · unfold stepN
      rw [hself, tog_tog, decide_eq_true h.pop]
      show (minus t && true) = true
      rw [h.drop t ht hft hyt]; rfl

variable (plus minus f)
/-- The search: all places found so far; those ahead of the i-th are done, the i-th one for tags below τ. -/
structure Bfs (out : List Nat) (i τ : Nat) : Prop where
  first : out[0]? = some f
  ok : ∀ x ∈ out, ComesN plus minus f x
  nd : ∀ (a b x : Nat), out[a]? = some x → out[b]? = some x → a = b
  mono : ∀ (a b x y : Nat), a ≤ b → out[a]? = some x → out[b]? = some y → dist f x ≤ dist f y
  closed : ∀ (a x t : Nat), out[a]? = some x → t ∈ T8 → (a < i ∨ (a = i ∧ t < τ)) → stepN plus minus x t = true → Go.Proofs.Ytfjeccaffenngaa.tog x t ∈ out
  near : ∀ (b x y : Nat), out[i]? = some x → out[b]? = some y → dist f y ≤ dist f x + 1
variable {plus minus f}
theorem Bfs.start (h : ComesN plus minus f f) : Bfs plus minus f [f] 0 1 := by
  have one : ∀ (a x : Nat), [f][a]? = some x → a = 0 ∧ x = f := fun a x h => by
    have := (List.getElem?_eq_some_iff.1 h).1
    simp at this
    subst this
    simp at h
    exact ⟨rfl, h.symm⟩
  refine ⟨rfl, by simpa using h, fun a b x h1 h2 => ?_, fun a b x y _ h1 h2 => ?_, fun a x t h1 ht h2 => ?_, fun b x y h1 h2 => ?_⟩
  · rw [(one _ _ h1).1, (one _ _ h2).1]
  · rw [(one _ _ h1).2, (one _ _ h2).2]; omega
  · rw [t8_iff] at ht; omega
  · rw [(one _ _ h1).2, (one _ _ h2).2]; omega
variable {out : List Nat} {i τ : Nat}
theorem Bfs.reach (h : Bfs plus minus f out i τ) (hf : popN f ≤ 6) {D : Nat} (hc : ∀ (a y : Nat), out[a]? = some y → dist f y < D → a < i) : ∀ (n y : Nat), dist f y = n → n ≤ D → ComesN plus minus f y → y ∈ out
  | 0, y, hd, _, hy => by
    have hf0 := List.mem_of_getElem? h.first
    rw [← dist_zero (h.ok f hf0).lt hy.lt hd]
    exact hf0
  | n + 1, y, hd, hn, hy => by
    obtain ⟨t, ht, h1, h2, h3⟩ := ex_near hf hy (by omega)
    have := Bfs.reach h hf hc n _ (by omega) (by omega) h1
    obtain ⟨a, ha⟩ := List.mem_iff_getElem?.1 this
    have := h.closed a _ t ha ht (.inl (hc a _ ha (by omega))) h3
    rwa [tog_tog] at this
theorem Bfs.skip (h : Bfs plus minus f out i τ) {x : Nat} (hx : out[i]? = some x) (hs : stepN plus minus x τ = true → Go.Proofs.Ytfjeccaffenngaa.tog x τ ∈ out) : Bfs plus minus f out i (τ + 1) := by
  refine ⟨h.first, h.ok, h.nd, h.mono, fun a y t ha ht hlt hst => ?_, h.near⟩
  by_cases hq : a = i ∧ t = τ
  · obtain ⟨rfl, rfl⟩ := hq
    rw [hx] at ha
    cases ha
    exact hs hst
  · exact h.closed a y t ha ht (by omega) hst
theorem Bfs.push (h : Bfs plus minus f out i τ) (hf : popN f ≤ 6) {x : Nat} (hx : out[i]? = some x) (ht : τ ∈ T8) (hs : stepN plus minus x τ = true) (hn : Go.Proofs.Ytfjeccaffenngaa.tog x τ ∉ out) :
    Bfs plus minus f (out ++ [Go.Proofs.Ytfjeccaffenngaa.tog x τ]) i (τ + 1) ∧ dist f (Go.Proofs.Ytfjeccaffenngaa.tog x τ) = dist f x + 1 := by
  have hok := (h.ok x (List.mem_of_getElem? hx)).tog ht hs
  have hd : dist f (Go.Proofs.Ytfjeccaffenngaa.tog x τ) = dist f x + 1 := by
    by_cases hq : hasN f τ = hasN x τ
    · exact dist_up ht hq
    · have hd := dist_down ht hq
      exfalso
      refine hn (h.reach hf (D := dist f x) (fun a y ha hlt => ?_) _ _ rfl (by omega) hok)
      by_cases hai : a < i
      · exact hai
      · have := h.mono i a x y (by omega) hx ha
        omega
  have key : ∀ {a y : Nat}, (out ++ [Go.Proofs.Ytfjeccaffenngaa.tog x τ])[a]? = some y → (a < out.length ∧ out[a]? = some y) ∨ (a = out.length ∧ y = Go.Proofs.Ytfjeccaffenngaa.tog x τ) := fun {a y} ha => by
    by_cases hl : a < out.length
    · rw [List.getElem?_append_left hl] at ha
      exact .inl ⟨hl, ha⟩
    · rw [List.getElem?_append_right (by omega)] at ha
      have h0 := (List.getElem?_eq_some_iff.1 ha).1
      simp at h0
      have h1 : a - out.length = 0 := by omega
      rw [h1] at ha
      simp at ha
      exact .inr ⟨by omega, ha.symm⟩
  have hi : i < out.length := (List.getElem?_eq_some_iff.1 hx).1
  refine ⟨⟨?_, ?_, ?_, ?_, ?_, ?_⟩, hd⟩
  · rw [List.getElem?_append_left (by omega)]; exact h.first
  · intro y hy
    rcases List.mem_append.1 hy with hy | hy
    · exact h.ok y hy
    · simp at hy; subst hy; exact hok
  · intro a b y ha hb
    rcases key ha with ⟨h1, h2⟩ | ⟨h1, h2⟩ <;> rcases key hb with ⟨h3, h4⟩ | ⟨h3, h4⟩
    · exact h.nd a b y h2 h4
    · subst h4; exact absurd (List.mem_of_getElem? h2) hn
    · subst h2; exact absurd (List.mem_of_getElem? h4) hn
    · omega
  · intro a b y z hab ha hb
    rcases key ha with ⟨h1, h2⟩ | ⟨h1, h2⟩ <;> rcases key hb with ⟨h3, h4⟩ | ⟨h3, h4⟩
    · exact h.mono a b y z hab h2 h4
    · subst h4; rw [hd]; exact h.near a x y hx h2
    · omega
    · subst h2; subst h4; omega
  · intro a y t ha hT hlt hst
    rcases key ha with ⟨h1, h2⟩ | ⟨h1, h2⟩
    · by_cases hq : a = i ∧ t = τ
      · obtain ⟨rfl, rfl⟩ := hq
        rw [hx] at h2
        cases h2
        simp
      · exact List.mem_append.2 (.inl (h.closed a y t h2 hT (by omega) hst))
    · omega
  · intro b y z hy hb
    rw [List.getElem?_append_left hi, hx] at hy
    cases hy
    rcases key hb with ⟨h3, h4⟩ | ⟨h3, h4⟩
    · exact h.near b x z hx h4
    · subst h4; omega
theorem Bfs.next (h : Bfs plus minus f out i 9) (hi : i < out.length) : Bfs plus minus f out (i + 1) 1 := by
  refine ⟨h.first, h.ok, h.nd, h.mono, fun a x t ha ht hlt hst => h.closed a x t ha ht (by rw [t8_iff] at ht; omega) hst, fun b x y hx hb => ?_⟩
  obtain ⟨z, hz⟩ : ∃ z, out[i]? = some z := ⟨_, List.getElem?_eq_getElem hi⟩
  have h1 := h.near b z y hz hb
  have h2 := h.mono i (i + 1) z x (by omega) hz hx
  omega
theorem Bfs.done (h : Bfs plus minus f out out.length 1) (hf : popN f ≤ 6) {y : Nat} : y ∈ out ↔ ComesN plus minus f y := by
  constructor
  · exact h.ok y
  · intro hy
    exact h.reach hf (D := dist f y) (fun a z ha _ => (List.getElem?_eq_some_iff.1 ha).1) _ _ rfl (Nat.le_refl _) hy
theorem len_bound : ∀ (n : Nat) (l : List Nat), (∀ x ∈ l, x < n) → l.Nodup → l.length ≤ n
  | 0, l, h, _ => by
    cases l with
    | nil => simp
    | cons x l => have := h x (by simp); omega
  | n + 1, l, h, hn => by
    have h1 := len_bound n (l.filter fun x => decide (x ≠ n)) (fun x hx => by
      rw [List.mem_filter] at hx
      have := h x hx.1
      have h2 : x ≠ n := by simpa using hx.2
      omega) (hn.filter _)
    have h2 : ∀ l : List Nat, l.Nodup → l.length ≤ (l.filter fun x => decide (x ≠ n)).length + 1 := by
      intro l
      induction l with
      | nil => intro _; simp
      | cons a l ih =>
        intro hl
        rw [List.nodup_cons] at hl
        rw [List.filter_cons]
        by_cases ha : a = n
        · subst ha
          have : l.filter (fun x => decide (x ≠ a)) = l := by
            rw [List.filter_eq_self]
            intro x hx
            simp
            rintro rfl
            exact hl.1 hx
          rw [if_neg (by simp), this]
          simp
        · have := ih hl.2
          simp [ha] at this ⊢
          omega
    have := h2 l hn
    omega
theorem Bfs.len (h : Bfs plus minus f out i τ) : out.length ≤ 256 := by
  refine len_bound 256 out (fun x hx => (h.ok x hx).lt) ?_
  show List.Pairwise _ out
  rw [List.pairwise_iff_getElem]
  intro a b ha hb hab heq
  have := h.nd a b _ (List.getElem?_eq_getElem ha) (by rw [heq]; exact List.getElem?_eq_getElem hb)
  omega
end
end Go.Proofs.Ytfjeccaffenngaa

namespace Go.Proofs.Ytfjeccaffenngaa
open Go X
set_option maxRecDepth 100000
set_option linter.unusedVariables false
set_option linter.unusedSimpArgs false

def labN (x : Nat) : List Int := (T8.filter (hasN x)).map fun t : Nat => (t : Int)
theorem mem_lab {x : Nat} {z : Int} : z ∈ labN x ↔ ∃ t : Nat, t ∈ T8 ∧ z = (t : Int) ∧ hasN x t = true := by
  unfold labN
  rw [List.mem_map]
  constructor
  · rintro ⟨t, ht, rfl⟩
    rw [List.mem_filter] at ht
    exact ⟨t, ht.1, rfl, ht.2⟩
  · rintro ⟨t, h1, rfl, h2⟩
    exact ⟨t, List.mem_filter.2 ⟨h1, h2⟩, rfl⟩
theorem mem_lab_tag {x t : Nat} (ht : t ∈ T8) : (t : Int) ∈ labN x ↔ hasN x t = true := by
  rw [mem_lab]
  constructor
  · rintro ⟨s, hs, he, h⟩
    have : t = s := by omega
    subst this; exact h
  · intro h; exact ⟨t, ht, rfl, h⟩
theorem hasL_lab {x t : Nat} (ht : t ∈ T8) : hasL (labN x) (t : Int) = hasN x t := by
  rw [Bool.eq_iff_iff, hasL_iff, mem_lab_tag ht]
theorem len_lab {x : Nat} : (labN x).length = popN x := by
  unfold labN popN
  rw [List.length_map, List.countP_eq_length_filter]

/-! ## What can be tried out -/
def putL : Bool → List Int → Int → List Int
  | put, [], t => bif put then [] else [t]
  | put, y :: l, t => (bif !put && decide (t ≤ y) then [t] else []) ++ ((bif decide (y = t) then [] else [y]) ++ putL (put || decide (t ≤ y)) l t)
def remL (l : List Int) (t : Int) : List Int := l.filter fun x => !decide (x = t)
def lawB (x : Nat) : Bool :=
  (rightL (labN x) == decide (popN x ≤ 6)) && incL 0 (labN x) &&
  T8.all fun t => (bif hasN x t then decide (remL (labN x) (t : Int) = labN (tog x t)) else decide (putL false (labN x) (t : Int) = labN (tog x t)))
    && ((!T8.all fun s => !hasN x s || decide (t < s)) || decide (labN (tog x t) = (t : Int) :: labN x))
theorem lawB_all : ((List.range 256).all lawB) = true := by kernel_rfl
theorem lawB_at {x : Nat} (hx : x < 256) : lawB x = true := List.all_eq_true.1 lawB_all x (List.mem_range.2 hx)
theorem right_lab {x : Nat} (hx : x < 256) : rightL (labN x) = decide (popN x ≤ 6) := by
  have := lawB_at hx
  unfold lawB at this
  simp only [Bool.and_eq_true, beq_iff_eq] at this
  exact this.1.1
theorem lawB_tag {x t : Nat} (hx : x < 256) (ht : t ∈ T8) : ((bif hasN x t then decide (remL (labN x) (t : Int) = labN (tog x t)) else decide (putL false (labN x) (t : Int) = labN (tog x t)))
    && ((!T8.all fun s => !hasN x s || decide (t < s)) || decide (labN (tog x t) = (t : Int) :: labN x))) = true := by
  have h := lawB_at hx
  unfold lawB at h
  rw [Bool.and_eq_true] at h
  exact List.all_eq_true.1 h.2 t ht
theorem rem_lab {x t : Nat} (hx : x < 256) (ht : t ∈ T8) (h : hasN x t = true) : remL (labN x) (t : Int) = labN (tog x t) := by
  have := lawB_tag hx ht
  rw [h, Bool.and_eq_true] at this
  simpa using this.1
theorem put_lab {x t : Nat} (hx : x < 256) (ht : t ∈ T8) (h : hasN x t = false) : putL false (labN x) (t : Int) = labN (tog x t) := by
  have := lawB_tag hx ht
  rw [h, Bool.and_eq_true] at this
  simpa using this.1
theorem cons_lab {x t : Nat} (hx : x < 256) (ht : t ∈ T8) (h : ∀ s ∈ T8, hasN x s = true → t < s) : labN (tog x t) = (t : Int) :: labN x := by
  have := lawB_tag hx ht
  rw [Bool.and_eq_true] at this
  have h2 := this.2
  have h3 : (T8.all fun s => !hasN x s || decide (t < s)) = true := by
    rw [List.all_eq_true]
    intro s hs
    cases hq : hasN x s with
    | false => rfl
    | true => simpa using h s hs hq
  rw [h3] at h2
  simpa using h2

theorem few_lab' : ∀ (l : List Int) (k : Nat), incL (k : Int) l = true → (∀ x ∈ l, x ≤ 8) → ∃ x, x < 256 ∧ (∀ s ∈ T8, hasN x s = true → k < s) ∧ l = labN x
  | [], k, _, _ => ⟨0, by omega, fun s _ h => by simp [hasN] at h, by kernel_rfl⟩
  | a :: l, k, h, h8 => by
    simp only [incL, Bool.and_eq_true, decide_eq_true_eq] at h
    obtain ⟨h1, h2⟩ := h
    have ha8 := h8 a (by simp)
    obtain ⟨t, rfl⟩ : ∃ t : Nat, a = (t : Int) := ⟨a.toNat, by omega⟩
    have ht : t ∈ T8 := t8_iff.2 (by omega)
    obtain ⟨x, k1, k2, rfl⟩ := few_lab' l t h2 (fun y hy => h8 y (by simp [hy]))
    refine ⟨tog x t, tog_lt k1 ht, fun s hs hq => ?_, (cons_lab k1 ht k2).symm⟩
    by_cases hst : s = t
    · subst hst; omega
    · rw [has_tog_ne ht hs hst] at hq
      have := k2 s hs hq
      omega
theorem few_lab {l : List Int} (h : rightL l = true) (h8 : ∀ x ∈ l, x ≤ 8) : ∃ x, x < 256 ∧ popN x ≤ 6 ∧ l = labN x := by
  have h' := h
  unfold rightL at h
  rw [Bool.and_eq_true] at h
  obtain ⟨x, k1, _, rfl⟩ := few_lab' l 0 h.2 h8
  rw [right_lab k1] at h'
  exact ⟨x, k1, by simpa using h', rfl⟩
theorem lab_inj {x y : Nat} (hx : x < 256) (hy : y < 256) (h : labN x = labN y) : x = y := by
  refine eq_of_bits hx hy fun t ht => ?_
  rw [← hasL_lab ht, ← hasL_lab ht, h]

/-! ## Who comes where -/
def plusN (T : Tb) (who : Int) (t : Nat) : Bool := hasM (plusOf T who) (t : Int)
def minusN (T : Tb) (who : Int) (t : Nat) : Bool := hasM (minusOf T who) (t : Int)
theorem comes_lab {T : Tb} {who : Int} {f y : Nat} (ho : oneB T who = true) (hf : f < 256) (hy : y < 256) (pf : popN f ≤ 6) :
    comesT T who (labN f) (labN y) = true ↔ ComesN (plusN T who) (minusN T who) f y := by
  rw [comes_iff, right_lab hf, right_lab hy, decide_eq_true pf, decide_eq_true_eq]
  constructor
  · rintro ⟨_, _, h1, h2, h3⟩
    refine ⟨hy, h1, fun t ht k1 k2 => h2 t ((mem_lab_tag ht).2 k1) fun hq => ?_, fun t ht k1 k2 => h3 t ((mem_lab_tag ht).2 k2) fun hq => ?_⟩
    · rw [mem_lab_tag ht, k2] at hq; cases hq
    · rw [mem_lab_tag ht, k1] at hq; cases hq
  · rintro ⟨_, h1, h2, h3⟩
    refine ⟨ho, rfl, h1, fun z hz hn => ?_, fun z hz hn => ?_⟩
    · obtain ⟨t, ht, rfl, k⟩ := mem_lab.1 hz
      rw [mem_lab_tag ht] at hn
      exact h2 t ht k (by simpa using hn)
    · obtain ⟨t, ht, rfl, k⟩ := mem_lab.1 hz
      rw [mem_lab_tag ht] at hn
      exact h3 t ht (by simpa using hn) k
theorem countP_xor (p q : Nat → Bool) : ∀ l : List Nat, l.countP (fun t => !q t && p t) + l.countP (fun t => !p t && q t) = l.countP (fun t => p t != q t)
  | [] => rfl
  | a :: l => by
    have ih := countP_xor p q l
    simp only [List.countP_cons]
    cases p a <;> cases q a <;> simp <;> omega
theorem less_len {f y : Nat} (hf : rightL (labN f) = true) (hy : rightL (labN y) = true) : (lessL (labN f) (labN y)).length = T8.countP fun t => !hasN y t && hasN f t := by
  unfold lessL
  rw [hf, hy]
  show ((labN f).filter _).length = _
  rw [show labN f = (T8.filter (hasN f)).map fun t : Nat => (t : Int) from rfl, List.filter_map, List.length_map, List.filter_filter, ← List.countP_eq_length_filter]
  refine List.countP_congr fun t ht => ?_
  simp only [Function.comp]
  rw [hasL_lab ht]
theorem way_len {f y : Nat} (hf : rightL (labN f) = true) (hy : rightL (labN y) = true) : (lessL (labN f) (labN y)).length + (lessL (labN y) (labN f)).length = dist f y := by
  rw [less_len hf hy, less_len hy hf]
  exact countP_xor _ _ _
end Go.Proofs.Ytfjeccaffenngaa
