/-
  Own work. Labels of tags 1..8, and numbers that stand for them.
-/
import Derived.Test.YtfjeccaffenngaaH1
import Derived.KernelRfl
namespace Go.Proofs.Ytfjeccaffenngaa
open Go X
set_option maxRecDepth 100000
set_option linter.unusedVariables false
set_option linter.unusedSimpArgs false

def labN (x : Nat) : List Int := (T8.filter (hasN x)).map fun t : Nat => (t : Int)
theorem mem_lab {x : Nat} {z : Int} : z ∈ labN x ↔ ∃ t : Nat, t ∈ T8 ∧ z = (t : Int) ∧ hasN x t = true := by
  unfold labN
  rw [List.mem_map]
  constructor
  · rintro ⟨t, ht, rfl⟩
    rw [List.mem_filter] at ht
    exact ⟨t, ht.1, rfl, ht.2⟩
  · rintro ⟨t, h1, rfl, h2⟩
    exact ⟨t, List.mem_filter.2 ⟨h1, h2⟩, rfl⟩
theorem mem_lab_tag {x t : Nat} (ht : t ∈ T8) : (t : Int) ∈ labN x ↔ hasN x t = true := by
  rw [mem_lab]
  constructor
  · rintro ⟨s, hs, he, h⟩
    have : t = s := by omega
    subst this; exact h
  · intro h; exact ⟨t, ht, rfl, h⟩
theorem hasL_lab {x t : Nat} (ht : t ∈ T8) : hasL (labN x) (t : Int) = hasN x t := by
  rw [Bool.eq_iff_iff, hasL_iff, mem_lab_tag ht]
theorem len_lab {x : Nat} : (labN x).length = popN x := by
  unfold labN popN
  rw [List.length_map, List.countP_eq_length_filter]

/-! ## What can be tried out -/
def putL : Bool → List Int → Int → List Int
  | put, [], t => bif put then [] else [t]
  | put, y :: l, t => (bif !put && decide (t ≤ y) then [t] else []) ++ ((bif decide (y = t) then [] else [y]) ++ putL (put || decide (t ≤ y)) l t)
def remL (l : List Int) (t : Int) : List Int := l.filter fun x => !decide (x = t)
def lawB (x : Nat) : Bool :=
  (rightL (labN x) == decide (popN x ≤ 6)) && incL 0 (labN x) &&
  T8.all fun t => (bif hasN x t then decide (remL (labN x) (t : Int) = labN (tog x t)) else decide (putL false (labN x) (t : Int) = labN (tog x t)))
    && ((!T8.all fun s => !hasN x s || decide (t < s)) || decide (labN (tog x t) = (t : Int) :: labN x))
theorem lawB_all : ((List.range 256).all lawB) = true := by kernel_rfl
theorem lawB_at {x : Nat} (hx : x < 256) : lawB x = true := List.all_eq_true.1 lawB_all x (List.mem_range.2 hx)
theorem right_lab {x : Nat} (hx : x < 256) : rightL (labN x) = decide (popN x ≤ 6) := by
  have := lawB_at hx
  unfold lawB at this
  simp only [Bool.and_eq_true, beq_iff_eq] at this
  exact this.1.1
theorem lawB_tag {x t : Nat} (hx : x < 256) (ht : t ∈ T8) : ((bif hasN x t then decide (remL (labN x) (t : Int) = labN (tog x t)) else decide (putL false (labN x) (t : Int) = labN (tog x t)))
    && ((!T8.all fun s => !hasN x s || decide (t < s)) || decide (labN (tog x t) = (t : Int) :: labN x))) = true := by
  have h := lawB_at hx
  unfold lawB at h
  rw [Bool.and_eq_true] at h
  exact List.all_eq_true.1 h.2 t ht
theorem rem_lab {x t : Nat} (hx : x < 256) (ht : t ∈ T8) (h : hasN x t = true) : remL (labN x) (t : Int) = labN (tog x t) := by
  have := lawB_tag hx ht
  rw [h, Bool.and_eq_true] at this
  simpa using this.1
theorem put_lab {x t : Nat} (hx : x < 256) (ht : t ∈ T8) (h : hasN x t = false) : putL false (labN x) (t : Int) = labN (tog x t) := by
  have := lawB_tag hx ht
  rw [h, Bool.and_eq_true] at this
  simpa using this.1
theorem cons_lab {x t : Nat} (hx : x < 256) (ht : t ∈ T8) (h : ∀ s ∈ T8, hasN x s = true → t < s) : labN (tog x t) = (t : Int) :: labN x := by
  have := lawB_tag hx ht
  rw [Bool.and_eq_true] at this
  have h2 := this.2
  have h3 : (T8.all fun s => !hasN x s || decide (t < s)) = true := by
    rw [List.all_eq_true]
    intro s hs
    cases hq : hasN x s with
    | false => rfl
    | true => simpa using h s hs hq
  rw [h3] at h2
  simpa using h2

theorem few_lab' : ∀ (l : List Int) (k : Nat), incL (k : Int) l = true → (∀ x ∈ l, x ≤ 8) → ∃ x, x < 256 ∧ (∀ s ∈ T8, hasN x s = true → k < s) ∧ l = labN x
  | [], k, _, _ => ⟨0, by omega, fun s _ h => by simp [hasN] at h, by kernel_rfl⟩
  | a :: l, k, h, h8 => by
    simp only [incL, Bool.and_eq_true, decide_eq_true_eq] at h
    obtain ⟨h1, h2⟩ := h
    have ha8 := h8 a (by simp)
    obtain ⟨t, rfl⟩ : ∃ t : Nat, a = (t : Int) := ⟨a.toNat, by omega⟩
    have ht : t ∈ T8 := t8_iff.2 (by omega)
    obtain ⟨x, k1, k2, rfl⟩ := few_lab' l t h2 (fun y hy => h8 y (by simp [hy]))
    refine ⟨tog x t, tog_lt k1 ht, fun s hs hq => ?_, (cons_lab k1 ht k2).symm⟩
    by_cases hst : s = t
    · subst hst; omega
    · rw [has_tog_ne ht hs hst] at hq
      have := k2 s hs hq
      omega
theorem few_lab {l : List Int} (h : rightL l = true) (h8 : ∀ x ∈ l, x ≤ 8) : ∃ x, x < 256 ∧ popN x ≤ 6 ∧ l = labN x := by
  have h' := h
  unfold rightL at h
  rw [Bool.and_eq_true] at h
  obtain ⟨x, k1, _, rfl⟩ := few_lab' l 0 h.2 h8
  rw [right_lab k1] at h'
  exact ⟨x, k1, by simpa using h', rfl⟩
theorem lab_inj {x y : Nat} (hx : x < 256) (hy : y < 256) (h : labN x = labN y) : x = y := by
  refine eq_of_bits hx hy fun t ht => ?_
  rw [← hasL_lab ht, ← hasL_lab ht, h]

/-! ## Who comes where -/
def plusN (T : Tb) (who : Int) (t : Nat) : Bool := hasM (plusOf T who) (t : Int)
def minusN (T : Tb) (who : Int) (t : Nat) : Bool := hasM (minusOf T who) (t : Int)
theorem comes_lab {T : Tb} {who : Int} {f y : Nat} (ho : oneB T who = true) (hf : f < 256) (hy : y < 256) (pf : popN f ≤ 6) :
    comesT T who (labN f) (labN y) = true ↔ ComesN (plusN T who) (minusN T who) f y := by
  rw [comes_iff, right_lab hf, right_lab hy, decide_eq_true pf, decide_eq_true_eq]
  constructor
  · rintro ⟨_, _, h1, h2, h3⟩
    refine ⟨hy, h1, fun t ht k1 k2 => h2 t ((mem_lab_tag ht).2 k1) fun hq => ?_, fun t ht k1 k2 => h3 t ((mem_lab_tag ht).2 k2) fun hq => ?_⟩
    · rw [mem_lab_tag ht, k2] at hq; cases hq
    · rw [mem_lab_tag ht, k1] at hq; cases hq
  · rintro ⟨_, h1, h2, h3⟩
    refine ⟨ho, rfl, h1, fun z hz hn => ?_, fun z hz hn => ?_⟩
    · obtain ⟨t, ht, rfl, k⟩ := mem_lab.1 hz
      rw [mem_lab_tag ht] at hn
      exact h2 t ht k (by simpa using hn)
    · obtain ⟨t, ht, rfl, k⟩ := mem_lab.1 hz
      rw [mem_lab_tag ht] at hn
      exact h3 t ht (by simpa using hn) k
theorem countP_xor (p q : Nat → Bool) : ∀ l : List Nat, l.countP (fun t => !q t && p t) + l.countP (fun t => !p t && q t) = l.countP (fun t => p t != q t)
  | [] => rfl
  | a :: l => by
    have ih := countP_xor p q l
    simp only [List.countP_cons]
    cases p a <;> cases q a <;> simp <;> omega
theorem less_len {f y : Nat} (hf : rightL (labN f) = true) (hy : rightL (labN y) = true) : (lessL (labN f) (labN y)).length = T8.countP fun t => !hasN y t && hasN f t := by
  unfold lessL
  rw [hf, hy]
  show ((labN f).filter _).length = _
  rw [show labN f = (T8.filter (hasN f)).map fun t : Nat => (t : Int) from rfl, List.filter_map, List.length_map, List.filter_filter, ← List.countP_eq_length_filter]
  refine List.countP_congr fun t ht => ?_
  simp only [Function.comp]
  rw [hasL_lab ht]
theorem way_len {f y : Nat} (hf : rightL (labN f) = true) (hy : rightL (labN y) = true) : (lessL (labN f) (labN y)).length + (lessL (labN y) (labN f)).length = dist f y := by
  rw [less_len hf hy, less_len hy hf]
  exact countP_xor _ _ _
end Go.Proofs.Ytfjeccaffenngaa
