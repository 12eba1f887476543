/-
  Own work. Writes done to entries: all at once, and one by one.
-/
import Derived.Test.YtlldfkapaeidoaaXStr
namespace Go.Proofs.Ytlldfkapaeidoaa
open Go X
set_option linter.unusedVariables false
set_option linter.unusedSimpArgs false

structure Ent where
  key : ByteArray
  seq : Int
  num : Bool
  text : ByteArray
  bits : Nat
  deriving DecidableEq
structure Wr where
  key : ByteArray
  gone : Bool
  num : Bool
  text : ByteArray
  bits : Nat
  deriving DecidableEq
/-- What a write makes. -/
def Wr.ent (y : Wr) (s : Int) : Ent := ⟨y.key, s, y.num, y.text, y.bits⟩
def Wr.made (y : Wr) (s : Int) : List Ent := if y.gone = true then [] else [y.ent s]

def mergeE (s : Int) : List Ent → List Wr → List Ent
  | l, [] => l
  | [], y :: w => y.made s ++ mergeE s [] w
  | x :: l, y :: w => if ltT x.key y.key then x :: mergeE s l (y :: w) else y.made s ++ mergeE s (if x.key = y.key then l else x :: l) w
termination_by l w => l.length + w.length
decreasing_by
  all_goals first
    | (split <;> simp <;> omega)
    | (simp <;> omega)

/-- One write. -/
def ap (s : Int) (y : Wr) : Bool → List Ent → List Ent
  | put, [] => if put = true then [] else [y.ent s]
  | put, x :: l => if put = false ∧ ¬ ltT x.key y.key then y.ent s :: ((if x.key = y.key then [] else [x]) ++ ap s y true l) else (if x.key = y.key then [] else [x]) ++ ap s y put l
def apply1 (s : Int) (l : List Ent) (y : Wr) : List Ent := ap s y y.gone l

abbrev SortE (l : List Ent) : Prop := l.Pairwise fun a b => ltT a.key b.key
abbrev SortW (l : List Wr) : Prop := l.Pairwise fun a b => ltT a.key b.key

theorem ap_shift {s : Int} {y : Wr} : ∀ {A B : List Ent} {put : Bool}, (∀ x ∈ A, ltT x.key y.key) → ap s y put (A ++ B) = A ++ ap s y put B
  | [], B, put, h => rfl
  | x :: A, B, put, h => by
    have hx := h x (by simp)
    rw [List.cons_append, ap, if_neg (fun hh => hh.2 hx), if_neg (ltT_ne hx), ap_shift fun z hz => h z (by simp [hz])]
    rfl
theorem fold_shift {s : Int} : ∀ {w : List Wr} {A B : List Ent}, (∀ x ∈ A, ∀ y ∈ w, ltT x.key y.key) → w.foldl (apply1 s) (A ++ B) = A ++ w.foldl (apply1 s) B
  | [], A, B, h => rfl
  | y :: w, A, B, h => by
    rw [List.foldl_cons, List.foldl_cons, apply1, ap_shift fun x hx => h x hx y (by simp), fold_shift fun x hx z hz => h x hx z (by simp [hz])]
    rfl
theorem ap_rest {s : Int} {y : Wr} : ∀ {l : List Ent}, (∀ x ∈ l, x.key ≠ y.key) → ap s y true l = l
  | [], h => rfl
  | x :: l, h => by
    rw [ap, if_neg (by simp), if_neg (h x (by simp)), ap_rest fun z hz => h z (by simp [hz])]
    rfl
theorem apply_nil {s : Int} {y : Wr} : apply1 s [] y = y.made s := by
  unfold apply1 ap Wr.made; rfl
theorem apply_head {s : Int} {y : Wr} {x : Ent} {l : List Ent} (hs : SortE (x :: l)) (h : ¬ ltT x.key y.key) : apply1 s (x :: l) y = y.made s ++ (if x.key = y.key then l else x :: l) := by
  obtain ⟨h1, h2⟩ := List.pairwise_cons.1 hs
  have hrest : ∀ z ∈ l, z.key ≠ y.key := by
    intro z hz e
    have := h1 z hz
    rw [e] at this
    exact h this
  unfold apply1 Wr.made
  rw [ap]
  cases hg : y.gone with
  | true =>
    rw [if_neg (by simp), ap_rest hrest]
    by_cases he : x.key = y.key
    · simp [he]
    · simp [he]
  | false =>
    rw [if_pos ⟨rfl, h⟩, ap_rest hrest]
    by_cases he : x.key = y.key
    · simp [he]
    · simp [he]
theorem made_key {s : Int} {y : Wr} {x : Ent} (h : x ∈ y.made s) : x.key = y.key := by
  unfold Wr.made at h
  split at h
  · cases h
  · simp at h; subst h; rfl

theorem fold_merge (s : Int) : ∀ (l : List Ent) (w : List Wr), SortE l → SortW w → w.foldl (apply1 s) l = mergeE s l w
  | l, [], _, _ => by rw [mergeE]; rfl
  | [], y :: w, hl, hw => by
    obtain ⟨w1, w2⟩ := List.pairwise_cons.1 hw
    rw [mergeE, List.foldl_cons, apply_nil]
    have := fold_shift (s := s) (w := w) (A := y.made s) (B := []) fun x hx z hz => by rw [made_key hx]; exact w1 z hz
    rw [List.append_nil] at this
    rw [this, fold_merge s [] w .nil w2]
  | x :: l, y :: w, hl, hw => by
    obtain ⟨w1, w2⟩ := List.pairwise_cons.1 hw
    obtain ⟨h1, h2⟩ := List.pairwise_cons.1 hl
    rw [mergeE]
    by_cases hx : ltT x.key y.key
    · rw [if_pos hx]
      have := fold_shift (s := s) (w := y :: w) (A := [x]) (B := l) fun z hz q hq => by
        simp only [List.mem_singleton] at hz
        subst hz
        simp only [List.mem_cons] at hq
        rcases hq with rfl | hq
        · exact hx
        · exact ltT_trans hx (w1 q hq)
      rw [List.singleton_append] at this
      rw [this, fold_merge s l (y :: w) h2 hw]
      rfl
    · rw [if_neg hx, List.foldl_cons, apply_head hl hx]
      rw [fold_shift fun z hz q hq => by rw [made_key hz]; exact w1 q hq]
      rw [fold_merge s _ w (by split; exact h2; exact hl) w2]
termination_by l w => l.length + w.length
decreasing_by
  all_goals first
    | (split <;> simp <;> omega)
    | (simp <;> omega)

end Go.Proofs.Ytlldfkapaeidoaa
