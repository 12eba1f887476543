/-
  Own work. Arguments that hold slices within slices.
-/
import Derived.Test.YtnlmnejellipdaaXOwn2
namespace Go.Proofs.Ytnlmnejellipdaa.X
open Go
set_option linter.unusedVariables false
set_option linter.unusedSimpArgs false
section
variable {H : Type} {P : Program} {α : Type}
def RdG (Rep : Nat → Mem → List Value → α → Prop) (b : Nat) (m : Mem) (size : Nat) (v : Value) (xs : List α) : Prop :=
 ∃ rows : List (List Value), rows.length = xs.length ∧ RdS b m size v rows ∧ ∀ (i : Nat) x, xs[i]? = some x → ∃ r, rows[i]? = some r ∧ Rep b m r x
def RepUp (Rep : Nat → Mem → List Value → α → Prop) : Prop := ∀ b b' m m' r x, Rep b m r x → b ≤ m.next → Fm (fun _ => False) m m' → b ≤ b' → Rep b' m' r x
theorem abs_all_rep {e : TypeId} {size : Nat} {Rep : Nat → Mem → List Value → α → Prop} (up : RepUp Rep)
  (hrow : ∀ (d : DataW H) (m : Mem), wfD P d e → ∃ x, Rep (absD P d e m).2.next (absD P d e m).2 (absD P d e m).1 x ∧ (absD P d e m).1.length = size ∧ Fm (fun _ => False) m (absD P d e m).2) :
  ∀ (es : List (DataW H)) (m : Mem), wfAll P es e → ∃ (rows : List (List Value)) (xs : List α), rows.length = es.length ∧ xs.length = es.length ∧ (absAll P es e m).1 = rows.flatten ∧ (∀ r ∈ rows, r.length = size) ∧ Fm (fun _ => False) m (absAll P es e m).2 ∧
   ∀ (i : Nat) x, xs[i]? = some x → ∃ r, rows[i]? = some r ∧ Rep (absAll P es e m).2.next (absAll P es e m).2 r x
 | [], m, _ => ⟨[], [], rfl, rfl, rfl, by simp, .refl, by simp⟩
 | d :: es, m, h => by
  simp only [wfAll] at h
  obtain ⟨x, h1, h2, h3⟩ := hrow d m h.1
  obtain ⟨rows, xs, k1, k2, k3, k4, k5, k6⟩ := abs_all_rep up hrow es (absD P d e m).2 h.2
  refine ⟨(absD P d e m).1 :: rows, x :: xs, by simp [k1], by simp [k2], by simp only [absAll, k3, List.flatten_cons], ?_, by simp only [absAll]; exact h3.trans k5, fun i y hy => ?_⟩
  ·intro r hr
   rcases List.mem_cons.1 hr with rfl | hr
   ·exact h2
   ·exact k4 r hr
  ·cases i with
   | zero =>
    simp only [List.getElem?_cons_zero, Option.some.injEq] at hy
    subst hy
    refine ⟨_, rfl, ?_⟩
    simp only [absAll]
    exact up _ _ _ _ _ _ h1 (Nat.le_refl _) k5 k5.next
   | succ i =>
    obtain ⟨r, q1, q2⟩ := k6 i y hy
    refine ⟨r, q1, ?_⟩
    simp only [absAll]
    exact q2
theorem abs_slice_rep {d : DataW H} {t e : TypeId} {size : Nat} {m : Mem} {Rep : Nat → Mem → List Value → α → Prop} (up : RepUp Rep)
  (hrow : ∀ (d : DataW H) (m : Mem), wfD P d e → ∃ x, Rep (absD P d e m).2.next (absD P d e m).2 (absD P d e m).1 x ∧ (absD P d e m).1.length = size ∧ Fm (fun _ => False) m (absD P d e m).2)
  (hu : P.underlying t = some (.slice e)) (h : wfD P d t) :
  ∃ (xs : List α) (v : Value), (absD P d t m).1 = [v] ∧ xs.length ≤ 9223372036854775807 ∧ Fm (fun _ => False) m (absD P d t m).2 ∧ RdG Rep (absD P d t m).2.next (absD P d t m).2 size v xs ∧ ∀ m', CutOk m' size v := by
 rcases wf_slice hu h with rfl | ⟨es, sp, rfl, hl, h1, h2⟩
 ·exact ⟨[], .slice none 0 0, by simp only [absD], by simp, by simp only [absD]; exact .refl, ⟨[], rfl, .nil, by simp⟩, fun m' a n c h => by cases h⟩
 ·obtain ⟨rows, xs, k1, k2, k3, k4, k5, k6⟩ := abs_all_rep up hrow es m h1
  obtain ⟨rows', xs', j1, j2, j3, j4, j5, j6⟩ := abs_all_rep up hrow sp (absAll P es e m).2 h2
  simp only [absD, hu]
  split
  ·rename_i h0
   have : rows = [] := List.eq_nil_of_length_eq_zero (by omega)
   subst this
   have : xs = [] := List.eq_nil_of_length_eq_zero (by simp at k1; omega)
   subst this
   exact ⟨[], _, rfl, by simp, .refl, ⟨[], rfl, .nil, by simp⟩, fun m' a n c h => by cases h; exact .inr (.inl ⟨rfl, by omega⟩)⟩
  ·have f := k5.trans j5
   have hp : Fm (fun _ => False) m ((absAll P sp e (absAll P es e m).2).2.push { cells := (absAll P es e m).1 ++ (absAll P sp e (absAll P es e m).2).1, rw := false, spare := none, kin := [] }) := f.trans .push
   refine ⟨xs, _, rfl, by omega, hp, ⟨rows, by omega, ⟨some ⟨(absAll P sp e (absAll P es e m).2).2.next, 0, none⟩, es.length + sp.length, by rw [k1], by omega, fun i r hr => ?_⟩, fun i x hx => ?_⟩, fun m' a n c h => by cases h; exact .inl rfl⟩
   ·have hgr := k4 r (List.mem_of_getElem? hr)
    refine ⟨hgr, _, { cells := rows.flatten ++ rows'.flatten, rw := false, spare := none, kin := [] }, rfl, by simp, by rw [k3, j3]; exact push_self, fun j hj => ?_⟩
    have hg := flat_get (fun r hr => k4 r hr) hr hj
    simp only [Nat.zero_add]
    obtain ⟨hlt, _⟩ := List.getElem?_eq_some_iff.1 (show rows.flatten[i * size + j]? = some (r[j]'(by rw [hgr]; exact hj)) by rw [hg]; exact List.getElem?_eq_getElem _)
    rw [List.getElem?_append_left hlt, hg]
   ·obtain ⟨r, q1, q2⟩ := k6 i x hx
    refine ⟨r, q1, up _ _ _ _ _ _ q2 (Nat.le_refl _) (j5.trans .push) ?_⟩
    have := (j5.trans (Fm.push (S := fun _ => False))).next (m' := (absAll P sp e (absAll P es e m).2).2.push { cells := (absAll P es e m).1 ++ (absAll P sp e (absAll P es e m).2).1, rw := false, spare := none, kin := [] })
    exact this
end
end Go.Proofs.Ytnlmnejellipdaa.X
