/-
  Own work. Deeds and labels as arguments.
-/
import Derived.Test.YtfjeccaffenngaaF5
namespace Go.Proofs.Ytfjeccaffenngaa
open Go X
set_option maxRecDepth 100000
set_option linter.unusedVariables false
set_option linter.unusedSimpArgs false
theorem rd_up {b b' : Nat} {m : Mem} {size : Nat} {v : Value} {rows : List (List Value)} (h : RdS b m size v rows) (hb : b ≤ b') : RdS b' m size v rows := by
  obtain ⟨p, c, h1, h2, h3⟩ := h
  refine ⟨p, c, h1, h2, fun i r hr => ?_⟩
  obtain ⟨k1, a, o, k2, k3, k4⟩ := h3 i r hr
  exact ⟨k1, a, o, k2, Nat.lt_of_lt_of_le k3 hb, k4⟩
section
variable {H : Type}
theorem wf_deed (d : DataW H) (h : wfD Try.prog d 35) : ∃ x : Deed, ∀ m, absD Try.prog d 35 m = (x.row, m) := by
  obtain ⟨xs, rfl, h⟩ := wf_struct Try.underlying35 h
  change wfEach Try.prog xs [3, 3, 3, 30, 4] at h
  obtain ⟨a0, r, rfl, k0, h⟩ := wf_more h
  obtain ⟨a1, r, rfl, k1, h⟩ := wf_more h
  obtain ⟨a2, r, rfl, k2, h⟩ := wf_more h
  obtain ⟨a3, r, rfl, k3, h⟩ := wf_more h
  obtain ⟨a4, rfl, k4⟩ := wf_one h
  obtain ⟨a, rfl, _⟩ := wf_int Try.underlying3 k0
  obtain ⟨b, rfl, _⟩ := wf_int Try.underlying3 k1
  obtain ⟨c, rfl, _⟩ := wf_int Try.underlying3 k2
  obtain ⟨u, rfl, _⟩ := wf_int Try.underlying30 k3
  obtain ⟨n, rfl⟩ := wf_bool Try.underlying4 k4
  exact ⟨⟨a, b, c, u, n⟩, fun m => by kernel_rfl⟩
theorem rows_of {α : Type} {row : α → List Value} : ∀ rows : List (List Value), (∀ r ∈ rows, ∃ x : α, r = row x) → ∃ vs : List α, rows = vs.map row
  | [], _ => ⟨[], rfl⟩
  | r :: rows, h => by
    obtain ⟨x, rfl⟩ := h r (by simp)
    obtain ⟨vs, rfl⟩ := rows_of rows (fun r hr => h r (by simp [hr]))
    exact ⟨x :: vs, rfl⟩
theorem abs_deeds {d : DataW H} {m : Mem} (h : wfD Try.prog d 22) :
    ∃ (vs : List Deed) (v : Value), (absD Try.prog d 22 m).1 = [v] ∧ Nx m (absD Try.prog d 22 m).2 ∧ RdD (absD Try.prog d 22 m).2.next (absD Try.prog d 22 m).2 v vs := by
  obtain ⟨rows, v, h1, h2, h3, h4, h5, h7⟩ := abs_slice_rows (m := m) (size := 5) (Good := fun r => ∃ x : Deed, r = x.row) (by omega) (fun r hr => by obtain ⟨x, rfl⟩ := hr; rfl)
    (fun d hd => by obtain ⟨x, k2⟩ := wf_deed d hd; exact ⟨_, ⟨x, rfl⟩, k2⟩) Try.underlying22 h
  obtain ⟨vs, rfl⟩ := rows_of rows h2
  exact ⟨vs, v, h1, h4, h5⟩
theorem abs_tags {d : DataW H} {m : Mem} (h : wfD Try.prog d 23) :
    ∃ (ns : List Int) (v : Value), (absD Try.prog d 23 m).1 = [v] ∧ Nx m (absD Try.prog d 23 m).2 ∧ RdU (absD Try.prog d 23 m).2.next (absD Try.prog d 23 m).2 v ns := by
  obtain ⟨ns, v, h1, h2, h3, h4, h5⟩ := abs_slice_ints (m := m) Try.underlying23 Try.underlying30 h
  exact ⟨ns, v, h1, h4, h5⟩
end
end Go.Proofs.Ytfjeccaffenngaa
