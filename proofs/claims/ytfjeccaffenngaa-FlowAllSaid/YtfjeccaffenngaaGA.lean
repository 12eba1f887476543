/-
  Own work. Deeds and labels as arguments. Rooms as arguments.
-/
import Derived.Test.YtfjeccaffenngaaF5
import Derived.Test.YtfjeccaffenngaaG3
import Derived.Test.YtfjeccaffenngaaXArg
namespace Go.Proofs.Ytfjeccaffenngaa
open Go X
set_option maxRecDepth 100000
set_option linter.unusedVariables false
set_option linter.unusedSimpArgs false
theorem rd_up {b b' : Nat} {m : Mem} {size : Nat} {v : Value} {rows : List (List Value)} (h : RdS b m size v rows) (hb : b ≤ b') : RdS b' m size v rows := by
  obtain ⟨p, c, h1, h2, h3⟩ := h
  refine ⟨p, c, h1, h2, fun i r hr => ?_⟩
  obtain ⟨k1, a, o, k2, k3, k4⟩ := h3 i r hr
  exact ⟨k1, a, o, k2, Nat.lt_of_lt_of_le k3 hb, k4⟩
section
variable {H : Type}
theorem wf_deed (d : DataW H) (h : wfD Try.prog d 35) : ∃ x : Deed, ∀ m, absD Try.prog d 35 m = (x.row, m) := by
  obtain ⟨xs, rfl, h⟩ := wf_struct Try.underlying35 h
  change wfEach Try.prog xs [3, 3, 3, 30, 4] at h
  obtain ⟨a0, r, rfl, k0, h⟩ := wf_more h
  obtain ⟨a1, r, rfl, k1, h⟩ := wf_more h
  obtain ⟨a2, r, rfl, k2, h⟩ := wf_more h
  obtain ⟨a3, r, rfl, k3, h⟩ := wf_more h
  obtain ⟨a4, rfl, k4⟩ := wf_one h
  obtain ⟨a, rfl, _⟩ := wf_int Try.underlying3 k0
  obtain ⟨b, rfl, _⟩ := wf_int Try.underlying3 k1
  obtain ⟨c, rfl, _⟩ := wf_int Try.underlying3 k2
  obtain ⟨u, rfl, _⟩ := wf_int Try.underlying30 k3
  obtain ⟨n, rfl⟩ := wf_bool Try.underlying4 k4
  exact ⟨⟨a, b, c, u, n⟩, fun m => by kernel_rfl⟩
theorem rows_of {α : Type} {row : α → List Value} : ∀ rows : List (List Value), (∀ r ∈ rows, ∃ x : α, r = row x) → ∃ vs : List α, rows = vs.map row
  | [], _ => ⟨[], rfl⟩
  | r :: rows, h => by
    obtain ⟨x, rfl⟩ := h r (by simp)
    obtain ⟨vs, rfl⟩ := rows_of rows (fun r hr => h r (by simp [hr]))
    exact ⟨x :: vs, rfl⟩
theorem abs_deeds {d : DataW H} {m : Mem} (h : wfD Try.prog d 22) :
    ∃ (vs : List Deed) (v : Value), (absD Try.prog d 22 m).1 = [v] ∧ Nx m (absD Try.prog d 22 m).2 ∧ RdD (absD Try.prog d 22 m).2.next (absD Try.prog d 22 m).2 v vs := by
  obtain ⟨rows, v, h1, h2, h3, h4, h5, h7⟩ := abs_slice_rows (m := m) (size := 5) (Good := fun r => ∃ x : Deed, r = x.row) (by omega) (fun r hr => by obtain ⟨x, rfl⟩ := hr; rfl)
    (fun d hd => by obtain ⟨x, k2⟩ := wf_deed d hd; exact ⟨_, ⟨x, rfl⟩, k2⟩) Try.underlying22 h
  obtain ⟨vs, rfl⟩ := rows_of rows h2
  exact ⟨vs, v, h1, h4, h5⟩
theorem abs_tags {d : DataW H} {m : Mem} (h : wfD Try.prog d 23) :
    ∃ (ns : List Int) (v : Value), (absD Try.prog d 23 m).1 = [v] ∧ Nx m (absD Try.prog d 23 m).2 ∧ RdU (absD Try.prog d 23 m).2.next (absD Try.prog d 23 m).2 v ns := by
  obtain ⟨ns, v, h1, h2, h3, h4, h5⟩ := abs_slice_ints (m := m) Try.underlying23 Try.underlying30 h
  exact ⟨ns, v, h1, h4, h5⟩
end
end Go.Proofs.Ytfjeccaffenngaa

namespace Go.Proofs.Ytfjeccaffenngaa
open Go X
set_option maxRecDepth 100000
set_option linter.unusedVariables false
set_option linter.unusedSimpArgs false
section
variable {H : Type} {m m' : Mem} {v : Value}
theorem deeds_last {ds : List Deed} (h : RdD m.next m v ds) (f : Nx m m') : RdD m'.next m' v ds := rd_up (h.fr f (Nat.le_refl _) (fun _ h => h.elim)) f.next
theorem tags_last {ns : List Int} (h : RdU m.next m v ns) (f : Nx m m') : RdU m'.next m' v ns := rd_up (h.fr f (Nat.le_refl _) (fun _ h => h.elim)) f.next
theorem rooms_up {b b' : Nat} {rooms : List (List Int)} (h : RdRooms b m v rooms) (hb : b ≤ b') : RdRooms b' m v rooms := by
  obtain ⟨vals, h1, h2, h3⟩ := h
  refine ⟨vals, h1, rd_up h2 hb, fun i ns hi => ?_⟩
  obtain ⟨x, q1, q2⟩ := h3 i ns hi
  exact ⟨x, q1, rd_up q2 hb⟩
theorem rooms_last {rooms : List (List Int)} (h : RdRooms m.next m v rooms) (f : Nx m m') : RdRooms m'.next m' v rooms := rooms_up (h.fr f (Nat.le_refl _) (fun _ h => h.elim)) f.next
def RepU (b : Nat) (m : Mem) (r : List Value) (ns : List Int) : Prop := ∃ x, r = [x] ∧ RdU b m x ns
theorem abs_rooms {d : DataW H} (h : wfD Try.prog d 41) :
    ∃ (rooms : List (List Int)) (v : Value), (absD Try.prog d 41 m).1 = [v] ∧ Nx m (absD Try.prog d 41 m).2 ∧ RdRooms (absD Try.prog d 41 m).2.next (absD Try.prog d 41 m).2 v rooms := by
  obtain ⟨xs, v, h1, h2, h3, h4, h5⟩ := abs_slice_rep (m := m) (size := 1) (Rep := RepU)
    (fun b b' m m' r x h hb f hbb => by obtain ⟨y, rfl, h⟩ := h; exact ⟨y, rfl, rd_up (h.fr f hb (fun _ h => h.elim)) hbb⟩)
    (fun d m hd => by
      obtain ⟨ns, v, h1, h2, h3⟩ := abs_tags (m := m) hd
      exact ⟨ns, ⟨v, h1, h3⟩, by rw [h1]; rfl, h2⟩) Try.underlying41 h
  refine ⟨xs, v, h1, h3, ?_⟩
  obtain ⟨rows, k1, k2, k3⟩ := h4
  have k4 : ∃ vals : List Value, rows = vals.map fun x => [x] := by
    refine ⟨rows.map fun r => r.headD .nilFunc, ?_⟩
    rw [List.map_map]
    apply List.ext_getElem?
    intro i
    rw [List.getElem?_map]
    cases hi : rows[i]? with
    | none => rfl
    | some r =>
      have hlt := (List.getElem?_eq_some_iff.1 hi).1
      obtain ⟨r', q1, y, rfl, q2⟩ := k3 i _ (List.getElem?_eq_getElem (by omega))
      rw [hi] at q1
      cases q1
      rfl
  obtain ⟨vals, rfl⟩ := k4
  refine ⟨vals, by simpa using k1, k2, fun i ns hi => ?_⟩
  obtain ⟨r, q1, y, rfl, q2⟩ := k3 i ns hi
  rw [List.getElem?_map] at q1
  cases hv : vals[i]? with
  | none => rw [hv] at q1; cases q1
  | some z =>
    rw [hv] at q1
    simp only [Option.map_some, Option.some.injEq, List.cons.injEq, and_true] at q1
    exact ⟨z, rfl, q1 ▸ q2⟩
end
end Go.Proofs.Ytfjeccaffenngaa
