/-
  Own work. Rooms as arguments.
-/
import Derived.Test.YtfjeccaffenngaaFA
import Derived.Test.YtfjeccaffenngaaG3
import Derived.Test.YtfjeccaffenngaaXArg
namespace Go.Proofs.Ytfjeccaffenngaa
open Go X
set_option maxRecDepth 100000
set_option linter.unusedVariables false
set_option linter.unusedSimpArgs false
section
variable {H : Type} {m m' : Mem} {v : Value}
theorem deeds_last {ds : List Deed} (h : RdD m.next m v ds) (f : Nx m m') : RdD m'.next m' v ds := rd_up (h.fr f (Nat.le_refl _) (fun _ h => h.elim)) f.next
theorem tags_last {ns : List Int} (h : RdU m.next m v ns) (f : Nx m m') : RdU m'.next m' v ns := rd_up (h.fr f (Nat.le_refl _) (fun _ h => h.elim)) f.next
theorem rooms_up {b b' : Nat} {rooms : List (List Int)} (h : RdRooms b m v rooms) (hb : b ≤ b') : RdRooms b' m v rooms := by
  obtain ⟨vals, h1, h2, h3⟩ := h
  refine ⟨vals, h1, rd_up h2 hb, fun i ns hi => ?_⟩
  obtain ⟨x, q1, q2⟩ := h3 i ns hi
  exact ⟨x, q1, rd_up q2 hb⟩
theorem rooms_last {rooms : List (List Int)} (h : RdRooms m.next m v rooms) (f : Nx m m') : RdRooms m'.next m' v rooms := rooms_up (h.fr f (Nat.le_refl _) (fun _ h => h.elim)) f.next
def RepU (b : Nat) (m : Mem) (r : List Value) (ns : List Int) : Prop := ∃ x, r = [x] ∧ RdU b m x ns
theorem abs_rooms {d : DataW H} (h : wfD Try.prog d 41) :
    ∃ (rooms : List (List Int)) (v : Value), (absD Try.prog d 41 m).1 = [v] ∧ Nx m (absD Try.prog d 41 m).2 ∧ RdRooms (absD Try.prog d 41 m).2.next (absD Try.prog d 41 m).2 v rooms := by
  obtain ⟨xs, v, h1, h2, h3, h4, h5⟩ := abs_slice_rep (m := m) (size := 1) (Rep := RepU)
    (fun b b' m m' r x h hb f hbb => by obtain ⟨y, rfl, h⟩ := h; exact ⟨y, rfl, rd_up (h.fr f hb (fun _ h => h.elim)) hbb⟩)
    (fun d m hd => by
      obtain ⟨ns, v, h1, h2, h3⟩ := abs_tags (m := m) hd
      exact ⟨ns, ⟨v, h1, h3⟩, by rw [h1]; rfl, h2⟩) Try.underlying41 h
  refine ⟨xs, v, h1, h3, ?_⟩
  obtain ⟨rows, k1, k2, k3⟩ := h4
  have k4 : ∃ vals : List Value, rows = vals.map fun x => [x] := by
    refine ⟨rows.map fun r => r.headD .nilFunc, ?_⟩
    rw [List.map_map]
    apply List.ext_getElem?
    intro i
    rw [List.getElem?_map]
    cases hi : rows[i]? with
    | none => rfl
    | some r =>
      have hlt := (List.getElem?_eq_some_iff.1 hi).1
      obtain ⟨r', q1, y, rfl, q2⟩ := k3 i _ (List.getElem?_eq_getElem (by omega))
      rw [hi] at q1
      cases q1
      rfl
  obtain ⟨vals, rfl⟩ := k4
  refine ⟨vals, by simpa using k1, k2, fun i ns hi => ?_⟩
  obtain ⟨r, q1, y, rfl, q2⟩ := k3 i ns hi
  rw [List.getElem?_map] at q1
  cases hv : vals[i]? with
  | none => rw [hv] at q1; cases q1
  | some z =>
    rw [hv] at q1
    simp only [Option.map_some, Option.some.injEq, List.cons.injEq, and_true] at q1
    exact ⟨z, rfl, q1 ▸ q2⟩
end
end Go.Proofs.Ytfjeccaffenngaa
