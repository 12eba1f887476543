/-
  Own work. Entries as arguments. (Turned from the diff's texts.)
-/
import Derived.Test.YtglefgcnafoafaaGreatDoorFD
import Derived.Test.YtglefgcnafoafaaGreatDoorXArg
namespace Go.Proofs.YtglefgcnafoafaaGreatDoor
open Go X
set_option maxRecDepth 100000
set_option linter.unusedVariables false
set_option linter.unusedSimpArgs false
theorem rd_up {b b' : Nat} {m : Mem} {size : Nat} {v : Value} {rows : List (List Value)} (h : RdS b m size v rows) (hb : b ≤ b') : RdS b' m size v rows := by
  obtain ⟨p, c, h1, h2, h3⟩ := h
  refine ⟨p, c, h1, h2, fun i r hr => ?_⟩
  obtain ⟨k1, a, o, k2, k3, k4⟩ := h3 i r hr
  exact ⟨k1, a, o, k2, Nat.lt_of_lt_of_le k3 hb, k4⟩
section
variable {H : Type}
theorem wf_val {P : Value → Value → Value → Prop} (d : DataW H) (h : wfD Tryz.prog d 79) : ∃ (n : Bool) (t : List UInt8) (u : Int), d = .agg [.lit (.bool n), .lit (.string t), .lit (.int .u64 u)] ∧ 0 ≤ u ∧ u ≤ 18446744073709551615 := by
  obtain ⟨ys, rfl, k2⟩ := wf_struct Tryz.underlying79 h
  change wfEach Tryz.prog ys [4, 9, 77] at k2
  obtain ⟨b0, r, rfl, j0, k2⟩ := wf_more k2
  obtain ⟨b1, r, rfl, j1, k2⟩ := wf_more k2
  obtain ⟨b2, rfl, j2⟩ := wf_one k2
  obtain ⟨n, rfl⟩ := wf_bool Tryz.underlying4 j0
  obtain ⟨t, rfl, _⟩ := wf_string Tryz.underlying9 j1
  obtain ⟨u, rfl, u1, u2⟩ := wf_int Tryz.underlying77 j2
  have e3 : IntKind.u64.min = 0 := by decide
  have e4 : IntKind.u64.max = 18446744073709551615 := by decide
  rw [e3] at u1
  rw [e4] at u2
  exact ⟨n, t, u, rfl, u1, u2⟩
theorem wf_ent (d : DataW H) (h : wfD Tryz.prog d 137) : ∃ x : Ent, x.Wf ∧ ∀ m, absD Tryz.prog d 137 m = (x.row, m) := by
  obtain ⟨xs, rfl, h⟩ := wf_struct Tryz.underlying137 h
  change wfEach Tryz.prog xs [9, 3, 79] at h
  obtain ⟨a0, r, rfl, k0, h⟩ := wf_more h
  obtain ⟨a1, r, rfl, k1, h⟩ := wf_more h
  obtain ⟨a2, rfl, k2⟩ := wf_one h
  obtain ⟨k, rfl, _⟩ := wf_string Tryz.underlying9 k0
  obtain ⟨s, rfl, s1, s2⟩ := wf_int Tryz.underlying3 k1
  obtain ⟨n, t, u, rfl, u1, u2⟩ := wf_val (P := fun _ _ _ => True) _ k2
  have e1 : IntKind.i64.min = -9223372036854775808 := by decide
  have e2 : IntKind.i64.max = 9223372036854775807 := by decide
  rw [e1] at s1
  rw [e2] at s2
  refine ⟨⟨⟨k.toArray⟩, s, n, ⟨t.toArray⟩, u.toNat⟩, ⟨s1, s2, by show u.toNat < _; omega⟩, fun m => ?_⟩
  have : (u.toNat : Int) = u := Int.toNat_of_nonneg u1
  show _ = ([.string ⟨k.toArray⟩, I s, .bool n, .string ⟨t.toArray⟩, U (u.toNat : Int)], m)
  rw [this]
  kernel_rfl
theorem rows_of {α : Type} {Q : α → Prop} {row : α → List Value} : ∀ rows : List (List Value), (∀ r ∈ rows, ∃ x : α, Q x ∧ r = row x) → ∃ vs : List α, rows = vs.map row ∧ ∀ x ∈ vs, Q x
  | [], _ => ⟨[], rfl, by simp⟩
  | r :: rows, h => by
    obtain ⟨x, h1, rfl⟩ := h r (by simp)
    obtain ⟨vs, rfl, h2⟩ := rows_of rows (fun r hr => h r (by simp [hr]))
    exact ⟨x :: vs, rfl, by simpa using ⟨h1, h2⟩⟩
theorem abs_slice_ents {d : DataW H} {m : Mem} (h : wfD Tryz.prog d 63) :
    ∃ (vs : List Ent) (v : Value), (absD Tryz.prog d 63 m).1 = [v] ∧ (∀ x ∈ vs, x.Wf) ∧ Fm (fun _ => False) m (absD Tryz.prog d 63 m).2 ∧ RdE (absD Tryz.prog d 63 m).2.next (absD Tryz.prog d 63 m).2 v vs ∧ ∀ m', CutOk m' 5 v := by
  obtain ⟨rows, v, h1, h2, h3, h4, h5, h7⟩ := abs_slice_rows (m := m) (size := 5) (Good := fun r => ∃ x : Ent, x.Wf ∧ r = x.row) (by omega) (fun r hr => by obtain ⟨x, _, rfl⟩ := hr; rfl)
    (fun d hd => by obtain ⟨x, k1, k2⟩ := wf_ent d hd; exact ⟨_, ⟨x, k1, rfl⟩, k2⟩) Tryz.underlying63 h
  obtain ⟨vs, rfl, h6⟩ := rows_of rows h2
  exact ⟨vs, v, h1, h6, h4, h5, h7⟩
end
end Go.Proofs.YtglefgcnafoafaaGreatDoor
