/-
  Own work. Entries and writes as arguments. Entries as arguments, with all that is known of them.
-/
import Derived.Test.YtlldfkapaeidoaaD5
namespace Go.Proofs.Ytlldfkapaeidoaa
open Go X
set_option maxRecDepth 100000
set_option linter.unusedVariables false
set_option linter.unusedSimpArgs false
theorem rd_up {b b' : Nat} {m : Mem} {size : Nat} {v : Value} {rows : List (List Value)} (h : RdS b m size v rows) (hb : b ≤ b') : RdS b' m size v rows := by
  obtain ⟨p, c, h1, h2, h3⟩ := h
  refine ⟨p, c, h1, h2, fun i r hr => ?_⟩
  obtain ⟨k1, a, o, k2, k3, k4⟩ := h3 i r hr
  exact ⟨k1, a, o, k2, Nat.lt_of_lt_of_le k3 hb, k4⟩
section
variable {H : Type}
theorem wf_val {P : Value → Value → Value → Prop} (d : DataW H) (h : wfD Try.prog d 34) : ∃ (n : Bool) (t : List UInt8) (u : Int), d = .agg [.lit (.bool n), .lit (.string t), .lit (.int .u64 u)] ∧ 0 ≤ u ∧ u ≤ 18446744073709551615 := by
  obtain ⟨ys, rfl, k2⟩ := wf_struct Try.underlying34 h
  change wfEach Try.prog ys [4, 9, 32] at k2
  obtain ⟨b0, r, rfl, j0, k2⟩ := wf_more k2
  obtain ⟨b1, r, rfl, j1, k2⟩ := wf_more k2
  obtain ⟨b2, rfl, j2⟩ := wf_one k2
  obtain ⟨n, rfl⟩ := wf_bool Try.underlying4 j0
  obtain ⟨t, rfl, _⟩ := wf_string Try.underlying9 j1
  obtain ⟨u, rfl, u1, u2⟩ := wf_int Try.underlying32 j2
  have e3 : IntKind.u64.min = 0 := by decide
  have e4 : IntKind.u64.max = 18446744073709551615 := by decide
  rw [e3] at u1
  rw [e4] at u2
  exact ⟨n, t, u, rfl, u1, u2⟩
theorem wf_ent (d : DataW H) (h : wfD Try.prog d 55) : ∃ x : Ent, x.Wf ∧ ∀ m, absD Try.prog d 55 m = (x.row, m) := by
  obtain ⟨xs, rfl, h⟩ := wf_struct Try.underlying55 h
  change wfEach Try.prog xs [9, 3, 34] at h
  obtain ⟨a0, r, rfl, k0, h⟩ := wf_more h
  obtain ⟨a1, r, rfl, k1, h⟩ := wf_more h
  obtain ⟨a2, rfl, k2⟩ := wf_one h
  obtain ⟨k, rfl, _⟩ := wf_string Try.underlying9 k0
  obtain ⟨s, rfl, s1, s2⟩ := wf_int Try.underlying3 k1
  obtain ⟨n, t, u, rfl, u1, u2⟩ := wf_val (P := fun _ _ _ => True) _ k2
  have e1 : IntKind.i64.min = -9223372036854775808 := by decide
  have e2 : IntKind.i64.max = 9223372036854775807 := by decide
  rw [e1] at s1
  rw [e2] at s2
  refine ⟨⟨⟨k.toArray⟩, s, n, ⟨t.toArray⟩, u.toNat⟩, ⟨s1, s2, by show u.toNat < _; omega⟩, fun m => ?_⟩
  have : (u.toNat : Int) = u := Int.toNat_of_nonneg u1
  show _ = ([.string ⟨k.toArray⟩, I s, .bool n, .string ⟨t.toArray⟩, U (u.toNat : Int)], m)
  rw [this]
  kernel_rfl
theorem wf_wr (d : DataW H) (h : wfD Try.prog d 36) : ∃ x : Wr, x.Wf ∧ ∀ m, absD Try.prog d 36 m = (x.row, m) := by
  obtain ⟨xs, rfl, h⟩ := wf_struct Try.underlying36 h
  change wfEach Try.prog xs [9, 4, 34] at h
  obtain ⟨a0, r, rfl, k0, h⟩ := wf_more h
  obtain ⟨a1, r, rfl, k1, h⟩ := wf_more h
  obtain ⟨a2, rfl, k2⟩ := wf_one h
  obtain ⟨k, rfl, _⟩ := wf_string Try.underlying9 k0
  obtain ⟨s, rfl⟩ := wf_bool Try.underlying4 k1
  obtain ⟨n, t, u, rfl, u1, u2⟩ := wf_val (P := fun _ _ _ => True) _ k2
  refine ⟨⟨⟨k.toArray⟩, s, n, ⟨t.toArray⟩, u.toNat⟩, ⟨by show u.toNat < _; omega⟩, fun m => ?_⟩
  have : (u.toNat : Int) = u := Int.toNat_of_nonneg u1
  show _ = ([.string ⟨k.toArray⟩, .bool s, .bool n, .string ⟨t.toArray⟩, U (u.toNat : Int)], m)
  rw [this]
  kernel_rfl
theorem rows_of {α : Type} {Q : α → Prop} {row : α → List Value} : ∀ rows : List (List Value), (∀ r ∈ rows, ∃ x : α, Q x ∧ r = row x) → ∃ vs : List α, rows = vs.map row ∧ ∀ x ∈ vs, Q x
  | [], _ => ⟨[], rfl, by simp⟩
  | r :: rows, h => by
    obtain ⟨x, h1, rfl⟩ := h r (by simp)
    obtain ⟨vs, rfl, h2⟩ := rows_of rows (fun r hr => h r (by simp [hr]))
    exact ⟨x :: vs, rfl, by simpa using ⟨h1, h2⟩⟩
theorem abs_slice_ents {d : DataW H} {m : Mem} (h : wfD Try.prog d 22) :
    ∃ (vs : List Ent) (v : Value), (absD Try.prog d 22 m).1 = [v] ∧ (∀ x ∈ vs, x.Wf) ∧ Fm (fun _ => False) m (absD Try.prog d 22 m).2 ∧ RdE (absD Try.prog d 22 m).2.next (absD Try.prog d 22 m).2 v vs ∧ ∀ m', CutOk m' 5 v := by
  obtain ⟨rows, v, h1, h2, h3, h4, h5, h7⟩ := abs_slice_rows (m := m) (size := 5) (Good := fun r => ∃ x : Ent, x.Wf ∧ r = x.row) (by omega) (fun r hr => by obtain ⟨x, _, rfl⟩ := hr; rfl)
    (fun d hd => by obtain ⟨x, k1, k2⟩ := wf_ent d hd; exact ⟨_, ⟨x, k1, rfl⟩, k2⟩) Try.underlying22 h
  obtain ⟨vs, rfl, h6⟩ := rows_of rows h2
  exact ⟨vs, v, h1, h6, h4, h5, h7⟩
theorem abs_slice_wrs {d : DataW H} {m : Mem} (h : wfD Try.prog d 23) :
    ∃ (vs : List Wr) (v : Value), (absD Try.prog d 23 m).1 = [v] ∧ (∀ x ∈ vs, x.Wf) ∧ Fm (fun _ => False) m (absD Try.prog d 23 m).2 ∧ RdW (absD Try.prog d 23 m).2.next (absD Try.prog d 23 m).2 v vs ∧ ∀ m', CutOk m' 5 v := by
  obtain ⟨rows, v, h1, h2, h3, h4, h5, h7⟩ := abs_slice_rows (m := m) (size := 5) (Good := fun r => ∃ x : Wr, x.Wf ∧ r = x.row) (by omega) (fun r hr => by obtain ⟨x, _, rfl⟩ := hr; rfl)
    (fun d hd => by obtain ⟨x, k1, k2⟩ := wf_wr d hd; exact ⟨_, ⟨x, k1, rfl⟩, k2⟩) Try.underlying23 h
  obtain ⟨vs, rfl, h6⟩ := rows_of rows h2
  exact ⟨vs, v, h1, h6, h4, h5, h7⟩
end
end Go.Proofs.Ytlldfkapaeidoaa

namespace Go.Proofs.Ytlldfkapaeidoaa
open Go X
set_option maxRecDepth 100000
set_option linter.unusedVariables false
set_option linter.unusedSimpArgs false
structure RdEW (b : Nat) (m : Mem) (v : Value) (vs : List Ent) : Prop where
  rd : RdE b m v vs
  wf : ∀ x ∈ vs, x.Wf
  cut : CutB b m 5 v
theorem cut_up {b b' size : Nat} {m : Mem} {v : Value} (h : CutB b m size v) (hb : b ≤ b') : CutB b' m size v := by
  intro a n c hv
  rcases h a n c hv with h1 | h1 | ⟨h1, h2, h3⟩
  · exact .inl h1
  · exact .inr (.inl h1)
  · exact .inr (.inr ⟨h1, Nat.lt_of_lt_of_le h2 hb, h3⟩)
section
variable {H : Type} {m m' : Mem} {v : Value}
theorem ents_last {vs : List Ent} (h : RdEW m.next m v vs) (f : Nx m m') : RdEW m'.next m' v vs :=
  ⟨rd_up (h.rd.fr f (Nat.le_refl _) (fun _ h => h.elim)) f.next, h.wf, cut_up (h.cut.fr f (Nat.le_refl _) (fun _ h => h.elim)) f.next⟩
theorem abs_ents {d : DataW H} (h : wfD Try.prog d 22) : ∃ (vs : List Ent) (v : Value), (absD Try.prog d 22 m).1 = [v] ∧ Nx m (absD Try.prog d 22 m).2 ∧ RdEW (absD Try.prog d 22 m).2.next (absD Try.prog d 22 m).2 v vs := by
  obtain ⟨vs, v, g1, g2, g3, g4, g5⟩ := abs_slice_ents (m := m) h
  exact ⟨vs, v, g1, g3, g4, g2, .arg g5⟩
end
end Go.Proofs.Ytlldfkapaeidoaa
