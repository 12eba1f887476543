/-
  Own work. The tree's laws: arguments; both trees side by side.
-/
import Derived.Test.YtecceimgpeookaaS7
import Derived.ProofKit
namespace Go.Proofs.Ytecceimgpeookaa
open Go Go.ChangeShapes Go.WideShapes Go.ChangeAt Go.RowKit X
set_option maxRecDepth 100000
attribute [local irreducible] X.Go' X.GoO X.GoR X.GoG X.GoC X.GoF X.GoFV X.GoFG X.Ex X.GoD X.GoDV X.GoDG
set_option linter.unusedVariables false
set_option linter.unusedSimpArgs false

structure Act where
  kind : Int
  key : ByteArray
  n : Int
abbrev Act.row (x : Act) : List Value := [I x.kind, .string x.key, I x.n]
abbrev RdA (b : Nat) (m : Mem) (v : Value) (xs : List Act) : Prop := RdS b m 3 v (xs.map Act.row)
section
variable {H : Type} {m m' : Mem} {b : Nat} {v : Value} {xs : List Act}
theorem rd_up {b b' : Nat} {m : Mem} {size : Nat} {v : Value} {rows : List (List Value)} (h : RdS b m size v rows) (hb : b ≤ b') : RdS b' m size v rows := by
  obtain ⟨p, c, h1, h2, h3⟩ := h
  refine ⟨p, c, h1, h2, fun i r hr => ?_⟩
  obtain ⟨k1, a, o, k2, k3, k4⟩ := h3 i r hr
  exact ⟨k1, a, o, k2, Nat.lt_of_lt_of_le k3 hb, k4⟩
theorem act_slice (h : RdA b m v xs) : ∃ p c, v = .slice p xs.length c := by
  obtain ⟨p, c, rfl⟩ := h.slice
  exact ⟨p, c, by simp⟩
theorem act_at (h : RdA b m v xs) {i : Nat} {x : Act} (hi : xs[i]? = some x) : ∃ a c, v = .slice (some a) xs.length c ∧ ldA m 3 (.pointer (some ⟨a.block, a.off + i * 3, none⟩)) = some (.val (.agg ⟨x.row⟩) m) ∧
    ∃ o, m.get a.block = some o ∧ o.cells[a.off + i * 3]? = some (I x.kind) ∧ o.cells[a.off + i * 3 + 1]? = some (.string x.key) ∧ o.cells[a.off + i * 3 + 2]? = some (I x.n) := by
  obtain ⟨p, c, rfl, hc, h⟩ := h
  obtain ⟨k1, a, o, rfl, k3, k4, k5⟩ := h i x.row (by simp [hi])
  refine ⟨a, c, by simp, ?_, o, k4, k5 0 (by omega), k5 1 (by omega), k5 2 (by omega)⟩
  have := xload_cells (m := m) (b := a.block) (off := a.off + i * 3) (n := 3) (r := x.row) k4 rfl (by omega) k5
  simp [ldA, this]
theorem acts_last (h : RdA m.next m v xs) (f : Nx m m') : RdA m'.next m' v xs := rd_up (h.fr f (Nat.le_refl _) (fun _ h => h.elim)) f.next
theorem wf_act (d : DataW H) (h : wfD Try.prog d 59) : ∃ x : Act, ∀ m, absD Try.prog d 59 m = (x.row, m) := by
  obtain ⟨xs, rfl, h⟩ := wf_struct Try.underlying59 h
  change wfEach Try.prog xs [3, 9, 3] at h
  obtain ⟨a0, r, rfl, k0, h⟩ := wf_more h
  obtain ⟨a1, r, rfl, k1, h⟩ := wf_more h
  obtain ⟨a2, rfl, k2⟩ := wf_one h
  obtain ⟨kd, rfl, _⟩ := wf_int Try.underlying3 k0
  obtain ⟨k, rfl, _⟩ := wf_string Try.underlying9 k1
  obtain ⟨n, rfl, _⟩ := wf_int Try.underlying3 k2
  exact ⟨⟨kd, ⟨k.toArray⟩, n⟩, fun m => by kernel_rfl⟩
theorem rows_of {α : Type} {row : α → List Value} : ∀ rows : List (List Value), (∀ r ∈ rows, ∃ x : α, r = row x) → ∃ vs : List α, rows = vs.map row
  | [], _ => ⟨[], rfl⟩
  | r :: rows, h => by
    obtain ⟨x, rfl⟩ := h r (by simp)
    obtain ⟨vs, rfl⟩ := rows_of rows (fun r hr => h r (by simp [hr]))
    exact ⟨x :: vs, rfl⟩
theorem abs_acts {d : DataW H} (h : wfD Try.prog d 55) : ∃ (xs : List Act) (v : Value), (absD Try.prog d 55 m).1 = [v] ∧ Nx m (absD Try.prog d 55 m).2 ∧ RdA (absD Try.prog d 55 m).2.next (absD Try.prog d 55 m).2 v xs := by
  obtain ⟨rows, v, h1, h2, h3, h4, h5, h7⟩ := abs_slice_rows (m := m) (size := 3) (Good := fun r => ∃ x : Act, r = x.row) (by omega) (fun r hr => by obtain ⟨x, rfl⟩ := hr; rfl)
    (fun d hd => by obtain ⟨x, k2⟩ := wf_act d hd; exact ⟨_, ⟨x, rfl⟩, k2⟩) Try.underlying55 h
  obtain ⟨xs, rfl⟩ := rows_of rows h2
  exact ⟨xs, v, h1, h4, h5⟩
end

theorem calc_len {m : Mem} {t : ByteArray} {n : List Bool} : calcE Try.prog .len [9] 3 n [.string t] m = some (.val (I (t.size : Nat)) m) := by kernel_rfl
theorem putE_le (es : List Ent) (hs : SortE es) {k : Key} {x : Int} : (putE k x es).length ≤ es.length + 1 := by
  cases hb : hasE k es with
  | true => have := (putE_at (x := x) hs hb).2.1; omega
  | false =>
    have hno : ∀ e ∈ es, e.1 ≠ k := fun e he q => by
      have : hasE k es = true := List.any_eq_true.2 ⟨e.1, List.mem_map.2 ⟨e, he, rfl⟩, decide_eq_true q⟩
      rw [this] at hb; cases hb
    have := putE_len (n := x) hs hno; omega

/-- The tree, and memory below it. -/
structure TreeB (b : Nat) (σ : Nat → Tag) (m : Mem) (p : Nat) (es : List Ent) (k : Nat) : Prop where
  tree : TreeM σ m p es k
  low : ∀ j, j < b → σ j = .no
  le : b ≤ m.next
section
variable {b k p d : Nat} {σ σ' : Nat → Tag} {m m' : Mem} {es : List Ent} {H H' : List Nat} {key : Key} {x : Int}
theorem TreeB.sort (h : TreeB b σ m p es k) : SortE es := h.tree.sort
theorem TreeB.fresh (h : TreeB b σ m p es k) : ∀ j, m.next ≤ j → σ j = .no := by
  obtain ⟨vl, vf, ns, ls, fr, root, ht, _⟩ := h.tree
  exact ht.fresh
theorem TreeB.gr (h : TreeB b σ m p es k) (g : Gr σ σ' m m') {es' : List Ent} {k' : Nat} (t : TreeM σ' m' p es' k') : TreeB b σ' m' p es' k' ∧ Fm (b ≤ ·) m m' := by
  refine ⟨⟨t, fun j hj => ?_, Nat.le_trans h.le g.next⟩, g.fm.mono fun j _ hj => ?_⟩
  · rw [g.out j (Nat.lt_of_lt_of_le hj h.le) (by rw [h.low j hj]; rfl)]; exact h.low j hj
  · refine Nat.le_of_not_lt fun q => ?_
    rw [h.low j q] at hj; simp [tr] at hj
theorem TreeB.nx (h : TreeB b σ m p es k) (f : Nx m m') : TreeB b σ m' p es k := ⟨h.tree.nx f, h.low, Nat.le_trans h.le f.next⟩
theorem TreeB.le' {k' : Nat} (h : TreeB b σ m p es k) (hk : k ≤ k') : TreeB b σ m p es k' := ⟨h.tree.le hk, h.low, h.le⟩
theorem TreeB.put (h : TreeB b σ m p es k) (hk : k ≤ 3999) : ∃ m' σ', Ca 27 [Pt p, .string key, I x] m (.tuple #[I ((getE key es).getD 0), .bool (getE key es).isSome, I 0]) m' ∧ TreeB b σ' m' p (putE key x es) (k + 1) ∧ Fm (b ≤ ·) m m' ∧ Gr σ σ' m m' := by
  obtain ⟨m', σ', c1, c2, c3⟩ := Put_spec (key := key) (x := x) h.tree hk
  obtain ⟨d1, d2⟩ := h.gr c3 c2
  exact ⟨m', σ', c1, d1, d2, c3⟩
theorem TreeB.del (h : TreeB b σ m p es k) (hk : k ≤ 4000) : ∃ m' σ', Ca 30 [Pt p, .string key] m (.tuple #[I ((getE key es).getD 0), .bool (getE key es).isSome]) m' ∧ TreeB b σ' m' p (delE key es) k ∧ Fm (b ≤ ·) m m' ∧ Gr σ σ' m m' := by
  obtain ⟨m', σ', c1, c2, c3⟩ := Del_spec (key := key) h.tree hk
  obtain ⟨d1, d2⟩ := h.gr c3 c2
  exact ⟨m', σ', c1, d1, d2, c3⟩
theorem TreeB.new (b : Nat) (hb : b ≤ m.next) : ∃ m' σ, Ca 26 [] m (Pt m.next) m' ∧ Nx m m' ∧ m'.next = m.next + 1 ∧ TreeB b σ m' m.next [] 0 := by
  obtain ⟨m', c1, c2, c3, c4⟩ := new_spec (m := m) (σ := fun _ => .no) (fun _ _ => rfl)
  exact ⟨m', _, c1, c2, c3, c4, fun j hj => if_neg (by omega), by omega⟩
end
end Go.Proofs.Ytecceimgpeookaa
