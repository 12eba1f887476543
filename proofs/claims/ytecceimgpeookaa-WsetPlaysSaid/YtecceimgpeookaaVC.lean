/-
  Own work. The laws' arguments, and the sets at the laws' beginning.
-/
import Derived.Test.YtecceimgpeookaaVB
namespace Go.Proofs.Ytecceimgpeookaa
open Go X
set_option maxRecDepth 100000
attribute [local irreducible] X.Go' X.GoO X.GoR X.GoG X.GoC X.GoF X.GoFV X.GoFG X.Ex X.GoD X.GoDV X.GoDG
set_option linter.unusedVariables false
set_option linter.unusedSimpArgs false

abbrev rowsA (xs : List Act) : List (List Value) := xs.map Act.row
abbrev RdA (b : Nat) (m : Mem) (v : Value) (xs : List Act) : Prop := RdS b m 6 v (rowsA xs)
structure RdAW (b : Nat) (m : Mem) (v : Value) (xs : List Act) : Prop where
  rd : RdA b m v xs
  wf : ∀ x ∈ xs, x.Wf
section
variable {H : Type} {m m' : Mem} {b : Nat} {v : Value} {xs : List Act}
theorem act_slice (h : RdA b m v xs) : ∃ p c, v = .slice p xs.length c := by
  obtain ⟨p, c, rfl⟩ := h.slice
  exact ⟨p, c, by simp⟩
theorem act_at (h : RdA b m v xs) {i : Nat} {x : Act} (hi : xs[i]? = some x) : ∃ a c, v = .slice (some a) xs.length c ∧ ldA m 6 (.pointer (some ⟨a.block, a.off + i * 6, none⟩)) = some (.val (.agg ⟨x.row⟩) m) ∧
    ∃ o, m.get a.block = some o ∧ o.cells[a.off + i * 6]? = some (I x.kind) ∧ o.cells[a.off + i * 6 + 5]? = some (I x.n) := by
  obtain ⟨p, c, rfl, hc, h⟩ := h
  obtain ⟨k1, a, o, rfl, k3, k4, k5⟩ := h i x.row (by simp [hi])
  refine ⟨a, c, by simp, ?_, o, k4, k5 0 (by omega), k5 5 (by omega)⟩
  have := xload_cells (m := m) (b := a.block) (off := a.off + i * 6) (n := 6) (r := x.row) k4 rfl (by omega) k5
  simp [ldA, this]
theorem acts_last (h : RdAW m.next m v xs) (f : Nx m m') : RdAW m'.next m' v xs := ⟨rd_up (h.rd.fr f (Nat.le_refl _) (fun _ h => h.elim)) f.next, h.wf⟩
theorem wf_val {P : Value → Value → Value → Prop} (d : DataW H) (h : wfD Try.prog d 34) : ∃ (n : Bool) (t : List UInt8) (u : Int), d = .agg [.lit (.bool n), .lit (.string t), .lit (.int .u64 u)] ∧ 0 ≤ u ∧ u ≤ 18446744073709551615 := by
  obtain ⟨ys, rfl, k2⟩ := wf_struct Try.underlying34 h
  change wfEach Try.prog ys [4, 9, 32] at k2
  obtain ⟨b0, r, rfl, j0, k2⟩ := wf_more k2
  obtain ⟨b1, r, rfl, j1, k2⟩ := wf_more k2
  obtain ⟨b2, rfl, j2⟩ := wf_one k2
  obtain ⟨n, rfl⟩ := wf_bool Try.underlying4 j0
  obtain ⟨t, rfl, _⟩ := wf_string Try.underlying9 j1
  obtain ⟨u, rfl, u1, u2⟩ := wf_int Try.underlying32 j2
  have e3 : IntKind.u64.min = 0 := by decide
  have e4 : IntKind.u64.max = 18446744073709551615 := by decide
  rw [e3] at u1
  rw [e4] at u2
  exact ⟨n, t, u, rfl, u1, u2⟩
theorem wf_act (d : DataW H) (h : wfD Try.prog d 36) : ∃ x : Act, x.Wf ∧ ∀ m, absD Try.prog d 36 m = (x.row, m) := by
  obtain ⟨xs, rfl, h⟩ := wf_struct Try.underlying36 h
  change wfEach Try.prog xs [3, 9, 34, 3] at h
  obtain ⟨a0, r, rfl, k0, h⟩ := wf_more h
  obtain ⟨a1, r, rfl, k1, h⟩ := wf_more h
  obtain ⟨a2, r, rfl, k2, h⟩ := wf_more h
  obtain ⟨a3, rfl, k3⟩ := wf_one h
  obtain ⟨kd, rfl, _⟩ := wf_int Try.underlying3 k0
  obtain ⟨k, rfl, _⟩ := wf_string Try.underlying9 k1
  obtain ⟨n3, rfl, _⟩ := wf_int Try.underlying3 k3
  obtain ⟨n, t, u, rfl, u1, u2⟩ := wf_val (P := fun _ _ _ => True) _ k2
  refine ⟨⟨kd, ⟨k.toArray⟩, n, ⟨t.toArray⟩, u.toNat, n3⟩, ⟨by show u.toNat < _; omega⟩, fun m => ?_⟩
  have : (u.toNat : Int) = u := Int.toNat_of_nonneg u1
  show _ = ([I kd, .string ⟨k.toArray⟩, .bool n, .string ⟨t.toArray⟩, U (u.toNat : Int), I n3], m)
  rw [this]
  kernel_rfl
theorem rows_of {α : Type} {Q : α → Prop} {row : α → List Value} : ∀ rows : List (List Value), (∀ r ∈ rows, ∃ x : α, Q x ∧ r = row x) → ∃ vs : List α, rows = vs.map row ∧ ∀ x ∈ vs, Q x
  | [], _ => ⟨[], rfl, by simp⟩
  | r :: rows, h => by
    obtain ⟨x, h1, rfl⟩ := h r (by simp)
    obtain ⟨vs, rfl, h2⟩ := rows_of rows (fun r hr => h r (by simp [hr]))
    exact ⟨x :: vs, rfl, by simpa using ⟨h1, h2⟩⟩
theorem abs_acts {d : DataW H} (h : wfD Try.prog d 22) : ∃ (xs : List Act) (v : Value), (absD Try.prog d 22 m).1 = [v] ∧ Nx m (absD Try.prog d 22 m).2 ∧ RdAW (absD Try.prog d 22 m).2.next (absD Try.prog d 22 m).2 v xs := by
  obtain ⟨rows, v, h1, h2, h3, h4, h5, h7⟩ := abs_slice_rows (m := m) (size := 6) (Good := fun r => ∃ x : Act, x.Wf ∧ r = x.row) (by omega) (fun r hr => by obtain ⟨x, _, rfl⟩ := hr; rfl)
    (fun d hd => by obtain ⟨x, k1, k2⟩ := wf_act d hd; exact ⟨_, ⟨x, k1, rfl⟩, k2⟩) Try.underlying22 h
  obtain ⟨xs, rfl, h6⟩ := rows_of rows h2
  exact ⟨xs, v, h1, h4, h5, h6⟩
end

section
variable {G H : List Nat} {m m' : Mem} {s d : Value} {W : List Wr} {R : List (List Wr)} {c : Nat} {k : ByteArray}
theorem inv_nil : Inv [] [] [] [] := ⟨.nil, by simp, rfl, by simp, fun j n h => by simp at h, fun i j a b _ h => by simp at h, fun j n S h => by simp at h, by simp⟩
theorem build3 {m : Mem} : buildE m [.slice none 0 0, .slice none 0 0, .slice none 0 0] [(0, 1), (1, 1), (2, 1)] [] = some (.val (.agg ⟨[.slice none 0 0, .slice none 0 0, .slice none 0 0]⟩) m) := by kernel_rfl
theorem build2 {m : Mem} : buildE m [.slice none 0 0, .slice none 0 0] [(0, 1), (1, 1)] [] = some (.val (.agg ⟨[.slice none 0 0, .slice none 0 0]⟩) m) := by kernel_rfl
theorem new_spec : ∃ m', Ca 9 [] m (Pt m.next) m' ∧ SetP [m.next] m' (Pt m.next) [] [] 0 ∧ Nx m m' ∧ m'.next = m.next + 1 := by
  refine ⟨m.push { cells := [.slice none 0 0, .slice none 0 0, .slice none 0 0], rw := true, spare := none, kin := [] }, callX_of (call_go (F := _) rfl rfl fun Q hQ => ?_), ⟨m.next, _, _, _, [], [], [], [], [], rfl, ⟨push_self, .nil, .nil, .nil, by simp, by simp, by simp, by simp, by simp, by simp, by simp, by simp, by simp, by simp, by simp⟩, inv_nil, by simp⟩, .push, by simp⟩
  simp only [symA, go_opsd, symB, wantedX, X.put, X.look, Arg.ev, keepOf, restrict, evs, evO, initEnv, xres, tup, noTup, cls, quiet, Nat.reduceAdd, Nat.reduceEqDiff, ↓reduceIte, reduceCtorEq, goInt, exists_eq_left', eq_self, Int.reduceLT, Int.reduceLE, Int.reduceEq, Int.reduceNeg, Int.reduceAdd, Int.reduceSub, forall_const, ne_eq, undef, Nat.reducePow, Nat.reduceDiv, Nat.reduceMod, build3]
  exact hQ _ _ _ rfl ⟨rfl, rfl⟩
theorem ref_new {m1 : Mem} (h : m.push { cells := [.slice none 0 0, .slice none 0 0], rw := true, spare := none, kin := [] } = m1) : RefP [m.next] m1 (Pt m.next) [] [] := by
  subst h
  exact ⟨m.next, _, _, [], [], rfl, ⟨push_self, ⟨[], .nil, by simp⟩, .nil, rfl, fun j S h => by simp at h, by simp, by simp, by simp, by simp⟩⟩
theorem all_call (h : SetP G m s W R c) : ∃ r m' F, Ca 12 [s] m r m' ∧ Own2 5 F m' r (rowsW W) ∧ (∀ i ∈ F, m.next ≤ i) ∧ Nx m m' := by
  obtain ⟨p, vl, vu, vm, FL, FU, FM, us, Mk, rfl, h2, h3, h4⟩ := h
  exact all_spec h2 (by have := h3.len; omega)
theorem marks_call (h : SetP G m s W R c) : Ca 14 [s] m (I (R.length : Int)) m := by
  obtain ⟨p, vl, vu, vm, FL, FU, FM, us, Mk, rfl, h2, h3, h4⟩ := h
  rw [← h3.mlen]
  exact marks_spec h2
theorem len_call (h : SetP G m s W R c) : Ca 19 [s] m (I (W.length : Int)) m := by
  obtain ⟨p, vl, vu, vm, FL, FU, FM, us, Mk, rfl, h2, h3, h4⟩ := h
  exact len_spec h2
theorem get_both (h : Both G H m s d W R c) : ∃ o m1, Ca 20 [s, .string k] m (tupW o) m1 ∧ Nx m m1 ∧ ∀ m2, Nx m m2 → ∃ m3, Ca 21 [d, .string k] m2 (tupW o) m3 ∧ Nx m2 m3 := by
  obtain ⟨⟨p, vl, vu, vm, FL, FU, FM, us, Mk, rfl, h2, h3, h4⟩, ⟨p', vl', vm', FM', vals, rfl, r⟩, _⟩ := h
  have := h3.len
  obtain ⟨m1, A, o, B, k1, k2, k3⟩ := get_spec (k := k) h2 h3.sort (by omega)
  exact ⟨o, m1, k1, k3, fun m2 hm => rget_spec (r.nx hm) (by omega) k2⟩
theorem after_both (h : Both G H m s d W R c) : ∃ o m1, Ca 22 [s, .string k] m (tupW o) m1 ∧ Nx m m1 ∧ ∀ m2, Nx m m2 → ∃ m3, Ca 23 [d, .string k, .bool true] m2 (tupW o) m3 ∧ Nx m2 m3 := by
  obtain ⟨⟨p, vl, vu, vm, FL, FU, FM, us, Mk, rfl, h2, h3, h4⟩, ⟨p', vl', vm', FM', vals, rfl, r⟩, _⟩ := h
  have := h3.len
  obtain ⟨m1, k1, k3⟩ := after_spec (k := k) h2 h3.sort (by omega)
  exact ⟨_, m1, k1, k3, fun m2 hm => rfrom_spec (r.nx hm) (by omega)⟩
theorem seek_both (h : Both G H m s d W R c) : ∃ o m1, Ca 24 [s, .string k] m (tupW o) m1 ∧ Nx m m1 ∧ ∀ m2, Nx m m2 → ∃ m3, Ca 23 [d, .string k, .bool false] m2 (tupW o) m3 ∧ Nx m2 m3 := by
  obtain ⟨⟨p, vl, vu, vm, FL, FU, FM, us, Mk, rfl, h2, h3, h4⟩, ⟨p', vl', vm', FM', vals, rfl, r⟩, _⟩ := h
  have := h3.len
  obtain ⟨m1, k1, k3⟩ := seek_spec (k := k) h2 h3.sort (by omega)
  exact ⟨_, m1, k1, k3, fun m2 hm => rfrom_spec (r.nx hm) (by omega)⟩
end
end Go.Proofs.Ytecceimgpeookaa
