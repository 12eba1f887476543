/-
  Own work. The room's laws: arguments; what is too far.
-/
import Derived.Test.YtnlmnejellipdaaMZ
import Derived.Test.YtnlmnejellipdaaXArg
import Derived.ProofKit
namespace Go.Proofs.Ytnlmnejellipdaa
open Go Go.ChangeShapes Go.WideShapes Go.ChangeAt Go.RowKit X
set_option maxRecDepth 100000
attribute [local irreducible] X.Go' X.GoO X.GoR X.GoG X.GoC X.GoF X.GoFV X.GoFG X.Ex X.GoD X.GoDV X.GoDG
set_option linter.unusedVariables false
set_option linter.unusedSimpArgs false
structure Ak where
 kind : Int
 ws : List Wt
 by_ : Int
 seq : Int
 key : ByteArray
def RepA (b : Nat) (m : Mem) (r : List Value) (x : Ak) : Prop := ∃ wv, r = [I x.kind, wv, .int .u8 x.by_, I x.seq, .string x.key] ∧ RdW b m wv x.ws ∧ (∀ w ∈ x.ws, w.Wf) ∧ 0 ≤ x.by_ ∧ x.by_ ≤ 255
abbrev RdA (b : Nat) (m : Mem) (v : Value) (xs : List Ak) : Prop := RdG RepA b m 5 v xs
section
variable {H : Type} {m m' : Mem} {b : Nat} {v : Value} {xs : List Ak} {ws : List Wt}
theorem rep_up : RepUp RepA := fun b b' m m' r x h hb hf hbb => by
 obtain ⟨wv, h1, h2, h3⟩ := h
 exact ⟨wv, h1, rd_up' (h2.fr hf hb fun _ h => h.elim) hbb, h3⟩
theorem wf_val (d : DataW H) (h : wfD Try.prog d 43) : ∃ (n : Bool) (t : List UInt8) (u : Int), d = .agg [.lit (.bool n), .lit (.string t), .lit (.int .u64 u)] ∧ 0 ≤ u ∧ u ≤ 18446744073709551615 := by
 obtain ⟨ys, rfl, k2⟩ := wf_struct Try.underlying43 h
 change wfEach Try.prog ys [4, 9, 31] at k2
 obtain ⟨b0, r, rfl, j0, k2⟩ := wf_more k2
 obtain ⟨b1, r, rfl, j1, k2⟩ := wf_more k2
 obtain ⟨b2, rfl, j2⟩ := wf_one k2
 obtain ⟨n, rfl⟩ := wf_bool Try.underlying4 j0
 obtain ⟨t, rfl, _⟩ := wf_string Try.underlying9 j1
 obtain ⟨u, rfl, u1, u2⟩ := wf_int Try.underlying31 j2
 have e3 : IntKind.u64.min = 0 := by decide
 have e4 : IntKind.u64.max = 18446744073709551615 := by decide
 rw [e3] at u1
 rw [e4] at u2
 exact ⟨n, t, u, rfl, u1, u2⟩
theorem wf_write (d : DataW H) (h : wfD Try.prog d 45) : ∃ x : Wt, x.Wf ∧ ∀ m, absD Try.prog d 45 m = (x.row, m) := by
 obtain ⟨xs, rfl, h⟩ := wf_struct Try.underlying45 h
 change wfEach Try.prog xs [9, 4, 43] at h
 obtain ⟨a0, r, rfl, k0, h⟩ := wf_more h
 obtain ⟨a1, r, rfl, k1, h⟩ := wf_more h
 obtain ⟨a2, rfl, k2⟩ := wf_one h
 obtain ⟨k, rfl, _⟩ := wf_string Try.underlying9 k0
 obtain ⟨g, rfl⟩ := wf_bool Try.underlying4 k1
 obtain ⟨n, t, u, rfl, u1, u2⟩ := wf_val _ k2
 refine ⟨⟨⟨k.toArray⟩, g, n, ⟨t.toArray⟩, u.toNat⟩, by show u.toNat < _; omega, fun m => ?_⟩
 have : (u.toNat : Int) = u := Int.toNat_of_nonneg u1
 show _ = ([.string ⟨k.toArray⟩, .bool g, .bool n, .string ⟨t.toArray⟩, U (u.toNat : Int)], m)
 rw [this]
 kernel_rfl
theorem rows_wt : ∀ rows : List (List Value), (∀ r ∈ rows, ∃ x : Wt, x.Wf ∧ r = x.row) → ∃ vs : List Wt, rows = vs.map Wt.row ∧ ∀ x ∈ vs, x.Wf
 | [], _ => ⟨[], rfl, by simp⟩
 | r :: rows, h => by
  obtain ⟨x, h1, rfl⟩ := h r (by simp)
  obtain ⟨vs, rfl, h2⟩ := rows_wt rows (fun r hr => h r (by simp [hr]))
  exact ⟨x :: vs, rfl, by simpa using ⟨h1, h2⟩⟩
theorem abs_writes {d : DataW H} (h : wfD Try.prog d 33) : ∃ (ws : List Wt) (v : Value), (absD Try.prog d 33 m).1 = [v] ∧ Nx m (absD Try.prog d 33 m).2 ∧ RdW (absD Try.prog d 33 m).2.next (absD Try.prog d 33 m).2 v ws ∧ ∀ w ∈ ws, w.Wf := by
 obtain ⟨rows, v, h1, h2, h3, h4, h5, h7⟩ := abs_slice_rows (m := m) (size := 5) (Good := fun r => ∃ x : Wt, x.Wf ∧ r = x.row) (by omega) (fun r hr => by obtain ⟨x, _, rfl⟩ := hr; rfl)
  (fun d hd => by obtain ⟨x, k1, k2⟩ := wf_write d hd; exact ⟨_, ⟨x, k1, rfl⟩, k2⟩) Try.underlying33 h
 obtain ⟨ws, rfl, h6⟩ := rows_wt rows h2
 exact ⟨ws, v, h1, h4, h5, h6⟩
theorem abs_ak (d : DataW H) (m : Mem) (h : wfD Try.prog d 35) : ∃ x : Ak, RepA (absD Try.prog d 35 m).2.next (absD Try.prog d 35 m).2 (absD Try.prog d 35 m).1 x ∧ (absD Try.prog d 35 m).1.length = 5 ∧ Nx m (absD Try.prog d 35 m).2 := by
 obtain ⟨xs, rfl, h⟩ := wf_struct Try.underlying35 h
 change wfEach Try.prog xs [3, 33, 5, 3, 9] at h
 obtain ⟨a0, r, rfl, k0, h⟩ := wf_more h
 obtain ⟨a1, r, rfl, k1, h⟩ := wf_more h
 obtain ⟨a2, r, rfl, k2, h⟩ := wf_more h
 obtain ⟨a3, r, rfl, k3, h⟩ := wf_more h
 obtain ⟨a4, rfl, k4⟩ := wf_one h
 obtain ⟨kd, rfl, _⟩ := wf_int Try.underlying3 k0
 obtain ⟨u, rfl, u1, u2⟩ := wf_int Try.underlying5 k2
 obtain ⟨sq, rfl, _⟩ := wf_int Try.underlying3 k3
 obtain ⟨ky, rfl, _⟩ := wf_string Try.underlying9 k4
 obtain ⟨ws, v, e1, e2, e3, e4⟩ := abs_writes (m := m) k1
 have e : absD Try.prog (.agg [.lit (.int .i64 kd), a1, .lit (.int .u8 u), .lit (.int .i64 sq), .lit (.string ky)]) 35 m = (I kd :: ((absD Try.prog a1 33 m).1 ++ [.int .u8 u, I sq, .string ⟨ky.toArray⟩]), (absD Try.prog a1 33 m).2) := by kernel_rfl
 rw [e, e1]
 have b1 : IntKind.u8.min = 0 := by decide
 have b2 : IntKind.u8.max = 255 := by decide
 rw [b1] at u1
 rw [b2] at u2
 exact ⟨⟨kd, ws, u, sq, ⟨ky.toArray⟩⟩, ⟨v, rfl, e3, e4, u1, u2⟩, rfl, e2⟩
theorem abs_acts {d : DataW H} (h : wfD Try.prog d 25) : ∃ (xs : List Ak) (v : Value), (absD Try.prog d 25 m).1 = [v] ∧ Nx m (absD Try.prog d 25 m).2 ∧ RdA (absD Try.prog d 25 m).2.next (absD Try.prog d 25 m).2 v xs := by
 obtain ⟨xs, v, h1, h2, h3, h4, h5⟩ := abs_slice_rep (m := m) (size := 5) rep_up abs_ak Try.underlying25 h
 exact ⟨xs, v, h1, h3, h4⟩
theorem acts_slice (h : RdA b m v xs) : ∃ p c, v = .slice p xs.length c := by
 obtain ⟨rows, h1, h2, _⟩ := h
 obtain ⟨p, c, e⟩ := h2.slice
 rw [h1] at e
 exact ⟨p, c, e⟩
theorem acts_at (h : RdA b m v xs) {i : Nat} {x : Ak} (hi : xs[i]? = some x) : ∃ a c wv, v = .slice (some a) xs.length c ∧ ldA m 5 (.pointer (some ⟨a.block, a.off + i * 5, none⟩)) = some (.val (.agg ⟨[I x.kind, wv, .int .u8 x.by_, I x.seq, .string x.key]⟩) m) ∧ RdW b m wv x.ws ∧ (∀ w ∈ x.ws, w.Wf) ∧ 0 ≤ x.by_ ∧ x.by_ ≤ 255 := by
 obtain ⟨rows, h1, ⟨p, c, rfl, hc, h2⟩, h3⟩ := h
 obtain ⟨r, r1, wv, rfl, r2, r3, r4⟩ := h3 i x hi
 obtain ⟨k1, a, o, rfl, k3, k4, k5⟩ := h2 i _ r1
 refine ⟨a, c, wv, by rw [h1], ?_, r2, r3, r4⟩
 have := xload_cells (m := m) (b := a.block) (off := a.off + i * 5) (n := 5) (r := [I x.kind, wv, .int .u8 x.by_, I x.seq, .string x.key]) k4 rfl (by omega) k5
 simp [ldA, this]
theorem RdA.fr {S : Nat → Prop} (h : RdA b m v xs) (hf : Fm S m m') (hb : b ≤ m.next) (hs : ∀ i, S i → b ≤ i) : RdA b m' v xs := by
 obtain ⟨rows, h1, h2, h3⟩ := h
 refine ⟨rows, h1, h2.fr hf hb hs, fun i x hx => ?_⟩
 obtain ⟨r, r1, wv, r2, r3, r4⟩ := h3 i x hx
 exact ⟨r, r1, wv, r2, r3.fr hf hb hs, r4⟩
theorem rdw_more (h : RdW b m v ws) {i : Nat} {x : Wt} (hi : ws[i]? = some x) : ∃ a c o, v = .slice (some a) ws.length c ∧ m.get a.block = some o ∧ o.cells[a.off + i * 5]? = some (.string x.key) ∧ o.cells[a.off + i * 5 + 2 + 1]? = some (.string x.text) := by
 obtain ⟨p, c, rfl, hc, h⟩ := h
 obtain ⟨h1, a, o, rfl, h3, h4, h5⟩ := h i x.row (by simp [hi])
 exact ⟨a, c, o, by simp, h4, by simpa using h5 0 (by omega), by simpa using h5 3 (by omega)⟩
def farW (ws : List Wt) : Bool := decide (30 < ws.length) || ws.any fun w => decide (200 < w.key.size) || decide (200 < w.text.size)
theorem far_spec (h : RdW b m v ws) : Ca 6 [v] m (.bool (farW ws)) m := by
 refine callX_of (call_go (F := _) rfl rfl fun Q hQ => ?_)
 obtain ⟨p, c, hv⟩ := rdw_slice h
 subst hv
 unfold farW at hQ
 by_cases h0 : (30 : Int) < (ws.length : Int)
 ·rw [decide_eq_true (by omega : 30 < ws.length)] at hQ
  simp only [symA, symB, X.put, X.look, Arg.ev, keepOf, restrict, initEnv, ↓reduceIte, reduceCtorEq, goInt, eq_self, h0]
  exact hQ _ _ _ rfl ⟨rfl, rfl⟩
 rw [decide_eq_false (by omega : ¬ 30 < ws.length), Bool.false_or] at hQ
 simp only [symA, symB, X.put, X.look, Arg.ev, keepOf, restrict, initEnv, ↓reduceIte, reduceCtorEq, goInt, eq_self, h0]
 refine loop_go (fun j e m' => m' = m ∧ ∃ i : Nat, i ≤ ws.length ∧ j = ws.length - i ∧ (ws.any fun w => decide (200 < w.key.size) || decide (200 < w.text.size)) = ((ws.drop i).any fun w => decide (200 < w.key.size) || decide (200 < w.text.size)) ∧ e = [(0, .slice p ws.length c), (3, I (i : Int))]) ws.length ⟨rfl, 0, by omega, rfl, rfl, rfl⟩ ?_
 rintro j e m1 N1 B1 hN hB ⟨rfl, i, hi, rfl, hr, rfl⟩
 by_cases hlt : i < ws.length
 ·have hlt' : (i : Int) < (ws.length : Int) := by omega
  obtain ⟨x, hx⟩ : ∃ x, ws[i]? = some x := ⟨_, List.getElem?_eq_getElem hlt⟩
  obtain ⟨a, c', o, hv, g1, g2, g3⟩ := rdw_more h hx
  cases hv
  have hd : ws.drop i = x :: ws.drop (i + 1) := by
   obtain ⟨_, rfl⟩ := List.getElem?_eq_some_iff.1 hx
   exact List.drop_eq_getElem_cons hlt
  rw [hd, List.any_cons] at hr
  have w1 : IntKind.i64.wrap ((i : Int) + 1) = ((i + 1 : Nat) : Int) := by rw [wrap_i64 (by omega) (by omega)]; omega
  by_cases k1 : (200 : Int) < (x.key.size : Int)
  ·rw [hr, decide_eq_true (by omega : 200 < x.key.size)] at hQ
   simp only [symA, symB, wantedX, X.put, X.look, Arg.ev, keepOf, restrict, evs, Nat.reduceEqDiff, ↓reduceIte, reduceCtorEq, goInt, eq_self, undef, hlt', hlt, g1, g2, Chn.calc_len, k1]
   exact hQ _ _ _ rfl ⟨rfl, rfl⟩
  ·by_cases k2 : (200 : Int) < (x.text.size : Int)
   ·rw [hr, decide_eq_true (by omega : 200 < x.text.size), Bool.or_true] at hQ
    simp only [symA, symB, wantedX, X.put, X.look, Arg.ev, keepOf, restrict, evs, Nat.reduceEqDiff, ↓reduceIte, reduceCtorEq, goInt, eq_self, hlt', hlt, g1, g2, g3, Chn.calc_len, k1, k2]
    exact hQ _ _ _ rfl ⟨rfl, rfl⟩
   ·rw [decide_eq_false (by omega : ¬ 200 < x.key.size), decide_eq_false (by omega : ¬ 200 < x.text.size), Bool.or_false, Bool.false_or] at hr
    simp only [symA, symB, wantedX, X.put, X.look, Arg.ev, keepOf, restrict, evs, Nat.reduceEqDiff, ↓reduceIte, reduceCtorEq, goInt, eq_self, hlt', hlt, g1, g2, g3, Chn.calc_len, k1, k2, w1]
    exact hN _ _ (ws.length - (i + 1)) (by omega) ⟨rfl, i + 1, by omega, rfl, hr, rfl⟩
 ·have hlt' : ¬ (i : Int) < (ws.length : Int) := by omega
  rw [List.drop_eq_nil_of_le (by omega : ws.length ≤ i), List.any_nil] at hr
  rw [hr] at hQ
  simp only [symA, symB, X.put, X.look, Arg.ev, keepOf, restrict, Nat.reduceEqDiff, ↓reduceIte, reduceCtorEq, goInt, eq_self, hlt']
  refine hB _ _ _ ?_
  simp only [symA, symB, X.put, X.look, Arg.ev, keepOf, restrict, ↓reduceIte, eq_self]
  exact hQ _ _ _ rfl ⟨rfl, rfl⟩
end
section
variable {b : Nat} {m m' : Mem} {lv : Value} {ls : List Int} {rs qt ms : Int}
theorem rnew_bad (h : RdL b m lv ls) (hb : b ≤ m.next) (hr : rightR ls rs qt ms = false) : ∃ m', Ca 5 [.agg ⟨row4 lv rs qt ms⟩] m (.tuple #[.pointer none, I 1]) m' ∧ Nx m m' := by
 obtain ⟨m1, hm1⟩ : ∃ m1, m.push { cells := row4 lv rs qt ms, rw := true, spare := none, kin := [] } = m1 := ⟨_, rfl⟩
 have g1 : m1.get m.next = some { cells := row4 lv rs qt ms, rw := true, spare := none, kin := [] } := by rw [← hm1, push_self]
 have f1 : Nx m m1 := hm1 ▸ .push
 have l4 : ldA m1 4 (.pointer (some ⟨m.next, 0, none⟩)) = some (.val (.agg ⟨row4 lv rs qt ms⟩) m1) := by simp [ldA, xload, g1]
 obtain ⟨m2, a1, a2⟩ := open_bad (seq := 0) (rs := rs) (qt := qt) (ms := ms) (h.fr f1 hb (fun _ h => h.elim)) (Nat.le_trans hb f1.next) (.inl hr)
 refine ⟨m2, callX_of (call_go (F := _) rfl rfl fun Q hQ => ?_), f1.comp a2 fun _ _ h => h⟩
 simp only [symA, symB, X.put, X.look, Arg.ev, keepOf, restrict, initEnv, Nat.reduceEqDiff, ↓reduceIte, eq_self, hm1]
 simp only [symA, symB, X.put, X.look, Arg.ev, keepOf, restrict, evs, Nat.reduceEqDiff, ↓reduceIte, eq_self, l4, goR_call a1]
 exact hQ _ _ _ rfl ⟨rfl, rfl⟩
theorem rnew_ok (h : RdL b m lv ls) (hb : b ≤ m.next) (hl : ls.length ≤ 1000) (hr : rightR ls rs qt ms = true) :
  ∃ m' σ r vl, Ca 5 [.agg ⟨row4 lv rs qt ms⟩] m (.tuple #[Pt r, I 0]) m' ∧ RoomB b σ m' r vl rs qt ms 0 0 [] [] 0 ∧ Nx m m' ∧ (∃ q c, vl = .slice q ls.length c) ∧ Rng.Small rs 0 0 [] ∧ (∀ j, j < m.next → σ j = .no) := by
 obtain ⟨m1, hm1⟩ : ∃ m1, m.push { cells := row4 lv rs qt ms, rw := true, spare := none, kin := [] } = m1 := ⟨_, rfl⟩
 have g1 : m1.get m.next = some { cells := row4 lv rs qt ms, rw := true, spare := none, kin := [] } := by rw [← hm1, push_self]
 have f1 : Nx m m1 := hm1 ▸ .push
 have l4 : ldA m1 4 (.pointer (some ⟨m.next, 0, none⟩)) = some (.val (.agg ⟨row4 lv rs qt ms⟩) m1) := by simp [ldA, xload, g1]
 have hms : 0 ≤ ms := by
  unfold rightR at hr
  simp only [Bool.and_eq_true, decide_eq_true_eq] at hr
  omega
 have hup := rd_up' (h.fr f1 hb (fun _ h => h.elim)) (Nat.le_trans hb f1.next)
 obtain ⟨m2, σ, r, vl, a1, a2, a3, a4, a5⟩ := open_ok (seq := 0) (rs := rs) (qt := qt) (ms := ms) hup (Nat.le_refl _) hl hr (by omega) hms
 refine ⟨m2, σ, r, vl, callX_of (call_go (F := _) rfl rfl fun Q hQ => ?_), ⟨a2.p, fun j hj => a2.low j (by have := f1.next; omega), Nat.le_trans hb (Nat.le_trans f1.next a3.next)⟩, f1.comp a3 fun _ _ h => h, a4, a5, fun j hj => a2.low j (Nat.lt_of_lt_of_le hj f1.next)⟩
 simp only [symA, symB, X.put, X.look, Arg.ev, keepOf, restrict, initEnv, Nat.reduceEqDiff, ↓reduceIte, eq_self, hm1]
 simp only [symA, symB, X.put, X.look, Arg.ev, keepOf, restrict, evs, Nat.reduceEqDiff, ↓reduceIte, eq_self, l4, goR_call a1]
 exact hQ _ _ _ rfl ⟨rfl, rfl⟩
end
end Go.Proofs.Ytnlmnejellipdaa
