/-
  Own work. PROVED HERE: WsetMost: whatever calls are made, the law returns true (never more than may be). No condition.
-/
import Derived.Test.YtecceimgpeookaaVC
import Derived.Test.YtecceimgpeookaaRows
import Derived.ProofKit
namespace Go.Proofs.Ytecceimgpeookaa
open Go Go.ChangeShapes Go.WideShapes Go.ChangeAt Go.RowKit X
set_option maxRecDepth 100000
set_option maxHeartbeats 2000000
attribute [local irreducible] X.Go' X.GoO X.GoR X.GoG X.GoC X.GoF X.GoFV X.GoFG X.Ex X.GoD X.GoDV X.GoDG
set_option linter.unusedVariables false
set_option linter.unusedSimpArgs false

def errA (x : Act) (s : List Wr × List (List Wr)) : Nat :=
  if x.kind = 1 then (writeR x.put s.1).1 else if x.kind = 2 then (writeR (delW x.key) s.1).1 else if x.kind = 3 then (markR s.1 s.2).2.1 else if x.kind = 4 then (backR x.n s.1 s.2).1 else 0
theorem write_err {w : Wr} {W : List Wr} (h : (writeR w W).1 ≠ 0) : (writeR w W).2 = W := by
  unfold writeR at h ⊢
  split
  · rfl
  · split
    · rfl
    · rename_i h1 h2; rw [if_neg h1, if_neg h2] at h; exact absurd rfl h
theorem err_same {x : Act} {W : List Wr} {R : List (List Wr)} (h : errA x (W, R) ≠ 0) : stepA x (W, R) = (W, R) := by
  unfold errA at h
  unfold stepA
  split
  · rename_i k; rw [if_pos k] at h; rw [write_err h]
  · rename_i k; rw [if_neg k] at h
    split
    · rename_i k; rw [if_pos k] at h; rw [write_err h]
    · rename_i k; rw [if_neg k] at h
      split
      · rename_i k; rw [if_pos k] at h
        unfold markR at h ⊢
        split
        · rfl
        · rename_i k; rw [if_neg k] at h; exact absurd rfl h
      · rename_i k; rw [if_neg k] at h
        split
        · rename_i k; rw [if_pos k] at h
          unfold backR at h ⊢
          split
          · rfl
          · rename_i k; rw [if_neg k] at h; exact absurd rfl h
        · rfl

theorem act_call {G : List Nat} {m : Mem} {s : Value} {W : List Wr} {R : List (List Wr)} {c : Nat} {x : Act} (h : SetP G m s W R c) (hc : c ≤ 700) (hx : x.Wf) :
    ∃ m' G', (SetP G' m' s (stepA x (W, R)).1 (stepA x (W, R)).2 (c + 1) ∧ Fm (· ∈ G) m m' ∧ ∀ i ∈ G', i ∈ G ∨ m.next ≤ i) ∧
      ((x.kind = 1 ∧ Ca 17 [s, .string x.key, .agg ⟨valL x.num x.text x.bits⟩] m (I (errA x (W, R) : Int)) m') ∨ (x.kind = 2 ∧ Ca 18 [s, .string x.key] m (I (errA x (W, R) : Int)) m') ∨
       (x.kind = 3 ∧ ∃ n : Int, Ca 13 [s] m (.tuple #[I n, I (errA x (W, R) : Int)]) m') ∨ (x.kind = 4 ∧ Ca 15 [s, I x.n] m (I (errA x (W, R) : Int)) m') ∨ ((x.kind ≠ 1 ∧ x.kind ≠ 2 ∧ x.kind ≠ 3 ∧ x.kind ≠ 4) ∧ m' = m ∧ errA x (W, R) = 0)) := by
  unfold stepA errA
  by_cases k1 : x.kind = 1
  · obtain ⟨m2, G2, p1, p2, p3, p4⟩ := put_spec (k := x.key) (n := x.num) (t := x.text) (b := x.bits) h (by omega) hx.bits
    simp only [if_pos k1]
    exact ⟨m2, G2, ⟨p2, p3, p4⟩, .inl ⟨k1, p1⟩⟩
  by_cases k2 : x.kind = 2
  · obtain ⟨m2, G2, p1, p2, p3, p4⟩ := del_call (k := x.key) h (by omega)
    simp only [if_neg k1, if_pos k2]
    exact ⟨m2, G2, ⟨p2, p3, p4⟩, .inr (.inl ⟨k2, p1⟩)⟩
  by_cases k3 : x.kind = 3
  · obtain ⟨m2, G2, p1, p2, p3, p4⟩ := mark_spec h (by omega)
    simp only [if_neg k1, if_neg k2, if_pos k3]
    exact ⟨m2, G2, ⟨p2.le (by omega), p3, p4⟩, .inr (.inr (.inl ⟨k3, _, p1⟩))⟩
  by_cases k4 : x.kind = 4
  · obtain ⟨m2, G2, p1, p2, p3, p4⟩ := back_spec (n := x.n) h (by omega)
    simp only [if_neg k1, if_neg k2, if_neg k3, if_pos k4]
    exact ⟨m2, G2, ⟨p2.le (by omega), p3, p4⟩, .inr (.inr (.inr (.inl ⟨k4, p1⟩)))⟩
  · simp only [if_neg k1, if_neg k2, if_neg k3, if_neg k4]
    exact ⟨m, G, ⟨h.le (by omega), .refl, fun i hi => .inl hi⟩, .inr (.inr (.inr (.inr ⟨⟨k1, k2, k3, k4⟩, rfl, trivial⟩)))⟩

abbrev ZA : List Value := [I 0, .string .empty, .bool false, .string .empty, U 0, I 0]
theorem ld_act {m : Mem} {p : Nat} {x : Act} (hg : m.get p = some { cells := x.row, rw := true, spare := none, kin := [] }) : ldA m 6 (.pointer (some ⟨p, 0, none⟩)) = some (.val (.agg ⟨x.row⟩) m) ∧ ldA m 3 (.pointer (some ⟨p, 2, none⟩)) = some (.val (.agg ⟨valL x.num x.text x.bits⟩) m) := by
  constructor <;> simp [ldA, xload, hg]

theorem wsetMost_run {b : Nat} {m : Mem} {l : Value} {xs : List Act} (h : RdAW b m l xs) (hb : b ≤ m.next) : Wc 4 [l] m fun v m' => v = .bool true := by
  refine call_go (F := _) rfl rfl fun Q hQ => ?_
  obtain ⟨m1, a1, hs1, f1, n1⟩ := new_spec (m := m)
  obtain ⟨p, c, rfl⟩ := act_slice h.rd
  have up : ∀ {x y : Mem}, Nx x y → Fm (b ≤ ·) x y := fun f => f.mono fun _ _ h => h.elim
  simp only [symA, go_opsd, symB, wantedX, X.put, X.look, Arg.ev, keepOf, restrict, evs, evO, initEnv, xres, tup, noTup, cls, quiet, Nat.reduceAdd, Nat.reduceEqDiff, ↓reduceIte, reduceCtorEq, goInt, exists_eq_left', eq_self, Int.reduceLT, Int.reduceLE, Int.reduceEq, Int.reduceNeg, Int.reduceAdd, Int.reduceSub, forall_const, ne_eq, undef, Nat.reducePow, Nat.reduceDiv, Nat.reduceMod, goR_call (awake_call _), goR_call a1]
  refine loop_go (fun j e m' => ∃ (i : Nat) (G : List Nat) (W : List Wr) (R : List (List Wr)), i ≤ xs.length ∧ i ≤ 120 ∧ j = xs.length - i ∧ SetP G m' (Pt m.next) W R i ∧ (∀ y ∈ G, b ≤ y) ∧ Fm (b ≤ ·) m m' ∧ e = [(0, .slice p xs.length c), (3, Pt m.next), (4, I (i : Int))]) xs.length ⟨0, [m.next], [], [], by omega, by omega, rfl, hs1, by simpa using hb, up f1, rfl⟩ ?_
  rintro j e m2 N' B' hN hB ⟨i, G, W, R, hi, h120, rfl, hS, hG, hf, rfl⟩
  by_cases hge : xs.length ≤ i
  · have hlt' : ¬ (i : Int) < (xs.length : Int) := by omega
    simp only [symA, go_opsd, symB, wantedX, X.put, X.look, Arg.ev, keepOf, restrict, evs, evO, initEnv, xres, tup, noTup, cls, quiet, Nat.reduceAdd, Nat.reduceEqDiff, ↓reduceIte, reduceCtorEq, goInt, exists_eq_left', eq_self, Int.reduceLT, Int.reduceLE, Int.reduceEq, Int.reduceNeg, Int.reduceAdd, Int.reduceSub, forall_const, ne_eq, undef, Nat.reducePow, Nat.reduceDiv, Nat.reduceMod, hlt']
    refine hB _ _ _ ?_
    simp only [symA, go_opsd, symB, wantedX, X.put, X.look, Arg.ev, keepOf, restrict, evs, evO, initEnv, xres, tup, noTup, cls, quiet, Nat.reduceAdd, Nat.reduceEqDiff, ↓reduceIte, reduceCtorEq, goInt, exists_eq_left', eq_self, Int.reduceLT, Int.reduceLE, Int.reduceEq, Int.reduceNeg, Int.reduceAdd, Int.reduceSub, forall_const, ne_eq, undef, Nat.reducePow, Nat.reduceDiv, Nat.reduceMod]
    exact hQ _ _ _ rfl rfl
  have hlt : i < xs.length := by omega
  have hlt' : (i : Int) < (xs.length : Int) := by omega
  by_cases hlm0 : ¬ (i : Int) < 120
  · have hlm : ¬ (i : Int) < 120 := hlm0
    simp only [symA, go_opsd, symB, wantedX, X.put, X.look, Arg.ev, keepOf, restrict, evs, evO, initEnv, xres, tup, noTup, cls, quiet, Nat.reduceAdd, Nat.reduceEqDiff, ↓reduceIte, reduceCtorEq, goInt, exists_eq_left', eq_self, Int.reduceLT, Int.reduceLE, Int.reduceEq, Int.reduceNeg, Int.reduceAdd, Int.reduceSub, forall_const, ne_eq, undef, Nat.reducePow, Nat.reduceDiv, Nat.reduceMod, hlt', hlm]
    refine hB _ _ _ ?_
    simp only [symA, go_opsd, symB, wantedX, X.put, X.look, Arg.ev, keepOf, restrict, evs, evO, initEnv, xres, tup, noTup, cls, quiet, Nat.reduceAdd, Nat.reduceEqDiff, ↓reduceIte, reduceCtorEq, goInt, exists_eq_left', eq_self, Int.reduceLT, Int.reduceLE, Int.reduceEq, Int.reduceNeg, Int.reduceAdd, Int.reduceSub, forall_const, ne_eq, undef, Nat.reducePow, Nat.reduceDiv, Nat.reduceMod]
    exact hQ _ _ _ rfl rfl
  have hlm : (i : Int) < 120 := by omega
  obtain ⟨x, hx⟩ : ∃ x, xs[i]? = some x := ⟨_, List.getElem?_eq_getElem hlt⟩
  have hxw := h.wf x (List.mem_of_getElem? hx)
  obtain ⟨a, c', hv, l6, _⟩ := act_at (h.rd.fr hf hb fun _ h => h) hx
  cases hv
  have w1 : IntKind.i64.wrap ((i : Int) + 1) = ((i + 1 : Nat) : Int) := by rw [wrap_i64 (by omega) (by omega)]; omega
  obtain ⟨m3, t1, t2, t3, t4⟩ := new_store (m := m2) (z := ZA) (row := x.row) (n := 6) rfl rfl (by omega)
  have hb2 : b ≤ m2.next := Nat.le_trans hb hf.next
  obtain ⟨m4, y1, y2⟩ := far_spec (m := m3) (x := x)
  have f34 : Nx m2 m4 := t3.comp y2 fun _ _ h => h
  have g4 := y2.get (by omega) (fun h => h) t2
  have hl3 := ld_act t2
  cases hfar : farA x with
  | true =>
    rw [hfar] at y1
    simp only [symA, go_opsd, symB, wantedX, X.put, X.look, Arg.ev, keepOf, restrict, evs, evO, initEnv, xres, tup, noTup, cls, quiet, Nat.reduceAdd, Nat.reduceEqDiff, ↓reduceIte, reduceCtorEq, goInt, exists_eq_left', eq_self, Int.reduceLT, Int.reduceLE, Int.reduceEq, Int.reduceNeg, Int.reduceAdd, Int.reduceSub, forall_const, ne_eq, undef, Nat.reducePow, Nat.reduceDiv, Nat.reduceMod, hlt', hlt, hlm, l6, t1, hl3.1, goR_call y1, w1]
    exact hN _ _ (xs.length - (i + 1)) (by omega) ⟨i + 1, G, W, R, by omega, by omega, rfl, (hS.nx f34).le (by omega), hG, hf.trans (up f34), rfl⟩
  | false =>
  rw [hfar] at y1
  obtain ⟨was, m5, F5, c1, c2, c3, c4⟩ := all_call (hS.nx f34)
  have f5 : Nx m2 m5 := f34.comp c4 fun _ _ h => h
  have hS5 := hS.nx f5
  have g5 := c4.get (by have := y2.next; omega) (fun h => h) g4
  have hmk := marks_call hS5
  have hl5 := ld_act g5
  obtain ⟨m6, G6, ⟨hS6, f6, n6⟩, hcall⟩ := act_call hS5 (by omega) hxw
  have hlt5 := hS5.lt
  have hGl := hS.lt
  have hF5G : ∀ y ∈ F5, y ∉ G := fun y hy q => by have := hGl y q; have := c3 y hy; have := f34.next; omega
  have was6 := c2.fr f6 hF5G
  obtain ⟨now, m7, F7, d1, d2, d3, d4⟩ := all_call hS6
  have hS7 := hS6.nx d4
  have was7 := was6.fr d4 fun _ _ h => h
  have hsame := sameW_call (was7.rd (by omega)) (d2.rd (by omega)) (by have := hS5.sort; omega)
  have hmk7 := marks_call hS7
  have hln7 := len_call hS7
  have hn6 : ∀ y ∈ G6, b ≤ y := fun y hy => (n6 y hy).elim (hG y) fun h => by have := f5.next; omega
  have f27 : Fm (b ≤ ·) m2 m7 := (up f5).comp ((f6.mono fun y _ hy => hG y hy).comp (up d4) fun _ _ h => h) fun _ _ h => h
  obtain ⟨qw, cw, hvw⟩ := own_slice was7 (by omega)
  obtain ⟨qn, cn, hvn⟩ := own_slice d2 (by omega)
  rw [List.length_map] at hvw hvn
  obtain ⟨hso, h16, hR4⟩ := hS7.sort
  have hrd := d2.rd (by omega)
  generalize hW' : (stepA x (W, R)).1 = W' at *
  generalize hR' : (stepA x (W, R)).2 = R' at *
  have e16 : ¬ (16 : Int) < (W'.length : Int) := by omega
  have e4 : ¬ (4 : Int) < (R'.length : Int) := by omega
  have fin : ∃ k3 : Nat, True := ⟨0, trivial⟩
  subst hvw hvn
  by_cases hec : errA x (W, R) = 0
  case' pos =>
    rw [hec, Int.natCast_zero] at hcall
    rcases hcall with ⟨k, p1⟩ | ⟨k, p1⟩ | ⟨k, n, p1⟩ | ⟨k, p1⟩ | ⟨⟨k1, k2, k3, k4⟩, rfl, _⟩
    case' inl => simp only [symA, go_opsd, symB, wantedX, X.put, X.look, Arg.ev, keepOf, restrict, evs, evO, initEnv, xres, tup, noTup, cls, quiet, Nat.reduceAdd, Nat.reduceEqDiff, ↓reduceIte, reduceCtorEq, goInt, exists_eq_left', eq_self, Int.reduceLT, Int.reduceLE, Int.reduceEq, Int.reduceNeg, Int.reduceAdd, Int.reduceSub, forall_const, ne_eq, undef, Nat.reducePow, Nat.reduceDiv, Nat.reduceMod, hlt', hlt, hlm, l6, t1, hl3.1, goR_call y1, goR_call c1, goR_call hmk, g5, hl5.2, k, goR_call p1, goR_call d1]
    case' inr.inl => simp only [symA, go_opsd, symB, wantedX, X.put, X.look, Arg.ev, keepOf, restrict, evs, evO, initEnv, xres, tup, noTup, cls, quiet, Nat.reduceAdd, Nat.reduceEqDiff, ↓reduceIte, reduceCtorEq, goInt, exists_eq_left', eq_self, Int.reduceLT, Int.reduceLE, Int.reduceEq, Int.reduceNeg, Int.reduceAdd, Int.reduceSub, forall_const, ne_eq, undef, Nat.reducePow, Nat.reduceDiv, Nat.reduceMod, hlt', hlt, hlm, l6, t1, hl3.1, goR_call y1, goR_call c1, goR_call hmk, g5, k, goR_call p1, goR_call d1]
    case' inr.inr.inl => simp only [symA, go_opsd, symB, wantedX, X.put, X.look, Arg.ev, keepOf, restrict, evs, evO, initEnv, xres, tup, noTup, cls, quiet, Nat.reduceAdd, Nat.reduceEqDiff, ↓reduceIte, reduceCtorEq, goInt, exists_eq_left', eq_self, Int.reduceLT, Int.reduceLE, Int.reduceEq, Int.reduceNeg, Int.reduceAdd, Int.reduceSub, forall_const, ne_eq, undef, Nat.reducePow, Nat.reduceDiv, Nat.reduceMod, hlt', hlt, hlm, l6, t1, hl3.1, goR_call y1, goR_call c1, goR_call hmk, g5, k, goR_call p1, goR_call d1]
    case' inr.inr.inr.inl => simp only [symA, go_opsd, symB, wantedX, X.put, X.look, Arg.ev, keepOf, restrict, evs, evO, initEnv, xres, tup, noTup, cls, quiet, Nat.reduceAdd, Nat.reduceEqDiff, ↓reduceIte, reduceCtorEq, goInt, exists_eq_left', eq_self, Int.reduceLT, Int.reduceLE, Int.reduceEq, Int.reduceNeg, Int.reduceAdd, Int.reduceSub, forall_const, ne_eq, undef, Nat.reducePow, Nat.reduceDiv, Nat.reduceMod, hlt', hlt, hlm, l6, t1, hl3.1, goR_call y1, goR_call c1, goR_call hmk, g5, k, goR_call p1, goR_call d1]
    case' inr.inr.inr.inr => simp only [symA, go_opsd, symB, wantedX, X.put, X.look, Arg.ev, keepOf, restrict, evs, evO, initEnv, xres, tup, noTup, cls, quiet, Nat.reduceAdd, Nat.reduceEqDiff, ↓reduceIte, reduceCtorEq, goInt, exists_eq_left', eq_self, Int.reduceLT, Int.reduceLE, Int.reduceEq, Int.reduceNeg, Int.reduceAdd, Int.reduceSub, forall_const, ne_eq, undef, Nat.reducePow, Nat.reduceDiv, Nat.reduceMod, hlt', hlt, hlm, l6, t1, hl3.1, goR_call y1, goR_call c1, goR_call hmk, g5, k1, k2, k3, k4, goR_call d1]
  case' neg =>
    have hst := err_same hec
    have eW : W' = W := by rw [← hW', hst]
    have eR : R' = R := by rw [← hR', hst]
    have hec2 : ¬ (errA x (W, R) : Int) = 0 := by omega
    have hss : decide (W = W') = true := decide_eq_true eW.symm
    have hRR : (R'.length : Int) = (R.length : Int) := by rw [eR]
    rw [hss] at hsame
    rcases hcall with ⟨k, p1⟩ | ⟨k, p1⟩ | ⟨k, n, p1⟩ | ⟨k, p1⟩ | ⟨⟨k1, k2, k3, k4⟩, rfl, h0⟩
    case' inl => simp only [symA, go_opsd, symB, wantedX, X.put, X.look, Arg.ev, keepOf, restrict, evs, evO, initEnv, xres, tup, noTup, cls, quiet, Nat.reduceAdd, Nat.reduceEqDiff, ↓reduceIte, reduceCtorEq, goInt, exists_eq_left', eq_self, Int.reduceLT, Int.reduceLE, Int.reduceEq, Int.reduceNeg, Int.reduceAdd, Int.reduceSub, forall_const, ne_eq, undef, Nat.reducePow, Nat.reduceDiv, Nat.reduceMod, hlt', hlt, hlm, l6, t1, hl3.1, goR_call y1, goR_call c1, goR_call hmk, g5, hl5.2, k, goR_call p1, goR_call d1, hec2, goR_call hsame, goR_call hmk7, hRR]
    case' inr.inl => simp only [symA, go_opsd, symB, wantedX, X.put, X.look, Arg.ev, keepOf, restrict, evs, evO, initEnv, xres, tup, noTup, cls, quiet, Nat.reduceAdd, Nat.reduceEqDiff, ↓reduceIte, reduceCtorEq, goInt, exists_eq_left', eq_self, Int.reduceLT, Int.reduceLE, Int.reduceEq, Int.reduceNeg, Int.reduceAdd, Int.reduceSub, forall_const, ne_eq, undef, Nat.reducePow, Nat.reduceDiv, Nat.reduceMod, hlt', hlt, hlm, l6, t1, hl3.1, goR_call y1, goR_call c1, goR_call hmk, g5, k, goR_call p1, goR_call d1, hec2, goR_call hsame, goR_call hmk7, hRR]
    case' inr.inr.inl => simp only [symA, go_opsd, symB, wantedX, X.put, X.look, Arg.ev, keepOf, restrict, evs, evO, initEnv, xres, tup, noTup, cls, quiet, Nat.reduceAdd, Nat.reduceEqDiff, ↓reduceIte, reduceCtorEq, goInt, exists_eq_left', eq_self, Int.reduceLT, Int.reduceLE, Int.reduceEq, Int.reduceNeg, Int.reduceAdd, Int.reduceSub, forall_const, ne_eq, undef, Nat.reducePow, Nat.reduceDiv, Nat.reduceMod, hlt', hlt, hlm, l6, t1, hl3.1, goR_call y1, goR_call c1, goR_call hmk, g5, k, goR_call p1, goR_call d1, hec2, goR_call hsame, goR_call hmk7, hRR]
    case' inr.inr.inr.inl => simp only [symA, go_opsd, symB, wantedX, X.put, X.look, Arg.ev, keepOf, restrict, evs, evO, initEnv, xres, tup, noTup, cls, quiet, Nat.reduceAdd, Nat.reduceEqDiff, ↓reduceIte, reduceCtorEq, goInt, exists_eq_left', eq_self, Int.reduceLT, Int.reduceLE, Int.reduceEq, Int.reduceNeg, Int.reduceAdd, Int.reduceSub, forall_const, ne_eq, undef, Nat.reducePow, Nat.reduceDiv, Nat.reduceMod, hlt', hlt, hlm, l6, t1, hl3.1, goR_call y1, goR_call c1, goR_call hmk, g5, k, goR_call p1, goR_call d1, hec2, goR_call hsame, goR_call hmk7, hRR]
    case' inr.inr.inr.inr => exact absurd h0 hec
  all_goals
    refine loop_go (fun j e m' => m' = m7 ∧ ∃ q : Nat, 1 ≤ q ∧ j = W'.length - q ∧ e = [(0, .slice (some a) xs.length c), (3, Pt m.next), (4, I (i : Int)), (9, .slice qn W'.length cn), (10, I (q : Int))]) (W'.length - 1) ⟨rfl, 1, by omega, rfl, rfl⟩ ?_
    rintro j e m8 N3 B3 hN3 hB3 ⟨rfl, q, hq1, rfl, rfl⟩
    by_cases hlq : q < W'.length
    · have hlq' : (q : Int) < (W'.length : Int) := by omega
      obtain ⟨q, rfl⟩ : ∃ q0, q = q0 + 1 := ⟨q - 1, by omega⟩
      obtain ⟨z1, hz1⟩ : ∃ z, W'[q]? = some z := ⟨_, List.getElem?_eq_getElem (by omega)⟩
      obtain ⟨z2, hz2⟩ : ∃ z, W'[q + 1]? = some z := ⟨_, List.getElem?_eq_getElem hlq⟩
      have hql : q < W'.length := by omega
      have hzz := sortW_lt hso (by omega) hz1 hz2
      have w2 : IntKind.i64.wrap (((q + 1 : Nat) : Int) - 1) = (q : Int) := by rw [wrap_i64 (by omega) (by omega)]; omega
      have w3 : IntKind.i64.wrap (((q + 1 : Nat) : Int) + 1) = ((q + 1 + 1 : Nat) : Int) := by rw [wrap_i64 (by omega) (by omega)]; omega
      obtain ⟨a1, e1, hv1, ⟨o1, hg1, hk1, _⟩, _, _⟩ := rdW_at hrd hz1
      obtain ⟨a2, e2, hv2, ⟨o2, hg2, hk2, _⟩, _, _⟩ := rdW_at hrd hz2
      cases hv1
      cases hv2
      rw [hg1] at hg2
      cases hg2
      simp only [symA, go_opsd, symB, wantedX, X.put, X.look, Arg.ev, keepOf, restrict, evs, evO, initEnv, xres, tup, noTup, cls, quiet, Nat.reduceAdd, Nat.reduceEqDiff, ↓reduceIte, reduceCtorEq, goInt, exists_eq_left', eq_self, Int.reduceLT, Int.reduceLE, Int.reduceEq, Int.reduceNeg, Int.reduceAdd, Int.reduceSub, forall_const, ne_eq, undef, Nat.reducePow, Nat.reduceDiv, Nat.reduceMod, hlq', hlq, w2, hql, hg1, hk1, hk2, bin_sgeq, hzz, w3]
      exact hN3 _ _ (W'.length - (q + 1 + 1)) (by omega) ⟨rfl, q + 1 + 1, by omega, rfl, rfl⟩
    · have hlq' : ¬ (q : Int) < (W'.length : Int) := by omega
      simp only [symA, go_opsd, symB, wantedX, X.put, X.look, Arg.ev, keepOf, restrict, evs, evO, initEnv, xres, tup, noTup, cls, quiet, Nat.reduceAdd, Nat.reduceEqDiff, ↓reduceIte, reduceCtorEq, goInt, exists_eq_left', eq_self, Int.reduceLT, Int.reduceLE, Int.reduceEq, Int.reduceNeg, Int.reduceAdd, Int.reduceSub, forall_const, ne_eq, undef, Nat.reducePow, Nat.reduceDiv, Nat.reduceMod, hlq']
      refine hB3 _ _ _ ?_
      simp only [symA, go_opsd, symB, wantedX, X.put, X.look, Arg.ev, keepOf, restrict, evs, evO, initEnv, xres, tup, noTup, cls, quiet, Nat.reduceAdd, Nat.reduceEqDiff, ↓reduceIte, reduceCtorEq, goInt, exists_eq_left', eq_self, Int.reduceLT, Int.reduceLE, Int.reduceEq, Int.reduceNeg, Int.reduceAdd, Int.reduceSub, forall_const, ne_eq, undef, Nat.reducePow, Nat.reduceDiv, Nat.reduceMod, e16, goR_call hln7, goR_call hmk7, e4, w1]
      exact hN _ _ (xs.length - (i + 1)) (by omega) ⟨i + 1, G6, W', R', by omega, by omega, rfl, hS7, hn6, hf.trans f27, rfl⟩

theorem wsetMost_args {H : Type} (ds : List (DataW H)) (h : wfEach Try.prog ds Try.f4.params.toList) : ∃ (d0 : DataW H), ds = [d0] ∧ wfD Try.prog d0 22 := by
  rw [Try.params4] at h
  obtain ⟨d0, rfl, h0⟩ := wf_one h
  exact ⟨d0, rfl, h0⟩

theorem wsetMost_lifted (os : Os) (started : os.Started) (H : Type) (enc : TypeId × Value → H) :
    ReturnsInHanded {} Try.checked os 4 .any (Rows.wsetMostSpec.pre6 enc Try.prog Try.f4 Rows.wsetMostRow.domain false) (Rows.wsetMostSpec.post enc Try.prog Try.f4 false true false false) := by
  refine returnsInHanded_of_change (C := Try.checked) own started (by kernel_rfl) Try.func4
    (ChangeSpec.witness6 (enc := enc) (C := Try.checked) false ⟨#[], #[.slice none 0 0], []⟩ 8 (by kernel_rfl) (by kernel_rfl) (by kernel_rfl) (by kernel_rfl)) ?_
  intro W base args ds gs before hval0 hW hcnd _
  refine law_contract mixed tabK_is (f := 4) rfl (k := 10) (by rw [← List.all_eq_true]; kernel_rfl) (fun t ht => ?_) laid rfl (by kernel_rfl) rfl ?_ ?_ H enc W base args ds gs before hval0 hW
  · have : (Try.f4.params.toList.all fun t => Try.prog.readableRec t && decide (t < Try.prog.types.size)) = true := by kernel_rfl
    have := List.all_eq_true.1 this t ht
    simp only [Bool.and_eq_true, decide_eq_true_eq] at this
    exact this
  · intro H ds hd
    obtain ⟨_, rfl, _⟩ := wsetMost_args ds hd
    rfl
  · intro H ds hd
    obtain ⟨d0, rfl, h0⟩ := wsetMost_args ds hd
    obtain ⟨x0, v0, a0, b0, c0⟩ := abs_acts (m := Mem.empty) h0
    obtain ⟨M0, hM0⟩ : ∃ M, (absD Try.prog d0 22 Mem.empty).2 = M := ⟨_, rfl⟩
    rw [hM0] at b0 c0
    have ha : absArgs Try.prog [d0] Try.f4.params.toList Mem.empty = ([argVal Try.prog 22 (absD Try.prog d0 22 Mem.empty).1], (absD Try.prog d0 22 Mem.empty).2) := by kernel_rfl
    rw [ha, hM0, a0]
    have q22 : ∀ v, argVal Try.prog 22 [v] = v := fun v => by kernel_rfl
    rw [q22]
    obtain ⟨v, m', ⟨k, hk⟩, rfl⟩ := wsetMost_run  (b := M0.next) c0 (Nat.le_refl _)
    exact ⟨k, m', hk⟩

theorem wsetMost_holds : Rows.WsetMostSaid :=
  OpenClaim.holds_of_wide 4 Try.f4 rfl rfl rfl rfl rfl rfl rfl ⟨rfl, rfl, rfl, rfl, rfl⟩ rfl rfl rfl rfl rfl (by kernel_rfl) Try.func4 (by kernel_rfl)
    (of_decide_eq_true (by kernel_rfl)) (by unfold Func.isWrapper; first | (rw [if_pos (by decide +kernel)]; kernel_rfl) | (rw [if_neg (by decide +kernel)]; exact ⟨rfl, rfl⟩))
    (fun os started H enc _ => wsetMost_lifted os started H enc)


end Go.Proofs.Ytecceimgpeookaa
