/-
  Own work. PROVED HERE: SessNil: whatever the request and the number, the law returns true (a session that is not there does nothing); then its tied card. No condition.
-/
import Derived.Test.YtlhinicapcdikaaGreatDoorXA
import Derived.Test.YtlhinicapcdikaaGreatDoorXOwn2
import Derived.Test.YtlhinicapcdikaaGreatDoorRows
import Derived.Test.YtlhinicapcdikaaGreatDoorXT
import Derived.Test.YtlhinicapcdikaaGreatDoorTie
import Derived.Test.YtlhinicapcdikaaGreatDoorCards
import Derived.ProofKit
import Derived.LaidMore
import Derived.Lay
import Derived.SevenTiedAt
import Derived.Stop.Joined
namespace Go.Proofs.YtlhinicapcdikaaGreatDoor
open Go Go.ChangeShapes Go.WideShapes Go.ChangeAt Go.RowKit X
set_option maxRecDepth 100000
set_option linter.unusedVariables false
set_option linter.unusedSimpArgs false

theorem calc_len {m : Mem} {t : ByteArray} {n : List Bool} : calcE Tryz.prog .len [9] 3 n [.string t] m = some (.val (I (t.size : Nat)) m) := by kernel_rfl

abbrev rowQ (k w : Int) (L : Value) (t : Int) (mi : Bool) (ro : Int) (key : ByteArray) (nu : Bool) (tx : ByteArray) (bi : Int) (fr to : ByteArray) (r2 n : Int) (Cd : Value) : List Value :=
  [I k, I w, L, U t, .bool mi, I ro, .string key, .bool nu, .string tx, U bi, .string fr, .string to, I r2, I n, Cd]

section
variable {k w t ro bi r2 n : Int} {mi nu : Bool} {key tx fr to : ByteArray} {p pp : Option Addr} {ln c pn pc : Nat}
theorem far_spec {m : Mem} : ∃ b, Ca 8 [.agg ⟨rowQ k w (.slice p ln c) t mi ro key nu tx bi fr to r2 n (.slice pp pn pc)⟩] m (.bool b) (m.push { cells := rowQ k w (.slice p ln c) t mi ro key nu tx bi fr to r2 n (.slice pp pn pc), rw := true, spare := none, kin := [] }) := by
  by_cases h1 : (60 : Int) < (ln : Int)
  · refine ⟨true, callX_of (call_go (F := _) rfl rfl fun Q hQ => ?_)⟩
    simp only [symA, go_opsd, symB, wantedX, X.put, X.look, Arg.ev, keepOf, restrict, evs, evO, initEnv, xres, tup, noTup, cls, quiet, Nat.reduceAdd, Nat.reduceEqDiff, ↓reduceIte, reduceCtorEq, goInt, exists_eq_left', eq_self, Int.reduceLT, Int.reduceLE, Int.reduceEq, Int.reduceNeg, Int.reduceAdd, Int.reduceSub, forall_const, ne_eq, undef, Nat.reducePow, Nat.reduceDiv, Nat.reduceMod, h1]
    exact hQ _ _ _ rfl ⟨rfl, rfl⟩
  by_cases h2 : (200 : Int) < (key.size : Int)
  · refine ⟨true, callX_of (call_go (F := _) rfl rfl fun Q hQ => ?_)⟩
    simp only [symA, go_opsd, symB, wantedX, X.put, X.look, Arg.ev, keepOf, restrict, evs, evO, initEnv, xres, tup, noTup, cls, quiet, Nat.reduceAdd, Nat.reduceEqDiff, ↓reduceIte, reduceCtorEq, goInt, exists_eq_left', eq_self, Int.reduceLT, Int.reduceLE, Int.reduceEq, Int.reduceNeg, Int.reduceAdd, Int.reduceSub, forall_const, ne_eq, undef, Nat.reducePow, Nat.reduceDiv, Nat.reduceMod, h1, calc_len, h2]
    exact hQ _ _ _ rfl ⟨rfl, rfl⟩
  by_cases h3 : (200 : Int) < (tx.size : Int)
  · refine ⟨true, callX_of (call_go (F := _) rfl rfl fun Q hQ => ?_)⟩
    simp only [symA, go_opsd, symB, wantedX, X.put, X.look, Arg.ev, keepOf, restrict, evs, evO, initEnv, xres, tup, noTup, cls, quiet, Nat.reduceAdd, Nat.reduceEqDiff, ↓reduceIte, reduceCtorEq, goInt, exists_eq_left', eq_self, Int.reduceLT, Int.reduceLE, Int.reduceEq, Int.reduceNeg, Int.reduceAdd, Int.reduceSub, forall_const, ne_eq, undef, Nat.reducePow, Nat.reduceDiv, Nat.reduceMod, h1, calc_len, h2, h3]
    exact hQ _ _ _ rfl ⟨rfl, rfl⟩
  by_cases h4 : (200 : Int) < (fr.size : Int)
  · refine ⟨true, callX_of (call_go (F := _) rfl rfl fun Q hQ => ?_)⟩
    simp only [symA, go_opsd, symB, wantedX, X.put, X.look, Arg.ev, keepOf, restrict, evs, evO, initEnv, xres, tup, noTup, cls, quiet, Nat.reduceAdd, Nat.reduceEqDiff, ↓reduceIte, reduceCtorEq, goInt, exists_eq_left', eq_self, Int.reduceLT, Int.reduceLE, Int.reduceEq, Int.reduceNeg, Int.reduceAdd, Int.reduceSub, forall_const, ne_eq, undef, Nat.reducePow, Nat.reduceDiv, Nat.reduceMod, h1, calc_len, h2, h3, h4]
    exact hQ _ _ _ rfl ⟨rfl, rfl⟩
  by_cases h5 : (200 : Int) < (to.size : Int)
  · refine ⟨true, callX_of (call_go (F := _) rfl rfl fun Q hQ => ?_)⟩
    simp only [symA, go_opsd, symB, wantedX, X.put, X.look, Arg.ev, keepOf, restrict, evs, evO, initEnv, xres, tup, noTup, cls, quiet, Nat.reduceAdd, Nat.reduceEqDiff, ↓reduceIte, reduceCtorEq, goInt, exists_eq_left', eq_self, Int.reduceLT, Int.reduceLE, Int.reduceEq, Int.reduceNeg, Int.reduceAdd, Int.reduceSub, forall_const, ne_eq, undef, Nat.reducePow, Nat.reduceDiv, Nat.reduceMod, h1, calc_len, h2, h3, h4, h5]
    exact hQ _ _ _ rfl ⟨rfl, rfl⟩
  · refine ⟨decide ((100 : Int) < (pn : Int)), callX_of (call_go (F := _) rfl rfl fun Q hQ => ?_)⟩
    simp only [symA, go_opsd, symB, wantedX, X.put, X.look, Arg.ev, keepOf, restrict, evs, evO, initEnv, xres, tup, noTup, cls, quiet, Nat.reduceAdd, Nat.reduceEqDiff, ↓reduceIte, reduceCtorEq, goInt, exists_eq_left', eq_self, Int.reduceLT, Int.reduceLE, Int.reduceEq, Int.reduceNeg, Int.reduceAdd, Int.reduceSub, forall_const, ne_eq, undef, Nat.reducePow, Nat.reduceDiv, Nat.reduceMod, h1, calc_len, h2, h3, h4, h5]
    exact hQ _ _ _ rfl ⟨rfl, rfl⟩

abbrev Z12 : List Value := [I 0, U 0, .bool false, .bool false, .string .empty, U 0, .slice none 0 0, I 0, U 0, U 0, U 0, U 0]
theorem buildR {m : Mem} : buildE m Z12 [(0, 1), (1, 1), (2, 1), (3, 3), (6, 1), (7, 5)] [] = some (.val (.agg ⟨Z12⟩) m) := by kernel_rfl
theorem res_move {e : Env} {m : Mem} {q : Nat} (h1 : X.look e 4 = some (I 0)) (h2 : X.look e 5 = some (.pointer (some ⟨q, 0, none⟩))) (h3 : X.look e 6 = some (I 2)) (h4 : m.get q = some { cells := Z12, rw := true, spare := none, kin := [] }) :
    xres e m [.tmp 4, .cell true 12 5, .tmp 6] = some [I 0, .agg ⟨Z12⟩, I 2] := by
  simp [xres, h1, h2, h3, xload, h4]
theorem move_spec {m : Mem} {i : Int} : ∃ m', Ca 9 [.pointer none, I i] m (.tuple #[I 0, .agg ⟨Z12⟩, I 2]) m' ∧ Nx m m' := by
  obtain ⟨m2, t1, t2, t3, t4⟩ := new_store (m := m) (z := Z12) (row := Z12) (n := 12) rfl rfl (by omega)
  refine ⟨m2, callX_of (call_go (F := _) rfl rfl fun Q hQ => ?_), t3⟩
  simp only [symA, go_opsd, symB, wantedX, X.put, X.look, Arg.ev, keepOf, restrict, evs, evO, initEnv, xres, tup, noTup, cls, quiet, Nat.reduceAdd, Nat.reduceEqDiff, ↓reduceIte, reduceCtorEq, goInt, exists_eq_left', eq_self, Int.reduceLT, Int.reduceLE, Int.reduceEq, Int.reduceNeg, Int.reduceAdd, Int.reduceSub, forall_const, ne_eq, undef, Nat.reducePow, Nat.reduceDiv, Nat.reduceMod, buildR, t1]
  exact hQ _ _ _ (by exact res_move rfl rfl rfl t2) ⟨rfl, rfl⟩
theorem new_spec (m : Mem) {i : Int} : Ca 10 [.pointer none, I i] m (.tuple #[.pointer none, I 2]) m := ⟨100, by kernel_rfl⟩
theorem ask_spec (m : Mem) {l : List Value} : Ca 11 [.pointer none, .agg ⟨l⟩] m (I 2) (m.push { cells := l, rw := true, spare := none, kin := [] }) := ⟨100, by kernel_rfl⟩
theorem n56 (m : Mem) : Ca 56 [.slice none 0 0, .slice none 0 0] m (.bool true) m := ⟨100, by kernel_rfl⟩
theorem e25 {m : Mem} : binE Tryz.prog .eql 25 (.agg ⟨[.bool false, .string .empty, U 0]⟩) (.agg ⟨[.bool false, .string .empty, U 0]⟩) m = some (.val (.bool true) m) := by kernel_rfl
theorem e37 {m : Mem} : binE Tryz.prog .eql 37 (.agg ⟨[I 0, U 0, U 0, U 0, U 0]⟩) (.agg ⟨[I 0, U 0, U 0, U 0, U 0]⟩) m = some (.val (.bool true) m) := by kernel_rfl
theorem alike_spec {m : Mem} : ∃ m', Ca 12 [.agg ⟨Z12⟩, .agg ⟨Z12⟩] m (.bool true) m' ∧ Nx m m' := by
  obtain ⟨m1, hm1⟩ : ∃ m1, m.push { cells := Z12, rw := true, spare := none, kin := [] } = m1 := ⟨_, rfl⟩
  have g1 : m1.get m.next = some { cells := Z12, rw := true, spare := none, kin := [] } := by rw [← hm1, push_self]
  have n1 : m1.next = m.next + 1 := by rw [← hm1]; simp
  have f1 : Nx m m1 := hm1 ▸ .push
  obtain ⟨m2, hm2⟩ : ∃ m2, m1.push { cells := Z12, rw := true, spare := none, kin := [] } = m2 := ⟨_, rfl⟩
  have g2 : m2.get m1.next = some { cells := Z12, rw := true, spare := none, kin := [] } := by rw [← hm2, push_self]
  have f2 : Nx m1 m2 := hm2 ▸ .push
  have g3 := f2.get (by omega) (fun h => h) g1
  have l1 : ldA m2 3 (.pointer (some ⟨m.next, 3, none⟩)) = some (.val (.agg ⟨[.bool false, .string .empty, U 0]⟩) m2) := by simp [ldA, xload, g3]
  have l2 : ldA m2 3 (.pointer (some ⟨m1.next, 3, none⟩)) = some (.val (.agg ⟨[.bool false, .string .empty, U 0]⟩) m2) := by simp [ldA, xload, g2]
  have l3 : ldA m2 5 (.pointer (some ⟨m.next, 7, none⟩)) = some (.val (.agg ⟨[I 0, U 0, U 0, U 0, U 0]⟩) m2) := by simp [ldA, xload, g3]
  have l4 : ldA m2 5 (.pointer (some ⟨m1.next, 7, none⟩)) = some (.val (.agg ⟨[I 0, U 0, U 0, U 0, U 0]⟩) m2) := by simp [ldA, xload, g2]
  have b1 : binE Tryz.prog .eql 4 (.bool false) (.bool false) m2 = some (.val (.bool true) m2) := by kernel_rfl
  refine ⟨m2, callX_of (call_go (F := _) rfl rfl fun Q hQ => ?_), f1.comp f2 fun _ _ h => h⟩
  simp only [symA, go_opsd, symB, wantedX, X.put, X.look, Arg.ev, keepOf, restrict, evs, evO, initEnv, xres, tup, noTup, cls, quiet, Nat.reduceAdd, Nat.reduceEqDiff, ↓reduceIte, reduceCtorEq, goInt, exists_eq_left', eq_self, Int.reduceLT, Int.reduceLE, Int.reduceEq, Int.reduceNeg, Int.reduceAdd, Int.reduceSub, forall_const, ne_eq, undef, Nat.reducePow, Nat.reduceDiv, Nat.reduceMod, hm1, hm2, g2, g3, l1, l2, l3, l4, e25, e37, b1, goR_call (n56 _)]
  exact hQ _ _ _ rfl ⟨rfl, rfl⟩
theorem n13 (m : Mem) : Ca 13 [.pointer none] m (.bool false) m := ⟨100, by kernel_rfl⟩
theorem n14 (m : Mem) : Ca 14 [.pointer none] m (I 0) m := ⟨100, by kernel_rfl⟩
theorem n15 (m : Mem) : Ca 15 [.pointer none] m (.bool false) m := ⟨100, by kernel_rfl⟩
theorem n16 (m : Mem) : Ca 16 [.pointer none] m (I 0) m := ⟨100, by kernel_rfl⟩
theorem n17 (m : Mem) : Ca 17 [.pointer none] m (.slice none 0 0) m := ⟨100, by kernel_rfl⟩
theorem n18 (m : Mem) : Ca 18 [.pointer none] m (.bool false) m := ⟨100, by kernel_rfl⟩
theorem n19 (m : Mem) : Ca 19 [.pointer none] m (I 0) m := ⟨100, by kernel_rfl⟩
theorem n20 (m : Mem) : Ca 20 [.pointer none] m (.bool false) m := ⟨100, by kernel_rfl⟩

theorem sessNil_run {m : Mem} {i : Int} : Wc 3 [.agg ⟨rowQ k w (.slice p ln c) t mi ro key nu tx bi fr to r2 n (.slice pp pn pc)⟩, I i] m fun r _ => r = .bool true := by
  refine call_go (F := _) rfl rfl fun Q hQ => ?_
  obtain ⟨m0, hm0⟩ : ∃ m0, m.push { cells := rowQ k w (.slice p ln c) t mi ro key nu tx bi fr to r2 n (.slice pp pn pc), rw := true, spare := none, kin := [] } = m0 := ⟨_, rfl⟩
  have g0 : m0.get m.next = some { cells := rowQ k w (.slice p ln c) t mi ro key nu tx bi fr to r2 n (.slice pp pn pc), rw := true, spare := none, kin := [] } := by rw [← hm0, push_self]
  have n0 : m0.next = m.next + 1 := by rw [← hm0]; simp
  have lA : ldA m0 15 (.pointer (some ⟨m.next, 0, none⟩)) = some (.val (.agg ⟨rowQ k w (.slice p ln c) t mi ro key nu tx bi fr to r2 n (.slice pp pn pc)⟩) m0) := by simp [ldA, xload, g0]
  obtain ⟨b, k1⟩ := far_spec (m := m0) (k := k) (w := w) (t := t) (ro := ro) (bi := bi) (r2 := r2) (n := n) (mi := mi) (nu := nu) (key := key) (tx := tx) (fr := fr) (to := to) (p := p) (pp := pp) (ln := ln) (c := c) (pn := pn) (pc := pc)
  obtain ⟨m1, hm1⟩ : ∃ m1, m0.push { cells := rowQ k w (.slice p ln c) t mi ro key nu tx bi fr to r2 n (.slice pp pn pc), rw := true, spare := none, kin := [] } = m1 := ⟨_, rfl⟩
  rw [hm1] at k1
  have f1 : Nx m0 m1 := hm1 ▸ .push
  cases b with
  | true =>
    simp only [symA, go_opsd, symB, wantedX, X.put, X.look, Arg.ev, keepOf, restrict, evs, evO, initEnv, xres, tup, noTup, cls, quiet, Nat.reduceAdd, Nat.reduceEqDiff, ↓reduceIte, reduceCtorEq, goInt, exists_eq_left', eq_self, Int.reduceLT, Int.reduceLE, Int.reduceEq, Int.reduceNeg, Int.reduceAdd, Int.reduceSub, forall_const, ne_eq, undef, Nat.reducePow, Nat.reduceDiv, Nat.reduceMod, goR_call (awake_call _), hm0, lA, goR_call k1]
    exact hQ _ _ _ rfl rfl
  | false =>
    obtain ⟨m2, q1, q2⟩ := move_spec (m := m1) (i := i)
    obtain ⟨m3, t1, t2, t3, t4⟩ := new_store (m := m2) (z := Z12) (row := Z12) (n := 12) rfl rfl (by omega)
    have f3 : Nx m0 m3 := (f1.comp q2 fun _ _ h => h).comp t3 fun _ _ h => h
    have g3 := f3.get (by omega) (fun h => h) g0
    have lB : ldA m3 15 (.pointer (some ⟨m.next, 0, none⟩)) = some (.val (.agg ⟨rowQ k w (.slice p ln c) t mi ro key nu tx bi fr to r2 n (.slice pp pn pc)⟩) m3) := by simp [ldA, xload, g3]
    obtain ⟨m4, hm4⟩ : ∃ m4, m3.push { cells := rowQ k w (.slice p ln c) t mi ro key nu tx bi fr to r2 n (.slice pp pn pc), rw := true, spare := none, kin := [] } = m4 := ⟨_, rfl⟩
    have f4 : Nx m3 m4 := hm4 ▸ .push
    have as1 := ask_spec m3 (l := rowQ k w (.slice p ln c) t mi ro key nu tx bi fr to r2 n (.slice pp pn pc))
    rw [hm4] at as1
    have g4 := f4.get (by omega) (fun h => h) t2
    have lC : ldA m4 12 (.pointer (some ⟨m2.next, 0, none⟩)) = some (.val (.agg ⟨Z12⟩) m4) := by simp [ldA, xload, g4]
    obtain ⟨m5, al, _⟩ := alike_spec (m := m4)
    simp only [symA, go_opsd, symB, wantedX, X.put, X.look, Arg.ev, keepOf, restrict, evs, evO, initEnv, xres, tup, noTup, cls, quiet, Nat.reduceAdd, Nat.reduceEqDiff, ↓reduceIte, reduceCtorEq, goInt, exists_eq_left', eq_self, Int.reduceLT, Int.reduceLE, Int.reduceEq, Int.reduceNeg, Int.reduceAdd, Int.reduceSub, forall_const, ne_eq, undef, Nat.reducePow, Nat.reduceDiv, Nat.reduceMod, goR_call (awake_call _), hm0, lA, goR_call k1, goR_call q1, t1, goR_call (new_spec _), lB, goR_call as1, lC, buildR, goR_call al, goR_call (n13 _), goR_call (n14 _), goR_call (n15 _), goR_call (n16 _), goR_call (n17 _), goR_call (n18 _), goR_call (n19 _), goR_call (n20 _)]
    exact hQ _ _ _ rfl rfl
end

/-- A slice, whatever it holds. -/
theorem abs_any {H : Type} {P : Program} {d : DataW H} {t e : TypeId} {m : Mem} (hu : P.underlying t = some (.slice e)) (h : wfD P d t) : ∃ p n c, (absD P d t m).1 = [.slice p n c] := by
  cases d with
  | nil => exact ⟨none, 0, 0, by simp [absD]⟩
  | slice es sp =>
    by_cases h0 : es.length + sp.length = 0
    · exact ⟨_, 0, 0, by simp only [absD, hu]; rw [if_pos h0]⟩
    · exact ⟨_, _, _, by simp only [absD, hu]; rw [if_neg h0]⟩
  | lit l => cases l <;> simp [wfD, hu] at h
  | agg ps => simp [wfD, hu] at h
  | ptr _ => simp [wfD] at h
  | iface _ _ => simp [wfD] at h
  | map _ => simp [wfD] at h
  | held _ => simp [wfD] at h

theorem wf_val {H : Type} (d : DataW H) (h : wfD Tryz.prog d 25) : ∃ (n : Bool) (t : List UInt8) (u : Int), d = .agg [.lit (.bool n), .lit (.string t), .lit (.int .u64 u)] := by
  obtain ⟨ys, rfl, k2⟩ := wf_struct Tryz.underlying25 h
  change wfEach Tryz.prog ys [4, 9, 23] at k2
  obtain ⟨b0, r, rfl, j0, k2⟩ := wf_more k2
  obtain ⟨b1, r, rfl, j1, k2⟩ := wf_more k2
  obtain ⟨b2, rfl, j2⟩ := wf_one k2
  obtain ⟨n, rfl⟩ := wf_bool Tryz.underlying4 j0
  obtain ⟨t, rfl, _⟩ := wf_string Tryz.underlying9 j1
  obtain ⟨u, rfl, _⟩ := wf_int Tryz.underlying23 j2
  exact ⟨n, t, u, rfl⟩
theorem wf_range {H : Type} (d : DataW H) (h : wfD Tryz.prog d 27) : ∃ (a b : List UInt8) (u : Int), d = .agg [.lit (.string a), .lit (.string b), .lit (.int .i64 u)] := by
  obtain ⟨ys, rfl, k2⟩ := wf_struct Tryz.underlying27 h
  change wfEach Tryz.prog ys [9, 9, 3] at k2
  obtain ⟨b0, r, rfl, j0, k2⟩ := wf_more k2
  obtain ⟨b1, r, rfl, j1, k2⟩ := wf_more k2
  obtain ⟨b2, rfl, j2⟩ := wf_one k2
  obtain ⟨n, rfl, _⟩ := wf_string Tryz.underlying9 j0
  obtain ⟨t, rfl, _⟩ := wf_string Tryz.underlying9 j1
  obtain ⟨u, rfl, _⟩ := wf_int Tryz.underlying3 j2
  exact ⟨n, t, u, rfl⟩

theorem sessNil_args {H : Type} (ds : List (DataW H)) (h : wfEach Tryz.prog ds Tryz.f3.params.toList) : ∃ (k w t ro bi r2 n i : Int) (mi nu : Bool) (key tx fr to : List UInt8) (L Cd : DataW H),
    ds = [.agg [.lit (.int .i64 k), .lit (.int .i64 w), L, .lit (.int .u64 t), .lit (.bool mi), .lit (.int .i64 ro), .lit (.string key), .agg [.lit (.bool nu), .lit (.string tx), .lit (.int .u64 bi)], .agg [.lit (.string fr), .lit (.string to), .lit (.int .i64 r2)], .lit (.int .i64 n), Cd], .lit (.int .i64 i)] ∧ wfD Tryz.prog L 22 ∧ wfD Tryz.prog Cd 28 := by
  rw [Tryz.params3] at h
  obtain ⟨d0, r, rfl, h0, h⟩ := wf_more h
  obtain ⟨d1, rfl, h1⟩ := wf_one h
  obtain ⟨i, rfl, _⟩ := wf_int Tryz.underlying3 h1
  obtain ⟨xs, rfl, h0⟩ := wf_struct Tryz.underlying30 h0
  change wfEach Tryz.prog xs [3, 3, 22, 23, 4, 3, 9, 25, 27, 3, 28] at h0
  obtain ⟨a0, r, rfl, k0, h0⟩ := wf_more h0
  obtain ⟨a1, r, rfl, k1, h0⟩ := wf_more h0
  obtain ⟨a2, r, rfl, k2, h0⟩ := wf_more h0
  obtain ⟨a3, r, rfl, k3, h0⟩ := wf_more h0
  obtain ⟨a4, r, rfl, k4, h0⟩ := wf_more h0
  obtain ⟨a5, r, rfl, k5, h0⟩ := wf_more h0
  obtain ⟨a6, r, rfl, k6, h0⟩ := wf_more h0
  obtain ⟨a7, r, rfl, k7, h0⟩ := wf_more h0
  obtain ⟨a8, r, rfl, k8, h0⟩ := wf_more h0
  obtain ⟨a9, r, rfl, k9, h0⟩ := wf_more h0
  obtain ⟨a10, rfl, k10⟩ := wf_one h0
  obtain ⟨k, rfl, _⟩ := wf_int Tryz.underlying3 k0
  obtain ⟨w, rfl, _⟩ := wf_int Tryz.underlying3 k1
  obtain ⟨t, rfl, _⟩ := wf_int Tryz.underlying23 k3
  obtain ⟨mi, rfl⟩ := wf_bool Tryz.underlying4 k4
  obtain ⟨ro, rfl, _⟩ := wf_int Tryz.underlying3 k5
  obtain ⟨key, rfl, _⟩ := wf_string Tryz.underlying9 k6
  obtain ⟨nu, tx, bi, rfl⟩ := wf_val _ k7
  obtain ⟨fr, to, r2, rfl⟩ := wf_range _ k8
  obtain ⟨n, rfl, _⟩ := wf_int Tryz.underlying3 k9
  exact ⟨k, w, t, ro, bi, r2, n, i, mi, nu, key, tx, fr, to, a2, a10, rfl, k2, k10⟩

theorem sessNil_lifted (os : Os) (started : os.Started) (H : Type) (enc : TypeId × Value → H) :
    ReturnsInHanded {} Tryz.checked os 3 .any (fun w args => (Rows.sessNilSpec.pre enc Tryz.prog Tryz.f3 Rows.sessNilRow.domain false w args ∧ laidMetH Tryz.prog Rows.sessNilRow.laid w) ∧ sizedMet enc Tryz.prog Tryz.f3 (OpenSpec.ofChange Rows.sessNilSpec) false w args)
      (Rows.sessNilSpec.post enc Tryz.prog Tryz.f3 false true false false) := by
  refine returnsInHanded_of_change_and (C := Tryz.checked) (X := fun w _ => laidMetH Tryz.prog Rows.sessNilRow.laid w) (fun _ _ _ hh h => h.of_heap hh) own started (by kernel_rfl) Tryz.func3
    (ChangeSpec.witness_shaped (enc := enc) (C := Tryz.checked) (os := os) (X := fun w _ => laidMetH Tryz.prog Rows.sessNilRow.laid w) false (World.laidAll Tryz.prog os Rows.sessNilRow.laid) #[.agg #[I 0, I 0, .slice none 0 0, U 0, .bool false, I 0, .string .empty, .bool false, .string .empty, U 0, .string .empty, .string .empty, I 0, I 0, .slice none 0 0], I 0] 8 (World.laidAll_os _ _ _)
      (World.shaped_of_ZipB (by kernel_rfl) (by kernel_rfl)) (by kernel_rfl) (by kernel_rfl) (by kernel_rfl)
      (by rw [MakeChecks.laidMetH_plain _ _ _ (by kernel_rfl)]; exact laidMet_laidAll _ (by kernel_rfl) (by kernel_rfl))) ?_
  intro W base args ds gs before hval0 hW hcnd _ _ _
  refine law_contract mixed tabK_is (f := 3) rfl (k := 10) (by rw [← List.all_eq_true]; kernel_rfl) (fun t ht => ?_) laid rfl (by kernel_rfl) rfl ?_ ?_ H enc W base args ds gs before hval0 hW
  · have : (Tryz.f3.params.toList.all fun t => Tryz.prog.readableRec t && decide (t < Tryz.prog.types.size)) = true := by kernel_rfl
    have := List.all_eq_true.1 this t ht
    simp only [Bool.and_eq_true, decide_eq_true_eq] at this
    exact this
  · intro H ds hd
    obtain ⟨_, _, _, _, _, _, _, _, _, _, _, _, _, _, _, _, rfl, _⟩ := sessNil_args ds hd
    rfl
  · intro H ds hd
    obtain ⟨k, w, t, ro, bi, r2, n, i, mi, nu, key, tx, fr, to, L, Cd, rfl, hL, hP⟩ := sessNil_args ds hd
    have ha : absArgs Tryz.prog [(.agg [.lit (.int .i64 k), .lit (.int .i64 w), L, .lit (.int .u64 t), .lit (.bool mi), .lit (.int .i64 ro), .lit (.string key), .agg [.lit (.bool nu), .lit (.string tx), .lit (.int .u64 bi)], .agg [.lit (.string fr), .lit (.string to), .lit (.int .i64 r2)], .lit (.int .i64 n), Cd] : DataW H), .lit (.int .i64 i)] Tryz.f3.params.toList Mem.empty
        = ([Value.agg (([I k, I w] ++ ((absD Tryz.prog L 22 Mem.empty).1 ++ ([U t, .bool mi, I ro, .string ⟨key.toArray⟩, .bool nu, .string ⟨tx.toArray⟩, U bi, .string ⟨fr.toArray⟩, .string ⟨to.toArray⟩, I r2, I n] ++ ((absD Tryz.prog Cd 28 (absD Tryz.prog L 22 Mem.empty).2).1 ++ [])))).toArray), I i], (absD Tryz.prog Cd 28 (absD Tryz.prog L 22 Mem.empty).2).2) := by kernel_rfl
    obtain ⟨p, ln, c, h1⟩ := abs_any (m := Mem.empty) Tryz.underlying22 hL
    obtain ⟨pp, pn, pc, k1⟩ := abs_any (m := (absD Tryz.prog L 22 Mem.empty).2) Tryz.underlying28 hP
    rw [ha, h1, k1]
    obtain ⟨v, m', ⟨j, hj⟩, rfl⟩ := sessNil_run (m := (absD Tryz.prog Cd 28 (absD Tryz.prog L 22 Mem.empty).2).2) (k := k) (w := w) (t := t) (ro := ro) (bi := bi) (r2 := r2) (n := n) (mi := mi) (nu := nu) (key := ⟨key.toArray⟩) (tx := ⟨tx.toArray⟩) (fr := ⟨fr.toArray⟩) (to := ⟨to.toArray⟩) (p := p) (pp := pp) (ln := ln) (c := c) (pn := pn) (pc := pc) (i := i)
    exact ⟨j, m', hj⟩

theorem named3 : Tryz.prog.funcNamed Rows.sessNilRow.func = some 3 := by kernel_rfl
theorem looksF : true = Tryz.prog.looks [] := by kernel_rfl
theorem mainF : Tryz.prog.mainIs = some (true, "2507d6c30b4f23482b7b2f7369f0f69deace66440a6a47ec679371f8bd82bc98".toList) := by kernel_rfl
theorem wfF : Rows.sessNilRow.wfByText (OpenSpec.ofChange Rows.sessNilSpec) = true := by kernel_rfl
theorem sessNil_holds : Rows.SessNilSaid :=
  OpenClaim.holds_of_wide 3 Tryz.f3 rfl rfl rfl rfl rfl rfl rfl ⟨rfl, rfl, rfl, rfl, rfl⟩ rfl rfl rfl rfl rfl named3 Tryz.func3 closedF
    (of_decide_eq_true (by kernel_rfl)) (by unfold Func.isWrapper; first | (rw [if_pos (by decide +kernel)]; kernel_rfl) | (rw [if_neg (by decide +kernel)]; exact ⟨rfl, rfl⟩))
    (fun os started H enc _ => sessNil_lifted os started H enc)

theorem sessNil_card : Rows.SessNilCardSaid :=
  Claim7.holds_tied_plain_at .later [] [.data, .pinned] true (true, "2507d6c30b4f23482b7b2f7369f0f69deace66440a6a47ec679371f8bd82bc98") true sessNil_holds (fun _ h => by cases h) wfF (fun _ h => by cases h) sessNil_row_tie rfl ⟨rfl, rfl⟩ mainF rfl
    (fun f fn hf hfn => by
      obtain rfl : f = 3 := Option.some.inj (named3.symm.trans hf) |>.symm
      obtain rfl : fn = Tryz.f3 := (Option.some.inj (Tryz.func3.symm.trans hfn)).symm
      exact ⟨looksF, fun j t ht => by
        rw [Tryz.params3] at ht
        have hm : t ∈ [30, 3] := by simpa using Array.mem_of_getElem? ht
        have hall : ([30, 3].all fun u => !Tryz.prog.wantsStandIn u) = true := by kernel_rfl
        exact (show Tryz.prog.wantsStandIn t = false by simpa using List.all_eq_true.1 hall t hm)⟩)
    goesF

end Go.Proofs.YtlhinicapcdikaaGreatDoor
