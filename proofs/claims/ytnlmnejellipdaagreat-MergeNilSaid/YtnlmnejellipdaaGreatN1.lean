/-
  Own work. A new room is empty, and no key is found in it.
-/
import Derived.Test.YtnlmnejellipdaaGreatN0
namespace Go.Proofs.YtnlmnejellipdaaGreat
open Go X
set_option maxRecDepth 100000
attribute [local irreducible] X.Go' X.GoO X.GoR X.GoG X.GoC X.GoF X.GoFV X.GoFG X.Ex X.GoD X.GoDV X.GoDG
set_option linter.unusedVariables false
set_option linter.unusedSimpArgs false

section
variable {m m' : Mem} {r p : Nat} {key : ByteArray}
abbrev Sn : Value := .slice none 0 0
abbrev row4 : List Value := [Sn, I 16, I 100000, I 1000]
abbrev cel (l : List Value) : XObj := { cells := l, rw := true, spare := none, kin := [] }
/-- A room without keys. -/
def Emp (m : Mem) (r : Nat) : Prop := ∃ g t, m.get r = some (cel [Sn, I 16, I 100000, I 1000, Pt g, Pt t, Sn, Sn, I 0, I 0, I 0]) ∧ m.get t = some (cel [Sn, Sn, I (-1), I 0]) ∧ r < m.next ∧ t < m.next
theorem Emp.fr (h : Emp m r) (hf : Nx m m') : Emp m' r := by
  obtain ⟨g, t, h1, h2, h3, h4⟩ := h
  have := hf.next
  exact ⟨g, t, hf.get h3 (fun x => x) h1, hf.get h4 (fun x => x) h2, by omega, by omega⟩

theorem fld_store {cs : List Value} {i : Nat} {x : Value} (hg : m.get p = some { cells := cs, rw := true, spare := none, kin := [] }) (hi : i < cs.length) (h1 : x.cells = #[x]) (h2 : noTup x = true) :
    ∃ m', storeE m 1 (.pointer (some ⟨p, i, none⟩)) x = some (.skip m') ∧ m'.get p = some { cells := cs.set i x, rw := true, spare := none, kin := [] } ∧ Fm (· = p) m m' ∧ m'.next = m.next := by
  have hst := xstore_own (off := i) (vs := [x]) hg rfl (by show i + 1 ≤ cs.length; omega)
  refine ⟨m.set p { cells := cs.set i x, rw := true, spare := none, kin := [] }, ?_, by rw [Mem.get_set, if_pos rfl], Fm.set rfl, by simp⟩
  have e1 : x.cells.size = 1 := by rw [h1]; rfl
  have e2 : x.cells.toList = [x] := by rw [h1]
  simp only [storeE]
  rw [if_pos ⟨e1, h2⟩, if_neg (by decide), e2, hst]
  rfl

theorem lab_nil : Ca 83 [Sn] m (.bool true) m := ⟨100, by kernel_rfl⟩
theorem win1 : Ca 74 [I 16, I 1, I 16] m (.bool true) m := ⟨100, by kernel_rfl⟩
theorem win2 : Ca 74 [I 100000, I 0, I 1048576] m (.bool true) m := ⟨100, by kernel_rfl⟩
theorem win3 : Ca 74 [I 1000, I 1, I 1073741824] m (.bool true) m := ⟨100, by kernel_rfl⟩
theorem win4 : Ca 74 [I 0, I 0, I 1000] m (.bool true) m := ⟨100, by kernel_rfl⟩
theorem clo_nil : Ca 91 [Sn] m Sn m := ⟨100, by kernel_rfl⟩
theorem ring_new : Ca 99 [I 16, I 0] m (.tuple #[Pt m.next, I 0]) (m.push (cel [I 16, I 0, I 0, Sn])) := ⟨100, by kernel_rfl⟩
theorem tree_new : Ca 100 [] m (Pt m.next) (m.push (cel [Sn, Sn, I (-1), I 0])) := ⟨100, by kernel_rfl⟩
theorem ld4 {p : Nat} (g : m.get p = some (cel row4)) : ldA m 4 (.pointer (some ⟨p, 0, none⟩)) = some (.val (.agg ⟨row4⟩) m) := by simp [ldA, xload, g]

theorem rr_ok : ∃ m', Ca 29 [.agg ⟨row4⟩] m (.bool true) m' ∧ Nx m m' := by
  obtain ⟨m1, hm1⟩ : ∃ m1, m.push (cel row4) = m1 := ⟨_, rfl⟩
  have g1 : m1.get m.next = some (cel row4) := by rw [← hm1, push_self]
  refine ⟨m1, callX_of (call_go (F := _) rfl rfl fun Q hQ => ?_), hm1 ▸ .push⟩
  simp only [symA, go_opsd, symB, wantedX, X.put, X.look, Arg.ev, keepOf, restrict, evs, evO, initEnv, xres, tup, noTup, cls, quiet, Nat.reduceAdd, Nat.reduceEqDiff, ↓reduceIte, reduceCtorEq, goInt, exists_eq_left', eq_self, Int.reduceLT, Int.reduceLE, Int.reduceEq, Int.reduceNeg, Int.reduceAdd, Int.reduceSub, forall_const, ne_eq, undef, Nat.reducePow, Nat.reduceDiv, Nat.reduceMod, hm1, g1, goR_call (lab_nil (m := m1)), goR_call (win1 (m := m1)), goR_call (win2 (m := m1)), goR_call (win3 (m := m1))]
  exact hQ _ _ _ rfl ⟨rfl, rfl⟩

theorem set_spec : ∃ m', Ca 42 [] m (.agg ⟨row4⟩) m' ∧ Nx m m' := by
  obtain ⟨m2, s1, s2, s3, _⟩ := new_store (m := m) (z := [Sn, I 0, I 0, I 0]) (row := row4) (n := 4) rfl rfl (by omega)
  refine ⟨m2, callX_of (call_go (F := _) rfl rfl fun Q hQ => ?_), s3⟩
  have B : ∀ m, buildE m [Sn, I 0, I 0, I 0] [(0, 1), (1, 1), (2, 1), (3, 1)] [(1, I 16), (2, I 100000), (3, I 1000)] = some (.val (.agg ⟨row4⟩) m) := fun m => by kernel_rfl
  simp only [symA, go_opsd, symB, wantedX, X.put, X.look, Arg.ev, keepOf, restrict, evs, evO, initEnv, xres, tup, noTup, cls, quiet, Nat.reduceAdd, Nat.reduceEqDiff, ↓reduceIte, reduceCtorEq, goInt, exists_eq_left', eq_self, Int.reduceLT, Int.reduceLE, Int.reduceEq, Int.reduceNeg, Int.reduceAdd, Int.reduceSub, forall_const, ne_eq, undef, Nat.reducePow, Nat.reduceDiv, Nat.reduceMod, B, s1]
  exact hQ _ _ _ (by simp [xres, X.look, xload, s2]; rfl) ⟨rfl, rfl⟩

theorem open_ok : ∃ m' r, Ca 57 [.agg ⟨row4⟩, I 0] m (.tuple #[Pt r, I 0]) m' ∧ Nx m m' ∧ Emp m' r := by
  obtain ⟨m1, hm1⟩ : ∃ m1, m.push (cel row4) = m1 := ⟨_, rfl⟩
  have g1 : m1.get m.next = some (cel row4) := by rw [← hm1, push_self]
  have n1 : m1.next = m.next + 1 := by rw [← hm1]; simp
  have f1 : Nx m m1 := hm1 ▸ .push
  obtain ⟨m2, a1, a2⟩ := rr_ok (m := m1)
  have x2 := a2.next
  have g2 := a2.get (by omega) (fun h => h) g1
  obtain ⟨m3, hm3⟩ : ∃ m3, m2.push (cel [I 16, I 0, I 0, Sn]) = m3 := ⟨_, rfl⟩
  have b1 := ring_new (m := m2)
  rw [hm3] at b1
  have f3 : Nx m2 m3 := hm3 ▸ .push
  have x3 := f3.next
  have g3 := f3.get (by omega) (fun h => h) g2
  obtain ⟨m5, s1, s2, s3, s4⟩ := fld_store (i := 0) (x := Sn) g3 (by simp) rfl rfl
  have g5 : m5.get m.next = some (cel row4) := s2
  obtain ⟨m6, hm6⟩ : ∃ m6, m5.push (cel [Sn, Sn, I (-1), I 0]) = m6 := ⟨_, rfl⟩
  have d1 := tree_new (m := m5)
  rw [hm6] at d1
  have f6 : Nx m5 m6 := hm6 ▸ .push
  have x6 := f6.next
  have n6 : m6.next = m5.next + 1 := by rw [← hm6]; simp
  have t6 : m6.get m5.next = some (cel [Sn, Sn, I (-1), I 0]) := by rw [← hm6, push_self]
  obtain ⟨m7, hm7⟩ : ∃ m7, m6.push (cel [Sn, I 16, I 100000, I 1000, Pt m2.next, Pt m5.next, Sn, Sn, I 0, I 0, I 0]) = m7 := ⟨_, rfl⟩
  have f7 : Nx m6 m7 := hm7 ▸ .push
  have n7 : m7.next = m6.next + 1 := by rw [← hm7]; simp
  have fa : Nx m m5 := ((f1.comp a2 fun _ _ h => h).comp f3 fun _ _ h => h).comp s3 fun j hj (q : j = m.next) => by omega
  have g6 := f6.get (by omega) (fun h => h) g5
  have g7 := f7.get (by omega) (fun h => h) g6
  refine ⟨m7, m6.next, callX_of (call_go (F := _) rfl rfl fun Q hQ => ?_), (fa.comp f6 fun _ _ h => h).comp f7 fun _ _ h => h, m2.next, m5.next, by rw [← hm7, push_self], f7.get (by omega) (fun h => h) t6, by omega, by omega⟩
  have B : buildE m6 [Sn, I 0, I 0, I 0, .pointer none, .pointer none, Sn, Sn, I 0, I 0, I 0] [(0, 4), (4, 1), (5, 1), (6, 1), (7, 1), (8, 1), (9, 1), (10, 1)] [(0, .agg ⟨row4⟩), (1, Pt m2.next), (2, Pt m5.next)] = some (.val (.agg ⟨[Sn, I 16, I 100000, I 1000, Pt m2.next, Pt m5.next, Sn, Sn, I 0, I 0, I 0]⟩) m6) := by kernel_rfl
  simp only [symA, go_opsd, symB, wantedX, X.put, X.look, Arg.ev, keepOf, restrict, evs, evO, initEnv, xres, tup, noTup, cls, quiet, Nat.reduceAdd, Nat.reduceEqDiff, ↓reduceIte, reduceCtorEq, goInt, exists_eq_left', eq_self, Int.reduceLT, Int.reduceLE, Int.reduceEq, Int.reduceNeg, Int.reduceAdd, Int.reduceSub, forall_const, ne_eq, undef, Nat.reducePow, Nat.reduceDiv, Nat.reduceMod, hm1]
  simp only [symA, go_opsd, symB, wantedX, X.put, X.look, Arg.ev, keepOf, restrict, evs, evO, initEnv, xres, tup, noTup, cls, quiet, Nat.reduceAdd, Nat.reduceEqDiff, ↓reduceIte, reduceCtorEq, goInt, exists_eq_left', eq_self, Int.reduceLT, Int.reduceLE, Int.reduceEq, Int.reduceNeg, Int.reduceAdd, Int.reduceSub, forall_const, ne_eq, undef, Nat.reducePow, Nat.reduceDiv, Nat.reduceMod, ld4 g1, ld4 g5, ld4 g6, ld4 g7, goR_call a1, g2, goR_call (win4 (m := m2)), goR_call b1, g3, goR_call (clo_nil (m := m3)), s1, goDV3c d1, B, hm7]
  exact hQ _ _ _ rfl ⟨rfl, rfl⟩

theorem new_ok : ∃ m' r, Ca 10 [.agg ⟨row4⟩] m (.tuple #[Pt r, I 0]) m' ∧ Nx m m' ∧ Emp m' r := by
  obtain ⟨m1, hm1⟩ : ∃ m1, m.push (cel row4) = m1 := ⟨_, rfl⟩
  have g1 : m1.get m.next = some (cel row4) := by rw [← hm1, push_self]
  have f1 : Nx m m1 := hm1 ▸ .push
  obtain ⟨m2, r, a1, a2, a3⟩ := open_ok (m := m1)
  refine ⟨m2, r, callX_of (call_go (F := _) rfl rfl fun Q hQ => ?_), f1.comp a2 fun _ _ h => h, a3⟩
  simp only [symA, go_opsd, symB, wantedX, X.put, X.look, Arg.ev, keepOf, restrict, evs, evO, initEnv, xres, tup, noTup, cls, quiet, Nat.reduceAdd, Nat.reduceEqDiff, ↓reduceIte, reduceCtorEq, goInt, exists_eq_left', eq_self, Int.reduceLT, Int.reduceLE, Int.reduceEq, Int.reduceNeg, Int.reduceAdd, Int.reduceSub, forall_const, ne_eq, undef, Nat.reducePow, Nat.reduceDiv, Nat.reduceMod, hm1]
  simp only [symA, go_opsd, symB, wantedX, X.put, X.look, Arg.ev, keepOf, restrict, evs, evO, initEnv, xres, tup, noTup, cls, quiet, Nat.reduceAdd, Nat.reduceEqDiff, ↓reduceIte, reduceCtorEq, goInt, exists_eq_left', eq_self, Int.reduceLT, Int.reduceLE, Int.reduceEq, Int.reduceNeg, Int.reduceAdd, Int.reduceSub, forall_const, ne_eq, undef, Nat.reducePow, Nat.reduceDiv, Nat.reduceMod, ld4 g1, goR_call a1]
  exact hQ _ _ _ rfl ⟨rfl, rfl⟩

/-! ## Keys -/
theorem isNil_ptr' {a : Option Addr} {neg : Bool} : isNilE m .ptr neg (.pointer a) = some (.val (.bool (a.isNone != neg)) m) := (rfl)
theorem some_no {t : Nat} (h : m.get t = some (cel [Sn, Sn, I (-1), I 0])) : Ca 118 [Pt t] m (.bool false) m := by
  refine callX_of (call_go (F := _) rfl rfl fun Q hQ => ?_)
  simp only [symA, go_opsd, symB, wantedX, X.put, X.look, Arg.ev, keepOf, restrict, evs, evO, initEnv, xres, tup, noTup, cls, quiet, Nat.reduceAdd, Nat.reduceEqDiff, ↓reduceIte, reduceCtorEq, goInt, exists_eq_left', eq_self, Int.reduceLT, Int.reduceLE, Int.reduceEq, Int.reduceNeg, Int.reduceAdd, Int.reduceSub, forall_const, ne_eq, undef, Nat.reducePow, Nat.reduceDiv, Nat.reduceMod, isNil_ptr', h]
  exact hQ _ _ _ rfl ⟨rfl, rfl⟩
theorem tSeek_no {t : Nat} (h : m.get t = some (cel [Sn, Sn, I (-1), I 0])) : Ca 124 [Pt t, .string key] m (.tuple #[.string .empty, I 0, .bool false]) m := by
  refine callX_of (call_go (F := _) rfl rfl fun Q hQ => ?_)
  simp only [symA, go_opsd, symB, wantedX, X.put, X.look, Arg.ev, keepOf, restrict, evs, evO, initEnv, xres, tup, noTup, cls, quiet, Nat.reduceAdd, Nat.reduceEqDiff, ↓reduceIte, reduceCtorEq, goInt, exists_eq_left', eq_self, Int.reduceLT, Int.reduceLE, Int.reduceEq, Int.reduceNeg, Int.reduceAdd, Int.reduceSub, forall_const, ne_eq, undef, Nat.reducePow, Nat.reduceDiv, Nat.reduceMod, goR_call (some_no h)]
  exact hQ _ _ _ rfl ⟨rfl, rfl⟩
theorem tAfter_no {t : Nat} (h : m.get t = some (cel [Sn, Sn, I (-1), I 0])) : Ca 72 [Pt t, .string key] m (.tuple #[.string .empty, I 0, .bool false]) m := by
  refine callX_of (call_go (F := _) rfl rfl fun Q hQ => ?_)
  simp only [symA, go_opsd, symB, wantedX, X.put, X.look, Arg.ev, keepOf, restrict, evs, evO, initEnv, xres, tup, noTup, cls, quiet, Nat.reduceAdd, Nat.reduceEqDiff, ↓reduceIte, reduceCtorEq, goInt, exists_eq_left', eq_self, Int.reduceLT, Int.reduceLE, Int.reduceEq, Int.reduceNeg, Int.reduceAdd, Int.reduceSub, forall_const, ne_eq, undef, Nat.reducePow, Nat.reduceDiv, Nat.reduceMod, goR_call (some_no h)]
  exact hQ _ _ _ rfl ⟨rfl, rfl⟩
abbrev z3 : List Value := [.bool false, .string .empty, U 0]
abbrev z5 : List Value := [I 0, .string .empty, .bool false, .string .empty, U 0]
theorem ld3 {p : Nat} {x y z : Value} (g : m.get p = some (cel [x, y, z])) : ldA m 3 (.pointer (some ⟨p, 0, none⟩)) = some (.val (.agg ⟨[x, y, z]⟩) m) := by simp [ldA, xload, g]
theorem ld5 {p : Nat} {x y z u v : Value} (g : m.get p = some (cel [x, y, z, u, v])) : ldA m 5 (.pointer (some ⟨p, 0, none⟩)) = some (.val (.agg ⟨[x, y, z, u, v]⟩) m) := by simp [ldA, xload, g]
theorem bz3 : buildE m z3 [(0, 1), (1, 1), (2, 1)] [] = some (.val (.agg ⟨z3⟩) m) := by kernel_rfl
theorem rfrom_no {k : ByteArray} {i seq : Int} : ∃ m', Ca 73 [Pt r, .string k, I i, .bool false, I seq] m (.tuple #[.string .empty, .agg ⟨z3⟩, .bool false]) m' ∧ Nx m m' := by
  obtain ⟨m2, s1, s2, s3, _⟩ := new_store (m := m) (z := z3) (row := z3) (n := 3) rfl rfl (by omega)
  refine ⟨m2, callX_of (call_go (F := _) rfl rfl fun Q hQ => ?_), s3⟩
  simp only [symA, go_opsd, symB, wantedX, X.put, X.look, Arg.ev, keepOf, restrict, evs, evO, initEnv, xres, tup, noTup, cls, quiet, Nat.reduceAdd, Nat.reduceEqDiff, ↓reduceIte, reduceCtorEq, goInt, exists_eq_left', eq_self, Int.reduceLT, Int.reduceLE, Int.reduceEq, Int.reduceNeg, Int.reduceAdd, Int.reduceSub, forall_const, ne_eq, undef, Nat.reducePow, Nat.reduceDiv, Nat.reduceMod]
  refine loop_go (fun j e m' => m' = m.push (cel z3) ∧ e = [(0, Pt r), (1, .string k), (2, I i), (3, .bool false), (4, I seq), (11, Pt m.next)]) 0 ⟨rfl, rfl⟩ ?_
  rintro j e m1 N1 B1 hN hB ⟨rfl, rfl⟩
  simp only [symA, go_opsd, symB, wantedX, X.put, X.look, Arg.ev, keepOf, restrict, evs, evO, initEnv, xres, tup, noTup, cls, quiet, Nat.reduceAdd, Nat.reduceEqDiff, ↓reduceIte, reduceCtorEq, goInt, exists_eq_left', eq_self, Int.reduceLT, Int.reduceLE, Int.reduceEq, Int.reduceNeg, Int.reduceAdd, Int.reduceSub, forall_const, ne_eq, undef, Nat.reducePow, Nat.reduceDiv, Nat.reduceMod]
  refine hB _ _ _ ?_
  simp only [symA, go_opsd, symB, wantedX, X.put, X.look, Arg.ev, keepOf, restrict, evs, evO, initEnv, xres, tup, noTup, cls, quiet, Nat.reduceAdd, Nat.reduceEqDiff, ↓reduceIte, reduceCtorEq, goInt, exists_eq_left', eq_self, Int.reduceLT, Int.reduceLE, Int.reduceEq, Int.reduceNeg, Int.reduceAdd, Int.reduceSub, forall_const, ne_eq, undef, Nat.reducePow, Nat.reduceDiv, Nat.reduceMod, bz3, s1]
  exact hQ _ _ _ (by simp [xres, X.look, xload, s2]; rfl) ⟨rfl, rfl⟩
theorem rSeek_no {k : ByteArray} {seq : Int} (h : Emp m r) : ∃ m', Ca 89 [Pt r, .string k, I seq] m (.tuple #[.string .empty, .agg ⟨z3⟩, .bool false]) m' ∧ Nx m m' := by
  obtain ⟨m1, hm1⟩ : ∃ m1, m.push (cel z3) = m1 := ⟨_, rfl⟩
  have g1 : m1.get m.next = some (cel z3) := by rw [← hm1, push_self]
  have n1 : m1.next = m.next + 1 := by rw [← hm1]; simp
  have f1 : Nx m m1 := hm1 ▸ .push
  obtain ⟨g, t, h1, h2, h3, h4⟩ := h.fr f1
  obtain ⟨m2, a1, a2⟩ := rfrom_no (m := m1) (r := r) (k := .empty) (i := 0) (seq := seq)
  have x2 := a2.next
  obtain ⟨m3, s1, s2, s3, s4⟩ := row_store (n := 3) (row := z3) (a2.get (by omega) (fun h => h) g1) rfl rfl rfl rfl (by omega)
  refine ⟨m3, callX_of (call_go (F := _) rfl rfl fun Q hQ => ?_), (f1.comp a2 fun _ _ h => h).comp s3 fun j hj (q : j = m.next) => by omega⟩
  simp only [symA, go_opsd, symB, wantedX, X.put, X.look, Arg.ev, keepOf, restrict, evs, evO, initEnv, xres, tup, noTup, cls, quiet, Nat.reduceAdd, Nat.reduceEqDiff, ↓reduceIte, reduceCtorEq, goInt, exists_eq_left', eq_self, Int.reduceLT, Int.reduceLE, Int.reduceEq, Int.reduceNeg, Int.reduceAdd, Int.reduceSub, forall_const, ne_eq, undef, Nat.reducePow, Nat.reduceDiv, Nat.reduceMod, hm1]
  simp only [symA, go_opsd, symB, wantedX, X.put, X.look, Arg.ev, keepOf, restrict, evs, evO, initEnv, xres, tup, noTup, cls, quiet, Nat.reduceAdd, Nat.reduceEqDiff, ↓reduceIte, reduceCtorEq, goInt, exists_eq_left', eq_self, Int.reduceLT, Int.reduceLE, Int.reduceEq, Int.reduceNeg, Int.reduceAdd, Int.reduceSub, forall_const, ne_eq, undef, Nat.reducePow, Nat.reduceDiv, Nat.reduceMod, isNil_ptr', h1, goR_call (tSeek_no (key := k) h2), goR_call a1, s1]
  exact hQ _ _ _ (by simp [xres, X.look, xload, s2]; rfl) ⟨rfl, rfl⟩
theorem rAfter_no {k : ByteArray} {seq : Int} (h : Emp m r) : ∃ m', Ca 19 [Pt r, .string k, I seq] m (.tuple #[.string .empty, .agg ⟨z3⟩, .bool false]) m' ∧ Nx m m' := by
  obtain ⟨m1, hm1⟩ : ∃ m1, m.push (cel z3) = m1 := ⟨_, rfl⟩
  have g1 : m1.get m.next = some (cel z3) := by rw [← hm1, push_self]
  have n1 : m1.next = m.next + 1 := by rw [← hm1]; simp
  have f1 : Nx m m1 := hm1 ▸ .push
  obtain ⟨g, t, h1, h2, h3, h4⟩ := h.fr f1
  obtain ⟨m2, a1, a2⟩ := rfrom_no (m := m1) (r := r) (k := .empty) (i := 0) (seq := seq)
  have x2 := a2.next
  obtain ⟨m3, s1, s2, s3, s4⟩ := row_store (n := 3) (row := z3) (a2.get (by omega) (fun h => h) g1) rfl rfl rfl rfl (by omega)
  refine ⟨m3, callX_of (call_go (F := _) rfl rfl fun Q hQ => ?_), (f1.comp a2 fun _ _ h => h).comp s3 fun j hj (q : j = m.next) => by omega⟩
  simp only [symA, go_opsd, symB, wantedX, X.put, X.look, Arg.ev, keepOf, restrict, evs, evO, initEnv, xres, tup, noTup, cls, quiet, Nat.reduceAdd, Nat.reduceEqDiff, ↓reduceIte, reduceCtorEq, goInt, exists_eq_left', eq_self, Int.reduceLT, Int.reduceLE, Int.reduceEq, Int.reduceNeg, Int.reduceAdd, Int.reduceSub, forall_const, ne_eq, undef, Nat.reducePow, Nat.reduceDiv, Nat.reduceMod, hm1]
  simp only [symA, go_opsd, symB, wantedX, X.put, X.look, Arg.ev, keepOf, restrict, evs, evO, initEnv, xres, tup, noTup, cls, quiet, Nat.reduceAdd, Nat.reduceEqDiff, ↓reduceIte, reduceCtorEq, goInt, exists_eq_left', eq_self, Int.reduceLT, Int.reduceLE, Int.reduceEq, Int.reduceNeg, Int.reduceAdd, Int.reduceSub, forall_const, ne_eq, undef, Nat.reducePow, Nat.reduceDiv, Nat.reduceMod, isNil_ptr', h1, goR_call (tAfter_no (key := k) h2), goR_call a1, s1]
  exact hQ _ _ _ (by simp [xres, X.look, xload, s2]; rfl) ⟨rfl, rfl⟩
end
end Go.Proofs.YtnlmnejellipdaaGreat
