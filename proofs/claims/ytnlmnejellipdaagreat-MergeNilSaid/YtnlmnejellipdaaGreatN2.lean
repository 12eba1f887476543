/-
  Own work. A cursor over empty rooms: what its sources tell.
-/
import Derived.Test.YtnlmnejellipdaaGreatN1
namespace Go.Proofs.YtnlmnejellipdaaGreat
open Go X
set_option maxRecDepth 100000
attribute [local irreducible] X.Go' X.GoO X.GoR X.GoG X.GoC X.GoF X.GoFV X.GoFG X.Ex X.GoD X.GoDV X.GoDG
set_option linter.unusedVariables false
set_option linter.unusedSimpArgs false

section
variable {m m' : Mem} {r c : Nat} {p : Int} {k : ByteArray} {ab : Bool}
abbrev src (r : Nat) (p : Int) : Value := .agg ⟨[Pt r, I 0, I p]⟩
abbrev zw : List Value := [.string .empty, .bool false, .bool false, .string .empty, U 0]
theorem bzw : buildE m zw [(0, 1), (1, 1), (2, 3)] [] = some (.val (.agg ⟨zw⟩) m) := by kernel_rfl
theorem wSeek_no : ∃ m', Ca 180 [.pointer none, .string k] m (.tuple #[.agg ⟨zw⟩, .bool false]) m' ∧ Nx m m' := by
  obtain ⟨m2, s1, s2, s3, _⟩ := new_store (m := m) (z := zw) (row := zw) (n := 5) rfl rfl (by omega)
  refine ⟨m2, callX_of (call_go (F := _) rfl rfl fun Q hQ => ?_), s3⟩
  simp only [symA, go_opsd, symB, wantedX, X.put, X.look, Arg.ev, keepOf, restrict, evs, evO, initEnv, xres, tup, noTup, cls, quiet, Nat.reduceAdd, Nat.reduceEqDiff, ↓reduceIte, reduceCtorEq, goInt, exists_eq_left', eq_self, Int.reduceLT, Int.reduceLE, Int.reduceEq, Int.reduceNeg, Int.reduceAdd, Int.reduceSub, forall_const, ne_eq, undef, Nat.reducePow, Nat.reduceDiv, Nat.reduceMod, isNil_ptr', bzw, s1]
  exact hQ _ _ _ (by simp [xres, X.look, xload, s2]; rfl) ⟨rfl, rfl⟩
theorem wAfter_no : ∃ m', Ca 181 [.pointer none, .string k] m (.tuple #[.agg ⟨zw⟩, .bool false]) m' ∧ Nx m m' := by
  obtain ⟨m2, s1, s2, s3, _⟩ := new_store (m := m) (z := zw) (row := zw) (n := 5) rfl rfl (by omega)
  refine ⟨m2, callX_of (call_go (F := _) rfl rfl fun Q hQ => ?_), s3⟩
  simp only [symA, go_opsd, symB, wantedX, X.put, X.look, Arg.ev, keepOf, restrict, evs, evO, initEnv, xres, tup, noTup, cls, quiet, Nat.reduceAdd, Nat.reduceEqDiff, ↓reduceIte, reduceCtorEq, goInt, exists_eq_left', eq_self, Int.reduceLT, Int.reduceLE, Int.reduceEq, Int.reduceNeg, Int.reduceAdd, Int.reduceSub, forall_const, ne_eq, undef, Nat.reducePow, Nat.reduceDiv, Nat.reduceMod, isNil_ptr', bzw, s1]
  exact hQ _ _ _ (by simp [xres, X.look, xload, s2]; rfl) ⟨rfl, rfl⟩

theorem inRoom_no (h : Emp m r) : ∃ m', Ca 158 [src r p, .string k, .bool ab] m (.tuple #[.string .empty, .agg ⟨z3⟩, .bool true, .bool false]) m' ∧ Nx m m' := by
  obtain ⟨m1, hm1⟩ : ∃ m1, m.push (cel [Pt r, I 0, I p]) = m1 := ⟨_, rfl⟩
  have g1 : m1.get m.next = some (cel [Pt r, I 0, I p]) := by rw [← hm1, push_self]
  have n1 : m1.next = m.next + 1 := by rw [← hm1]; simp
  have f1 : Nx m m1 := hm1 ▸ .push
  obtain ⟨m2, hm2⟩ : ∃ m2, m1.push (cel z3) = m2 := ⟨_, rfl⟩
  have g2 : m2.get m1.next = some (cel z3) := by rw [← hm2, push_self]
  have n2 : m2.next = m1.next + 1 := by rw [← hm2]; simp
  have f2 : Nx m1 m2 := hm2 ▸ .push
  have g12 := f2.get (by omega) (fun h => h) g1
  have h2 := (h.fr f1).fr f2
  have key : ∀ {m3 : Mem}, Nx m2 m3 → ∃ m4 m5, storeE (m3.push (cel z3)) 3 (Pt m3.next) (.agg ⟨z3⟩) = some (.skip m4) ∧ storeE m4 3 (Pt m1.next) (.agg ⟨z3⟩) = some (.skip m5) ∧ m4.get m3.next = some (cel z3) ∧ m5.get m1.next = some (cel z3) ∧ m5.get m3.next = some (cel z3) ∧ Nx m m5 := by
    intro m3 h3
    have x3 := h3.next
    obtain ⟨m4, s1, s2, s3, s4⟩ := new_store (m := m3) (z := z3) (row := z3) (n := 3) rfl rfl (by omega)
    obtain ⟨m5, t1, t2, t3, t4⟩ := row_store (n := 3) (row := z3) (s3.get (by omega) (fun h => h) (h3.get (by omega) (fun h => h) g2)) rfl rfl rfl rfl (by omega)
    exact ⟨m4, m5, s1, t1, s2, t2, t3.get (by omega) (fun (q : m3.next = m1.next) => by omega) s2, (((f1.comp f2 fun _ _ h => h).comp h3 fun _ _ h => h).comp s3 fun _ _ h => h).comp t3 fun j hj (q : j = m1.next) => by omega⟩
  cases ab with
  | true =>
    obtain ⟨m3, a1, a2⟩ := rAfter_no (k := k) (seq := 0) h2
    obtain ⟨m4, m5, s1, t1, s2, t2, t2', f5⟩ := key a2
    refine ⟨m5, callX_of (call_go (F := _) rfl rfl fun Q hQ => ?_), f5⟩
    simp only [symA, go_opsd, symB, wantedX, X.put, X.look, Arg.ev, keepOf, restrict, evs, evO, initEnv, xres, tup, noTup, cls, quiet, Nat.reduceAdd, Nat.reduceEqDiff, ↓reduceIte, reduceCtorEq, goInt, exists_eq_left', eq_self, Int.reduceLT, Int.reduceLE, Int.reduceEq, Int.reduceNeg, Int.reduceAdd, Int.reduceSub, forall_const, ne_eq, undef, Nat.reducePow, Nat.reduceDiv, Nat.reduceMod, hm1, hm2]
    simp only [symA, go_opsd, symB, wantedX, X.put, X.look, Arg.ev, keepOf, restrict, evs, evO, initEnv, xres, tup, noTup, cls, quiet, Nat.reduceAdd, Nat.reduceEqDiff, ↓reduceIte, reduceCtorEq, goInt, exists_eq_left', eq_self, Int.reduceLT, Int.reduceLE, Int.reduceEq, Int.reduceNeg, Int.reduceAdd, Int.reduceSub, forall_const, ne_eq, undef, Nat.reducePow, Nat.reduceDiv, Nat.reduceMod, g12, goR_call a1, s1, ld3 s2, ld3 t2', t1]
    exact hQ _ _ _ (by simp [xres, X.look, xload, t2]; rfl) ⟨rfl, rfl⟩
  | false =>
    obtain ⟨m3, a1, a2⟩ := rSeek_no (k := k) (seq := 0) h2
    obtain ⟨m4, m5, s1, t1, s2, t2, t2', f5⟩ := key a2
    refine ⟨m5, callX_of (call_go (F := _) rfl rfl fun Q hQ => ?_), f5⟩
    simp only [symA, go_opsd, symB, wantedX, X.put, X.look, Arg.ev, keepOf, restrict, evs, evO, initEnv, xres, tup, noTup, cls, quiet, Nat.reduceAdd, Nat.reduceEqDiff, ↓reduceIte, reduceCtorEq, goInt, exists_eq_left', eq_self, Int.reduceLT, Int.reduceLE, Int.reduceEq, Int.reduceNeg, Int.reduceAdd, Int.reduceSub, forall_const, ne_eq, undef, Nat.reducePow, Nat.reduceDiv, Nat.reduceMod, hm1, hm2]
    simp only [symA, go_opsd, symB, wantedX, X.put, X.look, Arg.ev, keepOf, restrict, evs, evO, initEnv, xres, tup, noTup, cls, quiet, Nat.reduceAdd, Nat.reduceEqDiff, ↓reduceIte, reduceCtorEq, goInt, exists_eq_left', eq_self, Int.reduceLT, Int.reduceLE, Int.reduceEq, Int.reduceNeg, Int.reduceAdd, Int.reduceSub, forall_const, ne_eq, undef, Nat.reducePow, Nat.reduceDiv, Nat.reduceMod, g12, goR_call a1, s1, ld3 s2, ld3 t2', t1]
    exact hQ _ _ _ (by simp [xres, X.look, xload, t2]; rfl) ⟨rfl, rfl⟩

/-- A cursor that has told nothing. -/
def Cur (m : Mem) (c : Nat) (l : Value) (f t : ByteArray) (lim : Int) : Prop :=
  c < m.next ∧ m.get c = some (cel [l, .string f, .string t, I lim, .pointer none, I 0, I 0, .string .empty, .bool false, .string .empty, U 0, I 0, .bool false])
theorem Cur.fr {l : Value} {f t : ByteArray} {lim : Int} (h : Cur m c l f t lim) (hf : Nx m m') : Cur m' c l f t lim := ⟨by have := hf.next; have := h.1; omega, hf.get h.1 (fun x => x) h.2⟩
theorem ld3o {x y u v w : Value} {o : Nat} (g : m.get o = some (cel [x, y, u, v, w])) : ldA m 3 (.pointer (some ⟨o, 2, none⟩)) = some (.val (.agg ⟨[u, v, w]⟩) m) := by simp [ldA, xload, g]

theorem inSet_no {l : Value} {f t : ByteArray} {lim : Int} (h : Cur m c l f t lim) : ∃ m', Ca 160 [Pt c, .string k, .bool ab] m (.tuple #[.string .empty, .agg ⟨z3⟩, .bool true, .bool false]) m' ∧ Nx m m' := by
  obtain ⟨m1, hm1⟩ : ∃ m1, m.push (cel z3) = m1 := ⟨_, rfl⟩
  have g1 : m1.get m.next = some (cel z3) := by rw [← hm1, push_self]
  have n1 : m1.next = m.next + 1 := by rw [← hm1]; simp
  have f1 : Nx m m1 := hm1 ▸ .push
  have c1 := (h.fr f1).2
  obtain ⟨m2, a1, a2⟩ := wSeek_no (m := m1) (k := k)
  have x2 := a2.next
  obtain ⟨m3, s1, s2, s3, s4⟩ := new_store (m := m2) (z := zw) (row := zw) (n := 5) rfl rfl (by omega)
  have f3 : Nx m1 m3 := a2.comp s3 fun _ _ h => h
  have c3 := (((h.fr f1).fr a2).fr s3).2
  have g3 := f3.get (by omega) (fun h => h) g1
  cases ab with
  | false =>
    obtain ⟨m5, t1, t2, t3, t4⟩ := row_store (n := 3) (row := z3) g3 rfl rfl rfl rfl (by omega)
    refine ⟨m5, callX_of (call_go (F := _) rfl rfl fun Q hQ => ?_), (f1.comp f3 fun _ _ h => h).comp t3 fun j hj (q : j = m.next) => by omega⟩
    simp only [symA, go_opsd, symB, wantedX, X.put, X.look, Arg.ev, keepOf, restrict, evs, evO, initEnv, xres, tup, noTup, cls, quiet, Nat.reduceAdd, Nat.reduceEqDiff, ↓reduceIte, reduceCtorEq, goInt, exists_eq_left', eq_self, Int.reduceLT, Int.reduceLE, Int.reduceEq, Int.reduceNeg, Int.reduceAdd, Int.reduceSub, forall_const, ne_eq, undef, Nat.reducePow, Nat.reduceDiv, Nat.reduceMod, hm1]
    have s2' := t3.get (i := m2.next) (by omega) (fun (q : m2.next = m.next) => by omega) s2
    simp only [symA, go_opsd, symB, wantedX, X.put, X.look, Arg.ev, keepOf, restrict, evs, evO, initEnv, xres, tup, noTup, cls, quiet, Nat.reduceAdd, Nat.reduceEqDiff, ↓reduceIte, reduceCtorEq, goInt, exists_eq_left', eq_self, Int.reduceLT, Int.reduceLE, Int.reduceEq, Int.reduceNeg, Int.reduceAdd, Int.reduceSub, forall_const, ne_eq, undef, Nat.reducePow, Nat.reduceDiv, Nat.reduceMod, c1, goR_call a1, s1, s2, s2', ld3o s2, t1]
    exact hQ _ _ _ (by simp [xres, X.look, xload, t2]; rfl) ⟨rfl, rfl⟩
  | true =>
    obtain ⟨m4, b1, b2⟩ := wAfter_no (m := m3) (k := k)
    have x4 := b2.next
    obtain ⟨m5, u1, u2, u3, u4⟩ := row_store (n := 5) (row := zw) (b2.get (by omega) (fun h => h) s2) rfl rfl rfl rfl (by omega)
    have g5 := u3.get (i := m.next) (by omega) (fun (q : m.next = m2.next) => by omega) (b2.get (by omega) (fun h => h) g3)
    obtain ⟨m6, t1, t2, t3, t4⟩ := row_store (n := 3) (row := z3) g5 rfl rfl rfl rfl (by omega)
    refine ⟨m6, callX_of (call_go (F := _) rfl rfl fun Q hQ => ?_), (((f1.comp f3 fun _ _ h => h).comp b2 fun _ _ h => h).comp u3 fun j hj (q : j = m2.next) => by omega).comp t3 fun j hj (q : j = m.next) => by omega⟩
    simp only [symA, go_opsd, symB, wantedX, X.put, X.look, Arg.ev, keepOf, restrict, evs, evO, initEnv, xres, tup, noTup, cls, quiet, Nat.reduceAdd, Nat.reduceEqDiff, ↓reduceIte, reduceCtorEq, goInt, exists_eq_left', eq_self, Int.reduceLT, Int.reduceLE, Int.reduceEq, Int.reduceNeg, Int.reduceAdd, Int.reduceSub, forall_const, ne_eq, undef, Nat.reducePow, Nat.reduceDiv, Nat.reduceMod, hm1]
    have u2' := t3.get (i := m2.next) (by omega) (fun (q : m2.next = m.next) => by omega) u2
    simp only [symA, go_opsd, symB, wantedX, X.put, X.look, Arg.ev, keepOf, restrict, evs, evO, initEnv, xres, tup, noTup, cls, quiet, Nat.reduceAdd, Nat.reduceEqDiff, ↓reduceIte, reduceCtorEq, goInt, exists_eq_left', eq_self, Int.reduceLT, Int.reduceLE, Int.reduceEq, Int.reduceNeg, Int.reduceAdd, Int.reduceSub, forall_const, ne_eq, undef, Nat.reducePow, Nat.reduceDiv, Nat.reduceMod, c1, goR_call a1, s1, c3, goR_call b1, u1, u2, u2', ld3o u2, t1]
    exact hQ _ _ _ (by simp [xres, X.look, xload, t2]; rfl) ⟨rfl, rfl⟩
end
end Go.Proofs.YtnlmnejellipdaaGreat
