/-
  Own work. A cursor over empty rooms: no row is found.
-/
import Derived.Test.YtnlmnejellipdaaGreatN2
namespace Go.Proofs.YtnlmnejellipdaaGreat
open Go X
set_option maxRecDepth 100000
attribute [local irreducible] X.Go' X.GoO X.GoR X.GoG X.GoC X.GoF X.GoFV X.GoFG X.Ex X.GoD X.GoDV X.GoDG
set_option linter.unusedVariables false
set_option linter.unusedSimpArgs false

section
variable {m m' : Mem} {r c : Nat} {p : Int} {k : ByteArray} {ab : Bool} {l : Value} {f t : ByteArray} {lim : Int}
abbrev fR (r : Nat) (p : Int) : Value := .func (.func 158) ⟨[src r p]⟩ ⟨[]⟩
abbrev fS (c : Nat) : Value := .func (.func 160) ⟨[Pt c]⟩ ⟨[]⟩
abbrev fO (a b : Nat) : Value := .func (.func 179) ⟨[]⟩ ⟨[Pt a, Pt b]⟩
theorem call_fn {f : FuncId} {a b vs : List Value} : callE (.func (.func f) ⟨a⟩ ⟨b⟩) vs = some (.call f (a ++ vs ++ b)) := (rfl)
theorem box_fn {f : Fn} {a b : Array Value} : boxE m (.func f a b) = some (.val (.pointer (some ⟨m.next, 0, none⟩)) (m.push (cel [.func f a b]))) := (rfl)
theorem mk_fR : makeFuncE m (.func 158) [src r p] [] = some (.val (fR r p) m) := (rfl)
theorem mk_fS : makeFuncE m (.func 160) [Pt c] [] = some (.val (fS c) m) := (rfl)
theorem mk_fO {a b : Nat} : makeFuncE m (.func 179) [] [Pt a, Pt b] = some (.val (fO a b) m) := (rfl)
abbrev no4 : Value := .tuple #[.string .empty, .agg ⟨z3⟩, .bool true, .bool false]

theorem over_no {a b : Nat} (hc : Cur m c l f t lim) (hr : Emp m r) (ha : m.get a = some (cel [fS c])) (hb : m.get b = some (cel [fR r p])) (h1 : a < m.next) (h2 : b < m.next) :
    ∃ m', Ca 179 [.string k, .bool ab, Pt a, Pt b] m no4 m' ∧ Nx m m' := by
  obtain ⟨m1, hm1⟩ : ∃ m1, m.push (cel z3) = m1 := ⟨_, rfl⟩
  have g1 : m1.get m.next = some (cel z3) := by rw [← hm1, push_self]
  have n1 : m1.next = m.next + 1 := by rw [← hm1]; simp
  have f1 : Nx m m1 := hm1 ▸ .push
  have ha1 := f1.get h1 (fun h => h) ha
  obtain ⟨m2, a1, a2⟩ := inSet_no (k := k) (ab := ab) (hc.fr f1)
  have x2 := a2.next
  obtain ⟨m3, s1, s2, s3, s4⟩ := new_store (m := m2) (z := z3) (row := z3) (n := 3) rfl rfl (by omega)
  have f3 : Nx m m3 := (f1.comp a2 fun _ _ h => h).comp s3 fun _ _ h => h
  have hb3 := f3.get h2 (fun h => h) hb
  obtain ⟨m4, b1, b2⟩ := inRoom_no (k := k) (ab := ab) (p := p) (hr.fr f3)
  have x4 := b2.next
  obtain ⟨m5, u1, u2, u3, u4⟩ := new_store (m := m4) (z := z3) (row := z3) (n := 3) rfl rfl (by omega)
  have f35 : Nx m3 m5 := b2.comp u3 fun _ _ h => h
  have g5 := f35.get (i := m.next) (by omega) (fun h => h) (s3.get (by omega) (fun h => h) (a2.get (by omega) (fun h => h) g1))
  obtain ⟨m6, t1, t2, t3, t4⟩ := row_store (n := 3) (row := z3) g5 rfl rfl rfl rfl (by omega)
  have u6 := t3.get (i := m4.next) (by omega) (fun (q : m4.next = m.next) => by omega) u2
  refine ⟨m6, callX_of (call_go (F := _) rfl rfl fun Q hQ => ?_), (f3.comp f35 fun _ _ h => h).comp t3 fun j hj (q : j = m.next) => by omega⟩
  simp only [symA, go_opsd, symB, wantedX, X.put, X.look, Arg.ev, keepOf, restrict, evs, evO, initEnv, xres, tup, noTup, cls, quiet, Nat.reduceAdd, Nat.reduceEqDiff, ↓reduceIte, reduceCtorEq, goInt, exists_eq_left', eq_self, Int.reduceLT, Int.reduceLE, Int.reduceEq, Int.reduceNeg, Int.reduceAdd, Int.reduceSub, forall_const, ne_eq, undef, Nat.reducePow, Nat.reduceDiv, Nat.reduceMod, hm1]
  simp only [symA, go_opsd, symB, wantedX, X.put, X.look, Arg.ev, keepOf, restrict, evs, evO, initEnv, xres, tup, noTup, cls, quiet, Nat.reduceAdd, Nat.reduceEqDiff, ↓reduceIte, reduceCtorEq, goInt, exists_eq_left', eq_self, Int.reduceLT, Int.reduceLE, Int.reduceEq, Int.reduceNeg, Int.reduceAdd, Int.reduceSub, forall_const, ne_eq, undef, Nat.reducePow, Nat.reduceDiv, Nat.reduceMod, ha1, call_fn, List.cons_append, List.nil_append, List.append_nil, goR_call a1, s1, hb3, goR_call b1, u1, ld3 u2, ld3 u6, t1]
  exact hQ _ _ _ (by simp [xres, X.look, xload, t2]; rfl) ⟨rfl, rfl⟩

theorem mkover {F G : Value} (hF : ∃ f a b, F = .func f a b) (hG : ∃ f a b, G = .func f a b) : ∃ m', Ca 159 [F, G] m (fO m.next (m.next + 1)) m' ∧ Nx m m' ∧ m'.get m.next = some (cel [F]) ∧ m'.get (m.next + 1) = some (cel [G]) ∧ m'.next = m.next + 2 := by
  obtain ⟨f, a, b, rfl⟩ := hF
  obtain ⟨f', a', b', rfl⟩ := hG
  refine ⟨(m.push (cel [.func f a b])).push (cel [.func f' a' b']), callX_of (call_go (F := _) rfl rfl fun Q hQ => ?_), Fm.push.comp Fm.push fun _ _ h => h, push_two, by simp [Mem.get_push], by simp⟩
  simp only [symA, go_opsd, symB, wantedX, X.put, X.look, Arg.ev, keepOf, restrict, evs, evO, initEnv, xres, tup, noTup, cls, quiet, Nat.reduceAdd, Nat.reduceEqDiff, ↓reduceIte, reduceCtorEq, goInt, exists_eq_left', eq_self, Int.reduceLT, Int.reduceLE, Int.reduceEq, Int.reduceNeg, Int.reduceAdd, Int.reduceSub, forall_const, ne_eq, undef, Nat.reducePow, Nat.reduceDiv, Nat.reduceMod, box_fn, mk_fO]
  exact hQ _ _ _ rfl ⟨rfl, rfl⟩

theorem from_spec (h : Cur m c l f t lim) : ∃ m', Ca 127 [Pt c, src r p] m (.tuple #[.string f, .bool false]) m' ∧ Nx m m' := by
  obtain ⟨m1, hm1⟩ : ∃ m1, m.push (cel [Pt r, I 0, I p]) = m1 := ⟨_, rfl⟩
  have f1 : Nx m m1 := hm1 ▸ .push
  refine ⟨m1, callX_of (call_go (F := _) rfl rfl fun Q hQ => ?_), f1⟩
  simp only [symA, go_opsd, symB, wantedX, X.put, X.look, Arg.ev, keepOf, restrict, evs, evO, initEnv, xres, tup, noTup, cls, quiet, Nat.reduceAdd, Nat.reduceEqDiff, ↓reduceIte, reduceCtorEq, goInt, exists_eq_left', eq_self, Int.reduceLT, Int.reduceLE, Int.reduceEq, Int.reduceNeg, Int.reduceAdd, Int.reduceSub, forall_const, ne_eq, undef, Nat.reducePow, Nat.reduceDiv, Nat.reduceMod, hm1]
  simp only [symA, go_opsd, symB, wantedX, X.put, X.look, Arg.ev, keepOf, restrict, evs, evO, initEnv, xres, tup, noTup, cls, quiet, Nat.reduceAdd, Nat.reduceEqDiff, ↓reduceIte, reduceCtorEq, goInt, exists_eq_left', eq_self, Int.reduceLT, Int.reduceLE, Int.reduceEq, Int.reduceNeg, Int.reduceAdd, Int.reduceSub, forall_const, ne_eq, undef, Nat.reducePow, Nat.reduceDiv, Nat.reduceMod, (h.fr f1).2]
  exact hQ _ _ _ rfl ⟨rfl, rfl⟩

theorem bz5 : buildE m z5 [(0, 1), (1, 1), (2, 3)] [] = some (.val (.agg ⟨z5⟩) m) := by kernel_rfl
theorem seek_no (h : Cur m c l f t lim) (hr : Emp m r) : ∃ m', Ca 128 [Pt c, src r p, .string k, .bool ab] m (.tuple #[.agg ⟨z5⟩, .bool false]) m' ∧ Nx m m' := by
  obtain ⟨m1, hm1⟩ : ∃ m1, m.push (cel [Pt r, I 0, I p]) = m1 := ⟨_, rfl⟩
  have g1 : m1.get m.next = some (cel [Pt r, I 0, I p]) := by rw [← hm1, push_self]
  have n1 : m1.next = m.next + 1 := by rw [← hm1]; simp
  have f1 : Nx m m1 := hm1 ▸ .push
  obtain ⟨m2, hm2⟩ : ∃ m2, m1.push (cel z5) = m2 := ⟨_, rfl⟩
  have g2 : m2.get m1.next = some (cel z5) := by rw [← hm2, push_self]
  have n2 : m2.next = m1.next + 1 := by rw [← hm2]; simp
  have f2 : Nx m1 m2 := hm2 ▸ .push
  have g12 := f2.get (by omega) (fun h => h) g1
  have c2 := ((h.fr f1).fr f2)
  have r2 := ((hr.fr f1).fr f2)
  have key : ∀ {m3 m4 : Mem}, Nx m2 m3 → Nx m3 m4 → ∃ m5 m6, storeE (m4.push (cel z3)) 3 (Pt m4.next) (.agg ⟨z3⟩) = some (.skip m5) ∧ storeE m5 5 (Pt m1.next) (.agg ⟨z5⟩) = some (.skip m6) ∧ m6.get m1.next = some (cel z5) ∧ Nx m m6 ∧ m5.get c = m2.get c := by
    intro m3 m4 h3 h4
    have x3 := h3.next
    have x4 := h4.next
    obtain ⟨m5, s1, s2, s3, s4⟩ := new_store (m := m4) (z := z3) (row := z3) (n := 3) rfl rfl (by omega)
    have f5 : Nx m2 m5 := (h3.comp h4 fun _ _ h => h).comp s3 fun _ _ h => h
    obtain ⟨m6, t1, t2, t3, t4⟩ := row_store (n := 5) (row := z5) (f5.get (by omega) (fun h => h) g2) rfl rfl rfl rfl (by omega)
    exact ⟨m5, m6, s1, t1, t2, ((f1.comp f2 fun _ _ h => h).comp f5 fun _ _ h => h).comp t3 fun j hj (q : j = m1.next) => by omega, f5.keep c c2.1 (fun h => h)⟩
  by_cases hp : p = 0
  · subst hp
    obtain ⟨m3, o1, o2, o3, o4, o5⟩ := mkover (m := m2) (F := fS c) (G := fR r 0) ⟨_, _, _, rfl⟩ ⟨_, _, _, rfl⟩
    obtain ⟨m4, a1, a2⟩ := over_no (k := k) (ab := ab) (c2.fr o2) (r2.fr o2) o3 o4 (by omega) (by omega)
    obtain ⟨m5, m6, s1, t1, t2, f6, c5⟩ := key o2 a2
    rw [c2.2] at c5
    refine ⟨m6, callX_of (call_go (F := _) rfl rfl fun Q hQ => ?_), f6⟩
    simp only [symA, go_opsd, symB, wantedX, X.put, X.look, Arg.ev, keepOf, restrict, evs, evO, initEnv, xres, tup, noTup, cls, quiet, Nat.reduceAdd, Nat.reduceEqDiff, ↓reduceIte, reduceCtorEq, goInt, exists_eq_left', eq_self, Int.reduceLT, Int.reduceLE, Int.reduceEq, Int.reduceNeg, Int.reduceAdd, Int.reduceSub, forall_const, ne_eq, undef, Nat.reducePow, Nat.reduceDiv, Nat.reduceMod, hm1, hm2]
    simp only [symA, go_opsd, symB, wantedX, X.put, X.look, Arg.ev, keepOf, restrict, evs, evO, initEnv, xres, tup, noTup, cls, quiet, Nat.reduceAdd, Nat.reduceEqDiff, ↓reduceIte, reduceCtorEq, goInt, exists_eq_left', eq_self, Int.reduceLT, Int.reduceLE, Int.reduceEq, Int.reduceNeg, Int.reduceAdd, Int.reduceSub, forall_const, ne_eq, undef, Nat.reducePow, Nat.reduceDiv, Nat.reduceMod, ld3 g12, g12, mk_fR, mk_fS, c2.2, goR_call o1]
    refine loop_go (fun j e m' => m' = m3 ∧ e = [(0, Pt c), (2, .string k), (3, .bool ab), (5, Pt m.next), (8, Pt m1.next), (10, fO m2.next (m2.next + 1))]) 0 ⟨rfl, rfl⟩ ?_
    rintro j e m9 N1 B1 hN hB ⟨rfl, rfl⟩
    simp only [symA, go_opsd, symB, wantedX, X.put, X.look, Arg.ev, keepOf, restrict, evs, evO, initEnv, xres, tup, noTup, cls, quiet, Nat.reduceAdd, Nat.reduceEqDiff, ↓reduceIte, reduceCtorEq, goInt, exists_eq_left', eq_self, Int.reduceLT, Int.reduceLE, Int.reduceEq, Int.reduceNeg, Int.reduceAdd, Int.reduceSub, forall_const, ne_eq, undef, Nat.reducePow, Nat.reduceDiv, Nat.reduceMod, call_fn, List.cons_append, List.nil_append, List.append_nil, goR_call a1, s1, c5, bz5, t1]
    exact hQ _ _ _ (by simp [xres, X.look, xload, t2]; rfl) ⟨rfl, rfl⟩
  · obtain ⟨m4, a1, a2⟩ := inRoom_no (p := p) (k := k) (ab := ab) r2
    obtain ⟨m5, m6, s1, t1, t2, f6, c5⟩ := key .refl a2
    rw [c2.2] at c5
    refine ⟨m6, callX_of (call_go (F := _) rfl rfl fun Q hQ => ?_), f6⟩
    simp only [symA, go_opsd, symB, wantedX, X.put, X.look, Arg.ev, keepOf, restrict, evs, evO, initEnv, xres, tup, noTup, cls, quiet, Nat.reduceAdd, Nat.reduceEqDiff, ↓reduceIte, reduceCtorEq, goInt, exists_eq_left', eq_self, Int.reduceLT, Int.reduceLE, Int.reduceEq, Int.reduceNeg, Int.reduceAdd, Int.reduceSub, forall_const, ne_eq, undef, Nat.reducePow, Nat.reduceDiv, Nat.reduceMod, hm1, hm2]
    simp only [symA, go_opsd, symB, wantedX, X.put, X.look, Arg.ev, keepOf, restrict, evs, evO, initEnv, xres, tup, noTup, cls, quiet, Nat.reduceAdd, Nat.reduceEqDiff, ↓reduceIte, reduceCtorEq, goInt, exists_eq_left', eq_self, Int.reduceLT, Int.reduceLE, Int.reduceEq, Int.reduceNeg, Int.reduceAdd, Int.reduceSub, forall_const, ne_eq, undef, Nat.reducePow, Nat.reduceDiv, Nat.reduceMod, ld3 g12, g12, mk_fR, mk_fS, c2.2, hp]
    refine loop_go (fun j e m' => m' = m2 ∧ e = [(0, Pt c), (2, .string k), (3, .bool ab), (5, Pt m.next), (8, Pt m1.next), (10, fR r p), (23, .bool false)]) 0 ⟨rfl, rfl⟩ ?_
    rintro j e m9 N1 B1 hN hB ⟨rfl, rfl⟩
    simp only [symA, go_opsd, symB, wantedX, X.put, X.look, Arg.ev, keepOf, restrict, evs, evO, initEnv, xres, tup, noTup, cls, quiet, Nat.reduceAdd, Nat.reduceEqDiff, ↓reduceIte, reduceCtorEq, goInt, exists_eq_left', eq_self, Int.reduceLT, Int.reduceLE, Int.reduceEq, Int.reduceNeg, Int.reduceAdd, Int.reduceSub, forall_const, ne_eq, undef, Nat.reducePow, Nat.reduceDiv, Nat.reduceMod, call_fn, List.cons_append, List.nil_append, List.append_nil, goR_call a1, s1, c5, bz5, t1]
    exact hQ _ _ _ (by simp [xres, X.look, xload, t2]; rfl) ⟨rfl, rfl⟩
end
end Go.Proofs.YtnlmnejellipdaaGreat
