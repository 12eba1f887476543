/-
  Own work. PROVED HERE: WatchNil: whatever the act and the number, the law returns true (a watch that is not there does nothing).
-/
import Derived.Test.YtglefgcnafoafaaGreatDoorWA
import Derived.Test.YtglefgcnafoafaaGreatDoorXOwn2
namespace Go.Proofs.YtglefgcnafoafaaGreatDoor
open Go X
set_option maxRecDepth 100000
set_option linter.unusedVariables false
set_option linter.unusedSimpArgs false

theorem calc_len {m : Mem} {t : ByteArray} {n : List Bool} : calcE Tryz.prog .len [9] 3 n [.string t] m = some (.val (I (t.size : Nat)) m) := by kernel_rfl

abbrev actQ (k s pl : Int) (by_ : ByteArray) (L : Value) : List Value := [I k, I s, I pl, .string by_, L]
abbrev cellQ (l : List Value) : XObj := { cells := l, rw := true, spare := none, kin := [] }

section
variable {k s pl i : Int} {by_ : ByteArray} {p : Option Addr} {ln c : Nat}
theorem far_spec {m : Mem} : ∃ b, Ca 8 [.agg ⟨actQ k s pl by_ (.slice p ln c)⟩] m (.bool b) (m.push (cellQ (actQ k s pl by_ (.slice p ln c)))) := by
  by_cases h1 : (1000 : Int) < (by_.size : Int)
  · refine ⟨true, callX_of (call_go (F := _) rfl rfl fun Q hQ => ?_)⟩
    simp only [symA, go_opsd, symB, wantedX, X.put, X.look, Arg.ev, keepOf, restrict, evs, evO, initEnv, xres, tup, noTup, cls, quiet, Nat.reduceAdd, Nat.reduceEqDiff, ↓reduceIte, reduceCtorEq, goInt, exists_eq_left', eq_self, Int.reduceLT, Int.reduceLE, Int.reduceEq, Int.reduceNeg, Int.reduceAdd, Int.reduceSub, forall_const, ne_eq, undef, Nat.reducePow, Nat.reduceDiv, Nat.reduceMod, calc_len, h1]
    exact hQ _ _ _ rfl ⟨rfl, rfl⟩
  · refine ⟨decide ((100 : Int) < (ln : Int)), callX_of (call_go (F := _) rfl rfl fun Q hQ => ?_)⟩
    simp only [symA, go_opsd, symB, wantedX, X.put, X.look, Arg.ev, keepOf, restrict, evs, evO, initEnv, xres, tup, noTup, cls, quiet, Nat.reduceAdd, Nat.reduceEqDiff, ↓reduceIte, reduceCtorEq, goInt, exists_eq_left', eq_self, Int.reduceLT, Int.reduceLE, Int.reduceEq, Int.reduceNeg, Int.reduceAdd, Int.reduceSub, forall_const, ne_eq, undef, Nat.reducePow, Nat.reduceDiv, Nat.reduceMod, calc_len, h1]
    exact hQ _ _ _ rfl ⟨rfl, rfl⟩
theorem do_spec (m : Mem) {l : List Value} : Ca 21 [.pointer none, .agg ⟨l⟩] m (.tuple #[I 0, .string .empty, I 2]) (m.push (cellQ l)) := ⟨100, by kernel_rfl⟩
theorem new_spec (m : Mem) : Ca 22 [.pointer none] m (.tuple #[.pointer none, I 2]) m := ⟨100, by kernel_rfl⟩
theorem serial_spec (m : Mem) : Ca 23 [.pointer none, .slice none 0 0] m (.tuple #[.slice none 0 0, I 2]) m := ⟨100, by kernel_rfl⟩
theorem one_spec (m : Mem) : Ca 24 [.pointer none, I s, .string by_] m (.tuple #[.string .empty, I 2]) (m.push (cellQ (actQ 1 s 0 by_ (.slice none 0 0)))) := ⟨100, by kernel_rfl⟩
theorem n25 (m : Mem) : Ca 25 [.pointer none] m (.pointer none) m := ⟨100, by kernel_rfl⟩
theorem n26 (m : Mem) : Ca 26 [.pointer none] m (.slice none 0 0) m := ⟨100, by kernel_rfl⟩
theorem n27 (m : Mem) : Ca 27 [.pointer none] m (.slice none 0 0) (m.push (cellQ [.pointer none])) := by
  refine callX_of (call_go (F := _) rfl rfl fun Q hQ => ?_)
  simp only [symA, go_opsd, symB, wantedX, X.put, X.look, Arg.ev, keepOf, restrict, evs, evO, initEnv, xres, tup, noTup, cls, quiet, Nat.reduceAdd, Nat.reduceEqDiff, ↓reduceIte, reduceCtorEq, goInt, exists_eq_left', eq_self, Int.reduceLT, Int.reduceLE, Int.reduceEq, Int.reduceNeg, Int.reduceAdd, Int.reduceSub, forall_const, ne_eq, undef, Nat.reducePow, Nat.reduceDiv, Nat.reduceMod]
  exact hQ _ _ _ rfl ⟨rfl, rfl⟩
theorem n28 (m : Mem) : Ca 28 [.pointer none, I i] m (I 0) m := ⟨100, by kernel_rfl⟩
theorem e32 (m : Mem) : binE Tryz.prog .eql 32 (I 2) (I 2) m = some (.val (.bool true) m) := by kernel_rfl
theorem e9 (m : Mem) : binE Tryz.prog .eql 9 (.string .empty) (.string .empty) m = some (.val (.bool true) m) := by kernel_rfl

theorem watchNil_run {m : Mem} : Wc 4 [.agg ⟨actQ k s pl by_ (.slice p ln c)⟩, I i] m fun r _ => r = .bool true := by
  refine call_go (F := _) rfl rfl fun Q hQ => ?_
  obtain ⟨m0, hm0⟩ : ∃ m0, m.push (cellQ (actQ k s pl by_ (.slice p ln c))) = m0 := ⟨_, rfl⟩
  have g0 : m0.get m.next = some (cellQ (actQ k s pl by_ (.slice p ln c))) := by rw [← hm0, push_self]
  have n0 : m0.next = m.next + 1 := by rw [← hm0]; simp
  have lA : ldA m0 5 (.pointer (some ⟨m.next, 0, none⟩)) = some (.val (.agg ⟨actQ k s pl by_ (.slice p ln c)⟩) m0) := by simp [ldA, xload, g0]
  obtain ⟨b, k1⟩ := far_spec (m := m0) (k := k) (s := s) (pl := pl) (by_ := by_) (p := p) (ln := ln) (c := c)
  obtain ⟨m1, hm1⟩ : ∃ m1, m0.push (cellQ (actQ k s pl by_ (.slice p ln c))) = m1 := ⟨_, rfl⟩
  rw [hm1] at k1
  have f1 : Nx m0 m1 := hm1 ▸ .push
  cases b with
  | true =>
    simp only [symA, go_opsd, symB, wantedX, X.put, X.look, Arg.ev, keepOf, restrict, evs, evO, initEnv, xres, tup, noTup, cls, quiet, Nat.reduceAdd, Nat.reduceEqDiff, ↓reduceIte, reduceCtorEq, goInt, exists_eq_left', eq_self, Int.reduceLT, Int.reduceLE, Int.reduceEq, Int.reduceNeg, Int.reduceAdd, Int.reduceSub, forall_const, ne_eq, undef, Nat.reducePow, Nat.reduceDiv, Nat.reduceMod, goR_call (awake_call _), hm0, lA, goR_call k1]
    exact hQ _ _ _ rfl rfl
  | false =>
    have g1 := f1.get (by omega) (fun h => h) g0
    have lB : ldA m1 5 (.pointer (some ⟨m.next, 0, none⟩)) = some (.val (.agg ⟨actQ k s pl by_ (.slice p ln c)⟩) m1) := by simp [ldA, xload, g1]
    obtain ⟨m2, hm2⟩ : ∃ m2, m1.push (cellQ (actQ k s pl by_ (.slice p ln c))) = m2 := ⟨_, rfl⟩
    have f2 : Nx m1 m2 := hm2 ▸ .push
    have n1 : m1.next = m0.next + 1 := by rw [← hm1]; simp
    have d1 := do_spec m1 (l := actQ k s pl by_ (.slice p ln c))
    rw [hm2] at d1
    have g2 := f2.get (by omega) (fun h => h) g1
    obtain ⟨m3, hm3⟩ : ∃ m3, m2.push (cellQ (actQ 1 s 0 by_ (.slice none 0 0))) = m3 := ⟨_, rfl⟩
    have o1 := one_spec m2 (s := s) (by_ := by_)
    rw [hm3] at o1
    simp only [symA, go_opsd, symB, wantedX, X.put, X.look, Arg.ev, keepOf, restrict, evs, evO, initEnv, xres, tup, noTup, cls, quiet, Nat.reduceAdd, Nat.reduceEqDiff, ↓reduceIte, reduceCtorEq, goInt, exists_eq_left', eq_self, Int.reduceLT, Int.reduceLE, Int.reduceEq, Int.reduceNeg, Int.reduceAdd, Int.reduceSub, forall_const, ne_eq, undef, Nat.reducePow, Nat.reduceDiv, Nat.reduceMod, goR_call (awake_call _), hm0, lA, goR_call k1, lB, goR_call d1, goR_call (new_spec _), goR_call (serial_spec _), g2, goR_call o1, e32, e9, goR_call (n25 _), goR_call (n26 _), goR_call (n27 _), goR_call (n28 _)]
    exact hQ _ _ _ rfl rfl
end


end Go.Proofs.YtglefgcnafoafaaGreatDoor
