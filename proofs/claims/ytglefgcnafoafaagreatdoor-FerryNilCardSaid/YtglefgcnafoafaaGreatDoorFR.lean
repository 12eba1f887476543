/-
  Own work. PROVED HERE: FerryNil: whatever the numbers and the entries, the law returns true (a desk that is not there ferries nothing).
-/
import Derived.Test.YtglefgcnafoafaaGreatDoorFD
namespace Go.Proofs.YtglefgcnafoafaaGreatDoor
open Go X
set_option maxRecDepth 100000
set_option linter.unusedVariables false
set_option linter.unusedSimpArgs false

theorem trip_spec (m : Mem) {s at_ : Int} {r : Bool} : Ca 66 [.pointer none, I s, I at_, .bool r] m (I 2) m := ⟨100, by kernel_rfl⟩
theorem out_spec (m : Mem) {s at_ : Int} : Ca 31 [.pointer none, I s, I at_, I 1] m (.tuple #[.slice none 0 0, I 2]) m := ⟨100, by kernel_rfl⟩
theorem copy_spec (m : Mem) {s at_ : Int} : Ca 33 [.pointer none, I s, .pointer none, I s, I at_] m (.tuple #[I 0, I 2]) m := ⟨100, by kernel_rfl⟩
theorem ready_spec (m : Mem) {s : Int} : Ca 34 [.pointer none, I s] m (.bool false) m := ⟨100, by kernel_rfl⟩
theorem e32 (m : Mem) : binE Tryz.prog .eql 32 (I 2) (I 2) m = some (.val (.bool true) m) := by kernel_rfl
theorem n32 (m : Mem) : binE Tryz.prog .neq 32 (I 2) (I 0) m = some (.val (.bool true) m) := by kernel_rfl
section
variable {b : Nat} {m : Mem} {v : Value} {vs : List Ent} {s at_ : Int}
theorem in_spec (h : RdE b m v vs) (hw : ∀ x ∈ vs, x.Wf) (hl : vs.length ≤ 4611686018427387903) (hb : b ≤ m.next) : ∃ m', Ca 32 [.pointer none, I s, I at_, v] m (.tuple #[I 0, I 2]) m' ∧ Nx m m' := by
  obtain ⟨m1, k1, f1⟩ := right h hw hl hb
  refine ⟨m1, callX_of (call_go (F := _) rfl rfl fun Q hQ => ?_), f1⟩
  simp only [symA, go_opsd, symB, wantedX, X.put, X.look, Arg.ev, keepOf, restrict, evs, evO, initEnv, xres, tup, noTup, cls, quiet, Nat.reduceAdd, Nat.reduceEqDiff, ↓reduceIte, reduceCtorEq, goInt, exists_eq_left', eq_self, Int.reduceLT, Int.reduceLE, Int.reduceEq, Int.reduceNeg, Int.reduceAdd, Int.reduceSub, forall_const, ne_eq, undef, Nat.reducePow, Nat.reduceDiv, Nat.reduceMod, goR_call k1, goR_call (trip_spec _), n32]
  exact hQ _ _ _ rfl ⟨rfl, rfl⟩
theorem ferryNil_run (h : RdE b m v vs) (hw : ∀ x ∈ vs, x.Wf) (hb : b ≤ m.next) : Wc 5 [I s, I at_, v] m fun r _ => r = .bool true := by
  refine call_go (F := _) rfl rfl fun Q hQ => ?_
  have k1 := farE_spec h
  cases hf : farE vs with
  | true =>
    rw [hf] at k1
    simp only [symA, go_opsd, symB, wantedX, X.put, X.look, Arg.ev, keepOf, restrict, evs, evO, initEnv, xres, tup, noTup, cls, quiet, Nat.reduceAdd, Nat.reduceEqDiff, ↓reduceIte, reduceCtorEq, goInt, exists_eq_left', eq_self, Int.reduceLT, Int.reduceLE, Int.reduceEq, Int.reduceNeg, Int.reduceAdd, Int.reduceSub, forall_const, ne_eq, undef, Nat.reducePow, Nat.reduceDiv, Nat.reduceMod, goR_call (awake_call _), goR_call k1]
    exact hQ _ _ _ rfl rfl
  | false =>
    rw [hf] at k1
    have hl : vs.length ≤ 60 := by
      simp only [farE, Bool.or_eq_false_iff, decide_eq_false_iff_not] at hf
      omega
    obtain ⟨m1, k2, f1⟩ := in_spec h hw (by omega) hb (s := s) (at_ := at_)
    simp only [symA, go_opsd, symB, wantedX, X.put, X.look, Arg.ev, keepOf, restrict, evs, evO, initEnv, xres, tup, noTup, cls, quiet, Nat.reduceAdd, Nat.reduceEqDiff, ↓reduceIte, reduceCtorEq, goInt, exists_eq_left', eq_self, Int.reduceLT, Int.reduceLE, Int.reduceEq, Int.reduceNeg, Int.reduceAdd, Int.reduceSub, forall_const, ne_eq, undef, Nat.reducePow, Nat.reduceDiv, Nat.reduceMod, goR_call (awake_call _), goR_call k1, goR_call (out_spec _), goR_call k2, goR_call (copy_spec _), goR_call (ready_spec _), e32]
    exact hQ _ _ _ rfl rfl
end
end Go.Proofs.YtglefgcnafoafaaGreatDoor
