/-
  Own work. The chapter's example holds; calls.
-/
import Derived.Test.YtglefgcnafoafaaGreatDoorFK
import Derived.Test.YtglefgcnafoafaaGreatDoorXAll
namespace Go.Proofs.YtglefgcnafoafaaGreatDoor
open Go X X.FMem
set_option maxRecDepth 100000
set_option linter.unusedSimpArgs false
set_option linter.unusedVariables false

theorem of_gx {f : FuncId} {args : List Value} {m : Mem} {v : Value} {m' : Mem} (h : Gx f args m = some (v, m')) : CallX Tryz.prog tab f args m v m' := ⟨100000, by rw [← Q.xcallF_eq]; exact h⟩
theorem of_map {f : FuncId} {args : List Value} {m : Mem} {v : Value} (h : (Gx f args m).map (·.1) = some v) : CallX Tryz.prog tab f args m v (memOf (Gx f args m)) := of_gx (memOf_some h)
theorem b18 {m : Mem} : buildE m [.int .i64 0, .int .i64 0, .slice none 0 0, .int .u64 0, .bool false, .int .i64 0, .string .empty, .bool false, .string .empty, .int .u64 0, .string .empty, .string .empty, .int .i64 0, .int .i64 0, .slice none 0 0] [(0, 1), (1, 1), (2, 1), (3, 1), (4, 1), (5, 1), (6, 1), (7, 3), (10, 3), (13, 1), (14, 1)] [(0, .int .i64 1)] = some (.val (.agg ⟨row18⟩) m) := by kernel_rfl
theorem b25 {m : Mem} : buildE m [.string .empty, .int .i64 0, .bool false, .string .empty, .int .u64 0] [(0, 1), (1, 1), (2, 3)] [(0, .string ⟨#[107]⟩), (1, .int .i64 1)] = some (.val (.agg ⟨row26⟩) m) := by kernel_rfl
theorem b26 {m : Mem} : buildSliceE m [.string .empty, .int .i64 0, .bool false, .string .empty, .int .u64 0] 5 1 [(0, .agg ⟨row26⟩)] = some (.val (.slice (some ⟨m.next, 0, none⟩) 1 1) (m.push { cells := row26, rw := true, spare := none, kin := [] })) := by kernel_rfl
theorem e32z (m : Mem) : binE Tryz.prog .eql 32 (.int .i64 0) (.int .i64 0) m = some (.val (.bool true) m) := by kernel_rfl
theorem e9k (m : Mem) : binE Tryz.prog .eql 9 (.string ⟨#[107]⟩) (.string ⟨#[107]⟩) m = some (.val (.bool true) m) := by kernel_rfl
theorem awake_run : wpCall Tryz.prog tab 29 [] Mem.empty fun r _ => r = .bool true := by
  refine call_go (F := _) rfl rfl fun R hR => ?_
  have c36 : CallX Tryz.prog tab 36 [] Mem.empty V0 m36 := of_map k36
  have c35 : CallX Tryz.prog tab 35 [V0] m36 (.tuple #[pq 810 0, tq]) m35 := of_map k35
  have c54 : CallX Tryz.prog tab 54 [.agg ⟨row18⟩] m35 (tx [1, 0]) m54 := of_map k54
  have c24 : CallX Tryz.prog tab 24 [pq 810 0, iq 0, tx [1, 0]] m54 (.tuple #[tx [0, 0, 0, 0, 0, 0, 0, 0, 0], iq 0]) m24 := of_map k24
  have c32 : CallX Tryz.prog tab 32 [pq 810 0, iq 0, iq 0, sq m24.next 0 1 1] (m24.push { cells := row26, rw := true, spare := none, kin := [] }) (.tuple #[iq 1, iq 0]) M3 := of_gx k32
  obtain ⟨m4, h4, l4⟩ : ∃ m4, Gx 31 [pq 810 0, iq 0, iq 0, iq 1] M3 = some (.tuple #[sk 3948 0 0 1 1, iq 0], m4) ∧ (m4.get 3948).bind (fun o => o.cells[0]?) = some (.string ⟨#[107]⟩) := by
    have h := k31
    cases hr : Gx 31 [pq 810 0, iq 0, iq 0, iq 1] M3 with
    | none => rw [hr] at h; cases h
    | some r =>
      rw [hr] at h
      simp only [Option.map_some, Option.some.injEq, Prod.mk.injEq] at h
      exact ⟨r.2, by rw [← h.1], h.2⟩
  have c31 : CallX Tryz.prog tab 31 [pq 810 0, iq 0, iq 0, iq 1] M3 (.tuple #[sk 3948 0 0 1 1, iq 0]) m4 := of_gx h4
  obtain ⟨o, g4, g5⟩ : ∃ o, m4.get 3948 = some o ∧ o.cells[0]? = some (.string ⟨#[107]⟩) := by
    cases ho : m4.get 3948 with
    | none => rw [ho] at l4; cases l4
    | some o => rw [ho] at l4; exact ⟨o, rfl, l4⟩
  have ia : indexAddrE m4 5 (sk 3948 0 0 1 1) (.int .i64 0) = some (.val (.pointer (some ⟨3948, 0, none⟩)) m4) := by kernel_rfl
  simp only [symA, go_opsd, symB, wantedX, X.put, X.look, Arg.ev, keepOf, restrict, evs, evO, initEnv, xres, tup, noTup, cls, quiet, Nat.reduceAdd, Nat.reduceEqDiff, ↓reduceIte, reduceCtorEq, goInt, exists_eq_left', eq_self, Int.reduceLT, Int.reduceLE, Int.reduceEq, Int.reduceNeg, Int.reduceAdd, Int.reduceSub, forall_const, ne_eq, undef, Nat.reducePow, Nat.reduceDiv, Nat.reduceMod, goR_call c36, goR_call c35, b18, goR_call c54, goR_call c24, b25, b26, goR_call c32, goR_call c31, e32z, e9k, ia, g4, g5]
  exact hR _ _ _ rfl rfl
theorem awake_known : FnIs Tryz.prog 29 (.known (.bool true)) := by
  obtain ⟨v, m', ⟨n, hn⟩, rfl⟩ := awake_run
  exact known_of mixed tab_is (n := n) rfl (by rw [hn]; rfl) rfl
def tabK (f : FuncId) : Option XDecl := if f = 29 then some (.known (.bool true)) else tab f
theorem tabK_is : ∀ f d, tabK f = some d → FnIs Tryz.prog f d := by
  intro f d h
  unfold tabK at h
  split at h
  · rename_i hf
    cases h; subst hf; exact awake_known
  · exact tab_is f d h
abbrev Ca (f : FuncId) (args : List Value) (m : Mem) (v : Value) (m' : Mem) : Prop := CallX Tryz.prog tabK f args m v m'
abbrev Wc (f : FuncId) (args : List Value) (m : Mem) (K : Value → Mem → Prop) : Prop := wpCall Tryz.prog tabK f args m K
theorem awake_call (m : Mem) : Ca 29 [] m (.bool true) m := ⟨0, rfl⟩
abbrev U (n : Int) : Value := .int .u64 n
abbrev I (n : Int) : Value := .int .i64 n
abbrev Nx (m m' : Mem) : Prop := Fm (fun _ => False) m m'


end Go.Proofs.YtglefgcnafoafaaGreatDoor
