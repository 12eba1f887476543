/-
  Own work. The chapter's example, call by call, each by the kernel; memory ahead of the last call stands in FM.
-/
import Derived.Test.YtglefgcnafoafaaGreatDoorXProg
import Derived.Test.YtglefgcnafoafaaGreatDoorXFast
import Derived.Test.YtglefgcnafoafaaGreatDoorFM
namespace Go.Proofs.YtglefgcnafoafaaGreatDoor
open Go X X.FMem
set_option maxRecDepth 100000
noncomputable abbrev Gx (f : FuncId) (args : List Value) (m : Mem) : Option (Value × Mem) := Q.xcallF Tryz.prog tab 100000 f args m
noncomputable def memOf (r : Option (Value × Mem)) : Mem := (r.getD (undef, Mem.empty)).2
theorem memOf_some {r : Option (Value × Mem)} {v : Value} (h : r.map (·.1) = some v) : r = some (v, memOf r) := by
  cases r with
  | none => cases h
  | some p =>
    obtain ⟨a, m⟩ := p
    cases h
    rfl
abbrev V0 : Value := .agg #[iq 2, iq 3, iq 8, sq 4 0 2 2]
abbrev row18 : List Value := [.int .i64 1, .int .i64 0, .slice none 0 0, .int .u64 0, .bool false, .int .i64 0, .string .empty, .bool false, .string .empty, .int .u64 0, .string .empty, .string .empty, .int .i64 0, .int .i64 0, .slice none 0 0]
abbrev row26 : List Value := [.string ⟨#[107]⟩, .int .i64 1, .bool false, .string .empty, .int .u64 0]
noncomputable def m36 : Mem := memOf (Gx 36 [] Mem.empty)
noncomputable def m35 : Mem := memOf (Gx 35 [V0] m36)
noncomputable def m54 : Mem := memOf (Gx 54 [.agg ⟨row18⟩] m35)
noncomputable def m24 : Mem := memOf (Gx 24 [pq 810 0, iq 0, tx [1, 0]] m54)
theorem k36 : (Gx 36 [] Mem.empty).map (·.1) = some V0 := by kernel_rfl
theorem k35 : (Gx 35 [V0] m36).map (·.1) = some (.tuple #[pq 810 0, tq]) := by kernel_rfl
theorem k54 : (Gx 54 [.agg ⟨row18⟩] m35).map (·.1) = some (tx [1, 0]) := by kernel_rfl
theorem k24 : (Gx 24 [pq 810 0, iq 0, tx [1, 0]] m54).map (·.1) = some (.tuple #[tx [0, 0, 0, 0, 0, 0, 0, 0, 0], iq 0]) := by kernel_rfl
theorem k31 : (Gx 31 [pq 810 0, iq 0, iq 0, iq 1] M3).map (fun r => (r.1, (r.2.get 3948).bind fun o => o.cells[0]?)) = some (.tuple #[sk 3948 0 0 1 1, iq 0], some (.string ⟨#[107]⟩)) := by kernel_rfl
theorem k32 : Gx 32 [pq 810 0, iq 0, iq 0, sq m24.next 0 1 1] (m24.push { cells := row26, rw := true, spare := none, kin := [] }) = some (.tuple #[iq 1, iq 0], M3) := by kernel_rfl
end Go.Proofs.YtglefgcnafoafaaGreatDoor
