/-
  No cell of these rows narrows 'for every input' (looked for: loops, veiled, ifaces, maps, wideKeys, modest, calm, conditions, laid).
  DERIVED. THE GIVEN ROWS OF THIS SEAT. 6 by the template 'for every input the law returns true; each argument reads behind the call as it read before'; 0 by the template 'total and deterministic' (their statements: YtnlmnejellipdaaGreatTotals.lean).
  GIVEN WITH THE SEED: the statements are not yours to turn. If you find one false, say at which input.
  Laid BY PROGRAM, IN A SANDBOX (cutbox-rows.mjs): the forced cells as the released guide's own fill.sh prints them over the translation 4bde8a03a9f2dcb7… (all of the seat's roots in one cut). By AI agents, Wed Nov 11 2026. No macro, syntax, notation, axiom, sorry.
-/
import Derived.Test.YtnlmnejellipdaaGreatChecked
import GoSem.Claim
import GoSem.ClaimJoined
import GoSem.ClaimMapViews
import Derived.JoinedTies
import Derived.KernelRfl
namespace Go.Proofs.YtnlmnejellipdaaGreat
/- THE CELL 'sum', in the pinned program and in every row, IS THE sha256 OF THE DUMP (.gsa) THAT YtnlmnejellipdaaGreatProg.lean LOADS. Nothing in Lean hashes anything: it is a label: what it is worth is what the hold of that sum in a sandbox is worth. -/
noncomputable def Tryz.pinned : Pinned := { name := "ytnlmnejellipdaagreat", sum := "4bde8a03a9f2dcb739380509f0bc1b4bcb5c00b5fca77046e87fe45226215ae7", checked := Tryz.checked }
namespace Rows
def none {H : Type} : Left H := { results := [], args := [] }

/-- 'cloisonnelaw11.RoomSweeps': WHATEVER THE INPUT: true; the input reads as it did. -/
def roomSweepsSpec : ChangeSpec := { name := "roomSweeps", fn := fun _ => fun
  | [d1, d2, d3] => { results := [.lit (.bool true)], args := [d1, d2, d3] }
  | _ => none }
def roomSweepsRow : OpenClaim := { program := "ytnlmnejellipdaagreat", sum := "4bde8a03a9f2dcb739380509f0bc1b4bcb5c00b5fca77046e87fe45226215ae7", func := "cloisonne/cloisonnelaw11.RoomSweeps", spec := "roomSweeps", inPlace := ["math.Float64frombits", "math.Float64bits", "slices.overlaps[string]", "slices.overlaps[int]"], unfollowed := true, recurses := true, apart := false }
def RoomSweepsSaid : Prop := roomSweepsRow.holds Tryz.pinned (OpenSpec.ofChange roomSweepsSpec)

/-- ITS FALSE NEIGHBOUR: 'it returns false'. Refute it at one input. -/
def roomSweepsWrong : ChangeSpec := { name := "roomSweeps", fn := fun _ => fun
  | [d1, d2, d3] => { results := [.lit (.bool false)], args := [d1, d2, d3] }
  | _ => none }
def RoomSweepsWrongFalsely : Prop := roomSweepsRow.holds Tryz.pinned (OpenSpec.ofChange roomSweepsWrong)

/-- 'cloisonnelaw11.RoomLoads': WHATEVER THE INPUT: true; the input reads as it did. -/
def roomLoadsSpec : ChangeSpec := { name := "roomLoads", fn := fun _ => fun
  | [d1, d2, d3, d4, d5] => { results := [.lit (.bool true)], args := [d1, d2, d3, d4, d5] }
  | _ => none }
def roomLoadsRow : OpenClaim := { program := "ytnlmnejellipdaagreat", sum := "4bde8a03a9f2dcb739380509f0bc1b4bcb5c00b5fca77046e87fe45226215ae7", func := "cloisonne/cloisonnelaw11.RoomLoads", spec := "roomLoads", inPlace := ["math.Float64frombits", "math.Float64bits", "slices.overlaps[string]", "slices.overlaps[int]"], unfollowed := true, recurses := true, apart := false }
def RoomLoadsSaid : Prop := roomLoadsRow.holds Tryz.pinned (OpenSpec.ofChange roomLoadsSpec)

/-- ITS FALSE NEIGHBOUR: 'it returns false'. Refute it at one input. -/
def roomLoadsWrong : ChangeSpec := { name := "roomLoads", fn := fun _ => fun
  | [d1, d2, d3, d4, d5] => { results := [.lit (.bool false)], args := [d1, d2, d3, d4, d5] }
  | _ => none }
def RoomLoadsWrongFalsely : Prop := roomLoadsRow.holds Tryz.pinned (OpenSpec.ofChange roomLoadsWrong)

/-- 'cloisonnelaw11.RoomPlays': WHATEVER THE INPUT: true; the input reads as it did. -/
def roomPlaysSpec : ChangeSpec := { name := "roomPlays", fn := fun _ => fun
  | [d1, d2, d3] => { results := [.lit (.bool true)], args := [d1, d2, d3] }
  | _ => none }
def roomPlaysRow : OpenClaim := { program := "ytnlmnejellipdaagreat", sum := "4bde8a03a9f2dcb739380509f0bc1b4bcb5c00b5fca77046e87fe45226215ae7", func := "cloisonne/cloisonnelaw11.RoomPlays", spec := "roomPlays", inPlace := ["math.Float64frombits", "math.Float64bits", "slices.overlaps[string]", "slices.overlaps[int]"], unfollowed := true, recurses := true, apart := false }
def RoomPlaysSaid : Prop := roomPlaysRow.holds Tryz.pinned (OpenSpec.ofChange roomPlaysSpec)

/-- ITS FALSE NEIGHBOUR: 'it returns false'. Refute it at one input. -/
def roomPlaysWrong : ChangeSpec := { name := "roomPlays", fn := fun _ => fun
  | [d1, d2, d3] => { results := [.lit (.bool false)], args := [d1, d2, d3] }
  | _ => none }
def RoomPlaysWrongFalsely : Prop := roomPlaysRow.holds Tryz.pinned (OpenSpec.ofChange roomPlaysWrong)

/-- 'cloisonnelaw13.MergeNil': WHATEVER THE INPUT: true; the input reads as it did. -/
def mergeNilSpec : ChangeSpec := { name := "mergeNil", fn := fun _ => fun
  | [d1, d2, d3, d4] => { results := [.lit (.bool true)], args := [d1, d2, d3, d4] }
  | _ => none }
def mergeNilRow : OpenClaim := { program := "ytnlmnejellipdaagreat", sum := "4bde8a03a9f2dcb739380509f0bc1b4bcb5c00b5fca77046e87fe45226215ae7", func := "cloisonne/cloisonnelaw13.MergeNil", spec := "mergeNil", inPlace := ["math.Float64frombits", "math.Float64bits", "slices.overlaps[string]", "slices.overlaps[int]", "internal/bytealg.abigen_runtime_cmpstring"], unfollowed := true, recurses := true, apart := false }
def MergeNilSaid : Prop := mergeNilRow.holds Tryz.pinned (OpenSpec.ofChange mergeNilSpec)

/-- ITS FALSE NEIGHBOUR: 'it returns false'. Refute it at one input. -/
def mergeNilWrong : ChangeSpec := { name := "mergeNil", fn := fun _ => fun
  | [d1, d2, d3, d4] => { results := [.lit (.bool false)], args := [d1, d2, d3, d4] }
  | _ => none }
def MergeNilWrongFalsely : Prop := mergeNilRow.holds Tryz.pinned (OpenSpec.ofChange mergeNilWrong)

/-- 'cloisonnelaw13.MergeOwn': WHATEVER THE INPUT: true; the input reads as it did. -/
def mergeOwnSpec : ChangeSpec := { name := "mergeOwn", fn := fun _ => fun
  | [d1, d2, d3] => { results := [.lit (.bool true)], args := [d1, d2, d3] }
  | _ => none }
def mergeOwnRow : OpenClaim := { program := "ytnlmnejellipdaagreat", sum := "4bde8a03a9f2dcb739380509f0bc1b4bcb5c00b5fca77046e87fe45226215ae7", func := "cloisonne/cloisonnelaw13.MergeOwn", spec := "mergeOwn", inPlace := ["math.Float64frombits", "math.Float64bits", "slices.overlaps[string]", "slices.overlaps[int]", "internal/bytealg.abigen_runtime_cmpstring", "slices.overlaps[cloisonne/api.Write]"], unfollowed := true, recurses := true, apart := false }
def MergeOwnSaid : Prop := mergeOwnRow.holds Tryz.pinned (OpenSpec.ofChange mergeOwnSpec)

/-- ITS FALSE NEIGHBOUR: 'it returns false'. Refute it at one input. -/
def mergeOwnWrong : ChangeSpec := { name := "mergeOwn", fn := fun _ => fun
  | [d1, d2, d3] => { results := [.lit (.bool false)], args := [d1, d2, d3] }
  | _ => none }
def MergeOwnWrongFalsely : Prop := mergeOwnRow.holds Tryz.pinned (OpenSpec.ofChange mergeOwnWrong)

/-- 'cloisonnelaw13.MergeRows': WHATEVER THE INPUT: true; the input reads as it did. -/
def mergeRowsSpec : ChangeSpec := { name := "mergeRows", fn := fun _ => fun
  | [d1, d2, d3, d4, d5, d6, d7] => { results := [.lit (.bool true)], args := [d1, d2, d3, d4, d5, d6, d7] }
  | _ => none }
def mergeRowsRow : OpenClaim := { program := "ytnlmnejellipdaagreat", sum := "4bde8a03a9f2dcb739380509f0bc1b4bcb5c00b5fca77046e87fe45226215ae7", func := "cloisonne/cloisonnelaw13.MergeRows", spec := "mergeRows", inPlace := ["math.Float64frombits", "math.Float64bits", "slices.overlaps[string]", "slices.overlaps[int]", "internal/bytealg.abigen_runtime_cmpstring", "slices.overlaps[cloisonne/api.Write]"], unfollowed := true, recurses := true, apart := false }
def MergeRowsSaid : Prop := mergeRowsRow.holds Tryz.pinned (OpenSpec.ofChange mergeRowsSpec)

/-- ITS FALSE NEIGHBOUR: 'it returns false'. Refute it at one input. -/
def mergeRowsWrong : ChangeSpec := { name := "mergeRows", fn := fun _ => fun
  | [d1, d2, d3, d4, d5, d6, d7] => { results := [.lit (.bool false)], args := [d1, d2, d3, d4, d5, d6, d7] }
  | _ => none }
def MergeRowsWrongFalsely : Prop := mergeRowsRow.holds Tryz.pinned (OpenSpec.ofChange mergeRowsWrong)

/- THE SECOND FORM. 'bulk': how many values and letters a reading holds, each counted each time it is reached (what is shared counts as often as it is met; a slice's spare places count too). A statement '..UptoSaid' is the law's where the arguments, and the package variables that the reading takes, are together of bulk at most 1048576: NARROWER than '..Said'. Prove '..Said' where nothing that the law and all that it calls make is longer than what came in: it says more and counts as full. Else prove '..UptoSaid'. A law counts once. -/
mutual
def uptoBulk {H : Type} : DataW H → Nat
  | .lit (.string bytes) => bytes.length + 1
  | .lit _ => 1
  | .nil => 1
  | .ptr d => uptoBulk d + 1
  | .slice elems spare => uptoBulkAll elems + uptoBulkAll spare + 1
  | .agg parts => uptoBulkAll parts + 1
  | .iface _ d => uptoBulk d + 1
  | .map entries => uptoBulkEntries entries + 1
  | .held _ => 1
def uptoBulkAll {H : Type} : List (DataW H) → Nat
  | [] => 0
  | d :: r => uptoBulk d + uptoBulkAll r
def uptoBulkEntries {H : Type} : List (Lit × DataW H) → Nat
  | [] => 0
  | x :: r => uptoBulkEntry x + uptoBulkEntries r
def uptoBulkEntry {H : Type} : Lit × DataW H → Nat
  | (.string bytes, d) => bytes.length + uptoBulk d + 1
  | (_, d) => uptoBulk d + 1
 end
def uptoSmall : (H : Type) → List (DataW H) → Bool := fun _ ds => decide (uptoBulkAll ds ≤ 1048576)
def OpenSpec.upto (s : _root_.Go.ChangeSpec) : _root_.Go.OpenSpec := { _root_.Go.OpenSpec.ofChange s with cond := some uptoSmall }

/-- 'cloisonnelaw11.RoomSweeps', WHERE WHAT IT READS IS OF BULK AT MOST 1048576: true; the input reads as it did. -/
def roomSweepsUptoRow : OpenClaim := { program := "ytnlmnejellipdaagreat", sum := "4bde8a03a9f2dcb739380509f0bc1b4bcb5c00b5fca77046e87fe45226215ae7", func := "cloisonne/cloisonnelaw11.RoomSweeps", spec := "roomSweeps", inPlace := ["math.Float64frombits", "math.Float64bits", "slices.overlaps[string]", "slices.overlaps[int]"], unfollowed := true, recurses := true, apart := false, narrowed := true }
def RoomSweepsUptoSaid : Prop := roomSweepsUptoRow.holds Tryz.pinned (OpenSpec.upto roomSweepsSpec)

/-- 'cloisonnelaw11.RoomLoads', WHERE WHAT IT READS IS OF BULK AT MOST 1048576: true; the input reads as it did. -/
def roomLoadsUptoRow : OpenClaim := { program := "ytnlmnejellipdaagreat", sum := "4bde8a03a9f2dcb739380509f0bc1b4bcb5c00b5fca77046e87fe45226215ae7", func := "cloisonne/cloisonnelaw11.RoomLoads", spec := "roomLoads", inPlace := ["math.Float64frombits", "math.Float64bits", "slices.overlaps[string]", "slices.overlaps[int]"], unfollowed := true, recurses := true, apart := false, narrowed := true }
def RoomLoadsUptoSaid : Prop := roomLoadsUptoRow.holds Tryz.pinned (OpenSpec.upto roomLoadsSpec)

/-- 'cloisonnelaw11.RoomPlays', WHERE WHAT IT READS IS OF BULK AT MOST 1048576: true; the input reads as it did. -/
def roomPlaysUptoRow : OpenClaim := { program := "ytnlmnejellipdaagreat", sum := "4bde8a03a9f2dcb739380509f0bc1b4bcb5c00b5fca77046e87fe45226215ae7", func := "cloisonne/cloisonnelaw11.RoomPlays", spec := "roomPlays", inPlace := ["math.Float64frombits", "math.Float64bits", "slices.overlaps[string]", "slices.overlaps[int]"], unfollowed := true, recurses := true, apart := false, narrowed := true }
def RoomPlaysUptoSaid : Prop := roomPlaysUptoRow.holds Tryz.pinned (OpenSpec.upto roomPlaysSpec)

/-- 'cloisonnelaw13.MergeNil', WHERE WHAT IT READS IS OF BULK AT MOST 1048576: true; the input reads as it did. -/
def mergeNilUptoRow : OpenClaim := { program := "ytnlmnejellipdaagreat", sum := "4bde8a03a9f2dcb739380509f0bc1b4bcb5c00b5fca77046e87fe45226215ae7", func := "cloisonne/cloisonnelaw13.MergeNil", spec := "mergeNil", inPlace := ["math.Float64frombits", "math.Float64bits", "slices.overlaps[string]", "slices.overlaps[int]", "internal/bytealg.abigen_runtime_cmpstring"], unfollowed := true, recurses := true, apart := false, narrowed := true }
def MergeNilUptoSaid : Prop := mergeNilUptoRow.holds Tryz.pinned (OpenSpec.upto mergeNilSpec)

/-- 'cloisonnelaw13.MergeOwn', WHERE WHAT IT READS IS OF BULK AT MOST 1048576: true; the input reads as it did. -/
def mergeOwnUptoRow : OpenClaim := { program := "ytnlmnejellipdaagreat", sum := "4bde8a03a9f2dcb739380509f0bc1b4bcb5c00b5fca77046e87fe45226215ae7", func := "cloisonne/cloisonnelaw13.MergeOwn", spec := "mergeOwn", inPlace := ["math.Float64frombits", "math.Float64bits", "slices.overlaps[string]", "slices.overlaps[int]", "internal/bytealg.abigen_runtime_cmpstring", "slices.overlaps[cloisonne/api.Write]"], unfollowed := true, recurses := true, apart := false, narrowed := true }
def MergeOwnUptoSaid : Prop := mergeOwnUptoRow.holds Tryz.pinned (OpenSpec.upto mergeOwnSpec)

/-- 'cloisonnelaw13.MergeRows', WHERE WHAT IT READS IS OF BULK AT MOST 1048576: true; the input reads as it did. -/
def mergeRowsUptoRow : OpenClaim := { program := "ytnlmnejellipdaagreat", sum := "4bde8a03a9f2dcb739380509f0bc1b4bcb5c00b5fca77046e87fe45226215ae7", func := "cloisonne/cloisonnelaw13.MergeRows", spec := "mergeRows", inPlace := ["math.Float64frombits", "math.Float64bits", "slices.overlaps[string]", "slices.overlaps[int]", "internal/bytealg.abigen_runtime_cmpstring", "slices.overlaps[cloisonne/api.Write]"], unfollowed := true, recurses := true, apart := false, narrowed := true }
def MergeRowsUptoSaid : Prop := mergeRowsUptoRow.holds Tryz.pinned (OpenSpec.upto mergeRowsSpec)

end Rows
end Go.Proofs.YtnlmnejellipdaaGreat
