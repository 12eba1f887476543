/-
  No cell of these rows narrows 'for every input' (looked for: loops, veiled, ifaces, maps, wideKeys, modest, calm, conditions, laid).
  DERIVED. THE GIVEN ROWS OF THIS SEAT. 2 by the template 'for every input the law returns true; each argument reads behind the call as it read before'; 0 by the template 'total and deterministic' (their statements: YtjlmpmobankidaaGreatTotals.lean).
  GIVEN WITH THE SEED: the statements are not yours to turn. If you find one false, say at which input.
  Laid BY PROGRAM, IN A SANDBOX (cutbox-rows.mjs): the forced cells as the released guide's own fill.sh prints them over the translation 50fdbc7000c89c12… (all of the seat's roots in one cut). By AI agents, Wed Nov 11 2026. No macro, syntax, notation, axiom, sorry.
-/
import Derived.Test.YtjlmpmobankidaaGreatChecked
import GoSem.Claim
import GoSem.ClaimJoined
import GoSem.ClaimMapViews
import Derived.JoinedTies
import Derived.KernelRfl
namespace Go.Proofs.YtjlmpmobankidaaGreat
/- THE CELL 'sum', in the pinned program and in every row, IS THE sha256 OF THE DUMP (.gsa) THAT YtjlmpmobankidaaGreatProg.lean LOADS. Nothing in Lean hashes anything: it is a label: what it is worth is what the hold of that sum in a sandbox is worth. -/
noncomputable def Tryz.pinned : Pinned := { name := "ytjlmpmobankidaagreat", sum := "50fdbc7000c89c126388719bcceb8b23fb037e9cf5cd0635cd3112ab6e842ed8", checked := Tryz.checked }
namespace Rows
def none {H : Type} : Left H := { results := [], args := [] }

/-- 'cloisonnelaw11.RoomNil': WHATEVER THE INPUT: true; the input reads as it did. -/
def roomNilSpec : ChangeSpec := { name := "roomNil", fn := fun _ => fun
  | [d1, d2] => { results := [.lit (.bool true)], args := [d1, d2] }
  | _ => none }
def roomNilRow : OpenClaim := { program := "ytjlmpmobankidaagreat", sum := "50fdbc7000c89c126388719bcceb8b23fb037e9cf5cd0635cd3112ab6e842ed8", func := "cloisonne/cloisonnelaw11.RoomNil", spec := "roomNil", inPlace := ["math.Float64frombits", "math.Float64bits", "slices.overlaps[string]", "slices.overlaps[int]"], unfollowed := true, recurses := true, apart := false }
def RoomNilSaid : Prop := roomNilRow.holds Tryz.pinned (OpenSpec.ofChange roomNilSpec)

/-- ITS FALSE NEIGHBOUR: 'it returns false'. Refute it at one input. -/
def roomNilWrong : ChangeSpec := { name := "roomNil", fn := fun _ => fun
  | [d1, d2] => { results := [.lit (.bool false)], args := [d1, d2] }
  | _ => none }
def RoomNilWrongFalsely : Prop := roomNilRow.holds Tryz.pinned (OpenSpec.ofChange roomNilWrong)

/-- 'cloisonnelaw13.MergeNil': WHATEVER THE INPUT: true; the input reads as it did. -/
def mergeNilSpec : ChangeSpec := { name := "mergeNil", fn := fun _ => fun
  | [d1, d2, d3, d4] => { results := [.lit (.bool true)], args := [d1, d2, d3, d4] }
  | _ => none }
def mergeNilRow : OpenClaim := { program := "ytjlmpmobankidaagreat", sum := "50fdbc7000c89c126388719bcceb8b23fb037e9cf5cd0635cd3112ab6e842ed8", func := "cloisonne/cloisonnelaw13.MergeNil", spec := "mergeNil", inPlace := ["math.Float64frombits", "math.Float64bits", "slices.overlaps[string]", "slices.overlaps[int]", "internal/bytealg.abigen_runtime_cmpstring"], unfollowed := true, recurses := true, apart := false }
def MergeNilSaid : Prop := mergeNilRow.holds Tryz.pinned (OpenSpec.ofChange mergeNilSpec)

/-- ITS FALSE NEIGHBOUR: 'it returns false'. Refute it at one input. -/
def mergeNilWrong : ChangeSpec := { name := "mergeNil", fn := fun _ => fun
  | [d1, d2, d3, d4] => { results := [.lit (.bool false)], args := [d1, d2, d3, d4] }
  | _ => none }
def MergeNilWrongFalsely : Prop := mergeNilRow.holds Tryz.pinned (OpenSpec.ofChange mergeNilWrong)

/- THE SECOND FORM. 'bulk': how many values and letters a reading holds, each counted each time it is reached (what is shared counts as often as it is met; a slice's spare places count too). A statement '..UptoSaid' is the law's where the arguments, and the package variables that the reading takes, are together of bulk at most 1048576: NARROWER than '..Said'. Prove '..Said' where nothing that the law and all that it calls make is longer than what came in: it says more and counts as full. Else prove '..UptoSaid'. A law counts once. -/
mutual
def uptoBulk {H : Type} : DataW H → Nat
  | .lit (.string bytes) => bytes.length + 1
  | .lit _ => 1
  | .nil => 1
  | .ptr d => uptoBulk d + 1
  | .slice elems spare => uptoBulkAll elems + uptoBulkAll spare + 1
  | .agg parts => uptoBulkAll parts + 1
  | .iface _ d => uptoBulk d + 1
  | .map entries => uptoBulkEntries entries + 1
  | .held _ => 1
def uptoBulkAll {H : Type} : List (DataW H) → Nat
  | [] => 0
  | d :: r => uptoBulk d + uptoBulkAll r
def uptoBulkEntries {H : Type} : List (Lit × DataW H) → Nat
  | [] => 0
  | x :: r => uptoBulkEntry x + uptoBulkEntries r
def uptoBulkEntry {H : Type} : Lit × DataW H → Nat
  | (.string bytes, d) => bytes.length + uptoBulk d + 1
  | (_, d) => uptoBulk d + 1
 end
def uptoSmall : (H : Type) → List (DataW H) → Bool := fun _ ds => decide (uptoBulkAll ds ≤ 1048576)
def OpenSpec.upto (s : _root_.Go.ChangeSpec) : _root_.Go.OpenSpec := { _root_.Go.OpenSpec.ofChange s with cond := some uptoSmall }

/-- 'cloisonnelaw11.RoomNil', WHERE WHAT IT READS IS OF BULK AT MOST 1048576: true; the input reads as it did. -/
def roomNilUptoRow : OpenClaim := { program := "ytjlmpmobankidaagreat", sum := "50fdbc7000c89c126388719bcceb8b23fb037e9cf5cd0635cd3112ab6e842ed8", func := "cloisonne/cloisonnelaw11.RoomNil", spec := "roomNil", inPlace := ["math.Float64frombits", "math.Float64bits", "slices.overlaps[string]", "slices.overlaps[int]"], unfollowed := true, recurses := true, apart := false, narrowed := true }
def RoomNilUptoSaid : Prop := roomNilUptoRow.holds Tryz.pinned (OpenSpec.upto roomNilSpec)

/-- 'cloisonnelaw13.MergeNil', WHERE WHAT IT READS IS OF BULK AT MOST 1048576: true; the input reads as it did. -/
def mergeNilUptoRow : OpenClaim := { program := "ytjlmpmobankidaagreat", sum := "50fdbc7000c89c126388719bcceb8b23fb037e9cf5cd0635cd3112ab6e842ed8", func := "cloisonne/cloisonnelaw13.MergeNil", spec := "mergeNil", inPlace := ["math.Float64frombits", "math.Float64bits", "slices.overlaps[string]", "slices.overlaps[int]", "internal/bytealg.abigen_runtime_cmpstring"], unfollowed := true, recurses := true, apart := false, narrowed := true }
def MergeNilUptoSaid : Prop := mergeNilUptoRow.holds Tryz.pinned (OpenSpec.upto mergeNilSpec)

end Rows
end Go.Proofs.YtjlmpmobankidaaGreat
