/-
  No cell of these rows narrows 'for every input' (looked for: loops, veiled, ifaces, maps, wideKeys, modest, calm, conditions, laid).
  DERIVED. THE GIVEN ROWS OF THIS SEAT. 4 by the template 'for every input the law returns true; each argument reads behind the call as it read before'; 0 by the template 'total and deterministic' (their statements: YtlldfkapaeidoaaTotals.lean).
  GIVEN WITH THE SEED: the statements are not yours to turn. If you find one false, say at which input.
  Laid BY PROGRAM, IN A SANDBOX (cutbox-rows.mjs): the forced cells as the released guide's own fill.sh prints them over the translation d5cd52da975ce3ac… (all of the seat's roots in one cut). By AI agents, Wed Nov 11 2026. No macro, syntax, notation, axiom, sorry.
-/
import Derived.Test.YtlldfkapaeidoaaChecked
import GoSem.Claim
import GoSem.ClaimJoined
import GoSem.ClaimMapViews
import Derived.JoinedTies
import Derived.KernelRfl
namespace Go.Proofs.Ytlldfkapaeidoaa
/- THE CELL 'sum', in the pinned program and in every row, IS THE sha256 OF THE DUMP (.gsa) THAT YtlldfkapaeidoaaProg.lean LOADS. Nothing in Lean hashes anything: it is a label: what it is worth is what the hold of that sum in a sandbox is worth. -/
noncomputable def Try.pinned : Pinned := { name := "ytlldfkapaeidoaa", sum := "d5cd52da975ce3acd27d335de87473faff3e348c860e4f7a5e78a32262f4d25c", checked := Try.checked }
namespace Rows
def none {H : Type} : Left H := { results := [], args := [] }

/-- 'cloisonnelaw30.DiffApplies': WHATEVER THE INPUT: true; the input reads as it did. -/
def diffAppliesSpec : ChangeSpec := { name := "diffApplies", fn := fun _ => fun
  | [d1, d2, d3] => { results := [.lit (.bool true)], args := [d1, d2, d3] }
  | _ => none }
def diffAppliesRow : OpenClaim := { program := "ytlldfkapaeidoaa", sum := "d5cd52da975ce3acd27d335de87473faff3e348c860e4f7a5e78a32262f4d25c", func := "cloisonne/cloisonnelaw30.DiffApplies", spec := "diffApplies", inPlace := ["math.Float64frombits", "math.Float64bits", "internal/bytealg.abigen_runtime_cmpstring"], unfollowed := true, recurses := true, apart := false }
def DiffAppliesSaid : Prop := diffAppliesRow.holds Try.pinned (OpenSpec.ofChange diffAppliesSpec)

/-- ITS FALSE NEIGHBOUR: 'it returns false'. Refute it at one input. -/
def diffAppliesWrong : ChangeSpec := { name := "diffApplies", fn := fun _ => fun
  | [d1, d2, d3] => { results := [.lit (.bool false)], args := [d1, d2, d3] }
  | _ => none }
def DiffAppliesWrongFalsely : Prop := diffAppliesRow.holds Try.pinned (OpenSpec.ofChange diffAppliesWrong)

/-- 'cloisonnelaw30.DiffBase': WHATEVER THE INPUT: true; the input reads as it did. -/
def diffBaseSpec : ChangeSpec := { name := "diffBase", fn := fun _ => fun
  | [d1, d2] => { results := [.lit (.bool true)], args := [d1, d2] }
  | _ => none }
def diffBaseRow : OpenClaim := { program := "ytlldfkapaeidoaa", sum := "d5cd52da975ce3acd27d335de87473faff3e348c860e4f7a5e78a32262f4d25c", func := "cloisonne/cloisonnelaw30.DiffBase", spec := "diffBase", inPlace := ["math.Float64frombits", "math.Float64bits", "internal/bytealg.abigen_runtime_cmpstring"], unfollowed := true, recurses := true, apart := false }
def DiffBaseSaid : Prop := diffBaseRow.holds Try.pinned (OpenSpec.ofChange diffBaseSpec)

/-- ITS FALSE NEIGHBOUR: 'it returns false'. Refute it at one input. -/
def diffBaseWrong : ChangeSpec := { name := "diffBase", fn := fun _ => fun
  | [d1, d2] => { results := [.lit (.bool false)], args := [d1, d2] }
  | _ => none }
def DiffBaseWrongFalsely : Prop := diffBaseRow.holds Try.pinned (OpenSpec.ofChange diffBaseWrong)

/-- 'cloisonnelaw30.DiffMerges': WHATEVER THE INPUT: true; the input reads as it did. -/
def diffMergesSpec : ChangeSpec := { name := "diffMerges", fn := fun _ => fun
  | [d1, d2, d3] => { results := [.lit (.bool true)], args := [d1, d2, d3] }
  | _ => none }
def diffMergesRow : OpenClaim := { program := "ytlldfkapaeidoaa", sum := "d5cd52da975ce3acd27d335de87473faff3e348c860e4f7a5e78a32262f4d25c", func := "cloisonne/cloisonnelaw30.DiffMerges", spec := "diffMerges", inPlace := ["math.Float64frombits", "math.Float64bits", "internal/bytealg.abigen_runtime_cmpstring"], unfollowed := true, recurses := true, apart := false }
def DiffMergesSaid : Prop := diffMergesRow.holds Try.pinned (OpenSpec.ofChange diffMergesSpec)

/-- ITS FALSE NEIGHBOUR: 'it returns false'. Refute it at one input. -/
def diffMergesWrong : ChangeSpec := { name := "diffMerges", fn := fun _ => fun
  | [d1, d2, d3] => { results := [.lit (.bool false)], args := [d1, d2, d3] }
  | _ => none }
def DiffMergesWrongFalsely : Prop := diffMergesRow.holds Try.pinned (OpenSpec.ofChange diffMergesWrong)

/-- 'cloisonnelaw30.DiffWrites': WHATEVER THE INPUT: true; the input reads as it did. -/
def diffWritesSpec : ChangeSpec := { name := "diffWrites", fn := fun _ => fun
  | [d1, d2, d3] => { results := [.lit (.bool true)], args := [d1, d2, d3] }
  | _ => none }
def diffWritesRow : OpenClaim := { program := "ytlldfkapaeidoaa", sum := "d5cd52da975ce3acd27d335de87473faff3e348c860e4f7a5e78a32262f4d25c", func := "cloisonne/cloisonnelaw30.DiffWrites", spec := "diffWrites", inPlace := ["math.Float64frombits", "math.Float64bits", "internal/bytealg.abigen_runtime_cmpstring"], unfollowed := true, recurses := true, apart := false }
def DiffWritesSaid : Prop := diffWritesRow.holds Try.pinned (OpenSpec.ofChange diffWritesSpec)

/-- ITS FALSE NEIGHBOUR: 'it returns false'. Refute it at one input. -/
def diffWritesWrong : ChangeSpec := { name := "diffWrites", fn := fun _ => fun
  | [d1, d2, d3] => { results := [.lit (.bool false)], args := [d1, d2, d3] }
  | _ => none }
def DiffWritesWrongFalsely : Prop := diffWritesRow.holds Try.pinned (OpenSpec.ofChange diffWritesWrong)

/- THE SECOND FORM. 'bulk': how many values and letters a reading holds, each counted each time it is reached (what is shared counts as often as it is met; a slice's spare places count too). A statement '..UptoSaid' is the law's where the arguments, and the package variables that the reading takes, are together of bulk at most 1048576: NARROWER than '..Said'. Prove '..Said' where nothing that the law and all that it calls make is longer than what came in: it says more and counts as full. Else prove '..UptoSaid'. A law counts once. -/
mutual
def uptoBulk {H : Type} : DataW H → Nat
  | .lit (.string bytes) => bytes.length + 1
  | .lit _ => 1
  | .nil => 1
  | .ptr d => uptoBulk d + 1
  | .slice elems spare => uptoBulkAll elems + uptoBulkAll spare + 1
  | .agg parts => uptoBulkAll parts + 1
  | .iface _ d => uptoBulk d + 1
  | .map entries => uptoBulkEntries entries + 1
  | .held _ => 1
def uptoBulkAll {H : Type} : List (DataW H) → Nat
  | [] => 0
  | d :: r => uptoBulk d + uptoBulkAll r
def uptoBulkEntries {H : Type} : List (Lit × DataW H) → Nat
  | [] => 0
  | x :: r => uptoBulkEntry x + uptoBulkEntries r
def uptoBulkEntry {H : Type} : Lit × DataW H → Nat
  | (.string bytes, d) => bytes.length + uptoBulk d + 1
  | (_, d) => uptoBulk d + 1
 end
def uptoSmall : (H : Type) → List (DataW H) → Bool := fun _ ds => decide (uptoBulkAll ds ≤ 1048576)
def OpenSpec.upto (s : _root_.Go.ChangeSpec) : _root_.Go.OpenSpec := { _root_.Go.OpenSpec.ofChange s with cond := some uptoSmall }

/-- 'cloisonnelaw30.DiffApplies', WHERE WHAT IT READS IS OF BULK AT MOST 1048576: true; the input reads as it did. -/
def diffAppliesUptoRow : OpenClaim := { program := "ytlldfkapaeidoaa", sum := "d5cd52da975ce3acd27d335de87473faff3e348c860e4f7a5e78a32262f4d25c", func := "cloisonne/cloisonnelaw30.DiffApplies", spec := "diffApplies", inPlace := ["math.Float64frombits", "math.Float64bits", "internal/bytealg.abigen_runtime_cmpstring"], unfollowed := true, recurses := true, apart := false, narrowed := true }
def DiffAppliesUptoSaid : Prop := diffAppliesUptoRow.holds Try.pinned (OpenSpec.upto diffAppliesSpec)

/-- 'cloisonnelaw30.DiffBase', WHERE WHAT IT READS IS OF BULK AT MOST 1048576: true; the input reads as it did. -/
def diffBaseUptoRow : OpenClaim := { program := "ytlldfkapaeidoaa", sum := "d5cd52da975ce3acd27d335de87473faff3e348c860e4f7a5e78a32262f4d25c", func := "cloisonne/cloisonnelaw30.DiffBase", spec := "diffBase", inPlace := ["math.Float64frombits", "math.Float64bits", "internal/bytealg.abigen_runtime_cmpstring"], unfollowed := true, recurses := true, apart := false, narrowed := true }
def DiffBaseUptoSaid : Prop := diffBaseUptoRow.holds Try.pinned (OpenSpec.upto diffBaseSpec)

/-- 'cloisonnelaw30.DiffMerges', WHERE WHAT IT READS IS OF BULK AT MOST 1048576: true; the input reads as it did. -/
def diffMergesUptoRow : OpenClaim := { program := "ytlldfkapaeidoaa", sum := "d5cd52da975ce3acd27d335de87473faff3e348c860e4f7a5e78a32262f4d25c", func := "cloisonne/cloisonnelaw30.DiffMerges", spec := "diffMerges", inPlace := ["math.Float64frombits", "math.Float64bits", "internal/bytealg.abigen_runtime_cmpstring"], unfollowed := true, recurses := true, apart := false, narrowed := true }
def DiffMergesUptoSaid : Prop := diffMergesUptoRow.holds Try.pinned (OpenSpec.upto diffMergesSpec)

/-- 'cloisonnelaw30.DiffWrites', WHERE WHAT IT READS IS OF BULK AT MOST 1048576: true; the input reads as it did. -/
def diffWritesUptoRow : OpenClaim := { program := "ytlldfkapaeidoaa", sum := "d5cd52da975ce3acd27d335de87473faff3e348c860e4f7a5e78a32262f4d25c", func := "cloisonne/cloisonnelaw30.DiffWrites", spec := "diffWrites", inPlace := ["math.Float64frombits", "math.Float64bits", "internal/bytealg.abigen_runtime_cmpstring"], unfollowed := true, recurses := true, apart := false, narrowed := true }
def DiffWritesUptoSaid : Prop := diffWritesUptoRow.holds Try.pinned (OpenSpec.upto diffWritesSpec)

end Rows
end Go.Proofs.Ytlldfkapaeidoaa
