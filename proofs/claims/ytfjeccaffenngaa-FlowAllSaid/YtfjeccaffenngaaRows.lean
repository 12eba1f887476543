/-
  No cell of these rows narrows 'for every input' (looked for: loops, veiled, ifaces, maps, wideKeys, modest, calm, conditions, laid).
  DERIVED. THE GIVEN ROWS OF THIS SEAT. 5 by the template 'for every input the law returns true; each argument reads behind the call as it read before'; 0 by the template 'total and deterministic' (their statements: YtfjeccaffenngaaTotals.lean).
  GIVEN WITH THE SEED: the statements are not yours to turn. If you find one false, say at which input.
  Laid BY PROGRAM, IN A SANDBOX (cutbox-rows.mjs): the forced cells as the released guide's own fill.sh prints them over the translation f68010eb32ab9d4a… (all of the seat's roots in one cut). By AI agents, Wed Nov 11 2026. No macro, syntax, notation, axiom, sorry.
-/
import Derived.Test.YtfjeccaffenngaaChecked
import GoSem.Claim
import GoSem.ClaimJoined
import GoSem.ClaimMapViews
import Derived.JoinedTies
import Derived.KernelRfl
namespace Go.Proofs.Ytfjeccaffenngaa
/- THE CELL 'sum', in the pinned program and in every row, IS THE sha256 OF THE DUMP (.gsa) THAT YtfjeccaffenngaaProg.lean LOADS. Nothing in Lean hashes anything: it is a label: what it is worth is what the hold of that sum in a sandbox is worth. -/
noncomputable def Try.pinned : Pinned := { name := "ytfjeccaffenngaa", sum := "f68010eb32ab9d4a06f711789cf54b96d3b8a7b81e05245626ad91445de9dbe3", checked := Try.checked }
namespace Rows
def none {H : Type} : Left H := { results := [], args := [] }

/-- 'cloisonnelaw28.FlowMore': WHATEVER THE INPUT: true; the input reads as it did. -/
def flowMoreSpec : ChangeSpec := { name := "flowMore", fn := fun _ => fun
  | [d1, d2, d3, d4, d5, d6, d7] => { results := [.lit (.bool true)], args := [d1, d2, d3, d4, d5, d6, d7] }
  | _ => none }
def flowMoreRow : OpenClaim := { program := "ytfjeccaffenngaa", sum := "f68010eb32ab9d4a06f711789cf54b96d3b8a7b81e05245626ad91445de9dbe3", func := "cloisonne/cloisonnelaw28.FlowMore", spec := "flowMore", unfollowed := true, recurses := true, apart := false }
def FlowMoreSaid : Prop := flowMoreRow.holds Try.pinned (OpenSpec.ofChange flowMoreSpec)

/-- ITS FALSE NEIGHBOUR: 'it returns false'. Refute it at one input. -/
def flowMoreWrong : ChangeSpec := { name := "flowMore", fn := fun _ => fun
  | [d1, d2, d3, d4, d5, d6, d7] => { results := [.lit (.bool false)], args := [d1, d2, d3, d4, d5, d6, d7] }
  | _ => none }
def FlowMoreWrongFalsely : Prop := flowMoreRow.holds Try.pinned (OpenSpec.ofChange flowMoreWrong)

/-- 'cloisonnelaw28.FlowComes': WHATEVER THE INPUT: true; the input reads as it did. -/
def flowComesSpec : ChangeSpec := { name := "flowComes", fn := fun _ => fun
  | [d1, d2, d3, d4, d5] => { results := [.lit (.bool true)], args := [d1, d2, d3, d4, d5] }
  | _ => none }
def flowComesRow : OpenClaim := { program := "ytfjeccaffenngaa", sum := "f68010eb32ab9d4a06f711789cf54b96d3b8a7b81e05245626ad91445de9dbe3", func := "cloisonne/cloisonnelaw28.FlowComes", spec := "flowComes", unfollowed := true, recurses := true, apart := false }
def FlowComesSaid : Prop := flowComesRow.holds Try.pinned (OpenSpec.ofChange flowComesSpec)

/-- ITS FALSE NEIGHBOUR: 'it returns false'. Refute it at one input. -/
def flowComesWrong : ChangeSpec := { name := "flowComes", fn := fun _ => fun
  | [d1, d2, d3, d4, d5] => { results := [.lit (.bool false)], args := [d1, d2, d3, d4, d5] }
  | _ => none }
def FlowComesWrongFalsely : Prop := flowComesRow.holds Try.pinned (OpenSpec.ofChange flowComesWrong)

/-- 'cloisonnelaw28.FlowNil': WHATEVER THE INPUT: true; the input reads as it did. -/
def flowNilSpec : ChangeSpec := { name := "flowNil", fn := fun _ => fun
  | [d1, d2, d3, d4] => { results := [.lit (.bool true)], args := [d1, d2, d3, d4] }
  | _ => none }
def flowNilRow : OpenClaim := { program := "ytfjeccaffenngaa", sum := "f68010eb32ab9d4a06f711789cf54b96d3b8a7b81e05245626ad91445de9dbe3", func := "cloisonne/cloisonnelaw28.FlowNil", spec := "flowNil", unfollowed := true, recurses := true, apart := false }
def FlowNilSaid : Prop := flowNilRow.holds Try.pinned (OpenSpec.ofChange flowNilSpec)

/-- ITS FALSE NEIGHBOUR: 'it returns false'. Refute it at one input. -/
def flowNilWrong : ChangeSpec := { name := "flowNil", fn := fun _ => fun
  | [d1, d2, d3, d4] => { results := [.lit (.bool false)], args := [d1, d2, d3, d4] }
  | _ => none }
def FlowNilWrongFalsely : Prop := flowNilRow.holds Try.pinned (OpenSpec.ofChange flowNilWrong)

/-- 'cloisonnelaw28.FlowTrusts': WHATEVER THE INPUT: true; the input reads as it did. -/
def flowTrustsSpec : ChangeSpec := { name := "flowTrusts", fn := fun _ => fun
  | [d1, d2, d3, d4] => { results := [.lit (.bool true)], args := [d1, d2, d3, d4] }
  | _ => none }
def flowTrustsRow : OpenClaim := { program := "ytfjeccaffenngaa", sum := "f68010eb32ab9d4a06f711789cf54b96d3b8a7b81e05245626ad91445de9dbe3", func := "cloisonne/cloisonnelaw28.FlowTrusts", spec := "flowTrusts", unfollowed := true, recurses := true, apart := false }
def FlowTrustsSaid : Prop := flowTrustsRow.holds Try.pinned (OpenSpec.ofChange flowTrustsSpec)

/-- ITS FALSE NEIGHBOUR: 'it returns false'. Refute it at one input. -/
def flowTrustsWrong : ChangeSpec := { name := "flowTrusts", fn := fun _ => fun
  | [d1, d2, d3, d4] => { results := [.lit (.bool false)], args := [d1, d2, d3, d4] }
  | _ => none }
def FlowTrustsWrongFalsely : Prop := flowTrustsRow.holds Try.pinned (OpenSpec.ofChange flowTrustsWrong)

/-- 'cloisonnelaw28.FlowAll': WHATEVER THE INPUT: true; the input reads as it did. -/
def flowAllSpec : ChangeSpec := { name := "flowAll", fn := fun _ => fun
  | [d1, d2, d3, d4] => { results := [.lit (.bool true)], args := [d1, d2, d3, d4] }
  | _ => none }
def flowAllRow : OpenClaim := { program := "ytfjeccaffenngaa", sum := "f68010eb32ab9d4a06f711789cf54b96d3b8a7b81e05245626ad91445de9dbe3", func := "cloisonne/cloisonnelaw28.FlowAll", spec := "flowAll", unfollowed := true, recurses := true, apart := false }
def FlowAllSaid : Prop := flowAllRow.holds Try.pinned (OpenSpec.ofChange flowAllSpec)

/-- ITS FALSE NEIGHBOUR: 'it returns false'. Refute it at one input. -/
def flowAllWrong : ChangeSpec := { name := "flowAll", fn := fun _ => fun
  | [d1, d2, d3, d4] => { results := [.lit (.bool false)], args := [d1, d2, d3, d4] }
  | _ => none }
def FlowAllWrongFalsely : Prop := flowAllRow.holds Try.pinned (OpenSpec.ofChange flowAllWrong)

/- THE SECOND FORM. 'bulk': how many values and letters a reading holds, each counted each time it is reached (what is shared counts as often as it is met; a slice's spare places count too). A statement '..UptoSaid' is the law's where the arguments, and the package variables that the reading takes, are together of bulk at most 1048576: NARROWER than '..Said'. Prove '..Said' where nothing that the law and all that it calls make is longer than what came in: it says more and counts as full. Else prove '..UptoSaid'. A law counts once. -/
mutual
def uptoBulk {H : Type} : DataW H → Nat
  | .lit (.string bytes) => bytes.length + 1
  | .lit _ => 1
  | .nil => 1
  | .ptr d => uptoBulk d + 1
  | .slice elems spare => uptoBulkAll elems + uptoBulkAll spare + 1
  | .agg parts => uptoBulkAll parts + 1
  | .iface _ d => uptoBulk d + 1
  | .map entries => uptoBulkEntries entries + 1
  | .held _ => 1
def uptoBulkAll {H : Type} : List (DataW H) → Nat
  | [] => 0
  | d :: r => uptoBulk d + uptoBulkAll r
def uptoBulkEntries {H : Type} : List (Lit × DataW H) → Nat
  | [] => 0
  | x :: r => uptoBulkEntry x + uptoBulkEntries r
def uptoBulkEntry {H : Type} : Lit × DataW H → Nat
  | (.string bytes, d) => bytes.length + uptoBulk d + 1
  | (_, d) => uptoBulk d + 1
 end
def uptoSmall : (H : Type) → List (DataW H) → Bool := fun _ ds => decide (uptoBulkAll ds ≤ 1048576)
def OpenSpec.upto (s : _root_.Go.ChangeSpec) : _root_.Go.OpenSpec := { _root_.Go.OpenSpec.ofChange s with cond := some uptoSmall }

/-- 'cloisonnelaw28.FlowMore', WHERE WHAT IT READS IS OF BULK AT MOST 1048576: true; the input reads as it did. -/
def flowMoreUptoRow : OpenClaim := { program := "ytfjeccaffenngaa", sum := "f68010eb32ab9d4a06f711789cf54b96d3b8a7b81e05245626ad91445de9dbe3", func := "cloisonne/cloisonnelaw28.FlowMore", spec := "flowMore", unfollowed := true, recurses := true, apart := false, narrowed := true }
def FlowMoreUptoSaid : Prop := flowMoreUptoRow.holds Try.pinned (OpenSpec.upto flowMoreSpec)

/-- 'cloisonnelaw28.FlowComes', WHERE WHAT IT READS IS OF BULK AT MOST 1048576: true; the input reads as it did. -/
def flowComesUptoRow : OpenClaim := { program := "ytfjeccaffenngaa", sum := "f68010eb32ab9d4a06f711789cf54b96d3b8a7b81e05245626ad91445de9dbe3", func := "cloisonne/cloisonnelaw28.FlowComes", spec := "flowComes", unfollowed := true, recurses := true, apart := false, narrowed := true }
def FlowComesUptoSaid : Prop := flowComesUptoRow.holds Try.pinned (OpenSpec.upto flowComesSpec)

/-- 'cloisonnelaw28.FlowNil', WHERE WHAT IT READS IS OF BULK AT MOST 1048576: true; the input reads as it did. -/
def flowNilUptoRow : OpenClaim := { program := "ytfjeccaffenngaa", sum := "f68010eb32ab9d4a06f711789cf54b96d3b8a7b81e05245626ad91445de9dbe3", func := "cloisonne/cloisonnelaw28.FlowNil", spec := "flowNil", unfollowed := true, recurses := true, apart := false, narrowed := true }
def FlowNilUptoSaid : Prop := flowNilUptoRow.holds Try.pinned (OpenSpec.upto flowNilSpec)

/-- 'cloisonnelaw28.FlowTrusts', WHERE WHAT IT READS IS OF BULK AT MOST 1048576: true; the input reads as it did. -/
def flowTrustsUptoRow : OpenClaim := { program := "ytfjeccaffenngaa", sum := "f68010eb32ab9d4a06f711789cf54b96d3b8a7b81e05245626ad91445de9dbe3", func := "cloisonne/cloisonnelaw28.FlowTrusts", spec := "flowTrusts", unfollowed := true, recurses := true, apart := false, narrowed := true }
def FlowTrustsUptoSaid : Prop := flowTrustsUptoRow.holds Try.pinned (OpenSpec.upto flowTrustsSpec)

/-- 'cloisonnelaw28.FlowAll', WHERE WHAT IT READS IS OF BULK AT MOST 1048576: true; the input reads as it did. -/
def flowAllUptoRow : OpenClaim := { program := "ytfjeccaffenngaa", sum := "f68010eb32ab9d4a06f711789cf54b96d3b8a7b81e05245626ad91445de9dbe3", func := "cloisonne/cloisonnelaw28.FlowAll", spec := "flowAll", unfollowed := true, recurses := true, apart := false, narrowed := true }
def FlowAllUptoSaid : Prop := flowAllUptoRow.holds Try.pinned (OpenSpec.upto flowAllSpec)

end Rows
end Go.Proofs.Ytfjeccaffenngaa
