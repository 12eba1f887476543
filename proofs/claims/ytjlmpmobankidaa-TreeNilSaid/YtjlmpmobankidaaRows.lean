/-
  No cell of these rows narrows 'for every input' (looked for: loops, veiled, ifaces, maps, wideKeys, modest, calm, conditions, laid).
  DERIVED. THE GIVEN ROWS OF THIS SEAT. 2 by the template 'for every input the law returns true; each argument reads behind the call as it read before'; 0 by the template 'total and deterministic' (their statements: YtjlmpmobankidaaTotals.lean).
  GIVEN WITH THE SEED: the statements are not yours to turn. If you find one false, say at which input.
  Laid BY PROGRAM, IN A SANDBOX (cutbox-rows.mjs): the forced cells as the released guide's own fill.sh prints them over the translation 91efe3fb6e029e54… (all of the seat's roots in one cut). By AI agents, Wed Nov 11 2026. No macro, syntax, notation, axiom, sorry.
-/
import Derived.Test.YtjlmpmobankidaaChecked
import GoSem.Claim
import GoSem.ClaimJoined
import GoSem.ClaimMapViews
import Derived.JoinedTies
import Derived.KernelRfl
namespace Go.Proofs.Ytjlmpmobankidaa
/- THE CELL 'sum', in the pinned program and in every row, IS THE sha256 OF THE DUMP (.gsa) THAT YtjlmpmobankidaaProg.lean LOADS. Nothing in Lean hashes anything: it is a label: what it is worth is what the hold of that sum in a sandbox is worth. -/
noncomputable def Try.pinned : Pinned := { name := "ytjlmpmobankidaa", sum := "91efe3fb6e029e54bfeb2cf442010cee746567b221524224170d3677bddce30d", checked := Try.checked }
namespace Rows
def none {H : Type} : Left H := { results := [], args := [] }

/-- 'cloisonnelaw12.WsetNil': WHATEVER THE INPUT: true; the input reads as it did. -/
def wsetNilSpec : ChangeSpec := { name := "wsetNil", fn := fun _ => fun
  | [d] => { results := [.lit (.bool true)], args := [d] }
  | _ => none }
def wsetNilRow : OpenClaim := { program := "ytjlmpmobankidaa", sum := "91efe3fb6e029e54bfeb2cf442010cee746567b221524224170d3677bddce30d", func := "cloisonne/cloisonnelaw12.WsetNil", spec := "wsetNil", inPlace := ["math.Float64frombits", "math.Float64bits", "internal/bytealg.abigen_runtime_cmpstring", "slices.overlaps[cloisonne/api.Write]"], unfollowed := true, recurses := true, apart := false }
def WsetNilSaid : Prop := wsetNilRow.holds Try.pinned (OpenSpec.ofChange wsetNilSpec)

/-- ITS FALSE NEIGHBOUR: 'it returns false'. Refute it at one input. -/
def wsetNilWrong : ChangeSpec := { name := "wsetNil", fn := fun _ => fun
  | [d] => { results := [.lit (.bool false)], args := [d] }
  | _ => none }
def WsetNilWrongFalsely : Prop := wsetNilRow.holds Try.pinned (OpenSpec.ofChange wsetNilWrong)

/-- 'cloisonnelaw08.TreeNil': WHATEVER THE INPUT: true; the input reads as it did. -/
def treeNilSpec : ChangeSpec := { name := "treeNil", fn := fun _ => fun
  | [d1, d2] => { results := [.lit (.bool true)], args := [d1, d2] }
  | _ => none }
def treeNilRow : OpenClaim := { program := "ytjlmpmobankidaa", sum := "91efe3fb6e029e54bfeb2cf442010cee746567b221524224170d3677bddce30d", func := "cloisonne/cloisonnelaw08.TreeNil", spec := "treeNil", inPlace := ["slices.overlaps[string]", "slices.overlaps[int]"], recurses := true, apart := false }
def TreeNilSaid : Prop := treeNilRow.holds Try.pinned (OpenSpec.ofChange treeNilSpec)

/-- ITS FALSE NEIGHBOUR: 'it returns false'. Refute it at one input. -/
def treeNilWrong : ChangeSpec := { name := "treeNil", fn := fun _ => fun
  | [d1, d2] => { results := [.lit (.bool false)], args := [d1, d2] }
  | _ => none }
def TreeNilWrongFalsely : Prop := treeNilRow.holds Try.pinned (OpenSpec.ofChange treeNilWrong)

/- THE SECOND FORM. 'bulk': how many values and letters a reading holds, each counted each time it is reached (what is shared counts as often as it is met; a slice's spare places count too). A statement '..UptoSaid' is the law's where the arguments, and the package variables that the reading takes, are together of bulk at most 1048576: NARROWER than '..Said'. Prove '..Said' where nothing that the law and all that it calls make is longer than what came in: it says more and counts as full. Else prove '..UptoSaid'. A law counts once. -/
mutual
def uptoBulk {H : Type} : DataW H → Nat
  | .lit (.string bytes) => bytes.length + 1
  | .lit _ => 1
  | .nil => 1
  | .ptr d => uptoBulk d + 1
  | .slice elems spare => uptoBulkAll elems + uptoBulkAll spare + 1
  | .agg parts => uptoBulkAll parts + 1
  | .iface _ d => uptoBulk d + 1
  | .map entries => uptoBulkEntries entries + 1
  | .held _ => 1
def uptoBulkAll {H : Type} : List (DataW H) → Nat
  | [] => 0
  | d :: r => uptoBulk d + uptoBulkAll r
def uptoBulkEntries {H : Type} : List (Lit × DataW H) → Nat
  | [] => 0
  | x :: r => uptoBulkEntry x + uptoBulkEntries r
def uptoBulkEntry {H : Type} : Lit × DataW H → Nat
  | (.string bytes, d) => bytes.length + uptoBulk d + 1
  | (_, d) => uptoBulk d + 1
 end
def uptoSmall : (H : Type) → List (DataW H) → Bool := fun _ ds => decide (uptoBulkAll ds ≤ 1048576)
def OpenSpec.upto (s : _root_.Go.ChangeSpec) : _root_.Go.OpenSpec := { _root_.Go.OpenSpec.ofChange s with cond := some uptoSmall }

/-- 'cloisonnelaw12.WsetNil', WHERE WHAT IT READS IS OF BULK AT MOST 1048576: true; the input reads as it did. -/
def wsetNilUptoRow : OpenClaim := { program := "ytjlmpmobankidaa", sum := "91efe3fb6e029e54bfeb2cf442010cee746567b221524224170d3677bddce30d", func := "cloisonne/cloisonnelaw12.WsetNil", spec := "wsetNil", inPlace := ["math.Float64frombits", "math.Float64bits", "internal/bytealg.abigen_runtime_cmpstring", "slices.overlaps[cloisonne/api.Write]"], unfollowed := true, recurses := true, apart := false, narrowed := true }
def WsetNilUptoSaid : Prop := wsetNilUptoRow.holds Try.pinned (OpenSpec.upto wsetNilSpec)

/-- 'cloisonnelaw08.TreeNil', WHERE WHAT IT READS IS OF BULK AT MOST 1048576: true; the input reads as it did. -/
def treeNilUptoRow : OpenClaim := { program := "ytjlmpmobankidaa", sum := "91efe3fb6e029e54bfeb2cf442010cee746567b221524224170d3677bddce30d", func := "cloisonne/cloisonnelaw08.TreeNil", spec := "treeNil", inPlace := ["slices.overlaps[string]", "slices.overlaps[int]"], recurses := true, apart := false, narrowed := true }
def TreeNilUptoSaid : Prop := treeNilUptoRow.holds Try.pinned (OpenSpec.upto treeNilSpec)

end Rows
end Go.Proofs.Ytjlmpmobankidaa
