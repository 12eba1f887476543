/-
  No cell of these rows narrows 'for every input' (looked for: loops, veiled, ifaces, maps, wideKeys, modest, calm, conditions, laid).
  DERIVED. THE GIVEN ROWS OF THIS SEAT. 5 by the template 'for every input the law returns true; each argument reads behind the call as it read before'; 0 by the template 'total and deterministic' (their statements: YtecceimgpeookaaTotals.lean).
  GIVEN WITH THE SEED: the statements are not yours to turn. If you find one false, say at which input.
  Laid BY PROGRAM, IN A SANDBOX (cutbox-rows.mjs): the forced cells as the released guide's own fill.sh prints them over the translation fca920a19b80793a… (all of the seat's roots in one cut). By AI agents, Wed Nov 11 2026. No macro, syntax, notation, axiom, sorry.
-/
import Derived.Test.YtecceimgpeookaaChecked
import GoSem.Claim
import GoSem.ClaimJoined
import GoSem.ClaimMapViews
import Derived.JoinedTies
import Derived.KernelRfl
namespace Go.Proofs.Ytecceimgpeookaa
/- THE CELL 'sum', in the pinned program and in every row, IS THE sha256 OF THE DUMP (.gsa) THAT YtecceimgpeookaaProg.lean LOADS. Nothing in Lean hashes anything: it is a label: what it is worth is what the hold of that sum in a sandbox is worth. -/
noncomputable def Try.pinned : Pinned := { name := "ytecceimgpeookaa", sum := "fca920a19b80793a71758d8bc99fce91264d51046560f8f0f4ae450d5c1eebb3", checked := Try.checked }
namespace Rows
def none {H : Type} : Left H := { results := [], args := [] }

/-- 'cloisonnelaw12.WsetBack': WHATEVER THE INPUT: true; the input reads as it did. -/
def wsetBackSpec : ChangeSpec := { name := "wsetBack", fn := fun _ => fun
  | [d1, d2] => { results := [.lit (.bool true)], args := [d1, d2] }
  | _ => none }
def wsetBackRow : OpenClaim := { program := "ytecceimgpeookaa", sum := "fca920a19b80793a71758d8bc99fce91264d51046560f8f0f4ae450d5c1eebb3", func := "cloisonne/cloisonnelaw12.WsetBack", spec := "wsetBack", inPlace := ["math.Float64frombits", "math.Float64bits", "internal/bytealg.abigen_runtime_cmpstring", "slices.overlaps[cloisonne/api.Write]"], unfollowed := true, recurses := true, apart := false }
def WsetBackSaid : Prop := wsetBackRow.holds Try.pinned (OpenSpec.ofChange wsetBackSpec)

/-- ITS FALSE NEIGHBOUR: 'it returns false'. Refute it at one input. -/
def wsetBackWrong : ChangeSpec := { name := "wsetBack", fn := fun _ => fun
  | [d1, d2] => { results := [.lit (.bool false)], args := [d1, d2] }
  | _ => none }
def WsetBackWrongFalsely : Prop := wsetBackRow.holds Try.pinned (OpenSpec.ofChange wsetBackWrong)

/-- 'cloisonnelaw12.WsetMost': WHATEVER THE INPUT: true; the input reads as it did. -/
def wsetMostSpec : ChangeSpec := { name := "wsetMost", fn := fun _ => fun
  | [d] => { results := [.lit (.bool true)], args := [d] }
  | _ => none }
def wsetMostRow : OpenClaim := { program := "ytecceimgpeookaa", sum := "fca920a19b80793a71758d8bc99fce91264d51046560f8f0f4ae450d5c1eebb3", func := "cloisonne/cloisonnelaw12.WsetMost", spec := "wsetMost", inPlace := ["math.Float64frombits", "math.Float64bits", "internal/bytealg.abigen_runtime_cmpstring", "slices.overlaps[cloisonne/api.Write]"], unfollowed := true, recurses := true, apart := false }
def WsetMostSaid : Prop := wsetMostRow.holds Try.pinned (OpenSpec.ofChange wsetMostSpec)

/-- ITS FALSE NEIGHBOUR: 'it returns false'. Refute it at one input. -/
def wsetMostWrong : ChangeSpec := { name := "wsetMost", fn := fun _ => fun
  | [d] => { results := [.lit (.bool false)], args := [d] }
  | _ => none }
def WsetMostWrongFalsely : Prop := wsetMostRow.holds Try.pinned (OpenSpec.ofChange wsetMostWrong)

/-- 'cloisonnelaw12.WsetPlays': WHATEVER THE INPUT: true; the input reads as it did. -/
def wsetPlaysSpec : ChangeSpec := { name := "wsetPlays", fn := fun _ => fun
  | [d1, d2] => { results := [.lit (.bool true)], args := [d1, d2] }
  | _ => none }
def wsetPlaysRow : OpenClaim := { program := "ytecceimgpeookaa", sum := "fca920a19b80793a71758d8bc99fce91264d51046560f8f0f4ae450d5c1eebb3", func := "cloisonne/cloisonnelaw12.WsetPlays", spec := "wsetPlays", inPlace := ["math.Float64frombits", "math.Float64bits", "internal/bytealg.abigen_runtime_cmpstring", "slices.overlaps[cloisonne/api.Write]"], unfollowed := true, recurses := true, apart := false }
def WsetPlaysSaid : Prop := wsetPlaysRow.holds Try.pinned (OpenSpec.ofChange wsetPlaysSpec)

/-- ITS FALSE NEIGHBOUR: 'it returns false'. Refute it at one input. -/
def wsetPlaysWrong : ChangeSpec := { name := "wsetPlays", fn := fun _ => fun
  | [d1, d2] => { results := [.lit (.bool false)], args := [d1, d2] }
  | _ => none }
def WsetPlaysWrongFalsely : Prop := wsetPlaysRow.holds Try.pinned (OpenSpec.ofChange wsetPlaysWrong)

/-- 'cloisonnelaw08.TreeCursor': WHATEVER THE INPUT: true; the input reads as it did. -/
def treeCursorSpec : ChangeSpec := { name := "treeCursor", fn := fun _ => fun
  | [d1, d2] => { results := [.lit (.bool true)], args := [d1, d2] }
  | _ => none }
def treeCursorRow : OpenClaim := { program := "ytecceimgpeookaa", sum := "fca920a19b80793a71758d8bc99fce91264d51046560f8f0f4ae450d5c1eebb3", func := "cloisonne/cloisonnelaw08.TreeCursor", spec := "treeCursor", inPlace := ["slices.overlaps[string]", "slices.overlaps[int]"], recurses := true, apart := false }
def TreeCursorSaid : Prop := treeCursorRow.holds Try.pinned (OpenSpec.ofChange treeCursorSpec)

/-- ITS FALSE NEIGHBOUR: 'it returns false'. Refute it at one input. -/
def treeCursorWrong : ChangeSpec := { name := "treeCursor", fn := fun _ => fun
  | [d1, d2] => { results := [.lit (.bool false)], args := [d1, d2] }
  | _ => none }
def TreeCursorWrongFalsely : Prop := treeCursorRow.holds Try.pinned (OpenSpec.ofChange treeCursorWrong)

/-- 'cloisonnelaw08.TreePlays': WHATEVER THE INPUT: true; the input reads as it did. -/
def treePlaysSpec : ChangeSpec := { name := "treePlays", fn := fun _ => fun
  | [d1, d2, d3] => { results := [.lit (.bool true)], args := [d1, d2, d3] }
  | _ => none }
def treePlaysRow : OpenClaim := { program := "ytecceimgpeookaa", sum := "fca920a19b80793a71758d8bc99fce91264d51046560f8f0f4ae450d5c1eebb3", func := "cloisonne/cloisonnelaw08.TreePlays", spec := "treePlays", inPlace := ["slices.overlaps[string]", "slices.overlaps[int]"], recurses := true, apart := false }
def TreePlaysSaid : Prop := treePlaysRow.holds Try.pinned (OpenSpec.ofChange treePlaysSpec)

/-- ITS FALSE NEIGHBOUR: 'it returns false'. Refute it at one input. -/
def treePlaysWrong : ChangeSpec := { name := "treePlays", fn := fun _ => fun
  | [d1, d2, d3] => { results := [.lit (.bool false)], args := [d1, d2, d3] }
  | _ => none }
def TreePlaysWrongFalsely : Prop := treePlaysRow.holds Try.pinned (OpenSpec.ofChange treePlaysWrong)

/- THE SECOND FORM. 'bulk': how many values and letters a reading holds, each counted each time it is reached (what is shared counts as often as it is met; a slice's spare places count too). A statement '..UptoSaid' is the law's where the arguments, and the package variables that the reading takes, are together of bulk at most 1048576: NARROWER than '..Said'. Prove '..Said' where nothing that the law and all that it calls make is longer than what came in: it says more and counts as full. Else prove '..UptoSaid'. A law counts once. -/
mutual
def uptoBulk {H : Type} : DataW H → Nat
  | .lit (.string bytes) => bytes.length + 1
  | .lit _ => 1
  | .nil => 1
  | .ptr d => uptoBulk d + 1
  | .slice elems spare => uptoBulkAll elems + uptoBulkAll spare + 1
  | .agg parts => uptoBulkAll parts + 1
  | .iface _ d => uptoBulk d + 1
  | .map entries => uptoBulkEntries entries + 1
  | .held _ => 1
def uptoBulkAll {H : Type} : List (DataW H) → Nat
  | [] => 0
  | d :: r => uptoBulk d + uptoBulkAll r
def uptoBulkEntries {H : Type} : List (Lit × DataW H) → Nat
  | [] => 0
  | x :: r => uptoBulkEntry x + uptoBulkEntries r
def uptoBulkEntry {H : Type} : Lit × DataW H → Nat
  | (.string bytes, d) => bytes.length + uptoBulk d + 1
  | (_, d) => uptoBulk d + 1
 end
def uptoSmall : (H : Type) → List (DataW H) → Bool := fun _ ds => decide (uptoBulkAll ds ≤ 1048576)
def OpenSpec.upto (s : _root_.Go.ChangeSpec) : _root_.Go.OpenSpec := { _root_.Go.OpenSpec.ofChange s with cond := some uptoSmall }

/-- 'cloisonnelaw12.WsetBack', WHERE WHAT IT READS IS OF BULK AT MOST 1048576: true; the input reads as it did. -/
def wsetBackUptoRow : OpenClaim := { program := "ytecceimgpeookaa", sum := "fca920a19b80793a71758d8bc99fce91264d51046560f8f0f4ae450d5c1eebb3", func := "cloisonne/cloisonnelaw12.WsetBack", spec := "wsetBack", inPlace := ["math.Float64frombits", "math.Float64bits", "internal/bytealg.abigen_runtime_cmpstring", "slices.overlaps[cloisonne/api.Write]"], unfollowed := true, recurses := true, apart := false, narrowed := true }
def WsetBackUptoSaid : Prop := wsetBackUptoRow.holds Try.pinned (OpenSpec.upto wsetBackSpec)

/-- 'cloisonnelaw12.WsetMost', WHERE WHAT IT READS IS OF BULK AT MOST 1048576: true; the input reads as it did. -/
def wsetMostUptoRow : OpenClaim := { program := "ytecceimgpeookaa", sum := "fca920a19b80793a71758d8bc99fce91264d51046560f8f0f4ae450d5c1eebb3", func := "cloisonne/cloisonnelaw12.WsetMost", spec := "wsetMost", inPlace := ["math.Float64frombits", "math.Float64bits", "internal/bytealg.abigen_runtime_cmpstring", "slices.overlaps[cloisonne/api.Write]"], unfollowed := true, recurses := true, apart := false, narrowed := true }
def WsetMostUptoSaid : Prop := wsetMostUptoRow.holds Try.pinned (OpenSpec.upto wsetMostSpec)

/-- 'cloisonnelaw12.WsetPlays', WHERE WHAT IT READS IS OF BULK AT MOST 1048576: true; the input reads as it did. -/
def wsetPlaysUptoRow : OpenClaim := { program := "ytecceimgpeookaa", sum := "fca920a19b80793a71758d8bc99fce91264d51046560f8f0f4ae450d5c1eebb3", func := "cloisonne/cloisonnelaw12.WsetPlays", spec := "wsetPlays", inPlace := ["math.Float64frombits", "math.Float64bits", "internal/bytealg.abigen_runtime_cmpstring", "slices.overlaps[cloisonne/api.Write]"], unfollowed := true, recurses := true, apart := false, narrowed := true }
def WsetPlaysUptoSaid : Prop := wsetPlaysUptoRow.holds Try.pinned (OpenSpec.upto wsetPlaysSpec)

/-- 'cloisonnelaw08.TreeCursor', WHERE WHAT IT READS IS OF BULK AT MOST 1048576: true; the input reads as it did. -/
def treeCursorUptoRow : OpenClaim := { program := "ytecceimgpeookaa", sum := "fca920a19b80793a71758d8bc99fce91264d51046560f8f0f4ae450d5c1eebb3", func := "cloisonne/cloisonnelaw08.TreeCursor", spec := "treeCursor", inPlace := ["slices.overlaps[string]", "slices.overlaps[int]"], recurses := true, apart := false, narrowed := true }
def TreeCursorUptoSaid : Prop := treeCursorUptoRow.holds Try.pinned (OpenSpec.upto treeCursorSpec)

/-- 'cloisonnelaw08.TreePlays', WHERE WHAT IT READS IS OF BULK AT MOST 1048576: true; the input reads as it did. -/
def treePlaysUptoRow : OpenClaim := { program := "ytecceimgpeookaa", sum := "fca920a19b80793a71758d8bc99fce91264d51046560f8f0f4ae450d5c1eebb3", func := "cloisonne/cloisonnelaw08.TreePlays", spec := "treePlays", inPlace := ["slices.overlaps[string]", "slices.overlaps[int]"], recurses := true, apart := false, narrowed := true }
def TreePlaysUptoSaid : Prop := treePlaysUptoRow.holds Try.pinned (OpenSpec.upto treePlaysSpec)

end Rows
end Go.Proofs.Ytecceimgpeookaa
