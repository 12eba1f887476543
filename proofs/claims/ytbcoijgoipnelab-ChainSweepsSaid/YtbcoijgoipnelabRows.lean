/-
  No cell of these rows narrows 'for every input' (looked for: loops, veiled, ifaces, maps, wideKeys, modest, calm, conditions, laid).
  DERIVED. THE GIVEN ROWS OF THIS SEAT. 4 by the template 'for every input the law returns true; each argument reads behind the call as it read before'; 0 by the template 'total and deterministic' (their statements: YtbcoijgoipnelabTotals.lean).
  GIVEN WITH THE SEED: the statements are not yours to turn. If you find one false, say at which input.
  Laid BY PROGRAM, IN A SANDBOX (cutbox-rows.mjs): the forced cells as the released guide's own fill.sh prints them over the translation 738f63bdee382f82… (all of the seat's roots in one cut). By AI agents, Wed Nov 11 2026. No macro, syntax, notation, axiom, sorry.
-/
import Derived.Test.YtbcoijgoipnelabChecked
import GoSem.Claim
import GoSem.ClaimJoined
import GoSem.ClaimMapViews
import Derived.JoinedTies
import Derived.KernelRfl
namespace Go.Proofs.Ytbcoijgoipnelab
/- THE CELL 'sum', in the pinned program and in every row, IS THE sha256 OF THE DUMP (.gsa) THAT YtbcoijgoipnelabProg.lean LOADS. Nothing in Lean hashes anything: it is a label: what it is worth is what the hold of that sum in a sandbox is worth. -/
noncomputable def Try.pinned : Pinned := { name := "ytbcoijgoipnelab", sum := "738f63bdee382f82f9d7ccd3737470f2e53c85b9611df18c7295e652368d6348", checked := Try.checked }
namespace Rows
def none {H : Type} : Left H := { results := [], args := [] }

/-- 'cloisonnelaw09.ChainSweptOnce': WHATEVER THE INPUT: true; the input reads as it did. -/
def chainSweptOnceSpec : ChangeSpec := { name := "chainSweptOnce", fn := fun _ => fun
  | [d1, d2, d3] => { results := [.lit (.bool true)], args := [d1, d2, d3] }
  | _ => none }
def chainSweptOnceRow : OpenClaim := { program := "ytbcoijgoipnelab", sum := "738f63bdee382f82f9d7ccd3737470f2e53c85b9611df18c7295e652368d6348", func := "cloisonne/cloisonnelaw09.ChainSweptOnce", spec := "chainSweptOnce", inPlace := ["math.Float64frombits", "math.Float64bits"], unfollowed := true, recurses := true, apart := false }
def ChainSweptOnceSaid : Prop := chainSweptOnceRow.holds Try.pinned (OpenSpec.ofChange chainSweptOnceSpec)

/-- ITS FALSE NEIGHBOUR: 'it returns false'. Refute it at one input. -/
def chainSweptOnceWrong : ChangeSpec := { name := "chainSweptOnce", fn := fun _ => fun
  | [d1, d2, d3] => { results := [.lit (.bool false)], args := [d1, d2, d3] }
  | _ => none }
def ChainSweptOnceWrongFalsely : Prop := chainSweptOnceRow.holds Try.pinned (OpenSpec.ofChange chainSweptOnceWrong)

/-- 'cloisonnelaw09.ChainAdds': WHATEVER THE INPUT: true; the input reads as it did. -/
def chainAddsSpec : ChangeSpec := { name := "chainAdds", fn := fun _ => fun
  | [d1, d2] => { results := [.lit (.bool true)], args := [d1, d2] }
  | _ => none }
def chainAddsRow : OpenClaim := { program := "ytbcoijgoipnelab", sum := "738f63bdee382f82f9d7ccd3737470f2e53c85b9611df18c7295e652368d6348", func := "cloisonne/cloisonnelaw09.ChainAdds", spec := "chainAdds", inPlace := ["math.Float64frombits", "math.Float64bits"], unfollowed := true, recurses := true, apart := false }
def ChainAddsSaid : Prop := chainAddsRow.holds Try.pinned (OpenSpec.ofChange chainAddsSpec)

/-- ITS FALSE NEIGHBOUR: 'it returns false'. Refute it at one input. -/
def chainAddsWrong : ChangeSpec := { name := "chainAdds", fn := fun _ => fun
  | [d1, d2] => { results := [.lit (.bool false)], args := [d1, d2] }
  | _ => none }
def ChainAddsWrongFalsely : Prop := chainAddsRow.holds Try.pinned (OpenSpec.ofChange chainAddsWrong)

/-- 'cloisonnelaw09.ChainTells': WHATEVER THE INPUT: true; the input reads as it did. -/
def chainTellsSpec : ChangeSpec := { name := "chainTells", fn := fun _ => fun
  | [d1, d2] => { results := [.lit (.bool true)], args := [d1, d2] }
  | _ => none }
def chainTellsRow : OpenClaim := { program := "ytbcoijgoipnelab", sum := "738f63bdee382f82f9d7ccd3737470f2e53c85b9611df18c7295e652368d6348", func := "cloisonne/cloisonnelaw09.ChainTells", spec := "chainTells", inPlace := ["math.Float64frombits", "math.Float64bits"], unfollowed := true, recurses := true, apart := false }
def ChainTellsSaid : Prop := chainTellsRow.holds Try.pinned (OpenSpec.ofChange chainTellsSpec)

/-- ITS FALSE NEIGHBOUR: 'it returns false'. Refute it at one input. -/
def chainTellsWrong : ChangeSpec := { name := "chainTells", fn := fun _ => fun
  | [d1, d2] => { results := [.lit (.bool false)], args := [d1, d2] }
  | _ => none }
def ChainTellsWrongFalsely : Prop := chainTellsRow.holds Try.pinned (OpenSpec.ofChange chainTellsWrong)

/-- 'cloisonnelaw09.ChainSweeps': WHATEVER THE INPUT: true; the input reads as it did. -/
def chainSweepsSpec : ChangeSpec := { name := "chainSweeps", fn := fun _ => fun
  | [d1, d2, d3] => { results := [.lit (.bool true)], args := [d1, d2, d3] }
  | _ => none }
def chainSweepsRow : OpenClaim := { program := "ytbcoijgoipnelab", sum := "738f63bdee382f82f9d7ccd3737470f2e53c85b9611df18c7295e652368d6348", func := "cloisonne/cloisonnelaw09.ChainSweeps", spec := "chainSweeps", inPlace := ["math.Float64frombits", "math.Float64bits"], unfollowed := true, recurses := true, apart := false }
def ChainSweepsSaid : Prop := chainSweepsRow.holds Try.pinned (OpenSpec.ofChange chainSweepsSpec)

/-- ITS FALSE NEIGHBOUR: 'it returns false'. Refute it at one input. -/
def chainSweepsWrong : ChangeSpec := { name := "chainSweeps", fn := fun _ => fun
  | [d1, d2, d3] => { results := [.lit (.bool false)], args := [d1, d2, d3] }
  | _ => none }
def ChainSweepsWrongFalsely : Prop := chainSweepsRow.holds Try.pinned (OpenSpec.ofChange chainSweepsWrong)

/- THE SECOND FORM. 'bulk': how many values and letters a reading holds, each counted each time it is reached (what is shared counts as often as it is met; a slice's spare places count too). A statement '..UptoSaid' is the law's where the arguments, and the package variables that the reading takes, are together of bulk at most 1048576: NARROWER than '..Said'. Prove '..Said' where nothing that the law and all that it calls make is longer than what came in: it says more and counts as full. Else prove '..UptoSaid'. A law counts once. -/
mutual
def uptoBulk {H : Type} : DataW H → Nat
  | .lit (.string bytes) => bytes.length + 1
  | .lit _ => 1
  | .nil => 1
  | .ptr d => uptoBulk d + 1
  | .slice elems spare => uptoBulkAll elems + uptoBulkAll spare + 1
  | .agg parts => uptoBulkAll parts + 1
  | .iface _ d => uptoBulk d + 1
  | .map entries => uptoBulkEntries entries + 1
  | .held _ => 1
def uptoBulkAll {H : Type} : List (DataW H) → Nat
  | [] => 0
  | d :: r => uptoBulk d + uptoBulkAll r
def uptoBulkEntries {H : Type} : List (Lit × DataW H) → Nat
  | [] => 0
  | x :: r => uptoBulkEntry x + uptoBulkEntries r
def uptoBulkEntry {H : Type} : Lit × DataW H → Nat
  | (.string bytes, d) => bytes.length + uptoBulk d + 1
  | (_, d) => uptoBulk d + 1
 end
def uptoSmall : (H : Type) → List (DataW H) → Bool := fun _ ds => decide (uptoBulkAll ds ≤ 1048576)
def OpenSpec.upto (s : _root_.Go.ChangeSpec) : _root_.Go.OpenSpec := { _root_.Go.OpenSpec.ofChange s with cond := some uptoSmall }

/-- 'cloisonnelaw09.ChainSweptOnce', WHERE WHAT IT READS IS OF BULK AT MOST 1048576: true; the input reads as it did. -/
def chainSweptOnceUptoRow : OpenClaim := { program := "ytbcoijgoipnelab", sum := "738f63bdee382f82f9d7ccd3737470f2e53c85b9611df18c7295e652368d6348", func := "cloisonne/cloisonnelaw09.ChainSweptOnce", spec := "chainSweptOnce", inPlace := ["math.Float64frombits", "math.Float64bits"], unfollowed := true, recurses := true, apart := false, narrowed := true }
def ChainSweptOnceUptoSaid : Prop := chainSweptOnceUptoRow.holds Try.pinned (OpenSpec.upto chainSweptOnceSpec)

/-- 'cloisonnelaw09.ChainAdds', WHERE WHAT IT READS IS OF BULK AT MOST 1048576: true; the input reads as it did. -/
def chainAddsUptoRow : OpenClaim := { program := "ytbcoijgoipnelab", sum := "738f63bdee382f82f9d7ccd3737470f2e53c85b9611df18c7295e652368d6348", func := "cloisonne/cloisonnelaw09.ChainAdds", spec := "chainAdds", inPlace := ["math.Float64frombits", "math.Float64bits"], unfollowed := true, recurses := true, apart := false, narrowed := true }
def ChainAddsUptoSaid : Prop := chainAddsUptoRow.holds Try.pinned (OpenSpec.upto chainAddsSpec)

/-- 'cloisonnelaw09.ChainTells', WHERE WHAT IT READS IS OF BULK AT MOST 1048576: true; the input reads as it did. -/
def chainTellsUptoRow : OpenClaim := { program := "ytbcoijgoipnelab", sum := "738f63bdee382f82f9d7ccd3737470f2e53c85b9611df18c7295e652368d6348", func := "cloisonne/cloisonnelaw09.ChainTells", spec := "chainTells", inPlace := ["math.Float64frombits", "math.Float64bits"], unfollowed := true, recurses := true, apart := false, narrowed := true }
def ChainTellsUptoSaid : Prop := chainTellsUptoRow.holds Try.pinned (OpenSpec.upto chainTellsSpec)

/-- 'cloisonnelaw09.ChainSweeps', WHERE WHAT IT READS IS OF BULK AT MOST 1048576: true; the input reads as it did. -/
def chainSweepsUptoRow : OpenClaim := { program := "ytbcoijgoipnelab", sum := "738f63bdee382f82f9d7ccd3737470f2e53c85b9611df18c7295e652368d6348", func := "cloisonne/cloisonnelaw09.ChainSweeps", spec := "chainSweeps", inPlace := ["math.Float64frombits", "math.Float64bits"], unfollowed := true, recurses := true, apart := false, narrowed := true }
def ChainSweepsUptoSaid : Prop := chainSweepsUptoRow.holds Try.pinned (OpenSpec.upto chainSweepsSpec)

end Rows
end Go.Proofs.Ytbcoijgoipnelab
