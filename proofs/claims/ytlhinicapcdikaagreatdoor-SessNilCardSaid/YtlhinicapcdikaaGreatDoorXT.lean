/-
  Own work. The row's closed facts, each by the kernel alone (together they pass its memory).
-/
import Derived.Test.YtlhinicapcdikaaGreatDoorXA
import Derived.Test.YtlhinicapcdikaaGreatDoorRows
import Derived.Test.YtlhinicapcdikaaGreatDoorXT0
import Derived.ProofKit
import Derived.LaidMore
import Derived.Lay
import Derived.SevenTiedAt
import Derived.Stop.Joined
namespace Go.Proofs.YtlhinicapcdikaaGreatDoor
open Go Go.ChangeShapes Go.WideShapes Go.ChangeAt Go.RowKit X
set_option maxRecDepth 100000
set_option linter.unusedVariables false
set_option linter.unusedSimpArgs false
theorem fact0 : (Rows.sessNilRow.wf (OpenSpec.ofChange Rows.sessNilSpec)) = true := by kernel_rfl
theorem fact1 : (laidOutB Tryz.prog) = true := by kernel_rfl
theorem fact2 : (mapsRowed Tryz.prog) = true := by kernel_rfl
theorem fact3 : (Tryz.f3.params.all (Tryz.prog.readableRec ·)) = true := by kernel_rfl
theorem fact4 : (namedTie Tryz.prog Rows.sessNilRow.named Rows.sessNilSpec.vars) = true := by kernel_rfl
theorem fact5 : ((Rows.sessNilRow.stops == [])) = true := by kernel_rfl
theorem fact6 : ((Tryz.prog.stops == [])) = true := by kernel_rfl
theorem fact7 : ((Rows.sessNilRow.knobs == [])) = true := by kernel_rfl
theorem fact8 : ((Tryz.prog.stopKnobs == [])) = true := by kernel_rfl
theorem fact9 : ((Rows.sessNilRow.inPlace == Tryz.prog.inPlace 3)) = true := by kernel_rfl
theorem fact10 : ((Rows.sessNilRow.unfollowed == Tryz.prog.unfollowed 3)) = true := by kernel_rfl
theorem fact11 : ((Rows.sessNilRow.recurses == Tryz.prog.recurses 3)) = true := by kernel_rfl
theorem fact12 : ((Rows.sessNilRow.named == Tryz.prog.varsNamed 3)) = true := by kernel_rfl
theorem fact13 : ((Rows.sessNilRow.maps == (Tryz.f3.params.toList ++ Rows.sessNilSpec.plain.varTypes Tryz.prog).any (Tryz.prog.mapsRec ·))) = true := by kernel_rfl
theorem fact14 : ((Rows.sessNilRow.ifaces == (Tryz.f3.params.toList ++ Rows.sessNilSpec.plain.varTypes Tryz.prog).any (Tryz.prog.ifacesRec ·))) = true := by kernel_rfl
theorem fact15 : ((Rows.sessNilRow.mapsOut == Tryz.prog.mapsAmong Tryz.f3.resultTypes.toList)) = true := by kernel_rfl
theorem fact16 : ((Rows.sessNilRow.loops == (Tryz.f3.params.toList ++ Rows.sessNilSpec.plain.varTypes Tryz.prog).any (Tryz.prog.loopsFrom ·))) = true := by kernel_rfl
theorem fact17 : ((Rows.sessNilRow.wideKeys == (Tryz.f3.params.toList ++ Rows.sessNilSpec.plain.varTypes Tryz.prog ++ Tryz.f3.resultTypes.toList).any (Tryz.prog.wideKeysFrom ·))) = true := by kernel_rfl
theorem fact18 : (Rows.sessNilSpec.vars.all (Tryz.prog.varReadable ·)) = true := by kernel_rfl
theorem fact19 : (Tryz.f3.resultTypes.all (fun t => Tryz.prog.readableRec t && decide (t < Tryz.prog.types.size))) = true := by kernel_rfl
theorem fact20 : ((Rows.sessNilRow.ifacesOut == Tryz.f3.resultTypes.toList.any (Tryz.prog.ifacesRec ·))) = true := by kernel_rfl
theorem fact21 : ((Rows.sessNilRow.loopsOut == Tryz.f3.resultTypes.toList.any (Tryz.prog.loopsFrom ·))) = true := by kernel_rfl
theorem fact22 : ((Rows.sessNilRow.plainKeys == Tryz.prog.plainKeys)) = true := by kernel_rfl
theorem fact23 : (Rows.sessNilRow.shortTexts.isNone) = true := by kernel_rfl
theorem fact24 : (Tryz.prog.stopsHeard) = true := by kernel_rfl
theorem fact25 : (Tryz.prog.mayEnter) = true := by kernel_rfl
theorem fact26 : ((Rows.sessNilRow.lifted == Tryz.prog.liftsFinal)) = true := by kernel_rfl
theorem fact27 : ((Tryz.prog.make == some Rows.sessNilRow.make)) = true := by kernel_rfl
theorem fact28 : ((Rows.sessNilRow.kinds == (if Rows.sessNilRow.domain.isEmpty then [] else Tryz.f3.params.toList.map fun t => match Tryz.prog.underlying t with | some (.int k) => some k | _ => none))) = true := by kernel_rfl
theorem fact29 : ((Rows.sessNilRow.pinned == Rows.sessNilRow.pinnedBy)) = true := by kernel_rfl
theorem fact30 : ((Rows.sessNilRow.veiled == (Tryz.f3.params.toList ++ Rows.sessNilSpec.plain.varTypes Tryz.prog ++ Tryz.f3.resultTypes.toList).any (Tryz.prog.veiledRec ·))) = true := by kernel_rfl
theorem fact31 : (Rows.sessNilRow.veiledFits Tryz.prog Tryz.f3.params.toList (Tryz.f3.params.toList ++ Rows.sessNilSpec.plain.varTypes Tryz.prog ++ Tryz.f3.resultTypes.toList)) = true := by kernel_rfl
theorem closedF : joinedFacts Tryz.prog 3 Tryz.f3 Rows.sessNilSpec Rows.sessNilRow = true := facts_join fact0 fact1 fact2 fact3 fact4 fact5 fact6 fact7 fact8 fact9 fact10 fact11 fact12 fact13 fact14 fact15 fact16 fact17 fact18 fact19 fact20 fact21 fact22 fact23 fact24 fact25 fact26 fact27 fact28 fact29 fact30 fact31
theorem noGoesF : Tryz.prog.funcs.any Func.goes = false := by kernel_rfl
theorem goesF : false = Rows.sessNilRow.goesBy Tryz.prog := goes_none rfl noGoesF
end Go.Proofs.YtlhinicapcdikaaGreatDoor
