/-
  DERIVED. GIVEN WITH THE SEED: THE CARDS: each row of YtglefgcnafoafaaGreatDoorRows.lean that lists a variable, with what it lists TIED to the program's text (the seventh form; the later family's looks); each row that meets fmt, with fmt's text TOLD by the authors' own Lean function (tested against real Go, not proved from fmt's source: count such statements apart). THE CARD IS WHAT COUNTS. Prove the row's statement (the work); the ties are given (YtglefgcnafoafaaGreatDoorTie.lean); close each card by the builder's one call (the guide's Derived/Test/ToyasCard.lean, 'card_holds'). Laid BY PROGRAM, IN A SANDBOX (cutbox-door.mjs). By AI agents, Wed Nov 11 2026. No macro, syntax, notation, axiom, sorry.
-/
import Derived.Test.YtglefgcnafoafaaGreatDoorRows
import GoSem.ClaimSeven
namespace Go.Proofs.YtglefgcnafoafaaGreatDoor
namespace Rows

/-- THE TIED CARD OF 'cloisonnelaw22.DeskNil'. -/
def deskNilCard : Claim7 := { stood := { row := deskNilRow, standIns := [], harness := (true, "65dd244c3889cc41cf6f1344440f7815e6a79a20434e086c430ebbd2690c4058"), looks := true }, kinds := [], alts := [], laidByText := true, laidKinds := [.data, .pinned], laidTests := true, laidLooks := .later }
def DeskNilCardSaid : Prop := Claim7.holds Tryz.pinned (.plain (OpenSpec.ofChange deskNilSpec)) deskNilCard

/-- THE TIED CARD OF 'cloisonnelaw23.WatchNil'. -/
def watchNilCard : Claim7 := { stood := { row := watchNilRow, standIns := [], harness := (true, "65dd244c3889cc41cf6f1344440f7815e6a79a20434e086c430ebbd2690c4058"), looks := true }, kinds := [], alts := [], laidByText := true, laidKinds := [.data, .pinned], laidTests := true, laidLooks := .later }
def WatchNilCardSaid : Prop := Claim7.holds Tryz.pinned (.plain (OpenSpec.ofChange watchNilSpec)) watchNilCard

/-- THE TIED CARD OF 'cloisonnelaw31.FerryNil'. -/
def ferryNilCard : Claim7 := { stood := { row := ferryNilRow, standIns := [], harness := (true, "65dd244c3889cc41cf6f1344440f7815e6a79a20434e086c430ebbd2690c4058"), looks := true }, kinds := [], alts := [], laidByText := true, laidKinds := [.data, .pinned], laidTests := true, laidLooks := .later }
def FerryNilCardSaid : Prop := Claim7.holds Tryz.pinned (.plain (OpenSpec.ofChange ferryNilSpec)) ferryNilCard

/-- THE SECOND FORM's CARD OF 'cloisonnelaw22.DeskNil'. -/
def deskNilUptoCard : Claim7 := { stood := { row := deskNilUptoRow, standIns := [], harness := (true, "65dd244c3889cc41cf6f1344440f7815e6a79a20434e086c430ebbd2690c4058"), looks := true }, kinds := [], alts := [], laidByText := true, laidKinds := [.data, .pinned], laidTests := true, laidLooks := .later }
def DeskNilUptoCardSaid : Prop := Claim7.holds Tryz.pinned (.plain (OpenSpec.upto deskNilSpec)) deskNilUptoCard

/-- THE SECOND FORM's CARD OF 'cloisonnelaw23.WatchNil'. -/
def watchNilUptoCard : Claim7 := { stood := { row := watchNilUptoRow, standIns := [], harness := (true, "65dd244c3889cc41cf6f1344440f7815e6a79a20434e086c430ebbd2690c4058"), looks := true }, kinds := [], alts := [], laidByText := true, laidKinds := [.data, .pinned], laidTests := true, laidLooks := .later }
def WatchNilUptoCardSaid : Prop := Claim7.holds Tryz.pinned (.plain (OpenSpec.upto watchNilSpec)) watchNilUptoCard

/-- THE SECOND FORM's CARD OF 'cloisonnelaw31.FerryNil'. -/
def ferryNilUptoCard : Claim7 := { stood := { row := ferryNilUptoRow, standIns := [], harness := (true, "65dd244c3889cc41cf6f1344440f7815e6a79a20434e086c430ebbd2690c4058"), looks := true }, kinds := [], alts := [], laidByText := true, laidKinds := [.data, .pinned], laidTests := true, laidLooks := .later }
def FerryNilUptoCardSaid : Prop := Claim7.holds Tryz.pinned (.plain (OpenSpec.upto ferryNilSpec)) ferryNilUptoCard
end Rows
end Go.Proofs.YtglefgcnafoafaaGreatDoor
