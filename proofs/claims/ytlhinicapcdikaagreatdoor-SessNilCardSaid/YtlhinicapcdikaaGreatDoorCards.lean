/-
  DERIVED. GIVEN WITH THE SEED: THE CARDS: each row of YtlhinicapcdikaaGreatDoorRows.lean that lists a variable, with what it lists TIED to the program's text (the seventh form; the later family's looks); each row that meets fmt, with fmt's text TOLD by the authors' own Lean function (tested against real Go, not proved from fmt's source: count such statements apart). THE CARD IS WHAT COUNTS. Prove the row's statement (the work); the ties are given (YtlhinicapcdikaaGreatDoorTie.lean); close each card by the builder's one call (the guide's Derived/Test/ToyasCard.lean, 'card_holds'). Laid BY PROGRAM, IN A SANDBOX (cutbox-door.mjs). By AI agents, Wed Nov 11 2026. No macro, syntax, notation, axiom, sorry.
-/
import Derived.Test.YtlhinicapcdikaaGreatDoorRows
import GoSem.ClaimSeven
namespace Go.Proofs.YtlhinicapcdikaaGreatDoor
namespace Rows

/-- THE TIED CARD OF 'cloisonnelaw21.SessNil'. -/
def sessNilCard : Claim7 := { stood := { row := sessNilRow, standIns := [], harness := (true, "2507d6c30b4f23482b7b2f7369f0f69deace66440a6a47ec679371f8bd82bc98"), looks := true }, kinds := [], alts := [], laidByText := true, laidKinds := [.data, .pinned], laidTests := true, laidLooks := .later }
def SessNilCardSaid : Prop := Claim7.holds Tryz.pinned (.plain (OpenSpec.ofChange sessNilSpec)) sessNilCard

/-- THE TIED CARD OF 'cloisonnelaw22.DeskNil'. -/
def deskNilCard : Claim7 := { stood := { row := deskNilRow, standIns := [], harness := (true, "2507d6c30b4f23482b7b2f7369f0f69deace66440a6a47ec679371f8bd82bc98"), looks := true }, kinds := [], alts := [], laidByText := true, laidKinds := [.data, .pinned], laidTests := true, laidLooks := .later }
def DeskNilCardSaid : Prop := Claim7.holds Tryz.pinned (.plain (OpenSpec.ofChange deskNilSpec)) deskNilCard

/-- THE TIED CARD OF 'cloisonnelaw23.WatchNil'. -/
def watchNilCard : Claim7 := { stood := { row := watchNilRow, standIns := [], harness := (true, "2507d6c30b4f23482b7b2f7369f0f69deace66440a6a47ec679371f8bd82bc98"), looks := true }, kinds := [], alts := [], laidByText := true, laidKinds := [.data, .pinned], laidTests := true, laidLooks := .later }
def WatchNilCardSaid : Prop := Claim7.holds Tryz.pinned (.plain (OpenSpec.ofChange watchNilSpec)) watchNilCard

/-- THE TIED CARD OF 'cloisonnelaw31.FerryNil'. -/
def ferryNilCard : Claim7 := { stood := { row := ferryNilRow, standIns := [], harness := (true, "2507d6c30b4f23482b7b2f7369f0f69deace66440a6a47ec679371f8bd82bc98"), looks := true }, kinds := [], alts := [], laidByText := true, laidKinds := [.data, .pinned], laidTests := true, laidLooks := .later }
def FerryNilCardSaid : Prop := Claim7.holds Tryz.pinned (.plain (OpenSpec.ofChange ferryNilSpec)) ferryNilCard

/-- THE SECOND FORM's CARD OF 'cloisonnelaw21.SessNil'. -/
def sessNilUptoCard : Claim7 := { stood := { row := sessNilUptoRow, standIns := [], harness := (true, "2507d6c30b4f23482b7b2f7369f0f69deace66440a6a47ec679371f8bd82bc98"), looks := true }, kinds := [], alts := [], laidByText := true, laidKinds := [.data, .pinned], laidTests := true, laidLooks := .later }
def SessNilUptoCardSaid : Prop := Claim7.holds Tryz.pinned (.plain (OpenSpec.upto sessNilSpec)) sessNilUptoCard

/-- THE SECOND FORM's CARD OF 'cloisonnelaw22.DeskNil'. -/
def deskNilUptoCard : Claim7 := { stood := { row := deskNilUptoRow, standIns := [], harness := (true, "2507d6c30b4f23482b7b2f7369f0f69deace66440a6a47ec679371f8bd82bc98"), looks := true }, kinds := [], alts := [], laidByText := true, laidKinds := [.data, .pinned], laidTests := true, laidLooks := .later }
def DeskNilUptoCardSaid : Prop := Claim7.holds Tryz.pinned (.plain (OpenSpec.upto deskNilSpec)) deskNilUptoCard

/-- THE SECOND FORM's CARD OF 'cloisonnelaw23.WatchNil'. -/
def watchNilUptoCard : Claim7 := { stood := { row := watchNilUptoRow, standIns := [], harness := (true, "2507d6c30b4f23482b7b2f7369f0f69deace66440a6a47ec679371f8bd82bc98"), looks := true }, kinds := [], alts := [], laidByText := true, laidKinds := [.data, .pinned], laidTests := true, laidLooks := .later }
def WatchNilUptoCardSaid : Prop := Claim7.holds Tryz.pinned (.plain (OpenSpec.upto watchNilSpec)) watchNilUptoCard

/-- THE SECOND FORM's CARD OF 'cloisonnelaw31.FerryNil'. -/
def ferryNilUptoCard : Claim7 := { stood := { row := ferryNilUptoRow, standIns := [], harness := (true, "2507d6c30b4f23482b7b2f7369f0f69deace66440a6a47ec679371f8bd82bc98"), looks := true }, kinds := [], alts := [], laidByText := true, laidKinds := [.data, .pinned], laidTests := true, laidLooks := .later }
def FerryNilUptoCardSaid : Prop := Claim7.holds Tryz.pinned (.plain (OpenSpec.upto ferryNilSpec)) ferryNilUptoCard
end Rows
end Go.Proofs.YtlhinicapcdikaaGreatDoor
