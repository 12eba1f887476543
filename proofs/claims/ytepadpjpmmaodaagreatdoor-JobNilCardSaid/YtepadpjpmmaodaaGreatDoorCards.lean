/-
  DERIVED. GIVEN WITH THE SEED: THE CARDS: each row of YtepadpjpmmaodaaGreatDoorRows.lean that lists a variable, with what it lists TIED to the program's text (the seventh form; the later family's looks); each row that meets fmt, with fmt's text TOLD by the authors' own Lean function (tested against real Go, not proved from fmt's source: count such statements apart). THE CARD IS WHAT COUNTS. Prove the row's statement (the work); the ties are given (YtepadpjpmmaodaaGreatDoorTie.lean); close each card by the builder's one call (the guide's Derived/Test/ToyasCard.lean, 'card_holds'). Laid BY PROGRAM, IN A SANDBOX (cutbox-door.mjs). By AI agents, Wed Nov 11 2026. No macro, syntax, notation, axiom, sorry.
-/
import Derived.Test.YtepadpjpmmaodaaGreatDoorRows
import GoSem.ClaimSeven
namespace Go.Proofs.YtepadpjpmmaodaaGreatDoor
namespace Rows

/-- THE TIED CARD OF 'cloisonnelaw18.VaultNil'. -/
def vaultNilCard : Claim7 := { stood := { row := vaultNilRow, standIns := [], harness := (true, "a225c24a6074297bf0a0c600b938b345ffcb8445f80663ad39f3e4b08a6b3e7c"), looks := true }, kinds := [], alts := [], laidByText := true, laidKinds := [.data, .pinned], laidTests := true, laidLooks := .later }
def VaultNilCardSaid : Prop := Claim7.holds Tryz.pinned (.plain (OpenSpec.ofChange vaultNilSpec)) vaultNilCard

/-- THE TIED CARD OF 'cloisonnelaw19.JobNil'. -/
def jobNilCard : Claim7 := { stood := { row := jobNilRow, standIns := [], harness := (true, "a225c24a6074297bf0a0c600b938b345ffcb8445f80663ad39f3e4b08a6b3e7c"), looks := true }, kinds := [], alts := [], laidByText := true, laidKinds := [.data, .pinned], laidTests := true, laidLooks := .later }
def JobNilCardSaid : Prop := Claim7.holds Tryz.pinned (.plain (OpenSpec.ofChange jobNilSpec)) jobNilCard

/-- THE SECOND FORM's CARD OF 'cloisonnelaw18.VaultNil'. -/
def vaultNilUptoCard : Claim7 := { stood := { row := vaultNilUptoRow, standIns := [], harness := (true, "a225c24a6074297bf0a0c600b938b345ffcb8445f80663ad39f3e4b08a6b3e7c"), looks := true }, kinds := [], alts := [], laidByText := true, laidKinds := [.data, .pinned], laidTests := true, laidLooks := .later }
def VaultNilUptoCardSaid : Prop := Claim7.holds Tryz.pinned (.plain (OpenSpec.upto vaultNilSpec)) vaultNilUptoCard

/-- THE SECOND FORM's CARD OF 'cloisonnelaw19.JobNil'. -/
def jobNilUptoCard : Claim7 := { stood := { row := jobNilUptoRow, standIns := [], harness := (true, "a225c24a6074297bf0a0c600b938b345ffcb8445f80663ad39f3e4b08a6b3e7c"), looks := true }, kinds := [], alts := [], laidByText := true, laidKinds := [.data, .pinned], laidTests := true, laidLooks := .later }
def JobNilUptoCardSaid : Prop := Claim7.holds Tryz.pinned (.plain (OpenSpec.upto jobNilSpec)) jobNilUptoCard
end Rows
end Go.Proofs.YtepadpjpmmaodaaGreatDoor
