/-
  DERIVED. GIVEN WITH THE SEED: THE CARDS: each row of YtcnpkijjnbhagaaGreatDoorRows.lean that lists a variable, with what it lists TIED to the program's text (the seventh form; the later family's looks); each row that meets fmt, with fmt's text TOLD by the authors' own Lean function (tested against real Go, not proved from fmt's source: count such statements apart). THE CARD IS WHAT COUNTS. Prove the row's statement (the work); the ties are given (YtcnpkijjnbhagaaGreatDoorTie.lean); close each card by the builder's one call (the guide's Derived/Test/ToyasCard.lean, 'card_holds'). Laid BY PROGRAM, IN A SANDBOX (cutbox-door.mjs). By AI agents, Wed Nov 11 2026. No macro, syntax, notation, axiom, sorry.
-/
import Derived.Test.YtcnpkijjnbhagaaGreatDoorRows
import GoSem.ClaimSeven
namespace Go.Proofs.YtcnpkijjnbhagaaGreatDoor
namespace Rows

/-- THE TIED CARD OF 'bidiguardlaw.Classes'. -/
def classesCard : Claim7 := { stood := { row := classesRow, standIns := [], harness := (true, "9e7922dd4cec029f5e343826ee335b970dc0f1fbd75f426472c4f794741539af"), looks := true }, kinds := [], alts := [], laidByText := true, laidKinds := [.data, .data, .handle, .sentinel, .sentinel, .sentinel, .pinned], laidTests := true, laidLooks := .later }
def ClassesCardSaid : Prop := Claim7.holds Tryz.pinned (.plain (OpenSpec.ofChange classesSpec)) classesCard

/-- THE TIED CARD OF 'bidiguardlaw.Parts'. -/
def partsCard : Claim7 := { stood := { row := partsRow, standIns := [], harness := (true, "9e7922dd4cec029f5e343826ee335b970dc0f1fbd75f426472c4f794741539af"), looks := true }, kinds := [], alts := [], laidByText := true, laidKinds := [.data, .data, .handle, .sentinel, .sentinel, .sentinel, .pinned], laidTests := true, laidLooks := .later }
def PartsCardSaid : Prop := Claim7.holds Tryz.pinned (.plain (OpenSpec.ofChange partsSpec)) partsCard

/-- THE TIED CARD OF 'bidiguardlaw.Applies'. -/
def appliesCard : Claim7 := { stood := { row := appliesRow, standIns := [], harness := (true, "9e7922dd4cec029f5e343826ee335b970dc0f1fbd75f426472c4f794741539af"), looks := true }, kinds := [], alts := [], laidByText := true, laidKinds := [.data, .data, .handle, .sentinel, .sentinel, .sentinel, .pinned], laidTests := true, laidLooks := .later }
def AppliesCardSaid : Prop := Claim7.holds Tryz.pinned (.plain (OpenSpec.ofChange appliesSpec)) appliesCard

/-- THE SECOND FORM's CARD OF 'bidiguardlaw.Classes'. -/
def classesUptoCard : Claim7 := { stood := { row := classesUptoRow, standIns := [], harness := (true, "9e7922dd4cec029f5e343826ee335b970dc0f1fbd75f426472c4f794741539af"), looks := true }, kinds := [], alts := [], laidByText := true, laidKinds := [.data, .data, .handle, .sentinel, .sentinel, .sentinel, .pinned], laidTests := true, laidLooks := .later }
def ClassesUptoCardSaid : Prop := Claim7.holds Tryz.pinned (.plain (OpenSpec.upto classesSpec)) classesUptoCard

/-- THE SECOND FORM's CARD OF 'bidiguardlaw.Parts'. -/
def partsUptoCard : Claim7 := { stood := { row := partsUptoRow, standIns := [], harness := (true, "9e7922dd4cec029f5e343826ee335b970dc0f1fbd75f426472c4f794741539af"), looks := true }, kinds := [], alts := [], laidByText := true, laidKinds := [.data, .data, .handle, .sentinel, .sentinel, .sentinel, .pinned], laidTests := true, laidLooks := .later }
def PartsUptoCardSaid : Prop := Claim7.holds Tryz.pinned (.plain (OpenSpec.upto partsSpec)) partsUptoCard

/-- THE SECOND FORM's CARD OF 'bidiguardlaw.Applies'. -/
def appliesUptoCard : Claim7 := { stood := { row := appliesUptoRow, standIns := [], harness := (true, "9e7922dd4cec029f5e343826ee335b970dc0f1fbd75f426472c4f794741539af"), looks := true }, kinds := [], alts := [], laidByText := true, laidKinds := [.data, .data, .handle, .sentinel, .sentinel, .sentinel, .pinned], laidTests := true, laidLooks := .later }
def AppliesUptoCardSaid : Prop := Claim7.holds Tryz.pinned (.plain (OpenSpec.upto appliesSpec)) appliesUptoCard
end Rows
end Go.Proofs.YtcnpkijjnbhagaaGreatDoor
