/-
  DERIVED. GIVEN WITH THE SEED: THE CARDS: each row of YtnkncedhanainaaGreatDoorRows.lean that lists a variable, with what it lists TIED to the program's text (the seventh form; the later family's looks); each row that meets fmt, with fmt's text TOLD by the authors' own Lean function (tested against real Go, not proved from fmt's source: count such statements apart). THE CARD IS WHAT COUNTS. Prove the row's statement (the work); the ties are given (YtnkncedhanainaaGreatDoorTie.lean); close each card by the builder's one call (the guide's Derived/Test/ToyasCard.lean, 'card_holds'). Laid BY PROGRAM, IN A SANDBOX (cutbox-door.mjs). By AI agents, Wed Nov 11 2026. No macro, syntax, notation, axiom, sorry.
-/
import Derived.Test.YtnkncedhanainaaGreatDoorRows
import GoSem.ClaimSeven
namespace Go.Proofs.YtnkncedhanainaaGreatDoor
namespace Rows

/-- THE TIED CARD OF 'noonguntop.TopVerdictHoisted'. -/
def topVerdictHoistedCard : Claim7 := { stood := { row := topVerdictHoistedRow, standIns := [], harness := (true, "01f136feb394abad30a77777e71c3fdddab448147f58f6a2d43271e4b50fd432"), looks := false }, kinds := [], alts := [], laidByText := true, laidKinds := [.data, .data, .data], laidTests := true, laidLooks := .later }
def TopVerdictHoistedCardSaid : Prop := Claim7.holds Tryz.pinned (.plain (OpenSpec.ofChange topVerdictHoistedSpec)) topVerdictHoistedCard

/-- THE SECOND FORM's CARD OF 'noonguntop.TopVerdictHoisted'. -/
def topVerdictHoistedUptoCard : Claim7 := { stood := { row := topVerdictHoistedUptoRow, standIns := [], harness := (true, "01f136feb394abad30a77777e71c3fdddab448147f58f6a2d43271e4b50fd432"), looks := false }, kinds := [], alts := [], laidByText := true, laidKinds := [.data, .data, .data], laidTests := true, laidLooks := .later }
def TopVerdictHoistedUptoCardSaid : Prop := Claim7.holds Tryz.pinned (.plain (OpenSpec.upto topVerdictHoistedSpec)) topVerdictHoistedUptoCard
end Rows
end Go.Proofs.YtnkncedhanainaaGreatDoor
