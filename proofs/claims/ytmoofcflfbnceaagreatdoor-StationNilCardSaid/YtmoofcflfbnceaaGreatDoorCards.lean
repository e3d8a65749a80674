/-
  DERIVED. GIVEN WITH THE SEED: THE CARDS: each row of YtmoofcflfbnceaaGreatDoorRows.lean that lists a variable, with what it lists TIED to the program's text (the seventh form; the later family's looks); each row that meets fmt, with fmt's text TOLD by the authors' own Lean function (tested against real Go, not proved from fmt's source: count such statements apart). THE CARD IS WHAT COUNTS. Prove the row's statement (the work); the ties are given (YtmoofcflfbnceaaGreatDoorTie.lean); close each card by the builder's one call (the guide's Derived/Test/ToyasCard.lean, 'card_holds'). Laid BY PROGRAM, IN A SANDBOX (cutbox-door.mjs). By AI agents, Wed Nov 11 2026. No macro, syntax, notation, axiom, sorry.
-/
import Derived.Test.YtmoofcflfbnceaaGreatDoorRows
import GoSem.ClaimSeven
namespace Go.Proofs.YtmoofcflfbnceaaGreatDoor
namespace Rows

/-- THE TIED CARD OF 'noongunlaw10.StationNil'. -/
def stationNilCard : Claim7 := { stood := { row := stationNilRow, standIns := [], harness := (true, "f4ebb254ad9ecb9cbd385d870debaaaf0a2f9c41fa7e41e51b66d9f5c0d4d265"), looks := true }, kinds := [], alts := [], laidByText := true, laidKinds := [.data, .data, .data, .data, .sentinel, .sentinel, .pinned], laidTests := true, laidLooks := .later }
def StationNilCardSaid : Prop := Claim7.holds Tryz.pinned (.plain (OpenSpec.ofChange stationNilSpec)) stationNilCard

/-- THE SECOND FORM's CARD OF 'noongunlaw10.StationNil'. -/
def stationNilUptoCard : Claim7 := { stood := { row := stationNilUptoRow, standIns := [], harness := (true, "f4ebb254ad9ecb9cbd385d870debaaaf0a2f9c41fa7e41e51b66d9f5c0d4d265"), looks := true }, kinds := [], alts := [], laidByText := true, laidKinds := [.data, .data, .data, .data, .sentinel, .sentinel, .pinned], laidTests := true, laidLooks := .later }
def StationNilUptoCardSaid : Prop := Claim7.holds Tryz.pinned (.plain (OpenSpec.upto stationNilSpec)) stationNilUptoCard
end Rows
end Go.Proofs.YtmoofcflfbnceaaGreatDoor
