/-
  DERIVED. GIVEN WITH THE SEED: THE CARDS: each row of YtijjocfjgpibjaaDoorRows.lean that lists a variable, with what it lists TIED to the program's text (the seventh form; the later family's looks); each row that meets fmt, with fmt's text TOLD by the authors' own Lean function (tested against real Go, not proved from fmt's source: count such statements apart). THE CARD IS WHAT COUNTS. Prove the row's statement (the work); the ties are given (YtijjocfjgpibjaaDoorTie.lean); close each card by the builder's one call (the guide's Derived/Test/ToyasCard.lean, 'card_holds'). Laid BY PROGRAM, IN A SANDBOX (cutbox-door.mjs). By AI agents, Wed Nov 11 2026. No macro, syntax, notation, axiom, sorry.
-/
import Derived.Test.YtijjocfjgpibjaaDoorRows
import GoSem.ClaimSeven
namespace Go.Proofs.YtijjocfjgpibjaaDoor
namespace Rows

/-- THE TIED CARD OF 'noongunlaw09.LedgerDigests'. -/
def ledgerDigestsCard : Claim7 := { stood := { row := ledgerDigestsRow, standIns := [], harness := (true, "4b76846990f341262349de1807e0d987f97fb50f97b432c8a72403c25b556487"), looks := true }, kinds := [], alts := [], laidByText := true, laidKinds := [.data, .data, .data], laidTests := true, laidLooks := .later }
def LedgerDigestsCardSaid : Prop := Claim7.holds Tryd.pinned (.plain (OpenSpec.ofChange ledgerDigestsSpec)) ledgerDigestsCard

/-- THE TIED CARD OF 'noongunlaw09.LedgerTexts'. -/
def ledgerTextsCard : Claim7 := { stood := { row := ledgerTextsRow, standIns := [], harness := (true, "4b76846990f341262349de1807e0d987f97fb50f97b432c8a72403c25b556487"), looks := true }, kinds := [], alts := [], laidByText := true, laidKinds := [.data, .data, .data, .data, .sentinel, .sentinel, .pinned], laidTests := true, laidLooks := .later }
def LedgerTextsCardSaid : Prop := Claim7.holds Tryd.pinned (.plain (OpenSpec.ofChange ledgerTextsSpec)) ledgerTextsCard

/-- THE SECOND FORM's CARD OF 'noongunlaw09.LedgerDigests'. -/
def ledgerDigestsUptoCard : Claim7 := { stood := { row := ledgerDigestsUptoRow, standIns := [], harness := (true, "4b76846990f341262349de1807e0d987f97fb50f97b432c8a72403c25b556487"), looks := true }, kinds := [], alts := [], laidByText := true, laidKinds := [.data, .data, .data], laidTests := true, laidLooks := .later }
def LedgerDigestsUptoCardSaid : Prop := Claim7.holds Tryd.pinned (.plain (OpenSpec.upto ledgerDigestsSpec)) ledgerDigestsUptoCard

/-- THE SECOND FORM's CARD OF 'noongunlaw09.LedgerTexts'. -/
def ledgerTextsUptoCard : Claim7 := { stood := { row := ledgerTextsUptoRow, standIns := [], harness := (true, "4b76846990f341262349de1807e0d987f97fb50f97b432c8a72403c25b556487"), looks := true }, kinds := [], alts := [], laidByText := true, laidKinds := [.data, .data, .data, .data, .sentinel, .sentinel, .pinned], laidTests := true, laidLooks := .later }
def LedgerTextsUptoCardSaid : Prop := Claim7.holds Tryd.pinned (.plain (OpenSpec.upto ledgerTextsSpec)) ledgerTextsUptoCard
end Rows
end Go.Proofs.YtijjocfjgpibjaaDoor
