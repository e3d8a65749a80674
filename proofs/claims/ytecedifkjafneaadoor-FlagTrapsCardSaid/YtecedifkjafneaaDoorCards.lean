/-
  DERIVED. GIVEN WITH THE SEED: THE CARDS: each row of YtecedifkjafneaaDoorRows.lean that lists a variable, with what it lists TIED to the program's text (the seventh form; the later family's looks); each row that meets fmt, with fmt's text TOLD by the authors' own Lean function (tested against real Go, not proved from fmt's source: count such statements apart). THE CARD IS WHAT COUNTS. Prove the row's statement (the work); the ties are given (YtecedifkjafneaaDoorTie.lean); close each card by the builder's one call (the guide's Derived/Test/ToyasCard.lean, 'card_holds'). Laid BY PROGRAM, IN A SANDBOX (cutbox-door.mjs). By AI agents, Wed Nov 11 2026. No macro, syntax, notation, axiom, sorry.
-/
import Derived.Test.YtecedifkjafneaaDoorRows
import GoSem.ClaimSeven
namespace Go.Proofs.YtecedifkjafneaaDoor
namespace Rows

/-- THE TIED CARD OF 'noongunlaw07.FlagDigits'. -/
def flagDigitsCard : Claim7 := { stood := { row := flagDigitsRow, standIns := [], harness := (true, "edcd024b90508b6c0bdeaf89fe8669e1d8ca34e15214fa097ba2fc14bb1d4f64"), looks := true }, kinds := [], alts := [], laidByText := true, laidKinds := [.data, .data, .data], laidTests := true, laidLooks := .later }
def FlagDigitsCardSaid : Prop := Claim7.holds Tryd.pinned (.plain (OpenSpec.ofChange flagDigitsSpec)) flagDigitsCard

/-- THE TIED CARD OF 'noongunlaw07.FlagBooks'. -/
def flagBooksCard : Claim7 := { stood := { row := flagBooksRow, standIns := [], harness := (true, "edcd024b90508b6c0bdeaf89fe8669e1d8ca34e15214fa097ba2fc14bb1d4f64"), looks := true }, kinds := [], alts := [], laidByText := true, laidKinds := [.data, .data, .data], laidTests := true, laidLooks := .later }
def FlagBooksCardSaid : Prop := Claim7.holds Tryd.pinned (.plain (OpenSpec.ofChange flagBooksSpec)) flagBooksCard

/-- THE TIED CARD OF 'noongunlaw07.FlagTexts'. -/
def flagTextsCard : Claim7 := { stood := { row := flagTextsRow, standIns := [], harness := (true, "edcd024b90508b6c0bdeaf89fe8669e1d8ca34e15214fa097ba2fc14bb1d4f64"), looks := true }, kinds := [], alts := [], laidByText := true, laidKinds := [.data, .data, .data, .sentinel, .sentinel], laidTests := true, laidLooks := .later }
def FlagTextsCardSaid : Prop := Claim7.holds Tryd.pinned (.plain (OpenSpec.ofChange flagTextsSpec)) flagTextsCard

/-- THE TIED CARD OF 'noongunlaw07.FlagTraps'. -/
def flagTrapsCard : Claim7 := { stood := { row := flagTrapsRow, standIns := [], harness := (true, "edcd024b90508b6c0bdeaf89fe8669e1d8ca34e15214fa097ba2fc14bb1d4f64"), looks := true }, kinds := [], alts := [], laidByText := true, laidKinds := [.data, .data, .data], laidTests := true, laidLooks := .later }
def FlagTrapsCardSaid : Prop := Claim7.holds Tryd.pinned (.plain (OpenSpec.ofChange flagTrapsSpec)) flagTrapsCard

/-- THE SECOND FORM's CARD OF 'noongunlaw07.FlagDigits'. -/
def flagDigitsUptoCard : Claim7 := { stood := { row := flagDigitsUptoRow, standIns := [], harness := (true, "edcd024b90508b6c0bdeaf89fe8669e1d8ca34e15214fa097ba2fc14bb1d4f64"), looks := true }, kinds := [], alts := [], laidByText := true, laidKinds := [.data, .data, .data], laidTests := true, laidLooks := .later }
def FlagDigitsUptoCardSaid : Prop := Claim7.holds Tryd.pinned (.plain (OpenSpec.upto flagDigitsSpec)) flagDigitsUptoCard

/-- THE SECOND FORM's CARD OF 'noongunlaw07.FlagBooks'. -/
def flagBooksUptoCard : Claim7 := { stood := { row := flagBooksUptoRow, standIns := [], harness := (true, "edcd024b90508b6c0bdeaf89fe8669e1d8ca34e15214fa097ba2fc14bb1d4f64"), looks := true }, kinds := [], alts := [], laidByText := true, laidKinds := [.data, .data, .data], laidTests := true, laidLooks := .later }
def FlagBooksUptoCardSaid : Prop := Claim7.holds Tryd.pinned (.plain (OpenSpec.upto flagBooksSpec)) flagBooksUptoCard

/-- THE SECOND FORM's CARD OF 'noongunlaw07.FlagTexts'. -/
def flagTextsUptoCard : Claim7 := { stood := { row := flagTextsUptoRow, standIns := [], harness := (true, "edcd024b90508b6c0bdeaf89fe8669e1d8ca34e15214fa097ba2fc14bb1d4f64"), looks := true }, kinds := [], alts := [], laidByText := true, laidKinds := [.data, .data, .data, .sentinel, .sentinel], laidTests := true, laidLooks := .later }
def FlagTextsUptoCardSaid : Prop := Claim7.holds Tryd.pinned (.plain (OpenSpec.upto flagTextsSpec)) flagTextsUptoCard

/-- THE SECOND FORM's CARD OF 'noongunlaw07.FlagTraps'. -/
def flagTrapsUptoCard : Claim7 := { stood := { row := flagTrapsUptoRow, standIns := [], harness := (true, "edcd024b90508b6c0bdeaf89fe8669e1d8ca34e15214fa097ba2fc14bb1d4f64"), looks := true }, kinds := [], alts := [], laidByText := true, laidKinds := [.data, .data, .data], laidTests := true, laidLooks := .later }
def FlagTrapsUptoCardSaid : Prop := Claim7.holds Tryd.pinned (.plain (OpenSpec.upto flagTrapsSpec)) flagTrapsUptoCard
end Rows
end Go.Proofs.YtecedifkjafneaaDoor
