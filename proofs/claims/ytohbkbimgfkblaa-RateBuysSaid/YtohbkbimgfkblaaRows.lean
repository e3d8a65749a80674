/-
  No cell of these rows narrows 'for every input' (looked for: loops, veiled, ifaces, maps, wideKeys, modest, calm, conditions, laid).
  DERIVED. THE GIVEN ROWS OF THIS SEAT. 10 by the template 'for every input the law returns true; each argument reads behind the call as it read before'; 0 by the template 'total and deterministic' (their statements: YtohbkbimgfkblaaTotals.lean).
  GIVEN WITH THE SEED: the statements are not yours to turn. If you find one false, say at which input.
  Laid BY PROGRAM, IN A SANDBOX (cutbox-rows.mjs): the forced cells as the released guide's own fill.sh prints them over the translation 6abfde6618c20e53… (all of the seat's roots in one cut). By AI agents, Wed Nov 11 2026. No macro, syntax, notation, axiom, sorry.
-/
import Derived.Test.YtohbkbimgfkblaaChecked
import GoSem.Claim
import GoSem.ClaimJoined
import GoSem.ClaimMapViews
import Derived.JoinedTies
import Derived.KernelRfl
namespace Go.Proofs.Ytohbkbimgfkblaa
/- THE CELL 'sum', in the pinned program and in every row, IS THE sha256 OF THE DUMP (.gsa) THAT YtohbkbimgfkblaaProg.lean LOADS. Nothing in Lean hashes anything: it is a label: what it is worth is what the hold of that sum in a sandbox is worth. -/
noncomputable def Try.pinned : Pinned := { name := "ytohbkbimgfkblaa", sum := "6abfde6618c20e537f7243adb83eca5edffa107b7e3f30e80f09dea0bc74b5c0", checked := Try.checked }
namespace Rows
def none {H : Type} : Left H := { results := [], args := [] }

/-- 'noongunlaw06.RateOpposite': WHATEVER THE INPUT: true; the input reads as it did. -/
def rateOppositeSpec : ChangeSpec := { name := "rateOpposite", fn := fun _ => fun
  | [d] => { results := [.lit (.bool true)], args := [d] }
  | _ => none }
def rateOppositeRow : OpenClaim := { program := "ytohbkbimgfkblaa", sum := "6abfde6618c20e537f7243adb83eca5edffa107b7e3f30e80f09dea0bc74b5c0", func := "noongun/noongunlaw06.RateOpposite", spec := "rateOpposite", unfollowed := true, recurses := true, apart := false }
def RateOppositeSaid : Prop := rateOppositeRow.holds Try.pinned (OpenSpec.ofChange rateOppositeSpec)

/-- ITS FALSE NEIGHBOUR: 'it returns false'. Refute it at one input. -/
def rateOppositeWrong : ChangeSpec := { name := "rateOpposite", fn := fun _ => fun
  | [d] => { results := [.lit (.bool false)], args := [d] }
  | _ => none }
def RateOppositeWrongFalsely : Prop := rateOppositeRow.holds Try.pinned (OpenSpec.ofChange rateOppositeWrong)

/-- 'noongunlaw06.RateShifted': WHATEVER THE INPUT: true; the input reads as it did. -/
def rateShiftedSpec : ChangeSpec := { name := "rateShifted", fn := fun _ => fun
  | [d1, d2, d3] => { results := [.lit (.bool true)], args := [d1, d2, d3] }
  | _ => none }
def rateShiftedRow : OpenClaim := { program := "ytohbkbimgfkblaa", sum := "6abfde6618c20e537f7243adb83eca5edffa107b7e3f30e80f09dea0bc74b5c0", func := "noongun/noongunlaw06.RateShifted", spec := "rateShifted", unfollowed := true, recurses := true, apart := false }
def RateShiftedSaid : Prop := rateShiftedRow.holds Try.pinned (OpenSpec.ofChange rateShiftedSpec)

/-- ITS FALSE NEIGHBOUR: 'it returns false'. Refute it at one input. -/
def rateShiftedWrong : ChangeSpec := { name := "rateShifted", fn := fun _ => fun
  | [d1, d2, d3] => { results := [.lit (.bool false)], args := [d1, d2, d3] }
  | _ => none }
def RateShiftedWrongFalsely : Prop := rateShiftedRow.holds Try.pinned (OpenSpec.ofChange rateShiftedWrong)

/-- 'noongunlaw06.RateHolds': WHATEVER THE INPUT: true; the input reads as it did. -/
def rateHoldsSpec : ChangeSpec := { name := "rateHolds", fn := fun _ => fun
  | [d1, d2, d3] => { results := [.lit (.bool true)], args := [d1, d2, d3] }
  | _ => none }
def rateHoldsRow : OpenClaim := { program := "ytohbkbimgfkblaa", sum := "6abfde6618c20e537f7243adb83eca5edffa107b7e3f30e80f09dea0bc74b5c0", func := "noongun/noongunlaw06.RateHolds", spec := "rateHolds", unfollowed := true, recurses := true, apart := false }
def RateHoldsSaid : Prop := rateHoldsRow.holds Try.pinned (OpenSpec.ofChange rateHoldsSpec)

/-- ITS FALSE NEIGHBOUR: 'it returns false'. Refute it at one input. -/
def rateHoldsWrong : ChangeSpec := { name := "rateHolds", fn := fun _ => fun
  | [d1, d2, d3] => { results := [.lit (.bool false)], args := [d1, d2, d3] }
  | _ => none }
def RateHoldsWrongFalsely : Prop := rateHoldsRow.holds Try.pinned (OpenSpec.ofChange rateHoldsWrong)

/-- 'noongunlaw06.RateJoined': WHATEVER THE INPUT: true; the input reads as it did. -/
def rateJoinedSpec : ChangeSpec := { name := "rateJoined", fn := fun _ => fun
  | [d1, d2] => { results := [.lit (.bool true)], args := [d1, d2] }
  | _ => none }
def rateJoinedRow : OpenClaim := { program := "ytohbkbimgfkblaa", sum := "6abfde6618c20e537f7243adb83eca5edffa107b7e3f30e80f09dea0bc74b5c0", func := "noongun/noongunlaw06.RateJoined", spec := "rateJoined", unfollowed := true, recurses := true, apart := false }
def RateJoinedSaid : Prop := rateJoinedRow.holds Try.pinned (OpenSpec.ofChange rateJoinedSpec)

/-- ITS FALSE NEIGHBOUR: 'it returns false'. Refute it at one input. -/
def rateJoinedWrong : ChangeSpec := { name := "rateJoined", fn := fun _ => fun
  | [d1, d2] => { results := [.lit (.bool false)], args := [d1, d2] }
  | _ => none }
def RateJoinedWrongFalsely : Prop := rateJoinedRow.holds Try.pinned (OpenSpec.ofChange rateJoinedWrong)

/-- 'noongunlaw06.RateWarm': WHATEVER THE INPUT: true; the input reads as it did. -/
def rateWarmSpec : ChangeSpec := { name := "rateWarm", fn := fun _ => fun
  | [d1, d2, d3, d4, d5] => { results := [.lit (.bool true)], args := [d1, d2, d3, d4, d5] }
  | _ => none }
def rateWarmRow : OpenClaim := { program := "ytohbkbimgfkblaa", sum := "6abfde6618c20e537f7243adb83eca5edffa107b7e3f30e80f09dea0bc74b5c0", func := "noongun/noongunlaw06.RateWarm", spec := "rateWarm", unfollowed := true, recurses := true, apart := false }
def RateWarmSaid : Prop := rateWarmRow.holds Try.pinned (OpenSpec.ofChange rateWarmSpec)

/-- ITS FALSE NEIGHBOUR: 'it returns false'. Refute it at one input. -/
def rateWarmWrong : ChangeSpec := { name := "rateWarm", fn := fun _ => fun
  | [d1, d2, d3, d4, d5] => { results := [.lit (.bool false)], args := [d1, d2, d3, d4, d5] }
  | _ => none }
def RateWarmWrongFalsely : Prop := rateWarmRow.holds Try.pinned (OpenSpec.ofChange rateWarmWrong)

/-- 'noongunlaw06.RateAhead': WHATEVER THE INPUT: true; the input reads as it did. -/
def rateAheadSpec : ChangeSpec := { name := "rateAhead", fn := fun _ => fun
  | [d1, d2, d3, d4, d5] => { results := [.lit (.bool true)], args := [d1, d2, d3, d4, d5] }
  | _ => none }
def rateAheadRow : OpenClaim := { program := "ytohbkbimgfkblaa", sum := "6abfde6618c20e537f7243adb83eca5edffa107b7e3f30e80f09dea0bc74b5c0", func := "noongun/noongunlaw06.RateAhead", spec := "rateAhead", unfollowed := true, recurses := true, apart := false }
def RateAheadSaid : Prop := rateAheadRow.holds Try.pinned (OpenSpec.ofChange rateAheadSpec)

/-- ITS FALSE NEIGHBOUR: 'it returns false'. Refute it at one input. -/
def rateAheadWrong : ChangeSpec := { name := "rateAhead", fn := fun _ => fun
  | [d1, d2, d3, d4, d5] => { results := [.lit (.bool false)], args := [d1, d2, d3, d4, d5] }
  | _ => none }
def RateAheadWrongFalsely : Prop := rateAheadRow.holds Try.pinned (OpenSpec.ofChange rateAheadWrong)

/-- 'noongunlaw06.RateDays': WHATEVER THE INPUT: true; the input reads as it did. -/
def rateDaysSpec : ChangeSpec := { name := "rateDays", fn := fun _ => fun
  | [d] => { results := [.lit (.bool true)], args := [d] }
  | _ => none }
def rateDaysRow : OpenClaim := { program := "ytohbkbimgfkblaa", sum := "6abfde6618c20e537f7243adb83eca5edffa107b7e3f30e80f09dea0bc74b5c0", func := "noongun/noongunlaw06.RateDays", spec := "rateDays", unfollowed := true, recurses := true, apart := false }
def RateDaysSaid : Prop := rateDaysRow.holds Try.pinned (OpenSpec.ofChange rateDaysSpec)

/-- ITS FALSE NEIGHBOUR: 'it returns false'. Refute it at one input. -/
def rateDaysWrong : ChangeSpec := { name := "rateDays", fn := fun _ => fun
  | [d] => { results := [.lit (.bool false)], args := [d] }
  | _ => none }
def RateDaysWrongFalsely : Prop := rateDaysRow.holds Try.pinned (OpenSpec.ofChange rateDaysWrong)

/-- 'noongunlaw06.RateOdd': WHATEVER THE INPUT: true; the input reads as it did. -/
def rateOddSpec : ChangeSpec := { name := "rateOdd", fn := fun _ => fun
  | [d1, d2, d3, d4] => { results := [.lit (.bool true)], args := [d1, d2, d3, d4] }
  | _ => none }
def rateOddRow : OpenClaim := { program := "ytohbkbimgfkblaa", sum := "6abfde6618c20e537f7243adb83eca5edffa107b7e3f30e80f09dea0bc74b5c0", func := "noongun/noongunlaw06.RateOdd", spec := "rateOdd", unfollowed := true, recurses := true, apart := false }
def RateOddSaid : Prop := rateOddRow.holds Try.pinned (OpenSpec.ofChange rateOddSpec)

/-- ITS FALSE NEIGHBOUR: 'it returns false'. Refute it at one input. -/
def rateOddWrong : ChangeSpec := { name := "rateOdd", fn := fun _ => fun
  | [d1, d2, d3, d4] => { results := [.lit (.bool false)], args := [d1, d2, d3, d4] }
  | _ => none }
def RateOddWrongFalsely : Prop := rateOddRow.holds Try.pinned (OpenSpec.ofChange rateOddWrong)

/-- 'noongunlaw06.RateBuys': WHATEVER THE INPUT: true; the input reads as it did. -/
def rateBuysSpec : ChangeSpec := { name := "rateBuys", fn := fun _ => fun
  | [d1, d2, d3, d4] => { results := [.lit (.bool true)], args := [d1, d2, d3, d4] }
  | _ => none }
def rateBuysRow : OpenClaim := { program := "ytohbkbimgfkblaa", sum := "6abfde6618c20e537f7243adb83eca5edffa107b7e3f30e80f09dea0bc74b5c0", func := "noongun/noongunlaw06.RateBuys", spec := "rateBuys", unfollowed := true, recurses := true, apart := false }
def RateBuysSaid : Prop := rateBuysRow.holds Try.pinned (OpenSpec.ofChange rateBuysSpec)

/-- ITS FALSE NEIGHBOUR: 'it returns false'. Refute it at one input. -/
def rateBuysWrong : ChangeSpec := { name := "rateBuys", fn := fun _ => fun
  | [d1, d2, d3, d4] => { results := [.lit (.bool false)], args := [d1, d2, d3, d4] }
  | _ => none }
def RateBuysWrongFalsely : Prop := rateBuysRow.holds Try.pinned (OpenSpec.ofChange rateBuysWrong)

/-- 'noongunlaw06.RateTrials': WHATEVER THE INPUT: true; the input reads as it did. -/
def rateTrialsSpec : ChangeSpec := { name := "rateTrials", fn := fun _ => fun
  | [d1, d2] => { results := [.lit (.bool true)], args := [d1, d2] }
  | _ => none }
def rateTrialsRow : OpenClaim := { program := "ytohbkbimgfkblaa", sum := "6abfde6618c20e537f7243adb83eca5edffa107b7e3f30e80f09dea0bc74b5c0", func := "noongun/noongunlaw06.RateTrials", spec := "rateTrials", unfollowed := true, recurses := true, apart := false }
def RateTrialsSaid : Prop := rateTrialsRow.holds Try.pinned (OpenSpec.ofChange rateTrialsSpec)

/-- ITS FALSE NEIGHBOUR: 'it returns false'. Refute it at one input. -/
def rateTrialsWrong : ChangeSpec := { name := "rateTrials", fn := fun _ => fun
  | [d1, d2] => { results := [.lit (.bool false)], args := [d1, d2] }
  | _ => none }
def RateTrialsWrongFalsely : Prop := rateTrialsRow.holds Try.pinned (OpenSpec.ofChange rateTrialsWrong)

/- THE SECOND FORM. 'bulk': how many values and letters a reading holds, each counted each time it is reached (what is shared counts as often as it is met; a slice's spare places count too). A statement '..UptoSaid' is the law's where the arguments, and the package variables that the reading takes, are together of bulk at most 1048576: NARROWER than '..Said'. Prove '..Said' where nothing that the law and all that it calls make is longer than what came in: it says more and counts as full. Else prove '..UptoSaid'. A law counts once. -/
mutual
def uptoBulk {H : Type} : DataW H → Nat
  | .lit (.string bytes) => bytes.length + 1
  | .lit _ => 1
  | .nil => 1
  | .ptr d => uptoBulk d + 1
  | .slice elems spare => uptoBulkAll elems + uptoBulkAll spare + 1
  | .agg parts => uptoBulkAll parts + 1
  | .iface _ d => uptoBulk d + 1
  | .map entries => uptoBulkEntries entries + 1
  | .held _ => 1
def uptoBulkAll {H : Type} : List (DataW H) → Nat
  | [] => 0
  | d :: r => uptoBulk d + uptoBulkAll r
def uptoBulkEntries {H : Type} : List (Lit × DataW H) → Nat
  | [] => 0
  | x :: r => uptoBulkEntry x + uptoBulkEntries r
def uptoBulkEntry {H : Type} : Lit × DataW H → Nat
  | (.string bytes, d) => bytes.length + uptoBulk d + 1
  | (_, d) => uptoBulk d + 1
 end
def uptoSmall : (H : Type) → List (DataW H) → Bool := fun _ ds => decide (uptoBulkAll ds ≤ 1048576)
def OpenSpec.upto (s : _root_.Go.ChangeSpec) : _root_.Go.OpenSpec := { _root_.Go.OpenSpec.ofChange s with cond := some uptoSmall }

/-- 'noongunlaw06.RateOpposite', WHERE WHAT IT READS IS OF BULK AT MOST 1048576: true; the input reads as it did. -/
def rateOppositeUptoRow : OpenClaim := { program := "ytohbkbimgfkblaa", sum := "6abfde6618c20e537f7243adb83eca5edffa107b7e3f30e80f09dea0bc74b5c0", func := "noongun/noongunlaw06.RateOpposite", spec := "rateOpposite", unfollowed := true, recurses := true, apart := false, narrowed := true }
def RateOppositeUptoSaid : Prop := rateOppositeUptoRow.holds Try.pinned (OpenSpec.upto rateOppositeSpec)

/-- 'noongunlaw06.RateShifted', WHERE WHAT IT READS IS OF BULK AT MOST 1048576: true; the input reads as it did. -/
def rateShiftedUptoRow : OpenClaim := { program := "ytohbkbimgfkblaa", sum := "6abfde6618c20e537f7243adb83eca5edffa107b7e3f30e80f09dea0bc74b5c0", func := "noongun/noongunlaw06.RateShifted", spec := "rateShifted", unfollowed := true, recurses := true, apart := false, narrowed := true }
def RateShiftedUptoSaid : Prop := rateShiftedUptoRow.holds Try.pinned (OpenSpec.upto rateShiftedSpec)

/-- 'noongunlaw06.RateHolds', WHERE WHAT IT READS IS OF BULK AT MOST 1048576: true; the input reads as it did. -/
def rateHoldsUptoRow : OpenClaim := { program := "ytohbkbimgfkblaa", sum := "6abfde6618c20e537f7243adb83eca5edffa107b7e3f30e80f09dea0bc74b5c0", func := "noongun/noongunlaw06.RateHolds", spec := "rateHolds", unfollowed := true, recurses := true, apart := false, narrowed := true }
def RateHoldsUptoSaid : Prop := rateHoldsUptoRow.holds Try.pinned (OpenSpec.upto rateHoldsSpec)

/-- 'noongunlaw06.RateJoined', WHERE WHAT IT READS IS OF BULK AT MOST 1048576: true; the input reads as it did. -/
def rateJoinedUptoRow : OpenClaim := { program := "ytohbkbimgfkblaa", sum := "6abfde6618c20e537f7243adb83eca5edffa107b7e3f30e80f09dea0bc74b5c0", func := "noongun/noongunlaw06.RateJoined", spec := "rateJoined", unfollowed := true, recurses := true, apart := false, narrowed := true }
def RateJoinedUptoSaid : Prop := rateJoinedUptoRow.holds Try.pinned (OpenSpec.upto rateJoinedSpec)

/-- 'noongunlaw06.RateWarm', WHERE WHAT IT READS IS OF BULK AT MOST 1048576: true; the input reads as it did. -/
def rateWarmUptoRow : OpenClaim := { program := "ytohbkbimgfkblaa", sum := "6abfde6618c20e537f7243adb83eca5edffa107b7e3f30e80f09dea0bc74b5c0", func := "noongun/noongunlaw06.RateWarm", spec := "rateWarm", unfollowed := true, recurses := true, apart := false, narrowed := true }
def RateWarmUptoSaid : Prop := rateWarmUptoRow.holds Try.pinned (OpenSpec.upto rateWarmSpec)

/-- 'noongunlaw06.RateAhead', WHERE WHAT IT READS IS OF BULK AT MOST 1048576: true; the input reads as it did. -/
def rateAheadUptoRow : OpenClaim := { program := "ytohbkbimgfkblaa", sum := "6abfde6618c20e537f7243adb83eca5edffa107b7e3f30e80f09dea0bc74b5c0", func := "noongun/noongunlaw06.RateAhead", spec := "rateAhead", unfollowed := true, recurses := true, apart := false, narrowed := true }
def RateAheadUptoSaid : Prop := rateAheadUptoRow.holds Try.pinned (OpenSpec.upto rateAheadSpec)

/-- 'noongunlaw06.RateDays', WHERE WHAT IT READS IS OF BULK AT MOST 1048576: true; the input reads as it did. -/
def rateDaysUptoRow : OpenClaim := { program := "ytohbkbimgfkblaa", sum := "6abfde6618c20e537f7243adb83eca5edffa107b7e3f30e80f09dea0bc74b5c0", func := "noongun/noongunlaw06.RateDays", spec := "rateDays", unfollowed := true, recurses := true, apart := false, narrowed := true }
def RateDaysUptoSaid : Prop := rateDaysUptoRow.holds Try.pinned (OpenSpec.upto rateDaysSpec)

/-- 'noongunlaw06.RateOdd', WHERE WHAT IT READS IS OF BULK AT MOST 1048576: true; the input reads as it did. -/
def rateOddUptoRow : OpenClaim := { program := "ytohbkbimgfkblaa", sum := "6abfde6618c20e537f7243adb83eca5edffa107b7e3f30e80f09dea0bc74b5c0", func := "noongun/noongunlaw06.RateOdd", spec := "rateOdd", unfollowed := true, recurses := true, apart := false, narrowed := true }
def RateOddUptoSaid : Prop := rateOddUptoRow.holds Try.pinned (OpenSpec.upto rateOddSpec)

/-- 'noongunlaw06.RateBuys', WHERE WHAT IT READS IS OF BULK AT MOST 1048576: true; the input reads as it did. -/
def rateBuysUptoRow : OpenClaim := { program := "ytohbkbimgfkblaa", sum := "6abfde6618c20e537f7243adb83eca5edffa107b7e3f30e80f09dea0bc74b5c0", func := "noongun/noongunlaw06.RateBuys", spec := "rateBuys", unfollowed := true, recurses := true, apart := false, narrowed := true }
def RateBuysUptoSaid : Prop := rateBuysUptoRow.holds Try.pinned (OpenSpec.upto rateBuysSpec)

/-- 'noongunlaw06.RateTrials', WHERE WHAT IT READS IS OF BULK AT MOST 1048576: true; the input reads as it did. -/
def rateTrialsUptoRow : OpenClaim := { program := "ytohbkbimgfkblaa", sum := "6abfde6618c20e537f7243adb83eca5edffa107b7e3f30e80f09dea0bc74b5c0", func := "noongun/noongunlaw06.RateTrials", spec := "rateTrials", unfollowed := true, recurses := true, apart := false, narrowed := true }
def RateTrialsUptoSaid : Prop := rateTrialsUptoRow.holds Try.pinned (OpenSpec.upto rateTrialsSpec)

end Rows
end Go.Proofs.Ytohbkbimgfkblaa
