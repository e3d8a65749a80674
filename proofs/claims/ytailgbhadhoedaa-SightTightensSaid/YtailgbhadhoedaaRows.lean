/-
  No cell of these rows narrows 'for every input' (looked for: loops, veiled, ifaces, maps, wideKeys, modest, calm, conditions, laid).
  DERIVED. THE GIVEN ROWS OF THIS SEAT. 11 by the template 'for every input the law returns true; each argument reads behind the call as it read before'; 0 by the template 'total and deterministic' (their statements: YtailgbhadhoedaaTotals.lean).
  GIVEN WITH THE SEED: the statements are not yours to turn. If you find one false, say at which input.
  Laid BY PROGRAM, IN A SANDBOX (cutbox-rows.mjs): the forced cells as the released guide's own fill.sh prints them over the translation 62b5362a16e13494… (all of the seat's roots in one cut). By AI agents, Wed Nov 11 2026. No macro, syntax, notation, axiom, sorry.
-/
import Derived.Test.YtailgbhadhoedaaChecked
import GoSem.Claim
import GoSem.ClaimJoined
import GoSem.ClaimMapViews
import Derived.JoinedTies
import Derived.KernelRfl
namespace Go.Proofs.Ytailgbhadhoedaa
/- THE CELL 'sum', in the pinned program and in every row, IS THE sha256 OF THE DUMP (.gsa) THAT YtailgbhadhoedaaProg.lean LOADS. Nothing in Lean hashes anything: it is a label: what it is worth is what the hold of that sum in a sandbox is worth. -/
noncomputable def Try.pinned : Pinned := { name := "ytailgbhadhoedaa", sum := "62b5362a16e13494660c2405c408a1a30af67224efdf9e23173e057f1cd8276e", checked := Try.checked }
namespace Rows
def none {H : Type} : Left H := { results := [], args := [] }

/-- 'noongunlaw02.SightOrders': WHATEVER THE INPUT: true; the input reads as it did. -/
def sightOrdersSpec : ChangeSpec := { name := "sightOrders", fn := fun _ => fun
  | [d1, d2, d3] => { results := [.lit (.bool true)], args := [d1, d2, d3] }
  | _ => none }
def sightOrdersRow : OpenClaim := { program := "ytailgbhadhoedaa", sum := "62b5362a16e13494660c2405c408a1a30af67224efdf9e23173e057f1cd8276e", func := "noongun/noongunlaw02.SightOrders", spec := "sightOrders", unfollowed := true, recurses := true, plainKeys := false, apart := false }
def SightOrdersSaid : Prop := sightOrdersRow.holds Try.pinned (OpenSpec.ofChange sightOrdersSpec)

/-- ITS FALSE NEIGHBOUR: 'it returns false'. Refute it at one input. -/
def sightOrdersWrong : ChangeSpec := { name := "sightOrders", fn := fun _ => fun
  | [d1, d2, d3] => { results := [.lit (.bool false)], args := [d1, d2, d3] }
  | _ => none }
def SightOrdersWrongFalsely : Prop := sightOrdersRow.holds Try.pinned (OpenSpec.ofChange sightOrdersWrong)

/-- 'noongunlaw02.SightTrue': WHATEVER THE INPUT: true; the input reads as it did. -/
def sightTrueSpec : ChangeSpec := { name := "sightTrue", fn := fun _ => fun
  | [d1, d2, d3] => { results := [.lit (.bool true)], args := [d1, d2, d3] }
  | _ => none }
def sightTrueRow : OpenClaim := { program := "ytailgbhadhoedaa", sum := "62b5362a16e13494660c2405c408a1a30af67224efdf9e23173e057f1cd8276e", func := "noongun/noongunlaw02.SightTrue", spec := "sightTrue", unfollowed := true, recurses := true, plainKeys := false, apart := false }
def SightTrueSaid : Prop := sightTrueRow.holds Try.pinned (OpenSpec.ofChange sightTrueSpec)

/-- ITS FALSE NEIGHBOUR: 'it returns false'. Refute it at one input. -/
def sightTrueWrong : ChangeSpec := { name := "sightTrue", fn := fun _ => fun
  | [d1, d2, d3] => { results := [.lit (.bool false)], args := [d1, d2, d3] }
  | _ => none }
def SightTrueWrongFalsely : Prop := sightTrueRow.holds Try.pinned (OpenSpec.ofChange sightTrueWrong)

/-- 'noongunlaw02.SightErrors': WHATEVER THE INPUT: true; the input reads as it did. -/
def sightErrorsSpec : ChangeSpec := { name := "sightErrors", fn := fun _ => fun
  | [d1, d2, d3] => { results := [.lit (.bool true)], args := [d1, d2, d3] }
  | _ => none }
def sightErrorsRow : OpenClaim := { program := "ytailgbhadhoedaa", sum := "62b5362a16e13494660c2405c408a1a30af67224efdf9e23173e057f1cd8276e", func := "noongun/noongunlaw02.SightErrors", spec := "sightErrors", unfollowed := true, recurses := true, plainKeys := false, apart := false }
def SightErrorsSaid : Prop := sightErrorsRow.holds Try.pinned (OpenSpec.ofChange sightErrorsSpec)

/-- ITS FALSE NEIGHBOUR: 'it returns false'. Refute it at one input. -/
def sightErrorsWrong : ChangeSpec := { name := "sightErrors", fn := fun _ => fun
  | [d1, d2, d3] => { results := [.lit (.bool false)], args := [d1, d2, d3] }
  | _ => none }
def SightErrorsWrongFalsely : Prop := sightErrorsRow.holds Try.pinned (OpenSpec.ofChange sightErrorsWrong)

/-- 'noongunlaw02.SightNarrows': WHATEVER THE INPUT: true; the input reads as it did. -/
def sightNarrowsSpec : ChangeSpec := { name := "sightNarrows", fn := fun _ => fun
  | [d1, d2, d3] => { results := [.lit (.bool true)], args := [d1, d2, d3] }
  | _ => none }
def sightNarrowsRow : OpenClaim := { program := "ytailgbhadhoedaa", sum := "62b5362a16e13494660c2405c408a1a30af67224efdf9e23173e057f1cd8276e", func := "noongun/noongunlaw02.SightNarrows", spec := "sightNarrows", unfollowed := true, recurses := true, plainKeys := false, apart := false }
def SightNarrowsSaid : Prop := sightNarrowsRow.holds Try.pinned (OpenSpec.ofChange sightNarrowsSpec)

/-- ITS FALSE NEIGHBOUR: 'it returns false'. Refute it at one input. -/
def sightNarrowsWrong : ChangeSpec := { name := "sightNarrows", fn := fun _ => fun
  | [d1, d2, d3] => { results := [.lit (.bool false)], args := [d1, d2, d3] }
  | _ => none }
def SightNarrowsWrongFalsely : Prop := sightNarrowsRow.holds Try.pinned (OpenSpec.ofChange sightNarrowsWrong)

/-- 'noongunlaw02.SightProves': WHATEVER THE INPUT: true; the input reads as it did. -/
def sightProvesSpec : ChangeSpec := { name := "sightProves", fn := fun _ => fun
  | [d1, d2] => { results := [.lit (.bool true)], args := [d1, d2] }
  | _ => none }
def sightProvesRow : OpenClaim := { program := "ytailgbhadhoedaa", sum := "62b5362a16e13494660c2405c408a1a30af67224efdf9e23173e057f1cd8276e", func := "noongun/noongunlaw02.SightProves", spec := "sightProves", unfollowed := true, recurses := true, plainKeys := false, apart := false }
def SightProvesSaid : Prop := sightProvesRow.holds Try.pinned (OpenSpec.ofChange sightProvesSpec)

/-- ITS FALSE NEIGHBOUR: 'it returns false'. Refute it at one input. -/
def sightProvesWrong : ChangeSpec := { name := "sightProves", fn := fun _ => fun
  | [d1, d2] => { results := [.lit (.bool false)], args := [d1, d2] }
  | _ => none }
def SightProvesWrongFalsely : Prop := sightProvesRow.holds Try.pinned (OpenSpec.ofChange sightProvesWrong)

/-- 'noongunlaw02.SightCarries': WHATEVER THE INPUT: true; the input reads as it did. -/
def sightCarriesSpec : ChangeSpec := { name := "sightCarries", fn := fun _ => fun
  | [d1, d2, d3] => { results := [.lit (.bool true)], args := [d1, d2, d3] }
  | _ => none }
def sightCarriesRow : OpenClaim := { program := "ytailgbhadhoedaa", sum := "62b5362a16e13494660c2405c408a1a30af67224efdf9e23173e057f1cd8276e", func := "noongun/noongunlaw02.SightCarries", spec := "sightCarries", unfollowed := true, recurses := true, plainKeys := false, apart := false }
def SightCarriesSaid : Prop := sightCarriesRow.holds Try.pinned (OpenSpec.ofChange sightCarriesSpec)

/-- ITS FALSE NEIGHBOUR: 'it returns false'. Refute it at one input. -/
def sightCarriesWrong : ChangeSpec := { name := "sightCarries", fn := fun _ => fun
  | [d1, d2, d3] => { results := [.lit (.bool false)], args := [d1, d2, d3] }
  | _ => none }
def SightCarriesWrongFalsely : Prop := sightCarriesRow.holds Try.pinned (OpenSpec.ofChange sightCarriesWrong)

/-- 'noongunlaw02.SightShifts': WHATEVER THE INPUT: true; the input reads as it did. -/
def sightShiftsSpec : ChangeSpec := { name := "sightShifts", fn := fun _ => fun
  | [d1, d2, d3] => { results := [.lit (.bool true)], args := [d1, d2, d3] }
  | _ => none }
def sightShiftsRow : OpenClaim := { program := "ytailgbhadhoedaa", sum := "62b5362a16e13494660c2405c408a1a30af67224efdf9e23173e057f1cd8276e", func := "noongun/noongunlaw02.SightShifts", spec := "sightShifts", unfollowed := true, recurses := true, plainKeys := false, apart := false }
def SightShiftsSaid : Prop := sightShiftsRow.holds Try.pinned (OpenSpec.ofChange sightShiftsSpec)

/-- ITS FALSE NEIGHBOUR: 'it returns false'. Refute it at one input. -/
def sightShiftsWrong : ChangeSpec := { name := "sightShifts", fn := fun _ => fun
  | [d1, d2, d3] => { results := [.lit (.bool false)], args := [d1, d2, d3] }
  | _ => none }
def SightShiftsWrongFalsely : Prop := sightShiftsRow.holds Try.pinned (OpenSpec.ofChange sightShiftsWrong)

/-- 'noongunlaw02.SightBest': WHATEVER THE INPUT: true; the input reads as it did. -/
def sightBestSpec : ChangeSpec := { name := "sightBest", fn := fun _ => fun
  | [d1, d2, d3] => { results := [.lit (.bool true)], args := [d1, d2, d3] }
  | _ => none }
def sightBestRow : OpenClaim := { program := "ytailgbhadhoedaa", sum := "62b5362a16e13494660c2405c408a1a30af67224efdf9e23173e057f1cd8276e", func := "noongun/noongunlaw02.SightBest", spec := "sightBest", unfollowed := true, recurses := true, plainKeys := false, apart := false }
def SightBestSaid : Prop := sightBestRow.holds Try.pinned (OpenSpec.ofChange sightBestSpec)

/-- ITS FALSE NEIGHBOUR: 'it returns false'. Refute it at one input. -/
def sightBestWrong : ChangeSpec := { name := "sightBest", fn := fun _ => fun
  | [d1, d2, d3] => { results := [.lit (.bool false)], args := [d1, d2, d3] }
  | _ => none }
def SightBestWrongFalsely : Prop := sightBestRow.holds Try.pinned (OpenSpec.ofChange sightBestWrong)

/-- 'noongunlaw02.SightKeeps': WHATEVER THE INPUT: true; the input reads as it did. -/
def sightKeepsSpec : ChangeSpec := { name := "sightKeeps", fn := fun _ => fun
  | [d1, d2] => { results := [.lit (.bool true)], args := [d1, d2] }
  | _ => none }
def sightKeepsRow : OpenClaim := { program := "ytailgbhadhoedaa", sum := "62b5362a16e13494660c2405c408a1a30af67224efdf9e23173e057f1cd8276e", func := "noongun/noongunlaw02.SightKeeps", spec := "sightKeeps", unfollowed := true, recurses := true, plainKeys := false, apart := false }
def SightKeepsSaid : Prop := sightKeepsRow.holds Try.pinned (OpenSpec.ofChange sightKeepsSpec)

/-- ITS FALSE NEIGHBOUR: 'it returns false'. Refute it at one input. -/
def sightKeepsWrong : ChangeSpec := { name := "sightKeeps", fn := fun _ => fun
  | [d1, d2] => { results := [.lit (.bool false)], args := [d1, d2] }
  | _ => none }
def SightKeepsWrongFalsely : Prop := sightKeepsRow.holds Try.pinned (OpenSpec.ofChange sightKeepsWrong)

/-- 'noongunlaw02.SightChanges': WHATEVER THE INPUT: true; the input reads as it did. -/
def sightChangesSpec : ChangeSpec := { name := "sightChanges", fn := fun _ => fun
  | [d1, d2, d3] => { results := [.lit (.bool true)], args := [d1, d2, d3] }
  | _ => none }
def sightChangesRow : OpenClaim := { program := "ytailgbhadhoedaa", sum := "62b5362a16e13494660c2405c408a1a30af67224efdf9e23173e057f1cd8276e", func := "noongun/noongunlaw02.SightChanges", spec := "sightChanges", unfollowed := true, recurses := true, plainKeys := false, apart := false }
def SightChangesSaid : Prop := sightChangesRow.holds Try.pinned (OpenSpec.ofChange sightChangesSpec)

/-- ITS FALSE NEIGHBOUR: 'it returns false'. Refute it at one input. -/
def sightChangesWrong : ChangeSpec := { name := "sightChanges", fn := fun _ => fun
  | [d1, d2, d3] => { results := [.lit (.bool false)], args := [d1, d2, d3] }
  | _ => none }
def SightChangesWrongFalsely : Prop := sightChangesRow.holds Try.pinned (OpenSpec.ofChange sightChangesWrong)

/-- 'noongunlaw02.SightTightens': WHATEVER THE INPUT: true; the input reads as it did. -/
def sightTightensSpec : ChangeSpec := { name := "sightTightens", fn := fun _ => fun
  | [d1, d2] => { results := [.lit (.bool true)], args := [d1, d2] }
  | _ => none }
def sightTightensRow : OpenClaim := { program := "ytailgbhadhoedaa", sum := "62b5362a16e13494660c2405c408a1a30af67224efdf9e23173e057f1cd8276e", func := "noongun/noongunlaw02.SightTightens", spec := "sightTightens", unfollowed := true, recurses := true, plainKeys := false, apart := false }
def SightTightensSaid : Prop := sightTightensRow.holds Try.pinned (OpenSpec.ofChange sightTightensSpec)

/-- ITS FALSE NEIGHBOUR: 'it returns false'. Refute it at one input. -/
def sightTightensWrong : ChangeSpec := { name := "sightTightens", fn := fun _ => fun
  | [d1, d2] => { results := [.lit (.bool false)], args := [d1, d2] }
  | _ => none }
def SightTightensWrongFalsely : Prop := sightTightensRow.holds Try.pinned (OpenSpec.ofChange sightTightensWrong)

/- THE SECOND FORM. 'bulk': how many values and letters a reading holds, each counted each time it is reached (what is shared counts as often as it is met; a slice's spare places count too). A statement '..UptoSaid' is the law's where the arguments, and the package variables that the reading takes, are together of bulk at most 1048576: NARROWER than '..Said'. Prove '..Said' where nothing that the law and all that it calls make is longer than what came in: it says more and counts as full. Else prove '..UptoSaid'. A law counts once. -/
mutual
def uptoBulk {H : Type} : DataW H → Nat
  | .lit (.string bytes) => bytes.length + 1
  | .lit _ => 1
  | .nil => 1
  | .ptr d => uptoBulk d + 1
  | .slice elems spare => uptoBulkAll elems + uptoBulkAll spare + 1
  | .agg parts => uptoBulkAll parts + 1
  | .iface _ d => uptoBulk d + 1
  | .map entries => uptoBulkEntries entries + 1
  | .held _ => 1
def uptoBulkAll {H : Type} : List (DataW H) → Nat
  | [] => 0
  | d :: r => uptoBulk d + uptoBulkAll r
def uptoBulkEntries {H : Type} : List (Lit × DataW H) → Nat
  | [] => 0
  | x :: r => uptoBulkEntry x + uptoBulkEntries r
def uptoBulkEntry {H : Type} : Lit × DataW H → Nat
  | (.string bytes, d) => bytes.length + uptoBulk d + 1
  | (_, d) => uptoBulk d + 1
 end
def uptoSmall : (H : Type) → List (DataW H) → Bool := fun _ ds => decide (uptoBulkAll ds ≤ 1048576)
def OpenSpec.upto (s : _root_.Go.ChangeSpec) : _root_.Go.OpenSpec := { _root_.Go.OpenSpec.ofChange s with cond := some uptoSmall }

/-- 'noongunlaw02.SightOrders', WHERE WHAT IT READS IS OF BULK AT MOST 1048576: true; the input reads as it did. -/
def sightOrdersUptoRow : OpenClaim := { program := "ytailgbhadhoedaa", sum := "62b5362a16e13494660c2405c408a1a30af67224efdf9e23173e057f1cd8276e", func := "noongun/noongunlaw02.SightOrders", spec := "sightOrders", unfollowed := true, recurses := true, plainKeys := false, apart := false, narrowed := true }
def SightOrdersUptoSaid : Prop := sightOrdersUptoRow.holds Try.pinned (OpenSpec.upto sightOrdersSpec)

/-- 'noongunlaw02.SightTrue', WHERE WHAT IT READS IS OF BULK AT MOST 1048576: true; the input reads as it did. -/
def sightTrueUptoRow : OpenClaim := { program := "ytailgbhadhoedaa", sum := "62b5362a16e13494660c2405c408a1a30af67224efdf9e23173e057f1cd8276e", func := "noongun/noongunlaw02.SightTrue", spec := "sightTrue", unfollowed := true, recurses := true, plainKeys := false, apart := false, narrowed := true }
def SightTrueUptoSaid : Prop := sightTrueUptoRow.holds Try.pinned (OpenSpec.upto sightTrueSpec)

/-- 'noongunlaw02.SightErrors', WHERE WHAT IT READS IS OF BULK AT MOST 1048576: true; the input reads as it did. -/
def sightErrorsUptoRow : OpenClaim := { program := "ytailgbhadhoedaa", sum := "62b5362a16e13494660c2405c408a1a30af67224efdf9e23173e057f1cd8276e", func := "noongun/noongunlaw02.SightErrors", spec := "sightErrors", unfollowed := true, recurses := true, plainKeys := false, apart := false, narrowed := true }
def SightErrorsUptoSaid : Prop := sightErrorsUptoRow.holds Try.pinned (OpenSpec.upto sightErrorsSpec)

/-- 'noongunlaw02.SightNarrows', WHERE WHAT IT READS IS OF BULK AT MOST 1048576: true; the input reads as it did. -/
def sightNarrowsUptoRow : OpenClaim := { program := "ytailgbhadhoedaa", sum := "62b5362a16e13494660c2405c408a1a30af67224efdf9e23173e057f1cd8276e", func := "noongun/noongunlaw02.SightNarrows", spec := "sightNarrows", unfollowed := true, recurses := true, plainKeys := false, apart := false, narrowed := true }
def SightNarrowsUptoSaid : Prop := sightNarrowsUptoRow.holds Try.pinned (OpenSpec.upto sightNarrowsSpec)

/-- 'noongunlaw02.SightProves', WHERE WHAT IT READS IS OF BULK AT MOST 1048576: true; the input reads as it did. -/
def sightProvesUptoRow : OpenClaim := { program := "ytailgbhadhoedaa", sum := "62b5362a16e13494660c2405c408a1a30af67224efdf9e23173e057f1cd8276e", func := "noongun/noongunlaw02.SightProves", spec := "sightProves", unfollowed := true, recurses := true, plainKeys := false, apart := false, narrowed := true }
def SightProvesUptoSaid : Prop := sightProvesUptoRow.holds Try.pinned (OpenSpec.upto sightProvesSpec)

/-- 'noongunlaw02.SightCarries', WHERE WHAT IT READS IS OF BULK AT MOST 1048576: true; the input reads as it did. -/
def sightCarriesUptoRow : OpenClaim := { program := "ytailgbhadhoedaa", sum := "62b5362a16e13494660c2405c408a1a30af67224efdf9e23173e057f1cd8276e", func := "noongun/noongunlaw02.SightCarries", spec := "sightCarries", unfollowed := true, recurses := true, plainKeys := false, apart := false, narrowed := true }
def SightCarriesUptoSaid : Prop := sightCarriesUptoRow.holds Try.pinned (OpenSpec.upto sightCarriesSpec)

/-- 'noongunlaw02.SightShifts', WHERE WHAT IT READS IS OF BULK AT MOST 1048576: true; the input reads as it did. -/
def sightShiftsUptoRow : OpenClaim := { program := "ytailgbhadhoedaa", sum := "62b5362a16e13494660c2405c408a1a30af67224efdf9e23173e057f1cd8276e", func := "noongun/noongunlaw02.SightShifts", spec := "sightShifts", unfollowed := true, recurses := true, plainKeys := false, apart := false, narrowed := true }
def SightShiftsUptoSaid : Prop := sightShiftsUptoRow.holds Try.pinned (OpenSpec.upto sightShiftsSpec)

/-- 'noongunlaw02.SightBest', WHERE WHAT IT READS IS OF BULK AT MOST 1048576: true; the input reads as it did. -/
def sightBestUptoRow : OpenClaim := { program := "ytailgbhadhoedaa", sum := "62b5362a16e13494660c2405c408a1a30af67224efdf9e23173e057f1cd8276e", func := "noongun/noongunlaw02.SightBest", spec := "sightBest", unfollowed := true, recurses := true, plainKeys := false, apart := false, narrowed := true }
def SightBestUptoSaid : Prop := sightBestUptoRow.holds Try.pinned (OpenSpec.upto sightBestSpec)

/-- 'noongunlaw02.SightKeeps', WHERE WHAT IT READS IS OF BULK AT MOST 1048576: true; the input reads as it did. -/
def sightKeepsUptoRow : OpenClaim := { program := "ytailgbhadhoedaa", sum := "62b5362a16e13494660c2405c408a1a30af67224efdf9e23173e057f1cd8276e", func := "noongun/noongunlaw02.SightKeeps", spec := "sightKeeps", unfollowed := true, recurses := true, plainKeys := false, apart := false, narrowed := true }
def SightKeepsUptoSaid : Prop := sightKeepsUptoRow.holds Try.pinned (OpenSpec.upto sightKeepsSpec)

/-- 'noongunlaw02.SightChanges', WHERE WHAT IT READS IS OF BULK AT MOST 1048576: true; the input reads as it did. -/
def sightChangesUptoRow : OpenClaim := { program := "ytailgbhadhoedaa", sum := "62b5362a16e13494660c2405c408a1a30af67224efdf9e23173e057f1cd8276e", func := "noongun/noongunlaw02.SightChanges", spec := "sightChanges", unfollowed := true, recurses := true, plainKeys := false, apart := false, narrowed := true }
def SightChangesUptoSaid : Prop := sightChangesUptoRow.holds Try.pinned (OpenSpec.upto sightChangesSpec)

/-- 'noongunlaw02.SightTightens', WHERE WHAT IT READS IS OF BULK AT MOST 1048576: true; the input reads as it did. -/
def sightTightensUptoRow : OpenClaim := { program := "ytailgbhadhoedaa", sum := "62b5362a16e13494660c2405c408a1a30af67224efdf9e23173e057f1cd8276e", func := "noongun/noongunlaw02.SightTightens", spec := "sightTightens", unfollowed := true, recurses := true, plainKeys := false, apart := false, narrowed := true }
def SightTightensUptoSaid : Prop := sightTightensUptoRow.holds Try.pinned (OpenSpec.upto sightTightensSpec)

end Rows
end Go.Proofs.Ytailgbhadhoedaa
