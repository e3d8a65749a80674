/-
  No cell of these rows narrows 'for every input' (looked for: loops, veiled, ifaces, maps, wideKeys, modest, calm, conditions, laid).
  DERIVED. THE GIVEN ROWS OF THIS SEAT. 6 by the template 'for every input the law returns true; each argument reads behind the call as it read before'; 0 by the template 'total and deterministic' (their statements: YtecedifkjafneaaTotals.lean).
  GIVEN WITH THE SEED: the statements are not yours to turn. If you find one false, say at which input.
  Laid BY PROGRAM, IN A SANDBOX (cutbox-rows.mjs): the forced cells as the released guide's own fill.sh prints them over the translation ac05e91d0e3113db… (all of the seat's roots in one cut). By AI agents, Wed Nov 11 2026. No macro, syntax, notation, axiom, sorry.
-/
import Derived.Test.YtecedifkjafneaaChecked
import GoSem.Claim
import GoSem.ClaimJoined
import GoSem.ClaimMapViews
import Derived.JoinedTies
import Derived.KernelRfl
namespace Go.Proofs.Ytecedifkjafneaa
/- THE CELL 'sum', in the pinned program and in every row, IS THE sha256 OF THE DUMP (.gsa) THAT YtecedifkjafneaaProg.lean LOADS. Nothing in Lean hashes anything: it is a label: what it is worth is what the hold of that sum in a sandbox is worth. -/
noncomputable def Try.pinned : Pinned := { name := "ytecedifkjafneaa", sum := "ac05e91d0e3113dbdff8dd8f7ae9cc6c3aa493f83a06ff89a86e0db3b713182b", checked := Try.checked }
namespace Rows
def none {H : Type} : Left H := { results := [], args := [] }

/-- 'noongunlaw07.FlagMeans': WHATEVER THE INPUT: true; the input reads as it did. -/
def flagMeansSpec : ChangeSpec := { name := "flagMeans", fn := fun _ => fun
  | [d1, d2] => { results := [.lit (.bool true)], args := [d1, d2] }
  | _ => none }
def flagMeansRow : OpenClaim := { program := "ytecedifkjafneaa", sum := "ac05e91d0e3113dbdff8dd8f7ae9cc6c3aa493f83a06ff89a86e0db3b713182b", func := "noongun/noongunlaw07.FlagMeans", spec := "flagMeans", unfollowed := true, recurses := true, apart := false }
def FlagMeansSaid : Prop := flagMeansRow.holds Try.pinned (OpenSpec.ofChange flagMeansSpec)

/-- ITS FALSE NEIGHBOUR: 'it returns false'. Refute it at one input. -/
def flagMeansWrong : ChangeSpec := { name := "flagMeans", fn := fun _ => fun
  | [d1, d2] => { results := [.lit (.bool false)], args := [d1, d2] }
  | _ => none }
def FlagMeansWrongFalsely : Prop := flagMeansRow.holds Try.pinned (OpenSpec.ofChange flagMeansWrong)

/-- 'noongunlaw07.FlagChecked': WHATEVER THE INPUT: true; the input reads as it did. -/
def flagCheckedSpec : ChangeSpec := { name := "flagChecked", fn := fun _ => fun
  | [d1, d2, d3] => { results := [.lit (.bool true)], args := [d1, d2, d3] }
  | _ => none }
def flagCheckedRow : OpenClaim := { program := "ytecedifkjafneaa", sum := "ac05e91d0e3113dbdff8dd8f7ae9cc6c3aa493f83a06ff89a86e0db3b713182b", func := "noongun/noongunlaw07.FlagChecked", spec := "flagChecked", unfollowed := true, recurses := true, apart := false }
def FlagCheckedSaid : Prop := flagCheckedRow.holds Try.pinned (OpenSpec.ofChange flagCheckedSpec)

/-- ITS FALSE NEIGHBOUR: 'it returns false'. Refute it at one input. -/
def flagCheckedWrong : ChangeSpec := { name := "flagChecked", fn := fun _ => fun
  | [d1, d2, d3] => { results := [.lit (.bool false)], args := [d1, d2, d3] }
  | _ => none }
def FlagCheckedWrongFalsely : Prop := flagCheckedRow.holds Try.pinned (OpenSpec.ofChange flagCheckedWrong)

/-- 'noongunlaw07.FlagCan': WHATEVER THE INPUT: true; the input reads as it did. -/
def flagCanSpec : ChangeSpec := { name := "flagCan", fn := fun _ => fun
  | [d1, d2] => { results := [.lit (.bool true)], args := [d1, d2] }
  | _ => none }
def flagCanRow : OpenClaim := { program := "ytecedifkjafneaa", sum := "ac05e91d0e3113dbdff8dd8f7ae9cc6c3aa493f83a06ff89a86e0db3b713182b", func := "noongun/noongunlaw07.FlagCan", spec := "flagCan", unfollowed := true, recurses := true, apart := false }
def FlagCanSaid : Prop := flagCanRow.holds Try.pinned (OpenSpec.ofChange flagCanSpec)

/-- ITS FALSE NEIGHBOUR: 'it returns false'. Refute it at one input. -/
def flagCanWrong : ChangeSpec := { name := "flagCan", fn := fun _ => fun
  | [d1, d2] => { results := [.lit (.bool false)], args := [d1, d2] }
  | _ => none }
def FlagCanWrongFalsely : Prop := flagCanRow.holds Try.pinned (OpenSpec.ofChange flagCanWrong)

/-- 'noongunlaw07.FlagUsual': WHATEVER THE INPUT: true; the input reads as it did. -/
def flagUsualSpec : ChangeSpec := { name := "flagUsual", fn := fun _ => fun
  | [d] => { results := [.lit (.bool true)], args := [d] }
  | _ => none }
def flagUsualRow : OpenClaim := { program := "ytecedifkjafneaa", sum := "ac05e91d0e3113dbdff8dd8f7ae9cc6c3aa493f83a06ff89a86e0db3b713182b", func := "noongun/noongunlaw07.FlagUsual", spec := "flagUsual", unfollowed := true, recurses := true, apart := false }
def FlagUsualSaid : Prop := flagUsualRow.holds Try.pinned (OpenSpec.ofChange flagUsualSpec)

/-- ITS FALSE NEIGHBOUR: 'it returns false'. Refute it at one input. -/
def flagUsualWrong : ChangeSpec := { name := "flagUsual", fn := fun _ => fun
  | [d] => { results := [.lit (.bool false)], args := [d] }
  | _ => none }
def FlagUsualWrongFalsely : Prop := flagUsualRow.holds Try.pinned (OpenSpec.ofChange flagUsualWrong)

/-- 'noongunlaw07.FlagFewer': WHATEVER THE INPUT: true; the input reads as it did. -/
def flagFewerSpec : ChangeSpec := { name := "flagFewer", fn := fun _ => fun
  | [d1, d2, d3, d4] => { results := [.lit (.bool true)], args := [d1, d2, d3, d4] }
  | _ => none }
def flagFewerRow : OpenClaim := { program := "ytecedifkjafneaa", sum := "ac05e91d0e3113dbdff8dd8f7ae9cc6c3aa493f83a06ff89a86e0db3b713182b", func := "noongun/noongunlaw07.FlagFewer", spec := "flagFewer", unfollowed := true, recurses := true, apart := false }
def FlagFewerSaid : Prop := flagFewerRow.holds Try.pinned (OpenSpec.ofChange flagFewerSpec)

/-- ITS FALSE NEIGHBOUR: 'it returns false'. Refute it at one input. -/
def flagFewerWrong : ChangeSpec := { name := "flagFewer", fn := fun _ => fun
  | [d1, d2, d3, d4] => { results := [.lit (.bool false)], args := [d1, d2, d3, d4] }
  | _ => none }
def FlagFewerWrongFalsely : Prop := flagFewerRow.holds Try.pinned (OpenSpec.ofChange flagFewerWrong)

/-- 'noongunlaw07.FlagHoists': WHATEVER THE INPUT: true; the input reads as it did. -/
def flagHoistsSpec : ChangeSpec := { name := "flagHoists", fn := fun _ => fun
  | [d1, d2, d3] => { results := [.lit (.bool true)], args := [d1, d2, d3] }
  | _ => none }
def flagHoistsRow : OpenClaim := { program := "ytecedifkjafneaa", sum := "ac05e91d0e3113dbdff8dd8f7ae9cc6c3aa493f83a06ff89a86e0db3b713182b", func := "noongun/noongunlaw07.FlagHoists", spec := "flagHoists", unfollowed := true, recurses := true, apart := false }
def FlagHoistsSaid : Prop := flagHoistsRow.holds Try.pinned (OpenSpec.ofChange flagHoistsSpec)

/-- ITS FALSE NEIGHBOUR: 'it returns false'. Refute it at one input. -/
def flagHoistsWrong : ChangeSpec := { name := "flagHoists", fn := fun _ => fun
  | [d1, d2, d3] => { results := [.lit (.bool false)], args := [d1, d2, d3] }
  | _ => none }
def FlagHoistsWrongFalsely : Prop := flagHoistsRow.holds Try.pinned (OpenSpec.ofChange flagHoistsWrong)

/- THE SECOND FORM. 'bulk': how many values and letters a reading holds, each counted each time it is reached (what is shared counts as often as it is met; a slice's spare places count too). A statement '..UptoSaid' is the law's where the arguments, and the package variables that the reading takes, are together of bulk at most 1048576: NARROWER than '..Said'. Prove '..Said' where nothing that the law and all that it calls make is longer than what came in: it says more and counts as full. Else prove '..UptoSaid'. A law counts once. -/
mutual
def uptoBulk {H : Type} : DataW H → Nat
  | .lit (.string bytes) => bytes.length + 1
  | .lit _ => 1
  | .nil => 1
  | .ptr d => uptoBulk d + 1
  | .slice elems spare => uptoBulkAll elems + uptoBulkAll spare + 1
  | .agg parts => uptoBulkAll parts + 1
  | .iface _ d => uptoBulk d + 1
  | .map entries => uptoBulkEntries entries + 1
  | .held _ => 1
def uptoBulkAll {H : Type} : List (DataW H) → Nat
  | [] => 0
  | d :: r => uptoBulk d + uptoBulkAll r
def uptoBulkEntries {H : Type} : List (Lit × DataW H) → Nat
  | [] => 0
  | x :: r => uptoBulkEntry x + uptoBulkEntries r
def uptoBulkEntry {H : Type} : Lit × DataW H → Nat
  | (.string bytes, d) => bytes.length + uptoBulk d + 1
  | (_, d) => uptoBulk d + 1
 end
def uptoSmall : (H : Type) → List (DataW H) → Bool := fun _ ds => decide (uptoBulkAll ds ≤ 1048576)
def OpenSpec.upto (s : _root_.Go.ChangeSpec) : _root_.Go.OpenSpec := { _root_.Go.OpenSpec.ofChange s with cond := some uptoSmall }

/-- 'noongunlaw07.FlagMeans', WHERE WHAT IT READS IS OF BULK AT MOST 1048576: true; the input reads as it did. -/
def flagMeansUptoRow : OpenClaim := { program := "ytecedifkjafneaa", sum := "ac05e91d0e3113dbdff8dd8f7ae9cc6c3aa493f83a06ff89a86e0db3b713182b", func := "noongun/noongunlaw07.FlagMeans", spec := "flagMeans", unfollowed := true, recurses := true, apart := false, narrowed := true }
def FlagMeansUptoSaid : Prop := flagMeansUptoRow.holds Try.pinned (OpenSpec.upto flagMeansSpec)

/-- 'noongunlaw07.FlagChecked', WHERE WHAT IT READS IS OF BULK AT MOST 1048576: true; the input reads as it did. -/
def flagCheckedUptoRow : OpenClaim := { program := "ytecedifkjafneaa", sum := "ac05e91d0e3113dbdff8dd8f7ae9cc6c3aa493f83a06ff89a86e0db3b713182b", func := "noongun/noongunlaw07.FlagChecked", spec := "flagChecked", unfollowed := true, recurses := true, apart := false, narrowed := true }
def FlagCheckedUptoSaid : Prop := flagCheckedUptoRow.holds Try.pinned (OpenSpec.upto flagCheckedSpec)

/-- 'noongunlaw07.FlagCan', WHERE WHAT IT READS IS OF BULK AT MOST 1048576: true; the input reads as it did. -/
def flagCanUptoRow : OpenClaim := { program := "ytecedifkjafneaa", sum := "ac05e91d0e3113dbdff8dd8f7ae9cc6c3aa493f83a06ff89a86e0db3b713182b", func := "noongun/noongunlaw07.FlagCan", spec := "flagCan", unfollowed := true, recurses := true, apart := false, narrowed := true }
def FlagCanUptoSaid : Prop := flagCanUptoRow.holds Try.pinned (OpenSpec.upto flagCanSpec)

/-- 'noongunlaw07.FlagUsual', WHERE WHAT IT READS IS OF BULK AT MOST 1048576: true; the input reads as it did. -/
def flagUsualUptoRow : OpenClaim := { program := "ytecedifkjafneaa", sum := "ac05e91d0e3113dbdff8dd8f7ae9cc6c3aa493f83a06ff89a86e0db3b713182b", func := "noongun/noongunlaw07.FlagUsual", spec := "flagUsual", unfollowed := true, recurses := true, apart := false, narrowed := true }
def FlagUsualUptoSaid : Prop := flagUsualUptoRow.holds Try.pinned (OpenSpec.upto flagUsualSpec)

/-- 'noongunlaw07.FlagFewer', WHERE WHAT IT READS IS OF BULK AT MOST 1048576: true; the input reads as it did. -/
def flagFewerUptoRow : OpenClaim := { program := "ytecedifkjafneaa", sum := "ac05e91d0e3113dbdff8dd8f7ae9cc6c3aa493f83a06ff89a86e0db3b713182b", func := "noongun/noongunlaw07.FlagFewer", spec := "flagFewer", unfollowed := true, recurses := true, apart := false, narrowed := true }
def FlagFewerUptoSaid : Prop := flagFewerUptoRow.holds Try.pinned (OpenSpec.upto flagFewerSpec)

/-- 'noongunlaw07.FlagHoists', WHERE WHAT IT READS IS OF BULK AT MOST 1048576: true; the input reads as it did. -/
def flagHoistsUptoRow : OpenClaim := { program := "ytecedifkjafneaa", sum := "ac05e91d0e3113dbdff8dd8f7ae9cc6c3aa493f83a06ff89a86e0db3b713182b", func := "noongun/noongunlaw07.FlagHoists", spec := "flagHoists", unfollowed := true, recurses := true, apart := false, narrowed := true }
def FlagHoistsUptoSaid : Prop := flagHoistsUptoRow.holds Try.pinned (OpenSpec.upto flagHoistsSpec)

end Rows
end Go.Proofs.Ytecedifkjafneaa
