/-
  No cell of these rows narrows 'for every input' (looked for: loops, veiled, ifaces, maps, wideKeys, modest, calm, conditions, laid).
  DERIVED. THE GIVEN ROWS OF THIS SEAT. 9 by the template 'for every input the law returns true; each argument reads behind the call as it read before'; 0 by the template 'total and deterministic' (their statements: YtijjocfjgpibjaaTotals.lean).
  GIVEN WITH THE SEED: the statements are not yours to turn. If you find one false, say at which input.
  Laid BY PROGRAM, IN A SANDBOX (cutbox-rows.mjs): the forced cells as the released guide's own fill.sh prints them over the translation 9c68d947ed9fec7e… (all of the seat's roots in one cut). By AI agents, Wed Nov 11 2026. No macro, syntax, notation, axiom, sorry.
-/
import Derived.Test.YtijjocfjgpibjaaChecked
import GoSem.Claim
import GoSem.ClaimJoined
import GoSem.ClaimMapViews
import Derived.JoinedTies
import Derived.KernelRfl
namespace Go.Proofs.Ytijjocfjgpibjaa
/- THE CELL 'sum', in the pinned program and in every row, IS THE sha256 OF THE DUMP (.gsa) THAT YtijjocfjgpibjaaProg.lean LOADS. Nothing in Lean hashes anything: it is a label: what it is worth is what the hold of that sum in a sandbox is worth. -/
noncomputable def Try.pinned : Pinned := { name := "ytijjocfjgpibjaa", sum := "9c68d947ed9fec7e734e415ddd77c1c1d3624530a39f39f7fea453de9e50bec5", checked := Try.checked }
namespace Rows
def none {H : Type} : Left H := { results := [], args := [] }

/-- 'noongunlaw09.LedgerSays': WHATEVER THE INPUT: true; the input reads as it did. -/
def ledgerSaysSpec : ChangeSpec := { name := "ledgerSays", fn := fun _ => fun
  | [d1, d2] => { results := [.lit (.bool true)], args := [d1, d2] }
  | _ => none }
def ledgerSaysRow : OpenClaim := { program := "ytijjocfjgpibjaa", sum := "9c68d947ed9fec7e734e415ddd77c1c1d3624530a39f39f7fea453de9e50bec5", func := "noongun/noongunlaw09.LedgerSays", spec := "ledgerSays", unfollowed := true, recurses := true, plainKeys := false, apart := false }
def LedgerSaysSaid : Prop := ledgerSaysRow.holds Try.pinned (OpenSpec.ofChange ledgerSaysSpec)

/-- ITS FALSE NEIGHBOUR: 'it returns false'. Refute it at one input. -/
def ledgerSaysWrong : ChangeSpec := { name := "ledgerSays", fn := fun _ => fun
  | [d1, d2] => { results := [.lit (.bool false)], args := [d1, d2] }
  | _ => none }
def LedgerSaysWrongFalsely : Prop := ledgerSaysRow.holds Try.pinned (OpenSpec.ofChange ledgerSaysWrong)

/-- 'noongunlaw09.LedgerRated': WHATEVER THE INPUT: true; the input reads as it did. -/
def ledgerRatedSpec : ChangeSpec := { name := "ledgerRated", fn := fun _ => fun
  | [d1, d2, d3, d4] => { results := [.lit (.bool true)], args := [d1, d2, d3, d4] }
  | _ => none }
def ledgerRatedRow : OpenClaim := { program := "ytijjocfjgpibjaa", sum := "9c68d947ed9fec7e734e415ddd77c1c1d3624530a39f39f7fea453de9e50bec5", func := "noongun/noongunlaw09.LedgerRated", spec := "ledgerRated", unfollowed := true, recurses := true, plainKeys := false, apart := false }
def LedgerRatedSaid : Prop := ledgerRatedRow.holds Try.pinned (OpenSpec.ofChange ledgerRatedSpec)

/-- ITS FALSE NEIGHBOUR: 'it returns false'. Refute it at one input. -/
def ledgerRatedWrong : ChangeSpec := { name := "ledgerRated", fn := fun _ => fun
  | [d1, d2, d3, d4] => { results := [.lit (.bool false)], args := [d1, d2, d3, d4] }
  | _ => none }
def LedgerRatedWrongFalsely : Prop := ledgerRatedRow.holds Try.pinned (OpenSpec.ofChange ledgerRatedWrong)

/-- 'noongunlaw09.LedgerAdds': WHATEVER THE INPUT: true; the input reads as it did. -/
def ledgerAddsSpec : ChangeSpec := { name := "ledgerAdds", fn := fun _ => fun
  | [d1, d2, d3, d4] => { results := [.lit (.bool true)], args := [d1, d2, d3, d4] }
  | _ => none }
def ledgerAddsRow : OpenClaim := { program := "ytijjocfjgpibjaa", sum := "9c68d947ed9fec7e734e415ddd77c1c1d3624530a39f39f7fea453de9e50bec5", func := "noongun/noongunlaw09.LedgerAdds", spec := "ledgerAdds", unfollowed := true, recurses := true, plainKeys := false, apart := false }
def LedgerAddsSaid : Prop := ledgerAddsRow.holds Try.pinned (OpenSpec.ofChange ledgerAddsSpec)

/-- ITS FALSE NEIGHBOUR: 'it returns false'. Refute it at one input. -/
def ledgerAddsWrong : ChangeSpec := { name := "ledgerAdds", fn := fun _ => fun
  | [d1, d2, d3, d4] => { results := [.lit (.bool false)], args := [d1, d2, d3, d4] }
  | _ => none }
def LedgerAddsWrongFalsely : Prop := ledgerAddsRow.holds Try.pinned (OpenSpec.ofChange ledgerAddsWrong)

/-- 'noongunlaw09.LedgerShifted': WHATEVER THE INPUT: true; the input reads as it did. -/
def ledgerShiftedSpec : ChangeSpec := { name := "ledgerShifted", fn := fun _ => fun
  | [d1, d2, d3, d4] => { results := [.lit (.bool true)], args := [d1, d2, d3, d4] }
  | _ => none }
def ledgerShiftedRow : OpenClaim := { program := "ytijjocfjgpibjaa", sum := "9c68d947ed9fec7e734e415ddd77c1c1d3624530a39f39f7fea453de9e50bec5", func := "noongun/noongunlaw09.LedgerShifted", spec := "ledgerShifted", unfollowed := true, recurses := true, plainKeys := false, apart := false }
def LedgerShiftedSaid : Prop := ledgerShiftedRow.holds Try.pinned (OpenSpec.ofChange ledgerShiftedSpec)

/-- ITS FALSE NEIGHBOUR: 'it returns false'. Refute it at one input. -/
def ledgerShiftedWrong : ChangeSpec := { name := "ledgerShifted", fn := fun _ => fun
  | [d1, d2, d3, d4] => { results := [.lit (.bool false)], args := [d1, d2, d3, d4] }
  | _ => none }
def LedgerShiftedWrongFalsely : Prop := ledgerShiftedRow.holds Try.pinned (OpenSpec.ofChange ledgerShiftedWrong)

/-- 'noongunlaw09.LedgerLast': WHATEVER THE INPUT: true; the input reads as it did. -/
def ledgerLastSpec : ChangeSpec := { name := "ledgerLast", fn := fun _ => fun
  | [d1, d2] => { results := [.lit (.bool true)], args := [d1, d2] }
  | _ => none }
def ledgerLastRow : OpenClaim := { program := "ytijjocfjgpibjaa", sum := "9c68d947ed9fec7e734e415ddd77c1c1d3624530a39f39f7fea453de9e50bec5", func := "noongun/noongunlaw09.LedgerLast", spec := "ledgerLast", unfollowed := true, recurses := true, plainKeys := false, apart := false }
def LedgerLastSaid : Prop := ledgerLastRow.holds Try.pinned (OpenSpec.ofChange ledgerLastSpec)

/-- ITS FALSE NEIGHBOUR: 'it returns false'. Refute it at one input. -/
def ledgerLastWrong : ChangeSpec := { name := "ledgerLast", fn := fun _ => fun
  | [d1, d2] => { results := [.lit (.bool false)], args := [d1, d2] }
  | _ => none }
def LedgerLastWrongFalsely : Prop := ledgerLastRow.holds Try.pinned (OpenSpec.ofChange ledgerLastWrong)

/-- 'noongunlaw09.LedgerDays': WHATEVER THE INPUT: true; the input reads as it did. -/
def ledgerDaysSpec : ChangeSpec := { name := "ledgerDays", fn := fun _ => fun
  | [d] => { results := [.lit (.bool true)], args := [d] }
  | _ => none }
def ledgerDaysRow : OpenClaim := { program := "ytijjocfjgpibjaa", sum := "9c68d947ed9fec7e734e415ddd77c1c1d3624530a39f39f7fea453de9e50bec5", func := "noongun/noongunlaw09.LedgerDays", spec := "ledgerDays", unfollowed := true, recurses := true, plainKeys := false, apart := false }
def LedgerDaysSaid : Prop := ledgerDaysRow.holds Try.pinned (OpenSpec.ofChange ledgerDaysSpec)

/-- ITS FALSE NEIGHBOUR: 'it returns false'. Refute it at one input. -/
def ledgerDaysWrong : ChangeSpec := { name := "ledgerDays", fn := fun _ => fun
  | [d] => { results := [.lit (.bool false)], args := [d] }
  | _ => none }
def LedgerDaysWrongFalsely : Prop := ledgerDaysRow.holds Try.pinned (OpenSpec.ofChange ledgerDaysWrong)

/-- 'noongunlaw09.LedgerLetters': WHATEVER THE INPUT: true; the input reads as it did. -/
def ledgerLettersSpec : ChangeSpec := { name := "ledgerLetters", fn := fun _ => fun
  | [d1, d2] => { results := [.lit (.bool true)], args := [d1, d2] }
  | _ => none }
def ledgerLettersRow : OpenClaim := { program := "ytijjocfjgpibjaa", sum := "9c68d947ed9fec7e734e415ddd77c1c1d3624530a39f39f7fea453de9e50bec5", func := "noongun/noongunlaw09.LedgerLetters", spec := "ledgerLetters", unfollowed := true, recurses := true, plainKeys := false, apart := false }
def LedgerLettersSaid : Prop := ledgerLettersRow.holds Try.pinned (OpenSpec.ofChange ledgerLettersSpec)

/-- ITS FALSE NEIGHBOUR: 'it returns false'. Refute it at one input. -/
def ledgerLettersWrong : ChangeSpec := { name := "ledgerLetters", fn := fun _ => fun
  | [d1, d2] => { results := [.lit (.bool false)], args := [d1, d2] }
  | _ => none }
def LedgerLettersWrongFalsely : Prop := ledgerLettersRow.holds Try.pinned (OpenSpec.ofChange ledgerLettersWrong)

/-- 'noongunlaw09.LedgerWorst': WHATEVER THE INPUT: true; the input reads as it did. -/
def ledgerWorstSpec : ChangeSpec := { name := "ledgerWorst", fn := fun _ => fun
  | [d1, d2, d3] => { results := [.lit (.bool true)], args := [d1, d2, d3] }
  | _ => none }
def ledgerWorstRow : OpenClaim := { program := "ytijjocfjgpibjaa", sum := "9c68d947ed9fec7e734e415ddd77c1c1d3624530a39f39f7fea453de9e50bec5", func := "noongun/noongunlaw09.LedgerWorst", spec := "ledgerWorst", unfollowed := true, recurses := true, plainKeys := false, apart := false }
def LedgerWorstSaid : Prop := ledgerWorstRow.holds Try.pinned (OpenSpec.ofChange ledgerWorstSpec)

/-- ITS FALSE NEIGHBOUR: 'it returns false'. Refute it at one input. -/
def ledgerWorstWrong : ChangeSpec := { name := "ledgerWorst", fn := fun _ => fun
  | [d1, d2, d3] => { results := [.lit (.bool false)], args := [d1, d2, d3] }
  | _ => none }
def LedgerWorstWrongFalsely : Prop := ledgerWorstRow.holds Try.pinned (OpenSpec.ofChange ledgerWorstWrong)

/-- 'noongunlaw09.LedgerSums': WHATEVER THE INPUT: true; the input reads as it did. -/
def ledgerSumsSpec : ChangeSpec := { name := "ledgerSums", fn := fun _ => fun
  | [d1, d2, d3, d4] => { results := [.lit (.bool true)], args := [d1, d2, d3, d4] }
  | _ => none }
def ledgerSumsRow : OpenClaim := { program := "ytijjocfjgpibjaa", sum := "9c68d947ed9fec7e734e415ddd77c1c1d3624530a39f39f7fea453de9e50bec5", func := "noongun/noongunlaw09.LedgerSums", spec := "ledgerSums", unfollowed := true, recurses := true, plainKeys := false, apart := false }
def LedgerSumsSaid : Prop := ledgerSumsRow.holds Try.pinned (OpenSpec.ofChange ledgerSumsSpec)

/-- ITS FALSE NEIGHBOUR: 'it returns false'. Refute it at one input. -/
def ledgerSumsWrong : ChangeSpec := { name := "ledgerSums", fn := fun _ => fun
  | [d1, d2, d3, d4] => { results := [.lit (.bool false)], args := [d1, d2, d3, d4] }
  | _ => none }
def LedgerSumsWrongFalsely : Prop := ledgerSumsRow.holds Try.pinned (OpenSpec.ofChange ledgerSumsWrong)

/- THE SECOND FORM. 'bulk': how many values and letters a reading holds, each counted each time it is reached (what is shared counts as often as it is met; a slice's spare places count too). A statement '..UptoSaid' is the law's where the arguments, and the package variables that the reading takes, are together of bulk at most 1048576: NARROWER than '..Said'. Prove '..Said' where nothing that the law and all that it calls make is longer than what came in: it says more and counts as full. Else prove '..UptoSaid'. A law counts once. -/
mutual
def uptoBulk {H : Type} : DataW H → Nat
  | .lit (.string bytes) => bytes.length + 1
  | .lit _ => 1
  | .nil => 1
  | .ptr d => uptoBulk d + 1
  | .slice elems spare => uptoBulkAll elems + uptoBulkAll spare + 1
  | .agg parts => uptoBulkAll parts + 1
  | .iface _ d => uptoBulk d + 1
  | .map entries => uptoBulkEntries entries + 1
  | .held _ => 1
def uptoBulkAll {H : Type} : List (DataW H) → Nat
  | [] => 0
  | d :: r => uptoBulk d + uptoBulkAll r
def uptoBulkEntries {H : Type} : List (Lit × DataW H) → Nat
  | [] => 0
  | x :: r => uptoBulkEntry x + uptoBulkEntries r
def uptoBulkEntry {H : Type} : Lit × DataW H → Nat
  | (.string bytes, d) => bytes.length + uptoBulk d + 1
  | (_, d) => uptoBulk d + 1
 end
def uptoSmall : (H : Type) → List (DataW H) → Bool := fun _ ds => decide (uptoBulkAll ds ≤ 1048576)
def OpenSpec.upto (s : _root_.Go.ChangeSpec) : _root_.Go.OpenSpec := { _root_.Go.OpenSpec.ofChange s with cond := some uptoSmall }

/-- 'noongunlaw09.LedgerSays', WHERE WHAT IT READS IS OF BULK AT MOST 1048576: true; the input reads as it did. -/
def ledgerSaysUptoRow : OpenClaim := { program := "ytijjocfjgpibjaa", sum := "9c68d947ed9fec7e734e415ddd77c1c1d3624530a39f39f7fea453de9e50bec5", func := "noongun/noongunlaw09.LedgerSays", spec := "ledgerSays", unfollowed := true, recurses := true, plainKeys := false, apart := false, narrowed := true }
def LedgerSaysUptoSaid : Prop := ledgerSaysUptoRow.holds Try.pinned (OpenSpec.upto ledgerSaysSpec)

/-- 'noongunlaw09.LedgerRated', WHERE WHAT IT READS IS OF BULK AT MOST 1048576: true; the input reads as it did. -/
def ledgerRatedUptoRow : OpenClaim := { program := "ytijjocfjgpibjaa", sum := "9c68d947ed9fec7e734e415ddd77c1c1d3624530a39f39f7fea453de9e50bec5", func := "noongun/noongunlaw09.LedgerRated", spec := "ledgerRated", unfollowed := true, recurses := true, plainKeys := false, apart := false, narrowed := true }
def LedgerRatedUptoSaid : Prop := ledgerRatedUptoRow.holds Try.pinned (OpenSpec.upto ledgerRatedSpec)

/-- 'noongunlaw09.LedgerAdds', WHERE WHAT IT READS IS OF BULK AT MOST 1048576: true; the input reads as it did. -/
def ledgerAddsUptoRow : OpenClaim := { program := "ytijjocfjgpibjaa", sum := "9c68d947ed9fec7e734e415ddd77c1c1d3624530a39f39f7fea453de9e50bec5", func := "noongun/noongunlaw09.LedgerAdds", spec := "ledgerAdds", unfollowed := true, recurses := true, plainKeys := false, apart := false, narrowed := true }
def LedgerAddsUptoSaid : Prop := ledgerAddsUptoRow.holds Try.pinned (OpenSpec.upto ledgerAddsSpec)

/-- 'noongunlaw09.LedgerShifted', WHERE WHAT IT READS IS OF BULK AT MOST 1048576: true; the input reads as it did. -/
def ledgerShiftedUptoRow : OpenClaim := { program := "ytijjocfjgpibjaa", sum := "9c68d947ed9fec7e734e415ddd77c1c1d3624530a39f39f7fea453de9e50bec5", func := "noongun/noongunlaw09.LedgerShifted", spec := "ledgerShifted", unfollowed := true, recurses := true, plainKeys := false, apart := false, narrowed := true }
def LedgerShiftedUptoSaid : Prop := ledgerShiftedUptoRow.holds Try.pinned (OpenSpec.upto ledgerShiftedSpec)

/-- 'noongunlaw09.LedgerLast', WHERE WHAT IT READS IS OF BULK AT MOST 1048576: true; the input reads as it did. -/
def ledgerLastUptoRow : OpenClaim := { program := "ytijjocfjgpibjaa", sum := "9c68d947ed9fec7e734e415ddd77c1c1d3624530a39f39f7fea453de9e50bec5", func := "noongun/noongunlaw09.LedgerLast", spec := "ledgerLast", unfollowed := true, recurses := true, plainKeys := false, apart := false, narrowed := true }
def LedgerLastUptoSaid : Prop := ledgerLastUptoRow.holds Try.pinned (OpenSpec.upto ledgerLastSpec)

/-- 'noongunlaw09.LedgerDays', WHERE WHAT IT READS IS OF BULK AT MOST 1048576: true; the input reads as it did. -/
def ledgerDaysUptoRow : OpenClaim := { program := "ytijjocfjgpibjaa", sum := "9c68d947ed9fec7e734e415ddd77c1c1d3624530a39f39f7fea453de9e50bec5", func := "noongun/noongunlaw09.LedgerDays", spec := "ledgerDays", unfollowed := true, recurses := true, plainKeys := false, apart := false, narrowed := true }
def LedgerDaysUptoSaid : Prop := ledgerDaysUptoRow.holds Try.pinned (OpenSpec.upto ledgerDaysSpec)

/-- 'noongunlaw09.LedgerLetters', WHERE WHAT IT READS IS OF BULK AT MOST 1048576: true; the input reads as it did. -/
def ledgerLettersUptoRow : OpenClaim := { program := "ytijjocfjgpibjaa", sum := "9c68d947ed9fec7e734e415ddd77c1c1d3624530a39f39f7fea453de9e50bec5", func := "noongun/noongunlaw09.LedgerLetters", spec := "ledgerLetters", unfollowed := true, recurses := true, plainKeys := false, apart := false, narrowed := true }
def LedgerLettersUptoSaid : Prop := ledgerLettersUptoRow.holds Try.pinned (OpenSpec.upto ledgerLettersSpec)

/-- 'noongunlaw09.LedgerWorst', WHERE WHAT IT READS IS OF BULK AT MOST 1048576: true; the input reads as it did. -/
def ledgerWorstUptoRow : OpenClaim := { program := "ytijjocfjgpibjaa", sum := "9c68d947ed9fec7e734e415ddd77c1c1d3624530a39f39f7fea453de9e50bec5", func := "noongun/noongunlaw09.LedgerWorst", spec := "ledgerWorst", unfollowed := true, recurses := true, plainKeys := false, apart := false, narrowed := true }
def LedgerWorstUptoSaid : Prop := ledgerWorstUptoRow.holds Try.pinned (OpenSpec.upto ledgerWorstSpec)

/-- 'noongunlaw09.LedgerSums', WHERE WHAT IT READS IS OF BULK AT MOST 1048576: true; the input reads as it did. -/
def ledgerSumsUptoRow : OpenClaim := { program := "ytijjocfjgpibjaa", sum := "9c68d947ed9fec7e734e415ddd77c1c1d3624530a39f39f7fea453de9e50bec5", func := "noongun/noongunlaw09.LedgerSums", spec := "ledgerSums", unfollowed := true, recurses := true, plainKeys := false, apart := false, narrowed := true }
def LedgerSumsUptoSaid : Prop := ledgerSumsUptoRow.holds Try.pinned (OpenSpec.upto ledgerSumsSpec)

end Rows
end Go.Proofs.Ytijjocfjgpibjaa
