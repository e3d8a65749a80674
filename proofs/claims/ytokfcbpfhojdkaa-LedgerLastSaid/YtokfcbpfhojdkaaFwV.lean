/-
  THE FRAMEWORK, PART V: a slice that the call owns, sorted in its place by the library. No program in it.
-/
import Derived.Test.YtokfcbpfhojdkaaFwU
import Derived.Sort.Row
import Derived.Sort.Grow
namespace Go.Fw
open Go.RowKit Go.Sort
def leI' (x y : Int) : Bool := decide (x ≤ y)
/-- What slices.Sort does to ints. -/
def SortsI (P : Program) (k : FuncId) : Prop :=
  (∀ (blk off cap : Nat) (zs : List Int) (w : World), Holds (Value.int .i64) w blk off zs.toArray → blk < w.heap.size → zs.length < 4611686018427387904 →
    Calls P k #[.slice (some ⟨blk, off, none⟩) zs.length cap] w fun e w' => e = .returned (.tuple #[]) ∧ ∃ n os, w' = grow (putRow (Value.int .i64) (Sort.ahead w n) blk off (zs.mergeSort fun x y => decide (x ≤ y)).toArray) os) ∧
  ∀ (p : Option Addr) (cap : Nat) (w : World), Calls P k #[.slice p 0 cap] w fun e w' => e = .returned (.tuple #[]) ∧ w' = w
section
variable {P : Program} {n : Nat} {ds : Md} {ops : Array Oper} {rest : List Oper} {K : Fr → World → Prop} {f : Fr} {Dq : Nat → Prop} {w w0 : World} {L : List Item} {T T0 : TypeId} {pos : String} {aft : Array Edge} {g : Option (Nat × Bool)} {d : Nat}
end
end Go.Fw
