/-
  THE FRAMEWORK, PART S: functions that are handed the address of one variable, and change it. No program in it.
-/
import Derived.Test.YtokfcbpfhojdkaaFwR
namespace Go.Fw
open Go.RowKit

section
variable {P : Program} {n : Nat} {ds : Md} {ops : Array Oper} {rest : List Oper} {K : Fr → World → Prop} {f : Fr} {Dq : Nat → Prop} {w w0 : World} {L : List Item} {T T0 : TypeId} {pos : String} {aft : Array Edge} {g : Option (Nat × Bool)} {d : Nat}
end
end Go.Fw
