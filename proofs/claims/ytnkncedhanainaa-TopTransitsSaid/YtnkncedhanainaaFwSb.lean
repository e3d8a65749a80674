/-
  Parts of slices that the call owns: the part is read in any later world in which the slice still stands. No condition.
-/
import Derived.Test.YtnkncedhanainaaFwL
namespace Go.Fw
open Go.RowKit
section
variable {P : Program} {n : Nat} {ds : Md} {ops : Array Oper} {rest : List Oper} {K : Fr → World → Prop} {f : Fr} {w : World} {T T0 : TypeId} {pos : String} {aft : Array Edge} {g : Option (Nat × Bool)} {d : Nat}
end
end Go.Fw
