/-
  THE FRAMEWORK, PART U: ranges over maps, in whatever order; a map of ints as the library's contracts read it. No program in it.
-/
import Derived.Test.YtnkncedhanainaaGreatDoorFwT
import Derived.Maps.RangeRun
import Derived.Maps.Own
import Derived.Lib.SlKeysI
namespace Go.Fw
open Go.RowKit

def mapX (r : Nat) (es : Array MapEntry) (clock : Nat) : Item := ⟨fun b => b = r, fun w => w.heap[r]? = some (.map es clock), fun _ _ _ h h' => (h r rfl).trans h'⟩
def iterX (b r since : Nat) (seen : Array Nat) (c0 : Nat) : Item := ⟨fun x => x = b, fun w => w.heap[b]? = some (.mapIter (some r) since seen c0), fun _ _ _ h h' => (h b rfl).trans h'⟩
section
variable {P : Program} {n : Nat} {ds : Md} {ops : Array Oper} {rest : List Oper} {K : Fr → World → Prop} {f : Fr} {Dq : Nat → Prop} {w w0 : World} {L : List Item} {T T0 : TypeId} {pos : String} {aft : Array Edge} {g : Option (Nat × Bool)} {d : Nat}
end

/-! What has been handed out. -/
def doneL {α β : Type} (es : List MapEntry) (kv : List (α × β)) (seen : Array Nat) : List (α × β) := ((es.zip kv).filter fun x => seen.contains x.1.born).map (·.2)
section
variable {α β : Type}
section
variable [Flat α] [Flat β]
end
end

/-! A map of ints, for the library's contracts. -/
end Go.Fw
