/-
  THE FRAMEWORK, PART Mx: a table (a slice of slices) that the call owns with all its rows, whose entries are written. No program in it.
-/
import Derived.Test.YtmoofcflfbnceaaGreatDoorFwO
namespace Go.Fw
open Go.RowKit
section
variable {P : Program} {n : Nat} {ds : Md} {ops : Array Oper} {rest : List Oper} {K : Fr → World → Prop} {f : Fr} {Dq X : Nat → Prop} {w w' w0 : World} {L L0 L1 : List Item} {T T' T0 : TypeId} {pos : String} {aft : Array Edge} {g : Option (Nat × Bool)} {d : Nat}
theorem InvD.still (h : InvD (fpOf L0) w w L0) (hg : Grew w w') (hs : ∀ b, fpOf L0 b → w'.heap[b]? = w.heap[b]?) : InvD (fpOf L0) w' w' L0 :=
  ⟨⟨rfl, rfl, rfl, Nat.le_refl _, fun _ _ _ => rfl⟩, fun it hi => ⟨it.loc w w' hg (fun b hb => hs b ⟨it, hi, hb⟩) (h.items it hi).1, fun b hb => ⟨.inr ⟨it, hi, hb⟩, Nat.lt_of_lt_of_le ((h.items it hi).2 b hb).2 hg.size⟩⟩, h.apart⟩
def rowsI {α : Type} [Flat α] (Er : TypeId) : List C1 → List (List α) → List Item
  | c :: cs, x :: xs => ownI c.1 Er x :: rowsI Er cs xs
  | _, _ => []
def mtxL {α : Type} [Flat α] (v : Value) (E Er : TypeId) (cs : List C1) (xs : List (List α)) : List Item := ownI (α := C1) v E cs :: rowsI Er cs xs
def mtxI {α : Type} [Flat α] (v : Value) (E Er : TypeId) (cs : List C1) (xs : List (List α)) : Item :=
  ⟨fpOf (mtxL v E Er cs xs), fun w => cs.length = xs.length ∧ InvD (fpOf (mtxL v E Er cs xs)) w w (mtxL v E Er cs xs), fun _ _ hg hs h => ⟨h.1, h.2.still hg hs⟩⟩
variable {α : Type} [Flat α] {v : Value} {E Er : TypeId} {cs : List C1} {xs : List (List α)}
end
end Go.Fw
