/-
  THE FRAMEWORK, PART L: slices against nil; slices of slices; parts of slices; stores into the elements of a slice that the call owns.
-/
import Derived.Test.YtokfcbpfhojdkaaFwI
namespace Go.Fw
open Go.RowKit

/-- Slices are elements, too. -/
instance instTyList {α : Type} [Ty α] : Ty (List α) where
  size := 1
  rep w cs xs := ∃ v, cs = [v] ∧ SliceR w v xs
  len h := by obtain ⟨v, rfl, _⟩ := h; rfl
  one h := by
    obtain ⟨v, rfl, h⟩ := h
    intro c hc
    obtain rfl := List.mem_singleton.1 hc
    obtain ⟨a, cap, rfl, _⟩ := h.shape
    rfl
  monoC h hb := by obtain ⟨v, rfl, h⟩ := h; exact ⟨v, rfl, h.monoC hb⟩
  pos := by decide

def shlI (a b : Int) : Option Int := if (0 ≤ b ∧ b ≤ 64) ∧ inI (a * 2 ^ b.toNat) = true then some (a * 2 ^ b.toNat) else none
def shrI (a b : Int) : Option Int := if 0 ≤ b ∧ b ≤ 64 then some (a / 2 ^ b.toNat) else none
section
variable {P : Program} {n : Nat} {ds : Md} {ops : Array Oper} {rest : List Oper} {K : Fr → World → Prop} {f : Fr} {Dq : Nat → Prop} {w w0 : World} {T T' T0 : TypeId} {pos : String} {aft : Array Edge} {g : Option (Nat × Bool)} {d : Nat} {L : List Item}

/-! A slice read as an element. -/
/-! Parts of slices. -/
def cutI {α : Type} (xs : List α) (lo hi : Int) : Option (List α) := if 0 ≤ lo ∧ lo ≤ hi ∧ hi ≤ (xs.length : Int) then some ((xs.take hi.toNat).drop lo.toNat) else none
/-! Shifts and bits. -/
/-! Elements of a slice that the call owns: their addresses; stores. -/
end
end Go.Fw
