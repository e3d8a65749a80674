/-
  Parts of slices that the call owns: the part is read in any later world in which the slice still stands. No condition.
-/
import Derived.Test.YtmoofcflfbnceaaGreatDoorFwL
namespace Go.Fw
open Go.RowKit
section
variable {P : Program} {n : Nat} {ds : Md} {ops : Array Oper} {rest : List Oper} {K : Fr → World → Prop} {f : Fr} {w : World} {T T0 : TypeId} {pos : String} {aft : Array Edge} {g : Option (Nat × Bool)} {d : Nat}
theorem sliced_all {α : Type} [Ty α] {v : Value} {xs ys : List α} {lo hi : Int} {w : World} (hR : SliceR w v xs) (h : cutI xs lo hi = some ys) :
    ∃ a len cap, v = .slice a len cap ∧ len ≤ cap ∧ ∀ w', SliceR w' v xs → SliceR w' (sliced a lo.toNat hi.toNat cap (Ty.size α)) ys := by
  obtain ⟨a, len, cap, rfl, _, h4, _⟩ := sliced_sliceR hR h
  refine ⟨a, len, cap, rfl, h4, fun w' hR' => ?_⟩
  obtain ⟨a', len', cap', e, _, _, h5⟩ := sliced_sliceR hR' h
  cases e
  exact h5
end
end Go.Fw
