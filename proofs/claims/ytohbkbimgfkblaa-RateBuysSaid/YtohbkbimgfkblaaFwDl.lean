/-
  THE FRAMEWORK, PART DL: elements taken out of a slice that the call owns (slices.Delete). No program in it.
-/
import Derived.Test.YtohbkbimgfkblaaFwO
namespace Go.Fw
open Go.RowKit
def delI {α : Type} (xs : List α) (lo hi : Int) : Option (List α) := if 0 ≤ lo ∧ lo ≤ hi ∧ hi ≤ (xs.length : Int) then some (xs.take lo.toNat ++ xs.drop hi.toNat) else none
/-- What slices.Delete does to a slice that the call owns. -/
def DelI (P : Program) (k : FuncId) (α : Type) [Flat α] (E : TypeId) : Prop :=
  ∀ (Dq : Nat → Prop) (w0 w : World) (L : List Item) (i : Nat) (v : Value) (xs zs : List α) (lo hi : Int), InvD Dq w0 w L → L[i]? = some (ownI v E xs) → delI xs lo hi = some zs →
    Calls P k #[v, .int .i64 lo, .int .i64 hi] w fun e w' => ∃ v', e = .returned v' ∧ InvD Dq w0 w' (L.set i (ownI v' E zs))
section
variable {P : Program} {n : Nat} {ds : Md} {ops : Array Oper} {rest : List Oper} {K : Fr → World → Prop} {f : Fr} {Dq : Nat → Prop} {w w0 : World} {L : List Item} {T T0 : TypeId} {pos : String} {aft : Array Edge} {g : Option (Nat × Bool)} {d : Nat}
theorem O.appendV {x y : Operand} {v vy v' : Value} {w' : World} (hr : (Builtin.append_ #[T, T] T0 #[v, vy]).run P w = .ok v' w') (hg : want ops g f = true) (hd : Nat.blt d n = true) (hx : ev f x = v) (hy : ev f y = vy) (h : WL P n ds ops rest K (upd f d v') w') :
    WL P n ds ops (⟨some d, .call ⟨.builtin .append, #[x, y], #[T, T]⟩, T0, pos, aft, g⟩ :: rest) K f w := by
  refine WL.val hg hd ?_ h
  simp [execOp, resolve, invoke, builtin, hx, hy, hr, Result.andThen]
end
end Go.Fw
