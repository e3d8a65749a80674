/-
  THE FRAMEWORK, PART M: slices that are made; prefixes of slices that the call owns; room for more.
-/
import Derived.Test.YtokfcbpfhojdkaaFwL
import Derived.Lib.AppendZerosOnto
import Derived.Laws.IdiomStrings
namespace Go.Fw
open Go.RowKit

/-- The zero of an element's type. -/
def ZElemT (P : Program) {α : Type} [Flat α] (E : TypeId) (x0 : α) (bytes : Nat) : Prop := ∃ i z, P.info? E = some i ∧ i.zero = some z ∧ i.size = Flat.size α ∧ i.bytes = bytes ∧ z.cells = (Flat.cells x0).toArray
def makI {α : Type} (x0 : α) (n : Int) : Option (List α) := if 0 ≤ n ∧ n ≤ 1099511627776 then some (List.replicate n.toNat x0) else none
/-- The first of what the call owns. -/
def preI {α : Type} (xs : List α) (k : Int) : Option (List α) := if 0 ≤ k ∧ k ≤ (xs.length : Int) then some (xs.take k.toNat) else none
section
variable {P : Program} {n : Nat} {ds : Md} {ops : Array Oper} {rest : List Oper} {K : Fr → World → Prop} {f : Fr} {Dq : Nat → Prop} {w w0 : World} {L : List Item} {T T' Tn T0 : TypeId} {pos : String} {aft : Array Edge}
  {g : Option (Nat × Bool)} {d : Nat}

end
end Go.Fw
namespace Go.Fw
open Go.RowKit
/-! Literals of slices whose elements hold references: they are only read. -/
inductive RepL {α : Type} [Ty α] (w : World) : List Value → List α → Prop
  | nil : RepL w [] []
  | cons {v : Value} {x : α} {vs : List Value} {xs : List α} (h : Ty.rep w v.cells.toList x) (h' : RepL w vs xs) : RepL w (v :: vs) (x :: xs)
section
variable {P : Program} {n : Nat} {ds : Md} {ops : Array Oper} {rest : List Oper} {K : Fr → World → Prop} {f : Fr} {w : World} {T T0 : TypeId} {pos : String} {aft : Array Edge}
  {g : Option (Nat × Bool)} {d : Nat}
end
end Go.Fw
namespace Go.Fw
open Go.RowKit
/-! Strings and bytes. -/
instance : Flat UInt8 := ⟨1, fun a => .int .u8 a.toNat, fun a => [.int .u8 a.toNat], fun _ => rfl, fun _ => rfl, by simp [Value.oneCell'], by decide⟩
def bytes (s : ByteArray) : List UInt8 := s.data.toList
/-- What a callee hands back is nil, or what it was given. -/
def PassR {α : Type} (v va : Value) (ys xs : List α) : Prop := (v = .slice none 0 0 ∧ ys = []) ∨ (v = va ∧ ys = xs)
section
variable {P : Program} {n : Nat} {ds : Md} {ops : Array Oper} {rest : List Oper} {K : Fr → World → Prop} {f : Fr} {Dq : Nat → Prop} {w w0 : World} {L : List Item} {T T' T0 : TypeId} {pos : String} {aft : Array Edge}
  {g : Option (Nat × Bool)} {d : Nat}
/-- '+' of two strings. -/
def catI (a b : ByteArray) : Option ByteArray := if a.size + b.size ≤ 1099511627776 then some (a ++ b) else none
/-- A conversion between kinds of whole numbers. -/
def cvI (k : IntKind) (a : Int) : Option Int := if k.wrap a = a then some a else none
theorem cvI_some {k : IntKind} {a c : Int} (h : cvI k a = some c) : k.wrap a = a ∧ a = c := by
  unfold cvI at h; split at h
  · rename_i hk; exact ⟨hk, Option.some.inj h⟩
  · cases h
theorem O.convI {S : TypeId} {k kd : IntKind} {x : Operand} {a c : Int} (hS : (P.underlying S).isSome = true) (hT : P.underlying T = some (.int kd)) (hc : cvI kd a = some c) (hg : want ops g f = true) (hd : Nat.blt d n = true) (hx : ev f x = .int k a)
    (h : WL P n ds ops rest K (upd f d (.int kd c)) w) : WL P n ds ops (⟨some d, .convert S T x, T0, pos, aft, g⟩ :: rest) K f w := by
  obtain ⟨h1, rfl⟩ := cvI_some hc
  have hk : P.intKind T = kd := by simp [Program.intKind, hT]
  have hr := run_convert_int (P := P) w S T k a hS (by rw [hk]; exact hT)
  rw [hk, h1] at hr
  refine WL.val hg hd ?_ h
  simp only [execOp, hx, Sem.run_bind, hr, Result.andThen_ok, Sem.run_pure]
/-- '[]byte(s)': read, and not written. -/
def bytesI (s : ByteArray) : Option (List UInt8) := if s.size ≤ 1099511627776 then some (bytes s) else none
end
end Go.Fw
