/-
  THE FRAMEWORK, PART M: slices that are made; prefixes of slices that the call owns; room for more.
-/
import Derived.Test.YtecedifkjafneaaDoorFwL
import Derived.Lib.AppendZerosOnto
import Derived.Laws.IdiomStrings
namespace Go.Fw
open Go.RowKit

/-- The zero of an element's type. -/
def ZElemT (P : Program) {α : Type} [Flat α] (E : TypeId) (x0 : α) (bytes : Nat) : Prop := ∃ i z, P.info? E = some i ∧ i.zero = some z ∧ i.size = Flat.size α ∧ i.bytes = bytes ∧ z.cells = (Flat.cells x0).toArray
def makI {α : Type} (x0 : α) (n : Int) : Option (List α) := if 0 ≤ n ∧ n ≤ 1099511627776 then some (List.replicate n.toNat x0) else none
/-- The first of what the call owns. -/
def preI {α : Type} (xs : List α) (k : Int) : Option (List α) := if 0 ≤ k ∧ k ≤ (xs.length : Int) then some (xs.take k.toNat) else none
section
variable {P : Program} {n : Nat} {ds : Md} {ops : Array Oper} {rest : List Oper} {K : Fr → World → Prop} {f : Fr} {Dq : Nat → Prop} {w w0 : World} {L : List Item} {T T' Tn T0 : TypeId} {pos : String} {aft : Array Edge}
  {g : Option (Nat × Bool)} {d : Nat}

end
end Go.Fw
namespace Go.Fw
open Go.RowKit
/-! Literals of slices whose elements hold references: they are only read. -/
inductive RepL {α : Type} [Ty α] (w : World) : List Value → List α → Prop
  | nil : RepL w [] []
  | cons {v : Value} {x : α} {vs : List Value} {xs : List α} (h : Ty.rep w v.cells.toList x) (h' : RepL w vs xs) : RepL w (v :: vs) (x :: xs)
section
variable {P : Program} {n : Nat} {ds : Md} {ops : Array Oper} {rest : List Oper} {K : Fr → World → Prop} {f : Fr} {w : World} {T T0 : TypeId} {pos : String} {aft : Array Edge}
  {g : Option (Nat × Bool)} {d : Nat}
end
end Go.Fw
namespace Go.Fw
open Go.RowKit
/-! Strings and bytes. -/
instance : Flat UInt8 := ⟨1, fun a => .int .u8 a.toNat, fun a => [.int .u8 a.toNat], fun _ => rfl, fun _ => rfl, by simp [Value.oneCell'], by decide⟩
def bytes (s : ByteArray) : List UInt8 := s.data.toList
theorem bytes_len (s : ByteArray) : (bytes s).length = s.size := rfl
/-- What a callee hands back is nil, or what it was given. -/
def PassR {α : Type} (v va : Value) (ys xs : List α) : Prop := (v = .slice none 0 0 ∧ ys = []) ∨ (v = va ∧ ys = xs)
section
variable {P : Program} {n : Nat} {ds : Md} {ops : Array Oper} {rest : List Oper} {K : Fr → World → Prop} {f : Fr} {Dq : Nat → Prop} {w w0 : World} {L : List Item} {T T' T0 : TypeId} {pos : String} {aft : Array Edge}
  {g : Option (Nat × Bool)} {d : Nat}
theorem O.lenStr {s : Operand} {a : ByteArray} (hT : P.underlying T = some .string) (hg : want ops g f = true) (hd : Nat.blt d n = true) (hs : ev f s = .string a)
    (h : WL P n ds ops rest K (upd f d (.int .i64 (a.size : Int))) w) : WL P n ds ops (⟨some d, .call ⟨.builtin .len, #[s], #[T]⟩, T0, pos, aft, g⟩ :: rest) K f w := by
  refine WL.val hg hd ?_ h
  simp [execOp, resolve, invoke, builtin, hs, Builtin.len_, run_underlying hT, goInt]
theorem toList_beq (a b : ByteArray) : (a.toList == b.toList) = decide (a = b) := by rw [← beq_toListBytes, beq_bytes]
theorem O.eqlS {x y : Operand} {a b : ByteArray} (hg : want ops g f = true) (hd : Nat.blt d n = true) (hx : ev f x = .string a) (hy : ev f y = .string b)
    (h : WL P n ds ops rest K (upd f d (.bool (decide (a = b)))) w) : WL P n ds ops (⟨some d, .binOp .eql T x y T', T0, pos, aft, g⟩ :: rest) K f w :=
  WL.val hg hd (by simp [execOp, eqGuard, hx, hy, binOp, Op.stringOp, toList_beq]) h
theorem O.neqS {x y : Operand} {a b : ByteArray} (hg : want ops g f = true) (hd : Nat.blt d n = true) (hx : ev f x = .string a) (hy : ev f y = .string b)
    (h : WL P n ds ops rest K (upd f d (.bool (!decide (a = b)))) w) : WL P n ds ops (⟨some d, .binOp .neq T x y T', T0, pos, aft, g⟩ :: rest) K f w :=
  WL.val hg hd (by simp [execOp, eqGuard, hx, hy, binOp, Op.stringOp, toList_beq]) h
/-- '+' of two strings. -/
def catI (a b : ByteArray) : Option ByteArray := if a.size + b.size ≤ 1099511627776 then some (a ++ b) else none
theorem O.addS {x y : Operand} {a b c : ByteArray} (hg : want ops g f = true) (hd : Nat.blt d n = true) (hx : ev f x = .string a) (hy : ev f y = .string b) (hc : catI a b = some c)
    (h : WL P n ds ops rest K (upd f d (.string c)) w) : WL P n ds ops (⟨some d, .binOp .add T x y T', T0, pos, aft, g⟩ :: rest) K f w := by
  unfold catI at hc
  split at hc
  · rename_i hl
    cases hc
    refine WL.val hg hd ?_ h
    have h1 : ¬ ((a.size + b.size : Nat) : Int) > IntKind.i64.max := by
      have : IntKind.i64.max = 9223372036854775807 := rfl
      omega
    simp only [execOp, eqGuard, hx, hy, binOp, Op.stringOp, if_neg h1]
    rfl
  · cases hc
/-- A conversion between kinds of whole numbers. -/
def cvI (k : IntKind) (a : Int) : Option Int := if k.wrap a = a then some a else none
/-- '[]byte(s)': read, and not written. -/
def bytesI (s : ByteArray) : Option (List UInt8) := if s.size ≤ 1099511627776 then some (bytes s) else none
/-- 's[i]' of a string. -/
theorem O.indexStr {s ix : Operand} {a : ByteArray} {i : Int} {x : UInt8} (hT : P.underlying T = some .string) (hi : idx (bytes a) i = some x) (hg : want ops g f = true) (hd : Nat.blt d n = true) (hs : ev f s = .string a) (hx : ev f ix = .int .i64 i)
    (h : WL P n ds ops rest K (upd f d (.int .u8 x.toNat)) w) : WL P n ds ops (⟨some d, .index T s ix, T0, pos, aft, g⟩ :: rest) K f w := by
  obtain ⟨h0, h1, h2⟩ := idx_some hi
  refine WL.val hg hd ?_ h
  have hlt : i.toNat < a.size := by rw [bytes_len] at h1; omega
  have hb : a[i.toNat]? = some x := by
    have h3 : a.data[i.toNat]? = some x := by simpa [bytes] using h2
    rw [getElem?_pos a i.toNat hlt]
    have h4 := (Array.getElem?_eq_some_iff.1 h3).2
    exact congrArg some h4
  simp only [execOp, hs, hx, Instr.index, asIntOf, Sem.run_bind, Sem.run_pure, Result.andThen_ok, run_underlying hT, if_pos h0, hb]
end
end Go.Fw
