/-
  THE FRAMEWORK, PART L: slices against nil; slices of slices; parts of slices; stores into the elements of a slice that the call owns.
-/
import Derived.Test.YtohbkbimgfkblaaFwI
namespace Go.Fw
open Go.RowKit

/-- Slices are elements, too. -/
instance instTyList {α : Type} [Ty α] : Ty (List α) where
  size := 1
  rep w cs xs := ∃ v, cs = [v] ∧ SliceR w v xs
  len h := by obtain ⟨v, rfl, _⟩ := h; rfl
  one h := by
    obtain ⟨v, rfl, h⟩ := h
    intro c hc
    obtain rfl := List.mem_singleton.1 hc
    obtain ⟨a, cap, rfl, _⟩ := h.shape
    rfl
  monoC h hb := by obtain ⟨v, rfl, h⟩ := h; exact ⟨v, rfl, h.monoC hb⟩
  pos := by decide

def shlI (a b : Int) : Option Int := if (0 ≤ b ∧ b ≤ 64) ∧ inI (a * 2 ^ b.toNat) = true then some (a * 2 ^ b.toNat) else none
def shrI (a b : Int) : Option Int := if 0 ≤ b ∧ b ≤ 64 then some (a / 2 ^ b.toNat) else none
theorem shlI_some {a b c : Int} (h : shlI a b = some c) : 0 ≤ b ∧ b ≤ 64 ∧ inI (a * 2 ^ b.toNat) = true ∧ a * 2 ^ b.toNat = c := by
  unfold shlI at h
  split at h
  · rename_i hl; exact ⟨hl.1.1, hl.1.2, hl.2, Option.some.inj h⟩
  · cases h
theorem shrI_some {a b c : Int} (h : shrI a b = some c) : 0 ≤ b ∧ b ≤ 64 ∧ a / 2 ^ b.toNat = c := by
  unfold shrI at h
  split at h
  · rename_i hl; exact ⟨hl.1, hl.2, Option.some.inj h⟩
  · cases h
theorem wrap_inI {a : Int} (h : inI a = true) : IntKind.i64.wrap a = a := by
  simp only [inI, Bool.and_eq_true, decide_eq_true_eq] at h
  simp only [IntKind.wrap, IntKind.bits, IntKind.signed]
  simp only [Bool.true_and, decide_eq_true_eq, ge_iff_le]
  split <;> omega

section
variable {P : Program} {n : Nat} {ds : Md} {ops : Array Oper} {rest : List Oper} {K : Fr → World → Prop} {f : Fr} {Dq : Nat → Prop} {w w0 : World} {T T' T0 : TypeId} {pos : String} {aft : Array Edge} {g : Option (Nat × Bool)} {d : Nat} {L : List Item}

/-! A slice read as an element. -/
/-! Parts of slices. -/
def cutI {α : Type} (xs : List α) (lo hi : Int) : Option (List α) := if 0 ≤ lo ∧ lo ≤ hi ∧ hi ≤ (xs.length : Int) then some ((xs.take hi.toNat).drop lo.toNat) else none
theorem elem_of {E : TypeId} (hT : P.underlying T = some (.slice E)) : P.elem T = E := by simp [Program.elem, hT]
/-! Shifts and bits. -/
theorem O.shl {yk : IntKind} {x y : Operand} {a b c : Int} (hg : want ops g f = true) (hd : Nat.blt d n = true) (hx : ev f x = .int .i64 a) (hy : ev f y = .int yk b) (hc : shlI a b = some c)
    (h : WL P n ds ops rest K (upd f d (.int .i64 c)) w) : WL P n ds ops (⟨some d, .binOp .shl T x y T', T0, pos, aft, g⟩ :: rest) K f w := by
  obtain ⟨h0, h1, h2, rfl⟩ := shlI_some hc
  refine WL.val hg hd ?_ h
  have hw : IntKind.i64.wrap (a * 2 ^ b.toNat) = a * 2 ^ b.toNat := wrap_inI h2
  simp only [execOp, eqGuard, hx, hy, binOp_shl, shift_shl .i64 yk a b h0 h1, hw, Sem.run_bind, Sem.run_pure]
  rfl
theorem O.shr {yk : IntKind} {x y : Operand} {a b c : Int} (hg : want ops g f = true) (hd : Nat.blt d n = true) (hx : ev f x = .int .i64 a) (hy : ev f y = .int yk b) (hc : shrI a b = some c)
    (h : WL P n ds ops rest K (upd f d (.int .i64 c)) w) : WL P n ds ops (⟨some d, .binOp .shr T x y T', T0, pos, aft, g⟩ :: rest) K f w := by
  obtain ⟨h0, h1, rfl⟩ := shrI_some hc
  refine WL.val hg hd ?_ h
  simp only [execOp, eqGuard, hx, hy, binOp_shr, shift_shr .i64 yk a b h0 h1, Sem.run_bind, Sem.run_pure]
  rfl
theorem O.and {k : IntKind} {x y : Operand} {a b : Int} (hg : want ops g f = true) (hd : Nat.blt d n = true) (hx : ev f x = .int k a) (hy : ev f y = .int k b)
    (h : WL P n ds ops rest K (upd f d (.int k (bits .and k a b))) w) : WL P n ds ops (⟨some d, .binOp .and T x y T', T0, pos, aft, g⟩ :: rest) K f w :=
  WL.val hg hd (by simp only [execOp, eqGuard, hx, hy, binOp_and, intBits_and, Sem.run_bind, Sem.run_pure]; rfl) h
/-! Elements of a slice that the call owns: their addresses; stores. -/
end
end Go.Fw
