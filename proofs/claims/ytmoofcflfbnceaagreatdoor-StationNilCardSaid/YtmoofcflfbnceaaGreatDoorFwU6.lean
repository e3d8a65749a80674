/-
  THE FRAMEWORK, PART U6: words of 64 bits without a sign: sums, products, shifts, masks; conversions that wrap; the difference with a borrow. No program in it.
-/
import Derived.Test.YtmoofcflfbnceaaGreatDoorFwM
import Derived.Shelf.Spec.BitsCarry
namespace Go.Fw
open Go.RowKit
def wrU (a : Int) : Int := IntKind.u64.wrap a
section
variable {P : Program} {n : Nat} {ds : Md} {ops : Array Oper} {rest : List Oper} {K : Fr → World → Prop} {f : Fr} {w : World} {T T' T0 : TypeId} {pos : String} {aft : Array Edge} {g : Option (Nat × Bool)} {d : Nat}
theorem O.addW {x y : Operand} {a b : Int} (hg : want ops g f = true) (hd : Nat.blt d n = true) (hx : ev f x = .int .u64 a) (hy : ev f y = .int .u64 b)
    (h : WL P n ds ops rest K (upd f d (.int .u64 (wrU (a + b)))) w) : WL P n ds ops (⟨some d, .binOp .add T x y T', T0, pos, aft, g⟩ :: rest) K f w :=
  WL.val hg hd (by simp [execOp, eqGuard, hx, hy, binOp, Op.intArith, wrU]) h
theorem O.mulW {x y : Operand} {a b : Int} (hg : want ops g f = true) (hd : Nat.blt d n = true) (hx : ev f x = .int .u64 a) (hy : ev f y = .int .u64 b)
    (h : WL P n ds ops rest K (upd f d (.int .u64 (wrU (a * b)))) w) : WL P n ds ops (⟨some d, .binOp .mul T x y T', T0, pos, aft, g⟩ :: rest) K f w :=
  WL.val hg hd (by simp [execOp, eqGuard, hx, hy, binOp, Op.intArith, wrU]) h
theorem O.shrW {yk : IntKind} {x y : Operand} {a b : Int} (h0 : 0 ≤ b) (h1 : b ≤ 64) (hg : want ops g f = true) (hd : Nat.blt d n = true) (hx : ev f x = .int .u64 a) (hy : ev f y = .int yk b)
    (h : WL P n ds ops rest K (upd f d (.int .u64 (a / 2 ^ b.toNat))) w) : WL P n ds ops (⟨some d, .binOp .shr T x y T', T0, pos, aft, g⟩ :: rest) K f w := by
  refine WL.val hg hd ?_ h
  simp only [execOp, eqGuard, hx, hy, binOp_shr, shift_shr .u64 yk a b h0 h1, Sem.run_bind, Sem.run_pure]
  rfl
theorem O.andW {x y : Operand} {a b : Int} (hg : want ops g f = true) (hd : Nat.blt d n = true) (hx : ev f x = .int .u64 a) (hy : ev f y = .int .u64 b)
    (h : WL P n ds ops rest K (upd f d (.int .u64 (bits .and .u64 a b))) w) : WL P n ds ops (⟨some d, .binOp .and T x y T', T0, pos, aft, g⟩ :: rest) K f w :=
  WL.val hg hd (by simp only [execOp, eqGuard, hx, hy, binOp_and, intBits_and, Sem.run_bind, Sem.run_pure]; rfl) h
theorem O.convW {S : TypeId} {k kd : IntKind} {x : Operand} {a : Int} (hS : (P.underlying S).isSome = true) (hT : P.underlying T = some (.int kd)) (hg : want ops g f = true) (hd : Nat.blt d n = true) (hx : ev f x = .int k a)
    (h : WL P n ds ops rest K (upd f d (.int kd (kd.wrap a))) w) : WL P n ds ops (⟨some d, .convert S T x, T0, pos, aft, g⟩ :: rest) K f w := by
  have hk : P.intKind T = kd := by simp [Program.intKind, hT]
  have hr := run_convert_int (P := P) w S T k a hS (by rw [hk]; exact hT)
  rw [hk] at hr
  refine WL.val hg hd ?_ h
  simp only [execOp, hx, Sem.run_bind, hr, Result.andThen_ok, Sem.run_pure]
def sub64V (x y b : Int) : Int × Int := (((x.toNat + 18446744073709551616 - y.toNat - b.toNat) % 18446744073709551616 : Nat), ((if x.toNat < y.toNat + b.toNat then 1 else 0 : Nat) : Int))
def sub64I (x y b : Int) : Option (Int × Int) := if 0 ≤ x ∧ 0 ≤ y ∧ 0 ≤ b ∧ b ≤ 1 then some (sub64V x y b) else none
def Sub64At (P : Program) (k : FuncId) : Prop := ∀ (x y b : Nat), b ≤ 1 → ∀ w : World, (callFunc k #[.int .u64 x, .int .u64 y, .int .u64 b]).run P w =
  .ok (.value (.tuple #[.int .u64 (((x + 18446744073709551616 - y - b) % 18446744073709551616 : Nat) : Int), .int .u64 ((if x < y + b then 1 else 0 : Nat) : Int)])) w
end
end Go.Fw
