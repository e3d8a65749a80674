/-
  THE FRAMEWORK, PART AR: arrays as values, indexed. No program in it.
-/
import Derived.Test.YtmoofcflfbnceaaGreatDoorFwO
namespace Go.Fw
open Go.RowKit
section
variable {P : Program} {n : Nat} {ds : Md} {ops : Array Oper} {rest : List Oper} {K : Fr → World → Prop} {f : Fr} {w : World} {T T0 E : TypeId} {pos : String} {aft : Array Edge} {g : Option (Nat × Bool)} {d : Nat} {s ix : Operand}
theorem O.indexC {v r : Value} {i : Int} (c : Int) (hr : ∀ w, (Instr.index T v (.int .i64 c)).run P w = .ok r w) (hi : i = c) (hg : want ops g f = true) (hd : Nat.blt d n = true) (hs : ev f s = v) (hx : ev f ix = .int .i64 i)
    (h : WL P n ds ops rest K (upd f d r) w) : WL P n ds ops (⟨some d, .index T s ix, T0, pos, aft, g⟩ :: rest) K f w := by
  refine WL.val hg hd ?_ h
  simp only [execOp, hs, hx, hi, Sem.run_bind, hr, Result.andThen_ok, Sem.run_pure]
theorem O.arrIdxS {m : Nat} {l : List ByteArray} {i : Int} {x : ByteArray} (hT : P.underlying T = some (.array m E)) (hE : SizeT P E 1) (hS : ScalarT P E) (hl : l.length = m) (hi : idx l i = some x) (hg : want ops g f = true) (hd : Nat.blt d n = true)
    (hs : ev f s = .agg (l.map Value.string).toArray) (hx : ev f ix = .int .i64 i) (h : WL P n ds ops rest K (upd f d (.string x)) w) : WL P n ds ops (⟨some d, .index T s ix, T0, pos, aft, g⟩ :: rest) K f w := by
  obtain ⟨h0, h1, h2⟩ := idx_some hi
  refine WL.val hg hd ?_ h
  have h3 : ((l.map Value.string).toArray)[i.toNat * 1]? = some (.string x) := by simp [h2]
  have h4 : i < (m : Int) := by omega
  simp only [execOp, hs, hx, Instr.index, asIntOf, Sem.run_bind, Sem.run_pure, Result.andThen_ok, run_underlying hT, h0, h4, and_self, if_true, run_sizeOf' hE, part, run_isAgg_scalar hS, Bool.false_eq_true, if_false, h3]
end
end Go.Fw
