/-
  THE FRAMEWORK, PART I: function values; what a callee is told of cells; small things for regions that draw.
-/
import Derived.Test.YtokfcbpfhojdkaaFwH
namespace Go.Fw
open Go.RowKit

theorem cells_mono {w w' : World} {q : Addr} {cs : List Value} (h : ∀ j c, cs[j]? = some c → w.cell? (q.add j) = some c) (hb : Below w.heap.size w w') : ∀ j c, cs[j]? = some c → w'.cell? (q.add j) = some c :=
  fun j c hj => cell_mono (h j c hj) hb
section
variable {P : Program} {n : Nat} {ds : Md} {ops : Array Oper} {rest : List Oper} {K : Fr → World → Prop} {f : Fr} {Dq : Nat → Prop} {w w0 : World} {L : List Item} {T T' T0 : TypeId} {pos : String} {aft : Array Edge}
  {g : Option (Nat × Bool)} {d : Nat}
theorem callsV_mk {k : FuncId} {args cap : List Value} {R : Ending → World → Prop} (hcb : Callable P k) (h : Calls P k (args ++ cap).toArray w R) : CallsV P (.func (.func k) #[] cap.toArray) args.toArray w R :=
  ⟨k, #[], cap.toArray, rfl, hcb, by simpa using h⟩
theorem O.makeFunc {fn : Fn} {first captured : List Operand} {v1 v2 : List Value} (hg : want ops g f = true) (hd : Nat.blt d n = true) (h1 : first.map (ev f) = v1) (h2 : captured.map (ev f) = v2)
    (h : WL P n ds ops rest K (upd f d (.func fn v1.toArray v2.toArray)) w) : WL P n ds ops (⟨some d, .makeFunc fn first.toArray captured.toArray, T0, pos, aft, g⟩ :: rest) K f w :=
  WL.val hg hd (by simp only [execOp, List.map_toArray, h1, h2, Instr.makeFunc, Sem.run_bind, Sem.run_pure, Result.andThen_ok]) h
end
end Go.Fw
namespace Go.Fw
open Go.RowKit
section
variable {P : Program} {n : Nat} {ds : Md} {ops : Array Oper} {rest : List Oper} {K : Fr → World → Prop} {f : Fr} {Dq : Nat → Prop} {w w0 w1 : World} {L : List Item} {T T' T0 : TypeId} {pos : String} {aft : Array Edge}
  {g : Option (Nat × Bool)} {d : Nat}
end
end Go.Fw
