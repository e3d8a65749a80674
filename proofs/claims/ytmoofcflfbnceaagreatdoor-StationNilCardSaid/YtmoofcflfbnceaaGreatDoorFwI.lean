/-
  THE FRAMEWORK, PART I: function values; what a callee is told of cells; small things for regions that draw.
-/
import Derived.Test.YtmoofcflfbnceaaGreatDoorFwH
namespace Go.Fw
open Go.RowKit

theorem cells_mono {w w' : World} {q : Addr} {cs : List Value} (h : ∀ j c, cs[j]? = some c → w.cell? (q.add j) = some c) (hb : Below w.heap.size w w') : ∀ j c, cs[j]? = some c → w'.cell? (q.add j) = some c :=
  fun j c hj => cell_mono (h j c hj) hb
theorem OwnR.base {α : Type} [Flat α] {w1 w w' : World} {v : Value} {E : TypeId} {xs : List α} (h : OwnR w w' v E xs) (hs : w1.heap.size ≤ w.heap.size) : OwnR w1 w' v E xs := by
  obtain ⟨h1, h2⟩ := h
  refine ⟨h1, h2.imp id ?_⟩
  rintro ⟨gb, cap, cur, e, hg, r⟩
  exact ⟨gb, cap, cur, e, Nat.le_trans hs hg, r⟩
theorem OwnR.mono {α : Type} [Flat α] {w1 w w' : World} {v : Value} {E : TypeId} {xs : List α} (h : OwnR w1 w v E xs) (hb : Below w.heap.size w w') : OwnR w1 w' v E xs := by
  obtain ⟨h1, h2⟩ := h
  refine ⟨h1, h2.imp id ?_⟩
  rintro ⟨gb, cap, cur, e, hg, hh, r⟩
  exact ⟨gb, cap, cur, e, hg, by rw [hb.block gb (heap_lt hh)]; exact hh, r⟩
theorem OwnR.sliceR {α : Type} [Flat α] {w1 w : World} {v : Value} {E : TypeId} {xs : List α} (h : OwnR w1 w v E xs) : SliceR w v xs := ownsRow_sliceR h
section
variable {P : Program} {n : Nat} {ds : Md} {ops : Array Oper} {rest : List Oper} {K : Fr → World → Prop} {f : Fr} {Dq : Nat → Prop} {w w0 : World} {L : List Item} {T T' T0 : TypeId} {pos : String} {aft : Array Edge}
  {g : Option (Nat × Bool)} {d : Nat}
theorem callsV_mk {k : FuncId} {args cap : List Value} {R : Ending → World → Prop} (hcb : Callable P k) (h : Calls P k (args ++ cap).toArray w R) : CallsV P (.func (.func k) #[] cap.toArray) args.toArray w R :=
  ⟨k, #[], cap.toArray, rfl, hcb, by simpa using h⟩
theorem O.buildEmpty {α : Type} [Flat α] {E bytes : Nat} (hT : P.underlying T = some (.slice E)) (hE : ElemT P E (Flat.size α) bytes) (H : InvD Dq w0 w L) (hg : want ops g f = true) (hd : Nat.blt d n = true)
    (h : ∀ b w', InvD Dq w0 w' (L ++ [ownI (α := α) (.slice (some ⟨b, 0, none⟩) 0 0) E []]) → Below w.heap.size w w' → WL P n ds ops rest K (upd f d (.slice (some ⟨b, 0, none⟩) 0 0)) w') :
    WL P n ds ops (⟨some d, .buildSlice T 0 #[], T0, pos, aft, g⟩ :: rest) K f w := by
  have hrun := run_buildSlice (α := α) (vs := []) (xs := []) (w := w) hT hE rfl (by simp)
  refine WL.val hg hd (w' := w.alloc (.cells #[] E)) (v := .slice (some ⟨w.heap.size, 0, none⟩) 0 0) ?_ (h _ _ (H.addOwn (below_alloc _ _) ?_) (below_alloc _ _))
  · have h2 : (Instr.buildSlice T 0 #[]).run P w = .ok (.slice (some ⟨w.heap.size, 0, none⟩) 0 0) (w.alloc (.cells #[] E)) := hrun
    simp [execOp, h2]
  · exact ⟨by simp, .inr ⟨w.heap.size, 0, #[], rfl, Nat.le_refl _, alloc_at _ _, Nat.le_refl _, by simp [maxLen], by simp, by simp⟩⟩
theorem O.makeFunc {fn : Fn} {first captured : List Operand} {v1 v2 : List Value} (hg : want ops g f = true) (hd : Nat.blt d n = true) (h1 : first.map (ev f) = v1) (h2 : captured.map (ev f) = v2)
    (h : WL P n ds ops rest K (upd f d (.func fn v1.toArray v2.toArray)) w) : WL P n ds ops (⟨some d, .makeFunc fn first.toArray captured.toArray, T0, pos, aft, g⟩ :: rest) K f w :=
  WL.val hg hd (by simp only [execOp, List.map_toArray, h1, h2, Instr.makeFunc, Sem.run_bind, Sem.run_pure, Result.andThen_ok]) h
end
end Go.Fw
namespace Go.Fw
open Go.RowKit
section
variable {P : Program} {n : Nat} {ds : Md} {ops : Array Oper} {rest : List Oper} {K : Fr → World → Prop} {f : Fr} {Dq : Nat → Prop} {w w0 w1 : World} {L : List Item} {T T' T0 : TypeId} {pos : String} {aft : Array Edge}
  {g : Option (Nat × Bool)} {d : Nat}
end
end Go.Fw
