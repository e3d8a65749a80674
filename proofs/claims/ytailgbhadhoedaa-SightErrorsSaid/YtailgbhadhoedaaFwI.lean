/-
  THE FRAMEWORK, PART I: function values; what a callee is told of cells; small things for regions that draw.
-/
import Derived.Test.YtailgbhadhoedaaFwH
namespace Go.Fw
open Go.RowKit

theorem cells_mono {w w' : World} {q : Addr} {cs : List Value} (h : ∀ j c, cs[j]? = some c → w.cell? (q.add j) = some c) (hb : Below w.heap.size w w') : ∀ j c, cs[j]? = some c → w'.cell? (q.add j) = some c :=
  fun j c hj => cell_mono (h j c hj) hb
theorem OwnR.base {α : Type} [Flat α] {w1 w w' : World} {v : Value} {E : TypeId} {xs : List α} (h : OwnR w w' v E xs) (hs : w1.heap.size ≤ w.heap.size) : OwnR w1 w' v E xs := by
  obtain ⟨h1, h2⟩ := h
  refine ⟨h1, h2.imp id ?_⟩
  rintro ⟨gb, cap, cur, e, hg, r⟩
  exact ⟨gb, cap, cur, e, Nat.le_trans hs hg, r⟩
theorem OwnR.mono {α : Type} [Flat α] {w1 w w' : World} {v : Value} {E : TypeId} {xs : List α} (h : OwnR w1 w v E xs) (hb : Below w.heap.size w w') : OwnR w1 w' v E xs := by
  obtain ⟨h1, h2⟩ := h
  refine ⟨h1, h2.imp id ?_⟩
  rintro ⟨gb, cap, cur, e, hg, hh, r⟩
  exact ⟨gb, cap, cur, e, hg, by rw [hb.block gb (heap_lt hh)]; exact hh, r⟩
theorem OwnR.sliceR {α : Type} [Flat α] {w1 w : World} {v : Value} {E : TypeId} {xs : List α} (h : OwnR w1 w v E xs) : SliceR w v xs := ownsRow_sliceR h
theorem InvD.addOwn' {Dq : Nat → Prop} {α : Type} [Flat α] {w0 w1 w : World} {L : List Item} (H : InvD Dq w0 w1 L) (hb : Below w1.heap.size w1 w) {v : Value} {E : TypeId} {xs : List α} (h : OwnR w1 w v E xs) : InvD Dq w0 w (L ++ [ownI v E xs]) := H.addOwn hb h

section
variable {P : Program} {n : Nat} {ds : Md} {ops : Array Oper} {rest : List Oper} {K : Fr → World → Prop} {f : Fr} {Dq : Nat → Prop} {w w0 : World} {L : List Item} {T T' T0 : TypeId} {pos : String} {aft : Array Edge}
  {g : Option (Nat × Bool)} {d : Nat}
theorem callsV_mk {k : FuncId} {args cap : List Value} {R : Ending → World → Prop} (hcb : Callable P k) (h : Calls P k (args ++ cap).toArray w R) : CallsV P (.func (.func k) #[] cap.toArray) args.toArray w R :=
  ⟨k, #[], cap.toArray, rfl, hcb, by simpa using h⟩
/-- '[]T{}'. -/
theorem O.buildEmpty {α : Type} [Flat α] {E bytes : Nat} (hT : P.underlying T = some (.slice E)) (hE : ElemT P E (Flat.size α) bytes) (H : InvD Dq w0 w L) (hg : want ops g f = true) (hd : Nat.blt d n = true)
    (h : ∀ b w', InvD Dq w0 w' (L ++ [ownI (α := α) (.slice (some ⟨b, 0, none⟩) 0 0) E []]) → Below w.heap.size w w' → WL P n ds ops rest K (upd f d (.slice (some ⟨b, 0, none⟩) 0 0)) w') :
    WL P n ds ops (⟨some d, .buildSlice T 0 #[], T0, pos, aft, g⟩ :: rest) K f w := by
  have hrun := run_buildSlice (α := α) (vs := []) (xs := []) (w := w) hT hE rfl (by simp)
  refine WL.val hg hd (w' := w.alloc (.cells #[] E)) (v := .slice (some ⟨w.heap.size, 0, none⟩) 0 0) ?_ (h _ _ (H.addOwn (below_alloc _ _) ?_) (below_alloc _ _))
  · have h2 : (Instr.buildSlice T 0 #[]).run P w = .ok (.slice (some ⟨w.heap.size, 0, none⟩) 0 0) (w.alloc (.cells #[] E)) := hrun
    simp [execOp, h2]
  · exact ⟨by simp, .inr ⟨w.heap.size, 0, #[], rfl, Nat.le_refl _, alloc_at _ _, Nat.le_refl _, by simp [maxLen], by simp, by simp⟩⟩
theorem O.makeFunc {fn : Fn} {first captured : List Operand} {v1 v2 : List Value} (hg : want ops g f = true) (hd : Nat.blt d n = true) (h1 : first.map (ev f) = v1) (h2 : captured.map (ev f) = v2)
    (h : WL P n ds ops rest K (upd f d (.func fn v1.toArray v2.toArray)) w) : WL P n ds ops (⟨some d, .makeFunc fn first.toArray captured.toArray, T0, pos, aft, g⟩ :: rest) K f w :=
  WL.val hg hd (by simp only [execOp, List.map_toArray, h1, h2, Instr.makeFunc, Sem.run_bind, Sem.run_pure, Result.andThen_ok]) h
end
end Go.Fw
namespace Go.Fw
open Go.RowKit
section
variable {P : Program} {n : Nat} {ds : Md} {ops : Array Oper} {rest : List Oper} {K : Fr → World → Prop} {f : Fr} {Dq : Nat → Prop} {w w0 w1 : World} {L : List Item} {T T' T0 : TypeId} {pos : String} {aft : Array Edge}
  {g : Option (Nat × Bool)} {d : Nat}
/-- 'append' onto an empty slice without room: whatever is appended lies in new memory. -/
theorem O.appendEmpty {α : Type} [Flat α] {E bytes : Nat} {s y : Operand} {b : Nat} {vy : Value} {ys zs : List α} (hT : P.underlying T = some (.slice E)) (hE : ElemT P E (Flat.size α) bytes) (hb : Nat.ble bytes 128 = true)
    (hx : Below w1.heap.size w1 w) (ho : OwnR (α := α) w1 w (.slice (some ⟨b, 0, none⟩) 0 0) E []) (hy : SliceR w vy ys) (hz : appI [] ys = some zs) (hg : want ops g f = true) (hd : Nat.blt d n = true)
    (hs : ev f s = .slice (some ⟨b, 0, none⟩) 0 0) (hv : ev f y = vy)
    (h : ∀ v' w', Below w.heap.size w w' → OwnR w1 w' v' E zs → WL P n ds ops rest K (upd f d v') w') :
    WL P n ds ops (⟨some d, .call ⟨.builtin .append, #[s, y], #[T, T]⟩, T0, pos, aft, g⟩ :: rest) K f w := by
  obtain ⟨hlen, rfl⟩ := appI_some hz
  simp only [List.length_nil, Nat.zero_add] at hlen
  obtain ⟨i, z, hi, hz, hsz, hby, hzs⟩ := hE
  have hpos := Flat.pos (α := α)
  have hrun0 : ys.length = 0 → (Builtin.append_ #[T, T] T0 #[.slice (some ⟨b, 0, none⟩) 0 0, vy]).run P w = .ok (.slice (some ⟨b, 0, none⟩) 0 0) w := by
    intro h0
    obtain ⟨_, ⟨rfl, _⟩ | ⟨ya, yc, rfl, _⟩⟩ := hy
    · simp [Builtin.append_, run_underlying hT, sizeOf, typeInfo, hi, Builtin.lenOf, Builtin.firstCells, storeCells]
    · simp [h0, Builtin.append_, run_underlying hT, sizeOf, typeInfo, hi, Builtin.lenOf, Builtin.firstCells, storeCells, loadCells, loadCellsFrom]
  by_cases h0 : ys.length = 0
  · refine WL.val hg hd (v := .slice (some ⟨b, 0, none⟩) 0 0) (w' := w) ?_ (h _ _ (Below.refl _ _) ?_)
    · simp [execOp, resolve, invoke, builtin, hs, hv, hrun0 h0, Result.andThen]
    · obtain rfl := List.eq_nil_of_length_eq_zero h0
      exact ho
  · obtain ⟨_, ⟨_, rfl⟩ | ⟨ya, yc, rfl, hl1, hl2, hyc⟩⟩ := hy
    · exact absurd rfl h0
    · have hnews := flat_news hyc
      obtain ⟨v', w', hrun, how, hgr⟩ := run_append_arg_grows (P := P) w T T0 E i z (Flat.size α) bytes hT hi hz hsz hby hzs hpos ⟨b, 0, none⟩ 0 0 [] (by simp) (by simp) ya ys.length yc
        (ys.flatMap Flat.cells) (flat_length ys) hnews (by omega) (by unfold maxLen; omega) (by
          have : (0 + ys.length) * bytes ≤ 1099511627776 * 128 := Nat.mul_le_mul (by omega) (Nat.le_of_ble_eq_true hb)
          omega)
      refine WL.val hg hd (v := v') (w' := w') ?_ (h _ _ ⟨hgr.os, hgr.tape, hgr.output, hgr.size, fun k hk => hgr.block k hk (by simp)⟩ ?_)
      · simp [execOp, resolve, invoke, builtin, hs, hv, hrun, Result.andThen]
      · have how2 : w'.ownsRow w.heap.size E (Flat.size α) v' ([] ++ ys).length (([] ++ ys).flatMap Flat.cells) := by simpa using how
        exact OwnR.base (w := w) how2 hx.size
end
end Go.Fw
