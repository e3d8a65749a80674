/-
  Parts of slices that the call owns: the part is read in any later world in which the slice still stands. No condition.
-/
import Derived.Test.YtailgbhadhoedaaFwL
namespace Go.Fw
open Go.RowKit
section
variable {P : Program} {n : Nat} {ds : Md} {ops : Array Oper} {rest : List Oper} {K : Fr → World → Prop} {f : Fr} {w : World} {T T0 : TypeId} {pos : String} {aft : Array Edge} {g : Option (Nat × Bool)} {d : Nat}
theorem sliced_all {α : Type} [Ty α] {v : Value} {xs ys : List α} {lo hi : Int} {w : World} (hR : SliceR w v xs) (h : cutI xs lo hi = some ys) :
    ∃ a len cap, v = .slice a len cap ∧ len ≤ cap ∧ ∀ w', SliceR w' v xs → SliceR w' (sliced a lo.toNat hi.toNat cap (Ty.size α)) ys := by
  obtain ⟨a, len, cap, rfl, _, h4, _⟩ := sliced_sliceR hR h
  refine ⟨a, len, cap, rfl, h4, fun w' hR' => ?_⟩
  obtain ⟨a', len', cap', e, _, _, h5⟩ := sliced_sliceR hR' h
  cases e
  exact h5
theorem O.sliceHs {α : Type} [Ty α] {s b : Operand} {v : Value} {xs ys : List α} {hi : Int} {E : TypeId} (hT : P.underlying T = some (.slice E)) (hE : SizeT P E (Ty.size α)) (hR : SliceR w v xs) (hc : cutI xs 0 hi = some ys)
    (hg : want ops g f = true) (hd : Nat.blt d n = true) (hs : ev f s = v) (hb : ev f b = .int .i64 hi) (h : ∀ v', (∀ w', SliceR w' v xs → SliceR w' v' ys) → WL P n ds ops rest K (upd f d v') w) :
    WL P n ds ops (⟨some d, .slice T s none (some b) none, T0, pos, aft, g⟩ :: rest) K f w := by
  obtain ⟨h0, h1, h2, _⟩ := cutI_some hc
  obtain ⟨ad, len, cap, rfl, h4, h5⟩ := sliced_all hR hc
  obtain ⟨_, _, _, e, hl, _, _⟩ := sliced_sliceR hR hc
  cases e
  have he := elem_of hT
  have hT' : P.underlying T = some (.slice (P.elem T)) := by rw [he]; exact hT
  refine WL.val hg hd ?_ (h _ h5)
  simp only [execOp, Option.map_some, Option.map_none, hs, hb, Sem.run_bind, run_sliceAt_slice w T _ _ _ _ hT', run_slice_h w T ad _ cap hT' .i64 hi h1 (by omega), he, run_sizeOf' hE, Result.andThen_ok, Sem.run_pure]
  rfl
end
end Go.Fw
