/-
  THE FRAMEWORK, PART RO: rows of the call's own that are written no more, and may be named twice: one item for all of them. No program in it.
-/
import Derived.Test.YtohbkbimgfkblaaFwCl
import Derived.Test.YtohbkbimgfkblaaFwOr
import Derived.Test.YtohbkbimgfkblaaFwDl
namespace Go.Fw
open Go.RowKit
/-- Slices that lie in the blocks C, and are not written any more. -/
def rowsI {α : Type} [Flat α] (E : TypeId) (C : Nat → Prop) (R : List (Value × List α)) : Item :=
  ⟨C, fun w => ∀ r ∈ R, (ownI r.1 E r.2).ok w ∧ ∀ b, (ownI r.1 E r.2).fp b → C b, fun w w' hg h' h r hr => ⟨(ownI r.1 E r.2).loc w w' hg (fun b hf => h' b ((h r hr).2 b hf)) (h r hr).1, (h r hr).2⟩⟩
section
variable {Dq : Nat → Prop} {w w0 : World} {L M : List Item} {C : Nat → Prop} {α : Type} [Flat α] {E : TypeId} {R : List (Value × List α)}
theorem InvD.row (H : InvD Dq w0 w (rowsI E C R :: L)) {v : Value} {xs : List α} (h : (v, xs) ∈ R) : SliceR w v xs := ownsRow_sliceR ((H.items (rowsI E C R) (by simp)).1 (v, xs) h).1
/-- What a call may hand back. -/
theorem InvD.rowOwn (H : Inv w0 w (rowsI E C R :: L)) {v : Value} {xs : List α} (h : (v, xs) ∈ R) : OwnR w0 w v E xs := by
  have hi := H.items (rowsI E C R) (by simp)
  obtain ⟨⟨h1, h2⟩, hC⟩ := hi.1 (v, xs) h
  refine ⟨h1, ?_⟩
  rcases h2 with h2 | ⟨gb, cap, cur, hv, _, r⟩
  · exact .inl h2
  · refine .inr ⟨gb, cap, cur, hv, ?_, r⟩
    have hf : (ownI v E xs).fp gb := by
      show v.ownBlock = some gb
      dsimp only at hv
      rw [hv]
      rfl
    exact ((hi.2 gb (hC gb hf)).1).resolve_right id
theorem rowsI_nil (H : InvD Dq w0 w L) : InvD Dq w0 w (rowsI E (fun _ => False) [((.slice none 0 0 : Value), ([] : List α))] :: L) := by
  refine ⟨H.baseX, fun it hi => ?_, List.pairwise_cons.2 ⟨fun _ _ b hb => hb.elim, H.apart⟩⟩
  rcases List.mem_cons.1 hi with rfl | hi
  · refine ⟨fun r hr => ?_, fun b hb => hb.elim⟩
    rw [List.mem_singleton.1 hr]
    exact ⟨⟨by simp, .inl ⟨rfl, rfl⟩⟩, fun b hf => by cases hf⟩
  · exact H.items it hi
/-- A slice that the call owns is put beside them. -/
theorem InvD.absorb {v : Value} {xs : List α} (H : InvD Dq w0 w (rowsI E C R :: (M ++ [ownI v E xs]))) : InvD Dq w0 w (rowsI E (fun b => C b ∨ v.ownBlock = some b) ((v, xs) :: R) :: M) := by
  have hC := H.items (rowsI E C R) (by simp)
  have hO := H.items (ownI v E xs) (by simp)
  obtain ⟨p1, p2⟩ := List.pairwise_cons.1 H.apart
  obtain ⟨p3, _, p5⟩ := List.pairwise_append.1 p2
  refine ⟨H.baseX, fun it hi => ?_, List.pairwise_cons.2 ⟨fun it hi b hb hb' => ?_, p3⟩⟩
  · rcases List.mem_cons.1 hi with rfl | hi
    · refine ⟨fun r hr => ?_, fun b hb => ?_⟩
      · rcases List.mem_cons.1 hr with rfl | hr
        · exact ⟨hO.1, fun b hf => .inr hf⟩
        · exact ⟨(hC.1 r hr).1, fun b hf => .inl ((hC.1 r hr).2 b hf)⟩
      · rcases hb with hb | hb
        · exact hC.2 b hb
        · exact hO.2 b hb
    · exact H.items it (by simp [hi])
  · rcases hb with hb | hb
    · exact p1 it (by simp [hi]) b hb hb'
    · exact p5 it hi (ownI v E xs) (by simp) b hb' hb
/-- What is appended to a slice without room is a new one. -/
theorem addClip {P : Program} {T T0 : TypeId} {bytes : Nat} {v vy : Value} {xs ys : List α} (H : InvD Dq w0 w L) (hT : P.underlying T = some (.slice E)) (hE : ElemT P E (Flat.size α) bytes) (hb : bytes ≤ 128) (hx : SliceR w v xs) (hcl : clipV v = v)
    (hy : SliceR w vy ys) (hne : ys ≠ []) (hlen : xs.length + ys.length ≤ 1099511627776) :
    ∃ v' w', (Go.Builtin.append_ #[T, T] T0 #[v, vy]).run P w = .ok v' w' ∧ InvD Dq w0 w' (L ++ [ownI v' E (xs ++ ys)]) := by
  obtain ⟨v', w', hrun, hc, hok, hfp⟩ := run_append_clip (T0 := T0) hT hE hb hx hcl hy hne hlen
  refine ⟨v', w', hrun, ?_⟩
  have hbw : Below w.heap.size w w' := ⟨hc.os, hc.tape, hc.output, hc.size, fun k hk => hc.block k hk id⟩
  exact H.add hbw _ hok fun b hf => ⟨(hfp b hf).2, (hfp b hf).1⟩
variable {P : Program} {n : Nat} {ds : Md} {ops : Array Oper} {rest : List Oper} {K : Fr → World → Prop} {f : Fr} {T T0 : TypeId} {pos : String} {aft : Array Edge} {g : Option (Nat × Bool)} {d : Nat}
theorem O.appendC {bytes : Nat} {s y : Operand} {v vy : Value} {xs ys zs : List α} (hT : P.underlying T = some (.slice E)) (hE : ElemT P E (Flat.size α) bytes) (hb : Nat.ble bytes 128 = true) (H : InvD Dq w0 w L) (hx : SliceR w v xs) (hcl : clipV v = v)
    (hy : SliceR w vy ys) (hne : ys ≠ []) (hz : appI xs ys = some zs) (hg : want ops g f = true) (hd : Nat.blt d n = true) (hs : ev f s = v) (hv : ev f y = vy) (h : ∀ v' w', InvD Dq w0 w' (L ++ [ownI v' E zs]) → WL P n ds ops rest K (upd f d v') w') :
    WL P n ds ops (⟨some d, .call ⟨.builtin .append, #[s, y], #[T, T]⟩, T0, pos, aft, g⟩ :: rest) K f w := by
  obtain ⟨hlen, rfl⟩ := appI_some hz
  obtain ⟨v', w', hrun, hI⟩ := addClip (T0 := T0) H hT hE (Nat.le_of_ble_eq_true hb) hx hcl hy hne hlen
  exact O.appendV hrun hg hd hs hv (h v' w' hI)
end
/-- Two items as one. -/
def bothI (x y : Item) : Item :=
  ⟨fun b => x.fp b ∨ y.fp b, fun w => x.ok w ∧ y.ok w ∧ ∀ b, x.fp b → ¬ y.fp b, fun w w' hg h' h =>
    ⟨x.loc w w' hg (fun b hf => h' b (.inl hf)) h.1, y.loc w w' hg (fun b hf => h' b (.inr hf)) h.2.1, h.2.2⟩⟩
section
variable {Dq : Nat → Prop} {w w0 : World} {L : List Item}
theorem InvD.both {x y : Item} (H : InvD Dq w0 w (L ++ [x, y])) : InvD Dq w0 w (L ++ [bothI x y]) := by
  obtain ⟨h1, h2, h3⟩ := List.pairwise_append.1 H.apart
  have hx := H.items x (by simp)
  have hy := H.items y (by simp)
  refine ⟨H.baseX, fun it hi => ?_, List.pairwise_append.2 ⟨h1, List.pairwise_singleton _ _, fun a ha c hc b hf hg => ?_⟩⟩
  · rcases List.mem_append.1 hi with hi | hi
    · exact H.items it (List.mem_append_left _ hi)
    · rw [List.mem_singleton.1 hi]
      exact ⟨⟨hx.1, hy.1, (List.pairwise_cons.1 h2).1 y (by simp)⟩, fun b hb => hb.elim (hx.2 b) (hy.2 b)⟩
  · rw [List.mem_singleton.1 hc] at hg
    exact hg.elim (h3 a ha x (by simp) b hf) (h3 a ha y (by simp) b hf)
theorem InvD.unboth {x y : Item} (H : InvD Dq w0 w (L ++ [bothI x y])) : InvD Dq w0 w (L ++ [x, y]) := by
  obtain ⟨h1, h2, h3⟩ := List.pairwise_append.1 H.apart
  have hb := H.items (bothI x y) (by simp)
  refine ⟨H.baseX, fun it hi => ?_, List.pairwise_append.2 ⟨h1, List.pairwise_cons.2 ⟨fun c hc b hf => ?_, List.pairwise_singleton _ _⟩, fun a ha c hc b hf hg => ?_⟩⟩
  · rcases List.mem_append.1 hi with hi | hi
    · exact H.items it (List.mem_append_left _ hi)
    · rcases List.mem_cons.1 hi with rfl | hi
      · exact ⟨hb.1.1, fun b hf => hb.2 b (.inl hf)⟩
      · rw [List.mem_singleton.1 hi]
        exact ⟨hb.1.2.1, fun b hf => hb.2 b (.inr hf)⟩
  · rw [List.mem_singleton.1 hc]
    exact hb.1.2.2 b hf
  · rcases List.mem_cons.1 hc with rfl | hc
    · exact h3 a ha _ (List.mem_singleton_self _) b hf (.inl hg)
    · rw [List.mem_singleton.1 hc] at hg
      exact h3 a ha _ (List.mem_singleton_self _) b hf (.inr hg)
end
end Go.Fw
