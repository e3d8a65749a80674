/-
  THE FRAMEWORK, PART OR: a slice that came in, or one that the call owns: only read, whichever it is. No program in it.
-/
import Derived.Test.YtailgbhadhoedaaFwF
namespace Go.Fw
open Go.RowKit
theorem add_block (a : Addr) (k : Nat) : (a.add k).block = a.block := by unfold Addr.add; split <;> rfl
theorem SliceR.block {α : Type} [Flat α] {w w' : World} {v : Value} {xs : List α} (h : SliceR w v xs) (hb : ∀ a len cap, xs ≠ [] → v = .slice (some a) len cap → w'.heap[a.block]? = w.heap[a.block]?) : SliceR w' v xs := by
  obtain ⟨h0, h⟩ := h
  refine ⟨h0, ?_⟩
  rcases h with h | ⟨a, cap, h1, h2, h3, h4⟩
  · exact .inl h
  · refine .inr ⟨a, cap, h1, h2, h3, fun i x hi => ?_⟩
    obtain ⟨q1, cs, q2, q3⟩ := h4 i x hi
    have hne : xs ≠ [] := fun e => by rw [e] at hi; cases hi
    have hh := hb a _ _ hne h1
    refine ⟨q1, cs, q2, fun j c hj => ?_⟩
    have := q3 j c hj
    unfold World.cell? at this ⊢
    rw [add_block, add_block] at this ⊢
    rw [hh]
    exact this
theorem SliceR.in_heap {α : Type} [Flat α] {w : World} {v : Value} {xs : List α} (h : SliceR w v xs) (hne : xs ≠ []) : ∀ a len cap, v = .slice (some a) len cap → a.block < w.heap.size := by
  intro a len cap hv
  obtain ⟨_, ⟨_, h2⟩ | ⟨a', cap', h1, _, _, h4⟩⟩ := h
  · exact absurd h2 hne
  · rw [h1] at hv
    cases hv
    obtain ⟨x, l, rfl⟩ := List.exists_cons_of_ne_nil hne
    obtain ⟨_, cs, q2, q3⟩ := h4 0 x rfl
    have q2' : cs = Flat.cells x := q2
    have hp := Flat.pos (α := α)
    have hl := Flat.len x
    obtain ⟨c, l', hc⟩ := List.exists_cons_of_ne_nil (l := cs) (fun e => by rw [e] at q2'; rw [← q2'] at hl; simp at hl; omega)
    have := q3 0 c (by rw [hc]; rfl)
    have := cell_lt this
    rwa [add_block, add_block] at this
/-- A slice that came in, or one in new memory. -/
def orI {α : Type} [Flat α] (w0 : World) (v : Value) (xs : List α) : Item :=
  ⟨fun b => xs ≠ [] ∧ w0.heap.size ≤ b ∧ ∃ a len cap, v = .slice (some a) len cap ∧ a.block = b, fun w => SliceR w0 v xs ∨ (SliceR w v xs ∧ (xs ≠ [] → ∀ a len cap, v = .slice (some a) len cap → w0.heap.size ≤ a.block)), by
    intro w w' _ h hok
    rcases hok with h1 | ⟨h1, h2⟩
    · exact .inl h1
    · exact .inr ⟨h1.block fun a len cap hne hv => h a.block ⟨hne, h2 hne a len cap hv, a, len, cap, hv, rfl⟩, h2⟩⟩
section
variable {w0 w : World} {L : List Item}
theorem InvD.orR {α : Type} [Flat α] (H : Inv w0 w L) (i : Nat) {v : Value} {xs : List α} (hi : L[i]? = some (orI w0 v xs)) : SliceR w v xs := by
  rcases (H.items _ (List.mem_of_getElem? hi)).1 with h | h
  · exact h.mono H.base
  · exact h.1
theorem InvD.argOr {α : Type} [Flat α] (H : Inv w0 w L) {v : Value} {xs : List α} (h : SliceR w0 v xs) : Inv w0 w (L ++ [orI w0 v xs]) := by
  have hno : ∀ b, ¬ (orI w0 v xs).fp b := by
    rintro b ⟨hne, hb, a, len, cap, hv, rfl⟩
    have := h.in_heap hne a len cap hv
    omega
  refine ⟨H.baseX, fun it hit => ?_, ?_⟩
  · rcases List.mem_append.1 hit with hit | hit
    · exact H.items it hit
    · rw [List.mem_singleton.1 hit]
      exact ⟨.inl h, fun b hb => absurd hb (hno b)⟩
  · refine List.pairwise_append.2 ⟨H.apart, List.pairwise_singleton .., fun x _ y hy b _ hb => ?_⟩
    rw [List.mem_singleton.1 hy] at hb
    exact hno b hb
theorem InvD.ownOr {α : Type} [Flat α] (H : Inv w0 w L) (i : Nat) {v : Value} {E : TypeId} {xs : List α} (hi : L[i]? = some (ownI v E xs)) : Inv w0 w (L.set i (orI w0 v xs)) := by
  obtain ⟨hok, hfp⟩ := H.items _ (List.mem_of_getElem? hi)
  have hR := H.own i hi
  have hblk : xs ≠ [] → ∀ a len cap, v = .slice (some a) len cap → v.ownBlock = some a.block := by
    intro _ a len cap hv
    obtain ⟨_, ⟨h1, _⟩ | ⟨gb, cp, cur, h1, _⟩⟩ := hok
    · rw [h1] at hv; cases hv
    · rw [h1] at hv; cases hv; rw [h1]; rfl
  refine H.upd i _ _ hi ⟨rfl, rfl, rfl, Nat.le_refl _, fun _ _ _ => rfl⟩ (.inr ⟨hR, fun hne a len cap hv => ?_⟩) ?_
  · rcases (hfp a.block (hblk hne a len cap hv)).1 with h | h
    · exact h
    · exact h.elim
  · rintro b ⟨hne, _, a, len, cap, hv, rfl⟩
    have := hblk hne a len cap hv
    exact ⟨(hfp _ this).2, .inl this⟩
end
end Go.Fw
