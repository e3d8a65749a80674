/-
  THE FRAMEWORK, PART OR: a slice that came in, or one that the call owns: only read, whichever it is. No program in it.
-/
import Derived.Test.YtohbkbimgfkblaaFwF
namespace Go.Fw
open Go.RowKit
theorem add_block (a : Addr) (k : Nat) : (a.add k).block = a.block := by unfold Addr.add; split <;> rfl
theorem SliceR.block {α : Type} [Flat α] {w w' : World} {v : Value} {xs : List α} (h : SliceR w v xs) (hb : ∀ a len cap, xs ≠ [] → v = .slice (some a) len cap → w'.heap[a.block]? = w.heap[a.block]?) : SliceR w' v xs := by
  obtain ⟨h0, h⟩ := h
  refine ⟨h0, ?_⟩
  rcases h with h | ⟨a, cap, h1, h2, h3, h4⟩
  · exact .inl h
  · refine .inr ⟨a, cap, h1, h2, h3, fun i x hi => ?_⟩
    obtain ⟨q1, cs, q2, q3⟩ := h4 i x hi
    have hne : xs ≠ [] := fun e => by rw [e] at hi; cases hi
    have hh := hb a _ _ hne h1
    refine ⟨q1, cs, q2, fun j c hj => ?_⟩
    have := q3 j c hj
    unfold World.cell? at this ⊢
    rw [add_block, add_block] at this ⊢
    rw [hh]
    exact this
/-- A slice that came in, or one in new memory. -/
def orI {α : Type} [Flat α] (w0 : World) (v : Value) (xs : List α) : Item :=
  ⟨fun b => xs ≠ [] ∧ w0.heap.size ≤ b ∧ ∃ a len cap, v = .slice (some a) len cap ∧ a.block = b, fun w => SliceR w0 v xs ∨ (SliceR w v xs ∧ (xs ≠ [] → ∀ a len cap, v = .slice (some a) len cap → w0.heap.size ≤ a.block)), by
    intro w w' _ h hok
    rcases hok with h1 | ⟨h1, h2⟩
    · exact .inl h1
    · exact .inr ⟨h1.block fun a len cap hne hv => h a.block ⟨hne, h2 hne a len cap hv, a, len, cap, hv, rfl⟩, h2⟩⟩
section
variable {w0 w : World} {L : List Item}
end
end Go.Fw
