/-
  THE FRAMEWORK, PART Q: loops over functions in step with a model that ranges over a list; the marks that they leave. No program in it.
-/
import Derived.Test.YtijjocfjgpibjaaDoorFwP
namespace Go.Fw
open Go.RowKit

def marksI (l : List Nat) : Item := ⟨fun b => b ∈ l, fun w => l.Nodup ∧ ∀ D ∈ l, w.heap[D]? = some (.deferred (some [])), fun _ _ _ hs h => ⟨h.1, fun D hD => (hs D hD).trans (h.2 D hD)⟩⟩
section
variable {P : Program} {w w0 : World} {L : List Item} {X : Nat → Prop}
end

theorem one_nil : ∀ v ∈ ([] : List Value), v.oneCell' = true := fun _ h => nomatch h
theorem one_cons {a : Value} {l : List Value} (h : a.oneCell' = true) (h' : ∀ v ∈ l, v.oneCell' = true) : ∀ v ∈ a :: l, v.oneCell' = true := fun v hv => by
  rcases List.mem_cons.1 hv with rfl | hv
  · exact h
  · exact h' v hv
/-- The opposite of a word of 64 bits, as Go has it. -/
def negW (a : Int) : Int := IntKind.i64.wrap (0 - a)
/-- Elements that are flat, one at a time. -/
def repF {α : Type} [Flat α] (_ : World) (a : α) (vs : List Value) : Prop := vs = [Flat.val a]
/-- Slices, one at a time. -/
def repS {α : Type} [Ty α] (w : World) (a : List α) (vs : List Value) : Prop := ∃ v, vs = [v] ∧ SliceR w v a

section
variable {P : Program} {n : Nat} {Kn : Fr → World → Prop} {Kx : Nat → Fr → World → Prop} {Kr : Fr → World → Prop} {f : Fr} {w w0 : World} {L : List Item} {ms : List Nat}
end

end Go.Fw
