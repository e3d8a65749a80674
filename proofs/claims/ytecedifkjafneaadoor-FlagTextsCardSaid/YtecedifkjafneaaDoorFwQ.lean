/-
  THE FRAMEWORK, PART Q: loops over functions in step with a model that ranges over a list; the marks that they leave. No program in it.
-/
import Derived.Test.YtecedifkjafneaaDoorFwP
namespace Go.Fw
open Go.RowKit

def marksI (l : List Nat) : Item := ⟨fun b => b ∈ l, fun w => l.Nodup ∧ ∀ D ∈ l, w.heap[D]? = some (.deferred (some [])), fun _ _ _ hs h => ⟨h.1, fun D hD => (hs D hD).trans (h.2 D hD)⟩⟩
section
variable {P : Program} {w w0 : World} {L : List Item} {X : Nat → Prop}
end

theorem one_nil : ∀ v ∈ ([] : List Value), v.oneCell' = true := fun _ h => nomatch h
theorem one_cons {a : Value} {l : List Value} (h : a.oneCell' = true) (h' : ∀ v ∈ l, v.oneCell' = true) : ∀ v ∈ a :: l, v.oneCell' = true := fun v hv => by
  rcases List.mem_cons.1 hv with rfl | hv
  · exact h
  · exact h' v hv
/-- The opposite of a word of 64 bits, as Go has it. -/
def negW (a : Int) : Int := IntKind.i64.wrap (0 - a)
/-- Elements that are flat, one at a time. -/
def repF {α : Type} [Flat α] (_ : World) (a : α) (vs : List Value) : Prop := vs = [Flat.val a]
/-- Slices, one at a time. -/
def repS {α : Type} [Ty α] (w : World) (a : List α) (vs : List Value) : Prop := ∃ v, vs = [v] ∧ SliceR w v a

section
variable {P : Program} {n : Nat} {Kn : Fr → World → Prop} {Kx : Nat → Fr → World → Prop} {Kr : Fr → World → Prop} {f : Fr} {w w0 : World} {L : List Item} {ms : List Nat}
/-- A loop in step with a list. -/
theorem W.loopL {α : Type} {c : Code} {l : List α} {ds : Md} (A : List α → Fr → World → Prop) (h0 : A l f w) (hround : ∀ x xs f w, A (x :: xs) f w → W P n ds c (fun f' w' => A xs f' w') Kx Kr f w)
    (hend : ∀ f w, A [] f w → W P n ds c (fun _ _ => False) Kx Kr f w) : W P n ds (.loop c) Kn Kx Kr f w := by
  intro a ha
  refine wpIn_loop_rounds (l.length + 1) ?_
  induction l generalizing f w a with
  | nil => exact rounds_of_W ha ((hend f w h0).mono (fun _ _ h => h.elim) (fun _ _ _ h => h) (fun _ _ h => h)) (fun i a w h => h) (fun a w h => h)
  | cons x xs ih =>
    refine rounds_of_W (Kx := Kx) (Kr := Kr) ha ((hround x xs f w h0).mono ?_ (fun _ _ _ h => h) (fun _ _ h => h)) (fun i a w h => h) (fun a w h => h)
    intro f' w' hA a' ha'
    exact ih hA a' ha'
end

end Go.Fw
