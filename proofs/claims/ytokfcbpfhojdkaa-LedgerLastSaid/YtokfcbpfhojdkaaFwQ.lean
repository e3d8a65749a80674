/-
  THE FRAMEWORK, PART Q: loops over functions in step with a model that ranges over a list; the marks that they leave. No program in it.
-/
import Derived.Test.YtokfcbpfhojdkaaFwP
namespace Go.Fw
open Go.RowKit

def marksI (l : List Nat) : Item := ⟨fun b => b ∈ l, fun w => l.Nodup ∧ ∀ D ∈ l, w.heap[D]? = some (.deferred (some [])), fun _ _ _ hs h => ⟨h.1, fun D hD => (hs D hD).trans (h.2 D hD)⟩⟩
section
variable {P : Program} {w w0 : World} {L : List Item} {X : Nat → Prop}
/-- Some of the items, in any order. -/
theorem InvD.pick (H : InvD X w0 w L) (l : List Nat) (L' : List Item) (hl : l.map (fun i => L[i]?) = L'.map some) (hs : l.Nodup) : InvD X w0 w L' := by
  have hlen : l.length = L'.length := by simpa using congrArg List.length hl
  have key : ∀ j (h : j < L'.length), ∃ h1 : j < l.length, L[l[j]]? = some L'[j] := by
    intro j h
    have h1 : j < l.length := by omega
    refine ⟨h1, ?_⟩
    have := congrArg (fun (x : List (Option Item)) => x[j]?) hl
    simpa [List.getElem?_map, List.getElem?_eq_getElem h1, List.getElem?_eq_getElem h] using this
  refine ⟨H.baseX, fun it hi => ?_, List.pairwise_iff_getElem.2 fun i j hi hj hij b hb hb' => ?_⟩
  · obtain ⟨j, hj, rfl⟩ := List.mem_iff_getElem.1 hi
    obtain ⟨_, h2⟩ := key j hj
    exact H.items _ (List.mem_of_getElem? h2)
  · obtain ⟨h1, h2⟩ := key i hi
    obtain ⟨h3, h4⟩ := key j hj
    have hne : l[i] ≠ l[j] := fun e => by
      have := (List.getElem_inj (h₀ := h1) (h₁ := h3) hs).1 e
      omega
    obtain ⟨g1, e1⟩ := List.getElem?_eq_some_iff.1 h2
    obtain ⟨g2, e2⟩ := List.getElem?_eq_some_iff.1 h4
    have hp := List.pairwise_iff_getElem.1 H.apart
    rcases Nat.lt_or_gt_of_ne hne with h | h
    · have := hp _ _ g1 g2 h b
      rw [e1, e2] at this
      exact this hb hb'
    · have := hp _ _ g2 g1 h b
      rw [e1, e2] at this
      exact this hb' hb
end

theorem one_nil : ∀ v ∈ ([] : List Value), v.oneCell' = true := fun _ h => nomatch h
theorem one_cons {a : Value} {l : List Value} (h : a.oneCell' = true) (h' : ∀ v ∈ l, v.oneCell' = true) : ∀ v ∈ a :: l, v.oneCell' = true := fun v hv => by
  rcases List.mem_cons.1 hv with rfl | hv
  · exact h
  · exact h' v hv
/-- The opposite of a word of 64 bits, as Go has it. -/
def negW (a : Int) : Int := IntKind.i64.wrap (0 - a)
/-- Elements that are flat, one at a time. -/
def repF {α : Type} [Flat α] (_ : World) (a : α) (vs : List Value) : Prop := vs = [Flat.val a]
/-- Slices, one at a time. -/
def repS {α : Type} [Ty α] (w : World) (a : List α) (vs : List Value) : Prop := ∃ v, vs = [v] ∧ SliceR w v a

section
variable {P : Program} {n : Nat} {Kn : Fr → World → Prop} {Kx : Nat → Fr → World → Prop} {Kr : Fr → World → Prop} {f : Fr} {w w0 : World} {L : List Item} {ms : List Nat}
/-- A loop in step with a list. -/
theorem W.loopL {α : Type} {c : Code} {l : List α} {ds : Md} (A : List α → Fr → World → Prop) (h0 : A l f w) (hround : ∀ x xs f w, A (x :: xs) f w → W P n ds c (fun f' w' => A xs f' w') Kx Kr f w)
    (hend : ∀ f w, A [] f w → W P n ds c (fun _ _ => False) Kx Kr f w) : W P n ds (.loop c) Kn Kx Kr f w := by
  intro a ha
  refine wpIn_loop_rounds (l.length + 1) ?_
  induction l generalizing f w a with
  | nil => exact rounds_of_W ha ((hend f w h0).mono (fun _ _ h => h.elim) (fun _ _ _ h => h) (fun _ _ h => h)) (fun i a w h => h) (fun a w h => h) (fun _ _ _ h => h)
  | cons x xs ih =>
    refine rounds_of_W (Kx := Kx) (Kr := Kr) ha ((hround x xs f w h0).mono ?_ (fun _ _ _ h => h) (fun _ _ h => h)) (fun i a w h => h) (fun a w h => h) (fun _ _ _ h => h)
    intro f' w' hA a' ha'
    exact ih hA a' ha'
end

end Go.Fw
