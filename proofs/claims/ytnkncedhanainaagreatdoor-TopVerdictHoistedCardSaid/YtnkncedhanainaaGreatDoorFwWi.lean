/-
  THE FRAMEWORK, PART WI: a slice of ints that the call owns, sorted in its place by slices.SortFunc. No program in it.
-/
import Derived.Test.YtnkncedhanainaaGreatDoorFwW
import Derived.Shelf.SlSortCmp.Whole1
import Derived.ChangeKeysEq
namespace Go.Fw
open Go.RowKit Go.Sort Go.Proofs
theorem flatI_eq (xs : List Int) : (xs.flatMap (Flat.cells (α := Int))).toArray = (xs.map (Value.int .i64)).toArray := by
  congr 1
  induction xs with
  | nil => rfl
  | cons x xs ih => rw [List.flatMap_cons, List.map_cons, ih]; rfl
theorem mapI_get (xs : List Int) (j : Nat) (h : j < xs.length) : (xs.map (Value.int .i64)).toArray[j]! = Value.int .i64 xs.toArray[j]! := by
  rw [getElem!_pos _ j (by simpa using h), getElem!_pos _ j (by simpa using h)]
  simp
theorem sortsI_of {P : Program} {ρ : Go.Shelf.Ren} (L : SlLaysF.n6 P ρ) (L0 : SlLaysF0.n6 P ρ) (cf : Int → Int → Int) (hO : SWO (ltOf cf)) (g : Nat)
    (eg : ∀ args w, (callFunc g args).run P w = .ok (.enter g args) w) (hcmp : ∀ (x y : Int) (W : World), Calls P g #[.int .i64 x, .int .i64 y] W fun e w' => e = .returned (.int .i64 (cf x y)) ∧ GrewQ W w') :
    SortsK P Int (ρ.f 6) (.func (.func g) #[] #[]) (srtOf cf) := by
  have hl : ∀ xs, (srtOf cf xs).length = xs.length := fun xs => (srtOf_facts cf hO xs).1.length_eq
  refine ⟨hl, List.eq_nil_of_length_eq_zero (hl []), fun blk off cap xs w hH hblk hsz => ?_, fun p cap w => AnyF.slices_SortFunc_none L0 p cap _ w⟩
  rw [flatI_eq] at hH
  have hH' : Holds (Value.int .i64) w blk off xs.toArray := fun j hj => by
    have hj' : j < xs.length := by simpa using hj
    have := hH j (by simpa using hj')
    rw [mapI_get xs j hj'] at this
    exact this
  have h := Any.slices_SortFunc_eq L (Value.int .i64) (fun _ => rfl) cf hO g #[] blk off cap xs.toArray w eg (fun m os dk _ x y => hcmp x y _) hH' hblk (by simpa using hsz)
  refine (by simpa using h : Calls P (ρ.f 6) #[.slice (some ⟨blk, off, none⟩) xs.length cap, .func (.func g) #[] #[]] w _).mono ?_
  rintro e w' ⟨rfl, m, os, rfl⟩
  refine ⟨rfl, m, os, ?_⟩
  rw [flatI_eq]
  unfold sortWorld putRow
  congr 2
  funext c
  unfold putCells srtOf
  refine Array.ext (by simp) fun k h1 h2 => ?_
  simp only [Array.getElem_mapIdx, List.size_toArray, List.length_map, Array.length_toList]
  split
  · rename_i hk
    rw [mapI_get _ _ (by rw [Array.length_toList]; omega)]
    simp
  · rfl
end Go.Fw
