/-
  THE FRAMEWORK, PART V: a slice that the call owns, sorted in its place by the library. No program in it.
-/
import Derived.Test.YtmoofcflfbnceaaGreatDoorFwU
import Derived.Sort.Row
import Derived.Sort.Grow
namespace Go.Fw
open Go.RowKit Go.Sort
def leI' (x y : Int) : Bool := decide (x ≤ y)
def SortsI (P : Program) (k : FuncId) : Prop :=
  (∀ (blk off cap : Nat) (zs : List Int) (w : World), Holds (Value.int .i64) w blk off zs.toArray → blk < w.heap.size → zs.length < 4611686018427387904 →
    Calls P k #[.slice (some ⟨blk, off, none⟩) zs.length cap] w fun e w' => e = .returned (.tuple #[]) ∧ ∃ n os, w' = grow (putRow (Value.int .i64) (Sort.ahead w n) blk off (zs.mergeSort fun x y => decide (x ≤ y)).toArray) os) ∧
  ∀ (p : Option Addr) (cap : Nat) (w : World), Calls P k #[.slice p 0 cap] w fun e w' => e = .returned (.tuple #[]) ∧ w' = w
theorem holds_own {w : World} {gb : Nat} {cur : Array Value} {E : TypeId} {xs : List Int} (hh : w.heap[gb]? = some (.cells cur E (0, 0))) (ht : cur.toList.take xs.length = xs.map (Value.int .i64)) : Holds (Value.int .i64) w gb 0 xs.toArray := by
  intro j hj
  have hj' : j < xs.length := by simpa using hj
  constructor
  · have h1 : (cur.toList.take xs.length)[j]? = some (.int .i64 xs[j]) := by rw [ht, List.getElem?_map, List.getElem?_eq_getElem hj']; rfl
    rw [List.getElem?_take, if_pos hj'] at h1
    rw [getElem!_pos _ j hj]
    simpa [World.cell?, hh] using h1
  · simp [World.frozen?, hh]
theorem putRow_heap {w : World} {gb : Nat} {cur : Array Value} {E : TypeId} {ys : List Int} {cap : Nat} (hh : w.heap[gb]? = some (.cells cur E (0, 0))) (hc : cur.size = cap) (hl : ys.length ≤ cap) :
    ∃ cur' : Array Value, (putRow (Value.int .i64) w gb 0 ys.toArray).heap[gb]? = some (.cells cur' E (0, 0)) ∧ cur'.size = cap ∧ cur'.toList.take ys.length = ys.map (Value.int .i64) := by
  refine ⟨putCells (Value.int .i64) 0 ys.toArray cur, ?_, by simp [putCells, hc], ?_⟩
  · simp [putRow, mapBlock, Array.getElem?_modify, hh, onCells]
  · refine List.ext_getElem? fun i => ?_
    rw [List.getElem?_take]
    split
    · rename_i hi
      rw [List.getElem?_map, List.getElem?_eq_getElem hi]
      simp only [putCells, Array.toList_mapIdx, List.getElem?_mapIdx, Option.map_some]
      have hci : i < cur.toList.length := by simp; omega
      rw [List.getElem?_eq_getElem hci]
      simp [hi]
    · rename_i hi
      rw [List.getElem?_eq_none (by simp; omega)]
section
variable {P : Program} {n : Nat} {ds : Md} {ops : Array Oper} {rest : List Oper} {K : Fr → World → Prop} {f : Fr} {Dq : Nat → Prop} {w w0 : World} {L : List Item} {T T0 : TypeId} {pos : String} {aft : Array Edge} {g : Option (Nat × Bool)} {d : Nat}
end
end Go.Fw
