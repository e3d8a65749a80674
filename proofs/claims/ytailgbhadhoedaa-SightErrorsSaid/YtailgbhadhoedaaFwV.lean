/-
  THE FRAMEWORK, PART V: a slice that the call owns, sorted in its place by the library. No program in it.
-/
import Derived.Test.YtailgbhadhoedaaFwU
import Derived.Sort.Row
import Derived.Sort.Grow
namespace Go.Fw
open Go.RowKit Go.Sort
def leI' (x y : Int) : Bool := decide (x ≤ y)
/-- What slices.Sort does to ints. -/
def SortsI (P : Program) (k : FuncId) : Prop :=
  (∀ (blk off cap : Nat) (zs : List Int) (w : World), Holds (Value.int .i64) w blk off zs.toArray → blk < w.heap.size → zs.length < 4611686018427387904 →
    Calls P k #[.slice (some ⟨blk, off, none⟩) zs.length cap] w fun e w' => e = .returned (.tuple #[]) ∧ ∃ n os, w' = grow (putRow (Value.int .i64) (Sort.ahead w n) blk off (zs.mergeSort fun x y => decide (x ≤ y)).toArray) os) ∧
  ∀ (p : Option Addr) (cap : Nat) (w : World), Calls P k #[.slice p 0 cap] w fun e w' => e = .returned (.tuple #[]) ∧ w' = w
theorem holds_own {w : World} {gb : Nat} {cur : Array Value} {E : TypeId} {xs : List Int} (hh : w.heap[gb]? = some (.cells cur E (0, 0))) (ht : cur.toList.take xs.length = xs.map (Value.int .i64)) : Holds (Value.int .i64) w gb 0 xs.toArray := by
  intro j hj
  have hj' : j < xs.length := by simpa using hj
  constructor
  · have h1 : (cur.toList.take xs.length)[j]? = some (.int .i64 xs[j]) := by rw [ht, List.getElem?_map, List.getElem?_eq_getElem hj']; rfl
    rw [List.getElem?_take, if_pos hj'] at h1
    rw [getElem!_pos _ j hj]
    simpa [World.cell?, hh] using h1
  · simp [World.frozen?, hh]
theorem putRow_heap {w : World} {gb : Nat} {cur : Array Value} {E : TypeId} {ys : List Int} {cap : Nat} (hh : w.heap[gb]? = some (.cells cur E (0, 0))) (hc : cur.size = cap) (hl : ys.length ≤ cap) :
    ∃ cur' : Array Value, (putRow (Value.int .i64) w gb 0 ys.toArray).heap[gb]? = some (.cells cur' E (0, 0)) ∧ cur'.size = cap ∧ cur'.toList.take ys.length = ys.map (Value.int .i64) := by
  refine ⟨putCells (Value.int .i64) 0 ys.toArray cur, ?_, by simp [putCells, hc], ?_⟩
  · simp [putRow, mapBlock, Array.getElem?_modify, hh, onCells]
  · refine List.ext_getElem? fun i => ?_
    rw [List.getElem?_take]
    split
    · rename_i hi
      rw [List.getElem?_map, List.getElem?_eq_getElem hi]
      simp only [putCells, Array.toList_mapIdx, List.getElem?_mapIdx, Option.map_some]
      have hci : i < cur.toList.length := by simp; omega
      rw [List.getElem?_eq_getElem hci]
      simp [hi]
    · rename_i hi
      rw [List.getElem?_eq_none (by simp; omega)]
section
variable {P : Program} {n : Nat} {ds : Md} {ops : Array Oper} {rest : List Oper} {K : Fr → World → Prop} {f : Fr} {Dq : Nat → Prop} {w w0 : World} {L : List Item} {T T0 : TypeId} {pos : String} {aft : Array Edge} {g : Option (Nat × Bool)} {d : Nat}
theorem sort_run {k : FuncId} (i : Nat) (H : InvD Dq w0 w L) {v : Value} {E : TypeId} {xs : List Int} (hi : L[i]? = some (ownI v E xs)) (hs : SortsI P k) (hlen : xs.length < 4611686018427387904) :
    Calls P k #[v] w fun e w' => ∃ u, e = .returned u ∧ u = .tuple #[] ∧ InvD Dq w0 w' (L.set i (ownI v E (xs.mergeSort fun x y => decide (x ≤ y)))) := by
  obtain ⟨hok, hfp⟩ := H.items _ (List.mem_of_getElem? hi)
  have hown : w.ownsRow 0 E (Flat.size Int) v xs.length (xs.flatMap Flat.cells) := hok
  have hmap : ∀ l : List Int, l.flatMap Flat.cells = l.map (Value.int .i64) := by
    intro l
    induction l with
    | nil => rfl
    | cons a l ih => rw [List.flatMap_cons, ih]; rfl
  have hml : (xs.mergeSort fun x y => decide (x ≤ y)).length = xs.length := List.length_mergeSort _
  obtain ⟨_, ⟨rfl, hn⟩ | ⟨gb, cap, cur, rfl, hgb, hh, hnc, hcm, hcs, htake⟩⟩ := hown
  · obtain rfl := List.eq_nil_of_length_eq_zero hn
    refine (hs.2 none 0 w).mono ?_
    rintro e w' ⟨rfl, rfl⟩
    refine ⟨_, rfl, rfl, ?_⟩
    have : L.set i (ownI (.slice none 0 0) E (([] : List Int).mergeSort fun x y => decide (x ≤ y))) = L := by
      rw [List.mergeSort_nil]
      obtain ⟨h1, h2⟩ := List.getElem?_eq_some_iff.1 hi
      rw [← h2]
      exact List.set_getElem_self h1
    rw [this]
    exact H
  · have hsz1 : Flat.size Int = 1 := rfl
    rw [hsz1, Nat.mul_one] at hcs htake
    rw [hmap] at htake
    have hlt := heap_lt hh
    refine (hs.1 gb 0 cap xs w (holds_own hh htake) hlt hlen).mono ?_
    rintro e w' ⟨rfl, m, os, rfl⟩
    refine ⟨_, rfl, rfl, ?_⟩
    have hha : (Sort.ahead w m).heap[gb]? = some (.cells cur E (0, 0)) := hh
    obtain ⟨cur', h1, h2, h3⟩ := putRow_heap (ys := xs.mergeSort fun x y => decide (x ≤ y)) hha hcs (by omega)
    have hsz : (putRow (Value.int .i64) (Sort.ahead w m) gb 0 (xs.mergeSort fun x y => decide (x ≤ y)).toArray).heap.size = w.heap.size := by rw [size_putRow]; rfl
    have hnew : (grow (putRow (Value.int .i64) (Sort.ahead w m) gb 0 (xs.mergeSort fun x y => decide (x ≤ y)).toArray) os).heap[gb]? = some (.cells cur' E (0, 0)) := by
      show (_ ++ os)[gb]? = _
      rw [Array.getElem?_append_left (by omega)]
      exact h1
    refine H.upd i _ _ hi ⟨rfl, rfl, rfl, by rw [size_grow]; omega, fun j hj hne => ?_⟩ ⟨?_, .inr ⟨gb, cap, cur', by rw [hml], hgb, hnew, by omega, hcm, by rw [hsz1, Nat.mul_one]; exact h2, by rw [hsz1, Nat.mul_one, hmap]; exact h3⟩⟩ (fun b hb => ⟨?_, .inl hb⟩)
    · show (_ ++ os)[j]? = _
      rw [Array.getElem?_append_left (by omega)]
      have hj2 : gb ≠ j := fun e => hne (by subst e; rfl)
      simp [putRow, mapBlock, Array.getElem?_modify, hj2]
    · rw [hmap, hsz1, Nat.mul_one, List.length_map]
    · have := (hfp b hb).2
      rw [size_grow]; omega
theorem O.sortI {k : FuncId} {x : Operand} {at_ : Array TypeId} {v : Value} {E : TypeId} {xs : List Int} (i : Nat) (H : InvD Dq w0 w L) (hi : L[i]? = some (ownI v E xs)) (hs : SortsI P k) (hcb : Callable P k) (hlen : xs.length < 4611686018427387904)
    (hg : want ops g f = true) (hd : Nat.blt d n = true) (hx : ev f x = v) (h : ∀ w', InvD Dq w0 w' (L.set i (ownI v E (xs.mergeSort fun x y => decide (x ≤ y)))) → WL P n ds ops rest K (upd f d (.tuple #[])) w') :
    WL P n ds ops (⟨some d, .call ⟨.value (.func k), #[x], at_⟩, T0, pos, aft, g⟩ :: rest) K f w := by
  refine WL.enter hg hd (k := k) (args := #[v]) ?_ ((sort_run i H hi hs hlen).mono ?_)
  · simp only [execOp, resolve, ev, Deferred.ofValue, List.map_toArray, Sem.run_bind, Sem.run_pure, Result.andThen_ok, invoke]
    simpa [hx] using hcb _ _
  · rintro e w' ⟨u, rfl, rfl, hI⟩
    exact ⟨_, rfl, h w' hI⟩
end
end Go.Fw
