/-
  THE FRAMEWORK, PART W: a slice of flat values that the call owns, sorted in its place by slices.SortFunc; calls of which it is known how the world grows. No program in it.
-/
import Derived.Test.YtokfcbpfhojdkaaFwV
import Derived.Shelf.SlSortCmp.WholeK
import Derived.Shelf.SlSortCmp.NoneTotal
namespace Go.Fw
open Go.RowKit Go.Sort Go.Proofs
/-- The world has grown: draws, and blocks behind the others. -/
def GrewQ (w w' : World) : Prop := ∃ q os, w' = grow (w.drewN q) os
theorem GrewQ.refl (w : World) : GrewQ w w := ⟨0, #[], by simp [grow, World.drewN]⟩
theorem GrewQ.trans {a b c : World} (h : GrewQ a b) (h2 : GrewQ b c) : GrewQ a c := by
  obtain ⟨q, os, rfl⟩ := h
  obtain ⟨q', os', rfl⟩ := h2
  exact ⟨q + q', os ++ os', by simp [grow, World.drewN, Array.append_assoc, Nat.add_assoc]⟩
theorem GrewQ.alloc (w : World) (o : Obj) : GrewQ w (w.alloc o) := ⟨0, #[o], by rw [alloc_eq_grow]; rfl⟩
theorem grew_drawn {w1 : World} {d : Nat} (h : w1.drawn ≤ d) : GrewQ w1 { w1 with drawn := d } := ⟨d - w1.drawn, #[], by simp only [grow, World.drewN, Array.append_empty]; rw [show w1.drawn + (d - w1.drawn) = d by omega]⟩
theorem GrewQ.below {w w' : World} (h : GrewQ w w') : Go.RowKit.Below w.heap.size w w' := by
  obtain ⟨q, os, rfl⟩ := h
  refine ⟨rfl, rfl, rfl, ?_, fun k hk => ?_⟩
  · show w.heap.size ≤ (w.heap ++ os).size
    rw [Array.size_append]; omega
  · show (w.heap ++ os)[k]? = w.heap[k]?
    rw [Array.getElem?_append_left hk]
structure GInv (w0 w : World) (L : List Item) : Prop where
  inv : Inv w0 w L
  g : GrewQ w0 w
section
variable {w0 w w' : World} {L : List Item}
theorem GInv.start : GInv w w [] := ⟨Inv.start, GrewQ.refl w⟩
theorem GInv.cell (H : GInv w0 w L) (i : Nat) {b : Nat} {T : TypeId} {cs : List Value} (hi : L[i]? = some (boxI b T cs)) : ∀ j c, cs[j]? = some c → w.cell? ((Addr.mk b 0 none).add j) = some c := H.inv.cell i hi
end
section
variable {P : Program} {n : Nat} {ds : Md} {Kn : Fr → World → Prop} {Kx : Nat → Fr → World → Prop} {Kr : Fr → World → Prop} {f0 : Fr} {w1 : World}
theorem W.drawGr {rid : Nat} {l : List Oper} (m : Nat) (B : Fr → Prop) (hfol : P.follows .mixedOrders = true) (hchk : drawOkG n l m false [] = true)
    (h : PL P n ds l.toArray (fun _ w => GrewQ w1 w) (fun k => ([] : List Nat).contains k) 0 (l.take m) B f0) (hend : ∀ f w, B f → f.marks = f0.marks → GrewQ w1 w → WL P n ds l.toArray (l.drop m) Kn f w) :
    W P n ds (.region rid l.toArray true) Kn Kx Kr f0 w1 := by
  refine W.drawG m false [] (fun _ w => GrewQ w1 w) B hfol hchk (fun d hd => grew_drawn hd) h (fun h => by cases h) fun f w b hB hm hb hr => ?_
  cases b with
  | none => exact hend f w hB hm hr
  | some v => cases hb
end
section
variable {P : Program} {n : Nat} {ds : Md} {ops : Array Oper} {rest : List Oper} {K : Fr → World → Prop} {f : Fr} {Dq : Nat → Prop} {w w0 : World} {L : List Item} {T T0 : TypeId} {T' : TypeId} {pos : String} {aft : Array Edge} {g : Option (Nat × Bool)} {d : Nat}
theorem O.boxG {x : Operand} {v : Value} (cs : List Value) (H : GInv w0 w L) (hg : want ops g f = true) (hd : Nat.blt d n = true) (hx : ev f x = v) (hcs : v.cells = cs.toArray)
    (h : ∀ b w', GInv w0 w' (L ++ [boxI b T cs]) → Go.RowKit.Below w.heap.size w w' → WL P n ds ops rest K (upd f d (.pointer (some ⟨b, 0, none⟩))) w') : WL P n ds ops (⟨some d, .box T x, T0, pos, aft, g⟩ :: rest) K f w := by
  refine WL.val hg hd (w' := w.alloc (.cells cs.toArray T)) (v := .pointer (some ⟨w.heap.size, 0, none⟩)) ?_ (h w.heap.size _ ⟨H.inv.add (below_alloc _ _) _ ?_ ?_, H.g.trans (GrewQ.alloc _ _)⟩ (below_alloc _ _))
  · simp only [execOp, hx, Instr.box, newVar, hcs, Sem.run_bind, run_newRow, Result.andThen_ok, Sem.run_pure]
  · exact alloc_at _ _
  · exact alloc_fp _ _
end
/-! Sorting by a function. -/
theorem holds_ownK {w : World} {gb : Nat} {cur : Array Value} {E : TypeId} {ys : List Value} (hh : w.heap[gb]? = some (.cells cur E (0, 0))) (ht : cur.toList.take ys.length = ys) : Holds id w gb 0 ys.toArray := by
  intro j hj
  have hj' : j < ys.length := by simpa using hj
  constructor
  · have h1 : (cur.toList.take ys.length)[j]? = some ys[j] := by rw [ht, List.getElem?_eq_getElem hj']
    rw [List.getElem?_take, if_pos hj'] at h1
    rw [getElem!_pos _ j hj]
    simpa [World.cell?, hh] using h1
  · simp [World.frozen?, hh]
theorem putRow_heapK {w : World} {gb : Nat} {cur : Array Value} {E : TypeId} {ys : List Value} {cap : Nat} (hh : w.heap[gb]? = some (.cells cur E (0, 0))) (hc : cur.size = cap) (hl : ys.length ≤ cap) :
    ∃ cur' : Array Value, (putRow id w gb 0 ys.toArray).heap[gb]? = some (.cells cur' E (0, 0)) ∧ cur'.size = cap ∧ cur'.toList.take ys.length = ys := by
  refine ⟨putCells id 0 ys.toArray cur, ?_, by simp [putCells, hc], ?_⟩
  · simp [putRow, mapBlock, Array.getElem?_modify, hh, onCells]
  · refine List.ext_getElem? fun i => ?_
    rw [List.getElem?_take]
    split
    · rename_i hi
      simp only [putCells, Array.toList_mapIdx, List.getElem?_mapIdx]
      have hci : i < cur.toList.length := by simp; omega
      rw [List.getElem?_eq_getElem hci, List.getElem?_eq_getElem hi]
      simp [hi]
    · rename_i hi
      rw [List.getElem?_eq_none (by omega)]
theorem flatMap_get {α : Type} [Inhabited α] {c : α → List Value} {k : Nat} (hk : ∀ x, (c x).length = k) (hk0 : 0 < k) : ∀ (xs : List α) (t : Nat), t < xs.length * k → (xs.flatMap c)[t]? = some (c (xs.toArray[t / k]!))[t % k]!
  | [], t, h => by simp at h
  | x :: xs, t, h => by
    rw [List.length_cons] at h
    rw [List.flatMap_cons]
    by_cases ht : t < k
    · rw [List.getElem?_append_left (by rw [hk]; exact ht), Nat.div_eq_of_lt ht, Nat.mod_eq_of_lt ht]
      have : t < (c x).length := by rw [hk]; exact ht
      rw [List.getElem?_eq_getElem this]
      simp [this]
    · obtain ⟨s, rfl⟩ : ∃ s, t = s + k := ⟨t - k, by omega⟩
      have hs : s < xs.length * k := by rw [Nat.add_mul, Nat.one_mul] at h; omega
      rw [List.getElem?_append_right (by rw [hk]; omega), hk, Nat.add_sub_cancel, flatMap_get hk hk0 xs s hs, Nat.add_div_right _ hk0, Nat.add_mod_right]
      have hlt : s / k < xs.length := by rw [Nat.div_lt_iff_lt_mul hk0]; exact hs
      simp [hlt]
theorem flatK_eq {α : Type} [Inhabited α] [Flat α] (xs : List α) : flatK Flat.cells (Flat.size α) xs.toArray = (xs.flatMap Flat.cells).toArray := by
  have hk : ∀ x : α, (Flat.cells x).length = Flat.size α := fun x => Flat.len x
  have hlen : (xs.flatMap (Flat.cells (α := α))).length = xs.length * Flat.size α := flat_length xs
  refine Array.ext (by simp [hlen]) fun t h1 h2 => ?_
  have ht : t < xs.length * Flat.size α := by simpa using h1
  have h3 := get_flatK (Flat.cells (α := α)) (Flat.size α) xs.toArray t (by simpa using ht)
  rw [getElem!_pos _ t h1] at h3
  rw [h3]
  have h4 := flatMap_get hk Flat.pos xs t ht
  have h5 : t < (xs.flatMap (Flat.cells (α := α))).length := by rw [hlen]; exact ht
  rw [List.getElem?_eq_getElem h5] at h4
  simpa using (Option.some.inj h4).symm
/-- What a sort does to a row of flat values. -/
def SortsK (P : Program) (α : Type) [Flat α] (k : FuncId) (fv : Value) (srt : List α → List α) : Prop :=
  (∀ xs, (srt xs).length = xs.length) ∧ srt [] = [] ∧
  (∀ (blk off cap : Nat) (xs : List α) (w : World), Holds id w blk off (xs.flatMap Flat.cells).toArray → blk < w.heap.size → xs.length < 4611686018427387904 →
    Calls P k #[.slice (some ⟨blk, off, none⟩) xs.length cap, fv] w fun e w' => e = .returned (.tuple #[]) ∧ ∃ n os, w' = grow (putRow id (Sort.ahead w n) blk off ((srt xs).flatMap Flat.cells).toArray) os) ∧
  ∀ (p : Option Addr) (cap : Nat) (w : World), Calls P k #[.slice p 0 cap, fv] w fun e w' => e = .returned (.tuple #[]) ∧ w' = w
def srtI {α : Type} (srt : List α → List α) (xs : List α) : Option (List α) := if xs.length ≤ 1073741824 then some (srt xs) else none
def srtOf {α : Type} [Inhabited α] (cf : α → α → Int) (xs : List α) : List α := (pdq (ltOf cf) xs.toArray 0 xs.length (Lib.bitLen xs.length) true true).toList
section
variable {P : Program} {n : Nat} {ds : Md} {ops : Array Oper} {rest : List Oper} {K : Fr → World → Prop} {f : Fr} {Dq : Nat → Prop} {w w0 : World} {L : List Item} {T T0 : TypeId} {pos : String} {aft : Array Edge} {g : Option (Nat × Bool)} {d : Nat}
end
end Go.Fw
