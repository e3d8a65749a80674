/-
  THE FRAMEWORK, PART W: a slice of flat values that the call owns, sorted in its place by slices.SortFunc; calls of which it is known how the world grows. No program in it.
-/
import Derived.Test.YtnkncedhanainaaGreatDoorFwV
import Derived.Shelf.SlSortCmp.WholeK
import Derived.Shelf.SlSortCmp.NoneTotal
namespace Go.Fw
open Go.RowKit Go.Sort Go.Proofs
/-- The world has grown: draws, and blocks behind the others. -/
def GrewQ (w w' : World) : Prop := ∃ q os, w' = grow (w.drewN q) os
theorem GrewQ.refl (w : World) : GrewQ w w := ⟨0, #[], by simp [grow, World.drewN]⟩
theorem GrewQ.trans {a b c : World} (h : GrewQ a b) (h2 : GrewQ b c) : GrewQ a c := by
  obtain ⟨q, os, rfl⟩ := h
  obtain ⟨q', os', rfl⟩ := h2
  exact ⟨q + q', os ++ os', by simp [grow, World.drewN, Array.append_assoc, Nat.add_assoc]⟩
theorem GrewQ.below {w w' : World} (h : GrewQ w w') : Go.RowKit.Below w.heap.size w w' := by
  obtain ⟨q, os, rfl⟩ := h
  refine ⟨rfl, rfl, rfl, ?_, fun k hk => ?_⟩
  · show w.heap.size ≤ (w.heap ++ os).size
    rw [Array.size_append]; omega
  · show (w.heap ++ os)[k]? = w.heap[k]?
    rw [Array.getElem?_append_left hk]
structure GInv (w0 w : World) (L : List Item) : Prop where
  inv : Inv w0 w L
  g : GrewQ w0 w
section
variable {w0 w w' : World} {L : List Item}
theorem GInv.start : GInv w w [] := ⟨Inv.start, GrewQ.refl w⟩
theorem GInv.base (H : GInv w0 w L) : Go.RowKit.Below w0.heap.size w0 w := H.inv.base
theorem GInv.ext (H : GInv w0 w L) (hg : GrewQ w w') : GInv w0 w' L := ⟨H.inv.ext hg.below, H.g.trans hg⟩
end
section
variable {P : Program} {n : Nat} {ds : Md} {Kn : Fr → World → Prop} {Kx : Nat → Fr → World → Prop} {Kr : Fr → World → Prop} {f0 : Fr} {w1 : World}
end
section
variable {P : Program} {n : Nat} {ds : Md} {ops : Array Oper} {rest : List Oper} {K : Fr → World → Prop} {f : Fr} {Dq : Nat → Prop} {w w0 : World} {L : List Item} {T T0 : TypeId} {T' : TypeId} {pos : String} {aft : Array Edge} {g : Option (Nat × Bool)} {d : Nat}
end
/-! Sorting by a function. -/
theorem holds_ownK {w : World} {gb : Nat} {cur : Array Value} {E : TypeId} {ys : List Value} (hh : w.heap[gb]? = some (.cells cur E (0, 0))) (ht : cur.toList.take ys.length = ys) : Holds id w gb 0 ys.toArray := by
  intro j hj
  have hj' : j < ys.length := by simpa using hj
  constructor
  · have h1 : (cur.toList.take ys.length)[j]? = some ys[j] := by rw [ht, List.getElem?_eq_getElem hj']
    rw [List.getElem?_take, if_pos hj'] at h1
    rw [getElem!_pos _ j hj]
    simpa [World.cell?, hh] using h1
  · simp [World.frozen?, hh]
theorem putRow_heapK {w : World} {gb : Nat} {cur : Array Value} {E : TypeId} {ys : List Value} {cap : Nat} (hh : w.heap[gb]? = some (.cells cur E (0, 0))) (hc : cur.size = cap) (hl : ys.length ≤ cap) :
    ∃ cur' : Array Value, (putRow id w gb 0 ys.toArray).heap[gb]? = some (.cells cur' E (0, 0)) ∧ cur'.size = cap ∧ cur'.toList.take ys.length = ys := by
  refine ⟨putCells id 0 ys.toArray cur, ?_, by simp [putCells, hc], ?_⟩
  · simp [putRow, mapBlock, Array.getElem?_modify, hh, onCells]
  · refine List.ext_getElem? fun i => ?_
    rw [List.getElem?_take]
    split
    · rename_i hi
      simp only [putCells, Array.toList_mapIdx, List.getElem?_mapIdx]
      have hci : i < cur.toList.length := by simp; omega
      rw [List.getElem?_eq_getElem hci, List.getElem?_eq_getElem hi]
      simp [hi]
    · rename_i hi
      rw [List.getElem?_eq_none (by omega)]
/-- What a sort does to a row of flat values. -/
def SortsK (P : Program) (α : Type) [Flat α] (k : FuncId) (fv : Value) (srt : List α → List α) : Prop :=
  (∀ xs, (srt xs).length = xs.length) ∧ srt [] = [] ∧
  (∀ (blk off cap : Nat) (xs : List α) (w : World), Holds id w blk off (xs.flatMap Flat.cells).toArray → blk < w.heap.size → xs.length < 4611686018427387904 →
    Calls P k #[.slice (some ⟨blk, off, none⟩) xs.length cap, fv] w fun e w' => e = .returned (.tuple #[]) ∧ ∃ n os, w' = grow (putRow id (Sort.ahead w n) blk off ((srt xs).flatMap Flat.cells).toArray) os) ∧
  ∀ (p : Option Addr) (cap : Nat) (w : World), Calls P k #[.slice p 0 cap, fv] w fun e w' => e = .returned (.tuple #[]) ∧ w' = w
def srtI {α : Type} (srt : List α → List α) (xs : List α) : Option (List α) := if xs.length ≤ 1073741824 then some (srt xs) else none
theorem srtI_some {α : Type} {srt : List α → List α} {xs ys : List α} (h : srtI srt xs = some ys) : xs.length ≤ 1073741824 ∧ srt xs = ys := by
  unfold srtI at h
  split at h
  · rename_i hl; exact ⟨hl, Option.some.inj h⟩
  · cases h
def srtOf {α : Type} [Inhabited α] (cf : α → α → Int) (xs : List α) : List α := (pdq (ltOf cf) xs.toArray 0 xs.length (Lib.bitLen xs.length) true true).toList
theorem srtOf_facts {α : Type} [Inhabited α] (cf : α → α → Int) (hO : SWO (ltOf cf)) (xs : List α) : (srtOf cf xs).Perm xs ∧ SortedIn (ltOf cf) 0 xs.length (srtOf cf xs).toArray := by
  have h := pdq_sorts (ltOf cf) hO xs.toArray 0 xs.length (Lib.bitLen xs.length) true true (Nat.zero_le _) (by simp) (Or.inl rfl)
  obtain ⟨⟨h1, _, h3⟩, h4⟩ := h
  have hs : (pdq (ltOf cf) xs.toArray 0 xs.length (Lib.bitLen xs.length) true true).size = xs.length := by simpa using h1
  constructor
  · unfold srtOf
    rw [Array.extract_eq_self_of_le (by omega)] at h3
    simpa using h3
  · exact h4
section
variable {P : Program} {n : Nat} {ds : Md} {ops : Array Oper} {rest : List Oper} {K : Fr → World → Prop} {f : Fr} {Dq : Nat → Prop} {w w0 : World} {L : List Item} {T T0 : TypeId} {pos : String} {aft : Array Edge} {g : Option (Nat × Bool)} {d : Nat}
theorem sortK_run {α : Type} [Flat α] {k : FuncId} {fv : Value} {srt : List α → List α} (i : Nat) (H : InvD Dq w0 w L) {v : Value} {E : TypeId} {xs : List α} (hi : L[i]? = some (ownI v E xs)) (hs : SortsK P α k fv srt) (hlen : xs.length ≤ 1073741824) :
    Calls P k #[v, fv] w fun e w' => ∃ u, e = .returned u ∧ u = .tuple #[] ∧ InvD Dq w0 w' (L.set i (ownI v E (srt xs))) := by
  obtain ⟨hok, hfp⟩ := H.items _ (List.mem_of_getElem? hi)
  have hown : w.ownsRow 0 E (Flat.size α) v xs.length (xs.flatMap Flat.cells) := hok
  have hml : (srt xs).length = xs.length := hs.1 xs
  have hfl : ((srt xs).flatMap (Flat.cells (α := α))).length = xs.length * Flat.size α := by rw [flat_length, hml]
  have hfx : (xs.flatMap (Flat.cells (α := α))).length = xs.length * Flat.size α := flat_length xs
  obtain ⟨_, ⟨rfl, hn⟩ | ⟨gb, cap, cur, rfl, hgb, hh, hnc, hcm, hcs, htake⟩⟩ := hown
  · obtain rfl := List.eq_nil_of_length_eq_zero hn
    refine (hs.2.2.2 none 0 w).mono ?_
    rintro e w' ⟨rfl, rfl⟩
    refine ⟨_, rfl, rfl, ?_⟩
    have : L.set i (ownI (.slice none 0 0) E (srt [])) = L := by
      rw [hs.2.1]
      obtain ⟨h1, h2⟩ := List.getElem?_eq_some_iff.1 hi
      rw [← h2]
      exact List.set_getElem_self h1
    rw [this]
    exact H
  · have hlt := heap_lt hh
    have hpos : 0 < Flat.size α := Flat.pos
    have hle : xs.length * Flat.size α ≤ cap * Flat.size α := Nat.mul_le_mul_right _ hnc
    refine (hs.2.2.1 gb 0 cap xs w (holds_ownK hh (by rw [hfx]; exact htake)) hlt (by omega)).mono ?_
    rintro e w' ⟨rfl, m, os, rfl⟩
    refine ⟨_, rfl, rfl, ?_⟩
    have hha : (Sort.ahead w m).heap[gb]? = some (.cells cur E (0, 0)) := hh
    obtain ⟨cur', h1, h2, h3⟩ := putRow_heapK (ys := (srt xs).flatMap Flat.cells) hha hcs (by omega)
    have hsz : (putRow id (Sort.ahead w m) gb 0 ((srt xs).flatMap Flat.cells).toArray).heap.size = w.heap.size := by rw [Go.Sort.size_putRow]; rfl
    have hnew : (grow (putRow id (Sort.ahead w m) gb 0 ((srt xs).flatMap Flat.cells).toArray) os).heap[gb]? = some (.cells cur' E (0, 0)) := by
      show (_ ++ os)[gb]? = _
      rw [Array.getElem?_append_left (by omega)]
      exact h1
    refine H.upd i _ _ hi ⟨rfl, rfl, rfl, by rw [size_grow]; omega, fun j hj hne => ?_⟩ ⟨?_, .inr ⟨gb, cap, cur', by rw [hml], hgb, hnew, by omega, hcm, h2, by rw [hml, ← hfl]; exact h3⟩⟩ (fun b hb => ⟨?_, .inl hb⟩)
    · show (_ ++ os)[j]? = _
      rw [Array.getElem?_append_left (by omega)]
      have hj2 : gb ≠ j := fun e => hne (by subst e; rfl)
      simp [putRow, mapBlock, Array.getElem?_modify, hj2]
    · exact flat_length (srt xs)
    · have := (hfp b hb).2
      rw [size_grow]; omega
theorem O.sortK {α : Type} [Flat α] {k : FuncId} {fv : Value} {srt : List α → List α} {x y : Operand} {at_ : Array TypeId} {v : Value} {E : TypeId} {xs ys : List α} (i : Nat) (H : InvD Dq w0 w L) (hi : L[i]? = some (ownI v E xs)) (hs : SortsK P α k fv srt) (ht : srtI srt xs = some ys) (hcb : Callable P k)
    (hg : want ops g f = true) (hd : Nat.blt d n = true) (hx : ev f x = v) (hy : ev f y = fv) (h : ∀ w', InvD Dq w0 w' (L.set i (ownI v E ys)) → WL P n ds ops rest K (upd f d (.tuple #[])) w') :
    WL P n ds ops (⟨some d, .call ⟨.value (.func k), #[x, y], at_⟩, T0, pos, aft, g⟩ :: rest) K f w := by
  obtain ⟨hlen, rfl⟩ := srtI_some ht
  refine WL.enter hg hd (k := k) (args := #[v, fv]) ?_ ((sortK_run i H hi hs hlen).mono ?_)
  · simp only [execOp, resolve, ev, Deferred.ofValue, List.map_toArray, Sem.run_bind, Sem.run_pure, Result.andThen_ok, invoke]
    simpa [hx, hy] using hcb _ _
  · rintro e w' ⟨u, rfl, rfl, hI⟩
    exact ⟨_, rfl, h w' hI⟩
end
end Go.Fw
