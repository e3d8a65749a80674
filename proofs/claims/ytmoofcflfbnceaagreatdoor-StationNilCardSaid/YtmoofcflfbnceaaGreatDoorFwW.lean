/-
  THE FRAMEWORK, PART W: a slice of flat values that the call owns, sorted in its place by slices.SortFunc; calls of which it is known how the world grows. No program in it.
-/
import Derived.Test.YtmoofcflfbnceaaGreatDoorFwV
import Derived.Shelf.SlSortCmp.WholeK
import Derived.Shelf.SlSortCmp.NoneTotal
namespace Go.Fw
open Go.RowKit Go.Sort Go.Proofs
def GrewQ (w w' : World) : Prop := ∃ q os, w' = grow (w.drewN q) os
theorem GrewQ.refl (w : World) : GrewQ w w := ⟨0, #[], by simp [grow, World.drewN]⟩
theorem GrewQ.trans {a b c : World} (h : GrewQ a b) (h2 : GrewQ b c) : GrewQ a c := by
  obtain ⟨q, os, rfl⟩ := h
  obtain ⟨q', os', rfl⟩ := h2
  exact ⟨q + q', os ++ os', by simp [grow, World.drewN, Array.append_assoc, Nat.add_assoc]⟩
theorem GrewQ.alloc (w : World) (o : Obj) : GrewQ w (w.alloc o) := ⟨0, #[o], by rw [alloc_eq_grow]; rfl⟩
theorem GrewQ.below {w w' : World} (h : GrewQ w w') : Go.RowKit.Below w.heap.size w w' := by
  obtain ⟨q, os, rfl⟩ := h
  refine ⟨rfl, rfl, rfl, ?_, fun k hk => ?_⟩
  · show w.heap.size ≤ (w.heap ++ os).size
    rw [Array.size_append]; omega
  · show (w.heap ++ os)[k]? = w.heap[k]?
    rw [Array.getElem?_append_left hk]
structure GInv (w0 w : World) (L : List Item) : Prop where
  inv : Inv w0 w L
  g : GrewQ w0 w
section
variable {w0 w w' : World} {L : List Item}
theorem GInv.start : GInv w w [] := ⟨Inv.start, GrewQ.refl w⟩
theorem GInv.base (H : GInv w0 w L) : Go.RowKit.Below w0.heap.size w0 w := H.inv.base
theorem GInv.arg {α : Type} [Ty α] (H : GInv w0 w L) {v : Value} {xs : List α} (h : SliceR w0 v xs) : SliceR w v xs := H.inv.arg h
theorem GInv.cell (H : GInv w0 w L) (i : Nat) {b : Nat} {T : TypeId} {cs : List Value} (hi : L[i]? = some (boxI b T cs)) : ∀ j c, cs[j]? = some c → w.cell? ((Addr.mk b 0 none).add j) = some c := H.inv.cell i hi
theorem GInv.own {α : Type} [Flat α] (H : GInv w0 w L) (i : Nat) {v : Value} {E : TypeId} {xs : List α} (hi : L[i]? = some (ownI v E xs)) : SliceR w v xs := H.inv.own i hi
theorem GInv.ext (H : GInv w0 w L) (hg : GrewQ w w') : GInv w0 w' L := ⟨H.inv.ext hg.below, H.g.trans hg⟩
end
section
variable {P : Program} {n : Nat} {ds : Md} {Kn : Fr → World → Prop} {Kx : Nat → Fr → World → Prop} {Kr : Fr → World → Prop} {f0 : Fr} {w1 : World}
end
section
variable {P : Program} {n : Nat} {ds : Md} {ops : Array Oper} {rest : List Oper} {K : Fr → World → Prop} {f : Fr} {Dq : Nat → Prop} {w w0 : World} {L : List Item} {T T0 : TypeId} {T' : TypeId} {pos : String} {aft : Array Edge} {g : Option (Nat × Bool)} {d : Nat}
theorem O.boxG {x : Operand} {v : Value} (cs : List Value) (H : GInv w0 w L) (hg : want ops g f = true) (hd : Nat.blt d n = true) (hx : ev f x = v) (hcs : v.cells = cs.toArray)
    (h : ∀ b w', GInv w0 w' (L ++ [boxI b T cs]) → Go.RowKit.Below w.heap.size w w' → WL P n ds ops rest K (upd f d (.pointer (some ⟨b, 0, none⟩))) w') : WL P n ds ops (⟨some d, .box T x, T0, pos, aft, g⟩ :: rest) K f w := by
  refine WL.val hg hd (w' := w.alloc (.cells cs.toArray T)) (v := .pointer (some ⟨w.heap.size, 0, none⟩)) ?_ (h w.heap.size _ ⟨H.inv.add (below_alloc _ _) _ ?_ ?_, H.g.trans (GrewQ.alloc _ _)⟩ (below_alloc _ _))
  · simp only [execOp, hx, Instr.box, newVar, hcs, Sem.run_bind, run_newRow, Result.andThen_ok, Sem.run_pure]
  · exact alloc_at _ _
  · exact alloc_fp _ _
theorem O.buildSliceG {α : Type} [Flat α] {E bytes : Nat} {k : Nat} {ps : List (Nat × Operand)} (vs : List Value) (xs : List α) (hT : P.underlying T = some (.slice E)) (hE : ElemT P E (Flat.size α) bytes) (H : GInv w0 w L)
    (hg : want ops g f = true) (hd : Nat.blt d n = true) (hps : ps.map (fun p => (p.1, ev f p.2)) = enumV 0 vs) (hk : vs.length = k) (hcells : vs.map (fun v => v.cells.toList) = xs.map Flat.cells) (hlen : xs.length = k)
    (hsmall : Nat.ble (k * Flat.size α) 16777216 = true)
    (h : ∀ v w', GInv w0 w' (L ++ [ownI v E xs]) → Go.RowKit.Below w.heap.size w w' → WL P n ds ops rest K (upd f d v) w') : WL P n ds ops (⟨some d, .buildSlice T k ps.toArray, T0, pos, aft, g⟩ :: rest) K f w := by
  subst hk
  have hsm := Nat.le_of_ble_eq_true hsmall
  have hrun := run_buildSlice (w := w) hT hE hcells hsm
  refine WL.val hg hd (w' := w.alloc (.cells (xs.flatMap Flat.cells).toArray E)) (v := .slice (some ⟨w.heap.size, 0, none⟩) vs.length vs.length) ?_ (h _ _ ⟨H.inv.addOwn (below_alloc _ _) ?_, H.g.trans (GrewQ.alloc _ _)⟩ (below_alloc _ _))
  · simp only [execOp, List.map_toArray]
    rw [show (ps.map fun x => (x.1, ev f x.2)) = enumV 0 vs from hps]
    simp only [Sem.run_bind, hrun, Result.andThen_ok, Sem.run_pure]
  · have hml : vs.length ≤ maxLen := by
      have : vs.length * 1 ≤ vs.length * Flat.size α := Nat.mul_le_mul_left _ (Flat.pos (α := α))
      unfold maxLen; omega
    refine ⟨flat_length xs, .inr ⟨w.heap.size, vs.length, (xs.flatMap Flat.cells).toArray, by rw [hlen], Nat.le_refl _, alloc_at _ _, by rw [hlen]; exact Nat.le_refl _, hml, ?_, ?_⟩⟩
    · rw [List.size_toArray, flat_length, hlen]
    · rw [List.take_of_length_le (by rw [flat_length]; exact Nat.le_refl _)]
end
/-! Sorting by a function. -/
theorem holds_ownK {w : World} {gb : Nat} {cur : Array Value} {E : TypeId} {ys : List Value} (hh : w.heap[gb]? = some (.cells cur E (0, 0))) (ht : cur.toList.take ys.length = ys) : Holds id w gb 0 ys.toArray := by
  intro j hj
  have hj' : j < ys.length := by simpa using hj
  constructor
  · have h1 : (cur.toList.take ys.length)[j]? = some ys[j] := by rw [ht, List.getElem?_eq_getElem hj']
    rw [List.getElem?_take, if_pos hj'] at h1
    rw [getElem!_pos _ j hj]
    simpa [World.cell?, hh] using h1
  · simp [World.frozen?, hh]
theorem putRow_heapK {w : World} {gb : Nat} {cur : Array Value} {E : TypeId} {ys : List Value} {cap : Nat} (hh : w.heap[gb]? = some (.cells cur E (0, 0))) (hc : cur.size = cap) (hl : ys.length ≤ cap) :
    ∃ cur' : Array Value, (putRow id w gb 0 ys.toArray).heap[gb]? = some (.cells cur' E (0, 0)) ∧ cur'.size = cap ∧ cur'.toList.take ys.length = ys := by
  refine ⟨putCells id 0 ys.toArray cur, ?_, by simp [putCells, hc], ?_⟩
  · simp [putRow, mapBlock, Array.getElem?_modify, hh, onCells]
  · refine List.ext_getElem? fun i => ?_
    rw [List.getElem?_take]
    split
    · rename_i hi
      simp only [putCells, Array.toList_mapIdx, List.getElem?_mapIdx]
      have hci : i < cur.toList.length := by simp; omega
      rw [List.getElem?_eq_getElem hci, List.getElem?_eq_getElem hi]
      simp [hi]
    · rename_i hi
      rw [List.getElem?_eq_none (by omega)]
theorem flatMap_get {α : Type} [Inhabited α] {c : α → List Value} {k : Nat} (hk : ∀ x, (c x).length = k) (hk0 : 0 < k) : ∀ (xs : List α) (t : Nat), t < xs.length * k → (xs.flatMap c)[t]? = some (c (xs.toArray[t / k]!))[t % k]!
  | [], t, h => by simp at h
  | x :: xs, t, h => by
    rw [List.length_cons] at h
    rw [List.flatMap_cons]
    by_cases ht : t < k
    · rw [List.getElem?_append_left (by rw [hk]; exact ht), Nat.div_eq_of_lt ht, Nat.mod_eq_of_lt ht]
      have : t < (c x).length := by rw [hk]; exact ht
      rw [List.getElem?_eq_getElem this]
      simp [this]
    · obtain ⟨s, rfl⟩ : ∃ s, t = s + k := ⟨t - k, by omega⟩
      have hs : s < xs.length * k := by rw [Nat.add_mul, Nat.one_mul] at h; omega
      rw [List.getElem?_append_right (by rw [hk]; omega), hk, Nat.add_sub_cancel, flatMap_get hk hk0 xs s hs, Nat.add_div_right _ hk0, Nat.add_mod_right]
      have hlt : s / k < xs.length := by rw [Nat.div_lt_iff_lt_mul hk0]; exact hs
      simp [hlt]
theorem flatK_eq {α : Type} [Inhabited α] [Flat α] (xs : List α) : flatK Flat.cells (Flat.size α) xs.toArray = (xs.flatMap Flat.cells).toArray := by
  have hk : ∀ x : α, (Flat.cells x).length = Flat.size α := fun x => Flat.len x
  have hlen : (xs.flatMap (Flat.cells (α := α))).length = xs.length * Flat.size α := flat_length xs
  refine Array.ext (by simp [hlen]) fun t h1 h2 => ?_
  have ht : t < xs.length * Flat.size α := by simpa using h1
  have h3 := get_flatK (Flat.cells (α := α)) (Flat.size α) xs.toArray t (by simpa using ht)
  rw [getElem!_pos _ t h1] at h3
  rw [h3]
  have h4 := flatMap_get hk Flat.pos xs t ht
  have h5 : t < (xs.flatMap (Flat.cells (α := α))).length := by rw [hlen]; exact ht
  rw [List.getElem?_eq_getElem h5] at h4
  simpa using (Option.some.inj h4).symm
def SortsK (P : Program) (α : Type) [Flat α] (k : FuncId) (fv : Value) (srt : List α → List α) : Prop :=
  (∀ xs, (srt xs).length = xs.length) ∧ srt [] = [] ∧
  (∀ (blk off cap : Nat) (xs : List α) (w : World), Holds id w blk off (xs.flatMap Flat.cells).toArray → blk < w.heap.size → xs.length < 4611686018427387904 →
    Calls P k #[.slice (some ⟨blk, off, none⟩) xs.length cap, fv] w fun e w' => e = .returned (.tuple #[]) ∧ ∃ n os, w' = grow (putRow id (Sort.ahead w n) blk off ((srt xs).flatMap Flat.cells).toArray) os) ∧
  ∀ (p : Option Addr) (cap : Nat) (w : World), Calls P k #[.slice p 0 cap, fv] w fun e w' => e = .returned (.tuple #[]) ∧ w' = w
def srtI {α : Type} (srt : List α → List α) (xs : List α) : Option (List α) := if xs.length ≤ 1073741824 then some (srt xs) else none
theorem srtI_some {α : Type} {srt : List α → List α} {xs ys : List α} (h : srtI srt xs = some ys) : xs.length ≤ 1073741824 ∧ srt xs = ys := by
  unfold srtI at h
  split at h
  · rename_i hl; exact ⟨hl, Option.some.inj h⟩
  · cases h
def srtOf {α : Type} [Inhabited α] (cf : α → α → Int) (xs : List α) : List α := (pdq (ltOf cf) xs.toArray 0 xs.length (Lib.bitLen xs.length) true true).toList
theorem srtOf_facts {α : Type} [Inhabited α] (cf : α → α → Int) (hO : SWO (ltOf cf)) (xs : List α) : (srtOf cf xs).Perm xs ∧ SortedIn (ltOf cf) 0 xs.length (srtOf cf xs).toArray := by
  have h := pdq_sorts (ltOf cf) hO xs.toArray 0 xs.length (Lib.bitLen xs.length) true true (Nat.zero_le _) (by simp) (Or.inl rfl)
  obtain ⟨⟨h1, _, h3⟩, h4⟩ := h
  have hs : (pdq (ltOf cf) xs.toArray 0 xs.length (Lib.bitLen xs.length) true true).size = xs.length := by simpa using h1
  constructor
  · unfold srtOf
    rw [Array.extract_eq_self_of_le (by omega)] at h3
    simpa using h3
  · exact h4
theorem sortsK_of {P : Program} {ρ : Go.Shelf.Ren} {α : Type} [Inhabited α] [Flat α] (L : SlLaysF0.n6 P ρ) (aE : ∀ w, (isAgg (ρ.t 24)).run P w = .ok true w) (zE : ∀ w, (Go.sizeOf (ρ.t 24)).run P w = .ok (Flat.size α) w) (cf : α → α → Int) (hO : SWO (ltOf cf)) (g : Nat)
    (eg : ∀ args w, (callFunc g args).run P w = .ok (.enter g args) w) (hcmp : ∀ (x y : α) (W : World), Calls P g #[.agg (Flat.cells x).toArray, .agg (Flat.cells y).toArray] W fun e w' => e = .returned (.int .i64 (cf x y)) ∧ GrewQ W w') :
    SortsK P α (ρ.f 6) (.func (.func g) #[] #[]) (srtOf cf) := by
  have hl : ∀ xs, (srtOf cf xs).length = xs.length := fun xs => (srtOf_facts cf hO xs).1.length_eq
  refine ⟨hl, List.eq_nil_of_length_eq_zero (hl []), fun blk off cap xs w hH hblk hsz => ?_, fun p cap w => AnyF.slices_SortFunc_none L p cap _ w⟩
  have h := AnyQ.slices_SortFunc_eq L (Flat.size α) aE zE Flat.cells (fun x => Flat.len x) (fun x v hv => Flat.one x v hv) cf hO g #[] blk off cap xs.toArray w eg (fun m os dk _ x y => hcmp x y _) (by unfold HoldsK; rw [flatK_eq]; exact hH) hblk (by simpa using hsz)
  refine (by simpa using h : Calls P (ρ.f 6) #[.slice (some ⟨blk, off, none⟩) xs.length cap, .func (.func g) #[] #[]] w _).mono ?_
  rintro e w' ⟨rfl, m, os, rfl⟩
  refine ⟨rfl, m, os, ?_⟩
  rw [← flatK_eq]
  unfold sortWorldK putRowK srtOf
  simp
section
variable {P : Program} {n : Nat} {ds : Md} {ops : Array Oper} {rest : List Oper} {K : Fr → World → Prop} {f : Fr} {Dq : Nat → Prop} {w w0 : World} {L : List Item} {T T0 : TypeId} {pos : String} {aft : Array Edge} {g : Option (Nat × Bool)} {d : Nat}
theorem sortK_run {α : Type} [Flat α] {k : FuncId} {fv : Value} {srt : List α → List α} (i : Nat) (H : InvD Dq w0 w L) {v : Value} {E : TypeId} {xs : List α} (hi : L[i]? = some (ownI v E xs)) (hs : SortsK P α k fv srt) (hlen : xs.length ≤ 1073741824) :
    Calls P k #[v, fv] w fun e w' => ∃ u, e = .returned u ∧ u = .tuple #[] ∧ InvD Dq w0 w' (L.set i (ownI v E (srt xs))) := by
  obtain ⟨hok, hfp⟩ := H.items _ (List.mem_of_getElem? hi)
  have hown : w.ownsRow 0 E (Flat.size α) v xs.length (xs.flatMap Flat.cells) := hok
  have hml : (srt xs).length = xs.length := hs.1 xs
  have hfl : ((srt xs).flatMap (Flat.cells (α := α))).length = xs.length * Flat.size α := by rw [flat_length, hml]
  have hfx : (xs.flatMap (Flat.cells (α := α))).length = xs.length * Flat.size α := flat_length xs
  obtain ⟨_, ⟨rfl, hn⟩ | ⟨gb, cap, cur, rfl, hgb, hh, hnc, hcm, hcs, htake⟩⟩ := hown
  · obtain rfl := List.eq_nil_of_length_eq_zero hn
    refine (hs.2.2.2 none 0 w).mono ?_
    rintro e w' ⟨rfl, rfl⟩
    refine ⟨_, rfl, rfl, ?_⟩
    have : L.set i (ownI (.slice none 0 0) E (srt [])) = L := by
      rw [hs.2.1]
      obtain ⟨h1, h2⟩ := List.getElem?_eq_some_iff.1 hi
      rw [← h2]
      exact List.set_getElem_self h1
    rw [this]
    exact H
  · have hlt := heap_lt hh
    have hpos : 0 < Flat.size α := Flat.pos
    have hle : xs.length * Flat.size α ≤ cap * Flat.size α := Nat.mul_le_mul_right _ hnc
    refine (hs.2.2.1 gb 0 cap xs w (holds_ownK hh (by rw [hfx]; exact htake)) hlt (by omega)).mono ?_
    rintro e w' ⟨rfl, m, os, rfl⟩
    refine ⟨_, rfl, rfl, ?_⟩
    have hha : (Sort.ahead w m).heap[gb]? = some (.cells cur E (0, 0)) := hh
    obtain ⟨cur', h1, h2, h3⟩ := putRow_heapK (ys := (srt xs).flatMap Flat.cells) hha hcs (by omega)
    have hsz : (putRow id (Sort.ahead w m) gb 0 ((srt xs).flatMap Flat.cells).toArray).heap.size = w.heap.size := by rw [Go.Sort.size_putRow]; rfl
    have hnew : (grow (putRow id (Sort.ahead w m) gb 0 ((srt xs).flatMap Flat.cells).toArray) os).heap[gb]? = some (.cells cur' E (0, 0)) := by
      show (_ ++ os)[gb]? = _
      rw [Array.getElem?_append_left (by omega)]
      exact h1
    refine H.upd i _ _ hi ⟨rfl, rfl, rfl, by rw [size_grow]; omega, fun j hj hne => ?_⟩ ⟨?_, .inr ⟨gb, cap, cur', by rw [hml], hgb, hnew, by omega, hcm, h2, by rw [hml, ← hfl]; exact h3⟩⟩ (fun b hb => ⟨?_, .inl hb⟩)
    · show (_ ++ os)[j]? = _
      rw [Array.getElem?_append_left (by omega)]
      have hj2 : gb ≠ j := fun e => hne (by subst e; rfl)
      simp [putRow, mapBlock, Array.getElem?_modify, hj2]
    · exact flat_length (srt xs)
    · have := (hfp b hb).2
      rw [size_grow]; omega
theorem O.sortK {α : Type} [Flat α] {k : FuncId} {fv : Value} {srt : List α → List α} {x y : Operand} {at_ : Array TypeId} {v : Value} {E : TypeId} {xs ys : List α} (i : Nat) (H : InvD Dq w0 w L) (hi : L[i]? = some (ownI v E xs)) (hs : SortsK P α k fv srt) (ht : srtI srt xs = some ys) (hcb : Callable P k)
    (hg : want ops g f = true) (hd : Nat.blt d n = true) (hx : ev f x = v) (hy : ev f y = fv) (h : ∀ w', InvD Dq w0 w' (L.set i (ownI v E ys)) → WL P n ds ops rest K (upd f d (.tuple #[])) w') :
    WL P n ds ops (⟨some d, .call ⟨.value (.func k), #[x, y], at_⟩, T0, pos, aft, g⟩ :: rest) K f w := by
  obtain ⟨hlen, rfl⟩ := srtI_some ht
  refine WL.enter hg hd (k := k) (args := #[v, fv]) ?_ ((sortK_run i H hi hs hlen).mono ?_)
  · simp only [execOp, resolve, ev, Deferred.ofValue, List.map_toArray, Sem.run_bind, Sem.run_pure, Result.andThen_ok, invoke]
    simpa [hx, hy] using hcb _ _
  · rintro e w' ⟨u, rfl, rfl, hI⟩
    exact ⟨_, rfl, h w' hI⟩
end
end Go.Fw
