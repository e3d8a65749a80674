/-
  THE FRAMEWORK, PART M: slices that are made; prefixes of slices that the call owns; room for more.
-/
import Derived.Test.YtailgbhadhoedaaFwL
import Derived.Lib.AppendZerosOnto
import Derived.Laws.IdiomStrings
namespace Go.Fw
open Go.RowKit

/-- The zero of an element's type. -/
def ZElemT (P : Program) {α : Type} [Flat α] (E : TypeId) (x0 : α) (bytes : Nat) : Prop := ∃ i z, P.info? E = some i ∧ i.zero = some z ∧ i.size = Flat.size α ∧ i.bytes = bytes ∧ z.cells = (Flat.cells x0).toArray
theorem ZElemT.mk {P : Program} {α : Type} [Flat α] {E bytes : Nat} {x0 : α} {z : Value} (h : (P.info? E).map (fun i => (i.zero, i.size, i.bytes)) = some (some z, Flat.size α, bytes)) (hz : z.cells = (Flat.cells x0).toArray) : ZElemT P E x0 bytes := by
  obtain ⟨i, hi, e⟩ := Option.map_eq_some_iff.1 h
  simp only [Prod.mk.injEq] at e
  exact ⟨i, z, hi, e.1, e.2.1, e.2.2, hz⟩

theorem repl_get {α : Type} [Flat α] (x0 : α) (n j : Nat) (hj : j < n * Flat.size α) : ((List.replicate n x0).flatMap Flat.cells)[j]? = (Flat.cells x0)[j % Flat.size α]? := by
  have hpos := Flat.pos (α := α)
  have hdiv : j / Flat.size α < n := by rw [Nat.div_lt_iff_lt_mul hpos]; exact hj
  have hmod : j % Flat.size α < (Flat.cells x0).length := by rw [Flat.len]; exact Nat.mod_lt _ hpos
  have h := flat_getElem (List.replicate n x0) (j / Flat.size α) x0 (by simp [hdiv]) (j % Flat.size α) _ (List.getElem?_eq_getElem hmod)
  rw [show j / Flat.size α * Flat.size α + j % Flat.size α = j by rw [Nat.mul_comm]; exact Nat.div_add_mod _ _] at h
  rw [h, List.getElem?_eq_getElem hmod]
theorem zeros_list {α : Type} [Flat α] (x0 : α) (n : Nat) (f : Nat → Value) (hf : ∀ j, f j = (Flat.cells x0).toArray[j % (Flat.cells x0).toArray.size]!) :
    ((Array.range (n * Flat.size α)).map f).toList = (List.replicate n x0).flatMap Flat.cells := by
  apply List.ext_getElem?
  intro j
  by_cases hj : j < n * Flat.size α
  · have hpos := Flat.pos (α := α)
    rw [repl_get x0 n j hj]
    have hmod : j % Flat.size α < (Flat.cells x0).length := by rw [Flat.len]; exact Nat.mod_lt _ hpos
    simp only [Array.toList_map, List.getElem?_map, Array.toList_range, List.getElem?_range hj, Option.map_some, hf]
    have hl : (Flat.cells x0).toArray.size = Flat.size α := by simp [Flat.len]
    rw [hl, List.getElem?_eq_getElem hmod]
    congr 1
    simp [hmod]
  · rw [List.getElem?_eq_none (by simp; omega), List.getElem?_eq_none (by rw [flat_length, List.length_replicate]; omega)]

def makI {α : Type} (x0 : α) (n : Int) : Option (List α) := if 0 ≤ n ∧ n ≤ 1099511627776 then some (List.replicate n.toNat x0) else none
theorem makI_some {α : Type} {x0 : α} {n : Int} {xs : List α} (h : makI x0 n = some xs) : 0 ≤ n ∧ n ≤ 1099511627776 ∧ xs = List.replicate n.toNat x0 := by
  unfold makI at h
  split at h
  · rename_i hl; exact ⟨hl.1, hl.2, (Option.some.inj h).symm⟩
  · cases h

/-- The first of what the call owns. -/
def preI {α : Type} (xs : List α) (k : Int) : Option (List α) := if 0 ≤ k ∧ k ≤ (xs.length : Int) then some (xs.take k.toNat) else none
theorem preI_some {α : Type} {xs ys : List α} {k : Int} (h : preI xs k = some ys) : 0 ≤ k ∧ k ≤ (xs.length : Int) ∧ ys = xs.take k.toNat := by
  unfold preI at h
  split at h
  · rename_i hl; exact ⟨hl.1, hl.2, (Option.some.inj h).symm⟩
  · cases h

section
variable {P : Program} {n : Nat} {ds : Md} {ops : Array Oper} {rest : List Oper} {K : Fr → World → Prop} {f : Fr} {Dq : Nat → Prop} {w w0 : World} {L : List Item} {T T' Tn T0 : TypeId} {pos : String} {aft : Array Edge}
  {g : Option (Nat × Bool)} {d : Nat}

theorem O.makeSlice {α : Type} [Flat α] {E bytes : Nat} {x y : Operand} {m : Int} {k k' : IntKind} {x0 : α} {xs : List α} (hT : P.underlying T = some (.slice E)) (hE : ZElemT P E x0 bytes) (hb : Nat.ble bytes 128 = true) (H : InvD Dq w0 w L)
    (hm : makI x0 m = some xs) (hg : want ops g f = true) (hd : Nat.blt d n = true) (hx : ev f x = .int k m) (hy : ev f y = .int k' m)
    (h : ∀ v w', InvD Dq w0 w' (L ++ [ownI v E xs]) → Below w.heap.size w w' → WL P n ds ops rest K (upd f d v) w') : WL P n ds ops (⟨some d, .makeSlice T x y, T0, pos, aft, g⟩ :: rest) K f w := by
  obtain ⟨h0, h1, rfl⟩ := makI_some hm
  obtain ⟨i, z, hi, hz, hsz, hby, hzc⟩ := hE
  obtain ⟨l, rfl⟩ : ∃ l : Nat, m = (l : Int) := ⟨m.toNat, by omega⟩
  have hb := Nat.le_of_ble_eq_true hb
  have hbl : i.bytes * l ≤ 281474976710656 := by
    rw [hby]
    have : bytes * l ≤ 128 * 1099511627776 := Nat.mul_le_mul hb (by omega)
    omega
  obtain ⟨w', hrun, how, hgr⟩ := run_make_full (P := P) w w.heap.size T E i z (Flat.size α) hT hi hz hsz k k' l hbl (by unfold maxLen; omega) (Nat.le_refl _)
  have hbel : Below w.heap.size w w' := ⟨hgr.os, hgr.tape, hgr.output, hgr.size, fun k hk => hgr.block k hk (by simp)⟩
  refine WL.val hg hd (w' := w') (v := .slice (some ⟨w.heap.size, 0, none⟩) l l) ?_ (h _ _ (H.addOwn hbel ?_) hbel)
  · simp only [execOp, hx, hy, Sem.run_bind, hrun, Result.andThen_ok, Sem.run_pure]
  · have hl : madeCells z.cells (l * Flat.size α) = (Array.range (l * Flat.size α)).map (fun j => (Flat.cells x0).toArray[j % (Flat.cells x0).toArray.size]!) := by rw [hzc]; rfl
    rw [hl, zeros_list x0 l _ (fun _ => rfl)] at how
    show w'.ownsRow w.heap.size E (Flat.size α) _ (List.replicate l x0).length ((List.replicate l x0).flatMap Flat.cells)
    rw [List.length_replicate]
    exact how

theorem O.capNil {s : Operand} {E : TypeId} (hT : P.underlying T = some (.slice E)) (hg : want ops g f = true) (hd : Nat.blt d n = true) (hs : ev f s = .slice none 0 0)
    (h : WL P n ds ops rest K (upd f d (.int .i64 0)) w) : WL P n ds ops (⟨some d, .call ⟨.builtin .cap, #[s], #[T]⟩, T0, pos, aft, g⟩ :: rest) K f w := by
  refine WL.val hg hd ?_ h
  simp [execOp, resolve, invoke, builtin, hs, Builtin.cap_, run_underlying hT, goInt]
theorem O.lenNil {s : Operand} {E : TypeId} (hT : P.underlying T = some (.slice E)) (hg : want ops g f = true) (hd : Nat.blt d n = true) (hs : ev f s = .slice none 0 0)
    (h : WL P n ds ops rest K (upd f d (.int .i64 0)) w) : WL P n ds ops (⟨some d, .call ⟨.builtin .len, #[s], #[T]⟩, T0, pos, aft, g⟩ :: rest) K f w := by
  refine WL.val hg hd ?_ h
  simp [execOp, resolve, invoke, builtin, hs, Builtin.len_, run_underlying hT, goInt]
theorem O.sliceNil {s b : Operand} {E k : TypeId} (hT : P.underlying T = some (.slice E)) (hE : SizeT P E k) (hg : want ops g f = true) (hd : Nat.blt d n = true) (hs : ev f s = .slice none 0 0) (hb : ev f b = .int .i64 0)
    (h : WL P n ds ops rest K (upd f d (.slice none 0 0)) w) : WL P n ds ops (⟨some d, .slice T s none (some b) none, T0, pos, aft, g⟩ :: rest) K f w := by
  have he := elem_of hT
  have hT' : P.underlying T = some (.slice (P.elem T)) := by rw [he]; exact hT
  refine WL.val hg hd ?_ h
  simp only [execOp, Option.map_some, Option.map_none, hs, hb, Sem.run_bind, run_sliceAt_slice w T _ _ _ _ hT', run_slice_h w T none 0 0 hT' .i64 0 (by omega) (by omega), he, run_sizeOf' hE, Result.andThen_ok, Sem.run_pure]
  rfl
/-- 'append(s, make([]E, n)...)' onto nil. -/
theorem O.appendZeros {α : Type} [Flat α] {E bytes : Nat} {s x : Operand} {m : Int} {x0 : α} {xs : List α} (hT : P.underlying T = some (.slice E)) (hTn : P.underlying Tn = some (.int .i64)) (hE : ZElemT P E x0 bytes) (hb : Nat.ble bytes 128 = true) (H : InvD Dq w0 w L)
    (h0 : 0 < m) (hm : makI x0 m = some xs) (hg : want ops g f = true) (hd : Nat.blt d n = true) (hs : ev f s = .slice none 0 0) (hx : ev f x = .int .i64 m)
    (h : ∀ v w', InvD Dq w0 w' (L ++ [ownI v E xs]) → Below w.heap.size w w' → WL P n ds ops rest K (upd f d v) w') : WL P n ds ops (⟨some d, .call ⟨.builtin .append, #[s, x], #[T, Tn]⟩, T0, pos, aft, g⟩ :: rest) K f w := by
  obtain ⟨_, h1, rfl⟩ := makI_some hm
  obtain ⟨i, z, hi, hz, hsz, hby, hzc⟩ := hE
  obtain ⟨l, rfl⟩ : ∃ l : Nat, m = (l : Int) := ⟨m.toNat, by omega⟩
  have hb := Nat.le_of_ble_eq_true hb
  have hpos := Flat.pos (α := α)
  have hbl : l * bytes ≤ 1099511627776 * 128 := Nat.mul_le_mul (by omega) hb
  have hfit : Builtin.nextslicecap (0 + l) 0 * i.bytes ≤ 281474976710656 := growslice_fits (by omega) (by rw [hby, Nat.zero_add]; omega)
  have hrun := Lib.run_append_grow_zeros (P := P) w T Tn T0 E i z .i64 .i64 hT hTn hi hz none 0 0 [] (by rw [show ([] : List Value).toArray = #[] from rfl]; exact run_firstCells_none w.drew i.size 0 0 0) l (by omega) (by rw [hsz]; exact hpos) (by omega) (by omega) (by rw [hby]; omega) hfit
  simp only [Nat.zero_add] at hrun
  have hge := grownCap_ge w l 0 E
  have hcm : grownCap w l 0 E ≤ maxLen := grownCap_le_maxLen w l 0 E (by unfold maxLen; omega)
  have hz2 : (Builtin.zeroCells z.cells l).toList = (List.replicate l x0).flatMap Flat.cells := by
    have : Builtin.zeroCells z.cells l = (Array.range (l * Flat.size α)).map (fun j => (Flat.cells x0).toArray[j % (Flat.cells x0).toArray.size]!) := by
      rw [hzc]; unfold Builtin.zeroCells; rw [show (Flat.cells x0).toArray.size = Flat.size α by simp [Flat.len]]
    rw [this, zeros_list x0 l _ (fun _ => rfl)]
  have hzs : z.cells.size = Flat.size α := by rw [hzc]; simp [Flat.len]
  obtain ⟨cs, hcs⟩ : ∃ cs : Array Value, cs = ([] : List Value).toArray ++ Builtin.zeroCells z.cells l ++ Builtin.zeroCells z.cells (grownCap w l 0 E - l) := ⟨_, rfl⟩
  rw [← hcs] at hrun
  have hbel : Below w.heap.size w (w.drew.alloc (.cells cs E)) := Below.trans (b := w.drew) ⟨rfl, rfl, rfl, Nat.le_refl _, fun _ _ => rfl⟩ (below_alloc w.drew _)
  refine WL.val hg hd (v := .slice (some ⟨w.heap.size, 0, none⟩) l (grownCap w l 0 E)) (w' := w.drew.alloc (.cells cs E)) ?_ (h _ _ (H.addOwn hbel ?_) hbel)
  · simp [execOp, resolve, invoke, builtin, hs, hx, hrun, Result.andThen]
  · refine ⟨by rw [flat_length], .inr ⟨w.heap.size, _, _, ?_, Nat.le_refl _, alloc_at w.drew _, ?_, hcm, ?_, ?_⟩⟩
    · simp only [Int.toNat_natCast, List.length_replicate]
    · simpa using hge
    · rw [hcs]
      simp only [Array.size_append, List.size_toArray, size_zeroCells, hzs, List.length_nil, Nat.zero_add, ← Nat.add_mul]
      congr 1
      omega
    · rw [hcs]
      simp only [Array.toList_append, Int.toNat_natCast, List.length_replicate, List.nil_append]
      rw [hz2, List.take_append_of_le_length (by rw [flat_length, List.length_replicate]; exact Nat.le_refl _), List.take_of_length_le (by rw [flat_length, List.length_replicate]; exact Nat.le_refl _)]

/-- 's[:k]', s being the call's own. -/
theorem O.sliceOwn {α : Type} [Flat α] {E : Nat} {s b : Operand} {v : Value} {xs ys : List α} {k : Int} (i : Nat) (hT : P.underlying T = some (.slice E)) (hE : SizeT P E (Flat.size α)) (H : InvD Dq w0 w L) (hi : L[i]? = some (ownI v E xs)) (hk : preI xs k = some ys)
    (hg : want ops g f = true) (hd : Nat.blt d n = true) (hs : ev f s = v) (hb : ev f b = .int .i64 k)
    (h : ∀ v', InvD Dq w0 w (L.set i (ownI v' E ys)) → WL P n ds ops rest K (upd f d v') w) : WL P n ds ops (⟨some d, .slice T s none (some b) none, T0, pos, aft, g⟩ :: rest) K f w := by
  obtain ⟨h0, h1, rfl⟩ := preI_some hk
  obtain ⟨l, rfl⟩ : ∃ l : Nat, k = (l : Int) := ⟨k.toNat, by omega⟩
  have he := elem_of hT
  have hT' : P.underlying T = some (.slice (P.elem T)) := by rw [he]; exact hT
  obtain ⟨hok, hfp⟩ := H.items _ (List.mem_of_getElem? hi)
  have hown : w.ownsRow 0 E (Flat.size α) v xs.length (xs.flatMap Flat.cells) := hok
  have hlen : (xs.take l).length = l := by rw [List.length_take]; omega
  obtain ⟨_, ⟨rfl, hn⟩ | ⟨gb, cap, cur, rfl, hgb, hh, hnc, hcm, hcs, htake⟩⟩ := hown
  · obtain rfl := List.eq_nil_of_length_eq_zero hn
    have hl0 : l = 0 := by simpa using h1
    subst hl0
    refine WL.val hg hd (v := .slice none 0 0) ?_ (h _ (H.upd i _ _ hi ⟨rfl, rfl, rfl, Nat.le_refl _, fun _ _ _ => rfl⟩ ⟨by simp, .inl ⟨rfl, by simp⟩⟩ (by intro b hb; cases hb)))
    have hb' : ev f b = .int .i64 0 := hb
    simp only [execOp, Option.map_some, Option.map_none, hs, hb', Sem.run_bind, run_sliceAt_slice w T _ _ _ _ hT', run_slice_h w T none 0 0 hT' .i64 0 (by omega) (by omega), he, run_sizeOf' hE, Result.andThen_ok, Sem.run_pure]
    rfl
  · refine WL.val hg hd (v := .slice (some ⟨gb, 0, none⟩) l cap) ?_ (h _ (H.upd i _ _ hi ⟨rfl, rfl, rfl, Nat.le_refl _, fun _ _ _ => rfl⟩ ?_ ?_))
    · simp only [execOp, Option.map_some, Option.map_none, hs, hb, Sem.run_bind, run_sliceAt_slice w T _ _ _ _ hT', run_slice_h w T _ _ cap hT' .i64 l h0 (by omega), he, run_sizeOf' hE, Result.andThen_ok, Sem.run_pure]
      unfold sliced
      by_cases hc0 : cap = 0
      · rw [if_pos hc0]; simp
      · rw [if_neg hc0]; simp [Addr.add]
    · refine ⟨by rw [flat_length], .inr ⟨gb, cap, cur, by simp [hlen], hgb, hh, by simp only [Int.toNat_natCast, hlen]; omega, hcm, hcs, ?_⟩⟩
      simp only [Int.toNat_natCast, hlen]
      have h3 : cur.toList.take (l * Flat.size α) = (xs.flatMap Flat.cells).take (l * Flat.size α) := by
        rw [← htake, List.take_take, Nat.min_eq_left (Nat.mul_le_mul_right _ (by omega))]
      rw [h3]
      have h4 : xs.flatMap Flat.cells = (xs.take l).flatMap Flat.cells ++ (xs.drop l).flatMap Flat.cells := by rw [← List.flatMap_append, List.take_append_drop]
      rw [h4, List.take_append_of_le_length (by rw [flat_length, hlen]; exact Nat.le_refl _), List.take_of_length_le (by rw [flat_length, hlen]; exact Nat.le_refl _)]
    · rintro b hf
      cases hf
      exact ⟨(hfp gb rfl).2, .inl rfl⟩

theorem max_eq (a b : Int) : (if b > a then b else a) = max a b := by rw [Int.max_def]; split <;> split <;> omega
theorem min_eq (a b : Int) : (if b < a then b else a) = min a b := by rw [Int.min_def]; split <;> split <;> omega
theorem O.max2 {x y : Operand} {a b : Int} {k k' : IntKind} {ts : Array TypeId} (hg : want ops g f = true) (hd : Nat.blt d n = true) (hx : ev f x = .int k a) (hy : ev f y = .int k' b)
    (h : WL P n ds ops rest K (upd f d (.int k (max a b))) w) : WL P n ds ops (⟨some d, .call ⟨.builtin .max, #[x, y], ts⟩, T0, pos, aft, g⟩ :: rest) K f w := by
  refine WL.val hg hd ?_ h
  simp [execOp, resolve, invoke, builtin, hx, hy, run_max_int2, max_eq]
theorem O.min2 {x y : Operand} {a b : Int} {k k' : IntKind} {ts : Array TypeId} (hg : want ops g f = true) (hd : Nat.blt d n = true) (hx : ev f x = .int k a) (hy : ev f y = .int k' b)
    (h : WL P n ds ops rest K (upd f d (.int k (min a b))) w) : WL P n ds ops (⟨some d, .call ⟨.builtin .min, #[x, y], ts⟩, T0, pos, aft, g⟩ :: rest) K f w := by
  refine WL.val hg hd ?_ h
  simp [execOp, resolve, invoke, builtin, hx, hy, run_min_int2, min_eq]
theorem run_max_int3' {w : World} (ts : Array TypeId) (t : TypeId) (k k' k'' : IntKind) (x y z : Int) : (Builtin.max_ ts t #[.int k x, .int k' y, .int k'' z]).run P w = .ok (.int k (max (max x y) z)) w := by
  rw [← max_eq, ← max_eq]
  simp [Builtin.max_, Builtin.max2]
theorem run_min_int3' {w : World} (ts : Array TypeId) (t : TypeId) (k k' k'' : IntKind) (x y z : Int) : (Builtin.min_ ts t #[.int k x, .int k' y, .int k'' z]).run P w = .ok (.int k (min (min x y) z)) w := by
  rw [← min_eq, ← min_eq]
  simp [Builtin.min_, Builtin.min2]
theorem O.max3 {x y z : Operand} {a b c : Int} {k k' k2 : IntKind} {ts : Array TypeId} (hg : want ops g f = true) (hd : Nat.blt d n = true) (hx : ev f x = .int k a) (hy : ev f y = .int k' b) (hz : ev f z = .int k2 c)
    (h : WL P n ds ops rest K (upd f d (.int k (max (max a b) c))) w) : WL P n ds ops (⟨some d, .call ⟨.builtin .max, #[x, y, z], ts⟩, T0, pos, aft, g⟩ :: rest) K f w := by
  refine WL.val hg hd ?_ h
  simp only [execOp, resolve, invoke, builtin, List.map_toArray, List.map_cons, List.map_nil, hx, hy, hz, Sem.run_bind, Sem.run_pure, Result.andThen_ok, run_max_int3']
theorem O.min3 {x y z : Operand} {a b c : Int} {k k' k2 : IntKind} {ts : Array TypeId} (hg : want ops g f = true) (hd : Nat.blt d n = true) (hx : ev f x = .int k a) (hy : ev f y = .int k' b) (hz : ev f z = .int k2 c)
    (h : WL P n ds ops rest K (upd f d (.int k (min (min a b) c))) w) : WL P n ds ops (⟨some d, .call ⟨.builtin .min, #[x, y, z], ts⟩, T0, pos, aft, g⟩ :: rest) K f w := by
  refine WL.val hg hd ?_ h
  simp only [execOp, resolve, invoke, builtin, List.map_toArray, List.map_cons, List.map_nil, hx, hy, hz, Sem.run_bind, Sem.run_pure, Result.andThen_ok, run_min_int3']
end
end Go.Fw
namespace Go.Fw
open Go.RowKit
/-! Literals of slices whose elements hold references: they are only read. -/
inductive RepL {α : Type} [Ty α] (w : World) : List Value → List α → Prop
  | nil : RepL w [] []
  | cons {v : Value} {x : α} {vs : List Value} {xs : List α} (h : Ty.rep w v.cells.toList x) (h' : RepL w vs xs) : RepL w (v :: vs) (x :: xs)
theorem RepL.consS {α : Type} [Ty α] {w : World} {v : Value} {x : List α} {vs : List Value} {xs : List (List α)} (h : SliceR w v x) (h' : RepL w vs xs) : RepL w (v :: vs) (x :: xs) := by
  refine .cons ⟨v, ?_, h⟩ h'
  obtain ⟨a, cap, rfl, _⟩ := h.shape
  rfl
theorem RepL.len {α : Type} [Ty α] {w : World} {vs : List Value} {xs : List α} (h : RepL w vs xs) : vs.length = xs.length := by
  induction h with
  | nil => rfl
  | cons _ _ ih => simp [ih]
theorem RepL.get {α : Type} [Ty α] {w : World} {vs : List Value} {xs : List α} (h : RepL w vs xs) : ∀ (i : Nat) (x : α), xs[i]? = some x → ∃ v, vs[i]? = some v ∧ Ty.rep w v.cells.toList x := by
  induction h with
  | nil => intro i x hi; simp at hi
  | cons h _ ih =>
    intro i x hi
    cases i with
    | zero => simp only [List.getElem?_cons_zero, Option.some.injEq] at hi; subst hi; exact ⟨_, rfl, h⟩
    | succ i => exact ih i x (by simpa using hi)
theorem RepL.sizes {α : Type} [Ty α] {w : World} {vs : List Value} {xs : List α} (h : RepL w vs xs) : ∀ v ∈ vs, v.cells.size = Ty.size α := by
  induction h with
  | nil => simp
  | cons h _ ih =>
    intro v hv
    rcases List.mem_cons.1 hv with rfl | hv
    · have := Ty.len h; simpa using this
    · exact ih v hv
section
variable {P : Program} {n : Nat} {ds : Md} {ops : Array Oper} {rest : List Oper} {K : Fr → World → Prop} {f : Fr} {w : World} {T T0 : TypeId} {pos : String} {aft : Array Edge}
  {g : Option (Nat × Bool)} {d : Nat}
theorem row_get (size : Nat) : ∀ (vs : List Value) (_ : ∀ v ∈ vs, v.cells.size = size) (i j : Nat) (v : Value) (c : Value), vs[i]? = some v → v.cells.toList[j]? = some c → (vs.flatMap fun v => v.cells.toList)[i * size + j]? = some c
  | [], _, i, j, v, c, h, _ => by simp at h
  | u :: vs, hs, 0, j, v, c, h, hc => by
    simp only [List.getElem?_cons_zero, Option.some.injEq] at h
    subst h
    rw [List.flatMap_cons, Nat.zero_mul, Nat.zero_add, List.getElem?_append_left (List.getElem?_eq_some_iff.1 hc).1]
    exact hc
  | u :: vs, hs, i + 1, j, v, c, h, hc => by
    have hu : u.cells.toList.length = size := by simpa using hs u (by simp)
    rw [List.flatMap_cons, List.getElem?_append_right (by rw [hu, Nat.succ_mul]; omega), hu, show (i + 1) * size + j - size = i * size + j by rw [Nat.succ_mul]; omega]
    exact row_get size vs (fun v hv => hs v (by simp [hv])) i j v c (by simpa using h) hc
theorem O.buildSliceR {α : Type} [Ty α] {E bytes : Nat} {k : Nat} {ps : List (Nat × Operand)} (vs : List Value) (xs : List α) (hT : P.underlying T = some (.slice E)) (hE : ElemT P E (Ty.size α) bytes) (hR : RepL w vs xs)
    (hg : want ops g f = true) (hd : Nat.blt d n = true) (hps : ps.map (fun p => (p.1, ev f p.2)) = enumV 0 vs) (hk : vs.length = k) (hsmall : Nat.ble (k * Ty.size α) 16777216 = true)
    (h : ∀ v w', Below w.heap.size w w' → SliceR w' v xs → WL P n ds ops rest K (upd f d v) w') : WL P n ds ops (⟨some d, .buildSlice T k ps.toArray, T0, pos, aft, g⟩ :: rest) K f w := by
  subst hk
  have hsm := Nat.le_of_ble_eq_true hsmall
  have hsize := hR.sizes
  have hlen := hR.len
  obtain ⟨i, z, hi, hz, hsz, _, hzs⟩ := hE
  have hzero : (zeroValue E).run P w = .ok z w := run_zeroValue' ⟨i, hi, hz⟩
  have hfill : ∀ zc : Array Value, Instr.fill (fun i => some (i * Ty.size α, Ty.size α)) ((Array.range (vs.length * Ty.size α)).map fun k => zc[k % zc.size]!) (enumV 0 vs).toArray.toList = some (vs.flatMap fun v => v.cells.toList).toArray := by
    intro zc
    rw [fill_enum (Ty.size α) vs 0 _ hsize (by simp)]
    congr 2
    simp only [Nat.zero_mul, List.take_zero, List.nil_append, Nat.zero_add]
    rw [List.drop_eq_nil_of_le (by simp), List.append_nil]
  have hrun : (Instr.buildSlice T vs.length (enumV 0 vs).toArray).run P w = .ok (.slice (some ⟨w.heap.size, 0, none⟩) vs.length vs.length) (w.alloc (.cells (vs.flatMap fun v => v.cells.toList).toArray E)) := by
    simp only [Instr.buildSlice, Sem.run_bind, run_underlying hT, Result.andThen_ok, run_sizeOf' ⟨i, hi, hsz⟩]
    rw [if_neg (by omega)]
    by_cases h0 : vs.length * Ty.size α = 0
    · simp only [if_pos h0, Sem.run_pure, Result.andThen_ok, hfill, Sem.run_bind, run_newRow]
    · simp only [if_neg h0, Sem.run_bind, Sem.run_pure, Result.andThen_ok, hzero, hfill, run_newRow]
  have hml : vs.length ≤ maxLen := by
    have : vs.length * 1 ≤ vs.length * Ty.size α := Nat.mul_le_mul_left _ (Ty.pos (α := α))
    unfold maxLen; omega
  refine WL.val hg hd (w' := w.alloc (.cells (vs.flatMap fun v => v.cells.toList).toArray E)) (v := .slice (some ⟨w.heap.size, 0, none⟩) vs.length vs.length) ?_ (h _ _ (below_alloc _ _) ?_)
  · simp only [execOp, List.map_toArray]
    rw [show (ps.map fun x => (x.1, ev f x.2)) = enumV 0 vs from hps]
    simp only [Sem.run_bind, hrun, Result.andThen_ok, Sem.run_pure]
  · refine ⟨by omega, .inr ⟨⟨w.heap.size, 0, none⟩, vs.length, by rw [hlen], by omega, hml, fun i x hx => ?_⟩⟩
    obtain ⟨v, hv, hrep⟩ := hR.get i x hx
    rw [Addr.add_lit]
    refine ⟨rfl, v.cells.toList, Ty.mono hrep (below_alloc _ _), fun j c hc => ?_⟩
    rw [Addr.add_lit]
    have := row_get (Ty.size α) vs hsize i j v c hv hc
    simp only [World.cell?, alloc_at, Nat.zero_add]
    simpa using this
end
end Go.Fw
namespace Go.Fw
open Go.RowKit
/-! Strings and bytes. -/
instance : Flat UInt8 := ⟨1, fun a => .int .u8 a.toNat, fun a => [.int .u8 a.toNat], fun _ => rfl, fun _ => rfl, by simp [Value.oneCell'], by decide⟩
def bytes (s : ByteArray) : List UInt8 := s.data.toList
theorem bytes_len (s : ByteArray) : (bytes s).length = s.size := rfl
theorem InvD.addAll {X : Nat → Prop} {w0 w w' : World} {L L2 : List Item} (H : InvD X w0 w L) (hb : Below w.heap.size w w') (H2 : Inv w w' L2) : InvD X w0 w' (L ++ L2) := by
  have H' := H.ext hb
  refine ⟨H'.baseX, fun it hi => ?_, List.pairwise_append.2 ⟨H.apart, H2.apart, fun x hx y hy b hf hg => ?_⟩⟩
  · rcases List.mem_append.1 hi with hi | hi
    · exact H'.items it hi
    · obtain ⟨h1, h2⟩ := H2.items it hi
      refine ⟨h1, fun b hf => ⟨.inl ?_, (h2 b hf).2⟩⟩
      have := (h2 b hf).1.resolve_right id
      exact Nat.le_trans H.baseX.size this
  · have h1 := ((H.items x hx).2 b hf).2
    have h2 := ((H2.items y hy).2 b hg).1.resolve_right id
    omega
/-- What a callee hands back is nil, or what it was given. -/
def PassR {α : Type} (v va : Value) (ys xs : List α) : Prop := (v = .slice none 0 0 ∧ ys = []) ∨ (v = va ∧ ys = xs)
theorem PassR.sliceR {α : Type} [Ty α] {w : World} {v va : Value} {ys xs : List α} (h : PassR v va ys xs) (hs : SliceR w va xs) : SliceR w v ys := by
  rcases h with ⟨rfl, rfl⟩ | ⟨rfl, rfl⟩
  · exact SliceR.nil
  · exact hs
theorem InvD.pass {α : Type} [Flat α] {X : Nat → Prop} {w0 w : World} {L : List Item} (H : InvD X w0 w L) (i : Nat) {v va : Value} {ys xs : List α} {E : TypeId} (hi : L[i]? = some (ownI va E xs)) (h : PassR v va ys xs) : InvD X w0 w (L.set i (ownI v E ys)) := by
  rcases h with ⟨rfl, rfl⟩ | ⟨rfl, rfl⟩
  · exact H.upd i _ _ hi ⟨rfl, rfl, rfl, Nat.le_refl _, fun _ _ _ => rfl⟩ ⟨by simp, .inl ⟨rfl, rfl⟩⟩ (by intro b hb; cases hb)
  · exact H.upd i _ _ hi ⟨rfl, rfl, rfl, Nat.le_refl _, fun _ _ _ => rfl⟩ (H.items _ (List.mem_of_getElem? hi)).1 (fun b hb => ⟨((H.items _ (List.mem_of_getElem? hi)).2 b hb).2, .inl hb⟩)
section
variable {P : Program} {n : Nat} {ds : Md} {ops : Array Oper} {rest : List Oper} {K : Fr → World → Prop} {f : Fr} {Dq : Nat → Prop} {w w0 : World} {L : List Item} {T T' T0 : TypeId} {pos : String} {aft : Array Edge}
  {g : Option (Nat × Bool)} {d : Nat}
theorem O.lenStr {s : Operand} {a : ByteArray} (hT : P.underlying T = some .string) (hg : want ops g f = true) (hd : Nat.blt d n = true) (hs : ev f s = .string a)
    (h : WL P n ds ops rest K (upd f d (.int .i64 (a.size : Int))) w) : WL P n ds ops (⟨some d, .call ⟨.builtin .len, #[s], #[T]⟩, T0, pos, aft, g⟩ :: rest) K f w := by
  refine WL.val hg hd ?_ h
  simp [execOp, resolve, invoke, builtin, hs, Builtin.len_, run_underlying hT, goInt]
theorem toList_beq (a b : ByteArray) : (a.toList == b.toList) = decide (a = b) := by rw [← beq_toListBytes, beq_bytes]
theorem O.eqlS {x y : Operand} {a b : ByteArray} (hg : want ops g f = true) (hd : Nat.blt d n = true) (hx : ev f x = .string a) (hy : ev f y = .string b)
    (h : WL P n ds ops rest K (upd f d (.bool (decide (a = b)))) w) : WL P n ds ops (⟨some d, .binOp .eql T x y T', T0, pos, aft, g⟩ :: rest) K f w :=
  WL.val hg hd (by simp [execOp, eqGuard, hx, hy, binOp, Op.stringOp, toList_beq]) h
theorem O.neqS {x y : Operand} {a b : ByteArray} (hg : want ops g f = true) (hd : Nat.blt d n = true) (hx : ev f x = .string a) (hy : ev f y = .string b)
    (h : WL P n ds ops rest K (upd f d (.bool (!decide (a = b)))) w) : WL P n ds ops (⟨some d, .binOp .neq T x y T', T0, pos, aft, g⟩ :: rest) K f w :=
  WL.val hg hd (by simp [execOp, eqGuard, hx, hy, binOp, Op.stringOp, toList_beq]) h
theorem O.lssS {x y : Operand} {a b : ByteArray} (hg : want ops g f = true) (hd : Nat.blt d n = true) (hx : ev f x = .string a) (hy : ev f y = .string b)
    (h : WL P n ds ops rest K (upd f d (.bool (Op.bytesLess a.toList b.toList))) w) : WL P n ds ops (⟨some d, .binOp .lss T x y T', T0, pos, aft, g⟩ :: rest) K f w :=
  WL.val hg hd (by simp [execOp, eqGuard, hx, hy, binOp, Op.stringOp]) h
/-- '+' of two strings. -/
def catI (a b : ByteArray) : Option ByteArray := if a.size + b.size ≤ 1099511627776 then some (a ++ b) else none
theorem O.addS {x y : Operand} {a b c : ByteArray} (hg : want ops g f = true) (hd : Nat.blt d n = true) (hx : ev f x = .string a) (hy : ev f y = .string b) (hc : catI a b = some c)
    (h : WL P n ds ops rest K (upd f d (.string c)) w) : WL P n ds ops (⟨some d, .binOp .add T x y T', T0, pos, aft, g⟩ :: rest) K f w := by
  unfold catI at hc
  split at hc
  · rename_i hl
    cases hc
    refine WL.val hg hd ?_ h
    have h1 : ¬ ((a.size + b.size : Nat) : Int) > IntKind.i64.max := by
      have : IntKind.i64.max = 9223372036854775807 := rfl
      omega
    simp only [execOp, eqGuard, hx, hy, binOp, Op.stringOp, if_neg h1]
    rfl
  · cases hc
/-- A conversion between kinds of whole numbers. -/
def cvI (k : IntKind) (a : Int) : Option Int := if k.wrap a = a then some a else none
theorem cvI_some {k : IntKind} {a c : Int} (h : cvI k a = some c) : k.wrap a = a ∧ a = c := by
  unfold cvI at h; split at h
  · rename_i hk; exact ⟨hk, Option.some.inj h⟩
  · cases h
theorem O.convI {S : TypeId} {k kd : IntKind} {x : Operand} {a c : Int} (hS : (P.underlying S).isSome = true) (hT : P.underlying T = some (.int kd)) (hc : cvI kd a = some c) (hg : want ops g f = true) (hd : Nat.blt d n = true) (hx : ev f x = .int k a)
    (h : WL P n ds ops rest K (upd f d (.int kd c)) w) : WL P n ds ops (⟨some d, .convert S T x, T0, pos, aft, g⟩ :: rest) K f w := by
  obtain ⟨h1, rfl⟩ := cvI_some hc
  have hk : P.intKind T = kd := by simp [Program.intKind, hT]
  have hr := run_convert_int (P := P) w S T k a hS (by rw [hk]; exact hT)
  rw [hk, h1] at hr
  refine WL.val hg hd ?_ h
  simp only [execOp, hx, Sem.run_bind, hr, Result.andThen_ok, Sem.run_pure]
/-- '[]byte(s)': read, and not written. -/
def bytesI (s : ByteArray) : Option (List UInt8) := if s.size ≤ 1099511627776 then some (bytes s) else none
theorem O.bytesOf {S E : TypeId} {x : Operand} {s : ByteArray} {xs : List UInt8} (hS : P.underlying S = some .string) (hT : P.underlying T = some (.slice E)) (hE : P.underlying E = some (.int .u8)) (hc : bytesI s = some xs) (hg : want ops g f = true) (hd : Nat.blt d n = true)
    (hx : ev f x = .string s) (h : ∀ v w', Below w.heap.size w w' → SliceR w' v xs → WL P n ds ops rest K (upd f d v) w') : WL P n ds ops (⟨some d, .convert S T x, T0, pos, aft, g⟩ :: rest) K f w := by
  unfold bytesI at hc
  split at hc
  · rename_i hl
    cases hc
    have hr := run_bytes_of_string (P := P) w S T E s hS hT hE
    have hge := grownCap_ge w s.size 0 E
    have hcm : grownCap w s.size 0 E ≤ maxLen := grownCap_le_maxLen w s.size 0 E (by unfold maxLen; omega)
    obtain ⟨cs, hcs⟩ : ∃ cs, cs = bytesRow s (grownCap w s.size 0 E) := ⟨_, rfl⟩
    rw [← hcs] at hr
    have hb : Below w.heap.size w (w.drew.alloc (.cells cs E (cs.size, cs.size + 1))) := Below.trans (b := w.drew) ⟨rfl, rfl, rfl, Nat.le_refl _, fun _ _ => rfl⟩ (below_alloc w.drew _)
    refine WL.val hg hd ?_ (h (.slice (some ⟨w.heap.size, 0, none⟩) s.size (grownCap w s.size 0 E)) _ hb ?_)
    · simp only [execOp, hx, Sem.run_bind, hr, Result.andThen_ok, Sem.run_pure]
    · refine ⟨by rw [bytes_len]; unfold maxLen; omega, .inr ⟨_, _, by rw [bytes_len], by rw [bytes_len]; exact hge, hcm, fun i x hi => ?_⟩⟩
      rw [Addr.add_lit]
      refine ⟨rfl, Flat.cells x, rfl, fun j c hj => ?_⟩
      have hj0 : j = 0 ∧ c = .int .u8 x.toNat := by
        cases j with
        | zero => simp [Flat.cells] at hj; exact ⟨rfl, hj.symm⟩
        | succ j => simp [Flat.cells] at hj
      obtain ⟨rfl, rfl⟩ := hj0
      rw [Addr.add_lit]
      have hnew : (w.drew.alloc (.cells cs E (cs.size, cs.size + 1))).heap[w.heap.size]? = some (.cells cs E (cs.size, cs.size + 1)) := alloc_at w.drew _
      have hsz : Ty.size UInt8 = 1 := rfl
      simp only [World.cell?, hnew, hsz, Nat.mul_one, Nat.zero_add, Nat.add_zero]
      have hi' : i < s.data.size := by
        have := (List.getElem?_eq_some_iff.1 hi).1
        simpa [bytes] using this
      have hx2 : s.data[i] = x := by
        have := (List.getElem?_eq_some_iff.1 hi).2
        simpa [bytes] using this
      rw [hcs]
      unfold bytesRow
      rw [Array.getElem?_append_left (by simpa using hi'), Array.getElem?_map, Array.getElem?_eq_getElem hi', hx2]
      rfl
  · cases hc
/-- 's[i]' of a string. -/
theorem O.indexStr {s ix : Operand} {a : ByteArray} {i : Int} {x : UInt8} (hT : P.underlying T = some .string) (hi : idx (bytes a) i = some x) (hg : want ops g f = true) (hd : Nat.blt d n = true) (hs : ev f s = .string a) (hx : ev f ix = .int .i64 i)
    (h : WL P n ds ops rest K (upd f d (.int .u8 x.toNat)) w) : WL P n ds ops (⟨some d, .index T s ix, T0, pos, aft, g⟩ :: rest) K f w := by
  obtain ⟨h0, h1, h2⟩ := idx_some hi
  refine WL.val hg hd ?_ h
  have hlt : i.toNat < a.size := by rw [bytes_len] at h1; omega
  have hb : a[i.toNat]? = some x := by
    have h3 : a.data[i.toNat]? = some x := by simpa [bytes] using h2
    rw [getElem?_pos a i.toNat hlt]
    have h4 := (Array.getElem?_eq_some_iff.1 h3).2
    exact congrArg some h4
  simp only [execOp, hs, hx, Instr.index, asIntOf, Sem.run_bind, Sem.run_pure, Result.andThen_ok, run_underlying hT, if_pos h0, hb]
end
end Go.Fw
