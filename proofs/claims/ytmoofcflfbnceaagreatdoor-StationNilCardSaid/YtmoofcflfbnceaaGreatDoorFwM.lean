/-
  THE FRAMEWORK, PART M: slices that are made; prefixes of slices that the call owns; room for more.
-/
import Derived.Test.YtmoofcflfbnceaaGreatDoorFwL
import Derived.Lib.AppendZerosOnto
import Derived.Laws.IdiomStrings
namespace Go.Fw
open Go.RowKit

def ZElemT (P : Program) {α : Type} [Flat α] (E : TypeId) (x0 : α) (bytes : Nat) : Prop := ∃ i z, P.info? E = some i ∧ i.zero = some z ∧ i.size = Flat.size α ∧ i.bytes = bytes ∧ z.cells = (Flat.cells x0).toArray
theorem ZElemT.mk {P : Program} {α : Type} [Flat α] {E bytes : Nat} {x0 : α} {z : Value} (h : (P.info? E).map (fun i => (i.zero, i.size, i.bytes)) = some (some z, Flat.size α, bytes)) (hz : z.cells = (Flat.cells x0).toArray) : ZElemT P E x0 bytes := by
  obtain ⟨i, hi, e⟩ := Option.map_eq_some_iff.1 h
  simp only [Prod.mk.injEq] at e
  exact ⟨i, z, hi, e.1, e.2.1, e.2.2, hz⟩

theorem repl_get {α : Type} [Flat α] (x0 : α) (n j : Nat) (hj : j < n * Flat.size α) : ((List.replicate n x0).flatMap Flat.cells)[j]? = (Flat.cells x0)[j % Flat.size α]? := by
  have hpos := Flat.pos (α := α)
  have hdiv : j / Flat.size α < n := by rw [Nat.div_lt_iff_lt_mul hpos]; exact hj
  have hmod : j % Flat.size α < (Flat.cells x0).length := by rw [Flat.len]; exact Nat.mod_lt _ hpos
  have h := flat_getElem (List.replicate n x0) (j / Flat.size α) x0 (by simp [hdiv]) (j % Flat.size α) _ (List.getElem?_eq_getElem hmod)
  rw [show j / Flat.size α * Flat.size α + j % Flat.size α = j by rw [Nat.mul_comm]; exact Nat.div_add_mod _ _] at h
  rw [h, List.getElem?_eq_getElem hmod]
theorem zeros_list {α : Type} [Flat α] (x0 : α) (n : Nat) (f : Nat → Value) (hf : ∀ j, f j = (Flat.cells x0).toArray[j % (Flat.cells x0).toArray.size]!) :
    ((Array.range (n * Flat.size α)).map f).toList = (List.replicate n x0).flatMap Flat.cells := by
  apply List.ext_getElem?
  intro j
  by_cases hj : j < n * Flat.size α
  · have hpos := Flat.pos (α := α)
    rw [repl_get x0 n j hj]
    have hmod : j % Flat.size α < (Flat.cells x0).length := by rw [Flat.len]; exact Nat.mod_lt _ hpos
    simp only [Array.toList_map, List.getElem?_map, Array.toList_range, List.getElem?_range hj, Option.map_some, hf]
    have hl : (Flat.cells x0).toArray.size = Flat.size α := by simp [Flat.len]
    rw [hl, List.getElem?_eq_getElem hmod]
    congr 1
    simp [hmod]
  · rw [List.getElem?_eq_none (by simp; omega), List.getElem?_eq_none (by rw [flat_length, List.length_replicate]; omega)]

def makI {α : Type} (x0 : α) (n : Int) : Option (List α) := if 0 ≤ n ∧ n ≤ 1099511627776 then some (List.replicate n.toNat x0) else none
theorem makI_some {α : Type} {x0 : α} {n : Int} {xs : List α} (h : makI x0 n = some xs) : 0 ≤ n ∧ n ≤ 1099511627776 ∧ xs = List.replicate n.toNat x0 := by
  unfold makI at h
  split at h
  · rename_i hl; exact ⟨hl.1, hl.2, (Option.some.inj h).symm⟩
  · cases h

def preI {α : Type} (xs : List α) (k : Int) : Option (List α) := if 0 ≤ k ∧ k ≤ (xs.length : Int) then some (xs.take k.toNat) else none
theorem preI_some {α : Type} {xs ys : List α} {k : Int} (h : preI xs k = some ys) : 0 ≤ k ∧ k ≤ (xs.length : Int) ∧ ys = xs.take k.toNat := by
  unfold preI at h
  split at h
  · rename_i hl; exact ⟨hl.1, hl.2, (Option.some.inj h).symm⟩
  · cases h

section
variable {P : Program} {n : Nat} {ds : Md} {ops : Array Oper} {rest : List Oper} {K : Fr → World → Prop} {f : Fr} {Dq : Nat → Prop} {w w0 : World} {L : List Item} {T T' Tn T0 : TypeId} {pos : String} {aft : Array Edge}
  {g : Option (Nat × Bool)} {d : Nat}

theorem O.makeSlice {α : Type} [Flat α] {E bytes : Nat} {x y : Operand} {m : Int} {k k' : IntKind} {x0 : α} {xs : List α} (hT : P.underlying T = some (.slice E)) (hE : ZElemT P E x0 bytes) (hb : Nat.ble bytes 128 = true) (H : InvD Dq w0 w L)
    (hm : makI x0 m = some xs) (hg : want ops g f = true) (hd : Nat.blt d n = true) (hx : ev f x = .int k m) (hy : ev f y = .int k' m)
    (h : ∀ v w', InvD Dq w0 w' (L ++ [ownI v E xs]) → Below w.heap.size w w' → WL P n ds ops rest K (upd f d v) w') : WL P n ds ops (⟨some d, .makeSlice T x y, T0, pos, aft, g⟩ :: rest) K f w := by
  obtain ⟨h0, h1, rfl⟩ := makI_some hm
  obtain ⟨i, z, hi, hz, hsz, hby, hzc⟩ := hE
  obtain ⟨l, rfl⟩ : ∃ l : Nat, m = (l : Int) := ⟨m.toNat, by omega⟩
  have hb := Nat.le_of_ble_eq_true hb
  have hbl : i.bytes * l ≤ 281474976710656 := by
    rw [hby]
    have : bytes * l ≤ 128 * 1099511627776 := Nat.mul_le_mul hb (by omega)
    omega
  obtain ⟨w', hrun, how, hgr⟩ := run_make_full (P := P) w w.heap.size T E i z (Flat.size α) hT hi hz hsz k k' l hbl (by unfold maxLen; omega) (Nat.le_refl _)
  have hbel : Below w.heap.size w w' := ⟨hgr.os, hgr.tape, hgr.output, hgr.size, fun k hk => hgr.block k hk (by simp)⟩
  refine WL.val hg hd (w' := w') (v := .slice (some ⟨w.heap.size, 0, none⟩) l l) ?_ (h _ _ (H.addOwn hbel ?_) hbel)
  · simp only [execOp, hx, hy, Sem.run_bind, hrun, Result.andThen_ok, Sem.run_pure]
  · have hl : madeCells z.cells (l * Flat.size α) = (Array.range (l * Flat.size α)).map (fun j => (Flat.cells x0).toArray[j % (Flat.cells x0).toArray.size]!) := by rw [hzc]; rfl
    rw [hl, zeros_list x0 l _ (fun _ => rfl)] at how
    show w'.ownsRow w.heap.size E (Flat.size α) _ (List.replicate l x0).length ((List.replicate l x0).flatMap Flat.cells)
    rw [List.length_replicate]
    exact how

theorem O.sliceOwn {α : Type} [Flat α] {E : Nat} {s b : Operand} {v : Value} {xs ys : List α} {k : Int} (i : Nat) (hT : P.underlying T = some (.slice E)) (hE : SizeT P E (Flat.size α)) (H : InvD Dq w0 w L) (hi : L[i]? = some (ownI v E xs)) (hk : preI xs k = some ys)
    (hg : want ops g f = true) (hd : Nat.blt d n = true) (hs : ev f s = v) (hb : ev f b = .int .i64 k)
    (h : ∀ v', InvD Dq w0 w (L.set i (ownI v' E ys)) → WL P n ds ops rest K (upd f d v') w) : WL P n ds ops (⟨some d, .slice T s none (some b) none, T0, pos, aft, g⟩ :: rest) K f w := by
  obtain ⟨h0, h1, rfl⟩ := preI_some hk
  obtain ⟨l, rfl⟩ : ∃ l : Nat, k = (l : Int) := ⟨k.toNat, by omega⟩
  have he := elem_of hT
  have hT' : P.underlying T = some (.slice (P.elem T)) := by rw [he]; exact hT
  obtain ⟨hok, hfp⟩ := H.items _ (List.mem_of_getElem? hi)
  have hown : w.ownsRow 0 E (Flat.size α) v xs.length (xs.flatMap Flat.cells) := hok
  have hlen : (xs.take l).length = l := by rw [List.length_take]; omega
  obtain ⟨_, ⟨rfl, hn⟩ | ⟨gb, cap, cur, rfl, hgb, hh, hnc, hcm, hcs, htake⟩⟩ := hown
  · obtain rfl := List.eq_nil_of_length_eq_zero hn
    have hl0 : l = 0 := by simpa using h1
    subst hl0
    refine WL.val hg hd (v := .slice none 0 0) ?_ (h _ (H.upd i _ _ hi ⟨rfl, rfl, rfl, Nat.le_refl _, fun _ _ _ => rfl⟩ ⟨by simp, .inl ⟨rfl, by simp⟩⟩ (by intro b hb; cases hb)))
    have hb' : ev f b = .int .i64 0 := hb
    simp only [execOp, Option.map_some, Option.map_none, hs, hb', Sem.run_bind, run_sliceAt_slice w T _ _ _ _ hT', run_slice_h w T none 0 0 hT' .i64 0 (by omega) (by omega), he, run_sizeOf' hE, Result.andThen_ok, Sem.run_pure]
    rfl
  · refine WL.val hg hd (v := .slice (some ⟨gb, 0, none⟩) l cap) ?_ (h _ (H.upd i _ _ hi ⟨rfl, rfl, rfl, Nat.le_refl _, fun _ _ _ => rfl⟩ ?_ ?_))
    · simp only [execOp, Option.map_some, Option.map_none, hs, hb, Sem.run_bind, run_sliceAt_slice w T _ _ _ _ hT', run_slice_h w T _ _ cap hT' .i64 l h0 (by omega), he, run_sizeOf' hE, Result.andThen_ok, Sem.run_pure]
      unfold sliced
      by_cases hc0 : cap = 0
      · rw [if_pos hc0]; simp
      · rw [if_neg hc0]; simp [Addr.add]
    · refine ⟨by rw [flat_length], .inr ⟨gb, cap, cur, by simp [hlen], hgb, hh, by simp only [Int.toNat_natCast, hlen]; omega, hcm, hcs, ?_⟩⟩
      simp only [Int.toNat_natCast, hlen]
      have h3 : cur.toList.take (l * Flat.size α) = (xs.flatMap Flat.cells).take (l * Flat.size α) := by
        rw [← htake, List.take_take, Nat.min_eq_left (Nat.mul_le_mul_right _ (by omega))]
      rw [h3]
      have h4 : xs.flatMap Flat.cells = (xs.take l).flatMap Flat.cells ++ (xs.drop l).flatMap Flat.cells := by rw [← List.flatMap_append, List.take_append_drop]
      rw [h4, List.take_append_of_le_length (by rw [flat_length, hlen]; exact Nat.le_refl _), List.take_of_length_le (by rw [flat_length, hlen]; exact Nat.le_refl _)]
    · rintro b hf
      cases hf
      exact ⟨(hfp gb rfl).2, .inl rfl⟩

theorem max_eq (a b : Int) : (if b > a then b else a) = max a b := by rw [Int.max_def]; split <;> split <;> omega
theorem O.max2 {x y : Operand} {a b : Int} {k k' : IntKind} {ts : Array TypeId} (hg : want ops g f = true) (hd : Nat.blt d n = true) (hx : ev f x = .int k a) (hy : ev f y = .int k' b)
    (h : WL P n ds ops rest K (upd f d (.int k (max a b))) w) : WL P n ds ops (⟨some d, .call ⟨.builtin .max, #[x, y], ts⟩, T0, pos, aft, g⟩ :: rest) K f w := by
  refine WL.val hg hd ?_ h
  simp [execOp, resolve, invoke, builtin, hx, hy, run_max_int2, max_eq]
end
end Go.Fw
namespace Go.Fw
open Go.RowKit
/-! Literals of slices whose elements hold references: they are only read. -/
inductive RepL {α : Type} [Ty α] (w : World) : List Value → List α → Prop
  | nil : RepL w [] []
  | cons {v : Value} {x : α} {vs : List Value} {xs : List α} (h : Ty.rep w v.cells.toList x) (h' : RepL w vs xs) : RepL w (v :: vs) (x :: xs)
section
variable {P : Program} {n : Nat} {ds : Md} {ops : Array Oper} {rest : List Oper} {K : Fr → World → Prop} {f : Fr} {w : World} {T T0 : TypeId} {pos : String} {aft : Array Edge}
  {g : Option (Nat × Bool)} {d : Nat}
end
end Go.Fw
namespace Go.Fw
open Go.RowKit
/-! Strings and bytes. -/
instance : Flat UInt8 := ⟨1, fun a => .int .u8 a.toNat, fun a => [.int .u8 a.toNat], fun _ => rfl, fun _ => rfl, by simp [Value.oneCell'], by decide⟩
def bytes (s : ByteArray) : List UInt8 := s.data.toList
theorem bytes_len (s : ByteArray) : (bytes s).length = s.size := rfl
theorem InvD.addAll {X : Nat → Prop} {w0 w w' : World} {L L2 : List Item} (H : InvD X w0 w L) (hb : Below w.heap.size w w') (H2 : Inv w w' L2) : InvD X w0 w' (L ++ L2) := by
  have H' := H.ext hb
  refine ⟨H'.baseX, fun it hi => ?_, List.pairwise_append.2 ⟨H.apart, H2.apart, fun x hx y hy b hf hg => ?_⟩⟩
  · rcases List.mem_append.1 hi with hi | hi
    · exact H'.items it hi
    · obtain ⟨h1, h2⟩ := H2.items it hi
      refine ⟨h1, fun b hf => ⟨.inl ?_, (h2 b hf).2⟩⟩
      have := (h2 b hf).1.resolve_right id
      exact Nat.le_trans H.baseX.size this
  · have h1 := ((H.items x hx).2 b hf).2
    have h2 := ((H2.items y hy).2 b hg).1.resolve_right id
    omega
def PassR {α : Type} (v va : Value) (ys xs : List α) : Prop := (v = .slice none 0 0 ∧ ys = []) ∨ (v = va ∧ ys = xs)
section
variable {P : Program} {n : Nat} {ds : Md} {ops : Array Oper} {rest : List Oper} {K : Fr → World → Prop} {f : Fr} {Dq : Nat → Prop} {w w0 : World} {L : List Item} {T T' T0 : TypeId} {pos : String} {aft : Array Edge}
  {g : Option (Nat × Bool)} {d : Nat}
theorem O.lenStr {s : Operand} {a : ByteArray} (hT : P.underlying T = some .string) (hg : want ops g f = true) (hd : Nat.blt d n = true) (hs : ev f s = .string a)
    (h : WL P n ds ops rest K (upd f d (.int .i64 (a.size : Int))) w) : WL P n ds ops (⟨some d, .call ⟨.builtin .len, #[s], #[T]⟩, T0, pos, aft, g⟩ :: rest) K f w := by
  refine WL.val hg hd ?_ h
  simp [execOp, resolve, invoke, builtin, hs, Builtin.len_, run_underlying hT, goInt]
theorem toList_beq (a b : ByteArray) : (a.toList == b.toList) = decide (a = b) := by rw [← beq_toListBytes, beq_bytes]
theorem O.eqlS {x y : Operand} {a b : ByteArray} (hg : want ops g f = true) (hd : Nat.blt d n = true) (hx : ev f x = .string a) (hy : ev f y = .string b)
    (h : WL P n ds ops rest K (upd f d (.bool (decide (a = b)))) w) : WL P n ds ops (⟨some d, .binOp .eql T x y T', T0, pos, aft, g⟩ :: rest) K f w :=
  WL.val hg hd (by simp [execOp, eqGuard, hx, hy, binOp, Op.stringOp, toList_beq]) h
theorem O.neqS {x y : Operand} {a b : ByteArray} (hg : want ops g f = true) (hd : Nat.blt d n = true) (hx : ev f x = .string a) (hy : ev f y = .string b)
    (h : WL P n ds ops rest K (upd f d (.bool (!decide (a = b)))) w) : WL P n ds ops (⟨some d, .binOp .neq T x y T', T0, pos, aft, g⟩ :: rest) K f w :=
  WL.val hg hd (by simp [execOp, eqGuard, hx, hy, binOp, Op.stringOp, toList_beq]) h
def catI (a b : ByteArray) : Option ByteArray := if a.size + b.size ≤ 1099511627776 then some (a ++ b) else none
theorem O.addS {x y : Operand} {a b c : ByteArray} (hg : want ops g f = true) (hd : Nat.blt d n = true) (hx : ev f x = .string a) (hy : ev f y = .string b) (hc : catI a b = some c)
    (h : WL P n ds ops rest K (upd f d (.string c)) w) : WL P n ds ops (⟨some d, .binOp .add T x y T', T0, pos, aft, g⟩ :: rest) K f w := by
  unfold catI at hc
  split at hc
  · rename_i hl
    cases hc
    refine WL.val hg hd ?_ h
    have h1 : ¬ ((a.size + b.size : Nat) : Int) > IntKind.i64.max := by
      have : IntKind.i64.max = 9223372036854775807 := rfl
      omega
    simp only [execOp, eqGuard, hx, hy, binOp, Op.stringOp, if_neg h1]
    rfl
  · cases hc
def cvI (k : IntKind) (a : Int) : Option Int := if k.wrap a = a then some a else none
theorem cvI_some {k : IntKind} {a c : Int} (h : cvI k a = some c) : k.wrap a = a ∧ a = c := by
  unfold cvI at h; split at h
  · rename_i hk; exact ⟨hk, Option.some.inj h⟩
  · cases h
theorem O.convI {S : TypeId} {k kd : IntKind} {x : Operand} {a c : Int} (hS : (P.underlying S).isSome = true) (hT : P.underlying T = some (.int kd)) (hc : cvI kd a = some c) (hg : want ops g f = true) (hd : Nat.blt d n = true) (hx : ev f x = .int k a)
    (h : WL P n ds ops rest K (upd f d (.int kd c)) w) : WL P n ds ops (⟨some d, .convert S T x, T0, pos, aft, g⟩ :: rest) K f w := by
  obtain ⟨h1, rfl⟩ := cvI_some hc
  have hk : P.intKind T = kd := by simp [Program.intKind, hT]
  have hr := run_convert_int (P := P) w S T k a hS (by rw [hk]; exact hT)
  rw [hk, h1] at hr
  refine WL.val hg hd ?_ h
  simp only [execOp, hx, Sem.run_bind, hr, Result.andThen_ok, Sem.run_pure]
def bytesI (s : ByteArray) : Option (List UInt8) := if s.size ≤ 1099511627776 then some (bytes s) else none
end
end Go.Fw
