/-
  THE FRAMEWORK, PART X: ranges over strings of ASCII; strconv.Itoa, over its listed table. No program in it.
-/
import Derived.Test.YtnkncedhanainaaGreatDoorFwV
import Derived.Shelf.Slices.Reverse
import Derived.Lib.OthersKept
import Derived.Laws.RangeString
import Derived.Shelf.Strconv.Itoa3
import Derived.Lib.ItoaLen
namespace Go.Fw
open Go.RowKit
/-- strconv's table of powers is as its text lays it. -/
def TabH (P : Program) (w : World) : Prop := Lib.TabIs P w "internal/strconv.uint64pow10" .u64 Lib.pow10Tab
theorem TabH.mono {P : Program} {w w' : World} (h : TabH P w) (hb : Below w.heap.size w w') : TabH P w' := by
  unfold TabH Lib.TabIs World.var? at *
  cases hg : P.globalNamed "internal/strconv.uint64pow10" with
  | none => rw [hg] at h; simp at h
  | some g =>
    rw [hg] at h
    simp only [Option.bind_some] at h ⊢
    cases hc : w.heap[g]? with
    | none => rw [hc] at h; simp at h
    | some o => rw [hb.block g (heap_lt hc)]; exact h
theorem below_grown (w : World) (q : Nat) (os : Array Obj) : Below w.heap.size w (Sort.grow (w.drewN q) os) := by
  refine ⟨rfl, rfl, rfl, ?_, fun k hk => ?_⟩
  · show w.heap.size ≤ (w.heap ++ os).size
    rw [Array.size_append]; omega
  · show (w.heap ++ os)[k]? = w.heap[k]?
    rw [Array.getElem?_append_left hk]
theorem c_Itoa {P : Program} {ρ : Go.Shelf.Ren} (L : Go.Proofs.LaysM.n171 P ρ) {w0 : World} (hT : TabH P w0) (m : Nat) (hm : (m : Int) ≤ 9223372036854775807) :
    Calls P (ρ.f 171) #[.int .i64 (m : Int)] w0 (Ret w0 fun _ v => v = .string ⟨(Lib.decDigits m).toArray⟩) := by
  refine (Go.Proofs.Any.strconv_Itoa L (m : Int) (by omega) hm w0 hT).mono ?_
  rintro e w' ⟨rfl, k, os, rfl⟩
  exact ⟨_, rfl, below_grown _ _ _, by rw [Lib.itoa_nonneg]⟩
theorem dec_bytes (u : Nat) : ∀ b ∈ Lib.decDigits u, 48 ≤ b.toNat ∧ b.toNat ≤ 57 := by
  induction u using Nat.strongRecOn with
  | ind u ih =>
    intro b hb
    rw [Lib.decDigits] at hb
    split at hb
    · rename_i h
      rw [List.mem_singleton.1 hb]
      rw [UInt8.toNat_ofNat']; omega
    · rename_i h
      rcases List.mem_append.1 hb with hb | hb
      · exact ih (u / 10) (by omega) b hb
      · rw [List.mem_singleton.1 hb, UInt8.toNat_ofNat']; omega
def strI (b : Nat) (s : ByteArray) (pos : Nat) : Item := ⟨fun x => x = b, fun w => w.heap[b]? = some (.stringIter s pos), fun _ _ _ h h' => (h b rfl).trans h'⟩
def heldI (b : Nat) (o : Obj) : Item := ⟨fun x => x = b, fun w => w.heap[b]? = some o, fun _ _ _ h h' => (h b rfl).trans h'⟩
section
variable {P : Program} {n : Nat} {ds : Md} {ops : Array Oper} {rest : List Oper} {K : Fr → World → Prop} {f : Fr} {Dq : Nat → Prop} {w w0 : World} {L : List Item} {T T0 : TypeId} {T' : TypeId} {pos : String} {aft : Array Edge} {g : Option (Nat × Bool)} {d : Nat}
theorem O.bytesHeld {S E : TypeId} {x : Operand} {s : ByteArray} {xs : List UInt8} (hS : P.underlying S = some .string) (hT : P.underlying T = some (.slice E)) (hE : P.underlying E = some (.int .u8)) (hc : bytesI s = some xs) (H : InvD Dq w0 w L) (hg : want ops g f = true) (hd : Nat.blt d n = true)
    (hx : ev f x = .string s) (h : ∀ v w' b o, InvD Dq w0 w' (L ++ [heldI b o]) → Below w.heap.size w w' → (∀ w2 : World, w2.heap[b]? = some o → SliceR w2 v xs) → WL P n ds ops rest K (upd f d v) w') : WL P n ds ops (⟨some d, .convert S T x, T0, pos, aft, g⟩ :: rest) K f w := by
  unfold bytesI at hc
  split at hc
  · rename_i hl
    cases hc
    have hr := run_bytes_of_string (P := P) w S T E s hS hT hE
    have hge := grownCap_ge w s.size 0 E
    have hcm : grownCap w s.size 0 E ≤ maxLen := grownCap_le_maxLen w s.size 0 E (by unfold maxLen; omega)
    obtain ⟨cs, hcs⟩ : ∃ cs, cs = bytesRow s (grownCap w s.size 0 E) := ⟨_, rfl⟩
    rw [← hcs] at hr
    have hb : Below w.heap.size w (w.drew.alloc (.cells cs E (cs.size, cs.size + 1))) := Below.trans (b := w.drew) ⟨rfl, rfl, rfl, Nat.le_refl _, fun _ _ => rfl⟩ (below_alloc w.drew _)
    refine WL.val hg hd ?_ (h (.slice (some ⟨w.heap.size, 0, none⟩) s.size (grownCap w s.size 0 E)) _ w.heap.size (.cells cs E (cs.size, cs.size + 1)) (H.add hb _ (alloc_at w.drew _) (alloc_fp w.drew _)) hb ?_)
    · simp only [execOp, hx, Sem.run_bind, hr, Result.andThen_ok, Sem.run_pure]
    · intro w2 hnew
      refine ⟨by rw [bytes_len]; unfold maxLen; omega, .inr ⟨_, _, by rw [bytes_len], by rw [bytes_len]; exact hge, hcm, fun i x hi => ?_⟩⟩
      rw [Addr.add_lit]
      refine ⟨rfl, Flat.cells x, rfl, fun j c hj => ?_⟩
      have hj0 : j = 0 ∧ c = .int .u8 x.toNat := by
        cases j with
        | zero => simp [Flat.cells] at hj; exact ⟨rfl, hj.symm⟩
        | succ j => simp [Flat.cells] at hj
      obtain ⟨rfl, rfl⟩ := hj0
      rw [Addr.add_lit]
      have hsz : Ty.size UInt8 = 1 := rfl
      simp only [World.cell?, hnew, hsz, Nat.mul_one, Nat.zero_add, Nat.add_zero]
      have hi' : i < s.data.size := by
        have := (List.getElem?_eq_some_iff.1 hi).1
        simpa [bytes] using this
      have hx2 : s.data[i] = x := by
        have := (List.getElem?_eq_some_iff.1 hi).2
        simpa [bytes] using this
      rw [hcs]
      unfold bytesRow
      rw [Array.getElem?_append_left (by simpa using hi'), Array.getElem?_map, Array.getElem?_eq_getElem hi', hx2]
      rfl
  · cases hc
theorem O.rangeS {x : Operand} {s : ByteArray} (hT : P.underlying T = some .string) (H : InvD Dq w0 w L) (hg : want ops g f = true) (hd : Nat.blt d n = true)
    (hx : ev f x = .string s) (h : ∀ b w', InvD Dq w0 w' (L ++ [strI b s 0]) → Below w.heap.size w w' → WL P n ds ops rest K (upd f d (.pointer (some ⟨b, 0, none⟩))) w') :
    WL P n ds ops (⟨some d, .range T x, T0, pos, aft, g⟩ :: rest) K f w := by
  refine WL.val hg hd (w' := w.alloc (.stringIter s 0)) (v := .pointer (some ⟨w.heap.size, 0, none⟩)) ?_ (h _ _ (H.add (below_alloc _ _) _ (alloc_at _ _) (alloc_fp _ _)) (below_alloc _ _))
  have hr := Go.run_range_string w T s hT
  simp only [execOp, hx, Sem.run_bind, hr, Result.andThen_ok, Sem.run_pure]
  rfl
theorem O.nextS {x : Operand} {b at_ : Nat} {s : ByteArray} (i : Nat) (H : InvD Dq w0 w L) (hi : L[i]? = some (strI b s at_)) (hlt : at_ < s.size) (ha : (s[at_]'hlt).toNat < 128) (hg : want ops g f = true) (hd : Nat.blt d n = true) (hx : ev f x = .pointer (some ⟨b, 0, none⟩))
    (hs : ∀ w', InvD Dq w0 w' (L.set i (strI b s (at_ + 1))) → WL P n ds ops rest K (upd f d (.tuple #[.bool true, .int .i64 at_, .int .i32 (s[at_]'hlt).toNat])) w') :
    WL P n ds ops (⟨some d, .next x true, T0, pos, aft, g⟩ :: rest) K f w := by
  have hbk : w.heap[b]? = some (.stringIter s at_) := (H.items _ (List.mem_of_getElem? hi)).1
  have hltb := heap_lt hbk
  have hheap : (w.iterAt b s (at_ + 1)).heap = w.heap.setIfInBounds b (.stringIter s (at_ + 1)) := rfl
  have hrun := Go.Lib.run_next_ascii_at (P := P) w b s at_ T0 hbk hlt ha
  refine WL.val hg hd (w' := w.iterAt b s (at_ + 1)) (v := .tuple #[.bool true, .int .i64 at_, .int .i32 (s[at_]'hlt).toNat]) ?_ (hs _ (H.upd i _ _ hi ⟨rfl, rfl, rfl, by rw [hheap]; simp, fun k _ hk => ?_⟩ ?_ (fun x hx => ⟨by
      obtain rfl : x = b := hx
      rw [hheap]; simp; exact hltb, .inl hx⟩)))
  · simp only [execOp, hx, Sem.run_bind, hrun, Result.andThen_ok, Sem.run_pure]
  · have hk' : b ≠ k := fun e => hk e.symm
    rw [hheap]
    simp [hk']
  · show (w.iterAt b s (at_ + 1)).heap[b]? = some (.stringIter s (at_ + 1))
    rw [hheap]; exact heap_set hltb
theorem O.nextR {x : Operand} {b at_ : Nat} {s : ByteArray} (i : Nat) (H : InvD Dq w0 w L) (hi : L[i]? = some (strI b s at_)) (hlt : at_ < s.size) (hg : want ops g f = true) (hd : Nat.blt d n = true) (hx : ev f x = .pointer (some ⟨b, 0, none⟩))
    (hs : ∀ w', InvD Dq w0 w' (L.set i (strI b s (at_ + (Utf8.decode s at_).2))) → WL P n ds ops rest K (upd f d (.tuple #[.bool true, .int .i64 at_, .int .i32 (Utf8.decode s at_).1])) w') :
    WL P n ds ops (⟨some d, .next x true, T0, pos, aft, g⟩ :: rest) K f w := by
  have hbk : w.heap[b]? = some (.stringIter s at_) := (H.items _ (List.mem_of_getElem? hi)).1
  have hltb := heap_lt hbk
  have hheap : (w.iterAt b s (at_ + (Utf8.decode s at_).2)).heap = w.heap.setIfInBounds b (.stringIter s (at_ + (Utf8.decode s at_).2)) := rfl
  have hrun := Go.Lib.run_next_any_at (P := P) w b s at_ T0 hbk hlt
  refine WL.val hg hd (w' := w.iterAt b s (at_ + (Utf8.decode s at_).2)) (v := .tuple #[.bool true, .int .i64 at_, .int .i32 (Utf8.decode s at_).1]) ?_ (hs _ (H.upd i _ _ hi ⟨rfl, rfl, rfl, by rw [hheap]; simp, fun k _ hk => ?_⟩ ?_ (fun x hx => ⟨by
      obtain rfl : x = b := hx
      rw [hheap]; simp; exact hltb, .inl hx⟩)))
  · simp only [execOp, hx, Sem.run_bind, hrun, Result.andThen_ok, Sem.run_pure]
  · have hk' : b ≠ k := fun e => hk e.symm
    rw [hheap]
    simp [hk']
  · show (w.iterAt b s (at_ + (Utf8.decode s at_).2)).heap[b]? = some (.stringIter s (at_ + (Utf8.decode s at_).2))
    rw [hheap]; exact heap_set hltb
theorem O.endS {x : Operand} {b at_ : Nat} {s : ByteArray} (i : Nat) (H : InvD Dq w0 w L) (hi : L[i]? = some (strI b s at_)) (hlt : ¬ at_ < s.size) (hg : want ops g f = true) (hd : Nat.blt d n = true) (hx : ev f x = .pointer (some ⟨b, 0, none⟩))
    (h : WL P n ds ops rest K (upd f d (.tuple #[.bool false])) w) : WL P n ds ops (⟨some d, .next x true, T0, pos, aft, g⟩ :: rest) K f w := by
  have hbk : w.heap[b]? = some (.stringIter s at_) := (H.items _ (List.mem_of_getElem? hi)).1
  refine WL.val hg hd ?_ h
  simp only [execOp, hx, Sem.run_bind, Go.Lib.run_next_end_at (P := P) w b s at_ T0 hbk hlt, Result.andThen_ok, Sem.run_pure]
theorem O.sub32 {x y : Operand} {a b : Int} (hg : want ops g f = true) (hd : Nat.blt d n = true) (hx : ev f x = .int .i32 a) (hy : ev f y = .int .i32 b) (hr : IntKind.i32.wrap (a - b) = a - b)
    (h : WL P n ds ops rest K (upd f d (.int .i32 (a - b))) w) : WL P n ds ops (⟨some d, .binOp .sub T x y T', T0, pos, aft, g⟩ :: rest) K f w :=
  WL.val hg hd (by simp [execOp, eqGuard, hx, hy, binOp, Op.intArith, hr]) h
end
/-! What the library does to a row of ints in its place. -/
section
open Go.Sort
def turnL {α : Type} (srt : List α → List α) (xs : List α) : Option (List α) := if xs.length ≤ 1099511627776 then some (srt xs) else none
def TurnsI (P : Program) (k : FuncId) (g1 : List Int → List Int) : Prop :=
  (∀ xs, (g1 xs).length = xs.length) ∧ g1 [] = [] ∧
  (∀ (blk off cap : Nat) (zs : List Int) (w : World), Holds (Value.int .i64) w blk off zs.toArray → blk < w.heap.size → zs.length < 4611686018427387904 →
    Calls P k #[.slice (some ⟨blk, off, none⟩) zs.length cap] w fun e w' => e = .returned (.tuple #[]) ∧ ∃ n os, w' = grow (putRow (Value.int .i64) (Sort.ahead w n) blk off (g1 zs).toArray) os) ∧
  ∀ (p : Option Addr) (cap : Nat) (w : World), Calls P k #[.slice p 0 cap] w fun e w' => e = .returned (.tuple #[]) ∧ w' = w
variable {P : Program} {n : Nat} {ds : Md} {ops : Array Oper} {rest : List Oper} {K : Fr → World → Prop} {f : Fr} {Dq : Nat → Prop} {w w0 : World} {L : List Item} {T T0 : TypeId} {pos : String} {aft : Array Edge} {g : Option (Nat × Bool)} {d : Nat}
end
end Go.Fw
