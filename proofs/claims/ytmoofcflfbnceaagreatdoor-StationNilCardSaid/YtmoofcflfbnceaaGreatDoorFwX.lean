/-
  THE FRAMEWORK, PART X: ranges over strings of ASCII; strconv.Itoa, over its listed table. No program in it.
-/
import Derived.Test.YtmoofcflfbnceaaGreatDoorFwV
import Derived.Shelf.Slices.Reverse
import Derived.Lib.OthersKept
import Derived.Laws.RangeString
import Derived.Shelf.Strconv.Itoa3
import Derived.Lib.ItoaLen
namespace Go.Fw
open Go.RowKit
def TabH (P : Program) (w : World) : Prop := Lib.TabIs P w "internal/strconv.uint64pow10" .u64 Lib.pow10Tab
theorem TabH.mono {P : Program} {w w' : World} (h : TabH P w) (hb : Below w.heap.size w w') : TabH P w' := by
  unfold TabH Lib.TabIs World.var? at *
  cases hg : P.globalNamed "internal/strconv.uint64pow10" with
  | none => rw [hg] at h; simp at h
  | some g =>
    rw [hg] at h
    simp only [Option.bind_some] at h ⊢
    cases hc : w.heap[g]? with
    | none => rw [hc] at h; simp at h
    | some o => rw [hb.block g (heap_lt hc)]; exact h
theorem below_grown (w : World) (q : Nat) (os : Array Obj) : Below w.heap.size w (Sort.grow (w.drewN q) os) := by
  refine ⟨rfl, rfl, rfl, ?_, fun k hk => ?_⟩
  · show w.heap.size ≤ (w.heap ++ os).size
    rw [Array.size_append]; omega
  · show (w.heap ++ os)[k]? = w.heap[k]?
    rw [Array.getElem?_append_left hk]
def strI (b : Nat) (s : ByteArray) (pos : Nat) : Item := ⟨fun x => x = b, fun w => w.heap[b]? = some (.stringIter s pos), fun _ _ _ h h' => (h b rfl).trans h'⟩
def heldI (b : Nat) (o : Obj) : Item := ⟨fun x => x = b, fun w => w.heap[b]? = some o, fun _ _ _ h h' => (h b rfl).trans h'⟩
section
variable {P : Program} {n : Nat} {ds : Md} {ops : Array Oper} {rest : List Oper} {K : Fr → World → Prop} {f : Fr} {Dq : Nat → Prop} {w w0 : World} {L : List Item} {T T0 : TypeId} {T' : TypeId} {pos : String} {aft : Array Edge} {g : Option (Nat × Bool)} {d : Nat}
theorem O.bytesHeld {S E : TypeId} {x : Operand} {s : ByteArray} {xs : List UInt8} (hS : P.underlying S = some .string) (hT : P.underlying T = some (.slice E)) (hE : P.underlying E = some (.int .u8)) (hc : bytesI s = some xs) (H : InvD Dq w0 w L) (hg : want ops g f = true) (hd : Nat.blt d n = true)
    (hx : ev f x = .string s) (h : ∀ v w' b o, InvD Dq w0 w' (L ++ [heldI b o]) → Below w.heap.size w w' → (∀ w2 : World, w2.heap[b]? = some o → SliceR w2 v xs) → WL P n ds ops rest K (upd f d v) w') : WL P n ds ops (⟨some d, .convert S T x, T0, pos, aft, g⟩ :: rest) K f w := by
  unfold bytesI at hc
  split at hc
  · rename_i hl
    cases hc
    have hr := run_bytes_of_string (P := P) w S T E s hS hT hE
    have hge := grownCap_ge w s.size 0 E
    have hcm : grownCap w s.size 0 E ≤ maxLen := grownCap_le_maxLen w s.size 0 E (by unfold maxLen; omega)
    obtain ⟨cs, hcs⟩ : ∃ cs, cs = bytesRow s (grownCap w s.size 0 E) := ⟨_, rfl⟩
    rw [← hcs] at hr
    have hb : Below w.heap.size w (w.drew.alloc (.cells cs E (cs.size, cs.size + 1))) := Below.trans (b := w.drew) ⟨rfl, rfl, rfl, Nat.le_refl _, fun _ _ => rfl⟩ (below_alloc w.drew _)
    refine WL.val hg hd ?_ (h (.slice (some ⟨w.heap.size, 0, none⟩) s.size (grownCap w s.size 0 E)) _ w.heap.size (.cells cs E (cs.size, cs.size + 1)) (H.add hb _ (alloc_at w.drew _) (alloc_fp w.drew _)) hb ?_)
    · simp only [execOp, hx, Sem.run_bind, hr, Result.andThen_ok, Sem.run_pure]
    · intro w2 hnew
      refine ⟨by rw [bytes_len]; unfold maxLen; omega, .inr ⟨_, _, by rw [bytes_len], by rw [bytes_len]; exact hge, hcm, fun i x hi => ?_⟩⟩
      rw [Addr.add_lit]
      refine ⟨rfl, Flat.cells x, rfl, fun j c hj => ?_⟩
      have hj0 : j = 0 ∧ c = .int .u8 x.toNat := by
        cases j with
        | zero => simp [Flat.cells] at hj; exact ⟨rfl, hj.symm⟩
        | succ j => simp [Flat.cells] at hj
      obtain ⟨rfl, rfl⟩ := hj0
      rw [Addr.add_lit]
      have hsz : Ty.size UInt8 = 1 := rfl
      simp only [World.cell?, hnew, hsz, Nat.mul_one, Nat.zero_add, Nat.add_zero]
      have hi' : i < s.data.size := by
        have := (List.getElem?_eq_some_iff.1 hi).1
        simpa [bytes] using this
      have hx2 : s.data[i] = x := by
        have := (List.getElem?_eq_some_iff.1 hi).2
        simpa [bytes] using this
      rw [hcs]
      unfold bytesRow
      rw [Array.getElem?_append_left (by simpa using hi'), Array.getElem?_map, Array.getElem?_eq_getElem hi', hx2]
      rfl
  · cases hc
theorem O.rangeS {x : Operand} {s : ByteArray} (hT : P.underlying T = some .string) (H : InvD Dq w0 w L) (hg : want ops g f = true) (hd : Nat.blt d n = true)
    (hx : ev f x = .string s) (h : ∀ b w', InvD Dq w0 w' (L ++ [strI b s 0]) → Below w.heap.size w w' → WL P n ds ops rest K (upd f d (.pointer (some ⟨b, 0, none⟩))) w') :
    WL P n ds ops (⟨some d, .range T x, T0, pos, aft, g⟩ :: rest) K f w := by
  refine WL.val hg hd (w' := w.alloc (.stringIter s 0)) (v := .pointer (some ⟨w.heap.size, 0, none⟩)) ?_ (h _ _ (H.add (below_alloc _ _) _ (alloc_at _ _) (alloc_fp _ _)) (below_alloc _ _))
  have hr := Go.run_range_string w T s hT
  simp only [execOp, hx, Sem.run_bind, hr, Result.andThen_ok, Sem.run_pure]
  rfl
theorem O.nextS {x : Operand} {b at_ : Nat} {s : ByteArray} (i : Nat) (H : InvD Dq w0 w L) (hi : L[i]? = some (strI b s at_)) (hlt : at_ < s.size) (ha : (s[at_]'hlt).toNat < 128) (hg : want ops g f = true) (hd : Nat.blt d n = true) (hx : ev f x = .pointer (some ⟨b, 0, none⟩))
    (hs : ∀ w', InvD Dq w0 w' (L.set i (strI b s (at_ + 1))) → WL P n ds ops rest K (upd f d (.tuple #[.bool true, .int .i64 at_, .int .i32 (s[at_]'hlt).toNat])) w') :
    WL P n ds ops (⟨some d, .next x true, T0, pos, aft, g⟩ :: rest) K f w := by
  have hbk : w.heap[b]? = some (.stringIter s at_) := (H.items _ (List.mem_of_getElem? hi)).1
  have hltb := heap_lt hbk
  have hheap : (w.iterAt b s (at_ + 1)).heap = w.heap.setIfInBounds b (.stringIter s (at_ + 1)) := rfl
  have hrun := Go.Lib.run_next_ascii_at (P := P) w b s at_ T0 hbk hlt ha
  refine WL.val hg hd (w' := w.iterAt b s (at_ + 1)) (v := .tuple #[.bool true, .int .i64 at_, .int .i32 (s[at_]'hlt).toNat]) ?_ (hs _ (H.upd i _ _ hi ⟨rfl, rfl, rfl, by rw [hheap]; simp, fun k _ hk => ?_⟩ ?_ (fun x hx => ⟨by
      obtain rfl : x = b := hx
      rw [hheap]; simp; exact hltb, .inl hx⟩)))
  · simp only [execOp, hx, Sem.run_bind, hrun, Result.andThen_ok, Sem.run_pure]
  · have hk' : b ≠ k := fun e => hk e.symm
    rw [hheap]
    simp [hk']
  · show (w.iterAt b s (at_ + 1)).heap[b]? = some (.stringIter s (at_ + 1))
    rw [hheap]; exact heap_set hltb
theorem O.endS {x : Operand} {b at_ : Nat} {s : ByteArray} (i : Nat) (H : InvD Dq w0 w L) (hi : L[i]? = some (strI b s at_)) (hlt : ¬ at_ < s.size) (hg : want ops g f = true) (hd : Nat.blt d n = true) (hx : ev f x = .pointer (some ⟨b, 0, none⟩))
    (h : WL P n ds ops rest K (upd f d (.tuple #[.bool false])) w) : WL P n ds ops (⟨some d, .next x true, T0, pos, aft, g⟩ :: rest) K f w := by
  have hbk : w.heap[b]? = some (.stringIter s at_) := (H.items _ (List.mem_of_getElem? hi)).1
  refine WL.val hg hd ?_ h
  simp only [execOp, hx, Sem.run_bind, Go.Lib.run_next_end_at (P := P) w b s at_ T0 hbk hlt, Result.andThen_ok, Sem.run_pure]
theorem O.sub32 {x y : Operand} {a b : Int} (hg : want ops g f = true) (hd : Nat.blt d n = true) (hx : ev f x = .int .i32 a) (hy : ev f y = .int .i32 b) (hr : IntKind.i32.wrap (a - b) = a - b)
    (h : WL P n ds ops rest K (upd f d (.int .i32 (a - b))) w) : WL P n ds ops (⟨some d, .binOp .sub T x y T', T0, pos, aft, g⟩ :: rest) K f w :=
  WL.val hg hd (by simp [execOp, eqGuard, hx, hy, binOp, Op.intArith, hr]) h
end
/-! What the library does to a row of ints in its place. -/
section
open Go.Sort
def turnL {α : Type} (srt : List α → List α) (xs : List α) : Option (List α) := if xs.length ≤ 1099511627776 then some (srt xs) else none
def TurnsI (P : Program) (k : FuncId) (g1 : List Int → List Int) : Prop :=
  (∀ xs, (g1 xs).length = xs.length) ∧ g1 [] = [] ∧
  (∀ (blk off cap : Nat) (zs : List Int) (w : World), Holds (Value.int .i64) w blk off zs.toArray → blk < w.heap.size → zs.length < 4611686018427387904 →
    Calls P k #[.slice (some ⟨blk, off, none⟩) zs.length cap] w fun e w' => e = .returned (.tuple #[]) ∧ ∃ n os, w' = grow (putRow (Value.int .i64) (Sort.ahead w n) blk off (g1 zs).toArray) os) ∧
  ∀ (p : Option Addr) (cap : Nat) (w : World), Calls P k #[.slice p 0 cap] w fun e w' => e = .returned (.tuple #[]) ∧ w' = w
theorem turns_reverse {P : Program} {ρ : Go.Shelf.Ren} (L : Go.Proofs.Lays.n112 P ρ) : TurnsI P (ρ.f 112) List.reverse :=
  ⟨fun xs => List.length_reverse, rfl, fun blk off cap zs w hH _ hl => (Go.Proofs.Any.slices_Reverse_int L blk off cap zs w hH (by omega)).mono (by
    rintro e w' ⟨rfl, n, rfl⟩
    exact ⟨rfl, n, #[], (grow_empty _).symm⟩), fun p cap w => Go.Proofs.Any.slices_Reverse_int_empty L p cap w⟩
variable {P : Program} {n : Nat} {ds : Md} {ops : Array Oper} {rest : List Oper} {K : Fr → World → Prop} {f : Fr} {Dq : Nat → Prop} {w w0 : World} {L : List Item} {T T0 : TypeId} {pos : String} {aft : Array Edge} {g : Option (Nat × Bool)} {d : Nat}
theorem turn_run {k : FuncId} {g1 : List Int → List Int} (i : Nat) (H : InvD Dq w0 w L) {v : Value} {E : TypeId} {xs : List Int} (hi : L[i]? = some (ownI v E xs)) (hs : TurnsI P k g1) (hlen : xs.length < 4611686018427387904) :
    Calls P k #[v] w fun e w' => ∃ u, e = .returned u ∧ u = .tuple #[] ∧ InvD Dq w0 w' (L.set i (ownI v E (g1 xs))) := by
  obtain ⟨hok, hfp⟩ := H.items _ (List.mem_of_getElem? hi)
  have hown : w.ownsRow 0 E (Flat.size Int) v xs.length (xs.flatMap Flat.cells) := hok
  have hmap : ∀ l : List Int, l.flatMap Flat.cells = l.map (Value.int .i64) := by
    intro l
    induction l with
    | nil => rfl
    | cons a l ih => rw [List.flatMap_cons, ih]; rfl
  have hml : (g1 xs).length = xs.length := hs.1 xs
  obtain ⟨_, ⟨rfl, hn⟩ | ⟨gb, cap, cur, rfl, hgb, hh, hnc, hcm, hcs, htake⟩⟩ := hown
  · obtain rfl := List.eq_nil_of_length_eq_zero hn
    refine (hs.2.2.2 none 0 w).mono ?_
    rintro e w' ⟨rfl, rfl⟩
    refine ⟨_, rfl, rfl, ?_⟩
    have : L.set i (ownI (.slice none 0 0) E (g1 [])) = L := by
      rw [hs.2.1]
      obtain ⟨h1, h2⟩ := List.getElem?_eq_some_iff.1 hi
      rw [← h2]
      exact List.set_getElem_self h1
    rw [this]
    exact H
  · have hsz1 : Flat.size Int = 1 := rfl
    rw [hsz1, Nat.mul_one] at hcs htake
    rw [hmap] at htake
    have hlt := heap_lt hh
    refine (hs.2.2.1 gb 0 cap xs w (holds_own hh htake) hlt hlen).mono ?_
    rintro e w' ⟨rfl, m, os, rfl⟩
    refine ⟨_, rfl, rfl, ?_⟩
    have hha : (Sort.ahead w m).heap[gb]? = some (.cells cur E (0, 0)) := hh
    obtain ⟨cur', h1, h2, h3⟩ := putRow_heap (ys := g1 xs) hha hcs (by omega)
    have hsz : (putRow (Value.int .i64) (Sort.ahead w m) gb 0 (g1 xs).toArray).heap.size = w.heap.size := by rw [size_putRow]; rfl
    have hnew : (grow (putRow (Value.int .i64) (Sort.ahead w m) gb 0 (g1 xs).toArray) os).heap[gb]? = some (.cells cur' E (0, 0)) := by
      show (_ ++ os)[gb]? = _
      rw [Array.getElem?_append_left (by omega)]
      exact h1
    refine H.upd i _ _ hi ⟨rfl, rfl, rfl, by rw [size_grow]; omega, fun j hj hne => ?_⟩ ⟨?_, .inr ⟨gb, cap, cur', by rw [hml], hgb, hnew, by omega, hcm, by rw [hsz1, Nat.mul_one]; exact h2, by rw [hsz1, Nat.mul_one, hmap]; exact h3⟩⟩ (fun b hb => ⟨?_, .inl hb⟩)
    · show (_ ++ os)[j]? = _
      rw [Array.getElem?_append_left (by omega)]
      have hj2 : gb ≠ j := fun e => hne (by subst e; rfl)
      simp [putRow, mapBlock, Array.getElem?_modify, hj2]
    · rw [hmap, hsz1, Nat.mul_one, List.length_map]
    · have := (hfp b hb).2
      rw [size_grow]; omega
theorem O.turnI {k : FuncId} {g1 : List Int → List Int} {x : Operand} {at_ : Array TypeId} {v : Value} {E : TypeId} {xs : List Int} (i : Nat) (H : InvD Dq w0 w L) (hi : L[i]? = some (ownI v E xs)) (hs : TurnsI P k g1) (hcb : Callable P k) (hlen : xs.length < 4611686018427387904)
    (hg : want ops g f = true) (hd : Nat.blt d n = true) (hx : ev f x = v) (h : ∀ w', InvD Dq w0 w' (L.set i (ownI v E (g1 xs))) → WL P n ds ops rest K (upd f d (.tuple #[])) w') :
    WL P n ds ops (⟨some d, .call ⟨.value (.func k), #[x], at_⟩, T0, pos, aft, g⟩ :: rest) K f w := by
  refine WL.enter hg hd (k := k) (args := #[v]) ?_ ((turn_run i H hi hs hlen).mono ?_)
  · simp only [execOp, resolve, ev, Deferred.ofValue, List.map_toArray, Sem.run_bind, Sem.run_pure, Result.andThen_ok, invoke]
    simpa [hx] using hcb _ _
  · rintro e w' ⟨u, rfl, rfl, hI⟩
    exact ⟨_, rfl, h w' hI⟩
theorem O.turnI2 {k : FuncId} {g1 : List Int → List Int} {x : Operand} {at_ : Array TypeId} {v : Value} {E : TypeId} {xs ys : List Int} (i : Nat) (H : InvD Dq w0 w L) (hi : L[i]? = some (ownI v E xs)) (hs : TurnsI P k g1) (ht : turnL g1 xs = some ys) (hcb : Callable P k)
    (hg : want ops g f = true) (hd : Nat.blt d n = true) (hx : ev f x = v) (h : ∀ w', InvD Dq w0 w' (L.set i (ownI v E ys)) → WL P n ds ops rest K (upd f d (.tuple #[])) w') :
    WL P n ds ops (⟨some d, .call ⟨.value (.func k), #[x], at_⟩, T0, pos, aft, g⟩ :: rest) K f w := by
  unfold turnL at ht
  split at ht
  · rename_i hl
    obtain rfl := Option.some.inj ht
    exact O.turnI i H hi hs hcb (by omega) hg hd hx h
  · cases ht
end
end Go.Fw
