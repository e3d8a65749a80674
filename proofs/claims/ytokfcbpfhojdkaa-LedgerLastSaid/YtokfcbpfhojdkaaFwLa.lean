/-
  THE FRAMEWORK, PART LA: slices.SortFunc by a function that is no order at an element and itself, on a row without repetition. No program in it.
-/
import Derived.Test.YtokfcbpfhojdkaaFwW
import Derived.Test.YtokfcbpfhojdkaaFwPd
namespace Go.Fw
open Go.RowKit Go.Sort Go.Proofs
section
variable {P : Program} {n : Nat} {ds : Md} {ops : Array Oper} {rest : List Oper} {K : Fr → World → Prop} {f : Fr} {w : World} {T T0 : TypeId} {pos : String} {aft : Array Edge} {g : Option (Nat × Bool)} {d : Nat}
/-- A call that hands back one known value. -/
theorem O.callE {k : FuncId} {args : List Operand} {at_ : Array TypeId} {vs : List Value} {v0 : Value} {Q : World → Prop} (hcb : Callable P k) (hg : want ops g f = true) (hd : Nat.blt d n = true) (ha : args.map (ev f) = vs)
    (hc : Calls P k vs.toArray w fun e w' => e = .returned v0 ∧ Q w') (h : ∀ w', Q w' → WL P n ds ops rest K (upd f d v0) w') :
    WL P n ds ops (⟨some d, .call ⟨.value (.func k), args.toArray, at_⟩, T0, pos, aft, g⟩ :: rest) K f w := by
  refine WL.enter hg hd (k := k) (args := vs.toArray) ?_ (hc.mono ?_)
  · simp only [execOp, resolve, ev, Deferred.ofValue, List.map_toArray, ha, Sem.run_bind, Sem.run_pure, Result.andThen_ok, invoke]
    simpa using hcb _ _
  · rintro e w' ⟨rfl, hq⟩
    exact ⟨v0, rfl, h w' hq⟩
theorem O.callEV {k : FuncId} {x : Operand} {args : List Operand} {at_ : Array TypeId} {vs : List Value} {v0 : Value} {Q : World → Prop} (hcb : Callable P k) (hg : want ops g f = true) (hd : Nat.blt d n = true) (hx : ev f x = .func (.func k) #[] #[]) (ha : args.map (ev f) = vs)
    (hc : Calls P k vs.toArray w fun e w' => e = .returned v0 ∧ Q w') (h : ∀ w', Q w' → WL P n ds ops rest K (upd f d v0) w') :
    WL P n ds ops (⟨some d, .call ⟨.value x, args.toArray, at_⟩, T0, pos, aft, g⟩ :: rest) K f w := by
  refine WL.enter hg hd (k := k) (args := vs.toArray) ?_ (hc.mono ?_)
  · simp only [execOp, resolve, hx, Deferred.ofValue, List.map_toArray, ha, Sem.run_bind, Sem.run_pure, Result.andThen_ok, invoke]
    simpa using hcb _ _
  · rintro e w' ⟨rfl, hq⟩
    exact ⟨v0, rfl, h w' hq⟩
end
section
variable {f : Fr}
theorem up10 {a0 a1 a2 a3 a4 a5 a6 a7 a8 a9 : Nat} {v0 v1 v2 v3 v4 v5 v6 v7 v8 v9 : Value} (h0 : f a0 = v0) (h1 : f a1 = v1) (h2 : f a2 = v2) (h3 : f a3 = v3) (h4 : f a4 = v4) (h5 : f a5 = v5) (h6 : f a6 = v6) (h7 : f a7 = v7) (h8 : f a8 = v8) (h9 : f a9 = v9) : ∃ u, f = (upd (upd (upd (upd (upd (upd (upd (upd (upd (upd u a0 v0) a1 v1) a2 v2) a3 v3) a4 v4) a5 v5) a6 v6) a7 v7) a8 v8) a9 v9) := ⟨f, by rw [upd_self h0, upd_self h1, upd_self h2, upd_self h3, upd_self h4, upd_self h5, upd_self h6, upd_self h7, upd_self h8, upd_self h9]⟩
theorem up11 {a0 a1 a2 a3 a4 a5 a6 a7 a8 a9 a10 : Nat} {v0 v1 v2 v3 v4 v5 v6 v7 v8 v9 v10 : Value} (h0 : f a0 = v0) (h1 : f a1 = v1) (h2 : f a2 = v2) (h3 : f a3 = v3) (h4 : f a4 = v4) (h5 : f a5 = v5) (h6 : f a6 = v6) (h7 : f a7 = v7) (h8 : f a8 = v8) (h9 : f a9 = v9) (h10 : f a10 = v10) : ∃ u, f = (upd (upd (upd (upd (upd (upd (upd (upd (upd (upd (upd u a0 v0) a1 v1) a2 v2) a3 v3) a4 v4) a5 v5) a6 v6) a7 v7) a8 v8) a9 v9) a10 v10) := ⟨f, by rw [upd_self h0, upd_self h1, upd_self h2, upd_self h3, upd_self h4, upd_self h5, upd_self h6, upd_self h7, upd_self h8, upd_self h9, upd_self h10]⟩
end
section
variable {P : Program} {n : Nat} {ds : Md} {ops : Array Oper} {rest : List Oper} {K : Fr → World → Prop} {f : Fr} {w : World} {T T' T0 : TypeId} {pos : String} {aft : Array Edge} {g : Option (Nat × Bool)} {d : Nat}
theorem O.gtrB {k : IntKind} {x y : Operand} {a b : Int} {c : Bool} (hg : want ops g f = true) (hd : Nat.blt d n = true) (hx : ev f x = .int k a) (hy : ev f y = .int k b) (hc : decide (b < a) = c)
    (h : WL P n ds ops rest K (upd f d (.bool c)) w) : WL P n ds ops (⟨some d, .binOp .gtr T x y T', T0, pos, aft, g⟩ :: rest) K f w := O.gtr hg hd hx hy (by rw [hc]; exact h)
theorem O.subWr {x y : Operand} {a b : Int} (hg : want ops g f = true) (hd : Nat.blt d n = true) (hx : ev f x = .int .i64 a) (hy : ev f y = .int .i64 b)
    (h : WL P n ds ops rest K (upd f d (.int .i64 (IntKind.i64.wrap (a - b)))) w) : WL P n ds ops (⟨some d, .binOp .sub T x y T', T0, pos, aft, g⟩ :: rest) K f w :=
  WL.val hg hd (by simp [execOp, eqGuard, hx, hy, binOp, Op.intArith]) h
end
theorem subN {a b : Nat} (h : a ≤ b) (hb : b < 4611686018427387904) : subI (b : Int) (a : Int) = some ((b - a : Nat) : Int) := by
  unfold subI
  rw [if_pos (by rw [inI_iff]; omega), show (b : Int) - (a : Int) = ((b - a : Nat) : Int) by omega]
theorem quo8 (n : Nat) (h : n < 4611686018427387904) : quoI (n : Int) 8 = some ((n / 8 : Nat) : Int) := by
  unfold quoI
  have e : (n : Int).tdiv 8 = ((n / 8 : Nat) : Int) := by rw [Int.tdiv_eq_ediv_of_nonneg (by omega)]; omega
  rw [if_neg (by decide), e, if_pos (by rw [inI_iff]; omega)]
theorem add1N {a : Nat} (h : a < 4611686018427387904) : addI (a : Int) 1 = some ((a + 1 : Nat) : Int) := by
  unfold addI
  rw [if_pos (by rw [inI_iff]; omega), show (a : Int) + 1 = ((a + 1 : Nat) : Int) by omega]
/-- The elements that a sort's world holds, as a slice. -/
theorem sliceR_holds {α : Type} [Inhabited α] [Flat α] {w : World} {blk off cap : Nat} {d : Array α} (h : HoldsK Flat.cells (Flat.size α) w blk off d) (hc : d.size ≤ cap) (hm : cap ≤ maxLen) : SliceR w (.slice (some ⟨blk, off, none⟩) d.size cap) d.toList := by
  refine ⟨by simpa using Nat.le_trans hc hm, .inr ⟨⟨blk, off, none⟩, cap, by simp, by simpa using hc, hm, fun i x hi => ?_⟩⟩
  have hi' : i < d.size := by simpa using (List.getElem?_eq_some_iff.1 hi).1
  have hx : d[i]! = x := by
    rw [getElem!_pos d i hi']
    simpa [hi'] using hi
  rw [Addr.add_lit]
  refine ⟨rfl, Flat.cells x, rfl, fun j c hj => ?_⟩
  have h1 := HoldsK.cells h (fun x => Flat.len x) hi' j c (by rw [hx]; exact hj)
  rw [Addr.add_lit] at h1 ⊢
  exact h1
/-- A comparison at a world of the sort's. -/
theorem cmp_at {P : Program} {α : Type} [Inhabited α] {enc : α → List Value} {k : Nat} {w0 W : World} {blk off size : Nat} {dk : Array α} {g : Nat} {cf : α → α → Int} (h : SWK enc k w0 blk off dk W) (hC : CmpLays P g #[] enc k cf blk off size w0) (hs : dk.size = size) (x y : α) :
    Calls P g #[.agg (enc x).toArray, .agg (enc y).toArray] W fun e w' => e = .returned (.int .i64 (cf x y)) ∧ GrewQ W w' := by
  obtain ⟨m, os, rfl⟩ := h
  exact (by simpa using hC m os dk hs x y : Calls P g #[.agg (enc x).toArray, .agg (enc y).toArray] _ _)
theorem SWK.grewQ {α : Type} [Inhabited α] {enc : α → List Value} {k : Nat} {w0 W W' : World} {blk off : Nat} {dk : Array α} (h : SWK enc k w0 blk off dk W) (hg : GrewQ W W') : SWK enc k w0 blk off dk W' := by
  obtain ⟨q, os, rfl⟩ := hg
  exact h.grown q os
section
variable {α : Type} [Inhabited α] {lt : α → α → Bool} {d : Array α} {a b limit : Nat} {wb wp : Bool}
/-- A round's rows, each a permutation of the one before. -/
theorem rd_perm (h : SWO lt) (hab : a < b) (hb : b ≤ d.size) (hB : Go.Sort.Below lt a b d) :
    PermIn a b d (rd lt d a b limit wb wp).d1 ∧ PermIn a b (rd lt d a b limit wb wp).d1 (rd lt d a b limit wb wp).d2 ∧ PermIn a b (rd lt d a b limit wb wp).d2 (rd lt d a b limit wb wp).pi.1 := by
  obtain ⟨s1, -, -, s2, B2, -⟩ := rd_facts (limit := limit) (wb := wb) (wp := wp) h partialInsertionSort_holds reverseRange_holds hab hb hB
  exact ⟨step_break d (Nat.le_of_lt hab) hb ((!wb) = true), step_reverse reverseRange_holds _ (Nat.le_of_lt hab) (by rw [s1]; exact hb) ((rd lt d a b limit wb wp).c.2 = .decreasing),
    (step_partial partialInsertionSort_holds h _ hab (by rw [s2]; exact hb) B2 ((wb && wp && decide ((rd lt d a b limit wb wp).hint = .increasing)) = true)).1⟩
end
/-- What a sort does to one row of flat values. -/
def SortsAt (P : Program) {α : Type} [Flat α] (k : FuncId) (fv : Value) (xs ys : List α) : Prop :=
  ys.length = xs.length ∧
  (∀ (blk off cap : Nat) (w : World), Holds id w blk off (xs.flatMap Flat.cells).toArray → blk < w.heap.size → xs.length ≤ cap → cap ≤ maxLen → xs.length < 4611686018427387904 →
    Calls P k #[.slice (some ⟨blk, off, none⟩) xs.length cap, fv] w fun e w' => e = .returned (.tuple #[]) ∧ ∃ n os, w' = grow (putRow id (Sort.ahead w n) blk off (ys.flatMap Flat.cells).toArray) os) ∧
  ∀ (p : Option Addr) (cap : Nat) (w : World), Calls P k #[.slice p 0 cap, fv] w fun e w' => e = .returned (.tuple #[]) ∧ w' = w
section
variable {P : Program} {n : Nat} {ds : Md} {ops : Array Oper} {rest : List Oper} {K : Fr → World → Prop} {f : Fr} {Dq : Nat → Prop} {w w0 : World} {L : List Item} {T T0 : TypeId} {pos : String} {aft : Array Edge} {g : Option (Nat × Bool)} {d : Nat}
theorem sortAt_run {α : Type} [Flat α] {k : FuncId} {fv : Value} (i : Nat) (H : InvD Dq w0 w L) {v : Value} {E : TypeId} {xs ys : List α} (hi : L[i]? = some (ownI v E xs)) (hs : SortsAt P k fv xs ys) (hlen : xs.length ≤ 1073741824) :
    Calls P k #[v, fv] w fun e w' => ∃ u, e = .returned u ∧ u = .tuple #[] ∧ InvD Dq w0 w' (L.set i (ownI v E ys)) := by
  obtain ⟨hok, hfp⟩ := H.items _ (List.mem_of_getElem? hi)
  have hown : w.ownsRow 0 E (Flat.size α) v xs.length (xs.flatMap Flat.cells) := hok
  have hml : ys.length = xs.length := hs.1
  have hfl : (ys.flatMap (Flat.cells (α := α))).length = xs.length * Flat.size α := by rw [flat_length, hml]
  have hfx : (xs.flatMap (Flat.cells (α := α))).length = xs.length * Flat.size α := flat_length xs
  obtain ⟨_, ⟨rfl, hn⟩ | ⟨gb, cap, cur, rfl, hgb, hh, hnc, hcm, hcs, htake⟩⟩ := hown
  · obtain rfl := List.eq_nil_of_length_eq_zero hn
    obtain rfl : ys = [] := List.eq_nil_of_length_eq_zero (by simpa using hml)
    refine (hs.2.2 none 0 w).mono ?_
    rintro e w' ⟨rfl, rfl⟩
    refine ⟨_, rfl, rfl, ?_⟩
    have : L.set i (ownI (α := α) (.slice none 0 0) E []) = L := by
      obtain ⟨h1, h2⟩ := List.getElem?_eq_some_iff.1 hi
      rw [← h2]
      exact List.set_getElem_self h1
    rw [this]
    exact H
  · have hlt := heap_lt hh
    have hpos : 0 < Flat.size α := Flat.pos
    have hle : xs.length * Flat.size α ≤ cap * Flat.size α := Nat.mul_le_mul_right _ hnc
    refine (hs.2.1 gb 0 cap w (holds_ownK hh (by rw [hfx]; exact htake)) hlt hnc hcm (by omega)).mono ?_
    rintro e w' ⟨rfl, m, os, rfl⟩
    refine ⟨_, rfl, rfl, ?_⟩
    have hha : (Sort.ahead w m).heap[gb]? = some (.cells cur E (0, 0)) := hh
    obtain ⟨cur', h1, h2, h3⟩ := putRow_heapK (ys := ys.flatMap Flat.cells) hha hcs (by omega)
    have hsz : (putRow id (Sort.ahead w m) gb 0 (ys.flatMap Flat.cells).toArray).heap.size = w.heap.size := by rw [Go.Sort.size_putRow]; rfl
    have hnew : (grow (putRow id (Sort.ahead w m) gb 0 (ys.flatMap Flat.cells).toArray) os).heap[gb]? = some (.cells cur' E (0, 0)) := by
      show (_ ++ os)[gb]? = _
      rw [Array.getElem?_append_left (by omega)]
      exact h1
    refine H.upd i _ _ hi ⟨rfl, rfl, rfl, by rw [size_grow]; omega, fun j hj hne => ?_⟩ ⟨?_, .inr ⟨gb, cap, cur', by rw [hml], hgb, hnew, by omega, hcm, h2, by rw [hml, ← hfl]; exact h3⟩⟩ (fun b hb => ⟨?_, .inl hb⟩)
    · show (_ ++ os)[j]? = _
      rw [Array.getElem?_append_left (by omega)]
      have hj2 : gb ≠ j := fun e => hne (by subst e; rfl)
      simp [putRow, mapBlock, Array.getElem?_modify, hj2]
    · exact flat_length ys
    · have := (hfp b hb).2
      rw [size_grow]; omega
theorem O.sortAt {α : Type} [Flat α] {k : FuncId} {fv : Value} {x y : Operand} {at_ : Array TypeId} {v : Value} {E : TypeId} {xs ys : List α} (i : Nat) (H : InvD Dq w0 w L) (hi : L[i]? = some (ownI v E xs)) (hs : SortsAt P k fv xs ys) (hlen : xs.length ≤ 1073741824) (hcb : Callable P k)
    (hg : want ops g f = true) (hd : Nat.blt d n = true) (hx : ev f x = v) (hy : ev f y = fv) (h : ∀ w', InvD Dq w0 w' (L.set i (ownI v E ys)) → WL P n ds ops rest K (upd f d (.tuple #[])) w') :
    WL P n ds ops (⟨some d, .call ⟨.value (.func k), #[x, y], at_⟩, T0, pos, aft, g⟩ :: rest) K f w := by
  refine WL.enter hg hd (k := k) (args := #[v, fv]) ?_ ((sortAt_run i H hi hs hlen).mono ?_)
  · simp only [execOp, resolve, ev, Deferred.ofValue, List.map_toArray, Sem.run_bind, Sem.run_pure, Result.andThen_ok, invoke]
    simpa [hx, hy] using hcb _ _
  · rintro e w' ⟨u, rfl, rfl, hI⟩
    exact ⟨_, rfl, h w' hI⟩
end
end Go.Fw
