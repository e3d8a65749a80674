/-
  THE FRAMEWORK, PART T: slices of slices that the call owns; their rows are read, and not written. No program in it.
-/
import Derived.Test.YtecedifkjafneaaDoorFwS
namespace Go.Fw
open Go.RowKit

/-- A value that fills one cell. -/
structure C1 where
  v : Value
  one : v.oneCell' = true
theorem cells_one {v : Value} (h : v.oneCell' = true) : v.cells = #[v] := by
  cases v <;> first | rfl | (simp [Value.oneCell'] at h)
instance : Flat C1 := ⟨1, fun a => a.1, fun a => [a.1], fun a => by rw [cells_one a.2], fun _ => rfl, fun a c hc => by rw [List.mem_singleton.1 hc]; exact a.2, by decide⟩
theorem lit1_cells {v : Value} (h : v.oneCell' = true) : [v].map (fun v => v.cells.toList) = [(⟨v, h⟩ : C1)].map Flat.cells := by
  simp only [List.map_cons, List.map_nil, cells_one h]; rfl
/-- Pairs, one at a time. -/
def repP {α β : Type} [Flat α] [Flat β] (_ : World) (a : α × β) (vs : List Value) : Prop := vs = [Flat.val a.1, Flat.val a.2]
theorem Grew.refl (w : World) : Grew w w := ⟨rfl, rfl, rfl, Nat.le_refl _⟩
theorem Grew.trans {a b c : World} (h : Grew a b) (k : Grew b c) : Grew a c := ⟨k.os.trans h.os, k.tape.trans h.tape, k.output.trans h.output, Nat.le_trans h.size k.size⟩
/-- A slice that stands on the blocks of F alone. -/
def RepIn {α : Type} [Ty α] (F : Nat → Prop) (w : World) (v : Value) (xs : List α) : Prop := ∀ w', Grew w w' → (∀ b, F b → w'.heap[b]? = w.heap[b]?) → SliceR w' v xs
theorem RepIn.now {α : Type} [Ty α] {F : Nat → Prop} {w : World} {v : Value} {xs : List α} (h : RepIn F w v xs) : SliceR w v xs := h w (Grew.refl w) fun _ _ => rfl
theorem RepIn.stable {α : Type} [Ty α] {F : Nat → Prop} {w w' : World} {v : Value} {xs : List α} (h : RepIn F w v xs) (hg : Grew w w') (hs : ∀ b, F b → w'.heap[b]? = w.heap[b]?) : RepIn F w' v xs :=
  fun w2 h1 h2 => h w2 (hg.trans h1) fun b hb => (h2 b hb).trans (hs b hb)
theorem RepIn.wider {α : Type} [Ty α] {F G : Nat → Prop} {w : World} {v : Value} {xs : List α} (h : RepIn F w v xs) (hs : ∀ b, F b → G b) : RepIn G w v xs := fun w2 h1 h2 => h w2 h1 fun b hb => h2 b (hs b hb)
theorem RepIn.nil {α : Type} [Ty α] {F : Nat → Prop} {w : World} : RepIn (α := α) F w (.slice none 0 0) [] := fun _ _ _ => SliceR.nil
theorem RepIn.own {α : Type} [Flat α] {w : World} {v : Value} {E : TypeId} {xs : List α} (h : (ownI v E xs).ok w) : RepIn (fun b => v.ownBlock = some b) w v xs :=
  fun w2 h1 h2 => ownsRow_sliceR ((ownI v E xs).loc w w2 h1 h2 h)

/-- A slice of slices that the call owns, with the blocks of its rows. -/
def ownRI {α : Type} [Ty α] (F : Nat → Prop) (v : Value) (E : TypeId) (cs : List C1) (xs : List (List α)) : Item :=
  ⟨fun b => v.ownBlock = some b ∨ F b, fun w => (ownI v E cs).ok w ∧ (∀ b, v.ownBlock = some b → ¬ F b) ∧ cs.length = xs.length ∧ ∀ (i : Nat) (c : C1) (x : List α), cs[i]? = some c → xs[i]? = some x → RepIn F w c.1 x,
   fun w w' hg hs h => ⟨(ownI v E cs).loc w w' hg (fun b hb => hs b (.inl hb)) h.1, h.2.1, h.2.2.1, fun i c x hc hx => (h.2.2.2 i c x hc hx).stable hg fun b hb => hs b (.inr hb)⟩⟩
/-- Nothing. -/
def goneI : Item := ⟨fun _ => False, fun _ => True, fun _ _ _ _ _ => trivial⟩
def RowAt {α : Type} (cs : List C1) (xs : List (List α)) (c : C1) (x : List α) : Prop := ∃ k : Nat, cs[k]? = some c ∧ xs[k]? = some x

section
variable {Dq : Nat → Prop} {w0 w w' : World} {L : List Item}
theorem InvD.ownC {α : Type} [Ty α] (H : InvD Dq w0 w L) (i : Nat) {F : Nat → Prop} {v : Value} {E : TypeId} {cs : List C1} {xs : List (List α)} (hi : L[i]? = some (ownRI F v E cs xs)) : SliceR w v cs :=
  ownsRow_sliceR (show (ownRI F v E cs xs).ok w from (H.items _ (List.mem_of_getElem? hi)).1).1
theorem InvD.elemR {α : Type} [Ty α] (H : InvD Dq w0 w L) (i : Nat) {F : Nat → Prop} {v : Value} {E : TypeId} {cs : List C1} {xs : List (List α)} (hi : L[i]? = some (ownRI F v E cs xs)) {c : C1} {x : List α} (hr : RowAt cs xs c x) : SliceR w c.1 x := by
  obtain ⟨k, h1, h2⟩ := hr
  exact ((H.items _ (List.mem_of_getElem? hi)).1.2.2.2 k c x h1 h2).now
theorem InvD.ownRd {α : Type} [Ty α] (H : InvD Dq w0 w L) (i : Nat) {F : Nat → Prop} {v : Value} {E : TypeId} {cs : List C1} {xs : List (List α)} (hi : L[i]? = some (ownRI F v E cs xs)) : SliceR w v xs := by
  obtain ⟨h1, h2, h3, h4⟩ := (H.items _ (List.mem_of_getElem? hi)).1
  obtain ⟨k1, k2⟩ := ownsRow_sliceR (α := C1) h1
  refine ⟨by omega, ?_⟩
  rcases k2 with ⟨rfl, rfl⟩ | ⟨a, cap, rfl, k3, k4, k5⟩
  · exact .inl ⟨rfl, List.eq_nil_of_length_eq_zero (by simpa using h3.symm)⟩
  · refine .inr ⟨a, cap, by rw [h3], by omega, k4, fun i x hx => ?_⟩
    have hlt : i < cs.length := by rw [h3]; exact (List.getElem?_eq_some_iff.1 hx).1
    obtain ⟨q1, l, q2, q3⟩ := k5 i cs[i] (List.getElem?_eq_getElem hlt)
    refine ⟨q1, l, ⟨(cs[i]).1, q2, (h4 i _ x (List.getElem?_eq_getElem hlt) hx).now⟩, q3⟩
theorem InvD.rowIdx {α : Type} [Ty α] (H : InvD Dq w0 w L) (i : Nat) {F : Nat → Prop} {v : Value} {E : TypeId} {cs : List C1} {xs : List (List α)} (hi : L[i]? = some (ownRI F v E cs xs)) {k : Int} {x : List α} (hx : idx xs k = some x) : ∃ c, idx cs k = some c ∧ RowAt cs xs c x := by
  obtain ⟨h0, h1, h2⟩ := idx_some hx
  have h3 := (H.items _ (List.mem_of_getElem? hi)).1.2.2.1
  have hlt : k.toNat < cs.length := by omega
  exact ⟨cs[k.toNat], by unfold idx; rw [if_pos h0]; exact List.getElem?_eq_getElem hlt, k.toNat, List.getElem?_eq_getElem hlt, h2⟩
theorem InvD.addNilR {α : Type} [Ty α] (H : InvD Dq w0 w L) {E : TypeId} : InvD Dq w0 w (L ++ [ownRI (α := α) (fun _ => False) (.slice none 0 0) E [] []]) :=
  H.add (Below.refl _ _) _ ⟨⟨by simp, .inl ⟨rfl, rfl⟩⟩, fun _ _ h => h, rfl, fun i c x hc => by simp at hc⟩ fun b hf => hf.elim (fun h => by cases h) False.elim
/-- Two items become one. -/
theorem InvD.merge (H : InvD Dq w0 w L) (i j : Nat) {it it' itj : Item} (hij : i ≠ j) (hi : L[i]? = some it) (hj : L[j]? = some itj) (hfp : ∀ b, it'.fp b → it.fp b ∨ itj.fp b)
    (hok : it.ok w → itj.ok w → (∀ b, it.fp b → ¬ itj.fp b) → it'.ok w) : InvD Dq w0 w ((L.set i it').set j goneI) := by
  obtain ⟨li, ei⟩ := List.getElem?_eq_some_iff.1 hi
  obtain ⟨lj, ej⟩ := List.getElem?_eq_some_iff.1 hj
  have hp := List.pairwise_iff_getElem.1 H.apart
  have hap : ∀ a b (ha : a < L.length) (hb : b < L.length), a ≠ b → ∀ x, (L[a]).fp x → ¬ (L[b]).fp x := by
    intro a b ha hb hne x h1 h2
    rcases Nat.lt_or_gt_of_ne hne with h | h
    · exact hp a b ha hb h x h1 h2
    · exact hp b a hb ha h x h2 h1
  have hI := H.items it (List.mem_of_getElem? hi)
  have hJ := H.items itj (List.mem_of_getElem? hj)
  have hget : ∀ a (ha : a < ((L.set i it').set j goneI).length), ((L.set i it').set j goneI)[a] = if j = a then goneI else if i = a then it' else L[a]'(by simpa using ha) := by
    intro a ha
    rw [List.getElem_set, List.getElem_set]
  refine ⟨H.baseX, fun x hx => ?_, List.pairwise_iff_getElem.2 fun a b ha hb hab x h1 h2 => ?_⟩
  · obtain ⟨a, ha, rfl⟩ := List.mem_iff_getElem.1 hx
    rw [hget a ha]
    split
    · exact ⟨trivial, fun _ h => h.elim⟩
    · split
      · refine ⟨hok hI.1 hJ.1 (fun b h1 h2 => ?_), fun b hb => ?_⟩
        · exact hap i j li lj hij b (by rw [ei]; exact h1) (by rw [ej]; exact h2)
        · rcases hfp b hb with h | h
          · exact hI.2 b h
          · exact hJ.2 b h
      · exact H.items _ (List.getElem_mem _)
  · have ha' : a < L.length := by simpa using ha
    have hb' : b < L.length := by simpa using hb
    rw [hget a ha] at h1
    rw [hget b hb] at h2
    by_cases e1 : j = a
    · rw [if_pos e1] at h1; exact h1
    · by_cases e2 : j = b
      · rw [if_pos e2] at h2; exact h2
      · rw [if_neg e1] at h1
        rw [if_neg e2] at h2
        by_cases e3 : i = a
        · rw [if_pos e3] at h1
          rw [if_neg (by omega)] at h2
          rcases hfp x h1 with h | h
          · exact hap i b li hb' (by omega) x (by rw [ei]; exact h) h2
          · exact hap j b lj hb' e2 x (by rw [ej]; exact h) h2
        · rw [if_neg e3] at h1
          by_cases e4 : i = b
          · rw [if_pos e4] at h2
            rcases hfp x h2 with h | h
            · exact hap i a li ha' e3 x (by rw [ei]; exact h) h1
            · exact hap j a lj ha' e1 x (by rw [ej]; exact h) h1
          · rw [if_neg e4] at h2
            exact hap a b ha' hb' (by omega) x h1 h2
/-- An item is another one's, in the same world. -/
theorem InvD.turn (H : InvD Dq w0 w L) (i : Nat) {it it' : Item} (hi : L[i]? = some it) (hfp : ∀ b, it'.fp b → it.fp b) (hok : it.ok w → it'.ok w) : InvD Dq w0 w (L.set i it') :=
  H.weak i it it' hi hfp hok
/-- A literal of one slice. -/
theorem InvD.litNil {α : Type} [Ty α] (H : InvD Dq w0 w L) (k : Nat) {v : Value} {E : TypeId} {c : C1} (hk : L[k]? = some (ownI v E [c])) (hc : c.1 = .slice none 0 0) :
    InvD Dq w0 w (L.set k (ownRI (α := α) (fun _ => False) v E [c] [[]])) :=
  H.turn k hk (fun b h => h.elim id False.elim) fun h => ⟨h, fun _ _ h => h, rfl, fun i c' x h1 h2 => by
    cases i with
    | zero =>
      obtain rfl : c = c' := by simpa using h1
      obtain rfl : [] = x := by simpa using h2
      rw [hc]; exact RepIn.nil
    | succ i => simp at h1⟩
theorem InvD.litOwn {α : Type} [Flat α] (H : InvD Dq w0 w L) (k j : Nat) {v vx : Value} {E Ex : TypeId} {c : C1} {x : List α} (hkj : k ≠ j) (hk : L[k]? = some (ownI v E [c])) (hj : L[j]? = some (ownI vx Ex x)) (hc : c.1 = vx) :
    InvD Dq w0 w ((L.set k (ownRI (fun b => vx.ownBlock = some b) v E [c] [x])).set j goneI) :=
  H.merge k j hkj hk hj (fun b h => h) fun h1 h2 hap => ⟨h1, fun b hb hb' => hap b hb hb', rfl, fun i c' x' h3 h4 => by
    cases i with
    | zero =>
      obtain rfl : c = c' := by simpa using h3
      obtain rfl : x = x' := by simpa using h4
      rw [hc]; exact RepIn.own h2
    | succ i => simp at h3⟩
end
section
variable {P : Program} {n : Nat} {ds : Md} {ops : Array Oper} {rest : List Oper} {K : Fr → World → Prop} {f : Fr} {Dq : Nat → Prop} {w w0 : World} {L : List Item} {T T0 : TypeId} {pos : String} {aft : Array Edge} {g : Option (Nat × Bool)} {d : Nat}
/-- 'append' of a slice of slices that the call owns to another one. -/
theorem O.appendR {α : Type} [Ty α] {E bytes : Nat} {s y : Operand} {v vy : Value} {F G : Nat → Prop} {cs ds' : List C1} {xs ys zs : List (List α)} {E' : TypeId} (i j : Nat) (hij : i ≠ j) (hT : P.underlying T = some (.slice E)) (hE : ElemT P E (Flat.size C1) bytes) (hb : Nat.ble bytes 128 = true) (H : InvD Dq w0 w L)
    (hi : L[i]? = some (ownRI F v E cs xs)) (hj : L[j]? = some (ownRI G vy E' ds' ys)) (hz : appI xs ys = some zs) (hg : want ops g f = true) (hd : Nat.blt d n = true) (hs : ev f s = v) (hv : ev f y = vy)
    (h : ∀ v' w' F' cs', InvD Dq w0 w' ((L.set j goneI).set i (ownRI F' v' E cs' zs)) → WL P n ds ops rest K (upd f d v') w') :
    WL P n ds ops (⟨some d, .call ⟨.builtin .append, #[s, y], #[T, T]⟩, T0, pos, aft, g⟩ :: rest) K f w := by
  obtain ⟨hlen, rfl⟩ := appI_some hz
  have hy := H.ownC j hj
  obtain ⟨⟨q1, q2, q3, q4⟩, qf⟩ := H.items _ (List.mem_of_getElem? hi)
  obtain ⟨⟨r1, r2, r3, r4⟩, rf⟩ := H.items _ (List.mem_of_getElem? hj)
  have hm : InvD Dq w0 w ((L.set i (ownRI (fun b => F b ∨ (vy.ownBlock = some b ∨ G b)) v E cs xs)).set j goneI) := by
    refine H.merge i j hij hi hj (fun b hb => ?_) fun h1 h2 hap => ⟨q1, fun b h3 h4 => ?_, q3, fun i c x h3 h4 => (q4 i c x h3 h4).wider fun b hb => .inl hb⟩
    · rcases hb with h | h | h
      · exact .inl (.inl h)
      · exact .inl (.inr h)
      · exact .inr h
    · rcases h4 with h4 | h4
      · exact q2 b h3 h4
      · exact hap b (.inl h3) h4
  rw [List.set_comm _ _ hij] at hm
  obtain ⟨v', w', hrun, hc, hok', hfp'⟩ := run_append_item (P := P) (T0 := T0) (xs := cs) (ys := ds') hT hE (Nat.le_of_ble_eq_true hb) q1 (fun b hf => (qf b (.inl hf)).2) hy (by omega)
  have hi2 : ((L.set j goneI).set i (ownRI (fun b => F b ∨ (vy.ownBlock = some b ∨ G b)) v E cs xs))[i]? = some (ownRI (fun b => F b ∨ (vy.ownBlock = some b ∨ G b)) v E cs xs) := by
    have := (List.getElem?_eq_some_iff.1 hi).1
    rw [List.getElem?_set_self (by simpa using this)]
  have hmi := (hm.items _ (List.mem_of_getElem? hi2))
  have hap := hmi.1.2.1
  have hgrew : Grew w w' := ⟨hc.os, hc.tape, hc.output, hc.size⟩
  have hsame : ∀ b, (F b ∨ (vy.ownBlock = some b ∨ G b)) → w'.heap[b]? = w.heap[b]? := fun b hb => hc.block b (hmi.2 b (.inr hb)).2 fun hv' => hap b hv' hb
  have hup := hm.upd i _ (ownRI (fun b => F b ∨ (vy.ownBlock = some b ∨ G b)) v' E (cs ++ ds') (xs ++ ys)) hi2 (w' := w')
    ⟨hc.os, hc.tape, hc.output, hc.size, fun k hk hn => hc.block k hk fun h => hn (.inl h)⟩
    ⟨hok', fun b hb hb' => by
      rcases (hfp' b hb).2 with h | h
      · exact hap b h hb'
      · have := (hmi.2 b (.inr hb')).2; omega, by simp [q3, r3], fun k c x h3 h4 => by
      by_cases hk : k < cs.length
      · rw [List.getElem?_append_left hk] at h3
        rw [List.getElem?_append_left (by omega)] at h4
        exact ((q4 k c x h3 h4).wider fun b hb => .inl hb).stable hgrew hsame
      · rw [List.getElem?_append_right (by omega)] at h3
        rw [List.getElem?_append_right (by omega)] at h4
        rw [q3] at h3
        exact ((r4 _ c x h3 h4).wider fun b hb => .inr (.inr hb)).stable hgrew hsame⟩
    (fun b hb => by
      rcases hb with hb | hb
      · exact ⟨(hfp' b hb).1, (hfp' b hb).2.imp .inl id⟩
      · exact ⟨Nat.lt_of_lt_of_le (hmi.2 b (.inr hb)).2 hc.size, .inl (.inr hb)⟩)
  rw [List.set_set] at hup
  refine WL.val hg hd ?_ (h v' w' _ _ hup)
  simp [execOp, resolve, invoke, builtin, hs, hv, hrun, Result.andThen]
/-- A function value is called, whatever it leaves. -/
theorem O.callG {x : Operand} {v : Value} {args : List Operand} {at_ : Array TypeId} {vs : List Value} {R : Value → World → Prop} (hg : want ops g f = true) (hd : Nat.blt d n = true)
    (hx : ev f x = v) (ha : args.map (ev f) = vs) (hc : CallsV P v vs.toArray w fun e w' => ∃ u, e = .returned u ∧ R u w')
    (h : ∀ u w', R u w' → WL P n ds ops rest K (upd f d u) w') :
    WL P n ds ops (⟨some d, .call ⟨.value x, args.toArray, at_⟩, T, pos, aft, g⟩ :: rest) K f w := by
  obtain ⟨k, first, cap, rfl, hcb, hc⟩ := hc
  refine WL.enter hg hd (k := k) (args := first ++ vs.toArray ++ cap) ?_ (hc.mono ?_)
  · simp only [execOp, resolve, hx, Deferred.ofValue, List.map_toArray, ha, Sem.run_bind, Sem.run_pure, Result.andThen_ok, invoke]
    simpa using hcb _ _
  · rintro e w' ⟨v, rfl, hR⟩
    exact ⟨v, rfl, h v w' hR⟩
end
end Go.Fw
