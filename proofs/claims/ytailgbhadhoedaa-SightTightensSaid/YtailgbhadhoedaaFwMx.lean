/-
  THE FRAMEWORK, PART Mx: a table (a slice of slices) that the call owns with all its rows, whose entries are written. No program in it.
-/
import Derived.Test.YtailgbhadhoedaaFwO
namespace Go.Fw
open Go.RowKit
section
variable {P : Program} {n : Nat} {ds : Md} {ops : Array Oper} {rest : List Oper} {K : Fr → World → Prop} {f : Fr} {Dq X : Nat → Prop} {w w' w0 : World} {L L0 L1 : List Item} {T T' T0 : TypeId} {pos : String} {aft : Array Edge} {g : Option (Nat × Bool)} {d : Nat}
theorem InvD.again (h : InvD (fpOf L0) w w' L1) : InvD (fpOf L1) w' w' L1 :=
  ⟨⟨rfl, rfl, rfl, Nat.le_refl _, fun _ _ _ => rfl⟩, fun it hi => ⟨(h.items it hi).1, fun b hb => ⟨.inr ⟨it, hi, hb⟩, ((h.items it hi).2 b hb).2⟩⟩, h.apart⟩
theorem InvD.still (h : InvD (fpOf L0) w w L0) (hg : Grew w w') (hs : ∀ b, fpOf L0 b → w'.heap[b]? = w.heap[b]?) : InvD (fpOf L0) w' w' L0 :=
  ⟨⟨rfl, rfl, rfl, Nat.le_refl _, fun _ _ _ => rfl⟩, fun it hi => ⟨it.loc w w' hg (fun b hb => hs b ⟨it, hi, hb⟩) (h.items it hi).1, fun b hb => ⟨.inr ⟨it, hi, hb⟩, Nat.lt_of_lt_of_le ((h.items it hi).2 b hb).2 hg.size⟩⟩, h.apart⟩
def rowsI {α : Type} [Flat α] (Er : TypeId) : List C1 → List (List α) → List Item
  | c :: cs, x :: xs => ownI c.1 Er x :: rowsI Er cs xs
  | _, _ => []
def mtxL {α : Type} [Flat α] (v : Value) (E Er : TypeId) (cs : List C1) (xs : List (List α)) : List Item := ownI (α := C1) v E cs :: rowsI Er cs xs
/-- A table and its rows. -/
def mtxI {α : Type} [Flat α] (v : Value) (E Er : TypeId) (cs : List C1) (xs : List (List α)) : Item :=
  ⟨fpOf (mtxL v E Er cs xs), fun w => cs.length = xs.length ∧ InvD (fpOf (mtxL v E Er cs xs)) w w (mtxL v E Er cs xs), fun _ _ hg hs h => ⟨h.1, h.2.still hg hs⟩⟩
variable {α : Type} [Flat α] {v : Value} {E Er : TypeId} {cs : List C1} {xs : List (List α)}
theorem rowsI_get : ∀ {cs : List C1} {xs : List (List α)} {k : Nat} {c : C1} {x : List α}, cs[k]? = some c → xs[k]? = some x → (rowsI Er cs xs)[k]? = some (ownI c.1 Er x)
  | [], _, _, _, _, h, _ => by simp at h
  | _ :: _, [], _, _, _, _, h => by simp at h
  | c :: cs, x :: xs, 0, _, _, h, h2 => by simp at h h2; subst h; subst h2; rfl
  | c :: cs, x :: xs, k + 1, _, _, h, h2 => by
    have := rowsI_get (cs := cs) (xs := xs) (k := k) (by simpa using h) (by simpa using h2)
    simpa [rowsI] using this
theorem rowsI_set : ∀ {cs : List C1} {xs : List (List α)} {k : Nat} {c : C1} (y : List α), cs.length = xs.length → cs[k]? = some c → (rowsI Er cs xs).set k (ownI c.1 Er y) = rowsI Er cs (xs.set k y)
  | [], _, _, _, _, _, h => by simp at h
  | _ :: _, [], _, _, _, h, _ => by simp at h
  | c :: cs, x :: xs, 0, _, y, _, h => by simp at h; subst h; rfl
  | c :: cs, x :: xs, k + 1, _, y, hl, h => by
    have := rowsI_set (cs := cs) (xs := xs) (k := k) y (by simpa using hl) (by simpa using h)
    simp only [rowsI, List.set_cons_succ]
    rw [this]
theorem rowsI_append (c : C1) (x : List α) : ∀ {cs : List C1} {xs : List (List α)}, cs.length = xs.length → rowsI Er (cs ++ [c]) (xs ++ [x]) = rowsI Er cs xs ++ [ownI c.1 Er x]
  | [], [], _ => rfl
  | [], _ :: _, h => by simp at h
  | _ :: _, [], h => by simp at h
  | a :: cs, y :: xs, h => by
    have := rowsI_append c x (cs := cs) (xs := xs) (by simpa using h)
    simp only [List.cons_append, rowsI]
    rw [this]
theorem InvD.mtx (H : InvD Dq w0 w L) (i : Nat) (hi : L[i]? = some (mtxI v E Er cs xs)) : InvD (fpOf (mtxL v E Er cs xs)) w w (mtxL v E Er cs xs) := (H.items _ (List.mem_of_getElem? hi)).1.2
theorem InvD.mtxLen (H : InvD Dq w0 w L) (i : Nat) (hi : L[i]? = some (mtxI v E Er cs xs)) : cs.length = xs.length := (H.items _ (List.mem_of_getElem? hi)).1.1
theorem InvD.mtxC (H : InvD Dq w0 w L) (i : Nat) (hi : L[i]? = some (mtxI v E Er cs xs)) : SliceR w v cs := (H.mtx i hi).own 0 rfl
theorem InvD.mtxRow (H : InvD Dq w0 w L) (i : Nat) (hi : L[i]? = some (mtxI v E Er cs xs)) {k : Int} {x : List α} (hx : idx xs k = some x) : ∃ c, idx cs k = some c ∧ (mtxL v E Er cs xs)[k.toNat + 1]? = some (ownI c.1 Er x) := by
  obtain ⟨h0, h1, h2⟩ := idx_some hx
  have hl := H.mtxLen i hi
  have hlt : k.toNat < cs.length := by omega
  refine ⟨cs[k.toNat], ?_, ?_⟩
  · unfold idx; rw [if_pos h0, List.getElem?_eq_getElem hlt]
  · exact rowsI_get (List.getElem?_eq_getElem hlt) h2
theorem InvD.mtxElem (H : InvD Dq w0 w L) (i : Nat) (hi : L[i]? = some (mtxI v E Er cs xs)) {k : Nat} {c : C1} {x : List α} (hr : (mtxL v E Er cs xs)[k]? = some (ownI c.1 Er x)) : SliceR w c.1 x := (H.mtx i hi).own k hr
/-- The table, as it is handed to one who reads it. -/
theorem InvD.mtxRd (H : InvD Dq w0 w L) (i : Nat) (hi : L[i]? = some (mtxI v E Er cs xs)) : SliceR w v xs := by
  have hl := H.mtxLen i hi
  obtain ⟨hm, h⟩ := H.mtxC i hi
  refine ⟨by rw [← hl]; exact hm, ?_⟩
  rcases h with ⟨rfl, rfl⟩ | ⟨a, cap, rfl, h1, h2, h3⟩
  · exact .inl ⟨rfl, List.eq_nil_of_length_eq_zero hl.symm⟩
  · refine .inr ⟨a, cap, by rw [hl], by omega, h2, fun k x hx => ?_⟩
    have hlt : k < cs.length := by have := (List.getElem?_eq_some_iff.1 hx).1; omega
    have hc : cs[k]? = some cs[k] := List.getElem?_eq_getElem hlt
    obtain ⟨hs, cs', rfl, hcell⟩ := h3 k _ hc
    exact ⟨hs, [cs[k].1], ⟨_, rfl, (H.mtx i hi).own (k + 1) (rowsI_get hc hx)⟩, hcell⟩
theorem InvD.addNilM (H : InvD Dq w0 w L) (E Er : TypeId) : InvD Dq w0 w (L ++ [mtxI (α := α) (.slice none 0 0) E Er [] []]) := by
  have h : InvD Dq w0 w (L ++ [ownI (α := C1) (.slice none 0 0) E []]) := H.addNil
  refine H.add (Below.refl _ _) _ ⟨rfl, InvD.frame (A := L) h⟩ fun b hb => ?_
  obtain ⟨it, hi, hf⟩ := hb
  obtain rfl := List.mem_singleton.1 hi
  cases hf
/-- A change inside. -/
theorem InvD.mtxUpd (H : InvD Dq w0 w L) (i : Nat) (hi : L[i]? = some (mtxI v E Er cs xs)) {v' : Value} {cs' : List C1} {xs' : List (List α)} (hl : cs'.length = xs'.length) (h : InvD (fpOf (mtxL v E Er cs xs)) w w' (mtxL v' E Er cs' xs')) :
    InvD Dq w0 w' (L.set i (mtxI v' E Er cs' xs')) :=
  H.upd i _ _ hi ⟨h.baseX.os, h.baseX.tape, h.baseX.output, h.baseX.size, fun k hk hn => h.baseX.block k hk hn⟩ ⟨hl, h.again⟩ fun b ⟨it, hit, hf⟩ => ⟨((h.items it hit).2 b hf).2, ((h.items it hit).2 b hf).1.symm⟩
theorem O.storeM {p x : Operand} {vx : Value} {xr : List α} {i0 : Int} {x0 : α} {b m : Nat} {q : Addr} {k : Nat} {c : C1} (i o : Nat) (y : α) (vs : List Value) (hT : SizeT P T m) (H : InvD Dq w0 w L) (hi : L[i]? = some (mtxI v E Er cs xs))
    (hc : cs[k]? = some c) (hx : xs[k]? = some xr)
    (hb : c.1.ownBlock = some b) (hix : idx xr i0 = some x0) (hg : want ops g f = true) (hp : ev f p = .pointer (some q)) (hq : q = Addr.add ⟨b, i0.toNat * Flat.size α, none⟩ o) (hv : ev f x = vx) (hvc : vx.cells = vs.toArray) (hlen : vs.length = m)
    (hle : Nat.ble (o + vs.length) (Flat.size α) = true) (hnew : (Flat.cells x0).take o ++ vs ++ (Flat.cells x0).drop (o + vs.length) = Flat.cells y) (hone : ∀ u ∈ vs, u.oneCell' = true)
    (h : ∀ w', InvD Dq w0 w' (L.set i (mtxI v E Er cs (xs.set k (xr.set i0.toNat y)))) → WL P n ds ops rest K f w') : WL P n ds ops (⟨none, .store T p x, T0, pos, aft, g⟩ :: rest) K f w := by
  have hl := H.mtxLen i hi
  refine O.storeOwn (k + 1) o y vs hT (H.mtx i hi) (show (mtxL v E Er cs xs)[k + 1]? = _ from rowsI_get hc hx) hb hix hg hp hq hv hvc hlen hle hnew hone fun w' h' => h w' (H.mtxUpd i hi (by rw [List.length_set]; exact hl) ?_)
  have : (mtxL v E Er cs xs).set (k + 1) (ownI c.1 Er (xr.set i0.toNat y)) = mtxL v E Er cs (xs.set k (xr.set i0.toNat y)) := by
    unfold mtxL
    rw [List.set_cons_succ, rowsI_set _ hl hc]
  rw [this] at h'
  exact h'
/-- A row joins the table, out of a literal of one. -/
theorem O.appendM {bytes : Nat} {s y : Operand} {vy : Value} {x : List α} {c : C1} {E' : TypeId} {zs : List (List α)} (i j k : Nat) (hij : i ≠ j) (hik : i ≠ k) (hjk : j ≠ k) (hT : P.underlying T = some (.slice E)) (hE : ElemT P E (Flat.size C1) bytes) (hb : Nat.ble bytes 128 = true) (H : InvD Dq w0 w L)
    (hi : L[i]? = some (mtxI v E Er cs xs)) (hj : L[j]? = some (ownI vy E' [c])) (hk : L[k]? = some (ownI c.1 Er x)) (hz : appI xs [x] = some zs) (hg : want ops g f = true) (hd : Nat.blt d n = true) (hs : ev f s = v) (hy : ev f y = vy)
    (h : ∀ v' w' cs', InvD Dq w0 w' (((L.set i (mtxI v' E Er cs' zs)).set j goneI).set k goneI) → WL P n ds ops rest K (upd f d v') w') :
    WL P n ds ops (⟨some d, .call ⟨.builtin .append, #[s, y], #[T, T]⟩, T0, pos, aft, g⟩ :: rest) K f w := by
  have hl := H.mtxLen i hi
  obtain ⟨hz1, rfl⟩ := appI_some hz
  have hz2 : appI cs [c] = some (cs ++ [c]) := if_pos (by simp only [List.length_cons, List.length_nil] at hz1 ⊢; omega)
  refine O.append 0 hT hE hb (H.mtx i hi) rfl (H.own j hj) hz2 hg hd hs hy fun v' w' h' => ?_
  have h1 : InvD (fpOf (mtxL v E Er cs xs)) w w' (ownI v' E (cs ++ [c]) :: rowsI Er cs xs) := h'
  -- first the table without its new row
  obtain ⟨A, hA⟩ : ∃ A : Item, A = ⟨fpOf (ownI v' E (cs ++ [c]) :: rowsI Er cs xs), fun w => InvD (fpOf (ownI v' E (cs ++ [c]) :: rowsI Er cs xs)) w w (ownI v' E (cs ++ [c]) :: rowsI Er cs xs), fun _ _ hg hs h => h.still hg hs⟩ := ⟨_, rfl⟩
  have H1 : InvD Dq w0 w' (L.set i A) := by
    subst hA
    exact H.upd i _ _ hi ⟨h1.baseX.os, h1.baseX.tape, h1.baseX.output, h1.baseX.size, fun k hk hn => h1.baseX.block k hk hn⟩ h1.again fun b ⟨it, hit, hf⟩ => ⟨((h1.items it hit).2 b hf).2, ((h1.items it hit).2 b hf).1.symm⟩
  have hi' : (L.set i A)[i]? = some A := by
    have := (List.getElem?_eq_some_iff.1 hi).1
    simp [this]
  have hk' : (L.set i A)[k]? = some (ownI c.1 Er x) := by rw [List.getElem?_set_ne hik]; exact hk
  have hj' : (L.set i A)[j]? = some (ownI vy E' [c]) := by rw [List.getElem?_set_ne hij]; exact hj
  have H2 := H1.merge i k (it' := mtxI v' E Er (cs ++ [c]) (xs ++ [x])) hik hi' hk' ?_ ?_
  · have hj2 : (((L.set i A).set i (mtxI v' E Er (cs ++ [c]) (xs ++ [x]))).set k goneI)[j]? = some (ownI vy E' [c]) := by
      rw [List.getElem?_set_ne (Ne.symm hjk), List.getElem?_set_ne hij]; exact hj'
    have H3 := H2.turn j (it' := goneI) hj2 (fun b hb => hb.elim) (fun _ => trivial)
    refine h v' w' (cs ++ [c]) ?_
    have e : (((L.set i A).set i (mtxI v' E Er (cs ++ [c]) (xs ++ [x]))).set k goneI).set j goneI = ((L.set i (mtxI v' E Er (cs ++ [c]) (xs ++ [x]))).set j goneI).set k goneI := by
      rw [List.set_set, List.set_comm _ _ (Ne.symm hjk)]
    rw [e] at H3
    exact H3
  · rintro b ⟨it, hit, hf⟩
    unfold mtxL at hit
    rw [rowsI_append c x hl] at hit
    rcases List.mem_cons.1 hit with rfl | hit
    · left; subst hA; exact ⟨_, List.mem_cons_self .., hf⟩
    · rcases List.mem_append.1 hit with hit | hit
      · left; subst hA; exact ⟨it, List.mem_cons_of_mem _ hit, hf⟩
      · right; rw [List.mem_singleton.1 hit] at hf; exact hf
  · intro hokA hokR hap
    subst hA
    refine ⟨by simp [hl], ?_⟩
    have e : mtxL v' E Er (cs ++ [c]) (xs ++ [x]) = (ownI v' E (cs ++ [c]) :: rowsI Er cs xs) ++ [ownI c.1 Er x] := by
      unfold mtxL; rw [rowsI_append c x hl]; rfl
    rw [e]
    have hA : InvD (fpOf (ownI v' E (cs ++ [c]) :: rowsI Er cs xs)) w' w' (ownI v' E (cs ++ [c]) :: rowsI Er cs xs) := hokA
    have hrow : ∀ b, (ownI c.1 Er x).fp b → b < w'.heap.size := by
      intro b hb
      obtain ⟨_, ⟨h2, _⟩ | ⟨gb, cap, cur, h2, _, hh, _⟩⟩ := hokR
      · have hb : c.1.ownBlock = some b := hb
        rw [h2] at hb; cases hb
      · have hb : c.1.ownBlock = some b := hb
        rw [h2] at hb
        cases hb
        exact (Array.getElem?_eq_some_iff.1 hh).1
    refine ⟨⟨rfl, rfl, rfl, Nat.le_refl _, fun _ _ _ => rfl⟩, fun it hi => ?_, List.pairwise_append.2 ⟨hA.apart, List.pairwise_singleton _ _, fun y hy z hz b hf hg => ?_⟩⟩
    · refine ⟨?_, fun b hb => ⟨.inr ⟨it, hi, hb⟩, ?_⟩⟩
      · rcases List.mem_append.1 hi with hi | hi
        · exact (hA.items it hi).1
        · rw [List.mem_singleton.1 hi]; exact hokR
      · rcases List.mem_append.1 hi with hi | hi
        · exact ((hA.items it hi).2 b hb).2
        · rw [List.mem_singleton.1 hi] at hb; exact hrow b hb
    · rw [List.mem_singleton.1 hz] at hg
      exact hap b ⟨y, hy, hf⟩ hg
end
end Go.Fw
