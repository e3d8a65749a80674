/-
  THE FRAMEWORK, PART NS: slices of structs with slices that the call owns: what is appended is put together out of the call's own slices; they are read, and not written. No program in it.
-/
import Derived.Test.YtnkncedhanainaaFwT
import Derived.Test.YtnkncedhanainaaFwO
namespace Go.Fw
open Go.RowKit
/-- Values that fill n + 1 cells. -/
structure CN (n : Nat) where
  l : List Value
  len : l.length = n + 1
  one : ∀ c ∈ l, c.oneCell' = true
instance {n : Nat} : Flat (CN n) := ⟨n + 1, fun a => .agg a.l.toArray, fun a => a.l, fun _ => rfl, fun a => a.len, fun a => a.one, Nat.succ_pos _⟩
/-- What an element's cells say, standing on the blocks of F alone. -/
def RepX {α : Type} [Ty α] (F : Nat → Prop) (w : World) (l : List Value) (x : α) : Prop := ∀ w', Grew w w' → (∀ b, F b → w'.heap[b]? = w.heap[b]?) → Ty.rep w' l x
theorem RepX.now {α : Type} [Ty α] {F : Nat → Prop} {w : World} {v : List Value} {xs : α} (h : RepX F w v xs) : Ty.rep w v xs := h w (Grew.refl w) fun _ _ => rfl
theorem RepX.stable {α : Type} [Ty α] {F : Nat → Prop} {w w' : World} {v : List Value} {xs : α} (h : RepX F w v xs) (hg : Grew w w') (hs : ∀ b, F b → w'.heap[b]? = w.heap[b]?) : RepX F w' v xs :=
  fun w2 h1 h2 => h w2 (hg.trans h1) fun b hb => (h2 b hb).trans (hs b hb)
theorem RepX.wider {α : Type} [Ty α] {F G : Nat → Prop} {w : World} {v : List Value} {xs : α} (h : RepX F w v xs) (hs : ∀ b, F b → G b) : RepX G w v xs := fun w2 h1 h2 => h w2 h1 fun b hb => h2 b (hs b hb)
/-- A slice of structs with slices that the call owns, with the blocks of their slices. -/
def ownXI {α : Type} [Ty α] {n : Nat} (F : Nat → Prop) (v : Value) (E : TypeId) (cs : List (CN n)) (xs : List α) : Item :=
  ⟨fun b => v.ownBlock = some b ∨ F b, fun w => (ownI v E cs).ok w ∧ (∀ b, v.ownBlock = some b → ¬ F b) ∧ cs.length = xs.length ∧ ∀ (i : Nat) (c : CN n) (x : α), cs[i]? = some c → xs[i]? = some x → RepX F w c.l x,
   fun w w' hg hs h => ⟨(ownI v E cs).loc w w' hg (fun b hb => hs b (.inl hb)) h.1, h.2.1, h.2.2.1, fun i c x hc hx => (h.2.2.2 i c x hc hx).stable hg fun b hb => hs b (.inr hb)⟩⟩
section
variable {Dq : Nat → Prop} {w0 w w' : World} {L : List Item}
theorem InvD.ownCX {α : Type} [Ty α] {n : Nat} (H : InvD Dq w0 w L) (i : Nat) {F : Nat → Prop} {v : Value} {E : TypeId} {cs : List (CN n)} {xs : List α} (hi : L[i]? = some (ownXI F v E cs xs)) : SliceR w v cs :=
  ownsRow_sliceR (show (ownXI F v E cs xs).ok w from (H.items _ (List.mem_of_getElem? hi)).1).1
/-- It is read as any slice is. -/
theorem InvD.ownRdX {α : Type} [Ty α] {n : Nat} (H : InvD Dq w0 w L) (i : Nat) {F : Nat → Prop} {v : Value} {E : TypeId} {cs : List (CN n)} {xs : List α} (hn : Ty.size α = n + 1) (hi : L[i]? = some (ownXI F v E cs xs)) : SliceR w v xs := by
  obtain ⟨h1, h2, h3, h4⟩ := (H.items _ (List.mem_of_getElem? hi)).1
  obtain ⟨k1, k2⟩ := ownsRow_sliceR (α := CN n) h1
  refine ⟨by omega, ?_⟩
  rcases k2 with ⟨rfl, rfl⟩ | ⟨a, cap, rfl, k3, k4, k5⟩
  · exact .inl ⟨rfl, List.eq_nil_of_length_eq_zero (by simpa using h3.symm)⟩
  · refine .inr ⟨a, cap, by rw [h3], by omega, k4, fun i x hx => ?_⟩
    have hlt : i < cs.length := by rw [h3]; exact (List.getElem?_eq_some_iff.1 hx).1
    obtain ⟨q1, l, q2, q3⟩ := k5 i cs[i] (List.getElem?_eq_getElem hlt)
    rw [hn]
    exact ⟨q1, l, by rw [show l = (cs[i]).l from q2]; exact (h4 i _ x (List.getElem?_eq_getElem hlt) hx).now, q3⟩
theorem InvD.addNilX {α : Type} [Ty α] (n : Nat) (H : InvD Dq w0 w L) {E : TypeId} : InvD Dq w0 w (L ++ [ownXI (α := α) (n := n) (fun _ => False) (.slice none 0 0) E [] []]) :=
  H.add (Below.refl _ _) _ ⟨⟨by simp, .inl ⟨rfl, rfl⟩⟩, fun _ _ h => h, rfl, fun i c x hc => by simp at hc⟩ fun b hf => hf.elim (fun h => by cases h) False.elim
/-- A literal of one struct, whose one slice is the call's own. -/
theorem InvD.litX {α β : Type} [Ty α] [Flat β] {n : Nat} (H : InvD Dq w0 w L) (k j : Nat) {v vx : Value} {E Ex : TypeId} {c : CN n} {y : α} {x : List β} (hkj : k ≠ j) (hk : L[k]? = some (ownI v E [c])) (hj : L[j]? = some (ownI vx Ex x))
    (hr : ∀ w', SliceR w' vx x → Ty.rep w' c.l y) : InvD Dq w0 w ((L.set k (ownXI (fun b => vx.ownBlock = some b) v E [c] [y])).set j goneI) :=
  H.merge k j hkj hk hj (fun b h => h) fun h1 h2 hap => ⟨h1, fun b hb hb' => hap b hb hb', rfl, fun i c' x' h3 h4 => by
    cases i with
    | zero =>
      obtain rfl : c = c' := by simpa using h3
      obtain rfl : y = x' := by simpa using h4
      exact fun w2 g1 g2 => hr w2 (ownsRow_sliceR ((ownI vx Ex x).loc w w2 g1 g2 h2))
    | succ i => simp at h3⟩
end
section
variable {P : Program} {n : Nat} {ds : Md} {ops : Array Oper} {rest : List Oper} {K : Fr → World → Prop} {f : Fr} {Dq : Nat → Prop} {w w0 : World} {L : List Item} {T T0 : TypeId} {pos : String} {aft : Array Edge} {g : Option (Nat × Bool)} {d : Nat}
/-- 'append' of what was put together to a slice of structs with slices. -/
theorem O.appendX {α : Type} [Ty α] {n' : Nat} {E bytes : Nat} {s y : Operand} {v vy : Value} {F G : Nat → Prop} {cs ds' : List (CN n')} {xs ys zs : List α} {E' : TypeId} (i j : Nat) (hij : i ≠ j) (hT : P.underlying T = some (.slice E)) (hE : ElemT P E (Flat.size (CN n')) bytes) (hb : Nat.ble bytes 128 = true) (H : InvD Dq w0 w L)
    (hi : L[i]? = some (ownXI F v E cs xs)) (hj : L[j]? = some (ownXI G vy E' ds' ys)) (hz : appI xs ys = some zs) (hg : want ops g f = true) (hd : Nat.blt d n = true) (hs : ev f s = v) (hv : ev f y = vy)
    (h : ∀ v' w' F' (cs' : List (CN n')), InvD Dq w0 w' ((L.set j goneI).set i (ownXI F' v' E cs' zs)) → WL P n ds ops rest K (upd f d v') w') :
    WL P n ds ops (⟨some d, .call ⟨.builtin .append, #[s, y], #[T, T]⟩, T0, pos, aft, g⟩ :: rest) K f w := by
  obtain ⟨hlen, rfl⟩ := appI_some hz
  have hy := H.ownCX j hj
  obtain ⟨⟨q1, q2, q3, q4⟩, qf⟩ := H.items _ (List.mem_of_getElem? hi)
  obtain ⟨⟨r1, r2, r3, r4⟩, rf⟩ := H.items _ (List.mem_of_getElem? hj)
  have hm : InvD Dq w0 w ((L.set i (ownXI (fun b => F b ∨ (vy.ownBlock = some b ∨ G b)) v E cs xs)).set j goneI) := by
    refine H.merge i j hij hi hj (fun b hb => ?_) fun h1 h2 hap => ⟨q1, fun b h3 h4 => ?_, q3, fun i c x h3 h4 => (q4 i c x h3 h4).wider fun b hb => .inl hb⟩
    · rcases hb with h | h | h
      · exact .inl (.inl h)
      · exact .inl (.inr h)
      · exact .inr h
    · rcases h4 with h4 | h4
      · exact q2 b h3 h4
      · exact hap b (.inl h3) h4
  rw [List.set_comm _ _ hij] at hm
  obtain ⟨v', w', hrun, hc, hok', hfp'⟩ := run_append_item (P := P) (T0 := T0) (xs := cs) (ys := ds') hT hE (Nat.le_of_ble_eq_true hb) q1 (fun b hf => (qf b (.inl hf)).2) hy (by omega)
  have hi2 : ((L.set j goneI).set i (ownXI (fun b => F b ∨ (vy.ownBlock = some b ∨ G b)) v E cs xs))[i]? = some (ownXI (fun b => F b ∨ (vy.ownBlock = some b ∨ G b)) v E cs xs) := by
    have := (List.getElem?_eq_some_iff.1 hi).1
    rw [List.getElem?_set_self (by simpa using this)]
  have hmi := (hm.items _ (List.mem_of_getElem? hi2))
  have hap := hmi.1.2.1
  have hgrew : Grew w w' := ⟨hc.os, hc.tape, hc.output, hc.size⟩
  have hsame : ∀ b, (F b ∨ (vy.ownBlock = some b ∨ G b)) → w'.heap[b]? = w.heap[b]? := fun b hb => hc.block b (hmi.2 b (.inr hb)).2 fun hv' => hap b hv' hb
  have hup := hm.upd i _ (ownXI (fun b => F b ∨ (vy.ownBlock = some b ∨ G b)) v' E (cs ++ ds') (xs ++ ys)) hi2 (w' := w')
    ⟨hc.os, hc.tape, hc.output, hc.size, fun k hk hn => hc.block k hk fun h => hn (.inl h)⟩
    ⟨hok', fun b hb hb' => by
      rcases (hfp' b hb).2 with h | h
      · exact hap b h hb'
      · have := (hmi.2 b (.inr hb')).2; omega, by simp [q3, r3], fun k c x h3 h4 => by
      by_cases hk : k < cs.length
      · rw [List.getElem?_append_left hk] at h3
        rw [List.getElem?_append_left (by omega)] at h4
        exact ((q4 k c x h3 h4).wider fun b hb => .inl hb).stable hgrew hsame
      · rw [List.getElem?_append_right (by omega)] at h3
        rw [List.getElem?_append_right (by omega)] at h4
        rw [q3] at h3
        exact ((r4 _ c x h3 h4).wider fun b hb => .inr (.inr hb)).stable hgrew hsame⟩
    (fun b hb => by
      rcases hb with hb | hb
      · exact ⟨(hfp' b hb).1, (hfp' b hb).2.imp .inl id⟩
      · exact ⟨Nat.lt_of_lt_of_le (hmi.2 b (.inr hb)).2 hc.size, .inl (.inr hb)⟩)
  rw [List.set_set] at hup
  refine WL.val hg hd ?_ (h v' w' _ _ hup)
  simp [execOp, resolve, invoke, builtin, hs, hv, hrun, Result.andThen]
end
/-! Parts of structs. -/
theorem cell_part {w : World} {b o k : Nat} {cs sub : List Value} (h : ∀ j c, cs[j]? = some c → w.cell? ((Addr.mk b 0 none).add j) = some c) (hs : (cs.drop o).take k = sub) :
    ∀ j c, sub[j]? = some c → w.cell? ((Addr.mk b o none).add j) = some c := by
  subst hs
  intro j c hj
  rw [List.getElem?_take] at hj
  split at hj
  · rw [List.getElem?_drop] at hj
    have := h _ _ hj
    rw [Addr.add_lit] at this ⊢
    rw [Nat.zero_add] at this
    exact this
  · cases hj
section
variable {P : Program} {n : Nat} {ds : Md} {ops : Array Oper} {rest : List Oper} {K : Fr → World → Prop} {f : Fr} {w : World} {T T0 : TypeId} {pos : String} {aft : Array Edge} {g : Option (Nat × Bool)} {d : Nat}
theorem O.indexArrK {s ix : Operand} {q : Addr} {m k : Nat} {E : TypeId} (i : Nat) (hT : P.underlying T = some (.array m E)) (hE : SizeT P E k) (hi : Nat.blt i m = true) (hg : want ops g f = true) (hd : Nat.blt d n = true)
    (hs : ev f s = .pointer (some q)) (hx : ev f ix = .int .i64 (i : Int)) (h : WL P n ds ops rest K (upd f d (.pointer (some (q.add (i * k))))) w) : WL P n ds ops (⟨some d, .indexAddr T s ix, T0, pos, aft, g⟩ :: rest) K f w := by
  refine WL.val hg hd ?_ h
  have h1 : i < m := by simpa [Nat.blt_eq] using hi
  have h2 : (0 : Int) ≤ (i : Int) ∧ (i : Int) < (m : Int) := by omega
  simp only [execOp, hs, hx, Instr.indexAt, Instr.sureAddr, asIntOf, Sem.run_bind, Sem.run_pure, Result.andThen_ok, run_underlying hT, if_pos h2, run_sizeOf' hE, Int.toNat_natCast]
end
end Go.Fw
