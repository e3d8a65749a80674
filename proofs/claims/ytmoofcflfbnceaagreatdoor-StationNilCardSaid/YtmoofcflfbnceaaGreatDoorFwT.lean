/-
  THE FRAMEWORK, PART T: slices of slices that the call owns; their rows are read, and not written. No program in it.
-/
import Derived.Test.YtmoofcflfbnceaaGreatDoorFwS
namespace Go.Fw
open Go.RowKit

structure C1 where
  v : Value
  one : v.oneCell' = true
theorem cells_one {v : Value} (h : v.oneCell' = true) : v.cells = #[v] := by
  cases v <;> first | rfl | (simp [Value.oneCell'] at h)
instance : Flat C1 := ⟨1, fun a => a.1, fun a => [a.1], fun a => by rw [cells_one a.2], fun _ => rfl, fun a c hc => by rw [List.mem_singleton.1 hc]; exact a.2, by decide⟩
def repP {α β : Type} [Flat α] [Flat β] (_ : World) (a : α × β) (vs : List Value) : Prop := vs = [Flat.val a.1, Flat.val a.2]
theorem Grew.trans {a b c : World} (h : Grew a b) (k : Grew b c) : Grew a c := ⟨k.os.trans h.os, k.tape.trans h.tape, k.output.trans h.output, Nat.le_trans h.size k.size⟩
def RepIn {α : Type} [Ty α] (F : Nat → Prop) (w : World) (v : Value) (xs : List α) : Prop := ∀ w', Grew w w' → (∀ b, F b → w'.heap[b]? = w.heap[b]?) → SliceR w' v xs
theorem RepIn.stable {α : Type} [Ty α] {F : Nat → Prop} {w w' : World} {v : Value} {xs : List α} (h : RepIn F w v xs) (hg : Grew w w') (hs : ∀ b, F b → w'.heap[b]? = w.heap[b]?) : RepIn F w' v xs :=
  fun w2 h1 h2 => h w2 (hg.trans h1) fun b hb => (h2 b hb).trans (hs b hb)
def ownRI {α : Type} [Ty α] (F : Nat → Prop) (v : Value) (E : TypeId) (cs : List C1) (xs : List (List α)) : Item :=
  ⟨fun b => v.ownBlock = some b ∨ F b, fun w => (ownI v E cs).ok w ∧ (∀ b, v.ownBlock = some b → ¬ F b) ∧ cs.length = xs.length ∧ ∀ (i : Nat) (c : C1) (x : List α), cs[i]? = some c → xs[i]? = some x → RepIn F w c.1 x,
   fun w w' hg hs h => ⟨(ownI v E cs).loc w w' hg (fun b hb => hs b (.inl hb)) h.1, h.2.1, h.2.2.1, fun i c x hc hx => (h.2.2.2 i c x hc hx).stable hg fun b hb => hs b (.inr hb)⟩⟩
def goneI : Item := ⟨fun _ => False, fun _ => True, fun _ _ _ _ _ => trivial⟩
def RowAt {α : Type} (cs : List C1) (xs : List (List α)) (c : C1) (x : List α) : Prop := ∃ k : Nat, cs[k]? = some c ∧ xs[k]? = some x

section
variable {Dq : Nat → Prop} {w0 w w' : World} {L : List Item}
theorem InvD.turn (H : InvD Dq w0 w L) (i : Nat) {it it' : Item} (hi : L[i]? = some it) (hfp : ∀ b, it'.fp b → it.fp b) (hok : it.ok w → it'.ok w) : InvD Dq w0 w (L.set i it') :=
  H.weak i it it' hi hfp hok
end
section
variable {P : Program} {n : Nat} {ds : Md} {ops : Array Oper} {rest : List Oper} {K : Fr → World → Prop} {f : Fr} {Dq : Nat → Prop} {w w0 : World} {L : List Item} {T T0 : TypeId} {pos : String} {aft : Array Edge} {g : Option (Nat × Bool)} {d : Nat}
theorem O.callG {x : Operand} {v : Value} {args : List Operand} {at_ : Array TypeId} {vs : List Value} {R : Value → World → Prop} (hg : want ops g f = true) (hd : Nat.blt d n = true)
    (hx : ev f x = v) (ha : args.map (ev f) = vs) (hc : CallsV P v vs.toArray w fun e w' => ∃ u, e = .returned u ∧ R u w')
    (h : ∀ u w', R u w' → WL P n ds ops rest K (upd f d u) w') :
    WL P n ds ops (⟨some d, .call ⟨.value x, args.toArray, at_⟩, T, pos, aft, g⟩ :: rest) K f w := by
  obtain ⟨k, first, cap, rfl, hcb, hc⟩ := hc
  refine WL.enter hg hd (k := k) (args := first ++ vs.toArray ++ cap) ?_ (hc.mono ?_)
  · simp only [execOp, resolve, hx, Deferred.ofValue, List.map_toArray, ha, Sem.run_bind, Sem.run_pure, Result.andThen_ok, invoke]
    simpa using hcb _ _
  · rintro e w' ⟨v, rfl, hR⟩
    exact ⟨v, rfl, h v w' hR⟩
end
end Go.Fw
