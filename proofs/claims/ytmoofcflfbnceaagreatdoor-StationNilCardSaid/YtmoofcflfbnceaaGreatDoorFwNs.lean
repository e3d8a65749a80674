/-
  THE FRAMEWORK, PART NS: slices of structs with slices that the call owns: what is appended is put together out of the call's own slices; they are read, and not written. No program in it.
-/
import Derived.Test.YtmoofcflfbnceaaGreatDoorFwT
import Derived.Test.YtmoofcflfbnceaaGreatDoorFwO
namespace Go.Fw
open Go.RowKit
structure CN (n : Nat) where
  l : List Value
  len : l.length = n + 1
  one : ∀ c ∈ l, c.oneCell' = true
instance {n : Nat} : Flat (CN n) := ⟨n + 1, fun a => .agg a.l.toArray, fun a => a.l, fun _ => rfl, fun a => a.len, fun a => a.one, Nat.succ_pos _⟩
def RepX {α : Type} [Ty α] (F : Nat → Prop) (w : World) (l : List Value) (x : α) : Prop := ∀ w', Grew w w' → (∀ b, F b → w'.heap[b]? = w.heap[b]?) → Ty.rep w' l x
theorem RepX.stable {α : Type} [Ty α] {F : Nat → Prop} {w w' : World} {v : List Value} {xs : α} (h : RepX F w v xs) (hg : Grew w w') (hs : ∀ b, F b → w'.heap[b]? = w.heap[b]?) : RepX F w' v xs :=
  fun w2 h1 h2 => h w2 (hg.trans h1) fun b hb => (h2 b hb).trans (hs b hb)
def ownXI {α : Type} [Ty α] {n : Nat} (F : Nat → Prop) (v : Value) (E : TypeId) (cs : List (CN n)) (xs : List α) : Item :=
  ⟨fun b => v.ownBlock = some b ∨ F b, fun w => (ownI v E cs).ok w ∧ (∀ b, v.ownBlock = some b → ¬ F b) ∧ cs.length = xs.length ∧ ∀ (i : Nat) (c : CN n) (x : α), cs[i]? = some c → xs[i]? = some x → RepX F w c.l x,
   fun w w' hg hs h => ⟨(ownI v E cs).loc w w' hg (fun b hb => hs b (.inl hb)) h.1, h.2.1, h.2.2.1, fun i c x hc hx => (h.2.2.2 i c x hc hx).stable hg fun b hb => hs b (.inr hb)⟩⟩
section
variable {Dq : Nat → Prop} {w0 w w' : World} {L : List Item}
end
section
variable {P : Program} {n : Nat} {ds : Md} {ops : Array Oper} {rest : List Oper} {K : Fr → World → Prop} {f : Fr} {Dq : Nat → Prop} {w w0 : World} {L : List Item} {T T0 : TypeId} {pos : String} {aft : Array Edge} {g : Option (Nat × Bool)} {d : Nat}
end
/-! Parts of structs. -/
theorem cell_part {w : World} {b o k : Nat} {cs sub : List Value} (h : ∀ j c, cs[j]? = some c → w.cell? ((Addr.mk b 0 none).add j) = some c) (hs : (cs.drop o).take k = sub) :
    ∀ j c, sub[j]? = some c → w.cell? ((Addr.mk b o none).add j) = some c := by
  subst hs
  intro j c hj
  rw [List.getElem?_take] at hj
  split at hj
  · rw [List.getElem?_drop] at hj
    have := h _ _ hj
    rw [Addr.add_lit] at this ⊢
    rw [Nat.zero_add] at this
    exact this
  · cases hj
section
variable {P : Program} {n : Nat} {ds : Md} {ops : Array Oper} {rest : List Oper} {K : Fr → World → Prop} {f : Fr} {w : World} {T T0 : TypeId} {pos : String} {aft : Array Edge} {g : Option (Nat × Bool)} {d : Nat}
end
end Go.Fw
