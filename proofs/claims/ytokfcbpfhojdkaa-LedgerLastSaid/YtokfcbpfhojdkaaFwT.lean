/-
  THE FRAMEWORK, PART T: slices of slices that the call owns; their rows are read, and not written. No program in it.
-/
import Derived.Test.YtokfcbpfhojdkaaFwS
namespace Go.Fw
open Go.RowKit

/-- A value that fills one cell. -/
structure C1 where
  v : Value
  one : v.oneCell' = true
theorem cells_one {v : Value} (h : v.oneCell' = true) : v.cells = #[v] := by
  cases v <;> first | rfl | (simp [Value.oneCell'] at h)
instance : Flat C1 := ⟨1, fun a => a.1, fun a => [a.1], fun a => by rw [cells_one a.2], fun _ => rfl, fun a c hc => by rw [List.mem_singleton.1 hc]; exact a.2, by decide⟩
/-- Pairs, one at a time. -/
def repP {α β : Type} [Flat α] [Flat β] (_ : World) (a : α × β) (vs : List Value) : Prop := vs = [Flat.val a.1, Flat.val a.2]
theorem Grew.trans {a b c : World} (h : Grew a b) (k : Grew b c) : Grew a c := ⟨k.os.trans h.os, k.tape.trans h.tape, k.output.trans h.output, Nat.le_trans h.size k.size⟩
/-- A slice that stands on the blocks of F alone. -/
def RepIn {α : Type} [Ty α] (F : Nat → Prop) (w : World) (v : Value) (xs : List α) : Prop := ∀ w', Grew w w' → (∀ b, F b → w'.heap[b]? = w.heap[b]?) → SliceR w' v xs
theorem RepIn.stable {α : Type} [Ty α] {F : Nat → Prop} {w w' : World} {v : Value} {xs : List α} (h : RepIn F w v xs) (hg : Grew w w') (hs : ∀ b, F b → w'.heap[b]? = w.heap[b]?) : RepIn F w' v xs :=
  fun w2 h1 h2 => h w2 (hg.trans h1) fun b hb => (h2 b hb).trans (hs b hb)
/-- A slice of slices that the call owns, with the blocks of its rows. -/
def ownRI {α : Type} [Ty α] (F : Nat → Prop) (v : Value) (E : TypeId) (cs : List C1) (xs : List (List α)) : Item :=
  ⟨fun b => v.ownBlock = some b ∨ F b, fun w => (ownI v E cs).ok w ∧ (∀ b, v.ownBlock = some b → ¬ F b) ∧ cs.length = xs.length ∧ ∀ (i : Nat) (c : C1) (x : List α), cs[i]? = some c → xs[i]? = some x → RepIn F w c.1 x,
   fun w w' hg hs h => ⟨(ownI v E cs).loc w w' hg (fun b hb => hs b (.inl hb)) h.1, h.2.1, h.2.2.1, fun i c x hc hx => (h.2.2.2 i c x hc hx).stable hg fun b hb => hs b (.inr hb)⟩⟩
/-- Nothing. -/
def goneI : Item := ⟨fun _ => False, fun _ => True, fun _ _ _ _ _ => trivial⟩
def RowAt {α : Type} (cs : List C1) (xs : List (List α)) (c : C1) (x : List α) : Prop := ∃ k : Nat, cs[k]? = some c ∧ xs[k]? = some x

section
variable {Dq : Nat → Prop} {w0 w w' : World} {L : List Item}
/-- An item is another one's, in the same world. -/
theorem InvD.turn (H : InvD Dq w0 w L) (i : Nat) {it it' : Item} (hi : L[i]? = some it) (hfp : ∀ b, it'.fp b → it.fp b) (hok : it.ok w → it'.ok w) : InvD Dq w0 w (L.set i it') :=
  H.weak i it it' hi hfp hok
end
section
variable {P : Program} {n : Nat} {ds : Md} {ops : Array Oper} {rest : List Oper} {K : Fr → World → Prop} {f : Fr} {Dq : Nat → Prop} {w w0 : World} {L : List Item} {T T0 : TypeId} {pos : String} {aft : Array Edge} {g : Option (Nat × Bool)} {d : Nat}
end
end Go.Fw
