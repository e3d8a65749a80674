/-
  THE FRAMEWORK, PART OB: objects: a variable behind a pointer with the slices in it, handed to functions that change them and may refuse. No program in it.
-/
import Derived.Test.YtmoofcflfbnceaaGreatDoorFwPn
import Derived.Test.YtmoofcflfbnceaaGreatDoorFwX
import Derived.Laws.Pointers
import Derived.Lib.SlTrimSet
namespace Go.Fw
open Go.RowKit
section
variable {P : Program} {n : Nat} {ds : Md} {ops : Array Oper} {rest : List Oper} {K : Fr → World → Prop} {f : Fr} {Dq X : Nat → Prop} {w w' w0 : World} {A L0 L1 : List Item} {T T' T0 : TypeId} {pos : String} {aft : Array Edge} {g : Option (Nat × Bool)} {d : Nat}
theorem InvD.dropF (H : InvD Dq w0 w (A ++ L0)) (hb : BelowX (fpOf L0) w w') : InvD Dq w0 w' A := by
  have h := H.join (L1 := []) ⟨hb, fun _ hi => (List.not_mem_nil hi).elim, List.Pairwise.nil⟩
  rwa [List.append_nil] at h
theorem InvD.stayH {b : Nat} {o : Obj} (H : InvD Dq w0 w (A ++ L0)) (hb : BelowX (fpOf L0) w w') (k : Nat) (hk : A[k]? = some (heldI b o)) : w'.heap[b]? = some o := by
  have hm : heldI b o ∈ A := List.mem_of_getElem? hk
  obtain ⟨h1, h2⟩ := H.items _ (List.mem_append_left _ hm)
  have hp := (List.pairwise_append.1 H.apart).2.2
  refine (hb.block b (h2 b rfl).2 ?_).trans h1
  rintro ⟨it, hi, hf2⟩
  exact hp _ hm it hi b rfl hf2
theorem O.eqlPtr {x y : Operand} {p : Option Addr} (hT : P.underlying T = some (.pointer (P.pointee T))) (hg : want ops g f = true) (hd : Nat.blt d n = true) (hx : ev f x = .pointer p) (hy : ev f y = .pointer none)
    (h : WL P n ds ops rest K (upd f d (.bool p.isNone)) w) : WL P n ds ops (⟨some d, .binOp .eql T x y T', T0, pos, aft, g⟩ :: rest) K f w :=
  WL.val hg hd (by
    simp only [execOp, eqGuard, hx, hy]
    simp [binOp, Op.equal, Op.maxDepth, run_equalIn_pointer_nil w 9999 T p hT]) h
theorem O.makeIface {x : Operand} {u v : Value} (hr : ∀ w, (Instr.makeInterface T u).run P w = .ok v w) (hg : want ops g f = true) (hd : Nat.blt d n = true) (hx : ev f x = u)
    (h : WL P n ds ops rest K (upd f d v) w) : WL P n ds ops (⟨some d, .makeInterface T x, T0, pos, aft, g⟩ :: rest) K f w := by
  refine WL.val hg hd ?_ h
  simp only [execOp, hx, Sem.run_bind, hr, Result.andThen_ok, Sem.run_pure]
theorem cells_part {w : World} {p : Addr} {cs ds : List Value} (o k : Nat) (h : ∀ j c, cs[j]? = some c → w.cell? (p.add j) = some c) (hd : (cs.drop o).take k = ds) : ∀ j c, ds[j]? = some c → w.cell? ((p.add o).add j) = some c := by
  intro j c hj
  subst hd
  have : cs[o + j]? = some c := by
    rw [List.getElem?_take] at hj
    split at hj
    · rw [List.getElem?_drop] at hj; exact hj
    · cases hj
  have h2 := h (o + j) c this
  rwa [addr_add_add]
end
end Go.Fw
namespace Go.Fw
def refB {α β : Type} (o : Option (Ref α)) (k : α → Option (Ref β)) : Option (Ref β) := match o with
  | none => none
  | some (.no e) => some (.no e)
  | some (.ok a) => k a
theorem refB_some {α β : Type} {o : Option (Ref α)} {k : α → Option (Ref β)} {r : Ref β} (h : refB o k = some r) : (∃ e, o = some (.no e) ∧ Ref.no e = r) ∨ ∃ a, o = some (.ok a) ∧ k a = some r := by
  match o, h with
  | some (.no e), h => exact .inl ⟨e, rfl, Option.some.inj h⟩
  | some (.ok a), h => exact .inr ⟨a, rfl, h⟩
def mustB {β : Type} (c : Bool) (e : Int) (k : Option (Ref β)) : Option (Ref β) := if c = true then k else some (.no e)
theorem mustB_some {β : Type} {c : Bool} {e : Int} {k : Option (Ref β)} {r : Ref β} (h : mustB c e k = some r) : (c = false ∧ Ref.no e = r) ∨ (c = true ∧ k = some r) := by
  unfold mustB at h
  cases c with
  | false => exact .inl ⟨rfl, Option.some.inj h⟩
  | true => exact .inr ⟨rfl, h⟩
end Go.Fw
namespace Go.Fw
open Go.RowKit
inductive Got (α β : Type) where
  | got (b : β)
  | nil (a : α)
abbrev GPost {α β : Type} (w : World) (r : Got α β) (φn : α → World → Value → Prop) (φg : β → Value → List Item → Prop) : Ending → World → Prop := fun e w' => match r with
  | .got b => ∃ v L1, e = .returned v ∧ InvD (fpOf []) w w' L1 ∧ φg b v L1
  | .nil a => ∃ v, e = .returned v ∧ Below w.heap.size w w' ∧ φn a w' v
theorem InvD.toF {w0 w : World} {L : List Item} (H : Inv w0 w L) : InvD (fpOf []) w0 w L :=
  ⟨⟨H.baseX.os, H.baseX.tape, H.baseX.output, H.baseX.size, fun k hk _ => H.baseX.block k hk id⟩, fun it hi => ⟨(H.items it hi).1, fun b hb => ⟨((H.items it hi).2 b hb).1.imp id False.elim, ((H.items it hi).2 b hb).2⟩⟩, H.apart⟩
end Go.Fw
