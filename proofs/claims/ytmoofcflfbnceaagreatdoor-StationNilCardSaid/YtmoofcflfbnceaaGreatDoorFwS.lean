/-
  THE FRAMEWORK, PART S: functions that are handed the address of one variable, and change it. No program in it.
-/
import Derived.Test.YtmoofcflfbnceaaGreatDoorFwR
namespace Go.Fw
open Go.RowKit

theorem InvD.startX {w0 : World} {b : Nat} {T : TypeId} {cs : List Value} (h : w0.heap[b]? = some (.cells cs.toArray T (0, 0))) : InvD (fun x => x = b) w0 w0 [boxI b T cs] :=
  ⟨⟨rfl, rfl, rfl, Nat.le_refl _, fun _ _ _ => rfl⟩, fun it hi => by
    obtain rfl := List.mem_singleton.1 hi
    exact ⟨h, fun x hx => by cases hx; exact ⟨.inr rfl, (Array.getElem?_eq_some_iff.1 h).1⟩⟩, List.pairwise_singleton _ _⟩
section
variable {P : Program} {n : Nat} {ds : Md} {ops : Array Oper} {rest : List Oper} {K : Fr → World → Prop} {f : Fr} {Dq : Nat → Prop} {w w0 : World} {L : List Item} {T T0 : TypeId} {pos : String} {aft : Array Edge} {g : Option (Nat × Bool)} {d : Nat}
theorem InvD.boxAt (H : InvD Dq w0 w L) (i : Nat) {b : Nat} {cs : List Value} (hi : L[i]? = some (boxI b T cs)) : w.heap[b]? = some (.cells cs.toArray T (0, 0)) := (H.items _ (List.mem_of_getElem? hi)).1
theorem InvD.updX (H : InvD Dq w0 w L) (i : Nat) {b : Nat} {cs new : List Value} {w' : World} (hi : L[i]? = some (boxI b T cs)) (h : InvD (fun x => x = b) w w' [boxI b T new]) : InvD Dq w0 w' (L.set i (boxI b T new)) := by
  obtain ⟨h1, h2⟩ := h.items _ (List.mem_singleton.2 rfl)
  exact H.upd i _ _ hi ⟨h.baseX.os, h.baseX.tape, h.baseX.output, h.baseX.size, fun k hk hn => h.baseX.block k hk hn⟩ h1 fun x hx => ⟨(h2 x hx).2, .inl hx⟩
theorem O.callXV {k : FuncId} {x : Operand} {args : List Operand} {at_ : Array TypeId} {first cap : Array Value} {vs : List Value} {b : Nat} {cs new : List Value} {φ : Value → Prop} (i : Nat) (H : InvD Dq w0 w L) (hi : L[i]? = some (boxI b T cs)) (hcb : Callable P k)
    (hg : want ops g f = true) (hd : Nat.blt d n = true) (hx : ev f x = .func (.func k) first cap) (ha : args.map (ev f) = vs)
    (hc : Calls P k (first ++ vs.toArray ++ cap) w fun e w' => ∃ v, e = .returned v ∧ InvD (fun x => x = b) w w' [boxI b T new] ∧ φ v)
    (h : ∀ v w', InvD Dq w0 w' (L.set i (boxI b T new)) → φ v → WL P n ds ops rest K (upd f d v) w') : WL P n ds ops (⟨some d, .call ⟨.value x, args.toArray, at_⟩, T0, pos, aft, g⟩ :: rest) K f w := by
  refine WL.enter hg hd (k := k) (args := first ++ vs.toArray ++ cap) ?_ (hc.mono ?_)
  · simp only [execOp, resolve, hx, Deferred.ofValue, List.map_toArray, ha, Sem.run_bind, Sem.run_pure, Result.andThen_ok, invoke]
    simpa using hcb _ _
  · rintro e w' ⟨v, rfl, hI, hφ⟩
    exact ⟨v, rfl, h v w' (H.updX i hi hI) hφ⟩
end
end Go.Fw
