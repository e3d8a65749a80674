/-
  THE FRAMEWORK, PART AT: a function that defers a call. No program in it.
-/
import Derived.Test.YtmoofcflfbnceaaGreatDoorFwPn
import Derived.DefersIn
import Derived.RecoverIn
namespace Go.Fw
open Go.RowKit
section
variable {P : Program} {n : Nat} {pan : List PanicEntry → World → Prop} {Kn : Fr → World → Prop} {Kx : Nat → Fr → World → Prop} {Kr : Fr → World → Prop} {f : Fr} {w : World}
theorem W.deferred {id : Nat} {l : List Oper} {o : Oper} {y : Code} {D : Deferred}
    (h : WL P n ⟨none, false, noPan, []⟩ (l ++ [o]).toArray l (fun f' w' => want (l ++ [o]).toArray o.guard f' = true ∧ o.dst = none ∧ (o.semAt none (ev f')).run P w' = .ok (.defer D) w' ∧ W P n ⟨none, false, pan, [D]⟩ y Kn Kx Kr f' w') f w) {a : Act} (ha : Sim n ⟨none, false, noPan, []⟩ a f) :
    (Code.seq (.region id (l ++ [o]).toArray false) y).wpIn (FR ⟨none, false, noPan, []⟩) 0 P (post n ⟨none, false, pan, [D]⟩ Kn Kx Kr) a w := by
  refine wpIn_seq (wpIn_region_lit ?_)
  refine wpList_append (ds := ⟨none, false, noPan, []⟩) (fun e a w => match e with | .normal => ∃ f', Sim n ⟨none, false, noPan, []⟩ a f' ∧ (want (l ++ [o]).toArray o.guard f' = true ∧ o.dst = none ∧ (o.semAt none (ev f')).run P w = .ok (.defer D) w ∧ W P n ⟨none, false, pan, [D]⟩ y Kn Kx Kr f' w) | _ => False) ?_ ?_
    (h a ha _ (fun a' w' hb => hb) fun ch a' w' hp _ => hp.elim)
  · intro e a w he hq
    cases e <;> first | exact absurd rfl he | exact hq.elim
  · rintro a w ⟨f', hs, hw, hd, hr, hW⟩
    unfold wpListIn
    rw [if_pos (by rw [hs.want _ o]; exact hw)]
    refine ⟨fun _ _ => trivial, ?_⟩
    rw [show (FR ⟨none, false, noPan, []⟩).round = none from rfl, hs.ev, hr]
    unfold Oper.uponIn
    dsimp only
    rw [hd]
    exact wpListIn_nil (hW _ ⟨hs.size, by show D :: a.defers = _; rw [hs.dfs]; rfl, hs.get⟩)
theorem W.deferredQ {id : Nat} {l : List Oper} {o : Oper} {y : Code} {D : Deferred} {Q : Exit → Act → World → Prop}
    (h : WL P n ⟨none, false, noPan, []⟩ (l ++ [o]).toArray l (fun f' w' => want (l ++ [o]).toArray o.guard f' = true ∧ o.dst = none ∧ (o.semAt none (ev f')).run P w' = .ok (.defer D) w' ∧ ∀ a', Sim n ⟨none, false, noPan, [D]⟩ a' f' → y.wpIn (FR ⟨none, false, noPan, []⟩) 0 P Q a' w') f w) {a : Act} (ha : Sim n ⟨none, false, noPan, []⟩ a f) :
    (Code.seq (.region id (l ++ [o]).toArray false) y).wpIn (FR ⟨none, false, noPan, []⟩) 0 P Q a w := by
  refine wpIn_seq (wpIn_region_lit ?_)
  refine wpList_append (ds := ⟨none, false, noPan, []⟩) (fun e a w => match e with | .normal => ∃ f', Sim n ⟨none, false, noPan, []⟩ a f' ∧ (want (l ++ [o]).toArray o.guard f' = true ∧ o.dst = none ∧ (o.semAt none (ev f')).run P w = .ok (.defer D) w ∧ ∀ a', Sim n ⟨none, false, noPan, [D]⟩ a' f' → y.wpIn (FR ⟨none, false, noPan, []⟩) 0 P Q a' w) | _ => False) ?_ ?_
    (h a ha _ (fun a' w' hb => hb) fun ch a' w' hp _ => hp.elim)
  · intro e a w he hq
    cases e <;> first | exact absurd rfl he | exact hq.elim
  · rintro a w ⟨f', hs, hw, hd, hr, hW⟩
    unfold wpListIn
    rw [if_pos (by rw [hs.want _ o]; exact hw)]
    refine ⟨fun _ _ => trivial, ?_⟩
    rw [show (FR ⟨none, false, noPan, []⟩).round = none from rfl, hs.ev, hr]
    unfold Oper.uponIn
    dsimp only
    rw [hd]
    exact wpListIn_nil (hW _ ⟨hs.size, by show D :: a.defers = _; rw [hs.dfs]; rfl, hs.get⟩)
theorem WL.cutQ {ds : Md} {ops : Array Oper} {l : List Oper} {Q : Exit → Act → World → Prop} (k : Nat) (hp : ∀ ch w, ¬ ds.pan ch w)
    (h : WL P n ds ops (l.take k) (fun f w => ∀ a, Sim n ds a f → wpListIn (FR ds) 0 P ops Q (l.drop k) a w) f w) {a : Act} (ha : Sim n ds a f) : wpListIn (FR ds) 0 P ops Q l a w := by
  have e : l = l.take k ++ l.drop k := (List.take_append_drop k l).symm
  rw [e]
  refine wpList_append (fun e a w => match e with | .normal => ∃ f, Sim n ds a f ∧ ∀ a, Sim n ds a f → wpListIn (FR ds) 0 P ops Q (l.drop k) a w | _ => False) ?_ ?_ (h a ha _ (fun a' w' hb => hb) fun ch a' w' hp' _ => (hp ch w' hp').elim)
  · intro e a w he hq
    cases e <;> first | exact absurd rfl he | exact hq.elim
  · rintro a w ⟨f, hs, hb⟩
    exact hb a hs
theorem callNoQ {ds : Md} {ops : Array Oper} {rest : List Oper} {T0 : TypeId} {pos : String} {aft : Array Edge} {g : Option (Nat × Bool)} {d : Nat} {k : FuncId} {x : Operand} {args : List Operand} {at_ : Array TypeId} {first cap : Array Value} {vs : List Value} {ch : List PanicEntry} {R : World → Prop} {Q : Exit → Act → World → Prop} {a : Act} (hcb : Callable P k)
    (hg : want ops g f = true) (hx : ev f x = .func (.func k) first cap) (ha : args.map (ev f) = vs)
    (hc : Calls P k (first ++ vs.toArray ++ cap) w fun e w' => e = .panicked ch ∧ R w') (hQ : ∀ w', R w' → Q (.panic ch) a w') (hs : Sim n ds a f) : wpListIn (FR ds) 0 P ops Q (⟨some d, .call ⟨.value x, args.toArray, at_⟩, T0, pos, aft, g⟩ :: rest) a w := by
  refine wanted_wp (x := .enter k (first ++ vs.toArray ++ cap)) (w' := w) hs hg ?_ (by simp) ⟨fun h => (by cases h), ?_⟩
  · simp only [execOp, resolve, hx, Deferred.ofValue, List.map_toArray, ha, Sem.run_bind, Sem.run_pure, Result.andThen_ok, invoke]
    simpa using hcb _ _
  · refine CallsIn.mono (R := fun e w' => e = .panicked ch ∧ R w') (callsIn_wide.2 hc : CallsIn Fence.wide (0 - 1) P k (first ++ vs.toArray ++ cap) w _) ?_
    rintro e w' ⟨rfl, hr⟩
    exact hQ _ hr
end
end Go.Fw
