/-
  THE FRAMEWORK, PART PN: functions that may panic: their further end. No program in it.
-/
import Derived.Test.YtmoofcflfbnceaaGreatDoorFwO
namespace Go.Fw
open Go.RowKit
section
variable {P : Program} {n : Nat} {ds : Md} {ops : Array Oper} {rest : List Oper} {K : Fr → World → Prop} {f : Fr} {w : World} {T T0 : TypeId} {pos : String} {aft : Array Edge} {g : Option (Nat × Bool)} {d : Nat}
theorem Sim.noDefers {a : Act} (h : Sim n ds a f) (hm : ds.marked = false) : a.defers = ds.tl := by
  have := h.dfs
  rw [hm] at this
  exact this
theorem O.panicI {x : Operand} {t : TypeId} {v : Value} (hg : want ops g f = true) (hx : ev f x = .iface t v) (hp : ds.pan [{ v := .iface t v, recovered := false }] w) :
    WL P n ds ops (⟨none, .panic x, T0, pos, aft, g⟩ :: rest) K f w := by
  intro a ha Q hQ hP
  unfold wpListIn
  rw [if_pos (by rw [ha.want ops _]; exact hg)]
  refine ⟨fun _ _ => trivial, ?_⟩
  have hs : (⟨none, .panic x, T0, pos, aft, g⟩ : Oper).semAt (FR ds).round a.eval = execOp a.eval ⟨none, .panic x, T0, pos, aft, g⟩ := Oper.semAt_eq _ _ _ fun c hc => by cases hc
  have hr : (execOp a.eval ⟨none, .panic x, T0, pos, aft, g⟩).run P w = .halt (.panic (.iface t v)) w := by
    rw [ha.ev]
    simp only [execOp, hx, Instr.panic]
    rfl
  rw [hs, hr]
  exact hP _ _ _ hp ha.noDefers
theorem WL.enterP {o : Oper} (hg : want ops o.guard f = true) (hd : okDst n o.dst = true) {k : FuncId} {args : Array Value}
    (hrun : (execOp (ev f) o).run P w = .ok (.enter k args) w)
    (h : Calls P k args w fun e w' => (∃ v, e = .returned v ∧ WL P n ds ops rest K (updo f o.dst v) w') ∨ ∃ ch, e = .panicked ch ∧ ds.pan ch w') : WL P n ds ops (o :: rest) K f w := by
  intro a ha Q hQ hP
  refine wanted_wp ha hg hrun (by simp) ⟨fun h => (by cases h), ?_⟩
  refine CallsIn.mono (R := fun e w' => (∃ v, e = .returned v ∧ WL P n ds ops rest K (updo f o.dst v) w') ∨ ∃ ch, e = .panicked ch ∧ ds.pan ch w') (callsIn_wide.2 h : CallsIn Fence.wide (0 - 1) P k args w _) ?_
  rintro e w' (⟨v, rfl, hK⟩ | ⟨ch, rfl, hp⟩)
  · exact hK _ (ha.put hd v) Q hQ hP
  · exact hP _ _ _ hp ha.noDefers
theorem calls_of_WP {k : FuncId} {fn : Func} {c : Code} {args : Array Value} {R : Ending → World → Prop} {nt : Nat} (hf : P.funcs[k]? = some fn) (hb : fn.body = some c) (hnt : fn.ntmps = nt)
    (hn : args.size ≤ nt) (h : W P nt ⟨none, false, fun ch w => R (.panicked ch) w, []⟩ c (EndsIn P fn nt R) (fun _ _ _ => False) (EndsIn P fn nt R) (fr0 args) w) : Calls P k args w R := by
  subst hnt
  refine callsIn_wide.1 (callsIn_of_wp_marks (F := Fence.wide) (n := 0) hf hb trivial (wpIn_mono (h _ (initSim hn)) ?_))
  intro e a w hq
  cases e with
  | normal => obtain ⟨f, hs, h2⟩ := hq; show LeavesInM _ _ _ _ _ _ a.defers _ _; rw [hs.dfs]; exact h2 a.tmps hs.size hs.get
  | ret => obtain ⟨f, hs, h2⟩ := hq; show LeavesInM _ _ _ _ _ _ a.defers _ _; rw [hs.dfs]; exact h2 a.tmps hs.size hs.get
  | exit i => obtain ⟨f, hs, hk⟩ := hq; exact hk.elim
  | panic ch => obtain ⟨h1, h2⟩ := hq; show LeavesInM _ _ _ _ _ _ a.defers _ _; rw [h2 rfl]; exact h1
  | _ => exact hq.elim
end
inductive Ref (α : Type) where
  | ok (a : α)
  | no (e : Int)
def refuse (T : TypeId) (x : Int) : List PanicEntry := [{ v := .iface T (.agg #[.int .i64 x]), recovered := false }]
abbrev PRet (T : TypeId) {α : Type} (w : World) (r : Ref α) (φ : α → World → Value → Prop) : Ending → World → Prop := fun e w' => match r with
  | .ok a => ∃ v, e = .returned v ∧ Below w.heap.size w w' ∧ φ a w' v
  | .no x => e = .panicked (refuse T x) ∧ Below w.heap.size w w'
abbrev OPost (X : Nat → Prop) {α : Type} (w : World) (r : α) (φ : α → Value → List Item → Prop) : Ending → World → Prop := fun e w' => ∃ v L1, e = .returned v ∧ InvD X w w' L1 ∧ φ r v L1
abbrev PPost (T : TypeId) (X : Nat → Prop) {α : Type} (w : World) (r : Ref α) (φ : α → Value → List Item → Prop) : Ending → World → Prop := fun e w' => match r with
  | .ok a => ∃ v L1, e = .returned v ∧ InvD X w w' L1 ∧ φ a v L1
  | .no x => e = .panicked (refuse T x) ∧ BelowX X w w'
theorem InvD.belowFX {Dq : Nat → Prop} {w0 w w' : World} {A L0 : List Item} (H : InvD Dq w0 w (A ++ L0)) (hb : BelowX (fpOf L0) w w') : BelowX Dq w0 w' := by
  refine ⟨hb.os.trans H.baseX.os, hb.tape.trans H.baseX.tape, hb.output.trans H.baseX.output, Nat.le_trans H.baseX.size hb.size, fun k hk hx => ?_⟩
  refine (hb.block k (Nat.lt_of_lt_of_le hk H.baseX.size) ?_).trans (H.baseX.block k hk hx)
  rintro ⟨it, hi, hf⟩
  rcases ((H.items it (List.mem_append_right _ hi)).2 k hf).1 with h1 | h1
  · omega
  · exact hx h1
section
variable {P : Program} {n : Nat} {ds : Md} {ops : Array Oper} {rest : List Oper} {K : Fr → World → Prop} {f : Fr} {Dq : Nat → Prop} {w w0 : World} {T T0 : TypeId} {pos : String} {aft : Array Edge} {g : Option (Nat × Bool)} {d : Nat}
theorem run_callK {o : Option Nat} {k : FuncId} {args : List Operand} {at_ : Array TypeId} {vs : List Value} (hcb : Callable P k) (ha : args.map (ev f) = vs) :
    (execOp (ev f) ⟨o, .call ⟨.value (.func k), args.toArray, at_⟩, T0, pos, aft, g⟩).run P w = .ok (.enter k vs.toArray) w := by
  simp only [execOp, resolve, ev, Deferred.ofValue, List.map_toArray, ha, Sem.run_bind, Sem.run_pure, Result.andThen_ok, invoke]
  simpa using hcb _ _
theorem O.callNo {k : FuncId} {args : List Operand} {at_ : Array TypeId} {vs : List Value} {ch : List PanicEntry} (hcb : Callable P k) (hg : want ops g f = true) (hd : Nat.blt d n = true) (ha : args.map (ev f) = vs)
    (hc : Calls P k vs.toArray w fun e w' => e = .panicked ch ∧ Below w.heap.size w w') (hp : ∀ w', Below w.heap.size w w' → ds.pan ch w') :
    WL P n ds ops (⟨some d, .call ⟨.value (.func k), args.toArray, at_⟩, T0, pos, aft, g⟩ :: rest) K f w :=
  WL.enterP hg hd (run_callK hcb ha) (hc.mono fun e w' h => .inr ⟨ch, h.1, hp w' h.2⟩)
theorem O.callFNo {k : FuncId} {args : List Operand} {at_ : Array TypeId} {vs : List Value} {ch : List PanicEntry} (A L0 : List Item) (H : InvD Dq w0 w (A ++ L0)) (hcb : Callable P k) (hg : want ops g f = true) (hd : Nat.blt d n = true) (ha : args.map (ev f) = vs)
    (hc : Calls P k vs.toArray w fun e w' => e = .panicked ch ∧ BelowX (fpOf L0) w w') (hp : ∀ w', BelowX Dq w0 w' → ds.pan ch w') :
    WL P n ds ops (⟨some d, .call ⟨.value (.func k), args.toArray, at_⟩, T0, pos, aft, g⟩ :: rest) K f w :=
  WL.enterP hg hd (run_callK hcb ha) (hc.mono fun e w' h => .inr ⟨ch, h.1, hp w' (H.belowFX h.2)⟩)
end
end Go.Fw
