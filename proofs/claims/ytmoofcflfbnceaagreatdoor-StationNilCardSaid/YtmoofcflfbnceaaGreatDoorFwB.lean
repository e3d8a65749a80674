/-
  THE FRAMEWORK, PART B: the plain operations (no memory), each as one step of the walk.
-/
import Derived.Test.YtmoofcflfbnceaaGreatDoorFwA
import Derived.WalkLawsBesides
namespace Go.Fw
open Go.RowKit

/-! The models' arithmetic. -/
def inI (c : Int) : Bool := decide (-9223372036854775808 ≤ c) && decide (c ≤ 9223372036854775807)
def addI (a b : Int) : Option Int := if inI (a + b) then some (a + b) else none
def subI (a b : Int) : Option Int := if inI (a - b) then some (a - b) else none
def mulI (a b : Int) : Option Int := if inI (a * b) then some (a * b) else none
def negI (a : Int) : Option Int := if inI (-a) then some (-a) else none
def quoI (a b : Int) : Option Int := if b = 0 then none else if inI (a.tdiv b) then some (a.tdiv b) else none
def remI (a b : Int) : Option Int := if b = 0 then none else some (a.tmod b)
def bs (l : List UInt8) : ByteArray := ⟨l.toArray⟩
def vI (a : Int) : Value := .int .i64 a
def vB (b : Bool) : Value := .bool b
def vS (l : List UInt8) : Value := .string (bs l)

theorem inI_iff {c : Int} : inI c = true ↔ -9223372036854775808 ≤ c ∧ c ≤ 9223372036854775807 := by simp [inI]
theorem wrap_of_inI {c : Int} (h : inI c = true) : IntKind.i64.wrap c = c := by
  rw [inI_iff] at h
  exact IntWalk.i64_in c (by omega)
theorem addI_some {a b c : Int} (h : addI a b = some c) : IntKind.i64.wrap (a + b) = c := by
  unfold addI at h; split at h
  · rename_i hi; rw [wrap_of_inI hi]; exact Option.some.inj h
  · cases h
theorem subI_some {a b c : Int} (h : subI a b = some c) : IntKind.i64.wrap (a - b) = c := by
  unfold subI at h; split at h
  · rename_i hi; rw [wrap_of_inI hi]; exact Option.some.inj h
  · cases h
theorem mulI_some {a b c : Int} (h : mulI a b = some c) : IntKind.i64.wrap (a * b) = c := by
  unfold mulI at h; split at h
  · rename_i hi; rw [wrap_of_inI hi]; exact Option.some.inj h
  · cases h
theorem negI_some {a c : Int} (h : negI a = some c) : IntKind.i64.wrap (0 - a) = c := by
  unfold negI at h; split at h
  · rename_i hi; rw [Int.zero_sub, wrap_of_inI hi]; exact Option.some.inj h
  · cases h
theorem quoI_some {a b c : Int} (h : quoI a b = some c) : b ≠ 0 ∧ IntKind.i64.wrap (a.tdiv b) = c := by
  unfold quoI at h; split at h
  · cases h
  · rename_i hb; split at h
    · rename_i hi; rw [wrap_of_inI hi]; exact ⟨hb, Option.some.inj h⟩
    · cases h
theorem remI_some {a b c : Int} (h : remI a b = some c) : b ≠ 0 ∧ a.tmod b = c := by
  unfold remI at h; split at h
  · cases h
  · rename_i hb; exact ⟨hb, Option.some.inj h⟩

theorem bind_some {α β : Type} {o : Option α} {g : α → Option β} {r : β} (h : o.bind g = some r) : ∃ a, o = some a ∧ g a = some r := by
  cases o with
  | none => cases h
  | some a => exact ⟨a, rfl, h⟩
theorem ite_some {α : Type} {b : Bool} {x y : Option α} {r : α} (h : (if b = true then x else y) = some r) : (b = true ∧ x = some r) ∨ (b = false ∧ y = some r) := by
  cases b
  · exact .inr ⟨rfl, by simpa using h⟩
  · exact .inl ⟨rfl, by simpa using h⟩

section
variable {P : Program} {n : Nat} {ds : Md} {ops : Array Oper} {rest : List Oper} {K : Fr → World → Prop} {f : Fr} {w : World} {T T' T0 : TypeId} {pos : String} {aft : Array Edge} {g : Option (Nat × Bool)} {d : Nat}

theorem O.move {x : Operand} {v : Value} (hg : want ops g f = true) (hd : Nat.blt d n = true) (hx : ev f x = v) (h : WL P n ds ops rest K (upd f d v) w) :
    WL P n ds ops (⟨some d, .move x, T, pos, aft, g⟩ :: rest) K f w := WL.val hg hd (by simp [execOp, hx]) h
theorem O.assign {x : Operand} {v : Value} (hg : want ops g f = true) (hd : Nat.blt d n = true) (hx : ev f x = v) (h : WL P n ds ops rest K (upd f d v) w) :
    WL P n ds ops (⟨some d, .assign x, T, pos, aft, g⟩ :: rest) K f w := WL.val hg hd (by simp [execOp, hx]) h
theorem O.pick_true {c a b : Operand} {v : Value} (hg : want ops g f = true) (hd : Nat.blt d n = true) (hc : ev f c = .bool true) (hx : ev f a = v) (h : WL P n ds ops rest K (upd f d v) w) :
    WL P n ds ops (⟨some d, .pick c a b, T, pos, aft, g⟩ :: rest) K f w := WL.val hg hd (by simp [execOp, hx, hc, asBool]) h
theorem O.pick_false {c a b : Operand} {v : Value} (hg : want ops g f = true) (hd : Nat.blt d n = true) (hc : ev f c = .bool false) (hx : ev f b = v) (h : WL P n ds ops rest K (upd f d v) w) :
    WL P n ds ops (⟨some d, .pick c a b, T, pos, aft, g⟩ :: rest) K f w := WL.val hg hd (by simp [execOp, hx, hc, asBool]) h
theorem O.skip {o : Op} (hg : want ops g f = false) (hd : Nat.blt d n = true) (h : WL P n ds ops rest K (upd f d undef) w) :
    WL P n ds ops (⟨some d, o, T, pos, aft, g⟩ :: rest) K f w := WL.skip hg hd h

theorem O.add {x y : Operand} {a b c : Int} (hg : want ops g f = true) (hd : Nat.blt d n = true) (hx : ev f x = .int .i64 a) (hy : ev f y = .int .i64 b) (hc : addI a b = some c)
    (h : WL P n ds ops rest K (upd f d (.int .i64 c)) w) : WL P n ds ops (⟨some d, .binOp .add T x y T', T0, pos, aft, g⟩ :: rest) K f w :=
  WL.val hg hd (by simp [execOp, eqGuard, hx, hy, binOp, Op.intArith, addI_some hc]) h
theorem O.sub {x y : Operand} {a b c : Int} (hg : want ops g f = true) (hd : Nat.blt d n = true) (hx : ev f x = .int .i64 a) (hy : ev f y = .int .i64 b) (hc : subI a b = some c)
    (h : WL P n ds ops rest K (upd f d (.int .i64 c)) w) : WL P n ds ops (⟨some d, .binOp .sub T x y T', T0, pos, aft, g⟩ :: rest) K f w :=
  WL.val hg hd (by simp [execOp, eqGuard, hx, hy, binOp, Op.intArith, subI_some hc]) h
theorem O.mul {x y : Operand} {a b c : Int} (hg : want ops g f = true) (hd : Nat.blt d n = true) (hx : ev f x = .int .i64 a) (hy : ev f y = .int .i64 b) (hc : mulI a b = some c)
    (h : WL P n ds ops rest K (upd f d (.int .i64 c)) w) : WL P n ds ops (⟨some d, .binOp .mul T x y T', T0, pos, aft, g⟩ :: rest) K f w :=
  WL.val hg hd (by simp [execOp, eqGuard, hx, hy, binOp, Op.intArith, mulI_some hc]) h
theorem O.quo {x y : Operand} {a b c : Int} (hg : want ops g f = true) (hd : Nat.blt d n = true) (hx : ev f x = .int .i64 a) (hy : ev f y = .int .i64 b) (hc : quoI a b = some c)
    (h : WL P n ds ops rest K (upd f d (.int .i64 c)) w) : WL P n ds ops (⟨some d, .binOp .quo T x y T', T0, pos, aft, g⟩ :: rest) K f w :=
  WL.val hg hd (by simp [execOp, eqGuard, hx, hy, binOp, Op.intDiv, (quoI_some hc).1, (quoI_some hc).2]) h
theorem O.rem {x y : Operand} {a b c : Int} (hg : want ops g f = true) (hd : Nat.blt d n = true) (hx : ev f x = .int .i64 a) (hy : ev f y = .int .i64 b) (hc : remI a b = some c)
    (h : WL P n ds ops rest K (upd f d (.int .i64 c)) w) : WL P n ds ops (⟨some d, .binOp .rem T x y T', T0, pos, aft, g⟩ :: rest) K f w :=
  WL.val hg hd (by simp [execOp, eqGuard, hx, hy, binOp, Op.intDiv, (remI_some hc).1, (remI_some hc).2]) h
theorem O.lss {k : IntKind} {x y : Operand} {a b : Int} (hg : want ops g f = true) (hd : Nat.blt d n = true) (hx : ev f x = .int k a) (hy : ev f y = .int k b)
    (h : WL P n ds ops rest K (upd f d (.bool (decide (a < b)))) w) : WL P n ds ops (⟨some d, .binOp .lss T x y T', T0, pos, aft, g⟩ :: rest) K f w :=
  WL.val hg hd (by simp [execOp, eqGuard, hx, hy, binOp, Op.intCmp]) h
theorem O.leq {k : IntKind} {x y : Operand} {a b : Int} (hg : want ops g f = true) (hd : Nat.blt d n = true) (hx : ev f x = .int k a) (hy : ev f y = .int k b)
    (h : WL P n ds ops rest K (upd f d (.bool (decide (a ≤ b)))) w) : WL P n ds ops (⟨some d, .binOp .leq T x y T', T0, pos, aft, g⟩ :: rest) K f w :=
  WL.val hg hd (by simp [execOp, eqGuard, hx, hy, binOp, Op.intCmp]) h
theorem O.gtr {k : IntKind} {x y : Operand} {a b : Int} (hg : want ops g f = true) (hd : Nat.blt d n = true) (hx : ev f x = .int k a) (hy : ev f y = .int k b)
    (h : WL P n ds ops rest K (upd f d (.bool (decide (b < a)))) w) : WL P n ds ops (⟨some d, .binOp .gtr T x y T', T0, pos, aft, g⟩ :: rest) K f w :=
  WL.val hg hd (by simp [execOp, eqGuard, hx, hy, binOp, Op.intCmp]) h
theorem O.geq {k : IntKind} {x y : Operand} {a b : Int} (hg : want ops g f = true) (hd : Nat.blt d n = true) (hx : ev f x = .int k a) (hy : ev f y = .int k b)
    (h : WL P n ds ops rest K (upd f d (.bool (decide (b ≤ a)))) w) : WL P n ds ops (⟨some d, .binOp .geq T x y T', T0, pos, aft, g⟩ :: rest) K f w :=
  WL.val hg hd (by simp [execOp, eqGuard, hx, hy, binOp, Op.intCmp]) h
theorem O.eql {k : IntKind} {x y : Operand} {a b : Int} (hg : want ops g f = true) (hd : Nat.blt d n = true) (hx : ev f x = .int k a) (hy : ev f y = .int k b)
    (h : WL P n ds ops rest K (upd f d (.bool (a == b))) w) : WL P n ds ops (⟨some d, .binOp .eql T x y T', T0, pos, aft, g⟩ :: rest) K f w :=
  WL.val hg hd (by simp [execOp, eqGuard, hx, hy, binOp, Op.intCmp]) h
theorem O.neq {k : IntKind} {x y : Operand} {a b : Int} (hg : want ops g f = true) (hd : Nat.blt d n = true) (hx : ev f x = .int k a) (hy : ev f y = .int k b)
    (h : WL P n ds ops rest K (upd f d (.bool (a != b))) w) : WL P n ds ops (⟨some d, .binOp .neq T x y T', T0, pos, aft, g⟩ :: rest) K f w :=
  WL.val hg hd (by simp [execOp, eqGuard, hx, hy, binOp, Op.intCmp]) h
theorem O.not {x : Operand} {b : Bool} (hg : want ops g f = true) (hd : Nat.blt d n = true) (hx : ev f x = .bool b) (h : WL P n ds ops rest K (upd f d (.bool (!b))) w) :
    WL P n ds ops (⟨some d, .unOp .not T x, T', pos, aft, g⟩ :: rest) K f w := WL.val hg hd (by simp [execOp, hx, Op.unary]) h
theorem O.neg {x : Operand} {a c : Int} (hg : want ops g f = true) (hd : Nat.blt d n = true) (hx : ev f x = .int .i64 a) (hc : negI a = some c) (h : WL P n ds ops rest K (upd f d (.int .i64 c)) w) :
    WL P n ds ops (⟨some d, .unOp .neg T x, T', pos, aft, g⟩ :: rest) K f w := WL.val hg hd (by simp only [execOp, hx, Op.unary, Op.intArith, negI_some hc]; rfl) h
theorem O.extract {x : Operand} {vs : Array Value} {i : Nat} {v : Value} (hg : want ops g f = true) (hd : Nat.blt d n = true) (hx : ev f x = .tuple vs) (hv : vs[i]? = some v)
    (h : WL P n ds ops rest K (upd f d v) w) : WL P n ds ops (⟨some d, .extract x i, T, pos, aft, g⟩ :: rest) K f w :=
  WL.val hg hd (by simp [execOp, hx, Instr.extract, hv]) h

def Callable (P : Program) (k : FuncId) : Prop := ∀ args w, (callFunc k args).run P w = .ok (.enter k args) w

def Ret (w : World) (φ : World → Value → Prop) : Ending → World → Prop := fun e w' => ∃ v, e = .returned v ∧ Below w.heap.size w w' ∧ φ w' v

theorem O.call {k : FuncId} {args : List Operand} {at_ : Array TypeId} {vs : List Value} {φ : World → Value → Prop} (hcb : Callable P k) (hg : want ops g f = true) (hd : Nat.blt d n = true)
    (ha : args.map (ev f) = vs) (hc : Calls P k vs.toArray w (Ret w φ))
    (h : ∀ v w', Below w.heap.size w w' → φ w' v → WL P n ds ops rest K (upd f d v) w') :
    WL P n ds ops (⟨some d, .call ⟨.value (.func k), args.toArray, at_⟩, T, pos, aft, g⟩ :: rest) K f w := by
  refine WL.enter hg hd (k := k) (args := vs.toArray) ?_ (hc.mono ?_)
  · simp only [execOp, resolve, ev, Deferred.ofValue, List.map_toArray, ha, Sem.run_bind, Sem.run_pure, Result.andThen_ok, invoke]
    simpa using hcb _ _
  · rintro e w' ⟨v, rfl, hb, hφ⟩
    exact ⟨v, rfl, h v w' hb hφ⟩

def CallsV (P : Program) (v : Value) (args : Array Value) (w : World) (R : Ending → World → Prop) : Prop :=
  ∃ k first captured, v = .func (.func k) first captured ∧ Callable P k ∧ Calls P k (first ++ args ++ captured) w R

theorem O.callV {x : Operand} {v : Value} {args : List Operand} {at_ : Array TypeId} {vs : List Value} {φ : World → Value → Prop} (hg : want ops g f = true) (hd : Nat.blt d n = true)
    (hx : ev f x = v) (ha : args.map (ev f) = vs) (hc : CallsV P v vs.toArray w (Ret w φ))
    (h : ∀ v w', Below w.heap.size w w' → φ w' v → WL P n ds ops rest K (upd f d v) w') :
    WL P n ds ops (⟨some d, .call ⟨.value x, args.toArray, at_⟩, T, pos, aft, g⟩ :: rest) K f w := by
  obtain ⟨k, first, cap, rfl, hcb, hc⟩ := hc
  refine WL.enter hg hd (k := k) (args := first ++ vs.toArray ++ cap) ?_ (hc.mono ?_)
  · simp only [execOp, resolve, hx, Deferred.ofValue, List.map_toArray, ha, Sem.run_bind, Sem.run_pure, Result.andThen_ok, invoke]
    simpa using hcb _ _
  · rintro e w' ⟨v, rfl, hb, hφ⟩
    exact ⟨v, rfl, h v w' hb hφ⟩
end
end Go.Fw
