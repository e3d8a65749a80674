/-
  THE FRAMEWORK, PART P: functions that are ranged over (iterators) and loops over them. No program in it.
-/
import Derived.Test.YtokfcbpfhojdkaaFwN
import Derived.RangeFuncSeq
namespace Go.Fw
open Go.RowKit

/-! What an iterator is told of the loop over it. B: the heap's size where it begins; C: the loop's own blocks, laid since. -/
structure Client {α : Type} (P : Program) (B l : Nat) (rep : World → α → List Value → Prop) (S : List α → Prop) (Kp : World → Prop) (J : List α → (Nat → Prop) → World → Prop) (Jx : (Nat → Prop) → World → Prop) : Prop where
  loc : ∀ pre C w w', J pre C w → Grew w w' → (∀ b, b < B ∨ C b → w'.heap[b]? = w.heap[b]?) → J pre C w'
  locx : ∀ C w w', Jx C w → Grew w w' → (∀ b, b < B ∨ C b → w'.heap[b]? = w.heap[b]?) → Jx C w'
  keep : ∀ pre C w, J pre C w → Kp w
  fp : ∀ pre C w, J pre C w → B ≤ w.heap.size ∧ ∀ b, C b → b < w.heap.size
  fpx : ∀ C w, Jx C w → B ≤ w.heap.size ∧ ∀ b, C b → b < w.heap.size
  step : ∀ pre x C w vs, (∃ rest, S (pre ++ x :: rest)) → J pre C w → rep w x vs →
    YieldAt (FR ⟨none, false, noPan, []⟩) 0 P l vs.toArray w fun e w' => ∃ C', (∀ b, C' b → C b ∨ w.heap.size ≤ b) ∧ Chg (fun b => b < B ∨ C b) w w' ∧
      ((e = .returned (.bool true) ∧ J (pre ++ [x]) C' w') ∨ (e = .returned (.bool false) ∧ Jx C' w'))

/-- The function g, ranged over from the world W on, gives one of the lists of S, as long as Kp holds. -/
def IterAt {α : Type} (P : Program) (g : FuncId) (lb : Array Value) (rep : World → α → List Value → Prop) (S : List α → Prop) (Kp : World → Prop) (W : World) : Prop :=
  ∀ (l : Nat) (J : List α → (Nat → Prop) → World → Prop) (Jx : (Nat → Prop) → World → Prop), Client P W.heap.size l rep S Kp J Jx → J [] (fun _ => False) W →
    Calls P g (#[.func (.yield l) #[] #[]] ++ lb) W fun e W' => ∃ v C, e = .returned v ∧ ((∃ xs, S xs ∧ J xs C W') ∨ Jx C W')
/-- A function value that came in, to be ranged over. -/
def IterP {α : Type} (P : Program) (w : World) (v : Value) (rep : World → α → List Value → Prop) (S : List α → Prop) : Prop :=
  ∃ g lb, v = .func (.func g) #[] lb ∧ Callable P g ∧ ∀ W Kp, w.heap.size ≤ W.heap.size → (∀ w', Kp w' → Below w.heap.size w w') → IterAt P g lb rep S Kp W
/-! Inside an iterator. -/
section
variable {α : Type} {P : Program} {B l : Nat} {rep : World → α → List Value → Prop} {S : List α → Prop} {Kp : World → Prop} {J : List α → (Nat → Prop) → World → Prop} {Jx : (Nat → Prop) → World → Prop}
def consI (hc : Client P B l rep S Kp J Jx) (pre : List α) (C : Nat → Prop) : Item := ⟨fun b => b < B ∨ C b, fun w => J pre C w, fun _ _ hg hs h => hc.loc _ _ _ _ h hg hs⟩
def consX (hc : Client P B l rep S Kp J Jx) (C : Nat → Prop) : Item := ⟨fun b => b < B ∨ C b, fun w => Jx C w, fun _ _ hg hs h => hc.locx _ _ _ h hg hs⟩
abbrev InvI (w0 w : World) (L : List Item) : Prop := InvD (fun _ => True) w0 w L
variable {n : Nat} {ds : Md} {ops : Array Oper} {rest : List Oper} {K : Fr → World → Prop} {f : Fr} {w w0 : World} {L : List Item} {T T0 : TypeId} {pos : String} {aft : Array Edge} {g : Option (Nat × Bool)} {d : Nat}
end

/-! A loop over an iterator. -/
def loopI (lb : Nat) (r : Loop) : Item := ⟨fun b => b = lb, fun w => w.heap[lb]? = some (.loop r), fun _ _ _ h h' => (h lb rfl).trans h'⟩
def markI (D : Nat) : Item := ⟨fun b => b = D, fun w => w.heap[D]? = some (.deferred (some [])), fun _ _ _ h h' => (h D rfl).trans h'⟩
/-- Whatever lies in w at blocks of F. -/
def restI (F : Nat → Prop) (w : World) : Item := ⟨F, fun v => w.heap.size ≤ v.heap.size ∧ ∀ b, F b → v.heap[b]? = w.heap[b]?, fun _ _ hg h h' => ⟨Nat.le_trans h'.1 hg.size, fun b hb => (h b hb).trans (h'.2 b hb)⟩⟩
/-- An item is known by less. -/
theorem InvD.weak {X : Nat → Prop} {w0 w : World} {L : List Item} (H : InvD X w0 w L) (i : Nat) (it it' : Item) (hi : L[i]? = some it) (hfp : ∀ b, it'.fp b → it.fp b) (hok : it.ok w → it'.ok w) : InvD X w0 w (L.set i it') := by
  have hok0 := (H.items it (List.mem_of_getElem? hi)).1
  refine H.upd i it it' hi ⟨rfl, rfl, rfl, Nat.le_refl _, fun _ _ _ => rfl⟩ (hok hok0) (fun b hb => ⟨((H.items it (List.mem_of_getElem? hi)).2 b (hfp b hb)).2, .inl (hfp b hb)⟩)
def updZ (f : Fr) : List Nat → List Value → Fr
  | p :: ps, v :: vs => updZ (upd f p v) ps vs
  | _, _ => f
section
variable {P : Program} {n : Nat} {Kn : Fr → World → Prop} {Kx : Nat → Fr → World → Prop} {Kr : Fr → World → Prop} {f : Fr} {w w0 : World} {L : List Item}

def markF (f : Fr) (D : Nat) : Fr := ⟨f.tmp, D :: f.marks⟩

def codeOf : Option Nat → Code
  | none => .ret
  | some i => .exit i

end
end Go.Fw
