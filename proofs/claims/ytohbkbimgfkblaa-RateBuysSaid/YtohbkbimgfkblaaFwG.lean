/-
  THE FRAMEWORK, PART G: maps as lists of pairs, in the order in which their keys came.
-/
import Derived.Test.YtohbkbimgfkblaaFwF
namespace Go.Fw
open Go.RowKit

def mget {K V : Type} [DecidableEq K] (kv : List (K × V)) (k : K) : Option V := (kv.find? fun p => p.1 == k).map (·.2)
def mput {K V : Type} [DecidableEq K] (kv : List (K × V)) (k : K) (v : V) : List (K × V) :=
  if kv.any (fun p => p.1 == k) then kv.map (fun p => if p.1 == k then (k, v) else p) else kv ++ [(k, v)]

def MapOk {K V : Type} [Flat K] [Flat V] (w : World) (r : Nat) (kv : List (K × V)) : Prop :=
  ∃ es clock, w.heap[r]? = some (.map es clock) ∧ es.toList.map (fun e => (e.key, e.val)) = kv.map (fun p => (Flat.val p.1, Flat.val p.2)) ∧ (kv.map Prod.fst).Nodup ∧
    (es.toList.map (·.born)).Pairwise (· < ·) ∧ ∀ e ∈ es.toList, e.born < clock
def MapR {K V : Type} [Flat K] [Flat V] (w : World) (v : Value) (kv : List (K × V)) : Prop := (v = .map none ∧ kv = []) ∨ ∃ r, v = .map (some r) ∧ MapOk w r kv

def mapI {K V : Type} [Flat K] [Flat V] (r : Nat) (kv : List (K × V)) : Item :=
  ⟨fun b => b = r, fun w => MapOk w r kv, fun _ _ _ h ⟨es, c, h1, h2⟩ => ⟨es, c, (h r rfl).trans h1, h2⟩⟩
/-- A map that a callee hands back. -/
def OwnM {K V : Type} [Flat K] [Flat V] (w0 w : World) (v : Value) (kv : List (K × V)) : Prop := ∃ r, v = .map (some r) ∧ w0.heap.size ≤ r ∧ MapOk w r kv

section
variable {Dq : Nat → Prop} {w0 w w' : World} {L : List Item} {K V : Type} [Flat K] [Flat V]
end

/-! Keys. -/
structure KeyT (P : Program) (T : TypeId) (α : Type) [Flat α] [DecidableEq α] : Prop where
  ck : ∀ (k : α) b (w : World), (Instr.checkKey b 10000 T (Flat.val k)).run P w = .ok () w
  fnd : ∀ (k : α) (es : List MapEntry) (ks : List α) (w : World), es.map (·.key) = ks.map Flat.val →
    (Instr.findKey T (Flat.val k) es).run P w = .ok ((ks.findIdx? (· == k)).bind fun i => (es[i]?).map fun e => (i, e.val)) w
  stay : ∀ (k : α) (w : World), (Instr.keyThatStays (Flat.val k) (Flat.val k)).run P w = .ok (Flat.val k) w

theorem beq_bytes (a b : ByteArray) : (@BEq.beq ByteArray ByteArray.instBEq a b) = decide (a = b) := by
  obtain ⟨x⟩ := a
  obtain ⟨y⟩ := b
  show (x == y) = _
  rw [Bool.eq_iff_iff]
  simp
section
variable {P : Program} {n : Nat} {ds : Md} {ops : Array Oper} {rest : List Oper} {K : Fr → World → Prop} {f : Fr} {Dq : Nat → Prop} {w w0 : World} {L : List Item} {T T' T0 : TypeId} {pos : String} {aft : Array Edge}
  {g : Option (Nat × Bool)} {d : Nat}

end
end Go.Fw
