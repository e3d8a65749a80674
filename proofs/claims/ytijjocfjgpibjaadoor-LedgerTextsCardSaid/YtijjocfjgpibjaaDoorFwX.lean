/-
  THE FRAMEWORK, PART X: ranges over strings of ASCII; strconv.Itoa, over its listed table. No program in it.
-/
import Derived.Test.YtijjocfjgpibjaaDoorFwV
import Derived.Shelf.Slices.Reverse
import Derived.Lib.OthersKept
import Derived.Laws.RangeString
import Derived.Shelf.Strconv.Itoa3
import Derived.Lib.ItoaLen
namespace Go.Fw
open Go.RowKit
/-- strconv's table of powers is as its text lays it. -/
def TabH (P : Program) (w : World) : Prop := Lib.TabIs P w "internal/strconv.uint64pow10" .u64 Lib.pow10Tab
theorem TabH.mono {P : Program} {w w' : World} (h : TabH P w) (hb : Below w.heap.size w w') : TabH P w' := by
  unfold TabH Lib.TabIs World.var? at *
  cases hg : P.globalNamed "internal/strconv.uint64pow10" with
  | none => rw [hg] at h; simp at h
  | some g =>
    rw [hg] at h
    simp only [Option.bind_some] at h ⊢
    cases hc : w.heap[g]? with
    | none => rw [hc] at h; simp at h
    | some o => rw [hb.block g (heap_lt hc)]; exact h
theorem below_grown (w : World) (q : Nat) (os : Array Obj) : Below w.heap.size w (Sort.grow (w.drewN q) os) := by
  refine ⟨rfl, rfl, rfl, ?_, fun k hk => ?_⟩
  · show w.heap.size ≤ (w.heap ++ os).size
    rw [Array.size_append]; omega
  · show (w.heap ++ os)[k]? = w.heap[k]?
    rw [Array.getElem?_append_left hk]
def strI (b : Nat) (s : ByteArray) (pos : Nat) : Item := ⟨fun x => x = b, fun w => w.heap[b]? = some (.stringIter s pos), fun _ _ _ h h' => (h b rfl).trans h'⟩
def heldI (b : Nat) (o : Obj) : Item := ⟨fun x => x = b, fun w => w.heap[b]? = some o, fun _ _ _ h h' => (h b rfl).trans h'⟩
section
variable {P : Program} {n : Nat} {ds : Md} {ops : Array Oper} {rest : List Oper} {K : Fr → World → Prop} {f : Fr} {Dq : Nat → Prop} {w w0 : World} {L : List Item} {T T0 : TypeId} {T' : TypeId} {pos : String} {aft : Array Edge} {g : Option (Nat × Bool)} {d : Nat}
end
/-! What the library does to a row of ints in its place. -/
section
open Go.Sort
def turnL {α : Type} (srt : List α → List α) (xs : List α) : Option (List α) := if xs.length ≤ 1099511627776 then some (srt xs) else none
def TurnsI (P : Program) (k : FuncId) (g1 : List Int → List Int) : Prop :=
  (∀ xs, (g1 xs).length = xs.length) ∧ g1 [] = [] ∧
  (∀ (blk off cap : Nat) (zs : List Int) (w : World), Holds (Value.int .i64) w blk off zs.toArray → blk < w.heap.size → zs.length < 4611686018427387904 →
    Calls P k #[.slice (some ⟨blk, off, none⟩) zs.length cap] w fun e w' => e = .returned (.tuple #[]) ∧ ∃ n os, w' = grow (putRow (Value.int .i64) (Sort.ahead w n) blk off (g1 zs).toArray) os) ∧
  ∀ (p : Option Addr) (cap : Nat) (w : World), Calls P k #[.slice p 0 cap] w fun e w' => e = .returned (.tuple #[]) ∧ w' = w
variable {P : Program} {n : Nat} {ds : Md} {ops : Array Oper} {rest : List Oper} {K : Fr → World → Prop} {f : Fr} {Dq : Nat → Prop} {w w0 : World} {L : List Item} {T T0 : TypeId} {pos : String} {aft : Array Edge} {g : Option (Nat × Bool)} {d : Nat}
end
end Go.Fw
