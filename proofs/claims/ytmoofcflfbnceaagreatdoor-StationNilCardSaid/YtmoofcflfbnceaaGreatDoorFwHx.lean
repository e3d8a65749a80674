/-
  THE FRAMEWORK, PART HX: what digits to the base of 16 ask: operations on known words, arrays of bytes behind a pointer, texts out of bytes. No program in it.
-/
import Derived.Test.YtmoofcflfbnceaaGreatDoorFwSt
import Derived.Test.YtmoofcflfbnceaaGreatDoorFwU6
import Derived.Laws.IdiomStrings
namespace Go.Fw
open Go.RowKit
def cutB (s : ByteArray) (lo hi : Int) : Option ByteArray := if 0 ≤ lo ∧ lo ≤ hi ∧ hi ≤ (s.size : Int) then some (s.extract lo.toNat hi.toNat) else none
section
variable {P : Program} {n : Nat} {ds : Md} {ops : Array Oper} {rest : List Oper} {K : Fr → World → Prop} {f : Fr} {Dq : Nat → Prop} {w w0 : World} {L : List Item} {T T' T0 : TypeId} {pos : String} {aft : Array Edge} {g : Option (Nat × Bool)} {d : Nat}
theorem O.unV {op : UnOp} {x : Operand} {a v : Value} (hx : ev f x = a) (hr : ∀ w : World, (Op.unary op a).run P w = .ok v w) (hg : want ops g f = true) (hd : Nat.blt d n = true) (h : WL P n ds ops rest K (upd f d v) w) :
    WL P n ds ops (⟨some d, .unOp op T x, T0, pos, aft, g⟩ :: rest) K f w :=
  WL.val hg hd (by simp only [execOp, hx, Sem.run_bind, hr, Result.andThen_ok, Sem.run_pure]) h
theorem O.binV {op : BinOp} {x y : Operand} {k k' : IntKind} {a b : Int} {v : Value} (hx : ev f x = .int k a) (hy : ev f y = .int k' b) (hr : ∀ w : World, (binOp op T (.int k a) (.int k' b)).run P w = .ok v w) (hg : want ops g f = true) (hd : Nat.blt d n = true)
    (h : WL P n ds ops rest K (upd f d v) w) : WL P n ds ops (⟨some d, .binOp op T x y T', T0, pos, aft, g⟩ :: rest) K f w := by
  refine WL.val hg hd ?_ h
  have he : (eqGuard op T x y (.int k a) (.int k' b)).run P w = .ok () w := by
    unfold eqGuard
    cases op <;> rfl
  simp only [execOp, hx, hy, Sem.run_bind, he, Result.andThen_ok, hr, Sem.run_pure]
theorem O.indexArrN {s ix : Operand} {q : Addr} {m i : Nat} {E : TypeId} {k : IntKind} (hT : P.underlying T = some (.array m E)) (hE : SizeT P E 1) (hi : i < m) (hg : want ops g f = true) (hd : Nat.blt d n = true)
    (hs : ev f s = .pointer (some q)) (hx : ev f ix = .int k (i : Int)) (h : WL P n ds ops rest K (upd f d (.pointer (some (q.add i)))) w) : WL P n ds ops (⟨some d, .indexAddr T s ix, T0, pos, aft, g⟩ :: rest) K f w := by
  refine WL.val hg hd ?_ h
  have h2 : (0 : Int) ≤ (i : Int) ∧ (i : Int) < (m : Int) := by omega
  simp only [execOp, hs, hx, Instr.indexAt, Instr.sureAddr, asIntOf, Sem.run_bind, Sem.run_pure, Result.andThen_ok, run_underlying hT, if_pos h2, run_sizeOf' hE, Int.toNat_natCast, Nat.mul_one]
theorem O.indexStrK {s ix : Operand} {a : ByteArray} {i : Nat} {x : UInt8} {k : IntKind} (hT : P.underlying T = some .string) (hi : (bytes a)[i]? = some x) (hg : want ops g f = true) (hd : Nat.blt d n = true) (hs : ev f s = .string a) (hx : ev f ix = .int k (i : Int))
    (h : WL P n ds ops rest K (upd f d (.int .u8 x.toNat)) w) : WL P n ds ops (⟨some d, .index T s ix, T0, pos, aft, g⟩ :: rest) K f w := by
  refine WL.val hg hd ?_ h
  have hlt : i < a.size := by rw [← bytes_len]; exact (List.getElem?_eq_some_iff.1 hi).1
  have hb : a[i]? = some x := by
    have h3 : a.data[i]? = some x := by simpa [bytes] using hi
    rw [getElem?_pos a i hlt]
    have h4 := (Array.getElem?_eq_some_iff.1 h3).2
    exact congrArg some h4
  have h0 : (0 : Int) ≤ (i : Int) := by omega
  simp only [execOp, hs, hx, Instr.index, asIntOf, Sem.run_bind, Sem.run_pure, Result.andThen_ok, run_underlying hT, if_pos h0, Int.toNat_natCast, hb]
theorem O.sliceArr {x a : Operand} {q : Addr} {m i : Nat} {E : TypeId} (hT : P.underlying T = some (.array m E)) (hE : SizeT P E 1) (hi : i < m) (hg : want ops g f = true) (hd : Nat.blt d n = true)
    (hx : ev f x = .pointer (some q)) (ha : ev f a = .int .i64 (i : Int)) (h : WL P n ds ops rest K (upd f d (.slice (some (q.add i)) (m - i) (m - i))) w) :
    WL P n ds ops (⟨some d, .slice T x (some a) none none, T0, pos, aft, g⟩ :: rest) K f w := by
  refine WL.val hg hd ?_ h
  have h2 : (0 : Int) ≤ (i : Int) ∧ (i : Int) ≤ (m : Int) := by omega
  have hn : ¬ m = i := by omega
  simp only [execOp, hx, Option.map_some, Option.map_none, ha, Instr.sliceAt, Instr.sureAddr, Instr.sliceBounds, Instr.sliceBound, asIntOf, Sem.run_bind, Sem.run_pure, Result.andThen_ok, run_underlying hT, if_pos h2, run_sizeOf' hE, Int.toNat_natCast, Nat.mul_one, if_neg hn]
theorem run_strslice {s r : ByteArray} {lo hi : Int} (hT : P.underlying T = some .string) (hc : cutB s lo hi = some r) (L H : Option Value) (hL : L = some (.int .i64 lo) ∨ (L = none ∧ lo = 0)) (hH : H = some (.int .i64 hi) ∨ (H = none ∧ hi = (s.size : Int))) :
    (Instr.sliceAt T (.string s) L H none).run P w = .ok (.string r) w := by
  unfold cutB at hc
  split at hc
  case isFalse => cases hc
  rename_i h
  cases hc
  obtain ⟨h0, h1, h2⟩ := h
  have hle : (0 : Int) ≤ lo ∧ lo ≤ ((hi.toNat : Nat) : Int) := by omega
  have hlh : (0 : Int) ≤ hi ∧ hi ≤ ((s.size : Nat) : Int) := by omega
  rcases hL with rfl | ⟨rfl, rfl⟩ <;> rcases hH with rfl | ⟨rfl, rfl⟩
  · simp only [Instr.sliceAt, Instr.slice, Instr.sliceBounds, Instr.sliceBound, asIntOf, Sem.run_bind, Sem.run_pure, Result.andThen_ok, run_underlying hT, if_pos hle, if_pos hlh, Option.isSome_none, Bool.false_eq_true, if_false]
  · rw [Int.toNat_natCast] at hle ⊢
    simp only [Instr.sliceAt, Instr.slice, Instr.sliceBounds, Instr.sliceBound, asIntOf, Sem.run_bind, Sem.run_pure, Result.andThen_ok, run_underlying hT, if_pos hle, Option.isSome_none, Bool.false_eq_true, if_false]
  · simp only [Instr.sliceAt, Instr.slice, Instr.sliceBounds, Instr.sliceBound, asIntOf, Sem.run_bind, Sem.run_pure, Result.andThen_ok, run_underlying hT, if_pos hlh, Option.isSome_none, Bool.false_eq_true, if_false]
    rfl
  · rw [Int.toNat_natCast]
    simp only [Instr.sliceAt, Instr.slice, Instr.sliceBounds, Instr.sliceBound, asIntOf, Sem.run_bind, Sem.run_pure, Result.andThen_ok, run_underlying hT, Option.isSome_none, Bool.false_eq_true, if_false]
    rfl
theorem O.sliceS {x : Operand} {a b : Option Operand} {s r : ByteArray} {lo hi : Int} (hT : P.underlying T = some .string) (hc : cutB s lo hi = some r) (hg : want ops g f = true) (hd : Nat.blt d n = true) (hx : ev f x = .string s)
    (ha : a.map (ev f) = some (.int .i64 lo) ∨ (a.map (ev f) = none ∧ lo = 0)) (hb : b.map (ev f) = some (.int .i64 hi) ∨ (b.map (ev f) = none ∧ hi = (s.size : Int))) (h : WL P n ds ops rest K (upd f d (.string r)) w) :
    WL P n ds ops (⟨some d, .slice T x a b none, T0, pos, aft, g⟩ :: rest) K f w := by
  refine WL.val hg hd ?_ h
  have hr := run_strslice (w := w) hT hc (a.map (ev f)) (b.map (ev f)) ha hb
  simp only [execOp, hx, Option.map_none, Sem.run_bind, hr, Result.andThen_ok, Sem.run_pure]
theorem O.strOf {S E : TypeId} {x : Operand} {q : Addr} {cap : Nat} {l : List UInt8} (hS : P.underlying S = some (.slice E)) (hE : P.underlying E = some (.int .u8)) (hT : P.underlying T = some .string) (hg : want ops g f = true) (hd : Nat.blt d n = true)
    (hx : ev f x = .slice (some q) l.length cap) (hc : ∀ (i : Nat) (b : UInt8), l[i]? = some b → w.cell? (q.add i) = some (.int .u8 b.toNat)) (h : WL P n ds ops rest K (upd f d (.string ⟨l.toArray⟩)) w) :
    WL P n ds ops (⟨some d, .convert S T x, T0, pos, aft, g⟩ :: rest) K f w := by
  refine WL.val hg hd ?_ h
  have hr := run_convert_bytes_back (P := P) w S T E q cap l hS hE hT fun j hj => hc j l[j] (List.getElem?_eq_getElem hj)
  simp only [execOp, hx, Sem.run_bind, hr, Result.andThen_ok, Sem.run_pure]
end
end Go.Fw
