/-
  THE FRAMEWORK, PART L: slices against nil; slices of slices; parts of slices; stores into the elements of a slice that the call owns.
-/
import Derived.Test.YtnkncedhanainaaGreatDoorFwI
namespace Go.Fw
open Go.RowKit

theorem SliceR.nil_or {α : Type} [Ty α] {w : World} {v : Value} {xs : List α} (h : SliceR w v xs) : (v = .slice none 0 0 ∧ xs = []) ∨ ∃ a cap, v = .slice (some a) xs.length cap := by
  obtain ⟨_, h | ⟨a, cap, h, _⟩⟩ := h
  · exact .inl h
  · exact .inr ⟨a, cap, h⟩

/-- Slices are elements, too. -/
instance instTyList {α : Type} [Ty α] : Ty (List α) where
  size := 1
  rep w cs xs := ∃ v, cs = [v] ∧ SliceR w v xs
  len h := by obtain ⟨v, rfl, _⟩ := h; rfl
  one h := by
    obtain ⟨v, rfl, h⟩ := h
    intro c hc
    obtain rfl := List.mem_singleton.1 hc
    obtain ⟨a, cap, rfl, _⟩ := h.shape
    rfl
  monoC h hb := by obtain ⟨v, rfl, h⟩ := h; exact ⟨v, rfl, h.monoC hb⟩
  pos := by decide

def shlI (a b : Int) : Option Int := if (0 ≤ b ∧ b ≤ 64) ∧ inI (a * 2 ^ b.toNat) = true then some (a * 2 ^ b.toNat) else none
def shrI (a b : Int) : Option Int := if 0 ≤ b ∧ b ≤ 64 then some (a / 2 ^ b.toNat) else none
theorem shlI_some {a b c : Int} (h : shlI a b = some c) : 0 ≤ b ∧ b ≤ 64 ∧ inI (a * 2 ^ b.toNat) = true ∧ a * 2 ^ b.toNat = c := by
  unfold shlI at h
  split at h
  · rename_i hl; exact ⟨hl.1.1, hl.1.2, hl.2, Option.some.inj h⟩
  · cases h
theorem shrI_some {a b c : Int} (h : shrI a b = some c) : 0 ≤ b ∧ b ≤ 64 ∧ a / 2 ^ b.toNat = c := by
  unfold shrI at h
  split at h
  · rename_i hl; exact ⟨hl.1, hl.2, Option.some.inj h⟩
  · cases h
theorem wrap_inI {a : Int} (h : inI a = true) : IntKind.i64.wrap a = a := by
  simp only [inI, Bool.and_eq_true, decide_eq_true_eq] at h
  simp only [IntKind.wrap, IntKind.bits, IntKind.signed]
  simp only [Bool.true_and, decide_eq_true_eq, ge_iff_le]
  split <;> omega

section
variable {P : Program} {n : Nat} {ds : Md} {ops : Array Oper} {rest : List Oper} {K : Fr → World → Prop} {f : Fr} {Dq : Nat → Prop} {w w0 : World} {T T' T0 : TypeId} {pos : String} {aft : Array Edge} {g : Option (Nat × Bool)} {d : Nat} {L : List Item}

theorem O.eqlNil {x y : Operand} {E : TypeId} {a : Option Addr} {len cap : Nat} (hT : P.underlying T = some (.slice E)) (hg : want ops g f = true) (hd : Nat.blt d n = true) (hx : ev f x = .slice a len cap) (hy : ev f y = .slice none 0 0)
    (h : WL P n ds ops rest K (upd f d (.bool a.isNone)) w) : WL P n ds ops (⟨some d, .binOp .eql T x y T', T0, pos, aft, g⟩ :: rest) K f w :=
  WL.val hg hd (by
    simp only [execOp, eqGuard, hx, hy]
    simp [binOp, Op.equal, Op.maxDepth, Lib.run_equalIn_slice_nil w 9999 T E a len cap 0 0 hT]) h
/-! A slice read as an element. -/
/-! Parts of slices. -/
def cutI {α : Type} (xs : List α) (lo hi : Int) : Option (List α) := if 0 ≤ lo ∧ lo ≤ hi ∧ hi ≤ (xs.length : Int) then some ((xs.take hi.toNat).drop lo.toNat) else none
theorem cutI_some {α : Type} {xs ys : List α} {lo hi : Int} (h : cutI xs lo hi = some ys) : 0 ≤ lo ∧ lo ≤ hi ∧ hi ≤ (xs.length : Int) ∧ ys = (xs.take hi.toNat).drop lo.toNat := by
  unfold cutI at h
  split at h
  · rename_i hl; exact ⟨hl.1, hl.2.1, hl.2.2, (Option.some.inj h).symm⟩
  · cases h
theorem sliced_sliceR {α : Type} [Ty α] {v : Value} {xs ys : List α} {lo hi : Int} (hR : SliceR w v xs) (h : cutI xs lo hi = some ys) :
    ∃ a len cap, v = .slice a len cap ∧ xs.length = len ∧ len ≤ cap ∧ SliceR w (sliced a lo.toNat hi.toNat cap (Ty.size α)) ys := by
  obtain ⟨h0, h1, h2, rfl⟩ := cutI_some h
  obtain ⟨hm, ⟨rfl, rfl⟩ | ⟨a, cap, rfl, h3, h4, h5⟩⟩ := hR
  · simp only [List.length_nil, Int.natCast_zero] at h2
    have e1 : lo.toNat = 0 := by omega
    have e2 : hi.toNat = 0 := by omega
    refine ⟨none, 0, 0, rfl, rfl, Nat.le_refl _, ?_⟩
    rw [e1, e2]
    exact SliceR.nil
  · have e3 : ((xs.take hi.toNat).drop lo.toNat).length = hi.toNat - lo.toNat := by rw [List.length_drop, List.length_take]; omega
    refine ⟨some a, xs.length, cap, rfl, rfl, h3, ?_, .inr ?_⟩
    · rw [e3]; omega
    · by_cases hcap : cap = lo.toNat
      · refine ⟨a, cap - lo.toNat, ?_, by rw [e3]; omega, by omega, fun i x hi' => ?_⟩
        · unfold sliced; rw [if_pos hcap, e3]
        · have := (List.getElem?_eq_some_iff.1 hi').1
          omega
      · refine ⟨a.add (lo.toNat * Ty.size α), cap - lo.toNat, ?_, by rw [e3]; omega, by omega, fun i x hi' => ?_⟩
        · unfold sliced; rw [if_neg hcap, e3]; rfl
        · have hl := (List.getElem?_eq_some_iff.1 hi').1
          rw [e3] at hl
          rw [List.getElem?_drop, List.getElem?_take, if_pos (by omega)] at hi'
          have := h5 _ _ hi'
          rwa [Nat.add_mul, ← addr_add_add] at this
theorem elem_of {E : TypeId} (hT : P.underlying T = some (.slice E)) : P.elem T = E := by simp [Program.elem, hT]
/-! Shifts and bits. -/
theorem O.shl {yk : IntKind} {x y : Operand} {a b c : Int} (hg : want ops g f = true) (hd : Nat.blt d n = true) (hx : ev f x = .int .i64 a) (hy : ev f y = .int yk b) (hc : shlI a b = some c)
    (h : WL P n ds ops rest K (upd f d (.int .i64 c)) w) : WL P n ds ops (⟨some d, .binOp .shl T x y T', T0, pos, aft, g⟩ :: rest) K f w := by
  obtain ⟨h0, h1, h2, rfl⟩ := shlI_some hc
  refine WL.val hg hd ?_ h
  have hw : IntKind.i64.wrap (a * 2 ^ b.toNat) = a * 2 ^ b.toNat := wrap_inI h2
  simp only [execOp, eqGuard, hx, hy, binOp_shl, shift_shl .i64 yk a b h0 h1, hw, Sem.run_bind, Sem.run_pure]
  rfl
theorem O.shr {yk : IntKind} {x y : Operand} {a b c : Int} (hg : want ops g f = true) (hd : Nat.blt d n = true) (hx : ev f x = .int .i64 a) (hy : ev f y = .int yk b) (hc : shrI a b = some c)
    (h : WL P n ds ops rest K (upd f d (.int .i64 c)) w) : WL P n ds ops (⟨some d, .binOp .shr T x y T', T0, pos, aft, g⟩ :: rest) K f w := by
  obtain ⟨h0, h1, rfl⟩ := shrI_some hc
  refine WL.val hg hd ?_ h
  simp only [execOp, eqGuard, hx, hy, binOp_shr, shift_shr .i64 yk a b h0 h1, Sem.run_bind, Sem.run_pure]
  rfl
theorem O.and {k : IntKind} {x y : Operand} {a b : Int} (hg : want ops g f = true) (hd : Nat.blt d n = true) (hx : ev f x = .int k a) (hy : ev f y = .int k b)
    (h : WL P n ds ops rest K (upd f d (.int k (bits .and k a b))) w) : WL P n ds ops (⟨some d, .binOp .and T x y T', T0, pos, aft, g⟩ :: rest) K f w :=
  WL.val hg hd (by simp only [execOp, eqGuard, hx, hy, binOp_and, intBits_and, Sem.run_bind, Sem.run_pure]; rfl) h
theorem O.andNot {k : IntKind} {x y : Operand} {a b : Int} (hg : want ops g f = true) (hd : Nat.blt d n = true) (hx : ev f x = .int k a) (hy : ev f y = .int k b)
    (h : WL P n ds ops rest K (upd f d (.int k (bits .andNot k a b))) w) : WL P n ds ops (⟨some d, .binOp .andNot T x y T', T0, pos, aft, g⟩ :: rest) K f w :=
  WL.val hg hd (by simp only [execOp, eqGuard, hx, hy, binOp_andNot, intBits_andNot, Sem.run_bind, Sem.run_pure]; rfl) h

/-! Elements of a slice that the call owns: their addresses; stores. -/
end
end Go.Fw
