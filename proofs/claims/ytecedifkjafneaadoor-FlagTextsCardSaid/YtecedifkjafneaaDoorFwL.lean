/-
  THE FRAMEWORK, PART L: slices against nil; slices of slices; parts of slices; stores into the elements of a slice that the call owns.
-/
import Derived.Test.YtecedifkjafneaaDoorFwI
namespace Go.Fw
open Go.RowKit

/-- Slices are elements, too. -/
instance instTyList {α : Type} [Ty α] : Ty (List α) where
  size := 1
  rep w cs xs := ∃ v, cs = [v] ∧ SliceR w v xs
  len h := by obtain ⟨v, rfl, _⟩ := h; rfl
  one h := by
    obtain ⟨v, rfl, h⟩ := h
    intro c hc
    obtain rfl := List.mem_singleton.1 hc
    obtain ⟨a, cap, rfl, _⟩ := h.shape
    rfl
  monoC h hb := by obtain ⟨v, rfl, h⟩ := h; exact ⟨v, rfl, h.monoC hb⟩
  pos := by decide

def shlI (a b : Int) : Option Int := if (0 ≤ b ∧ b ≤ 64) ∧ inI (a * 2 ^ b.toNat) = true then some (a * 2 ^ b.toNat) else none
def shrI (a b : Int) : Option Int := if 0 ≤ b ∧ b ≤ 64 then some (a / 2 ^ b.toNat) else none
section
variable {P : Program} {n : Nat} {ds : Md} {ops : Array Oper} {rest : List Oper} {K : Fr → World → Prop} {f : Fr} {Dq : Nat → Prop} {w w0 : World} {T T' T0 : TypeId} {pos : String} {aft : Array Edge} {g : Option (Nat × Bool)} {d : Nat} {L : List Item}

/-! A slice read as an element. -/
/-! Parts of slices. -/
def cutI {α : Type} (xs : List α) (lo hi : Int) : Option (List α) := if 0 ≤ lo ∧ lo ≤ hi ∧ hi ≤ (xs.length : Int) then some ((xs.take hi.toNat).drop lo.toNat) else none
theorem cutI_some {α : Type} {xs ys : List α} {lo hi : Int} (h : cutI xs lo hi = some ys) : 0 ≤ lo ∧ lo ≤ hi ∧ hi ≤ (xs.length : Int) ∧ ys = (xs.take hi.toNat).drop lo.toNat := by
  unfold cutI at h
  split at h
  · rename_i hl; exact ⟨hl.1, hl.2.1, hl.2.2, (Option.some.inj h).symm⟩
  · cases h
theorem sliced_sliceR {α : Type} [Ty α] {v : Value} {xs ys : List α} {lo hi : Int} (hR : SliceR w v xs) (h : cutI xs lo hi = some ys) :
    ∃ a len cap, v = .slice a len cap ∧ xs.length = len ∧ len ≤ cap ∧ SliceR w (sliced a lo.toNat hi.toNat cap (Ty.size α)) ys := by
  obtain ⟨h0, h1, h2, rfl⟩ := cutI_some h
  obtain ⟨hm, ⟨rfl, rfl⟩ | ⟨a, cap, rfl, h3, h4, h5⟩⟩ := hR
  · simp only [List.length_nil, Int.natCast_zero] at h2
    have e1 : lo.toNat = 0 := by omega
    have e2 : hi.toNat = 0 := by omega
    refine ⟨none, 0, 0, rfl, rfl, Nat.le_refl _, ?_⟩
    rw [e1, e2]
    exact SliceR.nil
  · have e3 : ((xs.take hi.toNat).drop lo.toNat).length = hi.toNat - lo.toNat := by rw [List.length_drop, List.length_take]; omega
    refine ⟨some a, xs.length, cap, rfl, rfl, h3, ?_, .inr ?_⟩
    · rw [e3]; omega
    · by_cases hcap : cap = lo.toNat
      · refine ⟨a, cap - lo.toNat, ?_, by rw [e3]; omega, by omega, fun i x hi' => ?_⟩
        · unfold sliced; rw [if_pos hcap, e3]
        · have := (List.getElem?_eq_some_iff.1 hi').1
          omega
      · refine ⟨a.add (lo.toNat * Ty.size α), cap - lo.toNat, ?_, by rw [e3]; omega, by omega, fun i x hi' => ?_⟩
        · unfold sliced; rw [if_neg hcap, e3]; rfl
        · have hl := (List.getElem?_eq_some_iff.1 hi').1
          rw [e3] at hl
          rw [List.getElem?_drop, List.getElem?_take, if_pos (by omega)] at hi'
          have := h5 _ _ hi'
          rwa [Nat.add_mul, ← addr_add_add] at this
theorem elem_of {E : TypeId} (hT : P.underlying T = some (.slice E)) : P.elem T = E := by simp [Program.elem, hT]
/-! Shifts and bits. -/
/-! Elements of a slice that the call owns: their addresses; stores. -/
end
end Go.Fw
