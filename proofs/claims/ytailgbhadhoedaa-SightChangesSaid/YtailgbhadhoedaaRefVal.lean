/-
  Valid nets of the document: the same. No program in it.
-/
import Derived.Test.YtailgbhadhoedaaValLib
namespace Go.Fw
theorem refValidSight_eq (s : GSight) (n : Int) : noongunref02_ValidSight s n = some (vSight n s) := by
  unfold noongunref02_ValidSight noongunref02_within
  rw [Option.bind_some, Option.some.injEq, Bool.eq_iff_iff, vSight_iff]
  simp only [Bool.and_eq_true, decide_eq_true_eq, bne_iff_ne]
  omega
theorem refValid_eq (x : GNet) : noongunref02_Valid x = some (vNet x) := by
  unfold noongunref02_Valid noongunref02_within
  by_cases hl : 2 ≤ x.Rates.length ∧ x.Rates.length ≤ 8
  · have h1 : (decide ((2 : Int) ≤ ((x.Rates.length : Nat) : Int)) && decide (((x.Rates.length : Nat) : Int) ≤ 8)) = true := by
      rw [Bool.and_eq_true, decide_eq_true_eq, decide_eq_true_eq]; omega
    obtain ⟨r0, hr⟩ : ∃ r0, x.Rates[0]? = some r0 := ⟨_, List.getElem?_eq_getElem (by omega)⟩
    have hi : idx x.Rates 0 = some r0 := by unfold idx; rw [if_pos (Int.le_refl 0)]; exact hr
    rw [Option.bind_some, h1]
    simp only [Bool.not_true, Bool.false_eq_true, if_false, hi, Option.bind_some]
    rw [rangeL_search (fun r => !vRate r) (Ctl.ret false), any_not]
    · rw [rangeL_search (fun s => !vSight (x.Rates.length : Int) s) (Ctl.ret false), any_not]
      · unfold vNet
        rw [decide_eq_true hl.1, decide_eq_true hl.2, hr]
        by_cases e0 : r0 = 0
        · subst e0
          by_cases e1 : x.Sights.length ≤ 30
          · have e2 : ¬ (30 : Int) < ((x.Sights.length : Nat) : Int) := by omega
            cases x.Rates.all vRate <;> cases x.Sights.all (vSight (x.Rates.length : Int)) <;> simp [e1, e2]
          · have e2 : (30 : Int) < ((x.Sights.length : Nat) : Int) := by omega
            simp [e1, e2]
        · simp [e0]
      · intro i s u _
        rw [refValidSight_eq, Option.bind_some]
        cases vSight (x.Rates.length : Int) s <;> rfl
    · intro i r u _
      show (if (!vRate r) = true then _ else _) = _
      cases vRate r <;> rfl
  · have h1 : (decide ((2 : Int) ≤ ((x.Rates.length : Nat) : Int)) && decide (((x.Rates.length : Nat) : Int) ≤ 8)) = false := by
      rw [Bool.and_eq_false_iff, decide_eq_false_iff_not, decide_eq_false_iff_not]; omega
    rw [Option.bind_some, h1]
    simp only [Bool.not_false, if_true, Option.bind_some, Bool.true_or]
    symm
    rw [Option.some.injEq]
    cases hv : vNet x with
    | false => rfl
    | true => exact absurd (vNet_iff.1 hv) (fun h => hl ⟨h.1, h.2.1⟩)
theorem refWithin_and (a b c : Int) : noongunref02_within a b c = some (decide (b ≤ a) && decide (a ≤ c)) := rfl
end Go.Fw
