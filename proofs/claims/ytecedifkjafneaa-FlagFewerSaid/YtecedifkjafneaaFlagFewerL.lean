/-
  FlagFewer, plain: its model gives true for whatever comes in. No condition.
-/
import Derived.Test.YtecedifkjafneaaCanLib
namespace Go.Fw
theorem law_noongunlaw07_FlagFewer (a0 : (List Int)) (_ : ∀ a ∈ a0, (fun a => inI a = true) a) (_ : a0.length ≤ maxLen) (a1 : Int) (_ : inI a1 = true) (a2 : Int) (_ : inI a2 = true) (a3 : Int) (_ : inI a3 = true) : noongunlaw07_FlagFewer a0 a1 a2 a3 = some true := by
  unfold noongunlaw07_FlagFewer
  split
  · rw [awake_eq]; rfl
  · rename_i hc
    simp only [Bool.or_eq_true, decide_eq_true_eq] at hc
    obtain ⟨fl, rfl⟩ : ∃ fl : Nat, a1 = (fl : Int) := ⟨a1.toNat, by omega⟩
    obtain ⟨m, rfl⟩ : ∃ m : Nat, a2 = (m : Int) := ⟨a2.toNat, by omega⟩
    have ho : fl ||| m < 2 ^ 13 := Nat.or_lt_two_pow (n := 13) (by omega) (by omega)
    have i1 : inB 0 8191 (fl : Int) = true := by simp [inB]; omega
    have i2 : inB 0 8191 ((fl ||| m : Nat) : Int) = true := by simp only [inB, Bool.and_eq_true, decide_eq_true_eq]; omega
    have hask : ask a0 ((fl ||| m : Nat) : Int) = ask a0 (fl : Int) := by unfold ask; rw [i1, i2]
    rw [bits_or fl m (by omega) (by omega)]
    simp only [With_eq, Can_eq, Option.bind_some]
    have hw : (((withR a0 (fl : Int)).2 != 0) || ((withR a0 ((fl ||| m : Nat) : Int)).2 == 0)) = true := by
      unfold withR
      rw [hask]
      by_cases h : ask a0 (fl : Int) = 0
      · rw [if_pos h, if_pos h, Int.toNat_natCast, Int.toNat_natCast]
        cases hR : RH a0 fl with
        | nil => rfl
        | cons x l =>
          have := RH_more a0 fl m (by rw [hR]; rfl)
          cases hR2 : RH a0 (fl ||| m) with
          | nil => rw [hR2] at this; cases this
          | cons y l => rfl
      · rw [if_neg h]; simp [h]
    have hcan : ((canR a3 (fl : Int)).2 == (canR a3 ((fl ||| m : Nat) : Int)).2) = true ∧ decide ((canR a3 (fl : Int)).1 ≤ (canR a3 ((fl ||| m : Nat) : Int)).1) = true := by
      unfold canR
      rw [i1, i2]
      by_cases h : inB 1 4 a3 = true
      · simp only [h, and_self, if_true, beq_self_eq_true, Int.toNat_natCast, decide_eq_true_eq, true_and]
        have := cnt_more a3.toNat fl m (10 ^ a3.toNat)
        omega
      · simp [h]
    rw [hw, hcan.1, hcan.2]
    simp [awake_eq]
end Go.Fw
