/-
  SightCarries, plain: both texts check a net in the same way and carry the same.
-/
import Derived.Test.YtailgbhadhoedaaCarryLib
namespace Go.Fw
theorem Carry_same (x : GNet) (k d : Int) : ∃ r, sight_Carry x k d = some r ∧ noongunref02_Carry x k d = some r := by
  unfold sight_Carry noongunref02_Carry
  rw [show GNet.mk x.Rates x.Sights = x from rfl, valid_eq, refValid_eq, Option.bind_some, Option.bind_some]
  cases hv : vNet x with
  | false => exact ⟨_, rfl, rfl⟩
  | true =>
    obtain ⟨h1, h2, _, _, h5, _⟩ := vNet_iff.1 hv
    rw [if_neg (by decide), if_neg (by decide), sub1 (by omega), Option.bind_some, within_and, Option.bind_some]
    unfold noongunref02_named
    rw [Option.bind_some]
    by_cases hk : 0 ≤ k ∧ k < (x.Rates.length : Int)
    · rw [decide_eq_true hk.1, decide_eq_true (show k ≤ (x.Rates.length : Int) - 1 by omega), decide_eq_true hk.2, if_neg (by decide), if_neg (by decide), within_and, refWithin_and, Option.bind_some, Option.bind_some]
      by_cases hd : 0 ≤ d ∧ d ≤ 1000000000000
      · rw [decide_eq_true hd.1, decide_eq_true hd.2, if_neg (by decide), if_neg (by decide)]
        have hi := idx_int hk.1 hk.2
        have hr := h5 _ (List.getElem_mem (l := x.Rates) (n := k.toNat) (by omega))
        rw [hi, Option.bind_some, carry_eq hi hr (by omega), refCarry_eq hr (by omega)]
        exact ⟨_, rfl, rfl⟩
      · have : (decide ((0 : Int) ≤ d) && decide (d ≤ 1000000000000)) = false := by rw [Bool.and_eq_false_iff, decide_eq_false_iff_not, decide_eq_false_iff_not]; omega
        rw [this, if_pos (by decide), if_pos (by decide)]
        exact ⟨_, rfl, rfl⟩
    · have e1 : (decide ((0 : Int) ≤ k) && decide (k ≤ (x.Rates.length : Int) - 1)) = false := by rw [Bool.and_eq_false_iff, decide_eq_false_iff_not, decide_eq_false_iff_not]; omega
      have e2 : (decide ((0 : Int) ≤ k) && decide (k < (x.Rates.length : Int))) = false := by rw [Bool.and_eq_false_iff, decide_eq_false_iff_not, decide_eq_false_iff_not]; omega
      rw [e1, e2, if_pos (by decide), if_pos (by decide)]
      exact ⟨_, rfl, rfl⟩
theorem law_noongunlaw02_SightCarries (a0 : GNet) (_ : okGNet a0) (a1 : Int) (_ : inI a1 = true) (a2 : Int) (_ : inI a2 = true) : noongunlaw02_SightCarries a0 a1 a2 = some true := by
  unfold noongunlaw02_SightCarries
  rw [awake_eq]
  by_cases hc : ((decide (100 < ((a0.Rates.length : Nat) : Int))) || (decide (100 < ((a0.Sights.length : Nat) : Int)))) = true
  · rw [if_pos hc]; rfl
  · rw [if_neg hc]
    obtain ⟨⟨n, e⟩, h1, h2⟩ := Carry_same a0 a1 a2
    rw [show GNet.mk a0.Rates a0.Sights = a0 from rfl, h1, Option.bind_some, h2, Option.bind_some, valid_eq, refValid_eq]
    simp
end Go.Fw
