/-
  What a clock carries: what the code computes. No program in it.
-/
import Derived.Test.YtailgbhadhoedaaValLib
namespace Go.Fw
theorem quo_ok {a b : Int} (hb : b ≠ 0) (h : inI (a.tdiv b) = true) : quoI a b = some (a.tdiv b) := by unfold quoI; rw [if_neg hb, if_pos h]
theorem maxabs {d : Int} (h : -1000000000000 ≤ d ∧ d ≤ 1000000000000) : 0 ≤ max d (-d) ∧ max d (-d) ≤ 1000000000000 := by omega
theorem carry_bnd {r m : Int} (hr : 0 ≤ r ∧ r ≤ 1000000) (hm : 0 ≤ m ∧ m ≤ 1000000000000) : 0 ≤ r * m ∧ r * m ≤ 1000000000000000000 := by
  have h1 := Int.mul_nonneg hr.1 hm.1
  have h2 := Int.mul_le_mul hr.2 hm.2 hm.1 (by omega)
  omega
theorem carry_eq {x : GNet} {k r d : Int} (hk : idx x.Rates k = some r) (hr : 0 ≤ r ∧ r ≤ 1000000) (h : -1000000000000 ≤ d ∧ d ≤ 1000000000000) : sight_carry x k d = some ((r * max d (-d) + 999999999) / 1000000000) := by
  have hb := carry_bnd hr (maxabs h)
  have h0 : (r * max d (-d) + 1000000000 - 1).tdiv 1000000000 = (r * max d (-d) + 999999999) / 1000000000 := by
    rw [Int.tdiv_eq_ediv_of_nonneg (by omega)]
    congr 1
    omega
  unfold sight_carry negI mulI
  rw [hk, Option.bind_some, if_pos (inI_iff.2 (by omega)), Option.bind_some, if_pos (inI_iff.2 (by omega)), Option.bind_some, addI_ok (by omega), Option.bind_some, subI_ok (by omega), Option.bind_some, quo_ok (by decide) (inI_iff.2 (by rw [h0]; omega)), h0]
  rfl
theorem within_and (a b c : Int) : sight_within a b c = some (decide (b ≤ a) && decide (a ≤ c)) := rfl
end Go.Fw
