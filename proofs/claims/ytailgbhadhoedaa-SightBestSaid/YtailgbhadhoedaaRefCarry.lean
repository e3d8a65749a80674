/-
  Carries of the document: the same. No program in it.
-/
import Derived.Test.YtailgbhadhoedaaRefVal
import Derived.Test.YtailgbhadhoedaaCarryLib
namespace Go.Fw
theorem refCarry_eq {r d : Int} (hr : 0 ≤ r ∧ r ≤ 1000000) (h : -1000000000000 ≤ d ∧ d ≤ 1000000000000) : noongunref02_carry r d = some ((r * max d (-d) + 999999999) / 1000000000) := by
  have hb := carry_bnd hr (maxabs h)
  have h0 : (r * max d (-d) + 999999999).tdiv 1000000000 = (r * max d (-d) + 999999999) / 1000000000 := Int.tdiv_eq_ediv_of_nonneg (by omega)
  unfold noongunref02_carry negI mulI
  rw [if_pos (inI_iff.2 (by omega)), Option.bind_some, if_pos (inI_iff.2 (by omega)), Option.bind_some, addI_ok (by omega), Option.bind_some, quo_ok (by decide) (inI_iff.2 (by rw [h0]; omega)), h0]
  rfl
end Go.Fw
