/-
  FlagUsual, plain: its model gives true for whatever comes in. No condition.
-/
import Derived.Test.YtecedifkjafneaaHoistLib3
namespace Go.Fw
theorem law_noongunlaw07_FlagUsual (a0 : (List Int)) (_ : ∀ a ∈ a0, (fun a => inI a = true) a) (_ : a0.length ≤ maxLen) : noongunlaw07_FlagUsual a0 = some true := by
  unfold noongunlaw07_FlagUsual
  split
  · rw [awake_eq]; rfl
  · simp only [Hoist_eq, rHoist_eq, Option.bind_some]
    unfold hoistR
    cases hv : vD a0 with
    | false => simp [same_eq, awake_eq]
    | true =>
      have hmem := hoistP_mem a0 hv
      have hR := (mem_RH a0 8191 (hoistP a0)).1 hmem
      have hl := vD_len hv
      have hrow := RH_row a0 8191 hmem
      have hvh : vH (hoistP a0) = true := (vH_iff _).2 ⟨by omega, hR.1⟩
      have hask : ask a0 8191 = 0 := by unfold ask; rw [hv]; rfl
      simp only [if_true, same_eq, decide_true, Bool.not_true, bne_self_eq_false, Bool.or_self, Bool.false_eq_true, if_false, Option.bind_some, Means_eq, meansR, hvh, Hoists_eq, hoistsR, hask, hR.2.1]
      rw [show Int.toNat 8191 = 8191 from rfl, rangeL_search (fun x => decide (x = hoistP a0)) (Ctl.ret true)]
      · have hany : (RH a0 8191).any (fun x => decide (x = hoistP a0)) = true := List.any_eq_true.2 ⟨_, hmem, by simp⟩
        rw [hany]; rfl
      · intro i x s _
        by_cases hx : x = hoistP a0
        · simp [hx, ValidHoist_eq, hvh, awake_eq]
        · simp [hx]
end Go.Fw
