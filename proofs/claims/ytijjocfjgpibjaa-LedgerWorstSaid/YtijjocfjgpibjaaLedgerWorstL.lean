/-
  LedgerWorst, plain: its model gives true for whatever comes in. No condition.
-/
import Derived.Test.YtijjocfjgpibjaaWorstLib
namespace Go.Fw
theorem law_noongunlaw09_LedgerWorst (a0 : (List GEntry)) (_ : ∀ a ∈ a0, okGEntry a) (_ : a0.length ≤ maxLen) (a1 : Int) (_ : inI a1 = true) (a2 : Int) (_ : inI a2 = true) : noongunlaw09_LedgerWorst a0 a1 a2 = some true := by
  unfold noongunlaw09_LedgerWorst
  rw [small_eq, Option.bind_some]
  split
  · rw [awake_eq]; rfl
  · obtain ⟨r, hr1, hr2⟩ := Fine_eq a0 a1 a2
    simp only [Worst_eq, rWorst_eq, Streak_eq, rStreak_eq, Letters_eq, rLetters_eq, hr1, hr2, Option.bind_some, rsame_eq, beq_self_eq_true, Bool.and_self, if_true, decide_true, awake_eq]
end Go.Fw
