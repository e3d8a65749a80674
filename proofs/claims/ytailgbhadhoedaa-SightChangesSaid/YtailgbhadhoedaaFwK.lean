/-
  THE FRAMEWORK, PART K: plain laws of the models' own words: maps, ranges, loops. No program in it.
-/
import Derived.Test.YtailgbhadhoedaaFwJ
namespace Go.Fw

section
variable {α S X : Type} {body : Int → α → S → Option (Step S X)} {fin : S → X}
/-- A range that leaves at the first that fits. -/
theorem rangeL_search (p : α → Bool) (y : X) : ∀ (l : List α) (i : Int) (s : S), (∀ i x s, x ∈ l → body i x s = some (if p x = true then .done y else .cont s)) → rangeL body fin l i s = some (if l.any p = true then y else fin s)
  | [], _, _, _ => by simp [rangeL]
  | x :: l, i, s, h => by
    rw [rangeL, h i x s (by simp), Option.bind_some]
    cases hp : p x with
    | true => simp [hp]
    | false =>
      simp only [Bool.false_eq_true, if_false, List.any_cons, hp, Bool.false_or]
      exact rangeL_search p y l (i + 1) s fun i y s hy => h i y s (by simp [hy])
theorem rangeL_congr {body' : Int → α → S → Option (Step S X)} {fin' : S → X} (hf : ∀ s, fin s = fin' s) : ∀ (l : List α) (i : Int) (s : S), (∀ i x s, x ∈ l → body i x s = body' i x s) → rangeL body fin l i s = rangeL body' fin' l i s
  | [], _, s, _ => congrArg some (hf s)
  | x :: l, i, s, h => by
    rw [rangeL, rangeL, h i x s (by simp)]
    congr 1
    funext st
    cases st with
    | cont s' => exact rangeL_congr hf l (i + 1) s' fun i y s hy => h i y s (by simp [hy])
    | done y => rfl
end
section
variable {S X : Type} {body : Int → S → Option (Step S X)} {fin : S → X}
theorem rangeN_congr {body' : Int → S → Option (Step S X)} {fin' : S → X} (hf : ∀ s, fin s = fin' s) : ∀ (k : Nat) (i : Int) (s : S), (∀ j s, i ≤ j → j < i + k → body j s = body' j s) → rangeN body fin k i s = rangeN body' fin' k i s
  | 0, _, s, _ => congrArg some (hf s)
  | k + 1, i, s, h => by
    rw [rangeN, rangeN, h i s (by omega) (by omega)]
    congr 1
    funext st
    cases st with
    | cont s' => exact rangeN_congr hf k (i + 1) s' fun j s h1 h2 => h j s (by omega) (by omega)
    | done y => rfl
end
theorem loopR_cont {S X : Type} {body : S → Option (Step S X)} {s : S} (s' : S) (h : body s = some (.cont s')) : loopR body s = loopR body s' := by rw [loopR_eq, h]; rfl
theorem loopR_done {S X : Type} {body : S → Option (Step S X)} {s : S} {x : X} (h : body s = some (.done x)) : loopR body s = some x := by rw [loopR_eq, h]; rfl
theorem idx_at {α : Type} {L : List α} {i : Nat} {x : α} (h : L[i]? = some x) : idx L (i : Int) = some x := by rw [idx_nat]; exact h
theorem addI_ok {a b : Int} (h : -9223372036854775808 ≤ a + b ∧ a + b ≤ 9223372036854775807) : addI a b = some (a + b) := by
  unfold addI; rw [if_pos (by simpa [inI] using h)]
theorem subI_ok {a b : Int} (h : -9223372036854775808 ≤ a - b ∧ a - b ≤ 9223372036854775807) : subI a b = some (a - b) := by
  unfold subI; rw [if_pos (by simpa [inI] using h)]
end Go.Fw
