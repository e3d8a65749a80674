/-
  THE FRAMEWORK, PART K: plain laws of the models' own words: maps, ranges, loops. No program in it.
-/
import Derived.Test.YtmoofcflfbnceaaGreatDoorFwJ
namespace Go.Fw

theorem mget_nil {K V : Type} [DecidableEq K] (k : K) : mget ([] : List (K × V)) k = none := rfl
section
variable {α S X : Type} {body : Int → α → S → Option (Step S X)} {fin : S → X}
theorem rangeL_fold (g : S → α → S) : ∀ (l : List α) (i : Int) (s : S), (∀ i x s, x ∈ l → body i x s = some (.cont (g s x))) → rangeL body fin l i s = some (fin (l.foldl g s))
  | [], _, _, _ => rfl
  | x :: l, i, s, h => by
    rw [rangeL, h i x s (by simp), Option.bind_some]
    exact rangeL_fold g l (i + 1) (g s x) fun i y s hy => h i y s (by simp [hy])
theorem rangeL_congr {body' : Int → α → S → Option (Step S X)} {fin' : S → X} (hf : ∀ s, fin s = fin' s) : ∀ (l : List α) (i : Int) (s : S), (∀ i x s, x ∈ l → body i x s = body' i x s) → rangeL body fin l i s = rangeL body' fin' l i s
  | [], _, s, _ => congrArg some (hf s)
  | x :: l, i, s, h => by
    rw [rangeL, rangeL, h i x s (by simp)]
    congr 1
    funext st
    cases st with
    | cont s' => exact rangeL_congr hf l (i + 1) s' fun i y s hy => h i y s (by simp [hy])
    | done y => rfl
end
section
variable {S X : Type} {body : Int → S → Option (Step S X)} {fin : S → X}
theorem rangeN_congr {body' : Int → S → Option (Step S X)} {fin' : S → X} (hf : ∀ s, fin s = fin' s) : ∀ (k : Nat) (i : Int) (s : S), (∀ j s, i ≤ j → j < i + k → body j s = body' j s) → rangeN body fin k i s = rangeN body' fin' k i s
  | 0, _, s, _ => congrArg some (hf s)
  | k + 1, i, s, h => by
    rw [rangeN, rangeN, h i s (by omega) (by omega)]
    congr 1
    funext st
    cases st with
    | cont s' => exact rangeN_congr hf k (i + 1) s' fun j s h1 h2 => h j s (by omega) (by omega)
    | done y => rfl
end
theorem loopR_cont {S X : Type} {body : S → Option (Step S X)} {s : S} (s' : S) (h : body s = some (.cont s')) : loopR body s = loopR body s' := by rw [loopR_eq, h]; rfl
theorem loopR_done {S X : Type} {body : S → Option (Step S X)} {s : S} {x : X} (h : body s = some (.done x)) : loopR body s = some x := by rw [loopR_eq, h]; rfl
theorem idx_at {α : Type} {L : List α} {i : Nat} {x : α} (h : L[i]? = some x) : idx L (i : Int) = some x := by rw [idx_nat]; exact h
theorem idx_int {α : Type} {L : List α} {i : Int} (h0 : 0 ≤ i) (h : i < L.length) : idx L i = some (L[i.toNat]'(by omega)) := by
  unfold idx; rw [if_pos h0]; exact List.getElem?_eq_getElem _
theorem addI_ok {a b : Int} (h : -9223372036854775808 ≤ a + b ∧ a + b ≤ 9223372036854775807) : addI a b = some (a + b) := by
  unfold addI; rw [if_pos (by simpa [inI] using h)]
theorem subI_ok {a b : Int} (h : -9223372036854775808 ≤ a - b ∧ a - b ≤ 9223372036854775807) : subI a b = some (a - b) := by
  unfold subI; rw [if_pos (by simpa [inI] using h)]
theorem appI_ok {α : Type} {xs ys : List α} (h : xs.length + ys.length ≤ 1099511627776) : appI xs ys = some (xs ++ ys) := by
  unfold appI; rw [if_pos h]
end Go.Fw
