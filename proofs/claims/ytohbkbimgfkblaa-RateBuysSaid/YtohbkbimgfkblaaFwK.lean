/-
  THE FRAMEWORK, PART K: plain laws of the models' own words: maps, ranges, loops. No program in it.
-/
import Derived.Test.YtohbkbimgfkblaaFwJ
namespace Go.Fw

theorem mget_nil {K V : Type} [DecidableEq K] (k : K) : mget ([] : List (K × V)) k = none := rfl
section
variable {α S X : Type} {body : Int → α → S → Option (Step S X)} {fin : S → X}
theorem rangeL_fold (g : S → α → S) : ∀ (l : List α) (i : Int) (s : S), (∀ i x s, x ∈ l → body i x s = some (.cont (g s x))) → rangeL body fin l i s = some (fin (l.foldl g s))
  | [], _, _, _ => rfl
  | x :: l, i, s, h => by
    rw [rangeL, h i x s (by simp), Option.bind_some]
    exact rangeL_fold g l (i + 1) (g s x) fun i y s hy => h i y s (by simp [hy])
end
section
variable {S X : Type} {body : Int → S → Option (Step S X)} {fin : S → X}
theorem rangeN_inv_from (I : Nat → S → Prop) : ∀ (k i : Nat) (s : S), (∀ j s, j < k → I (i + j) s → ∃ s', body ((i + j : Nat) : Int) s = some (.cont s') ∧ I (i + j + 1) s') → I i s →
    ∃ s', rangeN body fin k (i : Int) s = some (fin s') ∧ I (i + k) s'
  | 0, i, s, _, h => ⟨s, rfl, by simpa using h⟩
  | k + 1, i, s, hb, h => by
    obtain ⟨s1, h1, h2⟩ := hb 0 s (by omega) (by simpa using h)
    obtain ⟨s2, h3, h4⟩ := rangeN_inv_from I k (i + 1) s1 (fun j s hj hI => by
      have := hb (j + 1) s (by omega) (by rw [show i + (j + 1) = i + 1 + j by omega]; exact hI)
      rw [show i + (j + 1) = i + 1 + j by omega] at this
      exact this) (by simpa using h2)
    refine ⟨s2, ?_, by rw [show i + (k + 1) = i + 1 + k by omega]; exact h4⟩
    have h1' : body (i : Int) s = some (.cont s1) := by simpa using h1
    rw [rangeN, h1', Option.bind_some]
    exact h3
theorem rangeN_inv (I : Nat → S → Prop) (k : Nat) (s : S) (hb : ∀ j s, j < k → I j s → ∃ s', body (j : Int) s = some (.cont s') ∧ I (j + 1) s') (h : I 0 s) :
    ∃ s', rangeN body fin k 0 s = some (fin s') ∧ I k s' := by
  have := rangeN_inv_from (body := body) (fin := fin) I k 0 s (by simpa using hb) h
  simpa using this
end
theorem idx_at {α : Type} {L : List α} {i : Nat} {x : α} (h : L[i]? = some x) : idx L (i : Int) = some x := by rw [idx_nat]; exact h
theorem addI_ok {a b : Int} (h : -9223372036854775808 ≤ a + b ∧ a + b ≤ 9223372036854775807) : addI a b = some (a + b) := by
  unfold addI; rw [if_pos (by simpa [inI] using h)]
theorem subI_ok {a b : Int} (h : -9223372036854775808 ≤ a - b ∧ a - b ≤ 9223372036854775807) : subI a b = some (a - b) := by
  unfold subI; rw [if_pos (by simpa [inI] using h)]
theorem mulI_ok {a b : Int} (h : -9223372036854775808 ≤ a * b ∧ a * b ≤ 9223372036854775807) : mulI a b = some (a * b) := by
  unfold mulI; rw [if_pos (by simpa [inI] using h)]
theorem appI_ok {α : Type} {xs ys : List α} (h : xs.length + ys.length ≤ 1099511627776) : appI xs ys = some (xs ++ ys) := by
  unfold appI; rw [if_pos h]
end Go.Fw
