/-
  THE FRAMEWORK, PART K: plain laws of the models' own words: maps, ranges, loops. No program in it.
-/
import Derived.Test.YtnkncedhanainaaFwJ
namespace Go.Fw

theorem mget_nil {K V : Type} [DecidableEq K] (k : K) : mget ([] : List (K × V)) k = none := rfl
section
variable {α S X : Type} {body : Int → α → S → Option (Step S X)} {fin : S → X}
/-- A range that goes through: an invariant, by the index. -/
theorem rangeL_inv_from (I : Nat → S → Prop) : ∀ (l : List α) (i : Nat) (s : S), (∀ j x s, l[j]? = some x → I (i + j) s → ∃ s', body ((i + j : Nat) : Int) x s = some (.cont s') ∧ I (i + j + 1) s') → I i s →
    ∃ s', rangeL body fin l (i : Int) s = some (fin s') ∧ I (i + l.length) s'
  | [], i, s, _, h => ⟨s, rfl, by simpa using h⟩
  | x :: l, i, s, hb, h => by
    obtain ⟨s1, h1, h2⟩ := hb 0 x s rfl (by simpa using h)
    obtain ⟨s2, h3, h4⟩ := rangeL_inv_from I l (i + 1) s1 (fun j y s hj hI => by
      have := hb (j + 1) y s (by simpa using hj) (by rw [show i + (j + 1) = i + 1 + j by omega]; exact hI)
      rw [show i + (j + 1) = i + 1 + j by omega] at this
      exact this) (by simpa using h2)
    refine ⟨s2, ?_, by rw [List.length_cons, show i + (l.length + 1) = i + 1 + l.length by omega]; exact h4⟩
    have h1' : body (i : Int) x s = some (.cont s1) := by simpa using h1
    rw [rangeL, h1', Option.bind_some]
    exact h3
theorem rangeL_inv (I : Nat → S → Prop) (l : List α) (s : S) (hb : ∀ j x s, l[j]? = some x → I j s → ∃ s', body (j : Int) x s = some (.cont s') ∧ I (j + 1) s') (h : I 0 s) :
    ∃ s', rangeL body fin l 0 s = some (fin s') ∧ I l.length s' := by
  have := rangeL_inv_from (body := body) (fin := fin) I l 0 s (by simpa using hb) h
  simpa using this
theorem rangeL_congr {body' : Int → α → S → Option (Step S X)} {fin' : S → X} (hf : ∀ s, fin s = fin' s) : ∀ (l : List α) (i : Int) (s : S), (∀ i x s, x ∈ l → body i x s = body' i x s) → rangeL body fin l i s = rangeL body' fin' l i s
  | [], _, s, _ => congrArg some (hf s)
  | x :: l, i, s, h => by
    rw [rangeL, rangeL, h i x s (by simp)]
    congr 1
    funext st
    cases st with
    | cont s' => exact rangeL_congr hf l (i + 1) s' fun i y s hy => h i y s (by simp [hy])
    | done y => rfl
end
section
variable {S X : Type} {body : Int → S → Option (Step S X)} {fin : S → X}
theorem rangeN_inv_from (I : Nat → S → Prop) : ∀ (k i : Nat) (s : S), (∀ j s, j < k → I (i + j) s → ∃ s', body ((i + j : Nat) : Int) s = some (.cont s') ∧ I (i + j + 1) s') → I i s →
    ∃ s', rangeN body fin k (i : Int) s = some (fin s') ∧ I (i + k) s'
  | 0, i, s, _, h => ⟨s, rfl, by simpa using h⟩
  | k + 1, i, s, hb, h => by
    obtain ⟨s1, h1, h2⟩ := hb 0 s (by omega) (by simpa using h)
    obtain ⟨s2, h3, h4⟩ := rangeN_inv_from I k (i + 1) s1 (fun j s hj hI => by
      have := hb (j + 1) s (by omega) (by rw [show i + (j + 1) = i + 1 + j by omega]; exact hI)
      rw [show i + (j + 1) = i + 1 + j by omega] at this
      exact this) (by simpa using h2)
    refine ⟨s2, ?_, by rw [show i + (k + 1) = i + 1 + k by omega]; exact h4⟩
    have h1' : body (i : Int) s = some (.cont s1) := by simpa using h1
    rw [rangeN, h1', Option.bind_some]
    exact h3
theorem rangeN_inv (I : Nat → S → Prop) (k : Nat) (s : S) (hb : ∀ j s, j < k → I j s → ∃ s', body (j : Int) s = some (.cont s') ∧ I (j + 1) s') (h : I 0 s) :
    ∃ s', rangeN body fin k 0 s = some (fin s') ∧ I k s' := by
  have := rangeN_inv_from (body := body) (fin := fin) I k 0 s (by simpa using hb) h
  simpa using this
theorem rangeN_congr {body' : Int → S → Option (Step S X)} {fin' : S → X} (hf : ∀ s, fin s = fin' s) : ∀ (k : Nat) (i : Int) (s : S), (∀ j s, i ≤ j → j < i + k → body j s = body' j s) → rangeN body fin k i s = rangeN body' fin' k i s
  | 0, _, s, _ => congrArg some (hf s)
  | k + 1, i, s, h => by
    rw [rangeN, rangeN, h i s (by omega) (by omega)]
    congr 1
    funext st
    cases st with
    | cont s' => exact rangeN_congr hf k (i + 1) s' fun j s h1 h2 => h j s (by omega) (by omega)
    | done y => rfl
end
theorem loopR_cont {S X : Type} {body : S → Option (Step S X)} {s : S} (s' : S) (h : body s = some (.cont s')) : loopR body s = loopR body s' := by rw [loopR_eq, h]; rfl
theorem loopR_done {S X : Type} {body : S → Option (Step S X)} {s : S} {x : X} (h : body s = some (.done x)) : loopR body s = some x := by rw [loopR_eq, h]; rfl
theorem idx_at {α : Type} {L : List α} {i : Nat} {x : α} (h : L[i]? = some x) : idx L (i : Int) = some x := by rw [idx_nat]; exact h
theorem addI_ok {a b : Int} (h : -9223372036854775808 ≤ a + b ∧ a + b ≤ 9223372036854775807) : addI a b = some (a + b) := by
  unfold addI; rw [if_pos (by simpa [inI] using h)]
theorem subI_ok {a b : Int} (h : -9223372036854775808 ≤ a - b ∧ a - b ≤ 9223372036854775807) : subI a b = some (a - b) := by
  unfold subI; rw [if_pos (by simpa [inI] using h)]
theorem mulI_ok {a b : Int} (h : -9223372036854775808 ≤ a * b ∧ a * b ≤ 9223372036854775807) : mulI a b = some (a * b) := by
  unfold mulI; rw [if_pos (by simpa [inI] using h)]
theorem negI_ok {a : Int} (h : -9223372036854775808 ≤ -a ∧ -a ≤ 9223372036854775807) : negI a = some (-a) := by
  unfold negI; rw [if_pos (by simpa [inI] using h)]
theorem appI_ok {α : Type} {xs ys : List α} (h : xs.length + ys.length ≤ 1099511627776) : appI xs ys = some (xs ++ ys) := by
  unfold appI; rw [if_pos h]
theorem quoI_ok {a b : Int} (h0 : b ≠ 0) (h : -9223372036854775808 ≤ a.tdiv b ∧ a.tdiv b ≤ 9223372036854775807) : quoI a b = some (a.tdiv b) := by
  unfold quoI; rw [if_neg h0, if_pos (by simpa [inI] using h)]
theorem remI_ok {a b : Int} (h0 : b ≠ 0) : remI a b = some (a.tmod b) := by
  unfold remI; rw [if_neg h0]
end Go.Fw
