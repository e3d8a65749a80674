/-
  THE FRAMEWORK, PART K: plain laws of the models' own words: maps, ranges, loops. No program in it.
-/
import Derived.Test.YtecedifkjafneaaDoorFwJ
namespace Go.Fw

theorem mget_nil {K V : Type} [DecidableEq K] (k : K) : mget ([] : List (K × V)) k = none := rfl
section
variable {α S X : Type} {body : Int → α → S → Option (Step S X)} {fin : S → X}
/-- A range that leaves at the first that fits. -/
theorem rangeL_search (p : α → Bool) (y : X) : ∀ (l : List α) (i : Int) (s : S), (∀ i x s, x ∈ l → body i x s = some (if p x = true then .done y else .cont s)) → rangeL body fin l i s = some (if l.any p = true then y else fin s)
  | [], _, _, _ => by simp [rangeL]
  | x :: l, i, s, h => by
    rw [rangeL, h i x s (by simp), Option.bind_some]
    cases hp : p x with
    | true => simp [hp]
    | false =>
      simp only [Bool.false_eq_true, if_false, List.any_cons, hp, Bool.false_or]
      exact rangeL_search p y l (i + 1) s fun i y s hy => h i y s (by simp [hy])
end
section
variable {S X : Type} {body : Int → S → Option (Step S X)} {fin : S → X}
end
theorem loopR_cont {S X : Type} {body : S → Option (Step S X)} {s : S} (s' : S) (h : body s = some (.cont s')) : loopR body s = loopR body s' := by rw [loopR_eq, h]; rfl
theorem loopR_done {S X : Type} {body : S → Option (Step S X)} {s : S} {x : X} (h : body s = some (.done x)) : loopR body s = some x := by rw [loopR_eq, h]; rfl
theorem idx_at {α : Type} {L : List α} {i : Nat} {x : α} (h : L[i]? = some x) : idx L (i : Int) = some x := by rw [idx_nat]; exact h
theorem idx_int {α : Type} {L : List α} {i : Int} (h0 : 0 ≤ i) (h : i < L.length) : idx L i = some (L[i.toNat]'(by omega)) := by
  unfold idx; rw [if_pos h0]; exact List.getElem?_eq_getElem _
theorem subI_ok {a b : Int} (h : -9223372036854775808 ≤ a - b ∧ a - b ≤ 9223372036854775807) : subI a b = some (a - b) := by
  unfold subI; rw [if_pos (by simpa [inI] using h)]
theorem appI_ok {α : Type} {xs ys : List α} (h : xs.length + ys.length ≤ 1099511627776) : appI xs ys = some (xs ++ ys) := by
  unfold appI; rw [if_pos h]
end Go.Fw
