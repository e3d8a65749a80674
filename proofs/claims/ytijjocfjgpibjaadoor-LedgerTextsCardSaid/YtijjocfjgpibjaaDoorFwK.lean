/-
  THE FRAMEWORK, PART K: plain laws of the models' own words: maps, ranges, loops. No program in it.
-/
import Derived.Test.YtijjocfjgpibjaaDoorFwJ
namespace Go.Fw

section
variable {α S X : Type} {body : Int → α → S → Option (Step S X)} {fin : S → X}
/-- A range that leaves at the first that fits. -/
theorem rangeL_search (p : α → Bool) (y : X) : ∀ (l : List α) (i : Int) (s : S), (∀ i x s, x ∈ l → body i x s = some (if p x = true then .done y else .cont s)) → rangeL body fin l i s = some (if l.any p = true then y else fin s)
  | [], _, _, _ => by simp [rangeL]
  | x :: l, i, s, h => by
    rw [rangeL, h i x s (by simp), Option.bind_some]
    cases hp : p x with
    | true => simp [hp]
    | false =>
      simp only [Bool.false_eq_true, if_false, List.any_cons, hp, Bool.false_or]
      exact rangeL_search p y l (i + 1) s fun i y s hy => h i y s (by simp [hy])
end
section
variable {S X : Type} {body : Int → S → Option (Step S X)} {fin : S → X}
end
/-- A count over the indices of a list is a range over the list. -/
theorem rangeN_list_from {α S X : Type} {body : Int → S → Option (Step S X)} {fin : S → X} (B : Int → α → S → Option (Step S X)) (L : List α) : ∀ (l : List α) (i : Nat) (s : S), L.drop i = l → (∀ (i : Nat) x s, L[i]? = some x → body (i : Int) s = B (i : Int) x s) →
    rangeN body fin l.length (i : Int) s = rangeL B fin l (i : Int) s
  | [], _, _, _, _ => rfl
  | x :: l, i, s, hd, h => by
    have hx : L[i]? = some x := by
      have := congrArg (fun m => m[0]?) hd
      simpa using this
    rw [List.length_cons, rangeN, rangeL, h i x s hx]
    congr 1
    funext st
    cases st with
    | cont s' =>
      have := rangeN_list_from (fin := fin) B L l (i + 1) s' (by rw [← List.drop_drop, hd]; rfl) h
      simpa using this
    | done y => rfl
theorem rangeN_list {α S X : Type} {body : Int → S → Option (Step S X)} {fin : S → X} (B : Int → α → S → Option (Step S X)) (L : List α) (s : S) (h : ∀ (i : Nat) x s, L[i]? = some x → body (i : Int) s = B (i : Int) x s) :
    rangeN body fin (Int.toNat ((L.length : Nat) : Int)) 0 s = rangeL B fin L 0 s := by
  have := rangeN_list_from B L L 0 s rfl h (fin := fin)
  simpa using this
theorem loopR_cont {S X : Type} {body : S → Option (Step S X)} {s : S} (s' : S) (h : body s = some (.cont s')) : loopR body s = loopR body s' := by rw [loopR_eq, h]; rfl
theorem loopR_done {S X : Type} {body : S → Option (Step S X)} {s : S} {x : X} (h : body s = some (.done x)) : loopR body s = some x := by rw [loopR_eq, h]; rfl
theorem idx_at {α : Type} {L : List α} {i : Nat} {x : α} (h : L[i]? = some x) : idx L (i : Int) = some x := by rw [idx_nat]; exact h
theorem addI_ok {a b : Int} (h : -9223372036854775808 ≤ a + b ∧ a + b ≤ 9223372036854775807) : addI a b = some (a + b) := by
  unfold addI; rw [if_pos (by simpa [inI] using h)]
theorem appI_ok {α : Type} {xs ys : List α} (h : xs.length + ys.length ≤ 1099511627776) : appI xs ys = some (xs ++ ys) := by
  unfold appI; rw [if_pos h]
end Go.Fw
