/-
  THE FRAMEWORK, PART K: plain laws of the models' own words: maps, ranges, loops. No program in it.
-/
import Derived.Test.YtohbkbimgfkblaaFwJ
namespace Go.Fw

theorem mget_nil {K V : Type} [DecidableEq K] (k : K) : mget ([] : List (K × V)) k = none := rfl
theorem mget_cons {K V : Type} [DecidableEq K] (p : K × V) (kv : List (K × V)) (k : K) : mget (p :: kv) k = if p.1 = k then some p.2 else mget kv k := by
  unfold mget
  by_cases h : p.1 = k
  · simp [h]
  · simp [h]
theorem mget_map_ne {K V : Type} [DecidableEq K] (kv : List (K × V)) (k k' : K) (v : V) (h : k ≠ k') : mget (kv.map fun p => if p.1 == k then (k, v) else p) k' = mget kv k' := by
  induction kv with
  | nil => rfl
  | cons p kv ih =>
    rw [List.map_cons, mget_cons, mget_cons, ih]
    by_cases hp : p.1 = k
    · have : p.1 ≠ k' := fun e => h (hp.symm.trans e)
      simp [hp, h]
    · simp [hp]
theorem mget_map_eq {K V : Type} [DecidableEq K] (kv : List (K × V)) (k : K) (v : V) (h : kv.any (fun p => p.1 == k) = true) : mget (kv.map fun p => if p.1 == k then (k, v) else p) k = some v := by
  induction kv with
  | nil => simp at h
  | cons p kv ih =>
    rw [List.map_cons, mget_cons]
    by_cases hp : p.1 = k
    · simp [hp]
    · simp only [List.any_cons, beq_iff_eq, hp, Bool.or_eq_true, false_or] at h
      have h' := ih h
      simp [hp] at h' ⊢
      exact h'
theorem mget_append {K V : Type} [DecidableEq K] (kv : List (K × V)) (k k' : K) (v : V) (h : kv.any (fun p => p.1 == k) = false) : mget (kv ++ [(k, v)]) k' = if k = k' then some v else mget kv k' := by
  induction kv with
  | nil => simp [mget_cons, mget_nil]
  | cons p kv ih =>
    simp only [List.any_cons, Bool.or_eq_false_iff, beq_eq_false_iff_ne] at h
    rw [List.cons_append, mget_cons, mget_cons, ih h.2]
    by_cases hp : p.1 = k'
    · have : k ≠ k' := fun e => h.1 (hp.trans e.symm)
      simp [hp, this]
    · simp [hp]
theorem mget_put {K V : Type} [DecidableEq K] (kv : List (K × V)) (k k' : K) (v : V) : mget (mput kv k v) k' = if k = k' then some v else mget kv k' := by
  unfold mput
  cases h : kv.any (fun p => p.1 == k) with
  | true =>
    rw [if_pos rfl]
    by_cases hk : k = k'
    · subst hk; rw [mget_map_eq kv k v h, if_pos rfl]
    · rw [mget_map_ne kv k k' v hk, if_neg hk]
  | false => rw [if_neg (by simp)]; exact mget_append kv k k' v h

section
variable {α S X : Type} {body : Int → α → S → Option (Step S X)} {fin : S → X}
theorem rangeL_fold (g : S → α → S) : ∀ (l : List α) (i : Int) (s : S), (∀ i x s, x ∈ l → body i x s = some (.cont (g s x))) → rangeL body fin l i s = some (fin (l.foldl g s))
  | [], _, _, _ => rfl
  | x :: l, i, s, h => by
    rw [rangeL, h i x s (by simp), Option.bind_some]
    exact rangeL_fold g l (i + 1) (g s x) fun i y s hy => h i y s (by simp [hy])
/-- A range that leaves at the first that fits. -/
theorem rangeL_search (p : α → Bool) (y : X) : ∀ (l : List α) (i : Int) (s : S), (∀ i x s, x ∈ l → body i x s = some (if p x = true then .done y else .cont s)) → rangeL body fin l i s = some (if l.any p = true then y else fin s)
  | [], _, _, _ => by simp [rangeL]
  | x :: l, i, s, h => by
    rw [rangeL, h i x s (by simp), Option.bind_some]
    cases hp : p x with
    | true => simp [hp]
    | false =>
      simp only [Bool.false_eq_true, if_false, List.any_cons, hp, Bool.false_or]
      exact rangeL_search p y l (i + 1) s fun i y s hy => h i y s (by simp [hy])
end
section
variable {S X : Type} {body : Int → S → Option (Step S X)} {fin : S → X}
end
theorem loopR_cont {S X : Type} {body : S → Option (Step S X)} {s : S} (s' : S) (h : body s = some (.cont s')) : loopR body s = loopR body s' := by rw [loopR_eq, h]; rfl
theorem loopR_done {S X : Type} {body : S → Option (Step S X)} {s : S} {x : X} (h : body s = some (.done x)) : loopR body s = some x := by rw [loopR_eq, h]; rfl
/-- A loop by an invariant and a measure. -/
theorem loopR_inv {S X : Type} {body : S → Option (Step S X)} (m : S → Nat) (I : S → Prop) (Q : X → Prop) (hb : ∀ s, I s → (∃ x, body s = some (.done x) ∧ Q x) ∨ ∃ s', body s = some (.cont s') ∧ I s' ∧ m s' < m s) (s : S) (h : I s) :
    ∃ x, loopR body s = some x ∧ Q x := by
  generalize hn : m s = n
  induction n using Nat.strongRecOn generalizing s with
  | ind n ih =>
    rcases hb s h with ⟨x, h1, h2⟩ | ⟨s', h1, h2, h3⟩
    · exact ⟨x, loopR_done h1, h2⟩
    · rw [loopR_cont _ h1]
      exact ih (m s') (by omega) s' h2 rfl
theorem idx_at {α : Type} {L : List α} {i : Nat} {x : α} (h : L[i]? = some x) : idx L (i : Int) = some x := by rw [idx_nat]; exact h
theorem addI_ok {a b : Int} (h : -9223372036854775808 ≤ a + b ∧ a + b ≤ 9223372036854775807) : addI a b = some (a + b) := by
  unfold addI; rw [if_pos (by simpa [inI] using h)]
theorem subI_ok {a b : Int} (h : -9223372036854775808 ≤ a - b ∧ a - b ≤ 9223372036854775807) : subI a b = some (a - b) := by
  unfold subI; rw [if_pos (by simpa [inI] using h)]
theorem mulI_ok {a b : Int} (h : -9223372036854775808 ≤ a * b ∧ a * b ≤ 9223372036854775807) : mulI a b = some (a * b) := by
  unfold mulI; rw [if_pos (by simpa [inI] using h)]
theorem appI_ok {α : Type} {xs ys : List α} (h : xs.length + ys.length ≤ 1099511627776) : appI xs ys = some (xs ++ ys) := by
  unfold appI; rw [if_pos h]
end Go.Fw
