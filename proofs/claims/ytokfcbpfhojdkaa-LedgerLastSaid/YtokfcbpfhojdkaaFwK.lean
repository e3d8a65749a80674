/-
  THE FRAMEWORK, PART K: plain laws of the models' own words: maps, ranges, loops. No program in it.
-/
import Derived.Test.YtokfcbpfhojdkaaFwJ
namespace Go.Fw

theorem mget_nil {K V : Type} [DecidableEq K] (k : K) : mget ([] : List (K × V)) k = none := rfl
theorem mget_cons {K V : Type} [DecidableEq K] (p : K × V) (kv : List (K × V)) (k : K) : mget (p :: kv) k = if p.1 = k then some p.2 else mget kv k := by
  unfold mget
  by_cases h : p.1 = k
  · simp [h]
  · simp [h]
theorem mget_map_ne {K V : Type} [DecidableEq K] (kv : List (K × V)) (k k' : K) (v : V) (h : k ≠ k') : mget (kv.map fun p => if p.1 == k then (k, v) else p) k' = mget kv k' := by
  induction kv with
  | nil => rfl
  | cons p kv ih =>
    rw [List.map_cons, mget_cons, mget_cons, ih]
    by_cases hp : p.1 = k
    · have : p.1 ≠ k' := fun e => h (hp.symm.trans e)
      simp [hp, h]
    · simp [hp]
theorem mget_map_eq {K V : Type} [DecidableEq K] (kv : List (K × V)) (k : K) (v : V) (h : kv.any (fun p => p.1 == k) = true) : mget (kv.map fun p => if p.1 == k then (k, v) else p) k = some v := by
  induction kv with
  | nil => simp at h
  | cons p kv ih =>
    rw [List.map_cons, mget_cons]
    by_cases hp : p.1 = k
    · simp [hp]
    · simp only [List.any_cons, beq_iff_eq, hp, Bool.or_eq_true, false_or] at h
      have h' := ih h
      simp [hp] at h' ⊢
      exact h'
theorem mget_append {K V : Type} [DecidableEq K] (kv : List (K × V)) (k k' : K) (v : V) (h : kv.any (fun p => p.1 == k) = false) : mget (kv ++ [(k, v)]) k' = if k = k' then some v else mget kv k' := by
  induction kv with
  | nil => simp [mget_cons, mget_nil]
  | cons p kv ih =>
    simp only [List.any_cons, Bool.or_eq_false_iff, beq_eq_false_iff_ne] at h
    rw [List.cons_append, mget_cons, mget_cons, ih h.2]
    by_cases hp : p.1 = k'
    · have : k ≠ k' := fun e => h.1 (hp.trans e.symm)
      simp [hp, this]
    · simp [hp]
theorem mget_put {K V : Type} [DecidableEq K] (kv : List (K × V)) (k k' : K) (v : V) : mget (mput kv k v) k' = if k = k' then some v else mget kv k' := by
  unfold mput
  cases h : kv.any (fun p => p.1 == k) with
  | true =>
    rw [if_pos rfl]
    by_cases hk : k = k'
    · subst hk; rw [mget_map_eq kv k v h, if_pos rfl]
    · rw [mget_map_ne kv k k' v hk, if_neg hk]
  | false => rw [if_neg (by simp)]; exact mget_append kv k k' v h

section
variable {α S X : Type} {body : Int → α → S → Option (Step S X)} {fin : S → X}
/-- A range that goes through: an invariant, by the index. -/
theorem rangeL_inv_from (I : Nat → S → Prop) : ∀ (l : List α) (i : Nat) (s : S), (∀ j x s, l[j]? = some x → I (i + j) s → ∃ s', body ((i + j : Nat) : Int) x s = some (.cont s') ∧ I (i + j + 1) s') → I i s →
    ∃ s', rangeL body fin l (i : Int) s = some (fin s') ∧ I (i + l.length) s'
  | [], i, s, _, h => ⟨s, rfl, by simpa using h⟩
  | x :: l, i, s, hb, h => by
    obtain ⟨s1, h1, h2⟩ := hb 0 x s rfl (by simpa using h)
    obtain ⟨s2, h3, h4⟩ := rangeL_inv_from I l (i + 1) s1 (fun j y s hj hI => by
      have := hb (j + 1) y s (by simpa using hj) (by rw [show i + (j + 1) = i + 1 + j by omega]; exact hI)
      rw [show i + (j + 1) = i + 1 + j by omega] at this
      exact this) (by simpa using h2)
    refine ⟨s2, ?_, by rw [List.length_cons, show i + (l.length + 1) = i + 1 + l.length by omega]; exact h4⟩
    have h1' : body (i : Int) x s = some (.cont s1) := by simpa using h1
    rw [rangeL, h1', Option.bind_some]
    exact h3
theorem rangeL_inv (I : Nat → S → Prop) (l : List α) (s : S) (hb : ∀ j x s, l[j]? = some x → I j s → ∃ s', body (j : Int) x s = some (.cont s') ∧ I (j + 1) s') (h : I 0 s) :
    ∃ s', rangeL body fin l 0 s = some (fin s') ∧ I l.length s' := by
  have := rangeL_inv_from (body := body) (fin := fin) I l 0 s (by simpa using hb) h
  simpa using this
theorem rangeL_fold (g : S → α → S) : ∀ (l : List α) (i : Int) (s : S), (∀ i x s, x ∈ l → body i x s = some (.cont (g s x))) → rangeL body fin l i s = some (fin (l.foldl g s))
  | [], _, _, _ => rfl
  | x :: l, i, s, h => by
    rw [rangeL, h i x s (by simp), Option.bind_some]
    exact rangeL_fold g l (i + 1) (g s x) fun i y s hy => h i y s (by simp [hy])
/-- A range that leaves at the first that fits. -/
theorem rangeL_search (p : α → Bool) (y : X) : ∀ (l : List α) (i : Int) (s : S), (∀ i x s, x ∈ l → body i x s = some (if p x = true then .done y else .cont s)) → rangeL body fin l i s = some (if l.any p = true then y else fin s)
  | [], _, _, _ => by simp [rangeL]
  | x :: l, i, s, h => by
    rw [rangeL, h i x s (by simp), Option.bind_some]
    cases hp : p x with
    | true => simp [hp]
    | false =>
      simp only [Bool.false_eq_true, if_false, List.any_cons, hp, Bool.false_or]
      exact rangeL_search p y l (i + 1) s fun i y s hy => h i y s (by simp [hy])
end
section
variable {S X : Type} {body : Int → S → Option (Step S X)} {fin : S → X}
end
/-- A count over the indices of a list is a range over the list. -/
theorem rangeN_list_from {α S X : Type} {body : Int → S → Option (Step S X)} {fin : S → X} (B : Int → α → S → Option (Step S X)) (L : List α) : ∀ (l : List α) (i : Nat) (s : S), L.drop i = l → (∀ (i : Nat) x s, L[i]? = some x → body (i : Int) s = B (i : Int) x s) →
    rangeN body fin l.length (i : Int) s = rangeL B fin l (i : Int) s
  | [], _, _, _, _ => rfl
  | x :: l, i, s, hd, h => by
    have hx : L[i]? = some x := by
      have := congrArg (fun m => m[0]?) hd
      simpa using this
    rw [List.length_cons, rangeN, rangeL, h i x s hx]
    congr 1
    funext st
    cases st with
    | cont s' =>
      have := rangeN_list_from (fin := fin) B L l (i + 1) s' (by rw [← List.drop_drop, hd]; rfl) h
      simpa using this
    | done y => rfl
theorem rangeN_list {α S X : Type} {body : Int → S → Option (Step S X)} {fin : S → X} (B : Int → α → S → Option (Step S X)) (L : List α) (s : S) (h : ∀ (i : Nat) x s, L[i]? = some x → body (i : Int) s = B (i : Int) x s) :
    rangeN body fin (Int.toNat ((L.length : Nat) : Int)) 0 s = rangeL B fin L 0 s := by
  have := rangeN_list_from B L L 0 s rfl h (fin := fin)
  simpa using this
theorem loopR_cont {S X : Type} {body : S → Option (Step S X)} {s : S} (s' : S) (h : body s = some (.cont s')) : loopR body s = loopR body s' := by rw [loopR_eq, h]; rfl
theorem loopR_done {S X : Type} {body : S → Option (Step S X)} {s : S} {x : X} (h : body s = some (.done x)) : loopR body s = some x := by rw [loopR_eq, h]; rfl
/-- A loop that counts down. -/
theorem loopR_down {X : Type} {body : Int → Option (Step Int X)} (R : Nat → X) (N : Nat) (h0 : body (-1) = some (.done (R 0)))
    (hs : ∀ n, n < N → body (n : Int) = some (.done (R (n + 1))) ∨ (body (n : Int) = some (.cont ((n : Int) - 1)) ∧ R (n + 1) = R n)) : loopR body ((N : Int) - 1) = some (R N) := by
  induction N with
  | zero => exact loopR_done h0
  | succ N ih =>
    rw [show ((N + 1 : Nat) : Int) - 1 = (N : Int) by omega]
    rcases hs N (by omega) with h | ⟨h, e⟩
    · exact loopR_done h
    · rw [loopR_cont _ h, ih fun n hn => hs n (by omega), e]
theorem idx_at {α : Type} {L : List α} {i : Nat} {x : α} (h : L[i]? = some x) : idx L (i : Int) = some x := by rw [idx_nat]; exact h
theorem subI_ok {a b : Int} (h : -9223372036854775808 ≤ a - b ∧ a - b ≤ 9223372036854775807) : subI a b = some (a - b) := by
  unfold subI; rw [if_pos (by simpa [inI] using h)]
theorem appI_ok {α : Type} {xs ys : List α} (h : xs.length + ys.length ≤ 1099511627776) : appI xs ys = some (xs ++ ys) := by
  unfold appI; rw [if_pos h]
end Go.Fw
