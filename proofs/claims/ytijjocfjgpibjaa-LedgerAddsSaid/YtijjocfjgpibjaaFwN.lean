/-
  THE FRAMEWORK, PART N: more plain laws of the models' words: lists compared, gathered, changed place by place. No program in it.
-/
import Derived.Test.YtijjocfjgpibjaaFwK
import Derived.Test.YtijjocfjgpibjaaFwM
namespace Go.Fw

theorem and_none {o : Option Bool} {b c : Bool} (h : b = true → o = some c) : (if b = true then o else some false) = some (b && c) := by
  cases b
  · rfl
  · rw [if_pos rfl, h rfl]; rfl
theorem or_none {o : Option Bool} {b c : Bool} (h : b = false → o = some c) : (if b = true then some true else o) = some (b || c) := by
  cases b
  · rw [if_neg (by simp), h rfl]; rfl
  · rfl

/-- Two lists of one length, compared place by place. -/
theorem same_loop {α : Type} [DecidableEq α] (ne : α → α → Bool) (hne : ∀ x y, ne x y = !decide (x = y)) (a b : List α) (hl : a.length = b.length) :
    rangeN (S := Unit) (X := Ctl Unit Bool) (fun i _ => (idx a i).bind fun x => (idx b i).bind fun y => if ne x y = true then some (.done (.ret false)) else some (.cont ())) (fun _ => .next ()) (Int.toNat ((a.length : Nat) : Int)) 0 () =
      some (if a = b then .next () else .ret false) := by
  have key : ∀ (k i : Nat), a.length = i + k → rangeN (S := Unit) (X := Ctl Unit Bool) (fun i _ => (idx a i).bind fun x => (idx b i).bind fun y => if ne x y = true then some (.done (.ret false)) else some (.cont ())) (fun _ => .next ()) k (i : Int) () =
      some (if a.drop i = b.drop i then .next () else .ret false) := by
    intro k
    induction k with
    | zero =>
      intro i hi
      rw [List.drop_of_length_le (by omega), List.drop_of_length_le (by omega)]
      rfl
    | succ k ih =>
      intro i hi
      have ha : a[i]? = some a[i] := List.getElem?_eq_getElem (by omega)
      have hb : b[i]? = some b[i] := List.getElem?_eq_getElem (by omega)
      rw [rangeN, idx_at ha, Option.bind_some, idx_at hb, Option.bind_some, hne, List.drop_eq_getElem_cons (show i < a.length by omega), List.drop_eq_getElem_cons (show i < b.length by omega)]
      by_cases h : a[i] = b[i]
      · have := ih (i + 1) (by omega)
        simp only [h, decide_true, Bool.not_true, Bool.false_eq_true, if_false, Option.bind_some, List.cons.injEq, true_and]
        exact this
      · simp only [h, decide_false, Bool.not_false, if_true, Option.bind_some, List.cons.injEq, false_and, if_false]
  have := key a.length 0 (by omega)
  simpa using this
theorem same_fun {α : Type} [DecidableEq α] (ne : α → α → Bool) (hne : ∀ x y, ne x y = !decide (x = y)) (a b : List α) :
    (if (((a.length : Nat) : Int) != ((b.length : Nat) : Int)) = true then some false
      else (rangeN (S := Unit) (X := Ctl Unit Bool) (fun i _ => (idx a i).bind fun x => (idx b i).bind fun y => if ne x y = true then some (.done (.ret false)) else some (.cont ())) (fun _ => .next ()) (Int.toNat ((a.length : Nat) : Int)) 0 ()).bind
        (fun o => match o with | .next _ => some true | .ret r => some r | .exit _ _ => none)) = some (decide (a = b)) := by
  by_cases hl : a.length = b.length
  · rw [if_neg (by simp [hl]), same_loop ne hne a b hl]
    by_cases h : a = b <;> simp [h]
  · rw [if_pos (by simp; omega)]
    have : a ≠ b := fun h => hl (by rw [h])
    simp [this]

/-- A range that appends: with room. -/
theorem rangeL_app {α β X : Type} {fin : List β → X} (f : α → List β) : ∀ (l : List α) (i : Int) (s : List β), s.length + (l.flatMap f).length ≤ 1099511627776 →
    rangeL (fun _ x z => (appI z (f x)).bind fun t => some (.cont t)) fin l i s = some (fin (s ++ l.flatMap f))
  | [], _, s, _ => by simp [rangeL]
  | x :: l, i, s, h => by
    simp only [List.flatMap_cons, List.length_append] at h
    rw [rangeL, appI_ok (by omega), Option.bind_some, Option.bind_some]
    show rangeL _ fin l (i + 1) (s ++ f x) = _
    rw [rangeL_app f l (i + 1) (s ++ f x) (by rw [List.length_append]; omega), List.flatMap_cons, List.append_assoc]
theorem flatMap_one {α β : Type} (f : α → β) (l : List α) : (l.flatMap fun x => [f x]) = l.map f := by
  induction l with
  | nil => rfl
  | cons x l ih => rw [List.flatMap_cons, ih]; rfl

/-- A count over the places of a list that changes each of them. -/
theorem rangeN_map {α X : Type} {fin : List α → X} (g : α → α) (body : Int → List α → Option (Step (List α) X)) (l : List α)
    (h : ∀ (i : Nat) (z : List α) (x : α), l[i]? = some x → z[i]? = some x → body (i : Int) z = some (.cont (z.set i (g x)))) :
    rangeN body fin (Int.toNat ((l.length : Nat) : Int)) 0 l = some (fin (l.map g)) := by
  have key : ∀ (k i : Nat), l.length = i + k → rangeN body fin k (i : Int) ((l.take i).map g ++ l.drop i) = some (fin (l.map g)) := by
    intro k
    induction k with
    | zero =>
      intro i hi
      rw [List.drop_of_length_le (by omega), List.take_of_length_le (by omega), List.append_nil]
      rfl
    | succ k ih =>
      intro i hi
      have hx : l[i]? = some l[i] := List.getElem?_eq_getElem (by omega)
      have hlen : ((l.take i).map g).length = i := by rw [List.length_map, List.length_take]; omega
      have hz : ((l.take i).map g ++ l.drop i)[i]? = some l[i] := by
        rw [List.getElem?_append_right (by omega), hlen, Nat.sub_self, List.getElem?_drop]
        simp
      rw [rangeN, h i _ _ hx hz, Option.bind_some]
      have hs : ((l.take i).map g ++ l.drop i).set i (g l[i]) = (l.take (i + 1)).map g ++ l.drop (i + 1) := by
        rw [List.set_append_right _ _ (by omega), hlen, Nat.sub_self, List.drop_eq_getElem_cons (show i < l.length by omega), List.set_cons_zero, List.take_succ_eq_append_getElem (show i < l.length by omega), List.map_append]
        simp
      simp only [hs]
      have := ih (i + 1) (by omega)
      simpa using this
  have := key l.length 0 (by omega)
  simp at this
  simp
  exact this
end Go.Fw
