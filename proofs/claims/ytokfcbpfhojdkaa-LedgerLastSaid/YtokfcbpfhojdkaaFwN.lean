/-
  THE FRAMEWORK, PART N: more plain laws of the models' words: lists compared, gathered, changed place by place. No program in it.
-/
import Derived.Test.YtokfcbpfhojdkaaFwK
import Derived.Test.YtokfcbpfhojdkaaFwM
namespace Go.Fw

/-- Two lists of one length, compared place by place. -/
theorem same_loop {α : Type} [DecidableEq α] (ne : α → α → Bool) (hne : ∀ x y, ne x y = !decide (x = y)) (a b : List α) (hl : a.length = b.length) :
    rangeN (S := Unit) (X := Ctl Unit Bool) (fun i _ => (idx a i).bind fun x => (idx b i).bind fun y => if ne x y = true then some (.done (.ret false)) else some (.cont ())) (fun _ => .next ()) (Int.toNat ((a.length : Nat) : Int)) 0 () =
      some (if a = b then .next () else .ret false) := by
  have key : ∀ (k i : Nat), a.length = i + k → rangeN (S := Unit) (X := Ctl Unit Bool) (fun i _ => (idx a i).bind fun x => (idx b i).bind fun y => if ne x y = true then some (.done (.ret false)) else some (.cont ())) (fun _ => .next ()) k (i : Int) () =
      some (if a.drop i = b.drop i then .next () else .ret false) := by
    intro k
    induction k with
    | zero =>
      intro i hi
      rw [List.drop_of_length_le (by omega), List.drop_of_length_le (by omega)]
      rfl
    | succ k ih =>
      intro i hi
      have ha : a[i]? = some a[i] := List.getElem?_eq_getElem (by omega)
      have hb : b[i]? = some b[i] := List.getElem?_eq_getElem (by omega)
      rw [rangeN, idx_at ha, Option.bind_some, idx_at hb, Option.bind_some, hne, List.drop_eq_getElem_cons (show i < a.length by omega), List.drop_eq_getElem_cons (show i < b.length by omega)]
      by_cases h : a[i] = b[i]
      · have := ih (i + 1) (by omega)
        simp only [h, decide_true, Bool.not_true, Bool.false_eq_true, if_false, Option.bind_some, List.cons.injEq, true_and]
        exact this
      · simp only [h, decide_false, Bool.not_false, if_true, Option.bind_some, List.cons.injEq, false_and, if_false]
  have := key a.length 0 (by omega)
  simpa using this
theorem same_fun {α : Type} [DecidableEq α] (ne : α → α → Bool) (hne : ∀ x y, ne x y = !decide (x = y)) (a b : List α) :
    (if (((a.length : Nat) : Int) != ((b.length : Nat) : Int)) = true then some false
      else (rangeN (S := Unit) (X := Ctl Unit Bool) (fun i _ => (idx a i).bind fun x => (idx b i).bind fun y => if ne x y = true then some (.done (.ret false)) else some (.cont ())) (fun _ => .next ()) (Int.toNat ((a.length : Nat) : Int)) 0 ()).bind
        (fun o => match o with | .next _ => some true | .ret r => some r | .exit _ _ => none)) = some (decide (a = b)) := by
  by_cases hl : a.length = b.length
  · rw [if_neg (by simp [hl]), same_loop ne hne a b hl]
    by_cases h : a = b <;> simp [h]
  · rw [if_pos (by simp; omega)]
    have : a ≠ b := fun h => hl (by rw [h])
    simp [this]

/-- A range whose rounds look at what came before. -/
def preL {α S X : Type} (B : List α → α → S → Option (Step S X)) (fin : S → X) : List α → List α → S → Option X
  | _, [], s => some (fin s)
  | pre, x :: xs, s => (B pre x s).bind fun st => match st with
    | .cont s' => preL B fin (pre ++ [x]) xs s'
    | .done y => some y
theorem rangeN_pre {α S X : Type} {body : Int → S → Option (Step S X)} {fin : S → X} (B : List α → α → S → Option (Step S X)) (L : List α) (s : S) (h : ∀ (i : Nat) x s, L[i]? = some x → body (i : Int) s = B (L.take i) x s) :
    rangeN body fin (Int.toNat ((L.length : Nat) : Int)) 0 s = preL B fin [] L s := by
  have key : ∀ (l : List α) (i : Nat) (s : S), L.drop i = l → rangeN body fin l.length (i : Int) s = preL B fin (L.take i) l s := by
    intro l
    induction l with
    | nil => intro i s _; rfl
    | cons x l ih =>
      intro i s hd
      have hx : L[i]? = some x := by
        have := congrArg (fun m => m[0]?) hd
        simpa using this
      obtain ⟨hi, hxe⟩ := List.getElem?_eq_some_iff.1 hx
      rw [List.length_cons, rangeN, preL, h i x s hx]
      congr 1
      funext st
      cases st with
      | cont s' =>
        have := ih (i + 1) s' (by rw [← List.drop_drop, hd]; rfl)
        rw [List.take_succ_eq_append_getElem hi, hxe] at this
        simpa using this
      | done y => rfl
  have := key L 0 s rfl
  simpa using this
/-- Does p hold of one of them, with what came before? -/
def anyPre {α : Type} (p : List α → α → Bool) : List α → List α → Bool
  | _, [] => false
  | pre, x :: xs => p pre x || anyPre p (pre ++ [x]) xs
end Go.Fw
