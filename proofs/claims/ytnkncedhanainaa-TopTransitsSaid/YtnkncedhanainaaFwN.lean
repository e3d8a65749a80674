/-
  THE FRAMEWORK, PART N: more plain laws of the models' words: lists compared, gathered, changed place by place. No program in it.
-/
import Derived.Test.YtnkncedhanainaaFwK
import Derived.Test.YtnkncedhanainaaFwM
namespace Go.Fw

/-- A count over the places of a list that changes each of them. -/
theorem rangeN_map {α X : Type} {fin : List α → X} (g : α → α) (body : Int → List α → Option (Step (List α) X)) (l : List α)
    (h : ∀ (i : Nat) (z : List α) (x : α), l[i]? = some x → z[i]? = some x → body (i : Int) z = some (.cont (z.set i (g x)))) :
    rangeN body fin (Int.toNat ((l.length : Nat) : Int)) 0 l = some (fin (l.map g)) := by
  have key : ∀ (k i : Nat), l.length = i + k → rangeN body fin k (i : Int) ((l.take i).map g ++ l.drop i) = some (fin (l.map g)) := by
    intro k
    induction k with
    | zero =>
      intro i hi
      rw [List.drop_of_length_le (by omega), List.take_of_length_le (by omega), List.append_nil]
      rfl
    | succ k ih =>
      intro i hi
      have hx : l[i]? = some l[i] := List.getElem?_eq_getElem (by omega)
      have hlen : ((l.take i).map g).length = i := by rw [List.length_map, List.length_take]; omega
      have hz : ((l.take i).map g ++ l.drop i)[i]? = some l[i] := by
        rw [List.getElem?_append_right (by omega), hlen, Nat.sub_self, List.getElem?_drop]
        simp
      rw [rangeN, h i _ _ hx hz, Option.bind_some]
      have hs : ((l.take i).map g ++ l.drop i).set i (g l[i]) = (l.take (i + 1)).map g ++ l.drop (i + 1) := by
        rw [List.set_append_right _ _ (by omega), hlen, Nat.sub_self, List.drop_eq_getElem_cons (show i < l.length by omega), List.set_cons_zero, List.take_succ_eq_append_getElem (show i < l.length by omega), List.map_append]
        simp
      simp only [hs]
      have := ih (i + 1) (by omega)
      simpa using this
  have := key l.length 0 (by omega)
  simp at this
  simp
  exact this

/-- A range whose rounds look at what came before. -/
def preL {α S X : Type} (B : List α → α → S → Option (Step S X)) (fin : S → X) : List α → List α → S → Option X
  | _, [], s => some (fin s)
  | pre, x :: xs, s => (B pre x s).bind fun st => match st with
    | .cont s' => preL B fin (pre ++ [x]) xs s'
    | .done y => some y
/-- Does p hold of one of them, with what came before? -/
def anyPre {α : Type} (p : List α → α → Bool) : List α → List α → Bool
  | _, [] => false
  | pre, x :: xs => p pre x || anyPre p (pre ++ [x]) xs
/-- 'slices.Contains', as it is written. -/
theorem index_loop {α : Type} [DecidableEq α] (eq : α → Bool) (body : Int → Unit → Option (Step Unit (Ctl Unit Int))) (l : List α)
    (h : ∀ (i : Nat) x, l[i]? = some x → body (i : Int) () = some (if eq x = true then .done (.ret (i : Int)) else .cont ())) :
    rangeN body (fun _ => .next ()) (Int.toNat ((l.length : Nat) : Int)) 0 () = some (match l.findIdx? eq with | some i => .ret (i : Int) | none => .next ()) := by
  have key : ∀ (k i : Nat), l.length = i + k → rangeN body (fun _ => .next ()) k (i : Int) () = some (match (l.drop i).findIdx? eq with | some j => .ret ((i + j : Nat) : Int) | none => .next ()) := by
    intro k
    induction k with
    | zero => intro i hi; rw [List.drop_of_length_le (by omega)]; rfl
    | succ k ih =>
      intro i hi
      have hx : l[i]? = some l[i] := List.getElem?_eq_getElem (by omega)
      rw [rangeN, h i _ hx, Option.bind_some, List.drop_eq_getElem_cons (show i < l.length by omega), List.findIdx?_cons]
      cases he : eq l[i] with
      | true => simp
      | false =>
        have := ih (i + 1) (by omega)
        simp only [Bool.false_eq_true, if_false]
        rw [show ((i : Int) + 1) = ((i + 1 : Nat) : Int) from rfl, this]
        cases (l.drop (i + 1)).findIdx? eq with
        | none => rfl
        | some j => simp [Nat.add_assoc, Nat.add_comm 1 j]
  have := key l.length 0 (by omega)
  simpa using this
theorem findIdx_any {α : Type} (p : α → Bool) (l : List α) : (l.findIdx? p).isSome = l.any p := by
  induction l with
  | nil => rfl
  | cons x l ih => rw [List.findIdx?_cons, List.any_cons]; cases p x <;> simp [ih]
end Go.Fw
