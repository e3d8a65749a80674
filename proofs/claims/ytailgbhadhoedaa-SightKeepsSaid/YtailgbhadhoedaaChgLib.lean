/-
  Nets that are changed: what both texts make of them. No program in it.
-/
import Derived.Test.YtailgbhadhoedaaValLib
namespace Go.Fw
theorem cloneI_eq {l : List Int} (h : l.length ≤ 1000) : slices_Clone_int l = some l := by
  unfold slices_Clone_int appI
  rw [if_pos (by simp only [List.length_nil]; omega)]
  rfl
theorem cloneS_eq {l : List GSight} (h : l.length ≤ 1000) : slices_Clone_Sight l = some l := by
  unfold slices_Clone_Sight appI
  rw [if_pos (by simp only [List.length_nil]; omega)]
  rfl
theorem app1 {α : Type} {l : List α} (h : l.length ≤ 1000) (x : α) : appI l [x] = some (l ++ [x]) := by
  unfold appI
  rw [if_pos (by simp; omega)]
/-- The elements at places that a test picks. -/
def keepL {α : Type} (p : Nat → Bool) : Nat → List α → List α
  | _, [] => []
  | i, x :: l => (if p i = true then [x] else []) ++ keepL p (i + 1) l
theorem keepL_all {α : Type} {p : Nat → Bool} (h : ∀ j, p j = true) : ∀ (l : List α) (i : Nat), keepL p i l = l
  | [], _ => rfl
  | x :: l, i => by rw [keepL, h i, if_pos rfl, keepL_all h l (i + 1)]; rfl
theorem keepL_erase {α : Type} (i0 : Nat) : ∀ (l : List α) (i : Nat), keepL (fun j => j != i0) i l = if i ≤ i0 then l.eraseIdx (i0 - i) else l
  | [], i => by rw [keepL]; split <;> rfl
  | x :: l, i => by
    rw [keepL, keepL_erase i0 l (i + 1)]
    by_cases h : i = i0
    · subst h
      have : (i != i) = false := bne_self_eq_false ..
      rw [this, if_neg (by decide), if_neg (by omega), if_pos (Nat.le_refl _), Nat.sub_self]
      rfl
    · have : (i != i0) = true := by simpa using h
      rw [this, if_pos rfl]
      by_cases h2 : i ≤ i0
      · rw [if_pos (by omega), if_pos h2, show i0 - i = (i0 - (i + 1)) + 1 by omega, List.eraseIdx_cons_succ]
        rfl
      · rw [if_neg (by omega), if_neg h2]
        rfl
theorem rangeN_keep {α X : Type} (p : Nat → Bool) (l : List α) {body : Int → List α → Option (Step (List α) X)} {fin : List α → X}
    (h : ∀ (j : Nat) (x : α) (z : List α), l[j]? = some x → z.length ≤ 999 → body (j : Int) z = some (.cont (z ++ if p j = true then [x] else []))) : ∀ (k i : Nat) (acc : List α), i + k = l.length → acc.length + k ≤ 1000 →
    rangeN body fin k (i : Int) acc = some (fin (acc ++ keepL p i (l.drop i)))
  | 0, i, acc, hi, _ => by
    rw [rangeN, List.drop_of_length_le (by omega), keepL, List.append_nil]
  | k + 1, i, acc, hi, ha => by
    have hlt : i < l.length := by omega
    rw [rangeN, h i l[i] acc (List.getElem?_eq_getElem hlt) (by omega), Option.bind_some, List.drop_eq_getElem_cons hlt, keepL, ← List.append_assoc]
    refine rangeN_keep p l h k (i + 1) _ (by omega) ?_
    rw [List.length_append]
    split <;> simp <;> omega
theorem rangeN_setmap {α X : Type} (p : α → Bool) (g : α → α) (y : X) (l : List α) {body : Int → List α → Option (Step (List α) X)} {fin : List α → X}
    (h : ∀ (j : Nat) (x : α) (z : List α), l[j]? = some x → z[j]? = some x → body (j : Int) z = some (if p x = true then .cont (z.set j (g x)) else .done y)) : ∀ (k i : Nat), i + k = l.length →
    rangeN body fin k (i : Int) ((l.take i).map g ++ l.drop i) = some (if (l.drop i).all p = true then fin (l.map g) else y)
  | 0, i, hi => by
    rw [rangeN, List.drop_of_length_le (by omega), List.take_of_length_le (by omega), List.append_nil]
    rfl
  | k + 1, i, hi => by
    have hlt : i < l.length := by omega
    have hm : ((l.take i).map g).length = i := by rw [List.length_map, List.length_take]; omega
    have hz : ((l.take i).map g ++ l.drop i)[i]? = some l[i] := by
      rw [List.getElem?_append_right (by omega), hm, Nat.sub_self, List.getElem?_drop, Nat.add_zero, List.getElem?_eq_getElem hlt]
    rw [rangeN, h i l[i] _ (List.getElem?_eq_getElem hlt) hz, Option.bind_some]
    have hd := List.drop_eq_getElem_cons hlt
    have hall : (l.drop i).all p = (p l[i] && (l.drop (i + 1)).all p) := by rw [hd, List.all_cons]
    cases hp : p l[i] with
    | false =>
      rw [hall, hp, Bool.false_and]
      rfl
    | true =>
      rw [hall, hp, Bool.true_and, if_pos rfl, ← rangeN_setmap p g y l h k (i + 1) (by omega)]
      dsimp only
      have : ((l.take i).map g ++ l.drop i).set i (g l[i]) = (l.take (i + 1)).map g ++ l.drop (i + 1) := by
        rw [List.set_append_right _ _ (by omega), hm, Nat.sub_self, hd, List.set_cons_zero, List.take_succ_eq_append_getElem hlt, List.map_append]
        simp
      rw [this]
      rfl
theorem rangeN_unit {X : Type} {body : Int → Unit → Option (Step Unit X)} {fin : Unit → X} : ∀ (k i : Nat), (∀ j, i ≤ j → j < i + k → body (j : Int) () = some (.cont ())) → rangeN body fin k (i : Int) () = some (fin ())
  | 0, _, _ => rfl
  | k + 1, i, h => by
    rw [rangeN, h i (Nat.le_refl _) (by omega), Option.bind_some]
    exact rangeN_unit k (i + 1) fun j h1 h2 => h j (by omega) (by omega)
theorem refSame_self (x : GNet) : noongunref02_Same x x = some true := by
  unfold noongunref02_Same
  rw [bne_self_eq_false, bne_self_eq_false, if_neg (by decide), Int.toNat_natCast, Int.toNat_natCast]
  refine (bindS (rangeN_unit x.Rates.length 0 fun j _ hj => ?_)).trans ((bindS (rangeN_unit x.Sights.length 0 fun j _ hj => ?_)).trans rfl)
  · rw [idx_at (List.getElem?_eq_getElem (by omega)), Option.bind_some, Option.bind_some, bne_self_eq_false, if_neg (by decide)]
  · rw [idx_at (List.getElem?_eq_getElem (by omega)), Option.bind_some, Option.bind_some, beq_self_eq_true, if_neg (by decide)]
/-- A net without a sight. -/
def woNet (x : GNet) (i : Nat) : GNet := ⟨x.Rates, x.Sights.eraseIdx i⟩
theorem sWithout_eq {x : GNet} (hr : x.Rates.length ≤ 900) (hs : x.Sights.length ≤ 900) {i : Nat} (hi : i < x.Sights.length) : sight_without x (i : Int) = some (woNet x i) := by
  unfold sight_without
  rw [cloneI_eq (by omega), Option.bind_some, cloneS_eq (by omega), Option.bind_some, addI_ok (by omega), Option.bind_some]
  unfold delI
  rw [if_pos (by omega), Option.bind_some, Int.toNat_natCast, show ((i : Int) + 1).toNat = i + 1 by omega]
  unfold woNet
  rw [List.eraseIdx_eq_take_drop_succ]
end Go.Fw
