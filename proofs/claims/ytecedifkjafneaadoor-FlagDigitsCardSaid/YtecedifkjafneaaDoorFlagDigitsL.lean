/-
  FlagDigits, plain: its model gives true for whatever comes in. No condition.
-/
import Derived.Test.YtecedifkjafneaaDoorDigitsLib
namespace Go.Fw
def digitsS (n : Int) : List Int × Int := if isN n = true then (digsOf n.toNat, 0) else ([], 7)
theorem Digits_eq (n : Int) : flag_Digits n = some (digitsS n) := by
  unfold flag_Digits digitsS
  rw [isNumber_eq, Option.bind_some]
  cases h : isN n with
  | false => simp
  | true => simp [digitsOf_eq h]
theorem rDigits_eq (n : Int) : noongunref07_Digits n = some (digitsS n) := by
  unfold noongunref07_Digits digitsS
  have : (decide (n < 0) || decide (9999 < n)) = !isN n := by
    unfold isN inB
    rw [Bool.eq_iff_iff]
    simp only [Bool.or_eq_true, decide_eq_true_eq, Bool.not_eq_true', Bool.and_eq_false_iff, decide_eq_false_iff_not]
    omega
  rw [this]
  cases h : isN n with
  | false => simp
  | true => simp [rdigitsOf_eq h]
def numberS (l : List Int) : Int × Int := if vD l = true then (numF l, 0) else (0, 1)
theorem Number_eq (l : List Int) : flag_Number l = some (numberS l) := by
  unfold flag_Number numberS
  rw [ValidDigits_eq, Option.bind_some]
  cases h : vD l with
  | false => simp
  | true =>
    obtain ⟨h1, h2⟩ := vD_parts h
    unfold flag_number
    rw [num_loop l 0 0 h2 h1.2 (by omega)]
    rfl
theorem rNumber_eq (l : List Int) : noongunref07_Number l = some (numberS l) := by
  unfold noongunref07_Number numberS
  rw [rValidDigits_eq, Option.bind_some]
  cases h : vD l with
  | false => simp
  | true =>
    obtain ⟨h1, h2⟩ := vD_parts h
    unfold noongunref07_number
    rw [num_loop l 0 0 h2 h1.2 (by omega)]
    rfl
def turnedS (l : List Int) : List Int × Int := if vD l = true then (l.reverse, 0) else ([], 1)
theorem Turned_eq (l : List Int) : flag_Turned l = some (turnedS l) := by
  unfold flag_Turned turnedS
  rw [ValidDigits_eq, Option.bind_some]
  cases h : vD l with
  | false => simp
  | true =>
    obtain ⟨h1, h2⟩ := vD_parts h
    unfold flag_turned slices_Clone_int turnL
    rw [appI_ok (by simp; omega)]
    simp only [Option.bind_some, List.nil_append]
    rw [if_pos (show l.length ≤ 1099511627776 by omega)]
    rfl
theorem rTurned_eq (l : List Int) : noongunref07_Turned l = some (turnedS l) := by
  unfold noongunref07_Turned turnedS
  rw [rValidDigits_eq, Option.bind_some]
  cases h : vD l with
  | false => simp
  | true =>
    obtain ⟨h1, h2⟩ := vD_parts h
    unfold noongunref07_turned
    have key : ∀ (l : List Int) (i : Int) (s : List Int), s.length + l.length ≤ 1000 → rangeL (α := Int) (S := (List Int)) (X := (List Int)) (fun _ yk1 z2 => (appI ([yk1] : List Int) z2).bind (fun t1 => some (Step.cont t1))) (fun z2 => z2) l i s = some (l.reverse ++ s) := by
      intro l
      induction l with
      | nil => intro i s _; simp [rangeL]
      | cons d l ih =>
        intro i s hs
        rw [List.length_cons] at hs
        rw [rangeL, appI_ok (by simp; omega)]
        simp only [Option.bind_some]
        rw [ih _ _ (by simp; omega)]
        simp
    rw [key l 0 [] (by simp; omega)]
    simp
def disL (x y : List Int) : Nat := (x.zip y).countP fun p => p.1 != p.2
theorem disL_symm (x y : List Int) : disL x y = disL y x := by
  unfold disL
  induction x generalizing y with
  | nil => simp
  | cons a x ih =>
    cases y with
    | nil => simp
    | cons b y =>
      rw [List.zip_cons_cons, List.zip_cons_cons, List.countP_cons, List.countP_cons, ih y]
      have : (a != b) = (b != a) := bne_comm
      rw [this]
theorem disL_zero {x y : List Int} (hl : x.length = y.length) (h : disL x y = 0) : x = y := by
  unfold disL at h
  induction x generalizing y with
  | nil => exact (List.eq_nil_of_length_eq_zero hl.symm).symm
  | cons a x ih =>
    cases y with
    | nil => simp at hl
    | cons b y =>
      rw [List.zip_cons_cons, List.countP_cons] at h
      have h1 : (x.zip y).countP (fun p => p.1 != p.2) = 0 := by omega
      have h2 : ¬ (a != b) = true := by intro h3; simp [h3] at h
      rw [ih (by simpa using hl) h1]
      have : a = b := by simpa using h2
      rw [this]
theorem disL_self (x : List Int) : disL x x = 0 := by
  unfold disL
  induction x with
  | nil => rfl
  | cons a x ih => rw [List.zip_cons_cons, List.countP_cons, ih]; simp
theorem disL_le (x y : List Int) : disL x y ≤ x.length := by
  unfold disL
  exact Nat.le_trans List.countP_le_length (by rw [List.length_zip]; omega)
theorem dis_loop {x y : List Int} (hl : x.length = y.length) (h4 : x.length ≤ 4) : rangeN (S := Int) (X := Int) (fun ik1 z2 =>
      ((
        (idx x (ik1 : Int)).bind (fun x1 =>
        (idx y (ik1 : Int)).bind (fun x2 =>
        ((
          (if (x1 != x2) = true then
            (addI z2 1).bind (fun t3 =>
            some t3)
          else
            some z2)) : Option (Int)).bind (fun s3 =>
        some s3)))) : Option (Int)).bind (fun s2 =>
      some (Step.cont s2))) (fun z2 => z2) (Int.toNat ((x.length : Nat) : Int)) 0 0 = some ((disL x y : Nat) : Int) := by
  rw [Int.toNat_natCast]
  obtain ⟨s', h1, h2⟩ := rangeN_inv (S := Int) (X := Int) (body := fun ik1 z2 => ((
        (idx x (ik1 : Int)).bind (fun x1 =>
        (idx y (ik1 : Int)).bind (fun x2 =>
        ((
          (if (x1 != x2) = true then
            (addI z2 1).bind (fun t3 =>
            some t3)
          else
            some z2)) : Option (Int)).bind (fun s3 =>
        some s3)))) : Option (Int)).bind (fun s2 =>
      some (Step.cont s2))) (fin := fun z2 => z2) (fun j s => s = ((((x.zip y).take j).countP fun p => p.1 != p.2 : Nat) : Int)) x.length 0 (fun j s hj hs => by
    subst hs
    have e1 : x[j]? = some x[j] := List.getElem?_eq_getElem hj
    have e2 : y[j]? = some y[j] := List.getElem?_eq_getElem (by omega)
    have e3 : (x.zip y)[j]? = some (x[j], y[j]) := by
      rw [List.getElem?_eq_getElem (by rw [List.length_zip]; omega), List.getElem_zip]
    have hc : ((x.zip y).take j).countP (fun p => p.1 != p.2) ≤ 4 := Nat.le_trans List.countP_le_length (by rw [List.length_take, List.length_zip]; omega)
    refine ⟨_, ?_, rfl⟩
    rw [idx_at e1, Option.bind_some, idx_at e2, Option.bind_some, List.take_add_one, e3, List.countP_append]
    simp only [Option.toList_some, List.countP_singleton]
    by_cases h : x[j] = y[j]
    · simp [h]
    · have : (x[j] != y[j]) = true := by simpa using h
      rw [if_pos this, if_pos this, addI_ok (by omega)]
      rfl) rfl
  rw [h1, h2]
  unfold disL
  rw [List.take_of_length_le (by rw [List.length_zip]; omega)]
def distV (a b : Int) : Int := if (digsOf a.toNat).length ≠ (digsOf b.toNat).length then 4 else ((disL (digsOf a.toNat) (digsOf b.toNat) : Nat) : Int)
def distS (a b : Int) : Int × Int := if isN a = true ∧ isN b = true then (distV a b, 0) else (0, 7)
theorem isN_le {a : Int} (h : isN a = true) : 0 ≤ a ∧ a ≤ 9999 := by
  unfold isN inB at h
  simp only [Bool.and_eq_true, decide_eq_true_eq] at h
  exact h
theorem Distance_eq (a b : Int) : flag_Distance a b = some (distS a b) := by
  unfold flag_Distance distS
  rw [isNumber_eq, isNumber_eq, Option.bind_some]
  cases ha : isN a with
  | false => simp
  | true =>
    cases hb : isN b with
    | false => simp
    | true =>
      have hla := digsOf_len a.toNat (by have := isN_le ha; omega)
      simp only [Bool.not_true, Bool.false_eq_true, if_false, Option.bind_some, and_self, if_true]
      unfold flag_distance
      rw [digitsOf_eq ha, Option.bind_some, digitsOf_eq hb, Option.bind_some]
      unfold distV
      by_cases hl : (digsOf a.toNat).length = (digsOf b.toNat).length
      · rw [if_neg (by simp [hl]), if_neg (by simp [hl]), dis_loop hl hla.2]
        rfl
      · rw [if_pos (by simp; omega), if_pos hl]
        rfl
theorem rDistance_eq (a b : Int) : noongunref07_Distance a b = some (distS a b) := by
  unfold noongunref07_Distance distS
  have : ((((decide (a < 0)) || (decide (9999 < a))) || (decide (b < 0))) || (decide (9999 < b))) = !(isN a && isN b) := by
    unfold isN inB
    rw [Bool.eq_iff_iff]
    simp only [Bool.or_eq_true, decide_eq_true_eq, Bool.not_eq_true', Bool.and_eq_false_iff, decide_eq_false_iff_not]
    omega
  rw [this]
  cases ha : isN a with
  | false => simp
  | true =>
    cases hb : isN b with
    | false => simp
    | true =>
      have hla := digsOf_len a.toNat (by have := isN_le ha; omega)
      simp only [Bool.and_self, Bool.not_true, Bool.false_eq_true, if_false, and_self, if_true]
      unfold noongunref07_distance
      rw [rdigitsOf_eq ha, Option.bind_some, rdigitsOf_eq hb, Option.bind_some]
      unfold distV
      by_cases hl : (digsOf a.toNat).length = (digsOf b.toNat).length
      · rw [if_neg (by simp [hl]), if_neg (by simp [hl]), dis_loop hl hla.2]
        rfl
      · rw [if_pos (by simp; omega), if_pos hl]
        rfl
theorem distV_symm (a b : Int) : distV b a = distV a b := by
  unfold distV
  rw [disL_symm]
  by_cases h : (digsOf a.toNat).length = (digsOf b.toNat).length
  · simp [h]
  · rw [if_pos h, if_pos (fun e => h e.symm)]
theorem distV_zero {a b : Int} (ha : isN a = true) (hb : isN b = true) : (distV a b == 0) = (a == b) := by
  have h1 := isN_le ha
  have h2 := isN_le hb
  rw [Bool.eq_iff_iff, beq_iff_eq, beq_iff_eq]
  unfold distV
  constructor
  · intro h
    split at h
    · omega
    · rename_i hl
      have e := disL_zero (by simpa using hl) (by omega : disL (digsOf a.toNat) (digsOf b.toNat) = 0)
      have n1 := numF_digs a.toNat
      have n2 := numF_digs b.toNat
      rw [e] at n1
      omega
  · intro h
    subst h
    rw [if_neg (by simp), disL_self]; rfl
theorem law_noongunlaw07_FlagDigits (a0 : (List Int)) (_ : ∀ a ∈ a0, (fun a => inI a = true) a) (_ : a0.length ≤ maxLen) (a1 : Int) (_ : inI a1 = true) (a2 : Int) (_ : inI a2 = true) : noongunlaw07_FlagDigits a0 a1 a2 = some true := by
  unfold noongunlaw07_FlagDigits
  split
  · rw [awake_eq]; rfl
  · simp only [Digits_eq, rDigits_eq, Number_eq, rNumber_eq, Turned_eq, rTurned_eq, Distance_eq, rDistance_eq, same_eq, Option.bind_some, decide_true, Bool.not_true, bne_self_eq_false, Bool.or_self, Bool.false_eq_true, if_false]
    have hA : (((if ((digitsS a1).2 == 0) = true then (if (((numberS (digitsS a1).1).2 != 0) || ((numberS (digitsS a1).1).1 != a1)) = true then some (Ctl.ret false) else some (Ctl.next ())) else some (Ctl.next ()))) : Option (Ctl Unit Bool)) = some (Ctl.next ()) := by
      unfold digitsS
      cases h : isN a1 with
      | false => simp
      | true =>
        have h1 := isN_le h
        have hv : vD (digsOf a1.toNat) = true := vD_mk (digsOf_len _ (by omega)) (digsOf_dig _)
        have hn := numF_digs a1.toNat
        have : numF (digsOf a1.toNat) = a1 := by omega
        simp [numberS, hv, this]
    have hB : (((if ((distS a1 a2).2 == 0) = true then (if ((((distS a2 a1).2 != 0) || ((distS a2 a1).1 != (distS a1 a2).1)) || (((distS a1 a2).1 == 0) != (a1 == a2))) = true then some (Ctl.ret false) else some (Ctl.next ())) else some (Ctl.next ()))) : Option (Ctl Unit Bool)) = some (Ctl.next ()) := by
      unfold distS
      cases ha : isN a1 with
      | false => simp
      | true =>
        cases hb : isN a2 with
        | false => simp
        | true => simp [distV_symm a1 a2, distV_zero ha hb]
    have hC : (turnedS a0).2 = 0 → turnedS (turnedS a0).1 = (a0, 0) := by
      intro h
      unfold turnedS at h ⊢
      cases hv : vD a0 with
      | false => rw [hv] at h; simp at h
      | true =>
        obtain ⟨h1, h2⟩ := vD_parts hv
        have hv2 : vD a0.reverse = true := vD_mk (by rw [List.length_reverse]; exact h1) (fun d hd => h2 d (List.mem_reverse.1 hd))
        simp [hv2]
    simp only [hA, hB, Option.bind_some]
    by_cases h : (turnedS a0).2 = 0
    · simp [hC h, h, awake_eq]
    · simp [h, awake_eq]
end Go.Fw
