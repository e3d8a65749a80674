/-
  What the functions compute, as functions of the values: written by a program from the functions. No condition.
-/
import Derived.Test.YtecedifkjafneaaDoorFwJ
import Derived.Test.YtecedifkjafneaaDoorFwU
import Derived.Test.YtecedifkjafneaaDoorFwX
namespace Go.Fw
structure GMeaning where
  Number : Int
  Text : ByteArray
  deriving DecidableEq
instance : Flat GMeaning := ⟨2, fun a => .agg #[.int .i64 a.Number, .string a.Text], fun a => [.int .i64 a.Number, .string a.Text], fun _ => rfl, fun _ => rfl, by simp [Value.oneCell'], by decide⟩

def okGMeaning (a : GMeaning) : Prop := inI a.Number = true ∧ a.Text.size ≤ maxLen
def flag_within (a0 : Int) (a1 : Int) (a2 : Int) : Option (Bool) :=
  some ((decide (a1 ≤ a0)) && (decide (a0 ≤ a2)))

def flag_listed_c1 (a0 : Int) (c0 : Int) : Option (Bool) :=
  (flag_within a0 0 c0).bind (fun t1 =>
  some (!t1))

def slices_IndexFunc_int (a0 : (List Int)) (a1 : Int → Option (Bool)) : Option (Int) :=
  ((
  rangeN (S := Unit) (X := Ctl (Unit) (Int)) (fun ik1 _ =>
    (idx a0 (ik1 : Int)).bind (fun x1 =>
    (a1 x1).bind (fun t1 =>
    (if t1 = true then
      some (Step.done (Ctl.ret (ik1 : Int)))
    else
      some (Step.cont ()))))) (fun _ => Ctl.next ()) (Int.toNat ((a0.length : Nat) : Int)) 0 ()) : Option (Ctl (Unit) (Int))).bind (fun o => match o with
  | .next _ =>
    some (-1)
  | .ret r => some r
  | .exit _ _ => none)

def slices_ContainsFunc_int (a0 : (List Int)) (a1 : Int → Option (Bool)) : Option (Bool) :=
  (slices_IndexFunc_int a0 a1).bind (fun t1 =>
  some (decide (0 ≤ t1)))

def flag_listed (a0 : (List Int)) (a1 : Int) : Option (Bool) :=
  (flag_within ((a0.length : Nat) : Int) 1 4).bind (fun t1 =>
  ((if t1 = true then
  (slices_ContainsFunc_int a0 (fun x0 => flag_listed_c1 x0 a1)).bind (fun t2 =>
  some (!t2))
  else
  some false) : Option Bool).bind (fun b2 =>
  some b2))

def flag_ValidDigits (a0 : (List Int)) : Option (Bool) :=
  (flag_listed a0 9).bind (fun t1 =>
  some t1)

def slices_Index_int (a0 : (List Int)) (a1 : Int) : Option (Int) :=
  ((
  rangeN (S := Unit) (X := Ctl (Unit) (Int)) (fun ik1 _ =>
    (idx a0 (ik1 : Int)).bind (fun x1 =>
    (if (a1 == x1) = true then
      some (Step.done (Ctl.ret (ik1 : Int)))
    else
      some (Step.cont ())))) (fun _ => Ctl.next ()) (Int.toNat ((a0.length : Nat) : Int)) 0 ()) : Option (Ctl (Unit) (Int))).bind (fun o => match o with
  | .next _ =>
    some (-1)
  | .ret r => some r
  | .exit _ _ => none)

def slices_Contains_int (a0 : (List Int)) (a1 : Int) : Option (Bool) :=
  (slices_Index_int a0 a1).bind (fun t1 =>
  some (decide (0 ≤ t1)))

def flag_place (a0 : Int) : Option (Int) :=
  (subI a0 10).bind (fun t1 =>
  some t1)

noncomputable def flag_Hoist (a0 : (List Int)) : Option ((List Int) × Int) :=
  (flag_ValidDigits a0).bind (fun t1 =>
  (if (!t1) = true then
  some (([] : List Int), 1)
  else
  ((
    rangeN (S := (List Int)) (X := (List Int)) (fun ik1 z2 =>
      ((
        (idx a0 (ik1 : Int)).bind (fun x1 =>
        (slices_Contains_int z2 x1).bind (fun t2 =>
        ((
          (if t2 = true then
            ((
              loopR (S := Int) (X := Int) (fun (z5 : Int) =>
                (slices_Contains_int z2 z5).bind (fun t3 =>
                ((if t3 = true then
                  some true
                else
                  (flag_place z5).bind (fun t4 =>
                  some (decide ((ik1 : Int) ≤ t4)))) : Option Bool).bind (fun b1 =>
                ((if b1 = true then
                  some true
                else
                  (flag_place z5).bind (fun t5 =>
                  (idx a0 t5).bind (fun x2 =>
                  some (x2 != x1)))) : Option Bool).bind (fun b2 =>
                (if b2 = true then
                  (addI z5 1).bind (fun t6 =>
                  some (Step.cont t6))
                else
                  some (Step.done z5)))))) 10) : Option (Int)).bind (fun s4 =>
            some s4)
          else
            some x1)) : Option (Int)).bind (fun s3 =>
        (appI z2 ([s3] : List Int)).bind (fun t7 =>
        some t7))))) : Option ((List Int))).bind (fun s2 =>
      some (Step.cont s2))) (fun z2 => z2) (Int.toNat ((a0.length : Nat) : Int)) 0 ([] : List Int)) : Option ((List Int))).bind (fun s1 =>
  some (s1, 0))))

def flag_ValidHoist (a0 : (List Int)) : Option (Bool) :=
  (flag_listed a0 12).bind (fun t1 =>
  (if (!t1) = true then
  some false
  else
  ((
    rangeN (S := Unit) (X := Ctl (Unit) (Bool)) (fun ik1 _ =>
      (idx a0 (ik1 : Int)).bind (fun x1 =>
      (cutI a0 0 (ik1 : Int)).bind (fun t2 =>
      (slices_Contains_int t2 x1).bind (fun t3 =>
      ((if t3 = true then
        some true
      else
        ((if (decide (10 ≤ x1)) = true then
          (flag_place x1).bind (fun t4 =>
          some (decide ((ik1 : Int) ≤ t4)))
        else
          some false) : Option Bool).bind (fun b2 =>
        some b2)) : Option Bool).bind (fun b1 =>
      (if b1 = true then
        some (Step.done (Ctl.ret false))
      else
        some (Step.cont ()))))))) (fun _ => Ctl.next ()) (Int.toNat ((a0.length : Nat) : Int)) 0 ()) : Option (Ctl (Unit) (Bool))).bind (fun o => match o with
    | .next _ =>
      some true
    | .ret r => some r
    | .exit _ _ => none)))

def flag_means (a0 : (List Int)) : Option ((List Int)) :=
  ((
  rangeL (α := Int) (S := (List Int)) (X := (List Int)) (fun _   yk1 z2 =>
    ((
      ((
        (if (decide (10 ≤ yk1)) = true then
          (flag_place yk1).bind (fun t1 =>
          (idx z2 t1).bind (fun x1 =>
          some x1))
        else
          some yk1)) : Option (Int)).bind (fun s3 =>
      (appI z2 ([s3] : List Int)).bind (fun t2 =>
      some t2))) : Option ((List Int))).bind (fun s2 =>
    some (Step.cont s2))) (fun z2 => z2) a0 0 ([] : List Int)) : Option ((List Int))).bind (fun s1 =>
  some s1)

def flag_Means (a0 : (List Int)) : Option ((List Int) × Int) :=
  (flag_ValidHoist a0).bind (fun t1 =>
  (if (!t1) = true then
  some (([] : List Int), 1)
  else
  (flag_means a0).bind (fun t2 =>
  some (t2, 0))))

def noongunref07_SameInts (a0 : (List Int)) (a1 : (List Int)) : Option (Bool) :=
  (if (((a0.length : Nat) : Int) != ((a1.length : Nat) : Int)) = true then
  some false
  else
  ((
    rangeN (S := Unit) (X := Ctl (Unit) (Bool)) (fun ik1 _ =>
      (idx a0 (ik1 : Int)).bind (fun x1 =>
      (idx a1 (ik1 : Int)).bind (fun x2 =>
      (if (x1 != x2) = true then
        some (Step.done (Ctl.ret false))
      else
        some (Step.cont ()))))) (fun _ => Ctl.next ()) (Int.toNat ((a0.length : Nat) : Int)) 0 ()) : Option (Ctl (Unit) (Bool))).bind (fun o => match o with
    | .next _ =>
      some true
    | .ret r => some r
    | .exit _ _ => none))

noncomputable def noongunlaw07_awake  : Option (Bool) :=
  (flag_Hoist ([1, 2, 1, 1] : List Int)).bind (fun o => match o with
  | (t1, t2) =>
    (flag_Means ([1, 2, 10, 12] : List Int)).bind (fun o => match o with
      | (t3, t4) =>
        ((if (t2 == 0) = true then
          (noongunref07_SameInts t1 ([1, 2, 10, 12] : List Int)).bind (fun t5 =>
          some t5)
        else
          some false) : Option Bool).bind (fun b1 =>
        ((if (b1 && (t4 == 0)) = true then
          (noongunref07_SameInts t3 ([1, 2, 1, 1] : List Int)).bind (fun t6 =>
          some t6)
        else
          some false) : Option Bool).bind (fun b2 =>
        some b2))))

def flag_isNumber (a0 : Int) : Option (Bool) :=
  (flag_within a0 0 9999).bind (fun t1 =>
  some t1)

def strconv_Itoa (a0 : Int) : Option ByteArray := if 0 ≤ a0 ∧ a0 ≤ 9223372036854775807 then some ⟨(Lib.decDigits a0.toNat).toArray⟩ else none
def digsOf (m : Nat) : List Int := (Lib.decDigits m).map fun b => (b.toNat : Int) - 48
def flag_digitsOf (a0 : Int) : Option (List Int) := if 0 ≤ a0 ∧ a0 ≤ 9223372036854775807 then some (digsOf a0.toNat) else none

def flag_Digits (a0 : Int) : Option ((List Int) × Int) :=
  (flag_isNumber a0).bind (fun t1 =>
  (if (!t1) = true then
  some (([] : List Int), 7)
  else
  (flag_digitsOf a0).bind (fun t2 =>
  some (t2, 0))))

def noongunref07_digitsOf (a0 : Int) : Option ((List Int)) :=
  (strconv_Itoa a0).bind (fun t1 =>
  (bytesI t1).bind (fun t2 =>
  ((
  rangeL (α := UInt8) (S := (List Int)) (X := (List Int)) (fun _   yk1 z2 =>
    (cvI .u8 ((yk1.toNat : Int) - 48)).bind (fun t3 =>
    (cvI .i64 t3).bind (fun t4 =>
    (appI z2 ([t4] : List Int)).bind (fun t5 =>
    some (Step.cont t5))))) (fun z2 => z2) t2 0 ([] : List Int)) : Option ((List Int))).bind (fun s1 =>
  some s1)))

def noongunref07_Digits (a0 : Int) : Option ((List Int) × Int) :=
  (if ((decide (a0 < 0)) || (decide (9999 < a0))) = true then
  some (([] : List Int), 7)
  else
  (noongunref07_digitsOf a0).bind (fun t1 =>
  some (t1, 0)))

def flag_number (a0 : (List Int)) : Option (Int) :=
  ((
  rangeL (α := Int) (S := Int) (X := Int) (fun _   yk1 z2 =>
    (mulI 10 z2).bind (fun t1 =>
    (addI t1 yk1).bind (fun t2 =>
    some (Step.cont t2)))) (fun z2 => z2) a0 0 0) : Option (Int)).bind (fun s1 =>
  some s1)

def flag_Number (a0 : (List Int)) : Option (Int × Int) :=
  (flag_ValidDigits a0).bind (fun t1 =>
  (if (!t1) = true then
  some (0, 1)
  else
  (flag_number a0).bind (fun t2 =>
  some (t2, 0))))

def noongunref07_ValidDigits (a0 : (List Int)) : Option (Bool) :=
  ((
  rangeL (α := Int) (S := Unit) (X := Ctl (Unit) (Bool)) (fun _   yk1 _ =>
    (if ((decide (yk1 < 0)) || (decide (9 < yk1))) = true then
      some (Step.done (Ctl.ret false))
    else
      some (Step.cont ()))) (fun _ => Ctl.next ()) a0 0 ()) : Option (Ctl (Unit) (Bool))).bind (fun o => match o with
  | .next _ =>
    some ((decide (1 ≤ ((a0.length : Nat) : Int))) && (decide (((a0.length : Nat) : Int) ≤ 4)))
  | .ret r => some r
  | .exit _ _ => none)

def noongunref07_number (a0 : (List Int)) : Option (Int) :=
  ((
  rangeL (α := Int) (S := Int) (X := Int) (fun _   yk1 z2 =>
    (mulI 10 z2).bind (fun t1 =>
    (addI t1 yk1).bind (fun t2 =>
    some (Step.cont t2)))) (fun z2 => z2) a0 0 0) : Option (Int)).bind (fun s1 =>
  some s1)

def noongunref07_Number (a0 : (List Int)) : Option (Int × Int) :=
  (noongunref07_ValidDigits a0).bind (fun t1 =>
  (if (!t1) = true then
  some (0, 1)
  else
  (noongunref07_number a0).bind (fun t2 =>
  some (t2, 0))))

def slices_Clone_int (a0 : (List Int)) : Option ((List Int)) :=
  (appI ([] : List Int) a0).bind (fun t1 =>
  some t1)

def flag_turned (a0 : (List Int)) : Option ((List Int)) :=
  (slices_Clone_int a0).bind (fun t1 =>
  (turnL List.reverse t1).bind (fun t2 =>
  some t2))

def flag_Turned (a0 : (List Int)) : Option ((List Int) × Int) :=
  (flag_ValidDigits a0).bind (fun t1 =>
  (if (!t1) = true then
  some (([] : List Int), 1)
  else
  (flag_turned a0).bind (fun t2 =>
  some (t2, 0))))

def noongunref07_turned (a0 : (List Int)) : Option ((List Int)) :=
  ((
  rangeL (α := Int) (S := (List Int)) (X := (List Int)) (fun _   yk1 z2 =>
    (appI ([yk1] : List Int) z2).bind (fun t1 =>
    some (Step.cont t1))) (fun z2 => z2) a0 0 ([] : List Int)) : Option ((List Int))).bind (fun s1 =>
  some s1)

def noongunref07_Turned (a0 : (List Int)) : Option ((List Int) × Int) :=
  (noongunref07_ValidDigits a0).bind (fun t1 =>
  (if (!t1) = true then
  some (([] : List Int), 1)
  else
  (noongunref07_turned a0).bind (fun t2 =>
  some (t2, 0))))

def flag_distance (a0 : Int) (a1 : Int) : Option (Int) :=
  (flag_digitsOf a0).bind (fun t1 =>
  (flag_digitsOf a1).bind (fun t2 =>
  (if (((t1.length : Nat) : Int) != ((t2.length : Nat) : Int)) = true then
  some 4
  else
  ((
    rangeN (S := Int) (X := Int) (fun ik1 z2 =>
      ((
        (idx t1 (ik1 : Int)).bind (fun x1 =>
        (idx t2 (ik1 : Int)).bind (fun x2 =>
        ((
          (if (x1 != x2) = true then
            (addI z2 1).bind (fun t3 =>
            some t3)
          else
            some z2)) : Option (Int)).bind (fun s3 =>
        some s3)))) : Option (Int)).bind (fun s2 =>
      some (Step.cont s2))) (fun z2 => z2) (Int.toNat ((t1.length : Nat) : Int)) 0 0) : Option (Int)).bind (fun s1 =>
  some s1))))

def flag_Distance (a0 : Int) (a1 : Int) : Option (Int × Int) :=
  (flag_isNumber a0).bind (fun t1 =>
  ((if (!t1) = true then
  some true
  else
  (flag_isNumber a1).bind (fun t2 =>
  some (!t2))) : Option Bool).bind (fun b1 =>
  (if b1 = true then
  some (0, 7)
  else
  (flag_distance a0 a1).bind (fun t3 =>
  some (t3, 0)))))

def noongunref07_distance (a0 : Int) (a1 : Int) : Option (Int) :=
  (noongunref07_digitsOf a0).bind (fun t1 =>
  (noongunref07_digitsOf a1).bind (fun t2 =>
  (if (((t1.length : Nat) : Int) != ((t2.length : Nat) : Int)) = true then
  some 4
  else
  ((
    rangeN (S := Int) (X := Int) (fun ik1 z2 =>
      ((
        (idx t1 (ik1 : Int)).bind (fun x1 =>
        (idx t2 (ik1 : Int)).bind (fun x2 =>
        ((
          (if (x1 != x2) = true then
            (addI z2 1).bind (fun t3 =>
            some t3)
          else
            some z2)) : Option (Int)).bind (fun s3 =>
        some s3)))) : Option (Int)).bind (fun s2 =>
      some (Step.cont s2))) (fun z2 => z2) (Int.toNat ((t1.length : Nat) : Int)) 0 0) : Option (Int)).bind (fun s1 =>
  some s1))))

def noongunref07_Distance (a0 : Int) (a1 : Int) : Option (Int × Int) :=
  (if ((((decide (a0 < 0)) || (decide (9999 < a0))) || (decide (a1 < 0))) || (decide (9999 < a1))) = true then
  some (0, 7)
  else
  (noongunref07_distance a0 a1).bind (fun t1 =>
  some (t1, 0)))

noncomputable def noongunlaw07_FlagDigits (a0 : (List Int)) (a1 : Int) (a2 : Int) : Option (Bool) :=
  (if (decide (100 < ((a0.length : Nat) : Int))) = true then
  (noongunlaw07_awake ).bind (fun t1 =>
  some t1)
  else
  (flag_Digits a1).bind (fun o => match o with
    | (t2, t3) =>
      (noongunref07_Digits a1).bind (fun o => match o with
        | (t4, t5) =>
          (flag_Number a0).bind (fun o => match o with
            | (t6, t7) =>
              (noongunref07_Number a0).bind (fun o => match o with
                | (t8, t9) =>
                  (flag_Turned a0).bind (fun o => match o with
                    | (t10, t11) =>
                      (noongunref07_Turned a0).bind (fun o => match o with
                        | (t12, t13) =>
                          (flag_Distance a1 a2).bind (fun o => match o with
                            | (t14, t15) =>
                              (noongunref07_Distance a1 a2).bind (fun o => match o with
                                | (t16, t17) =>
                                  (noongunref07_SameInts t2 t4).bind (fun t18 =>
                                  ((if ((((!t18) || (t3 != t5)) || (t6 != t8)) || (t7 != t9)) = true then
                                    some true
                                  else
                                    (noongunref07_SameInts t10 t12).bind (fun t19 =>
                                    some (!t19))) : Option Bool).bind (fun b1 =>
                                  (if (((b1 || (t11 != t13)) || (t14 != t16)) || (t15 != t17)) = true then
                                    some false
                                  else
                                    ((
                                      (if (t3 == 0) = true then
                                        (flag_Number t2).bind (fun o => match o with
                                          | (t20, t21) =>
                                            (if ((t21 != 0) || (t20 != a1)) = true then
                                              some (Ctl.ret false)
                                            else
                                              some (Ctl.next ())))
                                      else
                                        some (Ctl.next ()))) : Option (Ctl (Unit) (Bool))).bind (fun o => match o with
                                      | .next _ =>
                                        ((
                                          (if (t15 == 0) = true then
                                            (flag_Distance a2 a1).bind (fun o => match o with
                                              | (t22, t23) =>
                                                (if (((t23 != 0) || (t22 != t14)) || ((t14 == 0) != (a1 == a2))) = true then
                                                  some (Ctl.ret false)
                                                else
                                                  some (Ctl.next ())))
                                          else
                                            some (Ctl.next ()))) : Option (Ctl (Unit) (Bool))).bind (fun o => match o with
                                          | .next _ =>
                                            (if (t11 != 0) = true then
                                              (noongunlaw07_awake ).bind (fun t24 =>
                                              some t24)
                                            else
                                              (flag_Turned t10).bind (fun o => match o with
                                                | (t25, t26) =>
                                                  ((if (t26 == 0) = true then
                                                    (noongunref07_SameInts t25 a0).bind (fun t27 =>
                                                    some t27)
                                                  else
                                                    some false) : Option Bool).bind (fun b2 =>
                                                  ((if b2 = true then
                                                    (noongunlaw07_awake ).bind (fun t28 =>
                                                    some t28)
                                                  else
                                                    some false) : Option Bool).bind (fun b3 =>
                                                  some b3))))
                                          | .ret r => some r
                                          | .exit _ _ => none)
                                      | .ret r => some r
                                      | .exit _ _ => none)))))))))))))

def noongunlaw07_fit (a0 : (List GMeaning)) : Option (Bool) :=
  ((
  rangeL (α := GMeaning) (S := Unit) (X := Ctl (Unit) (Bool)) (fun _   yk1 _ =>
    (if (decide (100 < ((yk1.Text.size : Nat) : Int))) = true then
      some (Step.done (Ctl.ret false))
    else
      some (Step.cont ()))) (fun _ => Ctl.next ()) a0 0 ()) : Option (Ctl (Unit) (Bool))).bind (fun o => match o with
  | .next _ =>
    some ((decide (((a0.length : Nat) : Int) ≤ 40)) || ((decide (200 ≤ ((a0.length : Nat) : Int))) && (decide (((a0.length : Nat) : Int) ≤ 203))))
  | .ret r => some r
  | .exit _ _ => none)

def flag_ValidBook_c1 (a0 : Int) : Option (Bool) :=
  some ((decide (a0 < 32)) || (decide (126 < a0)))

def runesL (s : ByteArray) : Nat → Nat → List (Nat × Nat)
  | 0, _ => []
  | n + 1, p => if p < s.size then (p, (Utf8.decode s p).1) :: runesL s n (p + (Utf8.decode s p).2) else []
def idxR (f : Int → Option Bool) (b : Bool) : List (Nat × Nat) → Option Int
  | [] => some (-1)
  | (p, r) :: l => (f (r : Int)).bind fun t => if (t == b) = true then some (p : Int) else idxR f b l
def strings_indexFunc (a0 : ByteArray) (a1 : Int → Option (Bool)) (a2 : Bool) : Option Int := if a0.size ≤ 1099511627776 then idxR a1 a2 (runesL a0 (a0.size + 1) 0) else none
theorem dec_w (s : ByteArray) (i : Nat) : 1 ≤ (Utf8.decode s i).2 := by
  unfold Utf8.decode
  simp only
  repeat' split
  all_goals simp

def strings_IndexFunc (a0 : ByteArray) (a1 : Int → Option (Bool)) : Option (Int) :=
  (strings_indexFunc a0 a1 true).bind (fun t1 =>
  some t1)

def strings_ContainsFunc (a0 : ByteArray) (a1 : Int → Option (Bool)) : Option (Bool) :=
  (strings_IndexFunc a0 a1).bind (fun t1 =>
  some (decide (0 ≤ t1)))

def flag_ValidBook (a0 : (List GMeaning)) : Option (Bool) :=
  ((
  rangeN (S := Unit) (X := Ctl (Unit) (Bool)) (fun ik1 _ =>
    (idx a0 (ik1 : Int)).bind (fun x1 =>
    (flag_isNumber x1.Number).bind (fun t1 =>
    ((if (!t1) = true then
      some true
    else
      ((if (decide (0 < (ik1 : Int))) = true then
        (subI (ik1 : Int) 1).bind (fun t2 =>
        (idx a0 t2).bind (fun x2 =>
        some (decide (x1.Number ≤ x2.Number))))
      else
        some false) : Option Bool).bind (fun b3 =>
      some b3)) : Option Bool).bind (fun b2 =>
    ((if b2 = true then
      some true
    else
      (flag_within ((x1.Text.size : Nat) : Int) 1 60).bind (fun t3 =>
      some (!t3))) : Option Bool).bind (fun b4 =>
    ((if b4 = true then
      some true
    else
      (strings_ContainsFunc x1.Text (fun x0 => flag_ValidBook_c1 x0)).bind (fun t4 =>
      some t4)) : Option Bool).bind (fun b5 =>
    (if b5 = true then
      some (Step.done (Ctl.ret false))
    else
      some (Step.cont ())))))))) (fun _ => Ctl.next ()) (Int.toNat ((a0.length : Nat) : Int)) 0 ()) : Option (Ctl (Unit) (Bool))).bind (fun o => match o with
  | .next _ =>
    some (decide (((a0.length : Nat) : Int) ≤ 200))
  | .ret r => some r
  | .exit _ _ => none)

def flag_texts (a0 : (List GMeaning)) : Option ((List (Int × ByteArray))) :=
  ((
  rangeL (α := GMeaning) (S := (List (Int × ByteArray))) (X := (List (Int × ByteArray))) (fun _   yk1 z2 =>
    some (Step.cont (mput z2 yk1.Number yk1.Text))) (fun z2 => z2) a0 0 ([] : List (Int × ByteArray))) : Option ((List (Int × ByteArray)))).bind (fun s1 =>
  some s1)

def slices_Equal_int (a0 : (List Int)) (a1 : (List Int)) : Option (Bool) :=
  (if (((a0.length : Nat) : Int) != ((a1.length : Nat) : Int)) = true then
  some false
  else
  ((
    rangeN (S := Unit) (X := Ctl (Unit) (Bool)) (fun ik1 _ =>
      (idx a0 (ik1 : Int)).bind (fun x1 =>
      (idx a1 (ik1 : Int)).bind (fun x2 =>
      (if (x1 != x2) = true then
        some (Step.done (Ctl.ret false))
      else
        some (Step.cont ()))))) (fun _ => Ctl.next ()) (Int.toNat ((a0.length : Nat) : Int)) 0 ()) : Option (Ctl (Unit) (Bool))).bind (fun o => match o with
    | .next _ =>
      some true
    | .ret r => some r
    | .exit _ _ => none))

def flag_Look (a0 : (List GMeaning)) (a1 : (List Int)) : Option (ByteArray × Int) :=
  (flag_ValidBook a0).bind (fun t1 =>
  ((if (!t1) = true then
  some true
  else
  (flag_ValidHoist a1).bind (fun t2 =>
  some (!t2))) : Option Bool).bind (fun b1 =>
  (if b1 = true then
  some ((bs []), 1)
  else
  (flag_means a1).bind (fun t3 =>
  (flag_texts a0).bind (fun t4 =>
  (flag_number t3).bind (fun t5 =>
  ((if (!(mget t4 t5).isSome) = true then
    some true
  else
    (flag_number t3).bind (fun t6 =>
    (flag_digitsOf t6).bind (fun t7 =>
    (slices_Equal_int t3 t7).bind (fun t8 =>
    some (!t8))))) : Option Bool).bind (fun b2 =>
  (if b2 = true then
    some ((bs []), 8)
  else
    some (((mget t4 t5).getD ByteArray.empty), 0)))))))))

def noongunref07_meaning (a0 : GMeaning) : Option (Bool) :=
  ((
  chkI ((a0.Text.size : Nat) : Int) (rangeN (S := Unit) (X := Ctl (Unit) (Bool)) (fun ik1 _ =>
    (idx (bytes a0.Text) (ik1 : Int)).bind (fun x1 =>
    ((if (decide ((x1.toNat : Int) < 32)) = true then
      some true
    else
      (idx (bytes a0.Text) (ik1 : Int)).bind (fun x2 =>
      some (decide (126 < (x2.toNat : Int))))) : Option Bool).bind (fun b2 =>
    (if b2 = true then
      some (Step.done (Ctl.ret false))
    else
      some (Step.cont ()))))) (fun _ => Ctl.next ()) (Int.toNat ((a0.Text.size : Nat) : Int)) 0 ())) : Option (Ctl (Unit) (Bool))).bind (fun o => match o with
  | .next _ =>
    some ((((decide (0 ≤ a0.Number)) && (decide (a0.Number ≤ 9999))) && (decide (1 ≤ ((a0.Text.size : Nat) : Int)))) && (decide (((a0.Text.size : Nat) : Int) ≤ 60)))
  | .ret r => some r
  | .exit _ _ => none)

def noongunref07_ValidBook (a0 : (List GMeaning)) : Option (Bool) :=
  ((
  rangeN (S := Unit) (X := Ctl (Unit) (Bool)) (fun ik1 _ =>
    (idx a0 (ik1 : Int)).bind (fun x1 =>
    (noongunref07_meaning x1).bind (fun t1 =>
    ((if (!t1) = true then
      some true
    else
      ((if (decide (0 < (ik1 : Int))) = true then
        (subI (ik1 : Int) 1).bind (fun t2 =>
        (idx a0 t2).bind (fun x2 =>
        some (decide (x1.Number ≤ x2.Number))))
      else
        some false) : Option Bool).bind (fun b3 =>
      some b3)) : Option Bool).bind (fun b2 =>
    (if b2 = true then
      some (Step.done (Ctl.ret false))
    else
      some (Step.cont ())))))) (fun _ => Ctl.next ()) (Int.toNat ((a0.length : Nat) : Int)) 0 ()) : Option (Ctl (Unit) (Bool))).bind (fun o => match o with
  | .next _ =>
    some (decide (((a0.length : Nat) : Int) ≤ 200))
  | .ret r => some r
  | .exit _ _ => none)

def noongunref07_ValidHoist (a0 : (List Int)) : Option (Bool) :=
  ((
  rangeN (S := Unit) (X := Ctl (Unit) (Bool)) (fun ik1 _ =>
    ((
      (idx a0 (ik1 : Int)).bind (fun x1 =>
      ((if ((decide (x1 < 0)) || (decide (13 ≤ x1))) = true then
        some true
      else
        (subI x1 10).bind (fun t1 =>
        some (decide ((ik1 : Int) ≤ t1)))) : Option Bool).bind (fun b1 =>
      (if b1 = true then
        some (Ctl.ret false)
      else
        (cutI a0 0 (ik1 : Int)).bind (fun t2 =>
        ((
          rangeL (α := Int) (S := Unit) (X := Ctl (Unit) (Bool)) (fun _   yk2 _ =>
            (if (x1 == yk2) = true then
              some (Step.done (Ctl.ret false))
            else
              some (Step.cont ()))) (fun _ => Ctl.next ()) t2 0 ()) : Option (Ctl (Unit) (Bool))).bind (fun o => match o with
          | .next _ =>
            some (Ctl.next ())
          | .ret r => some (Ctl.ret r)
          | .exit _ _ => none)))))) : Option (Ctl (Unit) (Bool))).bind (fun o => match o with
      | .next _ =>
        some (Step.cont ())
      | .ret r => some (Step.done (Ctl.ret r))
      | .exit _ _ => none)) (fun _ => Ctl.next ()) (Int.toNat ((a0.length : Nat) : Int)) 0 ()) : Option (Ctl (Unit) (Bool))).bind (fun o => match o with
  | .next _ =>
    some ((decide (1 ≤ ((a0.length : Nat) : Int))) && (decide (((a0.length : Nat) : Int) ≤ 4)))
  | .ret r => some r
  | .exit _ _ => none)

def noongunref07_means (a0 : (List Int)) : Option ((List Int)) :=
  ((
  rangeL (α := Int) (S := (List Int)) (X := (List Int)) (fun _   yk1 z2 =>
    ((
      ((
        (if (decide (10 ≤ yk1)) = true then
          (subI yk1 10).bind (fun t1 =>
          (idx z2 t1).bind (fun x1 =>
          some x1))
        else
          some yk1)) : Option (Int)).bind (fun s3 =>
      (appI z2 ([s3] : List Int)).bind (fun t2 =>
      some t2))) : Option ((List Int))).bind (fun s2 =>
    some (Step.cont s2))) (fun z2 => z2) a0 0 ([] : List Int)) : Option ((List Int))).bind (fun s1 =>
  some s1)

def noongunref07_Look (a0 : (List GMeaning)) (a1 : (List Int)) : Option (ByteArray × Int) :=
  (noongunref07_ValidBook a0).bind (fun t1 =>
  ((if (!t1) = true then
  some true
  else
  (noongunref07_ValidHoist a1).bind (fun t2 =>
  some (!t2))) : Option Bool).bind (fun b1 =>
  (if b1 = true then
  some ((bs []), 1)
  else
  ((
    rangeL (α := GMeaning) (S := Unit) (X := Ctl (Unit) (ByteArray × Int)) (fun _   yk1 _ =>
      (noongunref07_digitsOf yk1.Number).bind (fun t3 =>
      (noongunref07_means a1).bind (fun t4 =>
      (noongunref07_SameInts t3 t4).bind (fun t5 =>
      (if t5 = true then
        some (Step.done (Ctl.ret (yk1.Text, 0)))
      else
        some (Step.cont ())))))) (fun _ => Ctl.next ()) a0 0 ()) : Option (Ctl (Unit) (ByteArray × Int))).bind (fun o => match o with
    | .next _ =>
      some ((bs []), 8)
    | .ret r => some r
    | .exit _ _ => none))))

def flag_Find_c1 (a0 : GMeaning) (c0 : ByteArray) : Option (Bool) :=
  some (decide (a0.Text = c0))

def slices_IndexFunc_Meaning (a0 : (List GMeaning)) (a1 : GMeaning → Option (Bool)) : Option (Int) :=
  ((
  rangeN (S := Unit) (X := Ctl (Unit) (Int)) (fun ik1 _ =>
    (idx a0 (ik1 : Int)).bind (fun x1 =>
    (a1 x1).bind (fun t1 =>
    (if t1 = true then
      some (Step.done (Ctl.ret (ik1 : Int)))
    else
      some (Step.cont ()))))) (fun _ => Ctl.next ()) (Int.toNat ((a0.length : Nat) : Int)) 0 ()) : Option (Ctl (Unit) (Int))).bind (fun o => match o with
  | .next _ =>
    some (-1)
  | .ret r => some r
  | .exit _ _ => none)

def flag_Find (a0 : (List GMeaning)) (a1 : ByteArray) : Option (Int × Int) :=
  (flag_ValidBook a0).bind (fun t1 =>
  (if (!t1) = true then
  some (0, 1)
  else
  (slices_IndexFunc_Meaning a0 (fun x0 => flag_Find_c1 x0 a1)).bind (fun t2 =>
  (if (decide (t2 < 0)) = true then
    some (0, 8)
  else
    (idx a0 t2).bind (fun x1 =>
    some (x1.Number, 0))))))

def noongunref07_Find (a0 : (List GMeaning)) (a1 : ByteArray) : Option (Int × Int) :=
  (noongunref07_ValidBook a0).bind (fun t1 =>
  (if (!t1) = true then
  some (0, 1)
  else
  ((
    rangeL (α := GMeaning) (S := Unit) (X := Ctl (Unit) (Int × Int)) (fun _   yk1 _ =>
      (if (decide (yk1.Text = a1)) = true then
        some (Step.done (Ctl.ret (yk1.Number, 0)))
      else
        some (Step.cont ()))) (fun _ => Ctl.next ()) a0 0 ()) : Option (Ctl (Unit) (Int × Int))).bind (fun o => match o with
    | .next _ =>
      some (0, 8)
    | .ret r => some r
    | .exit _ _ => none)))

noncomputable def noongunlaw07_FlagBooks (a0 : (List GMeaning)) (a1 : (List Int)) (a2 : ByteArray) : Option (Bool) :=
  (noongunlaw07_fit a0).bind (fun t1 =>
  (if (((!t1) || (decide (100 < ((a1.length : Nat) : Int)))) || (decide (1000 < ((a2.size : Nat) : Int)))) = true then
  (noongunlaw07_awake ).bind (fun t2 =>
  some t2)
  else
  (flag_Look a0 a1).bind (fun o => match o with
    | (t3, t4) =>
      (noongunref07_Look a0 a1).bind (fun o => match o with
        | (t5, t6) =>
          (flag_Find a0 a2).bind (fun o => match o with
            | (t7, t8) =>
              (noongunref07_Find a0 a2).bind (fun o => match o with
                | (t9, t10) =>
                  (flag_ValidBook a0).bind (fun t11 =>
                  (noongunref07_ValidBook a0).bind (fun t12 =>
                  (if (((((t11 != t12) || (!(decide (t3 = t5)))) || (t4 != t6)) || (t7 != t9)) || (t8 != t10)) = true then
                    some false
                  else
                    (flag_ValidBook a0).bind (fun t13 =>
                    (if ((!t13) || (decide (40 < ((a0.length : Nat) : Int)))) = true then
                      (noongunlaw07_awake ).bind (fun t14 =>
                      some t14)
                    else
                      ((
                        rangeL (α := GMeaning) (S := Unit) (X := Ctl (Unit) (Bool)) (fun _   yk1 _ =>
                          (flag_Digits yk1.Number).bind (fun o => match o with
                            | (t15, t16) =>
                              (flag_Hoist t15).bind (fun o => match o with
                                | (t17, t18) =>
                                  (flag_Look a0 t17).bind (fun o => match o with
                                    | (t19, t20) =>
                                      (if ((((t16 != 0) || (t18 != 0)) || (t20 != 0)) || (!(decide (t19 = yk1.Text)))) = true then
                                        some (Step.done (Ctl.ret false))
                                      else
                                        some (Step.cont ())))))) (fun _ => Ctl.next ()) a0 0 ()) : Option (Ctl (Unit) (Bool))).bind (fun o => match o with
                        | .next _ =>
                          (noongunlaw07_awake ).bind (fun t21 =>
                          some t21)
                        | .ret r => some r
                        | .exit _ _ => none))))))))))))

end Go.Fw
