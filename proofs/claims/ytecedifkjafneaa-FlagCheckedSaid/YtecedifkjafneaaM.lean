/-
  What the functions compute, as functions of the values: written by a program from the functions. No condition.
-/
import Derived.Test.YtecedifkjafneaaFwJ
import Derived.Test.YtecedifkjafneaaFwM
namespace Go.Fw


def flag_within (a0 : Int) (a1 : Int) (a2 : Int) : Option (Bool) :=
  some ((decide (a1 ≤ a0)) && (decide (a0 ≤ a2)))

def flag_listed_c1 (a0 : Int) (c0 : Int) : Option (Bool) :=
  (flag_within a0 0 c0).bind (fun t1 =>
  some (!t1))

def slices_IndexFunc_int (a0 : (List Int)) (a1 : Int → Option (Bool)) : Option (Int) :=
  ((
  rangeN (S := Unit) (X := Ctl (Unit) (Int)) (fun ik1 _ =>
    (idx a0 (ik1 : Int)).bind (fun x1 =>
    (a1 x1).bind (fun t1 =>
    (if t1 = true then
      some (Step.done (Ctl.ret (ik1 : Int)))
    else
      some (Step.cont ()))))) (fun _ => Ctl.next ()) (Int.toNat ((a0.length : Nat) : Int)) 0 ()) : Option (Ctl (Unit) (Int))).bind (fun o => match o with
  | .next _ =>
    some (-1)
  | .ret r => some r
  | .exit _ _ => none)

def slices_ContainsFunc_int (a0 : (List Int)) (a1 : Int → Option (Bool)) : Option (Bool) :=
  (slices_IndexFunc_int a0 a1).bind (fun t1 =>
  some (decide (0 ≤ t1)))

def flag_listed (a0 : (List Int)) (a1 : Int) : Option (Bool) :=
  (flag_within ((a0.length : Nat) : Int) 1 4).bind (fun t1 =>
  ((if t1 = true then
  (slices_ContainsFunc_int a0 (fun x0 => flag_listed_c1 x0 a1)).bind (fun t2 =>
  some (!t2))
  else
  some false) : Option Bool).bind (fun b2 =>
  some b2))

def flag_ValidDigits (a0 : (List Int)) : Option (Bool) :=
  (flag_listed a0 9).bind (fun t1 =>
  some t1)

def slices_Index_int (a0 : (List Int)) (a1 : Int) : Option (Int) :=
  ((
  rangeN (S := Unit) (X := Ctl (Unit) (Int)) (fun ik1 _ =>
    (idx a0 (ik1 : Int)).bind (fun x1 =>
    (if (a1 == x1) = true then
      some (Step.done (Ctl.ret (ik1 : Int)))
    else
      some (Step.cont ())))) (fun _ => Ctl.next ()) (Int.toNat ((a0.length : Nat) : Int)) 0 ()) : Option (Ctl (Unit) (Int))).bind (fun o => match o with
  | .next _ =>
    some (-1)
  | .ret r => some r
  | .exit _ _ => none)

def slices_Contains_int (a0 : (List Int)) (a1 : Int) : Option (Bool) :=
  (slices_Index_int a0 a1).bind (fun t1 =>
  some (decide (0 ≤ t1)))

def flag_place (a0 : Int) : Option (Int) :=
  (subI a0 10).bind (fun t1 =>
  some t1)

noncomputable def flag_Hoist (a0 : (List Int)) : Option ((List Int) × Int) :=
  (flag_ValidDigits a0).bind (fun t1 =>
  (if (!t1) = true then
  some (([] : List Int), 1)
  else
  ((
    rangeN (S := (List Int)) (X := (List Int)) (fun ik1 z2 =>
      ((
        (idx a0 (ik1 : Int)).bind (fun x1 =>
        (slices_Contains_int z2 x1).bind (fun t2 =>
        ((
          (if t2 = true then
            ((
              loopR (S := Int) (X := Int) (fun (z5 : Int) =>
                (slices_Contains_int z2 z5).bind (fun t3 =>
                ((if t3 = true then
                  some true
                else
                  (flag_place z5).bind (fun t4 =>
                  some (decide ((ik1 : Int) ≤ t4)))) : Option Bool).bind (fun b1 =>
                ((if b1 = true then
                  some true
                else
                  (flag_place z5).bind (fun t5 =>
                  (idx a0 t5).bind (fun x2 =>
                  some (x2 != x1)))) : Option Bool).bind (fun b2 =>
                (if b2 = true then
                  (addI z5 1).bind (fun t6 =>
                  some (Step.cont t6))
                else
                  some (Step.done z5)))))) 10) : Option (Int)).bind (fun s4 =>
            some s4)
          else
            some x1)) : Option (Int)).bind (fun s3 =>
        (appI z2 ([s3] : List Int)).bind (fun t7 =>
        some t7))))) : Option ((List Int))).bind (fun s2 =>
      some (Step.cont s2))) (fun z2 => z2) (Int.toNat ((a0.length : Nat) : Int)) 0 ([] : List Int)) : Option ((List Int))).bind (fun s1 =>
  some (s1, 0))))

def flag_ValidHoist (a0 : (List Int)) : Option (Bool) :=
  (flag_listed a0 12).bind (fun t1 =>
  (if (!t1) = true then
  some false
  else
  ((
    rangeN (S := Unit) (X := Ctl (Unit) (Bool)) (fun ik1 _ =>
      (idx a0 (ik1 : Int)).bind (fun x1 =>
      (cutI a0 0 (ik1 : Int)).bind (fun t2 =>
      (slices_Contains_int t2 x1).bind (fun t3 =>
      ((if t3 = true then
        some true
      else
        ((if (decide (10 ≤ x1)) = true then
          (flag_place x1).bind (fun t4 =>
          some (decide ((ik1 : Int) ≤ t4)))
        else
          some false) : Option Bool).bind (fun b2 =>
        some b2)) : Option Bool).bind (fun b1 =>
      (if b1 = true then
        some (Step.done (Ctl.ret false))
      else
        some (Step.cont ()))))))) (fun _ => Ctl.next ()) (Int.toNat ((a0.length : Nat) : Int)) 0 ()) : Option (Ctl (Unit) (Bool))).bind (fun o => match o with
    | .next _ =>
      some true
    | .ret r => some r
    | .exit _ _ => none)))

def flag_means (a0 : (List Int)) : Option ((List Int)) :=
  ((
  rangeL (α := Int) (S := (List Int)) (X := (List Int)) (fun _   yk1 z2 =>
    ((
      ((
        (if (decide (10 ≤ yk1)) = true then
          (flag_place yk1).bind (fun t1 =>
          (idx z2 t1).bind (fun x1 =>
          some x1))
        else
          some yk1)) : Option (Int)).bind (fun s3 =>
      (appI z2 ([s3] : List Int)).bind (fun t2 =>
      some t2))) : Option ((List Int))).bind (fun s2 =>
    some (Step.cont s2))) (fun z2 => z2) a0 0 ([] : List Int)) : Option ((List Int))).bind (fun s1 =>
  some s1)

def flag_Means (a0 : (List Int)) : Option ((List Int) × Int) :=
  (flag_ValidHoist a0).bind (fun t1 =>
  (if (!t1) = true then
  some (([] : List Int), 1)
  else
  (flag_means a0).bind (fun t2 =>
  some (t2, 0))))

def noongunref07_SameInts (a0 : (List Int)) (a1 : (List Int)) : Option (Bool) :=
  (if (((a0.length : Nat) : Int) != ((a1.length : Nat) : Int)) = true then
  some false
  else
  ((
    rangeN (S := Unit) (X := Ctl (Unit) (Bool)) (fun ik1 _ =>
      (idx a0 (ik1 : Int)).bind (fun x1 =>
      (idx a1 (ik1 : Int)).bind (fun x2 =>
      (if (x1 != x2) = true then
        some (Step.done (Ctl.ret false))
      else
        some (Step.cont ()))))) (fun _ => Ctl.next ()) (Int.toNat ((a0.length : Nat) : Int)) 0 ()) : Option (Ctl (Unit) (Bool))).bind (fun o => match o with
    | .next _ =>
      some true
    | .ret r => some r
    | .exit _ _ => none))

noncomputable def noongunlaw07_awake  : Option (Bool) :=
  (flag_Hoist ([1, 2, 1, 1] : List Int)).bind (fun o => match o with
  | (t1, t2) =>
    (flag_Means ([1, 2, 10, 12] : List Int)).bind (fun o => match o with
      | (t3, t4) =>
        ((if (t2 == 0) = true then
          (noongunref07_SameInts t1 ([1, 2, 10, 12] : List Int)).bind (fun t5 =>
          some t5)
        else
          some false) : Option Bool).bind (fun b1 =>
        ((if (b1 && (t4 == 0)) = true then
          (noongunref07_SameInts t3 ([1, 2, 1, 1] : List Int)).bind (fun t6 =>
          some t6)
        else
          some false) : Option Bool).bind (fun b2 =>
        some b2))))

def noongunref07_ValidHoist (a0 : (List Int)) : Option (Bool) :=
  ((
  rangeN (S := Unit) (X := Ctl (Unit) (Bool)) (fun ik1 _ =>
    ((
      (idx a0 (ik1 : Int)).bind (fun x1 =>
      ((if ((decide (x1 < 0)) || (decide (13 ≤ x1))) = true then
        some true
      else
        (subI x1 10).bind (fun t1 =>
        some (decide ((ik1 : Int) ≤ t1)))) : Option Bool).bind (fun b1 =>
      (if b1 = true then
        some (Ctl.ret false)
      else
        (cutI a0 0 (ik1 : Int)).bind (fun t2 =>
        ((
          rangeL (α := Int) (S := Unit) (X := Ctl (Unit) (Bool)) (fun _   yk2 _ =>
            (if (x1 == yk2) = true then
              some (Step.done (Ctl.ret false))
            else
              some (Step.cont ()))) (fun _ => Ctl.next ()) t2 0 ()) : Option (Ctl (Unit) (Bool))).bind (fun o => match o with
          | .next _ =>
            some (Ctl.next ())
          | .ret r => some (Ctl.ret r)
          | .exit _ _ => none)))))) : Option (Ctl (Unit) (Bool))).bind (fun o => match o with
      | .next _ =>
        some (Step.cont ())
      | .ret r => some (Step.done (Ctl.ret r))
      | .exit _ _ => none)) (fun _ => Ctl.next ()) (Int.toNat ((a0.length : Nat) : Int)) 0 ()) : Option (Ctl (Unit) (Bool))).bind (fun o => match o with
  | .next _ =>
    some ((decide (1 ≤ ((a0.length : Nat) : Int))) && (decide (((a0.length : Nat) : Int) ≤ 4)))
  | .ret r => some r
  | .exit _ _ => none)

def noongunref07_means (a0 : (List Int)) : Option ((List Int)) :=
  ((
  rangeL (α := Int) (S := (List Int)) (X := (List Int)) (fun _   yk1 z2 =>
    ((
      ((
        (if (decide (10 ≤ yk1)) = true then
          (subI yk1 10).bind (fun t1 =>
          (idx z2 t1).bind (fun x1 =>
          some x1))
        else
          some yk1)) : Option (Int)).bind (fun s3 =>
      (appI z2 ([s3] : List Int)).bind (fun t2 =>
      some t2))) : Option ((List Int))).bind (fun s2 =>
    some (Step.cont s2))) (fun z2 => z2) a0 0 ([] : List Int)) : Option ((List Int))).bind (fun s1 =>
  some s1)

def noongunref07_Means (a0 : (List Int)) : Option ((List Int) × Int) :=
  (noongunref07_ValidHoist a0).bind (fun t1 =>
  (if (!t1) = true then
  some (([] : List Int), 1)
  else
  (noongunref07_means a0).bind (fun t2 =>
  some (t2, 0))))

def flag_Flags (a0 : (List Int)) : Option (Int × Int) :=
  (flag_ValidHoist a0).bind (fun t1 =>
  (if (!t1) = true then
  some (0, 1)
  else
  ((
    rangeL (α := Int) (S := Int) (X := Int) (fun _   yk1 z2 =>
      (shlI 1 yk1).bind (fun t2 =>
      some (Step.cont (bits .or .i64 z2 t2)))) (fun z2 => z2) a0 0 0) : Option (Int)).bind (fun s1 =>
  some (s1, 0))))

def noongunref07_Flags (a0 : (List Int)) : Option (Int × Int) :=
  (noongunref07_ValidHoist a0).bind (fun t1 =>
  (if (!t1) = true then
  some (0, 1)
  else
  ((
    rangeL (α := Int) (S := Int) (X := Int) (fun _   yk1 z2 =>
      (shlI 1 yk1).bind (fun t2 =>
      some (Step.cont (bits .or .i64 z2 t2)))) (fun z2 => z2) a0 0 0) : Option (Int)).bind (fun s1 =>
  some (s1, 0))))

def noongunref07_ValidDigits (a0 : (List Int)) : Option (Bool) :=
  ((
  rangeL (α := Int) (S := Unit) (X := Ctl (Unit) (Bool)) (fun _   yk1 _ =>
    (if ((decide (yk1 < 0)) || (decide (9 < yk1))) = true then
      some (Step.done (Ctl.ret false))
    else
      some (Step.cont ()))) (fun _ => Ctl.next ()) a0 0 ()) : Option (Ctl (Unit) (Bool))).bind (fun o => match o with
  | .next _ =>
    some ((decide (1 ≤ ((a0.length : Nat) : Int))) && (decide (((a0.length : Nat) : Int) ≤ 4)))
  | .ret r => some r
  | .exit _ _ => none)

noncomputable def noongunlaw07_FlagMeans (a0 : (List Int)) (a1 : (List Int)) : Option (Bool) :=
  (if ((decide (100 < ((a0.length : Nat) : Int))) || (decide (100 < ((a1.length : Nat) : Int)))) = true then
  (noongunlaw07_awake ).bind (fun t1 =>
  some t1)
  else
  (flag_Means a1).bind (fun o => match o with
    | (t2, t3) =>
      (noongunref07_Means a1).bind (fun o => match o with
        | (t4, t5) =>
          (flag_Flags a1).bind (fun o => match o with
            | (t6, t7) =>
              (noongunref07_Flags a1).bind (fun o => match o with
                | (t8, t9) =>
                  (flag_ValidDigits a0).bind (fun t10 =>
                  (noongunref07_ValidDigits a0).bind (fun t11 =>
                  ((if (t10 == t11) = true then
                    (flag_ValidHoist a1).bind (fun t12 =>
                    (noongunref07_ValidHoist a1).bind (fun t13 =>
                    some (t12 == t13)))
                  else
                    some false) : Option Bool).bind (fun b1 =>
                  ((if b1 = true then
                    (noongunref07_SameInts t2 t4).bind (fun t14 =>
                    some t14)
                  else
                    some false) : Option Bool).bind (fun b2 =>
                  ((if (((b2 && (t3 == t5)) && (t6 == t8)) && (t7 == t9)) = true then
                    (noongunlaw07_awake ).bind (fun t15 =>
                    some t15)
                  else
                    some false) : Option Bool).bind (fun b3 =>
                  some b3))))))))))

def slices_Clone_int (a0 : (List Int)) : Option ((List Int)) :=
  (appI ([] : List Int) a0).bind (fun t1 =>
  some t1)

def flag_rest (a0 : (List Int)) : Option (Int) :=
  ((
  rangeL (α := Int) (S := Int) (X := Int) (fun _   yk1 z2 =>
    (addI z2 yk1).bind (fun t1 =>
    some (Step.cont t1))) (fun z2 => z2) a0 0 0) : Option (Int)).bind (fun s1 =>
  (remI s1 10).bind (fun t2 =>
  some t2))

def flag_Checked (a0 : (List Int)) : Option ((List Int) × Int) :=
  (flag_ValidDigits a0).bind (fun t1 =>
  (if (!t1) = true then
  some (([] : List Int), 1)
  else
  (if (((a0.length : Nat) : Int) == 4) = true then
    some (([] : List Int), 7)
  else
    (slices_Clone_int a0).bind (fun t2 =>
    (flag_rest a0).bind (fun t3 =>
    (subI 10 t3).bind (fun t4 =>
    (remI t4 10).bind (fun t5 =>
    (appI t2 ([t5] : List Int)).bind (fun t6 =>
    some (t6, 0)))))))))

def noongunref07_sum (a0 : (List Int)) : Option (Int) :=
  ((
  rangeL (α := Int) (S := Int) (X := Int) (fun _   yk1 z2 =>
    (addI z2 yk1).bind (fun t1 =>
    some (Step.cont t1))) (fun z2 => z2) a0 0 0) : Option (Int)).bind (fun s1 =>
  some s1)

def noongunref07_Checked (a0 : (List Int)) : Option ((List Int) × Int) :=
  (noongunref07_ValidDigits a0).bind (fun t1 =>
  (if (!t1) = true then
  some (([] : List Int), 1)
  else
  (if (((a0.length : Nat) : Int) == 4) = true then
    some (([] : List Int), 7)
  else
    (appI ([] : List Int) a0).bind (fun t2 =>
    (noongunref07_sum a0).bind (fun t3 =>
    (remI t3 10).bind (fun t4 =>
    (subI 10 t4).bind (fun t5 =>
    (remI t5 10).bind (fun t6 =>
    (appI t2 ([t6] : List Int)).bind (fun t7 =>
    some (t7, 0))))))))))

def flag_Right (a0 : (List Int)) : Option (Bool × Int) :=
  (flag_ValidDigits a0).bind (fun t1 =>
  (if (!t1) = true then
  some (false, 1)
  else
  (flag_rest a0).bind (fun t2 =>
  some ((t2 == 0), 0))))

def noongunref07_Right (a0 : (List Int)) : Option (Bool × Int) :=
  (noongunref07_ValidDigits a0).bind (fun t1 =>
  (if (!t1) = true then
  some (false, 1)
  else
  (noongunref07_sum a0).bind (fun t2 =>
  (remI t2 10).bind (fun t3 =>
  some ((t3 == 0), 0)))))

noncomputable def noongunlaw07_FlagChecked (a0 : (List Int)) (a1 : Int) (a2 : Int) : Option (Bool) :=
  (if (decide (100 < ((a0.length : Nat) : Int))) = true then
  (noongunlaw07_awake ).bind (fun t1 =>
  some t1)
  else
  (flag_Checked a0).bind (fun o => match o with
    | (t2, t3) =>
      (noongunref07_Checked a0).bind (fun o => match o with
        | (t4, t5) =>
          (flag_Right a0).bind (fun o => match o with
            | (t6, t7) =>
              (noongunref07_Right a0).bind (fun o => match o with
                | (t8, t9) =>
                  (noongunref07_SameInts t2 t4).bind (fun t10 =>
                  (if ((((!t10) || (t3 != t5)) || (t6 != t8)) || (t7 != t9)) = true then
                    some false
                  else
                    (if (t3 != 0) = true then
                      (noongunlaw07_awake ).bind (fun t11 =>
                      some t11)
                    else
                      (flag_Right t2).bind (fun o => match o with
                        | (t12, t13) =>
                          (if ((t13 != 0) || (!t12)) = true then
                            some false
                          else
                            ((if ((((decide (a1 < 0)) || (decide (((t2.length : Nat) : Int) ≤ a1))) || (decide (a2 < 0))) || (decide (9 < a2))) = true then
                              some true
                            else
                              (idx t2 a1).bind (fun x1 =>
                              some (x1 == a2))) : Option Bool).bind (fun b1 =>
                            (if b1 = true then
                              (noongunlaw07_awake ).bind (fun t14 =>
                              some t14)
                            else
                              (appI ([] : List Int) t2).bind (fun t15 =>
                              (idx t15 a1).bind (fun _  =>
                              (flag_Right (t15.set (Int.toNat a1) a2)).bind (fun o => match o with
                                | (t16, t17) =>
                                  ((if ((t17 == 0) && (!t16)) = true then
                                    (noongunlaw07_awake ).bind (fun t18 =>
                                    some t18)
                                  else
                                    some false) : Option Bool).bind (fun b4 =>
                                  some b4))))))))))))))))

end Go.Fw
