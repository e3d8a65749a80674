/-
  What the functions compute, as functions of the values: written by a program from the functions. No condition.
-/
import Derived.Test.YtecedifkjafneaaFwJ
import Derived.Test.YtecedifkjafneaaFwT
namespace Go.Fw


def flag_within (a0 : Int) (a1 : Int) (a2 : Int) : Option (Bool) :=
  some ((decide (a1 ≤ a0)) && (decide (a0 ≤ a2)))

def flag_listed_c1 (a0 : Int) (c0 : Int) : Option (Bool) :=
  (flag_within a0 0 c0).bind (fun t1 =>
  some (!t1))

def slices_IndexFunc_int (a0 : (List Int)) (a1 : Int → Option (Bool)) : Option (Int) :=
  ((
  rangeN (S := Unit) (X := Ctl (Unit) (Int)) (fun ik1 _ =>
    (idx a0 (ik1 : Int)).bind (fun x1 =>
    (a1 x1).bind (fun t1 =>
    (if t1 = true then
      some (Step.done (Ctl.ret (ik1 : Int)))
    else
      some (Step.cont ()))))) (fun _ => Ctl.next ()) (Int.toNat ((a0.length : Nat) : Int)) 0 ()) : Option (Ctl (Unit) (Int))).bind (fun o => match o with
  | .next _ =>
    some (-1)
  | .ret r => some r
  | .exit _ _ => none)

def slices_ContainsFunc_int (a0 : (List Int)) (a1 : Int → Option (Bool)) : Option (Bool) :=
  (slices_IndexFunc_int a0 a1).bind (fun t1 =>
  some (decide (0 ≤ t1)))

def flag_listed (a0 : (List Int)) (a1 : Int) : Option (Bool) :=
  (flag_within ((a0.length : Nat) : Int) 1 4).bind (fun t1 =>
  ((if t1 = true then
  (slices_ContainsFunc_int a0 (fun x0 => flag_listed_c1 x0 a1)).bind (fun t2 =>
  some (!t2))
  else
  some false) : Option Bool).bind (fun b2 =>
  some b2))

def flag_ValidDigits (a0 : (List Int)) : Option (Bool) :=
  (flag_listed a0 9).bind (fun t1 =>
  some t1)

def slices_Index_int (a0 : (List Int)) (a1 : Int) : Option (Int) :=
  ((
  rangeN (S := Unit) (X := Ctl (Unit) (Int)) (fun ik1 _ =>
    (idx a0 (ik1 : Int)).bind (fun x1 =>
    (if (a1 == x1) = true then
      some (Step.done (Ctl.ret (ik1 : Int)))
    else
      some (Step.cont ())))) (fun _ => Ctl.next ()) (Int.toNat ((a0.length : Nat) : Int)) 0 ()) : Option (Ctl (Unit) (Int))).bind (fun o => match o with
  | .next _ =>
    some (-1)
  | .ret r => some r
  | .exit _ _ => none)

def slices_Contains_int (a0 : (List Int)) (a1 : Int) : Option (Bool) :=
  (slices_Index_int a0 a1).bind (fun t1 =>
  some (decide (0 ≤ t1)))

def flag_place (a0 : Int) : Option (Int) :=
  (subI a0 10).bind (fun t1 =>
  some t1)

noncomputable def flag_Hoist (a0 : (List Int)) : Option ((List Int) × Int) :=
  (flag_ValidDigits a0).bind (fun t1 =>
  (if (!t1) = true then
  some (([] : List Int), 1)
  else
  ((
    rangeN (S := (List Int)) (X := (List Int)) (fun ik1 z2 =>
      ((
        (idx a0 (ik1 : Int)).bind (fun x1 =>
        (slices_Contains_int z2 x1).bind (fun t2 =>
        ((
          (if t2 = true then
            ((
              loopR (S := Int) (X := Int) (fun (z5 : Int) =>
                (slices_Contains_int z2 z5).bind (fun t3 =>
                ((if t3 = true then
                  some true
                else
                  (flag_place z5).bind (fun t4 =>
                  some (decide ((ik1 : Int) ≤ t4)))) : Option Bool).bind (fun b1 =>
                ((if b1 = true then
                  some true
                else
                  (flag_place z5).bind (fun t5 =>
                  (idx a0 t5).bind (fun x2 =>
                  some (x2 != x1)))) : Option Bool).bind (fun b2 =>
                (if b2 = true then
                  (addI z5 1).bind (fun t6 =>
                  some (Step.cont t6))
                else
                  some (Step.done z5)))))) 10) : Option (Int)).bind (fun s4 =>
            some s4)
          else
            some x1)) : Option (Int)).bind (fun s3 =>
        (appI z2 ([s3] : List Int)).bind (fun t7 =>
        some t7))))) : Option ((List Int))).bind (fun s2 =>
      some (Step.cont s2))) (fun z2 => z2) (Int.toNat ((a0.length : Nat) : Int)) 0 ([] : List Int)) : Option ((List Int))).bind (fun s1 =>
  some (s1, 0))))

def flag_ValidHoist (a0 : (List Int)) : Option (Bool) :=
  (flag_listed a0 12).bind (fun t1 =>
  (if (!t1) = true then
  some false
  else
  ((
    rangeN (S := Unit) (X := Ctl (Unit) (Bool)) (fun ik1 _ =>
      (idx a0 (ik1 : Int)).bind (fun x1 =>
      (cutI a0 0 (ik1 : Int)).bind (fun t2 =>
      (slices_Contains_int t2 x1).bind (fun t3 =>
      ((if t3 = true then
        some true
      else
        ((if (decide (10 ≤ x1)) = true then
          (flag_place x1).bind (fun t4 =>
          some (decide ((ik1 : Int) ≤ t4)))
        else
          some false) : Option Bool).bind (fun b2 =>
        some b2)) : Option Bool).bind (fun b1 =>
      (if b1 = true then
        some (Step.done (Ctl.ret false))
      else
        some (Step.cont ()))))))) (fun _ => Ctl.next ()) (Int.toNat ((a0.length : Nat) : Int)) 0 ()) : Option (Ctl (Unit) (Bool))).bind (fun o => match o with
    | .next _ =>
      some true
    | .ret r => some r
    | .exit _ _ => none)))

def flag_means (a0 : (List Int)) : Option ((List Int)) :=
  ((
  rangeL (α := Int) (S := (List Int)) (X := (List Int)) (fun _   yk1 z2 =>
    ((
      ((
        (if (decide (10 ≤ yk1)) = true then
          (flag_place yk1).bind (fun t1 =>
          (idx z2 t1).bind (fun x1 =>
          some x1))
        else
          some yk1)) : Option (Int)).bind (fun s3 =>
      (appI z2 ([s3] : List Int)).bind (fun t2 =>
      some t2))) : Option ((List Int))).bind (fun s2 =>
    some (Step.cont s2))) (fun z2 => z2) a0 0 ([] : List Int)) : Option ((List Int))).bind (fun s1 =>
  some s1)

def flag_Means (a0 : (List Int)) : Option ((List Int) × Int) :=
  (flag_ValidHoist a0).bind (fun t1 =>
  (if (!t1) = true then
  some (([] : List Int), 1)
  else
  (flag_means a0).bind (fun t2 =>
  some (t2, 0))))

def noongunref07_SameInts (a0 : (List Int)) (a1 : (List Int)) : Option (Bool) :=
  (if (((a0.length : Nat) : Int) != ((a1.length : Nat) : Int)) = true then
  some false
  else
  ((
    rangeN (S := Unit) (X := Ctl (Unit) (Bool)) (fun ik1 _ =>
      (idx a0 (ik1 : Int)).bind (fun x1 =>
      (idx a1 (ik1 : Int)).bind (fun x2 =>
      (if (x1 != x2) = true then
        some (Step.done (Ctl.ret false))
      else
        some (Step.cont ()))))) (fun _ => Ctl.next ()) (Int.toNat ((a0.length : Nat) : Int)) 0 ()) : Option (Ctl (Unit) (Bool))).bind (fun o => match o with
    | .next _ =>
      some true
    | .ret r => some r
    | .exit _ _ => none))

noncomputable def noongunlaw07_awake  : Option (Bool) :=
  (flag_Hoist ([1, 2, 1, 1] : List Int)).bind (fun o => match o with
  | (t1, t2) =>
    (flag_Means ([1, 2, 10, 12] : List Int)).bind (fun o => match o with
      | (t3, t4) =>
        ((if (t2 == 0) = true then
          (noongunref07_SameInts t1 ([1, 2, 10, 12] : List Int)).bind (fun t5 =>
          some t5)
        else
          some false) : Option Bool).bind (fun b1 =>
        ((if (b1 && (t4 == 0)) = true then
          (noongunref07_SameInts t3 ([1, 2, 1, 1] : List Int)).bind (fun t6 =>
          some t6)
        else
          some false) : Option Bool).bind (fun b2 =>
        some b2))))

def noongunref07_ValidHoist (a0 : (List Int)) : Option (Bool) :=
  ((
  rangeN (S := Unit) (X := Ctl (Unit) (Bool)) (fun ik1 _ =>
    ((
      (idx a0 (ik1 : Int)).bind (fun x1 =>
      ((if ((decide (x1 < 0)) || (decide (13 ≤ x1))) = true then
        some true
      else
        (subI x1 10).bind (fun t1 =>
        some (decide ((ik1 : Int) ≤ t1)))) : Option Bool).bind (fun b1 =>
      (if b1 = true then
        some (Ctl.ret false)
      else
        (cutI a0 0 (ik1 : Int)).bind (fun t2 =>
        ((
          rangeL (α := Int) (S := Unit) (X := Ctl (Unit) (Bool)) (fun _   yk2 _ =>
            (if (x1 == yk2) = true then
              some (Step.done (Ctl.ret false))
            else
              some (Step.cont ()))) (fun _ => Ctl.next ()) t2 0 ()) : Option (Ctl (Unit) (Bool))).bind (fun o => match o with
          | .next _ =>
            some (Ctl.next ())
          | .ret r => some (Ctl.ret r)
          | .exit _ _ => none)))))) : Option (Ctl (Unit) (Bool))).bind (fun o => match o with
      | .next _ =>
        some (Step.cont ())
      | .ret r => some (Step.done (Ctl.ret r))
      | .exit _ _ => none)) (fun _ => Ctl.next ()) (Int.toNat ((a0.length : Nat) : Int)) 0 ()) : Option (Ctl (Unit) (Bool))).bind (fun o => match o with
  | .next _ =>
    some ((decide (1 ≤ ((a0.length : Nat) : Int))) && (decide (((a0.length : Nat) : Int) ≤ 4)))
  | .ret r => some r
  | .exit _ _ => none)

def noongunref07_means (a0 : (List Int)) : Option ((List Int)) :=
  ((
  rangeL (α := Int) (S := (List Int)) (X := (List Int)) (fun _   yk1 z2 =>
    ((
      ((
        (if (decide (10 ≤ yk1)) = true then
          (subI yk1 10).bind (fun t1 =>
          (idx z2 t1).bind (fun x1 =>
          some x1))
        else
          some yk1)) : Option (Int)).bind (fun s3 =>
      (appI z2 ([s3] : List Int)).bind (fun t2 =>
      some t2))) : Option ((List Int))).bind (fun s2 =>
    some (Step.cont s2))) (fun z2 => z2) a0 0 ([] : List Int)) : Option ((List Int))).bind (fun s1 =>
  some s1)

def noongunref07_Means (a0 : (List Int)) : Option ((List Int) × Int) :=
  (noongunref07_ValidHoist a0).bind (fun t1 =>
  (if (!t1) = true then
  some (([] : List Int), 1)
  else
  (noongunref07_means a0).bind (fun t2 =>
  some (t2, 0))))

def flag_Flags (a0 : (List Int)) : Option (Int × Int) :=
  (flag_ValidHoist a0).bind (fun t1 =>
  (if (!t1) = true then
  some (0, 1)
  else
  ((
    rangeL (α := Int) (S := Int) (X := Int) (fun _   yk1 z2 =>
      (shlI 1 yk1).bind (fun t2 =>
      some (Step.cont (bits .or .i64 z2 t2)))) (fun z2 => z2) a0 0 0) : Option (Int)).bind (fun s1 =>
  some (s1, 0))))

def noongunref07_Flags (a0 : (List Int)) : Option (Int × Int) :=
  (noongunref07_ValidHoist a0).bind (fun t1 =>
  (if (!t1) = true then
  some (0, 1)
  else
  ((
    rangeL (α := Int) (S := Int) (X := Int) (fun _   yk1 z2 =>
      (shlI 1 yk1).bind (fun t2 =>
      some (Step.cont (bits .or .i64 z2 t2)))) (fun z2 => z2) a0 0 0) : Option (Int)).bind (fun s1 =>
  some (s1, 0))))

def noongunref07_ValidDigits (a0 : (List Int)) : Option (Bool) :=
  ((
  rangeL (α := Int) (S := Unit) (X := Ctl (Unit) (Bool)) (fun _   yk1 _ =>
    (if ((decide (yk1 < 0)) || (decide (9 < yk1))) = true then
      some (Step.done (Ctl.ret false))
    else
      some (Step.cont ()))) (fun _ => Ctl.next ()) a0 0 ()) : Option (Ctl (Unit) (Bool))).bind (fun o => match o with
  | .next _ =>
    some ((decide (1 ≤ ((a0.length : Nat) : Int))) && (decide (((a0.length : Nat) : Int) ≤ 4)))
  | .ret r => some r
  | .exit _ _ => none)

noncomputable def noongunlaw07_FlagMeans (a0 : (List Int)) (a1 : (List Int)) : Option (Bool) :=
  (if ((decide (100 < ((a0.length : Nat) : Int))) || (decide (100 < ((a1.length : Nat) : Int)))) = true then
  (noongunlaw07_awake ).bind (fun t1 =>
  some t1)
  else
  (flag_Means a1).bind (fun o => match o with
    | (t2, t3) =>
      (noongunref07_Means a1).bind (fun o => match o with
        | (t4, t5) =>
          (flag_Flags a1).bind (fun o => match o with
            | (t6, t7) =>
              (noongunref07_Flags a1).bind (fun o => match o with
                | (t8, t9) =>
                  (flag_ValidDigits a0).bind (fun t10 =>
                  (noongunref07_ValidDigits a0).bind (fun t11 =>
                  ((if (t10 == t11) = true then
                    (flag_ValidHoist a1).bind (fun t12 =>
                    (noongunref07_ValidHoist a1).bind (fun t13 =>
                    some (t12 == t13)))
                  else
                    some false) : Option Bool).bind (fun b1 =>
                  ((if b1 = true then
                    (noongunref07_SameInts t2 t4).bind (fun t14 =>
                    some t14)
                  else
                    some false) : Option Bool).bind (fun b2 =>
                  ((if (((b2 && (t3 == t5)) && (t6 == t8)) && (t7 == t9)) = true then
                    (noongunlaw07_awake ).bind (fun t15 =>
                    some t15)
                  else
                    some false) : Option Bool).bind (fun b3 =>
                  some b3))))))))))

def slices_Clone_int (a0 : (List Int)) : Option ((List Int)) :=
  (appI ([] : List Int) a0).bind (fun t1 =>
  some t1)

def flag_rest (a0 : (List Int)) : Option (Int) :=
  ((
  rangeL (α := Int) (S := Int) (X := Int) (fun _   yk1 z2 =>
    (addI z2 yk1).bind (fun t1 =>
    some (Step.cont t1))) (fun z2 => z2) a0 0 0) : Option (Int)).bind (fun s1 =>
  (remI s1 10).bind (fun t2 =>
  some t2))

def flag_Checked (a0 : (List Int)) : Option ((List Int) × Int) :=
  (flag_ValidDigits a0).bind (fun t1 =>
  (if (!t1) = true then
  some (([] : List Int), 1)
  else
  (if (((a0.length : Nat) : Int) == 4) = true then
    some (([] : List Int), 7)
  else
    (slices_Clone_int a0).bind (fun t2 =>
    (flag_rest a0).bind (fun t3 =>
    (subI 10 t3).bind (fun t4 =>
    (remI t4 10).bind (fun t5 =>
    (appI t2 ([t5] : List Int)).bind (fun t6 =>
    some (t6, 0)))))))))

def noongunref07_sum (a0 : (List Int)) : Option (Int) :=
  ((
  rangeL (α := Int) (S := Int) (X := Int) (fun _   yk1 z2 =>
    (addI z2 yk1).bind (fun t1 =>
    some (Step.cont t1))) (fun z2 => z2) a0 0 0) : Option (Int)).bind (fun s1 =>
  some s1)

def noongunref07_Checked (a0 : (List Int)) : Option ((List Int) × Int) :=
  (noongunref07_ValidDigits a0).bind (fun t1 =>
  (if (!t1) = true then
  some (([] : List Int), 1)
  else
  (if (((a0.length : Nat) : Int) == 4) = true then
    some (([] : List Int), 7)
  else
    (appI ([] : List Int) a0).bind (fun t2 =>
    (noongunref07_sum a0).bind (fun t3 =>
    (remI t3 10).bind (fun t4 =>
    (subI 10 t4).bind (fun t5 =>
    (remI t5 10).bind (fun t6 =>
    (appI t2 ([t6] : List Int)).bind (fun t7 =>
    some (t7, 0))))))))))

def flag_Right (a0 : (List Int)) : Option (Bool × Int) :=
  (flag_ValidDigits a0).bind (fun t1 =>
  (if (!t1) = true then
  some (false, 1)
  else
  (flag_rest a0).bind (fun t2 =>
  some ((t2 == 0), 0))))

def noongunref07_Right (a0 : (List Int)) : Option (Bool × Int) :=
  (noongunref07_ValidDigits a0).bind (fun t1 =>
  (if (!t1) = true then
  some (false, 1)
  else
  (noongunref07_sum a0).bind (fun t2 =>
  (remI t2 10).bind (fun t3 =>
  some ((t3 == 0), 0)))))

noncomputable def noongunlaw07_FlagChecked (a0 : (List Int)) (a1 : Int) (a2 : Int) : Option (Bool) :=
  (if (decide (100 < ((a0.length : Nat) : Int))) = true then
  (noongunlaw07_awake ).bind (fun t1 =>
  some t1)
  else
  (flag_Checked a0).bind (fun o => match o with
    | (t2, t3) =>
      (noongunref07_Checked a0).bind (fun o => match o with
        | (t4, t5) =>
          (flag_Right a0).bind (fun o => match o with
            | (t6, t7) =>
              (noongunref07_Right a0).bind (fun o => match o with
                | (t8, t9) =>
                  (noongunref07_SameInts t2 t4).bind (fun t10 =>
                  (if ((((!t10) || (t3 != t5)) || (t6 != t8)) || (t7 != t9)) = true then
                    some false
                  else
                    (if (t3 != 0) = true then
                      (noongunlaw07_awake ).bind (fun t11 =>
                      some t11)
                    else
                      (flag_Right t2).bind (fun o => match o with
                        | (t12, t13) =>
                          (if ((t13 != 0) || (!t12)) = true then
                            some false
                          else
                            ((if ((((decide (a1 < 0)) || (decide (((t2.length : Nat) : Int) ≤ a1))) || (decide (a2 < 0))) || (decide (9 < a2))) = true then
                              some true
                            else
                              (idx t2 a1).bind (fun x1 =>
                              some (x1 == a2))) : Option Bool).bind (fun b1 =>
                            (if b1 = true then
                              (noongunlaw07_awake ).bind (fun t14 =>
                              some t14)
                            else
                              (appI ([] : List Int) t2).bind (fun t15 =>
                              (idx t15 a1).bind (fun _  =>
                              (flag_Right (t15.set (Int.toNat a1) a2)).bind (fun o => match o with
                                | (t16, t17) =>
                                  ((if ((t17 == 0) && (!t16)) = true then
                                    (noongunlaw07_awake ).bind (fun t18 =>
                                    some t18)
                                  else
                                    some false) : Option Bool).bind (fun b4 =>
                                  some b4))))))))))))))))

def flag_isSet (a0 : Int) : Option (Bool) :=
  (flag_within a0 0 8191).bind (fun t1 =>
  some t1)

def flag_asked (a0 : (List Int)) (a1 : Int) : Option (Int) :=
  (flag_ValidDigits a0).bind (fun t1 =>
  (if (!t1) = true then
  some 1
  else
  (flag_isSet a1).bind (fun t2 =>
  (if (!t2) = true then
    some 7
  else
    some 0))))

def hoistsFit (digits h : List Int) (f : Int) : Bool :=
  if 10 ≤ f then decide (f - 10 < (h.length : Int)) && (idx digits (f - 10) == idx digits (h.length : Int)) else idx digits (h.length : Int) == some f
def hoistsOk (digits h : List Int) (left : Int) (f : Nat) : Bool := hoistsFit digits h (f : Int) && !(bits .and .i64 (left / 2 ^ f) 1 == 0)
def hoistsG (digits : List Int) : Nat → List Int → Int → List (List Int)
  | 0, h, _ => [h]
  | n + 1, h, left => (List.range 13).flatMap fun f => if hoistsOk digits h left f then hoistsG digits n (h ++ [(f : Int)]) (bits .andNot .i64 left (2 ^ f)) else []
def flag_hoists_c1 (c0 : List Int) (c1 : Int) : Option (List (List Int)) := if c0.length ≤ 1000 then some (hoistsG c0 c0.length [] c1) else none

def flag_With (a0 : (List Int)) (a1 : Int) : Option ((List Int) × Int) :=
  (flag_asked a0 a1).bind (fun t1 =>
  (if (t1 != 0) = true then
  some ([], t1)
  else
  (flag_hoists_c1 a0 a1).bind (fun xs1 =>
  ((
    rangeL (α := (List Int)) (S := Unit) (X := Ctl (Unit) ((List Int) × Int)) (fun _ x1 _ =>
      (slices_Clone_int x1).bind (fun t2 =>
      some (Step.done (Ctl.ret (t2, 0))))) (fun _ => Ctl.next ()) xs1 0 ()) : Option (Ctl (Unit) ((List Int) × Int))).bind (fun o => match o with
    | .next _ =>
      some ([], 10)
    | .ret r => some r
    | .exit _ _ => none))))

def flag_can (a0 : (List Int)) (a1 : Int) : Option (Bool) :=
  (flag_hoists_c1 a0 a1).bind (fun xs1 =>
  ((
  rangeL (α := (List Int)) (S := Unit) (X := Ctl (Unit) (Bool)) (fun _ _  _ =>
    some (Step.done (Ctl.ret true))) (fun _ => Ctl.next ()) xs1 0 ()) : Option (Ctl (Unit) (Bool))).bind (fun o => match o with
  | .next _ =>
    some false
  | .ret r => some r
  | .exit _ _ => none))

noncomputable def flag_Can (a0 : Int) (a1 : Int) : Option (Int × Int) :=
  (flag_within a0 1 4).bind (fun t1 =>
  ((if (!t1) = true then
  some true
  else
  (flag_isSet a1).bind (fun t2 =>
  some (!t2))) : Option Bool).bind (fun b1 =>
  (if b1 = true then
  some (0, 7)
  else
  (makI (0 : Int) a0).bind (fun t3 =>
  ((
    loopR (S := Int × (List Int)) (X := Ctl (Unit) (Int × Int)) (fun (s : Int × (List Int)) => match s with
      | (z3, z4) =>
        ((
          (flag_can z4 a1).bind (fun t4 =>
          ((
            (if t4 = true then
              (addI z3 1).bind (fun t5 =>
              some t5)
            else
              some z3)) : Option (Int)).bind (fun s3 =>
          (subI a0 1).bind (fun t6 =>
          ((
            loopR (S := Int × (List Int)) (X := Int × (List Int)) (fun (s : Int × (List Int)) => match s with
              | (z9, z10) =>
                ((if (decide (0 ≤ z9)) = true then
                  (idx z10 z9).bind (fun x1 =>
                  some (x1 == 9))
                else
                  some false) : Option Bool).bind (fun b2 =>
                (if b2 = true then
                  (idx z10 z9).bind (fun _  =>
                  (subI z9 1).bind (fun t7 =>
                  some (Step.cont (t7, (z10.set (Int.toNat z9) 0)))))
                else
                  some (Step.done (z9, z10))))) (t6, z4)) : Option (Int × (List Int))).bind (fun o => match o with
            | (s4, s5) =>
              (if (decide (s4 < 0)) = true then
                some (Ctl.ret (s3, 0))
              else
                (idx s5 s4).bind (fun x3 =>
                (addI x3 1).bind (fun t8 =>
                (idx s5 s4).bind (fun _  =>
                some (Ctl.next (s3, (s5.set (Int.toNat s4) t8)))))))))))) : Option (Ctl (Int × (List Int)) (Int × Int))).bind (fun o => match o with
          | .next (s1, s2) =>
            some (Step.cont (s1, s2))
          | .ret r => some (Step.done (Ctl.ret r))
          | .exit _ _ => none)) (0, t3)) : Option (Ctl (Unit) (Int × Int))).bind (fun o => match o with
    | .next _ =>
      none
    | .ret r => some r
    | .exit _ _ => none)))))

noncomputable def noongunlaw07_FlagFewer (a0 : (List Int)) (a1 : Int) (a2 : Int) (a3 : Int) : Option (Bool) :=
  (if (((((decide (100 < ((a0.length : Nat) : Int))) || (decide (a1 < 0))) || (decide (8191 < a1))) || (decide (a2 < 0))) || (decide (8191 < a2))) = true then
  (noongunlaw07_awake ).bind (fun t1 =>
  some t1)
  else
  (flag_With a0 a1).bind (fun o => match o with
    | (_ , t3) =>
      (flag_With a0 (bits .or .i64 a1 a2)).bind (fun o => match o with
        | (_ , t5) =>
          (flag_Can a3 a1).bind (fun o => match o with
            | (t6, t7) =>
              (flag_Can a3 (bits .or .i64 a1 a2)).bind (fun o => match o with
                | (t8, t9) =>
                  ((if ((((t3 != 0) || (t5 == 0)) && (t7 == t9)) && (decide (t6 ≤ t8))) = true then
                    (noongunlaw07_awake ).bind (fun t10 =>
                    some t10)
                  else
                    some false) : Option Bool).bind (fun b1 =>
                  some b1))))))

def noongunref07_set (a0 : Int) : Option (Bool) :=
  some ((decide (0 ≤ a0)) && (decide (a0 < 8192)))

def noongunref07_number (a0 : (List Int)) : Option (Int) :=
  ((
  rangeL (α := Int) (S := Int) (X := Int) (fun _   yk1 z2 =>
    (mulI 10 z2).bind (fun t1 =>
    (addI t1 yk1).bind (fun t2 =>
    some (Step.cont t2)))) (fun z2 => z2) a0 0 0) : Option (Int)).bind (fun s1 =>
  some s1)

def noongunref07_Can (a0 : Int) (a1 : Int) : Option (Int × Int) :=
  ((if ((decide (a0 < 1)) || (decide (4 < a0))) = true then
  some true
  else
  (noongunref07_set a1).bind (fun t1 =>
  some (!t1))) : Option Bool).bind (fun b1 =>
  (if b1 = true then
  some (0, 7)
  else
  ((
    chkI a0 (rangeN (S := (List (List Int))) (X := (List (List Int))) (fun _   z2 =>
      ((
        ((
          rangeL (α := (List Int)) (S := (List (List Int))) (X := (List (List Int))) (fun _   yk2 z5 =>
            ((
              ((
                rangeN (S := (List (List Int))) (X := (List (List Int))) (fun ik3 z8 =>
                  ((
                    (appI ([] : List Int) yk2).bind (fun t2 =>
                    (appI t2 ([(ik3 : Int)] : List Int)).bind (fun t3 =>
                    (shrI a1 (ik3 : Int)).bind (fun t4 =>
                    ((if ((bits .and .i64 t4 1) == 1) = true then
                      (noongunref07_ValidHoist t3).bind (fun t5 =>
                      some t5)
                    else
                      some false) : Option Bool).bind (fun b3 =>
                    ((
                      (if b3 = true then
                        (appI z8 ([t3] : List (List Int))).bind (fun t6 =>
                        some t6)
                      else
                        some z8)) : Option ((List (List Int)))).bind (fun s7 =>
                    some s7)))))) : Option ((List (List Int)))).bind (fun s6 =>
                  some (Step.cont s6))) (fun z8 => z8) (Int.toNat 13) 0 z5) : Option ((List (List Int)))).bind (fun s5 =>
              some s5)) : Option ((List (List Int)))).bind (fun s4 =>
            some (Step.cont s4))) (fun z5 => z5) z2 0 ([] : List (List Int))) : Option ((List (List Int)))).bind (fun s3 =>
        some s3)) : Option ((List (List Int)))).bind (fun s2 =>
      some (Step.cont s2))) (fun z2 => z2) (Int.toNat a0) 0 ([([] : (List Int))] : List (List Int)))) : Option ((List (List Int)))).bind (fun s1 =>
  (makI (false : Bool) 10000).bind (fun t7 =>
  ((
    rangeL (α := (List Int)) (S := Int × (List Bool)) (X := Int) (fun _   yk4 s =>
    match s with
      | (z12, z13) =>
        ((
          (noongunref07_means yk4).bind (fun t8 =>
          (noongunref07_number t8).bind (fun t9 =>
          (idx z13 t9).bind (fun x1 =>
          ((
            (if (!x1) = true then
              (idx z13 t9).bind (fun _  =>
              (addI z12 1).bind (fun t10 =>
              some (t10, (z13.set (Int.toNat t9) true))))
            else
              some (z12, z13))) : Option (Int × (List Bool))).bind (fun o => match o with
            | (s11, s12) =>
              some (s11, s12)))))) : Option (Int × (List Bool))).bind (fun o => match o with
          | (s9, s10) =>
            some (Step.cont (s9, s10)))) (fun s => match s with | (z12, _  ) => z12) s1 0 (0, t7)) : Option (Int)).bind (fun s8 =>
  some (s8, 0))))))

noncomputable def noongunlaw07_FlagCan (a0 : Int) (a1 : Int) : Option (Bool) :=
  (flag_Can a0 a1).bind (fun o => match o with
  | (t1, t2) =>
    (noongunref07_Can a0 a1).bind (fun o => match o with
      | (t3, t4) =>
        (if ((t1 != t3) || (t2 != t4)) = true then
          some false
        else
          (if ((decide (a0 < 1)) || (decide (4 < a0))) = true then
            ((if (t2 == 7) = true then
              (noongunlaw07_awake ).bind (fun t5 =>
              some t5)
            else
              some false) : Option Bool).bind (fun b1 =>
            some b1)
          else
            (flag_Can a0 8191).bind (fun o => match o with
              | (t6, t7) =>
                ((
                  chkI a0 (rangeN (S := Int) (X := Int) (fun _   z2 =>
                    (mulI z2 10).bind (fun t8 =>
                    some (Step.cont t8))) (fun z2 => z2) (Int.toNat a0) 0 1)) : Option (Int)).bind (fun s1 =>
                ((if ((t7 == 0) && (t6 == s1)) = true then
                  (noongunlaw07_awake ).bind (fun t9 =>
                  some t9)
                else
                  some false) : Option Bool).bind (fun b2 =>
                some b2)))))))

def noongunref07_Hoist (a0 : (List Int)) : Option ((List Int) × Int) :=
  (noongunref07_ValidDigits a0).bind (fun t1 =>
  (if (!t1) = true then
  some (([] : List Int), 1)
  else
  ((
    rangeL (α := Int) (S := (List Int)) (X := (List Int)) (fun _   yk1 z2 =>
      ((
        ((
          rangeL (α := Int) (S := Unit) (X := (List Int)) (fun _   yk2 _ =>
            (appI ([] : List Int) z2).bind (fun t2 =>
            (appI t2 ([yk2] : List Int)).bind (fun t3 =>
            (noongunref07_ValidHoist t3).bind (fun t4 =>
            ((if t4 = true then
              (noongunref07_means t3).bind (fun t5 =>
              (subI ((t3.length : Nat) : Int) 1).bind (fun t6 =>
              (idx t5 t6).bind (fun x1 =>
              some (x1 == yk1))))
            else
              some false) : Option Bool).bind (fun b2 =>
            (if b2 = true then
              some (Step.done t3)
            else
              some (Step.cont ()))))))) (fun _ => z2) ([yk1, 10, 11, 12] : List Int) 0 ()) : Option ((List Int))).bind (fun s3 =>
        some s3)) : Option ((List Int))).bind (fun s2 =>
      some (Step.cont s2))) (fun z2 => z2) a0 0 ([] : List Int)) : Option ((List Int))).bind (fun s1 =>
  some (s1, 0))))

def flag_Hoists (a0 : (List Int)) (a1 : Int) : Option ((List (List Int)) × Int) :=
  (flag_asked a0 a1).bind (fun t1 =>
  (if (t1 != 0) = true then
  some (([] : List (List Int)), t1)
  else
  (flag_hoists_c1 a0 a1).bind (fun xs1 =>
  ((
    rangeL (α := (List Int)) (S := (List (List Int))) (X := (List (List Int))) (fun _ x1 z2 =>
      (slices_Clone_int x1).bind (fun t2 =>
      (appI z2 ([t2] : List (List Int))).bind (fun t3 =>
      some (Step.cont t3)))) (fun z2 => z2) xs1 0 ([] : List (List Int))) : Option ((List (List Int)))).bind (fun s1 =>
  some (s1, 0)))))

noncomputable def noongunlaw07_FlagUsual (a0 : (List Int)) : Option (Bool) :=
  (if (decide (100 < ((a0.length : Nat) : Int))) = true then
  (noongunlaw07_awake ).bind (fun t1 =>
  some t1)
  else
  (flag_Hoist a0).bind (fun o => match o with
    | (t2, t3) =>
      (noongunref07_Hoist a0).bind (fun o => match o with
        | (t4, t5) =>
          (noongunref07_SameInts t2 t4).bind (fun t6 =>
          (if ((!t6) || (t3 != t5)) = true then
            some false
          else
            (if (t3 != 0) = true then
              (noongunlaw07_awake ).bind (fun t7 =>
              some t7)
            else
              (flag_Means t2).bind (fun o => match o with
                | (t8, t9) =>
                  (flag_Hoists a0 8191).bind (fun o => match o with
                    | (t10, t11) =>
                      ((
                        rangeL (α := (List Int)) (S := Unit) (X := Ctl (Unit) (Bool)) (fun _   yk1 _ =>
                          (noongunref07_SameInts yk1 t2).bind (fun t12 =>
                          (if t12 = true then
                            (flag_ValidHoist t2).bind (fun t13 =>
                            ((if ((t13 && (t9 == 0)) && (t11 == 0)) = true then
                              (noongunref07_SameInts t8 a0).bind (fun t14 =>
                              some t14)
                            else
                              some false) : Option Bool).bind (fun b1 =>
                            ((if b1 = true then
                              (noongunlaw07_awake ).bind (fun t15 =>
                              some t15)
                            else
                              some false) : Option Bool).bind (fun b2 =>
                            some (Step.done (Ctl.ret b2)))))
                          else
                            some (Step.cont ())))) (fun _ => Ctl.next ()) t10 0 ()) : Option (Ctl (Unit) (Bool))).bind (fun o => match o with
                        | .next _ =>
                          some false
                        | .ret r => some r
                        | .exit _ _ => none)))))))))

def noongunref07_hoists (a0 : (List Int)) (a1 : Int) : Option ((List (List Int))) :=
  ((
  rangeN (S := (List (List Int))) (X := (List (List Int))) (fun ik1 z2 =>
    ((
      ((
        (if ((ik1 : Int) == 0) = true then
          some ([([] : (List Int))] : List (List Int))
        else
          some z2)) : Option ((List (List Int)))).bind (fun s3 =>
      ((
        rangeL (α := (List Int)) (S := (List (List Int))) (X := (List (List Int))) (fun _   yk2 z5 =>
          ((
            ((
              rangeN (S := (List (List Int))) (X := (List (List Int))) (fun ik3 z8 =>
                ((
                  (appI ([] : List Int) yk2).bind (fun t1 =>
                  (appI t1 ([(ik3 : Int)] : List Int)).bind (fun t2 =>
                  ((
                    (shrI a1 (ik3 : Int)).bind (fun t3 =>
                    (if ((bits .and .i64 t3 1) == 1) = true then
                      (noongunref07_ValidHoist t2).bind (fun t4 =>
                      (if t4 = true then
                        (noongunref07_means t2).bind (fun t5 =>
                        (addI (ik1 : Int) 1).bind (fun t6 =>
                        (cutI a0 0 t6).bind (fun t7 =>
                        (noongunref07_SameInts t5 t7).bind (fun t8 =>
                        some t8))))
                      else
                        some false))
                    else
                      some false))) : Option (Bool)).bind (fun s8 =>
                  ((
                    (if s8 = true then
                      (appI z8 ([t2] : List (List Int))).bind (fun t9 =>
                      some t9)
                    else
                      some z8)) : Option ((List (List Int)))).bind (fun s9 =>
                  some s9))))) : Option ((List (List Int)))).bind (fun s7 =>
                some (Step.cont s7))) (fun z8 => z8) (Int.toNat 13) 0 z5) : Option ((List (List Int)))).bind (fun s6 =>
            some s6)) : Option ((List (List Int)))).bind (fun s5 =>
          some (Step.cont s5))) (fun z5 => z5) s3 0 ([] : List (List Int))) : Option ((List (List Int)))).bind (fun s4 =>
      some s4))) : Option ((List (List Int)))).bind (fun s2 =>
    some (Step.cont s2))) (fun z2 => z2) (Int.toNat ((a0.length : Nat) : Int)) 0 ([] : List (List Int))) : Option ((List (List Int)))).bind (fun s1 =>
  some s1)

def noongunref07_Hoists (a0 : (List Int)) (a1 : Int) : Option ((List (List Int)) × Int) :=
  (noongunref07_ValidDigits a0).bind (fun t1 =>
  (if (!t1) = true then
  some (([] : List (List Int)), 1)
  else
  (noongunref07_set a1).bind (fun t2 =>
  (if (!t2) = true then
    some (([] : List (List Int)), 7)
  else
    (noongunref07_hoists a0 a1).bind (fun t3 =>
    some (t3, 0))))))

def noongunref07_With (a0 : (List Int)) (a1 : Int) : Option ((List Int) × Int) :=
  (noongunref07_Hoists a0 a1).bind (fun o => match o with
  | (t1, t2) =>
    (if (t2 != 0) = true then
      some (([] : List Int), t2)
    else
      (if (((t1.length : Nat) : Int) == 0) = true then
        some (([] : List Int), 10)
      else
        (idx t1 0).bind (fun x1 =>
        some (x1, 0)))))

def flag_Missed (a0 : (List Int)) (a1 : Int) : Option ((List Int) × Int) :=
  (flag_asked a0 a1).bind (fun t1 =>
  (if (t1 != 0) = true then
  some (([] : List Int), t1)
  else
  (flag_can a0 a1).bind (fun t2 =>
  (if t2 = true then
    some (([] : List Int), 9)
  else
    ((
      rangeN (S := (List Int)) (X := (List Int)) (fun ik1 z2 =>
        ((
          (shlI 1 (ik1 : Int)).bind (fun t3 =>
          (flag_can a0 (bits .or .i64 a1 t3)).bind (fun t4 =>
          ((
            (if t4 = true then
              (appI z2 ([(ik1 : Int)] : List Int)).bind (fun t5 =>
              some t5)
            else
              some z2)) : Option ((List Int))).bind (fun s3 =>
          some s3)))) : Option ((List Int))).bind (fun s2 =>
        some (Step.cont s2))) (fun z2 => z2) (Int.toNat 13) 0 ([] : List Int)) : Option ((List Int))).bind (fun s1 =>
    some (s1, 0))))))

def noongunref07_Missed (a0 : (List Int)) (a1 : Int) : Option ((List Int) × Int) :=
  (noongunref07_Hoists a0 a1).bind (fun o => match o with
  | (t1, t2) =>
    (if (t2 != 0) = true then
      some (([] : List Int), t2)
    else
      (if (decide (0 < ((t1.length : Nat) : Int))) = true then
        some (([] : List Int), 9)
      else
        ((
          rangeN (S := (List Int)) (X := (List Int)) (fun ik1 z2 =>
            ((
              (shlI 1 (ik1 : Int)).bind (fun t3 =>
              (noongunref07_hoists a0 (bits .or .i64 a1 t3)).bind (fun t4 =>
              ((
                (if (decide (0 < ((t4.length : Nat) : Int))) = true then
                  (appI z2 ([(ik1 : Int)] : List Int)).bind (fun t5 =>
                  some t5)
                else
                  some z2)) : Option ((List Int))).bind (fun s3 =>
              some s3)))) : Option ((List Int))).bind (fun s2 =>
            some (Step.cont s2))) (fun z2 => z2) (Int.toNat 13) 0 ([] : List Int)) : Option ((List Int))).bind (fun s1 =>
        some (s1, 0)))))

def noongunref07_SameHoists (a0 : (List (List Int))) (a1 : (List (List Int))) : Option (Bool) :=
  (if (((a0.length : Nat) : Int) != ((a1.length : Nat) : Int)) = true then
  some false
  else
  ((
    rangeN (S := Unit) (X := Ctl (Unit) (Bool)) (fun ik1 _ =>
      (idx a0 (ik1 : Int)).bind (fun x1 =>
      (idx a1 (ik1 : Int)).bind (fun x2 =>
      (noongunref07_SameInts x1 x2).bind (fun t1 =>
      (if (!t1) = true then
        some (Step.done (Ctl.ret false))
      else
        some (Step.cont ())))))) (fun _ => Ctl.next ()) (Int.toNat ((a0.length : Nat) : Int)) 0 ()) : Option (Ctl (Unit) (Bool))).bind (fun o => match o with
    | .next _ =>
      some true
    | .ret r => some r
    | .exit _ _ => none))

noncomputable def noongunlaw07_FlagHoists (a0 : (List Int)) (a1 : Int) (a2 : (List Int)) : Option (Bool) :=
  (if ((decide (100 < ((a0.length : Nat) : Int))) || (decide (100 < ((a2.length : Nat) : Int)))) = true then
  (noongunlaw07_awake ).bind (fun t1 =>
  some t1)
  else
  (flag_Hoists a0 a1).bind (fun o => match o with
    | (t2, t3) =>
      (noongunref07_Hoists a0 a1).bind (fun o => match o with
        | (t4, t5) =>
          (flag_With a0 a1).bind (fun o => match o with
            | (t6, t7) =>
              (noongunref07_With a0 a1).bind (fun o => match o with
                | (t8, t9) =>
                  (flag_Missed a0 a1).bind (fun o => match o with
                    | (t10, t11) =>
                      (noongunref07_Missed a0 a1).bind (fun o => match o with
                        | (t12, t13) =>
                          (noongunref07_SameHoists t2 t4).bind (fun t14 =>
                          ((if ((!t14) || (t3 != t5)) = true then
                            some true
                          else
                            (noongunref07_SameInts t6 t8).bind (fun t15 =>
                            some (!t15))) : Option Bool).bind (fun b1 =>
                          ((if (b1 || (t7 != t9)) = true then
                            some true
                          else
                            (noongunref07_SameInts t10 t12).bind (fun t16 =>
                            some (!t16))) : Option Bool).bind (fun b2 =>
                          (if (b2 || (t11 != t13)) = true then
                            some false
                          else
                            ((if (t3 != 0) = true then
                              some true
                            else
                              (flag_ValidHoist a2).bind (fun t17 =>
                              some (!t17))) : Option Bool).bind (fun b3 =>
                            (if b3 = true then
                              (noongunlaw07_awake ).bind (fun t18 =>
                              some t18)
                            else
                              ((
                                rangeL (α := (List Int)) (S := Bool) (X := Bool) (fun _   yk1 z2 =>
                                  ((if z2 = true then
                                    some true
                                  else
                                    (noongunref07_SameInts yk1 a2).bind (fun t19 =>
                                    some t19)) : Option Bool).bind (fun b4 =>
                                  some (Step.cont b4))) (fun z2 => z2) t2 0 false) : Option (Bool)).bind (fun s1 =>
                              (flag_Means a2).bind (fun o => match o with
                                | (t20, t21) =>
                                  (flag_Flags a2).bind (fun o => match o with
                                    | (t22, t23) =>
                                      ((if ((t21 == 0) && (t23 == 0)) = true then
                                        (noongunref07_SameInts t20 a0).bind (fun t24 =>
                                        some (s1 == (t24 && ((bits .andNot .i64 t22 a1) == 0))))
                                      else
                                        some false) : Option Bool).bind (fun b5 =>
                                      ((if b5 = true then
                                        (noongunlaw07_awake ).bind (fun t25 =>
                                        some t25)
                                      else
                                        some false) : Option Bool).bind (fun b6 =>
                                      some b6))))))))))))))))))

end Go.Fw
