/-
  What the functions compute, as functions of the values: written by a program from the functions. No condition.
-/
import Derived.Test.YtecedifkjafneaaDoorFwJ
import Derived.Test.YtecedifkjafneaaDoorFwU
import Derived.Test.YtecedifkjafneaaDoorFwZ
namespace Go.Fw
structure GMeaning where
  Number : Int
  Text : ByteArray
  deriving DecidableEq
instance : Flat GMeaning := ⟨2, fun a => .agg #[.int .i64 a.Number, .string a.Text], fun a => [.int .i64 a.Number, .string a.Text], fun _ => rfl, fun _ => rfl, by simp [Value.oneCell'], by decide⟩

def okGMeaning (a : GMeaning) : Prop := inI a.Number = true ∧ a.Text.size ≤ maxLen
def noongunlaw07_fit (a0 : (List GMeaning)) : Option (Bool) :=
  ((
  rangeL (α := GMeaning) (S := Unit) (X := Ctl (Unit) (Bool)) (fun ik1 yk1 _ =>
    (if (decide (100 < ((yk1.Text.size : Nat) : Int))) = true then
      some (Step.done (Ctl.ret false))
    else
      some (Step.cont ()))) (fun _ => Ctl.next ()) a0 0 ()) : Option (Ctl (Unit) (Bool))).bind (fun o => match o with
  | .next _ =>
    some ((decide (((a0.length : Nat) : Int) ≤ 40)) || ((decide (200 ≤ ((a0.length : Nat) : Int))) && (decide (((a0.length : Nat) : Int) ≤ 203))))
  | .ret r => some r
  | .exit _ _ => none)

def flag_within (a0 : Int) (a1 : Int) (a2 : Int) : Option (Bool) :=
  some ((decide (a1 ≤ a0)) && (decide (a0 ≤ a2)))

def flag_listed_c1 (a0 : Int) (c0 : Int) : Option (Bool) :=
  (flag_within a0 0 c0).bind (fun t1 =>
  some (!t1))

def slices_IndexFunc_int (a0 : (List Int)) (a1 : Int → Option (Bool)) : Option (Int) :=
  ((
  rangeN (S := Unit) (X := Ctl (Unit) (Int)) (fun ik1 _ =>
    (idx a0 (ik1 : Int)).bind (fun x1 =>
    (a1 x1).bind (fun t1 =>
    (if t1 = true then
      some (Step.done (Ctl.ret (ik1 : Int)))
    else
      some (Step.cont ()))))) (fun _ => Ctl.next ()) (Int.toNat ((a0.length : Nat) : Int)) 0 ()) : Option (Ctl (Unit) (Int))).bind (fun o => match o with
  | .next _ =>
    some (-1)
  | .ret r => some r
  | .exit _ _ => none)

def slices_ContainsFunc_int (a0 : (List Int)) (a1 : Int → Option (Bool)) : Option (Bool) :=
  (slices_IndexFunc_int a0 a1).bind (fun t1 =>
  some (decide (0 ≤ t1)))

def flag_listed (a0 : (List Int)) (a1 : Int) : Option (Bool) :=
  (flag_within ((a0.length : Nat) : Int) 1 4).bind (fun t1 =>
  ((if t1 = true then
  (slices_ContainsFunc_int a0 (fun x0 => flag_listed_c1 x0 a1)).bind (fun t2 =>
  some (!t2))
  else
  some false) : Option Bool).bind (fun b2 =>
  some b2))

def flag_ValidDigits (a0 : (List Int)) : Option (Bool) :=
  (flag_listed a0 9).bind (fun t1 =>
  some t1)

def slices_Index_int (a0 : (List Int)) (a1 : Int) : Option (Int) :=
  ((
  rangeN (S := Unit) (X := Ctl (Unit) (Int)) (fun ik1 _ =>
    (idx a0 (ik1 : Int)).bind (fun x1 =>
    (if (a1 == x1) = true then
      some (Step.done (Ctl.ret (ik1 : Int)))
    else
      some (Step.cont ())))) (fun _ => Ctl.next ()) (Int.toNat ((a0.length : Nat) : Int)) 0 ()) : Option (Ctl (Unit) (Int))).bind (fun o => match o with
  | .next _ =>
    some (-1)
  | .ret r => some r
  | .exit _ _ => none)

def slices_Contains_int (a0 : (List Int)) (a1 : Int) : Option (Bool) :=
  (slices_Index_int a0 a1).bind (fun t1 =>
  some (decide (0 ≤ t1)))

def flag_place (a0 : Int) : Option (Int) :=
  (subI a0 10).bind (fun t1 =>
  some t1)

noncomputable def flag_Hoist (a0 : (List Int)) : Option ((List Int) × Int) :=
  (flag_ValidDigits a0).bind (fun t1 =>
  (if (!t1) = true then
  some (([] : List Int), 1)
  else
  ((
    rangeN (S := (List Int)) (X := (List Int)) (fun ik1 z2 =>
      ((
        (idx a0 (ik1 : Int)).bind (fun x1 =>
        (slices_Contains_int z2 x1).bind (fun t2 =>
        ((
          (if t2 = true then
            ((
              loopR (S := Int) (X := Int) (fun (z5 : Int) =>
                (slices_Contains_int z2 z5).bind (fun t3 =>
                ((if t3 = true then
                  some true
                else
                  (flag_place z5).bind (fun t4 =>
                  some (decide ((ik1 : Int) ≤ t4)))) : Option Bool).bind (fun b1 =>
                ((if b1 = true then
                  some true
                else
                  (flag_place z5).bind (fun t5 =>
                  (idx a0 t5).bind (fun x2 =>
                  some (x2 != x1)))) : Option Bool).bind (fun b2 =>
                (if b2 = true then
                  (addI z5 1).bind (fun t6 =>
                  some (Step.cont t6))
                else
                  some (Step.done z5)))))) 10) : Option (Int)).bind (fun s4 =>
            some s4)
          else
            some x1)) : Option (Int)).bind (fun s3 =>
        (appI z2 ([s3] : List Int)).bind (fun t7 =>
        some t7))))) : Option ((List Int))).bind (fun s2 =>
      some (Step.cont s2))) (fun z2 => z2) (Int.toNat ((a0.length : Nat) : Int)) 0 ([] : List Int)) : Option ((List Int))).bind (fun s1 =>
  some (s1, 0))))

def flag_ValidHoist (a0 : (List Int)) : Option (Bool) :=
  (flag_listed a0 12).bind (fun t1 =>
  (if (!t1) = true then
  some false
  else
  ((
    rangeN (S := Unit) (X := Ctl (Unit) (Bool)) (fun ik1 _ =>
      (idx a0 (ik1 : Int)).bind (fun x1 =>
      (cutI a0 0 (ik1 : Int)).bind (fun t2 =>
      (slices_Contains_int t2 x1).bind (fun t3 =>
      ((if t3 = true then
        some true
      else
        ((if (decide (10 ≤ x1)) = true then
          (flag_place x1).bind (fun t4 =>
          some (decide ((ik1 : Int) ≤ t4)))
        else
          some false) : Option Bool).bind (fun b2 =>
        some b2)) : Option Bool).bind (fun b1 =>
      (if b1 = true then
        some (Step.done (Ctl.ret false))
      else
        some (Step.cont ()))))))) (fun _ => Ctl.next ()) (Int.toNat ((a0.length : Nat) : Int)) 0 ()) : Option (Ctl (Unit) (Bool))).bind (fun o => match o with
    | .next _ =>
      some true
    | .ret r => some r
    | .exit _ _ => none)))

def flag_means (a0 : (List Int)) : Option ((List Int)) :=
  ((
  rangeL (α := Int) (S := (List Int)) (X := (List Int)) (fun ik1 yk1 z2 =>
    ((
      ((
        (if (decide (10 ≤ yk1)) = true then
          (flag_place yk1).bind (fun t1 =>
          (idx z2 t1).bind (fun x1 =>
          some x1))
        else
          some yk1)) : Option (Int)).bind (fun s3 =>
      (appI z2 ([s3] : List Int)).bind (fun t2 =>
      some t2))) : Option ((List Int))).bind (fun s2 =>
    some (Step.cont s2))) (fun z2 => z2) a0 0 ([] : List Int)) : Option ((List Int))).bind (fun s1 =>
  some s1)

def flag_Means (a0 : (List Int)) : Option ((List Int) × Int) :=
  (flag_ValidHoist a0).bind (fun t1 =>
  (if (!t1) = true then
  some (([] : List Int), 1)
  else
  (flag_means a0).bind (fun t2 =>
  some (t2, 0))))

def noongunref07_SameInts (a0 : (List Int)) (a1 : (List Int)) : Option (Bool) :=
  (if (((a0.length : Nat) : Int) != ((a1.length : Nat) : Int)) = true then
  some false
  else
  ((
    rangeN (S := Unit) (X := Ctl (Unit) (Bool)) (fun ik1 _ =>
      (idx a0 (ik1 : Int)).bind (fun x1 =>
      (idx a1 (ik1 : Int)).bind (fun x2 =>
      (if (x1 != x2) = true then
        some (Step.done (Ctl.ret false))
      else
        some (Step.cont ()))))) (fun _ => Ctl.next ()) (Int.toNat ((a0.length : Nat) : Int)) 0 ()) : Option (Ctl (Unit) (Bool))).bind (fun o => match o with
    | .next _ =>
      some true
    | .ret r => some r
    | .exit _ _ => none))

noncomputable def noongunlaw07_awake  : Option (Bool) :=
  (flag_Hoist ([1, 2, 1, 1] : List Int)).bind (fun o => match o with
  | (t1, t2) =>
    (flag_Means ([1, 2, 10, 12] : List Int)).bind (fun o => match o with
      | (t3, t4) =>
        ((if (t2 == 0) = true then
          (noongunref07_SameInts t1 ([1, 2, 10, 12] : List Int)).bind (fun t5 =>
          some t5)
        else
          some false) : Option Bool).bind (fun b1 =>
        ((if (b1 && (t4 == 0)) = true then
          (noongunref07_SameInts t3 ([1, 2, 1, 1] : List Int)).bind (fun t6 =>
          some t6)
        else
          some false) : Option Bool).bind (fun b2 =>
        some b2))))

def strings_Cut (a0 a1 : ByteArray) : Option (ByteArray × ByteArray × Bool) := cutSI a0 a1

def strconv_Itoa (a0 : Int) : Option ByteArray := if -9223372036854775808 ≤ a0 ∧ a0 ≤ 9223372036854775807 then some ⟨(Lib.itoa a0).toArray⟩ else none

def flag_ValidBook_c1 (a0 : Int) : Option (Bool) :=
  some ((decide (a0 < 32)) || (decide (126 < a0)))

def flag_isNumber (a0 : Int) : Option (Bool) :=
  (flag_within a0 0 9999).bind (fun t1 =>
  some t1)

def runesL (s : ByteArray) : Nat → Nat → List (Nat × Nat)
  | 0, _ => []
  | n + 1, p => if p < s.size then (p, (Utf8.decode s p).1) :: runesL s n (p + (Utf8.decode s p).2) else []
def idxR (f : Int → Option Bool) (b : Bool) : List (Nat × Nat) → Option Int
  | [] => some (-1)
  | (p, r) :: l => (f (r : Int)).bind fun t => if (t == b) = true then some (p : Int) else idxR f b l
def strings_indexFunc (a0 : ByteArray) (a1 : Int → Option (Bool)) (a2 : Bool) : Option Int := if a0.size ≤ 1099511627776 then idxR a1 a2 (runesL a0 (a0.size + 1) 0) else none
theorem dec_w (s : ByteArray) (i : Nat) : 1 ≤ (Utf8.decode s i).2 := by
  unfold Utf8.decode
  simp only
  repeat' split
  all_goals simp

def strings_IndexFunc (a0 : ByteArray) (a1 : Int → Option (Bool)) : Option (Int) :=
  (strings_indexFunc a0 a1 true).bind (fun t1 =>
  some t1)

def strings_ContainsFunc (a0 : ByteArray) (a1 : Int → Option (Bool)) : Option (Bool) :=
  (strings_IndexFunc a0 a1).bind (fun t1 =>
  some (decide (0 ≤ t1)))

def flag_ValidBook (a0 : (List GMeaning)) : Option (Bool) :=
  ((
  rangeN (S := Unit) (X := Ctl (Unit) (Bool)) (fun ik1 _ =>
    (idx a0 (ik1 : Int)).bind (fun x1 =>
    (flag_isNumber x1.Number).bind (fun t1 =>
    ((if (!t1) = true then
      some true
    else
      ((if (decide (0 < (ik1 : Int))) = true then
        (subI (ik1 : Int) 1).bind (fun t2 =>
        (idx a0 t2).bind (fun x2 =>
        some (decide (x1.Number ≤ x2.Number))))
      else
        some false) : Option Bool).bind (fun b3 =>
      some b3)) : Option Bool).bind (fun b2 =>
    ((if b2 = true then
      some true
    else
      (flag_within ((x1.Text.size : Nat) : Int) 1 60).bind (fun t3 =>
      some (!t3))) : Option Bool).bind (fun b4 =>
    ((if b4 = true then
      some true
    else
      (strings_ContainsFunc x1.Text (fun x0 => flag_ValidBook_c1 x0)).bind (fun t4 =>
      some t4)) : Option Bool).bind (fun b5 =>
    (if b5 = true then
      some (Step.done (Ctl.ret false))
    else
      some (Step.cont ())))))))) (fun _ => Ctl.next ()) (Int.toNat ((a0.length : Nat) : Int)) 0 ()) : Option (Ctl (Unit) (Bool))).bind (fun o => match o with
  | .next _ =>
    some (decide (((a0.length : Nat) : Int) ≤ 200))
  | .ret r => some r
  | .exit _ _ => none)

def addL (xs : List UInt8) (s : ByteArray) : Option (List UInt8) := if xs.length + s.size ≤ 1099511627776 then some (xs ++ bytes s) else none
def flag_lineN (a0 : GMeaning) : Option ByteArray :=
  (strconv_Itoa a0.Number).bind (fun t1 =>
  (catI t1 (bs [32])).bind (fun t2 =>
  (catI t2 a0.Text).bind (fun t3 =>
  (catI t3 (bs [10])).bind (fun t4 => some t4))))
def flag_Format (a0 : (List GMeaning)) : Option (ByteArray) :=
  (flag_ValidBook a0).bind (fun t1 =>
  (if (!t1) = true then
  some (bs [])
  else
  (rangeL (α := GMeaning) (S := List UInt8) (X := List UInt8) (fun _ y z => (flag_lineN y).bind fun s => (addL z s).bind fun z2 => some (Step.cont z2)) (fun z => z) a0 0 []).bind fun xs =>
  some ⟨xs.toArray⟩))

def strings_HasPrefix (a0 a1 : ByteArray) : Option Bool := some (Lib.hasPrefix (bytes a0) (bytes a1))

noncomputable def flag_Parse (a0 : ByteArray) : Option ((List GMeaning) × Int × Int) :=
  (if (decide (65536 < ((a0.size : Nat) : Int))) = true then
  some (([] : List GMeaning), 0, 3)
  else
  ((
    loopR (S := ByteArray × Int × (List GMeaning)) (X := Ctl ((List GMeaning)) ((List GMeaning) × Int × Int)) (fun (s : ByteArray × Int × (List GMeaning)) => match s with
      | (z4, z5, z6) =>
        (if (!(decide (z4 = (bs [])))) = true then
          (strings_Cut z4 (bs [10])).bind (fun o => match o with
            | (t1, t2, t3) =>
              (strings_Cut t1 (bs [32])).bind (fun o => match o with
                | (t4, t5, t6) =>
                  (atoiI t4).bind (fun t7 =>
                  (appI z6 ([(GMeaning.mk t7 t5)] : List GMeaning)).bind (fun t8 =>
                  (flag_Format ([(GMeaning.mk t7 t5)] : List GMeaning)).bind (fun t9 =>
                  ((if (decide (t9 = (bs []))) = true then
                    some true
                  else
                    (strings_HasPrefix z4 t9).bind (fun t10 =>
                    some (!t10))) : Option Bool).bind (fun b2 =>
                  ((if b2 = true then
                    some true
                  else
                    (flag_ValidBook t8).bind (fun t11 =>
                    some (!t11))) : Option Bool).bind (fun b3 =>
                  (if b3 = true then
                    some (Step.done (Ctl.ret (([] : List GMeaning), z5, 2)))
                  else
                    (addI z5 1).bind (fun t12 =>
                    some (Step.cont (t2, t12, t8)))))))))))
        else
          some (Step.done (Ctl.next z6)))) (a0, 0, ([] : List GMeaning))) : Option (Ctl ((List GMeaning)) ((List GMeaning) × Int × Int))).bind (fun o => match o with
    | .next s1 =>
      some (s1, 0, 0)
    | .ret r => some r
    | .exit _ _ => none))

def noongunref07_meaning (a0 : GMeaning) : Option (Bool) :=
  ((
  chkI ((a0.Text.size : Nat) : Int) (rangeN (S := Unit) (X := Ctl (Unit) (Bool)) (fun ik1 _ =>
    (idx (bytes a0.Text) (ik1 : Int)).bind (fun x1 =>
    ((if (decide ((x1.toNat : Int) < 32)) = true then
      some true
    else
      (idx (bytes a0.Text) (ik1 : Int)).bind (fun x2 =>
      some (decide (126 < (x2.toNat : Int))))) : Option Bool).bind (fun b2 =>
    (if b2 = true then
      some (Step.done (Ctl.ret false))
    else
      some (Step.cont ()))))) (fun _ => Ctl.next ()) (Int.toNat ((a0.Text.size : Nat) : Int)) 0 ())) : Option (Ctl (Unit) (Bool))).bind (fun o => match o with
  | .next _ =>
    some ((((decide (0 ≤ a0.Number)) && (decide (a0.Number ≤ 9999))) && (decide (1 ≤ ((a0.Text.size : Nat) : Int)))) && (decide (((a0.Text.size : Nat) : Int) ≤ 60)))
  | .ret r => some r
  | .exit _ _ => none)

def noongunref07_ValidBook (a0 : (List GMeaning)) : Option (Bool) :=
  ((
  rangeN (S := Unit) (X := Ctl (Unit) (Bool)) (fun ik1 _ =>
    (idx a0 (ik1 : Int)).bind (fun x1 =>
    (noongunref07_meaning x1).bind (fun t1 =>
    ((if (!t1) = true then
      some true
    else
      ((if (decide (0 < (ik1 : Int))) = true then
        (subI (ik1 : Int) 1).bind (fun t2 =>
        (idx a0 t2).bind (fun x2 =>
        some (decide (x1.Number ≤ x2.Number))))
      else
        some false) : Option Bool).bind (fun b3 =>
      some b3)) : Option Bool).bind (fun b2 =>
    (if b2 = true then
      some (Step.done (Ctl.ret false))
    else
      some (Step.cont ())))))) (fun _ => Ctl.next ()) (Int.toNat ((a0.length : Nat) : Int)) 0 ()) : Option (Ctl (Unit) (Bool))).bind (fun o => match o with
  | .next _ =>
    some (decide (((a0.length : Nat) : Int) ≤ 200))
  | .ret r => some r
  | .exit _ _ => none)

noncomputable def noongunref07_Parse (a0 : ByteArray) : Option ((List GMeaning) × Int × Int) :=
  (if (decide (65536 < ((a0.size : Nat) : Int))) = true then
  some (([] : List GMeaning), 0, 3)
  else
  ((
    loopR (S := ByteArray × Int × (List GMeaning)) (X := Ctl ((List GMeaning)) ((List GMeaning) × Int × Int)) (fun (s : ByteArray × Int × (List GMeaning)) => match s with
      | (z4, z5, z6) =>
        (if (!(decide (z4 = (bs [])))) = true then
          (strings_Cut z4 (bs [10])).bind (fun o => match o with
            | (t1, t2, t3) =>
              (strings_Cut t1 (bs [32])).bind (fun o => match o with
                | (t4, t5, t6) =>
                  (atoiI t4).bind (fun t7 =>
                  (appI z6 ([(GMeaning.mk t7 t5)] : List GMeaning)).bind (fun t8 =>
                  ((if (!t3) = true then
                    some true
                  else
                    (strconv_Itoa t7).bind (fun t9 =>
                    (catI t9 (bs [32])).bind (fun t10 =>
                    (catI t10 t5).bind (fun t11 =>
                    some (!(decide (t11 = t1))))))) : Option Bool).bind (fun b2 =>
                  ((if b2 = true then
                    some true
                  else
                    (noongunref07_ValidBook t8).bind (fun t12 =>
                    some (!t12))) : Option Bool).bind (fun b3 =>
                  (if b3 = true then
                    some (Step.done (Ctl.ret (([] : List GMeaning), z5, 2)))
                  else
                    (addI z5 1).bind (fun t13 =>
                    some (Step.cont (t2, t13, t8))))))))))
        else
          some (Step.done (Ctl.next z6)))) (a0, 0, ([] : List GMeaning))) : Option (Ctl ((List GMeaning)) ((List GMeaning) × Int × Int))).bind (fun o => match o with
    | .next s1 =>
      some (s1, 0, 0)
    | .ret r => some r
    | .exit _ _ => none))

def noongunref07_SameBook (a0 : (List GMeaning)) (a1 : (List GMeaning)) : Option (Bool) :=
  (if (((a0.length : Nat) : Int) != ((a1.length : Nat) : Int)) = true then
  some false
  else
  ((
    rangeN (S := Unit) (X := Ctl (Unit) (Bool)) (fun ik1 _ =>
      (idx a0 (ik1 : Int)).bind (fun x1 =>
      (idx a1 (ik1 : Int)).bind (fun x2 =>
      (if (!(x1 == x2)) = true then
        some (Step.done (Ctl.ret false))
      else
        some (Step.cont ()))))) (fun _ => Ctl.next ()) (Int.toNat ((a0.length : Nat) : Int)) 0 ()) : Option (Ctl (Unit) (Bool))).bind (fun o => match o with
    | .next _ =>
      some true
    | .ret r => some r
    | .exit _ _ => none))

def noongunref07_Format (a0 : (List GMeaning)) : Option (ByteArray) :=
  (noongunref07_ValidBook a0).bind (fun t1 =>
  (if (!t1) = true then
  some (bs [])
  else
  ((
    rangeL (α := GMeaning) (S := ByteArray) (X := ByteArray) (fun ik1 yk1 z2 =>
      (strconv_Itoa yk1.Number).bind (fun t2 =>
      (catI t2 (bs [32])).bind (fun t3 =>
      (catI t3 yk1.Text).bind (fun t4 =>
      (catI t4 (bs [10])).bind (fun t5 =>
      (catI z2 t5).bind (fun t6 =>
      some (Step.cont t6))))))) (fun z2 => z2) a0 0 (bs [])) : Option (ByteArray)).bind (fun s1 =>
  some s1)))

noncomputable def noongunlaw07_FlagTexts (a0 : (List GMeaning)) (a1 : ByteArray) : Option (Bool) :=
  (noongunlaw07_fit a0).bind (fun t1 =>
  (if ((!t1) || ((decide (3000 < ((a1.size : Nat) : Int))) && (decide (((a1.size : Nat) : Int) ≤ 65536)))) = true then
  (noongunlaw07_awake ).bind (fun t2 =>
  some t2)
  else
  (flag_Parse a1).bind (fun o => match o with
    | (t3, t4, t5) =>
      (noongunref07_Parse a1).bind (fun o => match o with
        | (t6, t7, t8) =>
          (noongunref07_SameBook t3 t6).bind (fun t9 =>
          (if (((!t9) || (t4 != t7)) || (t5 != t8)) = true then
            some false
          else
            (flag_Format a0).bind (fun t10 =>
            (noongunref07_Format a0).bind (fun t11 =>
            (if (!(decide (t10 = t11))) = true then
              some false
            else
              (flag_ValidBook a0).bind (fun t12 =>
              (if (!t12) = true then
                (noongunlaw07_awake ).bind (fun t13 =>
                some t13)
              else
                (flag_Parse t10).bind (fun o => match o with
                  | (t14, t15, t16) =>
                    ((if (t16 == 0) = true then
                      (noongunref07_SameBook t14 a0).bind (fun t17 =>
                      some t17)
                    else
                      some false) : Option Bool).bind (fun b1 =>
                    ((if b1 = true then
                      (noongunlaw07_awake ).bind (fun t18 =>
                      some t18)
                    else
                      some false) : Option Bool).bind (fun b2 =>
                    some b2))))))))))))))

end Go.Fw
