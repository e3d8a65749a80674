/-
  What the functions compute, as functions of the values: written by a program from the functions. No condition.
-/
import Derived.Test.YtecedifkjafneaaDoorFwJ
import Derived.Test.YtecedifkjafneaaDoorFwU
import Derived.Test.YtecedifkjafneaaDoorFwX
import Derived.Test.YtecedifkjafneaaDoorFwWi
namespace Go.Fw
structure GMeaning where
  Number : Int
  Text : ByteArray
  deriving DecidableEq
instance : Flat GMeaning := ⟨2, fun a => .agg #[.int .i64 a.Number, .string a.Text], fun a => [.int .i64 a.Number, .string a.Text], fun _ => rfl, fun _ => rfl, by simp [Value.oneCell'], by decide⟩

structure GArr2 where
  x0 : Int
  x1 : Int
  deriving DecidableEq
instance : Flat GArr2 := ⟨2, fun a => .agg #[.int .i64 a.x0, .int .i64 a.x1], fun a => [.int .i64 a.x0, .int .i64 a.x1], fun _ => rfl, fun _ => rfl, by simp [Value.oneCell'], by decide⟩

def okGMeaning (a : GMeaning) : Prop := inI a.Number = true ∧ a.Text.size ≤ maxLen
def noongunlaw07_fit (a0 : (List GMeaning)) : Option (Bool) :=
  ((
  rangeL (α := GMeaning) (S := Unit) (X := Ctl (Unit) (Bool)) (fun ik1 yk1 _ =>
    (if (decide (100 < ((yk1.Text.size : Nat) : Int))) = true then
      some (Step.done (Ctl.ret false))
    else
      some (Step.cont ()))) (fun _ => Ctl.next ()) a0 0 ()) : Option (Ctl (Unit) (Bool))).bind (fun o => match o with
  | .next _ =>
    some ((decide (((a0.length : Nat) : Int) ≤ 40)) || ((decide (200 ≤ ((a0.length : Nat) : Int))) && (decide (((a0.length : Nat) : Int) ≤ 203))))
  | .ret r => some r
  | .exit _ _ => none)

def flag_within (a0 : Int) (a1 : Int) (a2 : Int) : Option (Bool) :=
  some ((decide (a1 ≤ a0)) && (decide (a0 ≤ a2)))

def flag_listed_c1 (a0 : Int) (c0 : Int) : Option (Bool) :=
  (flag_within a0 0 c0).bind (fun t1 =>
  some (!t1))

def slices_IndexFunc_int (a0 : (List Int)) (a1 : Int → Option (Bool)) : Option (Int) :=
  ((
  rangeN (S := Unit) (X := Ctl (Unit) (Int)) (fun ik1 _ =>
    (idx a0 (ik1 : Int)).bind (fun x1 =>
    (a1 x1).bind (fun t1 =>
    (if t1 = true then
      some (Step.done (Ctl.ret (ik1 : Int)))
    else
      some (Step.cont ()))))) (fun _ => Ctl.next ()) (Int.toNat ((a0.length : Nat) : Int)) 0 ()) : Option (Ctl (Unit) (Int))).bind (fun o => match o with
  | .next _ =>
    some (-1)
  | .ret r => some r
  | .exit _ _ => none)

def slices_ContainsFunc_int (a0 : (List Int)) (a1 : Int → Option (Bool)) : Option (Bool) :=
  (slices_IndexFunc_int a0 a1).bind (fun t1 =>
  some (decide (0 ≤ t1)))

def flag_listed (a0 : (List Int)) (a1 : Int) : Option (Bool) :=
  (flag_within ((a0.length : Nat) : Int) 1 4).bind (fun t1 =>
  ((if t1 = true then
  (slices_ContainsFunc_int a0 (fun x0 => flag_listed_c1 x0 a1)).bind (fun t2 =>
  some (!t2))
  else
  some false) : Option Bool).bind (fun b2 =>
  some b2))

def flag_ValidDigits (a0 : (List Int)) : Option (Bool) :=
  (flag_listed a0 9).bind (fun t1 =>
  some t1)

def slices_Index_int (a0 : (List Int)) (a1 : Int) : Option (Int) :=
  ((
  rangeN (S := Unit) (X := Ctl (Unit) (Int)) (fun ik1 _ =>
    (idx a0 (ik1 : Int)).bind (fun x1 =>
    (if (a1 == x1) = true then
      some (Step.done (Ctl.ret (ik1 : Int)))
    else
      some (Step.cont ())))) (fun _ => Ctl.next ()) (Int.toNat ((a0.length : Nat) : Int)) 0 ()) : Option (Ctl (Unit) (Int))).bind (fun o => match o with
  | .next _ =>
    some (-1)
  | .ret r => some r
  | .exit _ _ => none)

def slices_Contains_int (a0 : (List Int)) (a1 : Int) : Option (Bool) :=
  (slices_Index_int a0 a1).bind (fun t1 =>
  some (decide (0 ≤ t1)))

def flag_place (a0 : Int) : Option (Int) :=
  (subI a0 10).bind (fun t1 =>
  some t1)

noncomputable def flag_Hoist (a0 : (List Int)) : Option ((List Int) × Int) :=
  (flag_ValidDigits a0).bind (fun t1 =>
  (if (!t1) = true then
  some (([] : List Int), 1)
  else
  ((
    rangeN (S := (List Int)) (X := (List Int)) (fun ik1 z2 =>
      ((
        (idx a0 (ik1 : Int)).bind (fun x1 =>
        (slices_Contains_int z2 x1).bind (fun t2 =>
        ((
          (if t2 = true then
            ((
              loopR (S := Int) (X := Int) (fun (z5 : Int) =>
                (slices_Contains_int z2 z5).bind (fun t3 =>
                ((if t3 = true then
                  some true
                else
                  (flag_place z5).bind (fun t4 =>
                  some (decide ((ik1 : Int) ≤ t4)))) : Option Bool).bind (fun b1 =>
                ((if b1 = true then
                  some true
                else
                  (flag_place z5).bind (fun t5 =>
                  (idx a0 t5).bind (fun x2 =>
                  some (x2 != x1)))) : Option Bool).bind (fun b2 =>
                (if b2 = true then
                  (addI z5 1).bind (fun t6 =>
                  some (Step.cont t6))
                else
                  some (Step.done z5)))))) 10) : Option (Int)).bind (fun s4 =>
            some s4)
          else
            some x1)) : Option (Int)).bind (fun s3 =>
        (appI z2 ([s3] : List Int)).bind (fun t7 =>
        some t7))))) : Option ((List Int))).bind (fun s2 =>
      some (Step.cont s2))) (fun z2 => z2) (Int.toNat ((a0.length : Nat) : Int)) 0 ([] : List Int)) : Option ((List Int))).bind (fun s1 =>
  some (s1, 0))))

def flag_ValidHoist (a0 : (List Int)) : Option (Bool) :=
  (flag_listed a0 12).bind (fun t1 =>
  (if (!t1) = true then
  some false
  else
  ((
    rangeN (S := Unit) (X := Ctl (Unit) (Bool)) (fun ik1 _ =>
      (idx a0 (ik1 : Int)).bind (fun x1 =>
      (cutI a0 0 (ik1 : Int)).bind (fun t2 =>
      (slices_Contains_int t2 x1).bind (fun t3 =>
      ((if t3 = true then
        some true
      else
        ((if (decide (10 ≤ x1)) = true then
          (flag_place x1).bind (fun t4 =>
          some (decide ((ik1 : Int) ≤ t4)))
        else
          some false) : Option Bool).bind (fun b2 =>
        some b2)) : Option Bool).bind (fun b1 =>
      (if b1 = true then
        some (Step.done (Ctl.ret false))
      else
        some (Step.cont ()))))))) (fun _ => Ctl.next ()) (Int.toNat ((a0.length : Nat) : Int)) 0 ()) : Option (Ctl (Unit) (Bool))).bind (fun o => match o with
    | .next _ =>
      some true
    | .ret r => some r
    | .exit _ _ => none)))

def flag_means (a0 : (List Int)) : Option ((List Int)) :=
  ((
  rangeL (α := Int) (S := (List Int)) (X := (List Int)) (fun ik1 yk1 z2 =>
    ((
      ((
        (if (decide (10 ≤ yk1)) = true then
          (flag_place yk1).bind (fun t1 =>
          (idx z2 t1).bind (fun x1 =>
          some x1))
        else
          some yk1)) : Option (Int)).bind (fun s3 =>
      (appI z2 ([s3] : List Int)).bind (fun t2 =>
      some t2))) : Option ((List Int))).bind (fun s2 =>
    some (Step.cont s2))) (fun z2 => z2) a0 0 ([] : List Int)) : Option ((List Int))).bind (fun s1 =>
  some s1)

def flag_Means (a0 : (List Int)) : Option ((List Int) × Int) :=
  (flag_ValidHoist a0).bind (fun t1 =>
  (if (!t1) = true then
  some (([] : List Int), 1)
  else
  (flag_means a0).bind (fun t2 =>
  some (t2, 0))))

def noongunref07_SameInts (a0 : (List Int)) (a1 : (List Int)) : Option (Bool) :=
  (if (((a0.length : Nat) : Int) != ((a1.length : Nat) : Int)) = true then
  some false
  else
  ((
    rangeN (S := Unit) (X := Ctl (Unit) (Bool)) (fun ik1 _ =>
      (idx a0 (ik1 : Int)).bind (fun x1 =>
      (idx a1 (ik1 : Int)).bind (fun x2 =>
      (if (x1 != x2) = true then
        some (Step.done (Ctl.ret false))
      else
        some (Step.cont ()))))) (fun _ => Ctl.next ()) (Int.toNat ((a0.length : Nat) : Int)) 0 ()) : Option (Ctl (Unit) (Bool))).bind (fun o => match o with
    | .next _ =>
      some true
    | .ret r => some r
    | .exit _ _ => none))

noncomputable def noongunlaw07_awake  : Option (Bool) :=
  (flag_Hoist ([1, 2, 1, 1] : List Int)).bind (fun o => match o with
  | (t1, t2) =>
    (flag_Means ([1, 2, 10, 12] : List Int)).bind (fun o => match o with
      | (t3, t4) =>
        ((if (t2 == 0) = true then
          (noongunref07_SameInts t1 ([1, 2, 10, 12] : List Int)).bind (fun t5 =>
          some t5)
        else
          some false) : Option Bool).bind (fun b1 =>
        ((if (b1 && (t4 == 0)) = true then
          (noongunref07_SameInts t3 ([1, 2, 1, 1] : List Int)).bind (fun t6 =>
          some t6)
        else
          some false) : Option Bool).bind (fun b2 =>
        some b2))))

def flag_ValidBook_c1 (a0 : Int) : Option (Bool) :=
  some ((decide (a0 < 32)) || (decide (126 < a0)))

def flag_isNumber (a0 : Int) : Option (Bool) :=
  (flag_within a0 0 9999).bind (fun t1 =>
  some t1)

def runesL (s : ByteArray) : Nat → Nat → List (Nat × Nat)
  | 0, _ => []
  | n + 1, p => if p < s.size then (p, (Utf8.decode s p).1) :: runesL s n (p + (Utf8.decode s p).2) else []
def idxR (f : Int → Option Bool) (b : Bool) : List (Nat × Nat) → Option Int
  | [] => some (-1)
  | (p, r) :: l => (f (r : Int)).bind fun t => if (t == b) = true then some (p : Int) else idxR f b l
def strings_indexFunc (a0 : ByteArray) (a1 : Int → Option (Bool)) (a2 : Bool) : Option Int := if a0.size ≤ 1099511627776 then idxR a1 a2 (runesL a0 (a0.size + 1) 0) else none
theorem dec_w (s : ByteArray) (i : Nat) : 1 ≤ (Utf8.decode s i).2 := by
  unfold Utf8.decode
  simp only
  repeat' split
  all_goals simp

def strings_IndexFunc (a0 : ByteArray) (a1 : Int → Option (Bool)) : Option (Int) :=
  (strings_indexFunc a0 a1 true).bind (fun t1 =>
  some t1)

def strings_ContainsFunc (a0 : ByteArray) (a1 : Int → Option (Bool)) : Option (Bool) :=
  (strings_IndexFunc a0 a1).bind (fun t1 =>
  some (decide (0 ≤ t1)))

def flag_ValidBook (a0 : (List GMeaning)) : Option (Bool) :=
  ((
  rangeN (S := Unit) (X := Ctl (Unit) (Bool)) (fun ik1 _ =>
    (idx a0 (ik1 : Int)).bind (fun x1 =>
    (flag_isNumber x1.Number).bind (fun t1 =>
    ((if (!t1) = true then
      some true
    else
      ((if (decide (0 < (ik1 : Int))) = true then
        (subI (ik1 : Int) 1).bind (fun t2 =>
        (idx a0 t2).bind (fun x2 =>
        some (decide (x1.Number ≤ x2.Number))))
      else
        some false) : Option Bool).bind (fun b3 =>
      some b3)) : Option Bool).bind (fun b2 =>
    ((if b2 = true then
      some true
    else
      (flag_within ((x1.Text.size : Nat) : Int) 1 60).bind (fun t3 =>
      some (!t3))) : Option Bool).bind (fun b4 =>
    ((if b4 = true then
      some true
    else
      (strings_ContainsFunc x1.Text (fun x0 => flag_ValidBook_c1 x0)).bind (fun t4 =>
      some t4)) : Option Bool).bind (fun b5 =>
    (if b5 = true then
      some (Step.done (Ctl.ret false))
    else
      some (Step.cont ())))))))) (fun _ => Ctl.next ()) (Int.toNat ((a0.length : Nat) : Int)) 0 ()) : Option (Ctl (Unit) (Bool))).bind (fun o => match o with
  | .next _ =>
    some (decide (((a0.length : Nat) : Int) ≤ 200))
  | .ret r => some r
  | .exit _ _ => none)

def strconv_Itoa (a0 : Int) : Option ByteArray := if 0 ≤ a0 ∧ a0 ≤ 9223372036854775807 then some ⟨(Lib.decDigits a0.toNat).toArray⟩ else none
def digsOf (m : Nat) : List Int := (Lib.decDigits m).map fun b => (b.toNat : Int) - 48
def flag_digitsOf (a0 : Int) : Option (List Int) := if 0 ≤ a0 ∧ a0 ≤ 9223372036854775807 then some (digsOf a0.toNat) else none

def flag_distance (a0 : Int) (a1 : Int) : Option (Int) :=
  (flag_digitsOf a0).bind (fun t1 =>
  (flag_digitsOf a1).bind (fun t2 =>
  (if (((t1.length : Nat) : Int) != ((t2.length : Nat) : Int)) = true then
  some 4
  else
  ((
    rangeN (S := Int) (X := Int) (fun ik1 z2 =>
      ((
        (idx t1 (ik1 : Int)).bind (fun x1 =>
        (idx t2 (ik1 : Int)).bind (fun x2 =>
        ((
          (if (x1 != x2) = true then
            (addI z2 1).bind (fun t3 =>
            some t3)
          else
            some z2)) : Option (Int)).bind (fun s3 =>
        some s3)))) : Option (Int)).bind (fun s2 =>
      some (Step.cont s2))) (fun z2 => z2) (Int.toNat ((t1.length : Nat) : Int)) 0 0) : Option (Int)).bind (fun s1 =>
  some s1))))

def flag_Close_c1 (a0 : Int) (a1 : Int) (c0 : Int) : Option (Bool) :=
  (flag_distance a0 a1).bind (fun t1 =>
  some (decide (t1 < c0)))

def flag_pairs (a0 : (List GMeaning)) (a1 : Int → Int → Option (Bool)) : Option ((List GArr2)) :=
  ((
  rangeN (S := (List GArr2)) (X := (List GArr2)) (fun ik1 z2 =>
    ((
      (idx a0 (ik1 : Int)).bind (fun x1 =>
      (addI (ik1 : Int) 1).bind (fun t1 =>
      (cutI a0 t1 ((a0.length : Nat) : Int)).bind (fun t2 =>
      ((
        rangeL (α := GMeaning) (S := (List GArr2)) (X := (List GArr2)) (fun ik2 yk2 z5 =>
          ((
            (a1 x1.Number yk2.Number).bind (fun t3 =>
            ((
              (if t3 = true then
                (appI z5 ([(GArr2.mk x1.Number yk2.Number)] : List GArr2)).bind (fun t4 =>
                some t4)
              else
                some z5)) : Option ((List GArr2))).bind (fun s5 =>
            some s5))) : Option ((List GArr2))).bind (fun s4 =>
          some (Step.cont s4))) (fun z5 => z5) t2 0 z2) : Option ((List GArr2))).bind (fun s3 =>
      some s3))))) : Option ((List GArr2))).bind (fun s2 =>
    some (Step.cont s2))) (fun z2 => z2) (Int.toNat ((a0.length : Nat) : Int)) 0 ([] : List GArr2)) : Option ((List GArr2))).bind (fun s1 =>
  some s1)

def flag_Close (a0 : (List GMeaning)) (a1 : Int) : Option ((List GArr2) × Int) :=
  (flag_ValidBook a0).bind (fun t1 =>
  (if (!t1) = true then
  some (([] : List GArr2), 1)
  else
  (flag_within a1 1 4).bind (fun t2 =>
  (if (!t2) = true then
    some (([] : List GArr2), 7)
  else
    (flag_pairs a0 (fun x0 x1 => flag_Close_c1 x0 x1 a1)).bind (fun t3 =>
    some (t3, 0))))))

def noongunref07_meaning (a0 : GMeaning) : Option (Bool) :=
  ((
  chkI ((a0.Text.size : Nat) : Int) (rangeN (S := Unit) (X := Ctl (Unit) (Bool)) (fun ik1 _ =>
    (idx (bytes a0.Text) (ik1 : Int)).bind (fun x1 =>
    ((if (decide ((x1.toNat : Int) < 32)) = true then
      some true
    else
      (idx (bytes a0.Text) (ik1 : Int)).bind (fun x2 =>
      some (decide (126 < (x2.toNat : Int))))) : Option Bool).bind (fun b2 =>
    (if b2 = true then
      some (Step.done (Ctl.ret false))
    else
      some (Step.cont ()))))) (fun _ => Ctl.next ()) (Int.toNat ((a0.Text.size : Nat) : Int)) 0 ())) : Option (Ctl (Unit) (Bool))).bind (fun o => match o with
  | .next _ =>
    some ((((decide (0 ≤ a0.Number)) && (decide (a0.Number ≤ 9999))) && (decide (1 ≤ ((a0.Text.size : Nat) : Int)))) && (decide (((a0.Text.size : Nat) : Int) ≤ 60)))
  | .ret r => some r
  | .exit _ _ => none)

def noongunref07_ValidBook (a0 : (List GMeaning)) : Option (Bool) :=
  ((
  rangeN (S := Unit) (X := Ctl (Unit) (Bool)) (fun ik1 _ =>
    (idx a0 (ik1 : Int)).bind (fun x1 =>
    (noongunref07_meaning x1).bind (fun t1 =>
    ((if (!t1) = true then
      some true
    else
      ((if (decide (0 < (ik1 : Int))) = true then
        (subI (ik1 : Int) 1).bind (fun t2 =>
        (idx a0 t2).bind (fun x2 =>
        some (decide (x1.Number ≤ x2.Number))))
      else
        some false) : Option Bool).bind (fun b3 =>
      some b3)) : Option Bool).bind (fun b2 =>
    (if b2 = true then
      some (Step.done (Ctl.ret false))
    else
      some (Step.cont ())))))) (fun _ => Ctl.next ()) (Int.toNat ((a0.length : Nat) : Int)) 0 ()) : Option (Ctl (Unit) (Bool))).bind (fun o => match o with
  | .next _ =>
    some (decide (((a0.length : Nat) : Int) ≤ 200))
  | .ret r => some r
  | .exit _ _ => none)

def noongunref07_digitsOf (a0 : Int) : Option ((List Int)) :=
  (strconv_Itoa a0).bind (fun t1 =>
  (bytesI t1).bind (fun t2 =>
  ((
  rangeL (α := UInt8) (S := (List Int)) (X := (List Int)) (fun ik1 yk1 z2 =>
    (cvI .u8 ((yk1.toNat : Int) - 48)).bind (fun t3 =>
    (cvI .i64 t3).bind (fun t4 =>
    (appI z2 ([t4] : List Int)).bind (fun t5 =>
    some (Step.cont t5))))) (fun z2 => z2) t2 0 ([] : List Int)) : Option ((List Int))).bind (fun s1 =>
  some s1)))

def noongunref07_distance (a0 : Int) (a1 : Int) : Option (Int) :=
  (noongunref07_digitsOf a0).bind (fun t1 =>
  (noongunref07_digitsOf a1).bind (fun t2 =>
  (if (((t1.length : Nat) : Int) != ((t2.length : Nat) : Int)) = true then
  some 4
  else
  ((
    rangeN (S := Int) (X := Int) (fun ik1 z2 =>
      ((
        (idx t1 (ik1 : Int)).bind (fun x1 =>
        (idx t2 (ik1 : Int)).bind (fun x2 =>
        ((
          (if (x1 != x2) = true then
            (addI z2 1).bind (fun t3 =>
            some t3)
          else
            some z2)) : Option (Int)).bind (fun s3 =>
        some s3)))) : Option (Int)).bind (fun s2 =>
      some (Step.cont s2))) (fun z2 => z2) (Int.toNat ((t1.length : Nat) : Int)) 0 0) : Option (Int)).bind (fun s1 =>
  some s1))))

def noongunref07_Close (a0 : (List GMeaning)) (a1 : Int) : Option ((List GArr2) × Int) :=
  (noongunref07_ValidBook a0).bind (fun t1 =>
  (if (!t1) = true then
  some (([] : List GArr2), 1)
  else
  (if ((decide (a1 < 1)) || (decide (4 < a1))) = true then
    some (([] : List GArr2), 7)
  else
    ((
      rangeN (S := (List GArr2)) (X := (List GArr2)) (fun ik1 z2 =>
        ((
          (idx a0 (ik1 : Int)).bind (fun x1 =>
          (addI (ik1 : Int) 1).bind (fun t2 =>
          (cutI a0 t2 ((a0.length : Nat) : Int)).bind (fun t3 =>
          ((
            rangeL (α := GMeaning) (S := (List GArr2)) (X := (List GArr2)) (fun ik2 yk2 z5 =>
              ((
                (noongunref07_distance x1.Number yk2.Number).bind (fun t4 =>
                ((
                  (if (decide (t4 < a1)) = true then
                    (appI z5 ([(GArr2.mk x1.Number yk2.Number)] : List GArr2)).bind (fun t5 =>
                    some t5)
                  else
                    some z5)) : Option ((List GArr2))).bind (fun s5 =>
                some s5))) : Option ((List GArr2))).bind (fun s4 =>
              some (Step.cont s4))) (fun z5 => z5) t3 0 z2) : Option ((List GArr2))).bind (fun s3 =>
          some s3))))) : Option ((List GArr2))).bind (fun s2 =>
        some (Step.cont s2))) (fun z2 => z2) (Int.toNat ((a0.length : Nat) : Int)) 0 ([] : List GArr2)) : Option ((List GArr2))).bind (fun s1 =>
    some (s1, 0)))))

def slices_Clone_int (a0 : (List Int)) : Option ((List Int)) :=
  (appI ([] : List Int) a0).bind (fun t1 =>
  some t1)

def flag_turned (a0 : (List Int)) : Option ((List Int)) :=
  (slices_Clone_int a0).bind (fun t1 =>
  (turnL List.reverse t1).bind (fun t2 =>
  some t2))

def slices_Equal_int (a0 : (List Int)) (a1 : (List Int)) : Option (Bool) :=
  (if (((a0.length : Nat) : Int) != ((a1.length : Nat) : Int)) = true then
  some false
  else
  ((
    rangeN (S := Unit) (X := Ctl (Unit) (Bool)) (fun ik1 _ =>
      (idx a0 (ik1 : Int)).bind (fun x1 =>
      (idx a1 (ik1 : Int)).bind (fun x2 =>
      (if (x1 != x2) = true then
        some (Step.done (Ctl.ret false))
      else
        some (Step.cont ()))))) (fun _ => Ctl.next ()) (Int.toNat ((a0.length : Nat) : Int)) 0 ()) : Option (Ctl (Unit) (Bool))).bind (fun o => match o with
    | .next _ =>
      some true
    | .ret r => some r
    | .exit _ _ => none))

def flag_Traps_c1 (a0 : Int) (a1 : Int) : Option (Bool) :=
  (flag_digitsOf a0).bind (fun t1 =>
  (flag_turned t1).bind (fun t2 =>
  (flag_digitsOf a1).bind (fun t3 =>
  (slices_Equal_int t2 t3).bind (fun t4 =>
  some t4))))

def flag_Traps (a0 : (List GMeaning)) : Option ((List GArr2) × Int) :=
  (flag_ValidBook a0).bind (fun t1 =>
  (if (!t1) = true then
  some (([] : List GArr2), 1)
  else
  (flag_pairs a0 (fun x0 x1 => flag_Traps_c1 x0 x1)).bind (fun t2 =>
  some (t2, 0))))

def noongunref07_turned (a0 : (List Int)) : Option ((List Int)) :=
  ((
  rangeL (α := Int) (S := (List Int)) (X := (List Int)) (fun ik1 yk1 z2 =>
    (appI ([yk1] : List Int) z2).bind (fun t1 =>
    some (Step.cont t1))) (fun z2 => z2) a0 0 ([] : List Int)) : Option ((List Int))).bind (fun s1 =>
  some s1)

def noongunref07_Traps (a0 : (List GMeaning)) : Option ((List GArr2) × Int) :=
  (noongunref07_ValidBook a0).bind (fun t1 =>
  (if (!t1) = true then
  some (([] : List GArr2), 1)
  else
  ((
    rangeN (S := (List GArr2)) (X := (List GArr2)) (fun ik1 z2 =>
      ((
        (idx a0 (ik1 : Int)).bind (fun x1 =>
        (addI (ik1 : Int) 1).bind (fun t2 =>
        (cutI a0 t2 ((a0.length : Nat) : Int)).bind (fun t3 =>
        ((
          rangeL (α := GMeaning) (S := (List GArr2)) (X := (List GArr2)) (fun ik2 yk2 z5 =>
            ((
              (noongunref07_digitsOf x1.Number).bind (fun t4 =>
              (noongunref07_turned t4).bind (fun t5 =>
              (noongunref07_digitsOf yk2.Number).bind (fun t6 =>
              (noongunref07_SameInts t5 t6).bind (fun t7 =>
              ((
                (if t7 = true then
                  (appI z5 ([(GArr2.mk x1.Number yk2.Number)] : List GArr2)).bind (fun t8 =>
                  some t8)
                else
                  some z5)) : Option ((List GArr2))).bind (fun s5 =>
              some s5)))))) : Option ((List GArr2))).bind (fun s4 =>
            some (Step.cont s4))) (fun z5 => z5) t3 0 z2) : Option ((List GArr2))).bind (fun s3 =>
        some s3))))) : Option ((List GArr2))).bind (fun s2 =>
      some (Step.cont s2))) (fun z2 => z2) (Int.toNat ((a0.length : Nat) : Int)) 0 ([] : List GArr2)) : Option ((List GArr2))).bind (fun s1 =>
  some (s1, 0))))

def flag_isSet (a0 : Int) : Option (Bool) :=
  (flag_within a0 0 8191).bind (fun t1 =>
  some t1)

def hoistsFit (digits h : List Int) (f : Int) : Bool :=
  if 10 ≤ f then decide (f - 10 < (h.length : Int)) && (idx digits (f - 10) == idx digits (h.length : Int)) else idx digits (h.length : Int) == some f
def hoistsOk (digits h : List Int) (left : Int) (f : Nat) : Bool := hoistsFit digits h (f : Int) && !(bits .and .i64 (left / 2 ^ f) 1 == 0)
def hoistsG (digits : List Int) : Nat → List Int → Int → List (List Int)
  | 0, h, _ => [h]
  | n + 1, h, left => (List.range 13).flatMap fun f => if hoistsOk digits h left f then hoistsG digits n (h ++ [(f : Int)]) (bits .andNot .i64 left (2 ^ f)) else []
def flag_hoists_c1 (c0 : List Int) (c1 : Int) : Option (List (List Int)) := if c0.length ≤ 1000 then some (hoistsG c0 c0.length [] c1) else none

def flag_can (a0 : (List Int)) (a1 : Int) : Option (Bool) :=
  (flag_hoists_c1 a0 a1).bind (fun xs1 =>
  ((
  rangeL (α := (List Int)) (S := Unit) (X := Ctl (Unit) (Bool)) (fun _ x1 _ =>
    some (Step.done (Ctl.ret true))) (fun _ => Ctl.next ()) xs1 0 ()) : Option (Ctl (Unit) (Bool))).bind (fun o => match o with
  | .next _ =>
    some false
  | .ret r => some r
  | .exit _ _ => none))

def cmp_isNaN_int (a0 : Int) : Option (Bool) :=
  some (a0 != a0)

def cmp_Compare_int (a0 : Int) (a1 : Int) : Option (Int) :=
  (cmp_isNaN_int a0).bind (fun t1 =>
  (cmp_isNaN_int a1).bind (fun t2 =>
  (if t1 = true then
  (if t2 = true then
    some 0
  else
    some (-1))
  else
  (if t2 = true then
    some 1
  else
    (if (decide (a0 < a1)) = true then
      some (-1)
    else
      (if (decide (a1 < a0)) = true then
        some 1
      else
        some 0))))))

def cmpI (a b : Int) : Int := if a < b then -1 else if b < a then 1 else 0
theorem Compare_int_eq (a b : Int) : cmp_Compare_int a b = some (cmpI a b) := by
  unfold cmp_Compare_int cmp_isNaN_int cmpI
  by_cases h : a < b
  · simp [h]
  · by_cases h2 : b < a <;> simp [h, h2]
theorem int_lt (x y : Int) : Go.Proofs.ltOf cmpI x y = decide (x < y) := by
  unfold Go.Proofs.ltOf cmpI
  by_cases h : x < y
  · simp [h]
  · by_cases h2 : y < x <;> simp [h, h2]
theorem int_swo : Go.Sort.SWO (Go.Proofs.ltOf cmpI) where
  irrefl x := by rw [int_lt]; simp
  trans x y z h1 h2 := by
    rw [int_lt] at *
    simp only [decide_eq_true_eq] at *
    omega
  ntrans x y z h1 h2 := by
    rw [int_lt] at *
    simp only [decide_eq_false_iff_not] at *
    omega
noncomputable def sortInts : List Int → List Int := srtOf cmpI

noncomputable def flag_Lost (a0 : (List GMeaning)) (a1 : Int) : Option ((List Int) × Int) :=
  (flag_ValidBook a0).bind (fun t1 =>
  (if (!t1) = true then
  some (([] : List Int), 1)
  else
  (flag_isSet a1).bind (fun t2 =>
  (if (!t2) = true then
    some (([] : List Int), 7)
  else
    ((
      rangeL (α := GMeaning) (S := (List Int)) (X := (List Int)) (fun ik1 yk1 z2 =>
        ((
          (flag_digitsOf yk1.Number).bind (fun t3 =>
          (flag_can t3 a1).bind (fun t4 =>
          ((
            (if (!t4) = true then
              (appI z2 ([yk1.Number] : List Int)).bind (fun t5 =>
              some t5)
            else
              some z2)) : Option ((List Int))).bind (fun s3 =>
          some s3)))) : Option ((List Int))).bind (fun s2 =>
        some (Step.cont s2))) (fun z2 => z2) a0 0 ([] : List Int)) : Option ((List Int))).bind (fun s1 =>
    (srtI sortInts s1).bind (fun t6 =>
    some (t6, 0)))))))

def noongunref07_set (a0 : Int) : Option (Bool) :=
  some ((decide (0 ≤ a0)) && (decide (a0 < 8192)))

def noongunref07_ValidHoist (a0 : (List Int)) : Option (Bool) :=
  ((
  rangeN (S := Unit) (X := Ctl (Unit) (Bool)) (fun ik1 _ =>
    ((
      (idx a0 (ik1 : Int)).bind (fun x1 =>
      ((if ((decide (x1 < 0)) || (decide (13 ≤ x1))) = true then
        some true
      else
        (subI x1 10).bind (fun t1 =>
        some (decide ((ik1 : Int) ≤ t1)))) : Option Bool).bind (fun b1 =>
      (if b1 = true then
        some (Ctl.ret false)
      else
        (cutI a0 0 (ik1 : Int)).bind (fun t2 =>
        ((
          rangeL (α := Int) (S := Unit) (X := Ctl (Unit) (Bool)) (fun ik2 yk2 _ =>
            (if (x1 == yk2) = true then
              some (Step.done (Ctl.ret false))
            else
              some (Step.cont ()))) (fun _ => Ctl.next ()) t2 0 ()) : Option (Ctl (Unit) (Bool))).bind (fun o => match o with
          | .next _ =>
            some (Ctl.next ())
          | .ret r => some (Ctl.ret r)
          | .exit _ _ => none)))))) : Option (Ctl (Unit) (Bool))).bind (fun o => match o with
      | .next _ =>
        some (Step.cont ())
      | .ret r => some (Step.done (Ctl.ret r))
      | .exit _ _ => none)) (fun _ => Ctl.next ()) (Int.toNat ((a0.length : Nat) : Int)) 0 ()) : Option (Ctl (Unit) (Bool))).bind (fun o => match o with
  | .next _ =>
    some ((decide (1 ≤ ((a0.length : Nat) : Int))) && (decide (((a0.length : Nat) : Int) ≤ 4)))
  | .ret r => some r
  | .exit _ _ => none)

def noongunref07_means (a0 : (List Int)) : Option ((List Int)) :=
  ((
  rangeL (α := Int) (S := (List Int)) (X := (List Int)) (fun ik1 yk1 z2 =>
    ((
      ((
        (if (decide (10 ≤ yk1)) = true then
          (subI yk1 10).bind (fun t1 =>
          (idx z2 t1).bind (fun x1 =>
          some x1))
        else
          some yk1)) : Option (Int)).bind (fun s3 =>
      (appI z2 ([s3] : List Int)).bind (fun t2 =>
      some t2))) : Option ((List Int))).bind (fun s2 =>
    some (Step.cont s2))) (fun z2 => z2) a0 0 ([] : List Int)) : Option ((List Int))).bind (fun s1 =>
  some s1)

def noongunref07_hoists (a0 : (List Int)) (a1 : Int) : Option ((List (List Int))) :=
  ((
  rangeN (S := (List (List Int))) (X := (List (List Int))) (fun ik1 z2 =>
    ((
      ((
        (if ((ik1 : Int) == 0) = true then
          some ([([] : (List Int))] : List (List Int))
        else
          some z2)) : Option ((List (List Int)))).bind (fun s3 =>
      ((
        rangeL (α := (List Int)) (S := (List (List Int))) (X := (List (List Int))) (fun ik2 yk2 z5 =>
          ((
            ((
              rangeN (S := (List (List Int))) (X := (List (List Int))) (fun ik3 z8 =>
                ((
                  (appI ([] : List Int) yk2).bind (fun t1 =>
                  (appI t1 ([(ik3 : Int)] : List Int)).bind (fun t2 =>
                  ((
                    (shrI a1 (ik3 : Int)).bind (fun t3 =>
                    (if ((bits .and .i64 t3 1) == 1) = true then
                      (noongunref07_ValidHoist t2).bind (fun t4 =>
                      (if t4 = true then
                        (noongunref07_means t2).bind (fun t5 =>
                        (addI (ik1 : Int) 1).bind (fun t6 =>
                        (cutI a0 0 t6).bind (fun t7 =>
                        (noongunref07_SameInts t5 t7).bind (fun t8 =>
                        some t8))))
                      else
                        some false))
                    else
                      some false))) : Option (Bool)).bind (fun s8 =>
                  ((
                    (if s8 = true then
                      (appI z8 ([t2] : List (List Int))).bind (fun t9 =>
                      some t9)
                    else
                      some z8)) : Option ((List (List Int)))).bind (fun s9 =>
                  some s9))))) : Option ((List (List Int)))).bind (fun s7 =>
                some (Step.cont s7))) (fun z8 => z8) (Int.toNat 13) 0 z5) : Option ((List (List Int)))).bind (fun s6 =>
            some s6)) : Option ((List (List Int)))).bind (fun s5 =>
          some (Step.cont s5))) (fun z5 => z5) s3 0 ([] : List (List Int))) : Option ((List (List Int)))).bind (fun s4 =>
      some s4))) : Option ((List (List Int)))).bind (fun s2 =>
    some (Step.cont s2))) (fun z2 => z2) (Int.toNat ((a0.length : Nat) : Int)) 0 ([] : List (List Int))) : Option ((List (List Int)))).bind (fun s1 =>
  some s1)

def noongunref07_Lost (a0 : (List GMeaning)) (a1 : Int) : Option ((List Int) × Int) :=
  (noongunref07_ValidBook a0).bind (fun t1 =>
  (if (!t1) = true then
  some (([] : List Int), 1)
  else
  (noongunref07_set a1).bind (fun t2 =>
  (if (!t2) = true then
    some (([] : List Int), 7)
  else
    ((
      rangeL (α := GMeaning) (S := (List Int)) (X := (List Int)) (fun ik1 yk1 z2 =>
        ((
          (noongunref07_digitsOf yk1.Number).bind (fun t3 =>
          (noongunref07_hoists t3 a1).bind (fun t4 =>
          ((
            (if (((t4.length : Nat) : Int) == 0) = true then
              (appI z2 ([yk1.Number] : List Int)).bind (fun t5 =>
              some t5)
            else
              some z2)) : Option ((List Int))).bind (fun s3 =>
          some s3)))) : Option ((List Int))).bind (fun s2 =>
        some (Step.cont s2))) (fun z2 => z2) a0 0 ([] : List Int)) : Option ((List Int))).bind (fun s1 =>
    some (s1, 0))))))

def noongunref07_SamePairs (a0 : (List GArr2)) (a1 : (List GArr2)) : Option (Bool) :=
  (if (((a0.length : Nat) : Int) != ((a1.length : Nat) : Int)) = true then
  some false
  else
  ((
    rangeN (S := Unit) (X := Ctl (Unit) (Bool)) (fun ik1 _ =>
      (idx a0 (ik1 : Int)).bind (fun x1 =>
      (idx a1 (ik1 : Int)).bind (fun x2 =>
      (if (!(x1 == x2)) = true then
        some (Step.done (Ctl.ret false))
      else
        some (Step.cont ()))))) (fun _ => Ctl.next ()) (Int.toNat ((a0.length : Nat) : Int)) 0 ()) : Option (Ctl (Unit) (Bool))).bind (fun o => match o with
    | .next _ =>
      some true
    | .ret r => some r
    | .exit _ _ => none))

noncomputable def noongunlaw07_FlagTraps (a0 : (List GMeaning)) (a1 : Int) (a2 : Int) : Option (Bool) :=
  (noongunlaw07_fit a0).bind (fun t1 =>
  (if (!t1) = true then
  (noongunlaw07_awake ).bind (fun t2 =>
  some t2)
  else
  (flag_Close a0 a1).bind (fun o => match o with
    | (t3, t4) =>
      (noongunref07_Close a0 a1).bind (fun o => match o with
        | (t5, t6) =>
          (flag_Traps a0).bind (fun o => match o with
            | (t7, t8) =>
              (noongunref07_Traps a0).bind (fun o => match o with
                | (t9, t10) =>
                  (flag_Lost a0 a2).bind (fun o => match o with
                    | (t11, t12) =>
                      (noongunref07_Lost a0 a2).bind (fun o => match o with
                        | (t13, t14) =>
                          (noongunref07_SamePairs t3 t5).bind (fun t15 =>
                          ((if (t15 && (t4 == t6)) = true then
                            (noongunref07_SamePairs t7 t9).bind (fun t16 =>
                            some t16)
                          else
                            some false) : Option Bool).bind (fun b1 =>
                          ((if (b1 && (t8 == t10)) = true then
                            (noongunref07_SameInts t11 t13).bind (fun t17 =>
                            some t17)
                          else
                            some false) : Option Bool).bind (fun b2 =>
                          ((if (b2 && (t12 == t14)) = true then
                            (noongunlaw07_awake ).bind (fun t18 =>
                            some t18)
                          else
                            some false) : Option Bool).bind (fun b3 =>
                          some b3))))))))))))

end Go.Fw
