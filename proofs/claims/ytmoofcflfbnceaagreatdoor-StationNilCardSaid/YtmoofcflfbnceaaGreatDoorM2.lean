/-
  What the other functions compute: written by a program from the functions. No condition.
-/
import Derived.Test.YtmoofcflfbnceaaGreatDoorSgCirc
namespace Go.Fw

def strings_Trim (a0 a1 : ByteArray) : Option ByteArray := if a0.size ≤ 9223372036854775807 ∧ a1.size < 4294967281 ∧ a1.data.toList.all (fun b => decide (b.toNat < 128)) = true then some ⟨(Lib.trimS a0.data.toList a1.data.toList).toArray⟩ else none

def station_proper (a0 : ByteArray) : Option (Bool) :=
  ((if ((decide (a0 = (bs []))) || (decide (200 < ((a0.size : Nat) : Int)))) = true then
  some true
  else
  (strings_Trim a0 (bs [32])).bind (fun t1 =>
  some (!(decide (t1 = a0))))) : Option Bool).bind (fun b1 =>
  (if b1 = true then
  some false
  else
  (bytesI a0).bind (fun t2 =>
  ((
    rangeL (α := UInt8) (S := Unit) (X := Ctl (Unit) (Bool)) (fun ik1 yk1 _ =>
      (if ((decide ((yk1.toNat : Int) < 32)) || (decide (126 < (yk1.toNat : Int)))) = true then
        some (Step.done (Ctl.ret false))
      else
        some (Step.cont ()))) (fun _ => Ctl.next ()) t2 0 ()) : Option (Ctl (Unit) (Bool))).bind (fun o => match o with
    | .next _ =>
      some true
    | .ret r => some r
    | .exit _ _ => none))))

def strings_Split (a0 a1 : ByteArray) : Option (List ByteArray) := splitI a0 a1

def strconv_Itoa (a0 : Int) : Option ByteArray := if -9223372036854775808 ≤ a0 ∧ a0 ≤ 9223372036854775807 then some ⟨(Lib.itoa a0).toArray⟩ else none

def station_values (a0 : (List ByteArray)) : Option ((List Int)) :=
  ((
  rangeL (α := ByteArray) (S := (List Int)) (X := (List Int)) (fun ik1 yk1 z2 =>
    (atoiI yk1).bind (fun t1 =>
    (appI z2 ([t1] : List Int)).bind (fun t2 =>
    some (Step.cont t2)))) (fun z2 => z2) a0 0 ([] : List Int)) : Option ((List Int))).bind (fun s1 =>
  some s1)

def station_session_time (a0 : GSession) (a1 : Int) : Option (Ref (Int)) :=
  mustB (decide (a1 < 86400000)) 7 (
  (mulI a0.inside.day 86400000).bind (fun t1 =>
  (addI t1 a1).bind (fun t2 =>
  some (Ref.ok t2))))

def sight_within (a0 : Int) (a1 : Int) (a2 : Int) : Option (Bool) :=
  some ((decide (a1 ≤ a0)) && (decide (a0 ≤ a2)))

def sight_Valid_c1 (a0 : Int) : Option (Bool) :=
  (sight_within a0 0 1000000).bind (fun t1 =>
  some (!t1))

def slices_IndexFunc_int (a0 : (List Int)) (a1 : Int → Option (Bool)) : Option (Int) :=
  ((
  rangeN (S := Unit) (X := Ctl (Unit) (Int)) (fun ik1 _ =>
    (idx a0 (ik1 : Int)).bind (fun x1 =>
    (a1 x1).bind (fun t1 =>
    (if t1 = true then
      some (Step.done (Ctl.ret (ik1 : Int)))
    else
      some (Step.cont ()))))) (fun _ => Ctl.next ()) (Int.toNat ((a0.length : Nat) : Int)) 0 ()) : Option (Ctl (Unit) (Int))).bind (fun o => match o with
  | .next _ =>
    some (-1)
  | .ret r => some r
  | .exit _ _ => none)

def slices_ContainsFunc_int (a0 : (List Int)) (a1 : Int → Option (Bool)) : Option (Bool) :=
  (slices_IndexFunc_int a0 a1).bind (fun t1 =>
  some (decide (0 ≤ t1)))

def sight_validSight (a0 : GSight) (a1 : Int) : Option (Bool) :=
  (sight_within a0.At 0 1000000000000).bind (fun t1 =>
  ((if t1 = true then
  (subI a1 1).bind (fun t2 =>
  (sight_within a0.A 0 t2).bind (fun t3 =>
  some t3))
  else
  some false) : Option Bool).bind (fun b2 =>
  ((if b2 = true then
  (subI a1 1).bind (fun t4 =>
  (sight_within a0.B 0 t4).bind (fun t5 =>
  some t5))
  else
  some false) : Option Bool).bind (fun b3 =>
  ((if (b3 && (a0.A != a0.B)) = true then
  (sight_within a0.Lo (-86400000) a0.Hi).bind (fun t6 =>
  some t6)
  else
  some false) : Option Bool).bind (fun b4 =>
  some (b4 && (decide (a0.Hi ≤ 86400000)))))))

def sight_Valid_c2 (a0 : GSight) (c0 : Int) : Option (Bool) :=
  (sight_validSight a0 c0).bind (fun t1 =>
  some (!t1))

def slices_IndexFunc_Sight (a0 : (List GSight)) (a1 : GSight → Option (Bool)) : Option (Int) :=
  ((
  rangeN (S := Unit) (X := Ctl (Unit) (Int)) (fun ik1 _ =>
    (idx a0 (ik1 : Int)).bind (fun x1 =>
    (a1 x1).bind (fun t1 =>
    (if t1 = true then
      some (Step.done (Ctl.ret (ik1 : Int)))
    else
      some (Step.cont ()))))) (fun _ => Ctl.next ()) (Int.toNat ((a0.length : Nat) : Int)) 0 ()) : Option (Ctl (Unit) (Int))).bind (fun o => match o with
  | .next _ =>
    some (-1)
  | .ret r => some r
  | .exit _ _ => none)

def slices_ContainsFunc_Sight (a0 : (List GSight)) (a1 : GSight → Option (Bool)) : Option (Bool) :=
  (slices_IndexFunc_Sight a0 a1).bind (fun t1 =>
  some (decide (0 ≤ t1)))

def sight_Valid (a0 : GNet) : Option (Bool) :=
  (sight_within ((a0.Rates.length : Nat) : Int) 2 8).bind (fun t1 =>
  ((if (!t1) = true then
  some true
  else
  (idx a0.Rates 0).bind (fun x1 =>
  some (x1 != 0))) : Option Bool).bind (fun b3 =>
  ((if b3 = true then
  some true
  else
  (slices_ContainsFunc_int a0.Rates (fun x0 => sight_Valid_c1 x0)).bind (fun t2 =>
  some t2)) : Option Bool).bind (fun b4 =>
  (if b4 = true then
  some false
  else
  ((if (decide (((a0.Sights.length : Nat) : Int) ≤ 30)) = true then
    (slices_ContainsFunc_Sight a0.Sights (fun x0 => sight_Valid_c2 x0 ((a0.Rates.length : Nat) : Int))).bind (fun t3 =>
    some (!t3))
  else
    some false) : Option Bool).bind (fun b5 =>
  some b5)))))

def slices_Clone_int (a0 : (List Int)) : Option ((List Int)) :=
  (appI ([] : List Int) a0).bind (fun t1 =>
  some t1)

def slices_Clone_Sight (a0 : (List GSight)) : Option ((List GSight)) :=
  (appI ([] : List GSight) a0).bind (fun t1 =>
  some t1)

def sight_Added (a0 : GNet) (a1 : GSight) : Option (GNet × Int) :=
  (sight_Valid (GNet.mk a0.Rates a0.Sights)).bind (fun t1 =>
  ((if (!t1) = true then
  some true
  else
  (sight_validSight a1 ((a0.Rates.length : Nat) : Int)).bind (fun t2 =>
  some (!t2))) : Option Bool).bind (fun b4 =>
  (if b4 = true then
  some ((GNet.mk ([] : List Int) ([] : List GSight)), 1)
  else
  (if (((a0.Sights.length : Nat) : Int) == 30) = true then
    some ((GNet.mk ([] : List Int) ([] : List GSight)), 4)
  else
    (slices_Clone_int a0.Rates).bind (fun t3 =>
    (slices_Clone_Sight a0.Sights).bind (fun t4 =>
    (appI t4 ([a1] : List GSight)).bind (fun t5 =>
    some ((GNet.mk t3 t5), 0))))))))

noncomputable def sight_Consistent (a0 : GNet) : Option (Bool × Int) :=
  (sight_Valid (GNet.mk a0.Rates a0.Sights)).bind (fun t1 =>
  (if (!t1) = true then
  some (false, 1)
  else
  (sight_graphOf (GNet.mk a0.Rates a0.Sights) ([] : List GPoint)).bind (fun o => match o with
    | (t2, t3) =>
      (circleG t2 t3).bind (fun o => match o with
        | (t4, t5) =>
          some (t4, 0)))))

def strings_Join (a0 : (List ByteArray)) (a1 : ByteArray) : Option (ByteArray) :=
  (if (((a0.length : Nat) : Int) == 0) = true then
  some (bs [])
  else
  (if (((a0.length : Nat) : Int) == 1) = true then
    (idx a0 0).bind (fun x1 =>
    some x1)
  else
    ((
      (if (decide (0 < ((a1.size : Nat) : Int))) = true then
        (subI ((a0.length : Nat) : Int) 1).bind (fun t1 =>
        (quoI 9223372036854775807 t1).bind (fun t2 =>
        ((
          (if (decide (t2 ≤ ((a1.size : Nat) : Int))) = true then
            none
          else
            some ())) : Option (Unit)).bind (fun _ =>
        (subI ((a0.length : Nat) : Int) 1).bind (fun t3 =>
        (mulI ((a1.size : Nat) : Int) t3).bind (fun t4 =>
        (addI 0 t4).bind (fun t5 =>
        some t5))))))
      else
        some 0)) : Option (Int)).bind (fun s1 =>
    ((
      rangeL (α := ByteArray) (S := Int) (X := Int) (fun ik1 yk1 z2 =>
        ((
          (subI 9223372036854775807 z2).bind (fun t6 =>
          ((
            (if (decide (t6 < ((yk1.size : Nat) : Int))) = true then
              none
            else
              some ())) : Option (Unit)).bind (fun _ =>
          (addI z2 ((yk1.size : Nat) : Int)).bind (fun t7 =>
          some t7)))) : Option (Int)).bind (fun s3 =>
        some (Step.cont s3))) (fun z2 => z2) a0 0 s1) : Option (Int)).bind (fun s2 =>
    (growI s2).bind (fun t8 =>
    (idx a0 0).bind (fun x2 =>
    (addL' ([] : List UInt8) x2).bind (fun t9 =>
    (cutI a0 1 ((a0.length : Nat) : Int)).bind (fun t10 =>
    ((
      rangeL (α := ByteArray) (S := (List UInt8)) (X := (List UInt8)) (fun ik2 yk2 z5 =>
        (addL' z5 a1).bind (fun t11 =>
        (addL' t11 yk2).bind (fun t12 =>
        some (Step.cont t12)))) (fun z5 => z5) t10 0 t9) : Option ((List UInt8))).bind (fun s4 =>
    some (⟨List.toArray s4⟩ : ByteArray))))))))))

def station_said (a0 : ByteArray) (a1 : (List Int)) : Option (ByteArray) :=
  ((
  rangeL (α := Int) (S := (List ByteArray)) (X := (List ByteArray)) (fun ik1 yk1 z2 =>
    (strconv_Itoa yk1).bind (fun t1 =>
    (appI z2 ([t1] : List ByteArray)).bind (fun t2 =>
    some (Step.cont t2)))) (fun z2 => z2) a1 0 ([a0] : List ByteArray)) : Option ((List ByteArray))).bind (fun s1 =>
  (strings_Join s1 (bs [32])).bind (fun t3 =>
  some t3))

noncomputable def station_session_sight (a0 : GSession) (a1 : (List ByteArray)) : Option (Ref (GSession × ByteArray)) :=
  (station_values a1).bind (fun t1 =>
  (idx t1 0).bind (fun x1 =>
  refB (station_session_time (GSession.mk (GInside.mk a0.inside.mast a0.inside.day (GNet.mk a0.inside.net.Rates a0.inside.net.Sights) a0.inside.log a0.inside.state a0.inside.verdicts a0.inside.ledger a0.inside.flags)) x1) (fun t2 =>
  (idx t1 1).bind (fun x2 =>
  (idx t1 2).bind (fun x3 =>
  (idx t1 3).bind (fun x4 =>
  (idx t1 4).bind (fun x5 =>
  (sight_Added (GNet.mk a0.inside.net.Rates a0.inside.net.Sights) (GSight.mk t2 x2 x3 x4 x5)).bind (fun o => match o with
  | (t3, t4) =>
    mustB (t4 == 0) t4 (
  (sight_Consistent (GNet.mk t3.Rates t3.Sights)).bind (fun o => match o with
  | (t5, t6) =>
    mustB (t6 == 0) t6 (
    mustB t5 9 (
    (station_said (bs [115, 105, 103, 104, 116, 115]) ([((t3.Sights.length : Nat) : Int)] : List Int)).bind (fun t7 =>
    some (Ref.ok ((GSession.mk (GInside.mk a0.inside.mast a0.inside.day t3 a0.inside.log a0.inside.state a0.inside.verdicts a0.inside.ledger a0.inside.flags)), t7)))))))))))))))

def ball_within (a0 : Int) (a1 : Int) (a2 : Int) : Option (Bool) :=
  some ((decide (a1 ≤ a0)) && (decide (a0 ≤ a2)))

def ball_ValidMast (a0 : GMast) : Option (Bool) :=
  (ball_within a0.Noon 0 86399999).bind (fun t1 =>
  ((if ((((t1 && (decide (1000 ≤ a0.Full))) && (decide (a0.Full < a0.Half))) && (decide (a0.Half ≤ 3600000))) && (decide (a0.Half ≤ a0.Noon))) = true then
  (ball_within a0.Late 0 1000).bind (fun t2 =>
  some t2)
  else
  some false) : Option Bool).bind (fun b2 =>
  ((if b2 = true then
  (ball_within a0.Again a0.Half 7200000).bind (fun t3 =>
  some t3)
  else
  some false) : Option Bool).bind (fun b3 =>
  ((if b3 = true then
  (addI a0.Noon a0.Again).bind (fun t4 =>
  some (decide (t4 < 86400000)))
  else
  some false) : Option Bool).bind (fun b4 =>
  ((if b4 = true then
  (ball_within a0.Wind 0 1000).bind (fun t5 =>
  some t5)
  else
  some false) : Option Bool).bind (fun b5 =>
  some b5)))))

def ball_validBall (a0 : GBall) : Option (Bool) :=
  (ball_within a0.Place 0 3).bind (fun t1 =>
  ((if t1 = true then
  (ball_within a0.Wind 0 1000).bind (fun t2 =>
  some t2)
  else
  some false) : Option Bool).bind (fun b2 =>
  ((if b2 = true then
  (ball_within a0.At 0 86399999).bind (fun t3 =>
  some t3)
  else
  some false) : Option Bool).bind (fun b3 =>
  some b3)))

def ball_fine (a0 : GEvent) : Option (Bool) :=
  (ball_within a0.At 0 86399999).bind (fun t1 =>
  ((if t1 = true then
  (ball_within a0.Kind 1 6).bind (fun t2 =>
  some t2)
  else
  some false) : Option Bool).bind (fun b2 =>
  ((if b2 = true then
  (ball_within a0.N 0 1000).bind (fun t3 =>
  some t3)
  else
  some false) : Option Bool).bind (fun b3 =>
  some (b3 && ((a0.Kind == 1) || (a0.N == 0))))))

def ball_rules_c1 (a0 : GMast) (a1 : GBall) (a2 : Int) : Option (Bool) :=
  some true

def ball_rules_c2 (a0 : GBall) (a1 : Int) : Option (GBall) :=
  some (GBall.mk a0.Place (max a0.Wind a1) a0.Flag a0.At)

def ball_hoisting_c1 (a0 : Int) (c0 : Int) (c1 : GMast) : Option (Bool) :=
  (subI a0 c1.Half).bind (fun t1 =>
  (subI a0 c1.Full).bind (fun t2 =>
  (subI t2 1).bind (fun t3 =>
  (ball_within c0 t1 t3).bind (fun t4 =>
  some t4))))

def ball_hoisting (a0 : GMast) (a1 : Int) : Option (Bool) :=
  (ball_hoisting_c1 a0.Noon a1 a0).bind (fun t1 =>
  ((if t1 = true then
  some true
  else
  (addI a0.Noon a0.Again).bind (fun t2 =>
  (ball_hoisting_c1 t2 a1 a0).bind (fun t3 =>
  some t3))) : Option Bool).bind (fun b3 =>
  some b3))

def ball_rules_c3 (a0 : GMast) (a1 : GBall) (a2 : Int) : Option (Bool) :=
  ((if ((a1.Place == 0) && (decide (a1.Wind ≤ a0.Wind))) = true then
  (ball_hoisting a0 a2).bind (fun t1 =>
  some t1)
  else
  some false) : Option Bool).bind (fun b3 =>
  some b3)

def ball_rules_c4 (a0 : GBall) (a1 : Int) : Option (GBall) :=
  some (GBall.mk 1 a0.Wind a0.Flag a0.At)

def ball_rules_c5 (a0 : GMast) (a1 : GBall) (a2 : Int) : Option (Bool) :=
  ((if (a1.Place == 1) = true then
  (subI a0.Noon a0.Full).bind (fun t1 =>
  (addI a0.Noon a0.Again).bind (fun t2 =>
  (ball_within a2 t1 t2).bind (fun t3 =>
  some t3)))
  else
  some false) : Option Bool).bind (fun b3 =>
  some b3)

def ball_rules_c6 (a0 : GBall) (a1 : Int) : Option (GBall) :=
  some (GBall.mk 2 a0.Wind a0.Flag a0.At)

def ball_rules_c7 (a0 : GMast) (a1 : GBall) (a2 : Int) : Option (Bool) :=
  some (a1.Place == 2)

def ball_rules_c8 (a0 : GBall) (a1 : Int) : Option (GBall) :=
  some (GBall.mk 0 a0.Wind a0.Flag a0.At)

def ball_rules_c9 (a0 : GMast) (a1 : GBall) (a2 : Int) : Option (Bool) :=
  some (a1.Place == 2)

def ball_rules_c10 (a0 : GBall) (a1 : Int) : Option (GBall) :=
  some (GBall.mk 3 a0.Wind a0.Flag a0.At)

def ball_rules_c11 (a0 : GMast) (a1 : GBall) (a2 : Int) : Option (Bool) :=
  some (!a1.Flag)

def ball_rules_c12 (a0 : GBall) (a1 : Int) : Option (GBall) :=
  some (GBall.mk 0 a0.Wind true a0.At)

def ball_next (a0 : GMast) (a1 : GBall) (a2 : GEvent) : Option (GBall × Int) :=
  (ball_fine a2).bind (fun t1 =>
  (if ((!t1) || (decide (a2.At < a1.At))) = true then
  some ((GBall.mk 0 0 false 0), 7)
  else
  (if (a2.Kind == 1) = true then
    (ball_rules_c1 a0 a1 a2.At).bind (fun t2 =>
    (if (!t2) = true then
      some ((GBall.mk 0 0 false 0), 9)
    else
      (ball_rules_c2 a1 a2.N).bind (fun t3 =>
      some ((GBall.mk t3.Place t3.Wind t3.Flag a2.At), 0))))
  else
    (if (a2.Kind == 2) = true then
      (ball_rules_c3 a0 a1 a2.At).bind (fun t4 =>
      (if (!t4) = true then
        some ((GBall.mk 0 0 false 0), 9)
      else
        (ball_rules_c4 a1 a2.N).bind (fun t5 =>
        some ((GBall.mk t5.Place t5.Wind t5.Flag a2.At), 0))))
    else
      (if (a2.Kind == 3) = true then
        (ball_rules_c5 a0 a1 a2.At).bind (fun t6 =>
        (if (!t6) = true then
          some ((GBall.mk 0 0 false 0), 9)
        else
          (ball_rules_c6 a1 a2.N).bind (fun t7 =>
          some ((GBall.mk t7.Place t7.Wind t7.Flag a2.At), 0))))
      else
        (if (a2.Kind == 4) = true then
          (ball_rules_c7 a0 a1 a2.At).bind (fun t8 =>
          (if (!t8) = true then
            some ((GBall.mk 0 0 false 0), 9)
          else
            (ball_rules_c8 a1 a2.N).bind (fun t9 =>
            some ((GBall.mk t9.Place t9.Wind t9.Flag a2.At), 0))))
        else
          (if (a2.Kind == 5) = true then
            (ball_rules_c9 a0 a1 a2.At).bind (fun t10 =>
            (if (!t10) = true then
              some ((GBall.mk 0 0 false 0), 9)
            else
              (ball_rules_c10 a1 a2.N).bind (fun t11 =>
              some ((GBall.mk t11.Place t11.Wind t11.Flag a2.At), 0))))
          else
            (if (a2.Kind == 6) = true then
              (ball_rules_c11 a0 a1 a2.At).bind (fun t12 =>
              (if (!t12) = true then
                some ((GBall.mk 0 0 false 0), 9)
              else
                (ball_rules_c12 a1 a2.N).bind (fun t13 =>
                some ((GBall.mk t13.Place t13.Wind t13.Flag a2.At), 0))))
            else
              none))))))))

def ball_Next (a0 : GMast) (a1 : GBall) (a2 : GEvent) : Option (GBall × Int) :=
  (ball_ValidMast a0).bind (fun t1 =>
  ((if (!t1) = true then
  some true
  else
  (ball_validBall a1).bind (fun t2 =>
  some (!t2))) : Option Bool).bind (fun b5 =>
  (if b5 = true then
  some ((GBall.mk 0 0 false 0), 1)
  else
  (ball_next a0 a1 a2).bind (fun o => match o with
    | (t3, t4) =>
      some (t3, t4)))))

def station_session_event (a0 : GSession) (a1 : (List ByteArray)) : Option (Ref (GSession × ByteArray)) :=
  (station_values a1).bind (fun t1 =>
  (idx t1 0).bind (fun x1 =>
  (idx t1 1).bind (fun x2 =>
  (idx t1 2).bind (fun x3 =>
  (ball_Next a0.inside.mast a0.inside.state (GEvent.mk x1 x2 x3)).bind (fun o => match o with
  | (t2, t3) =>
    mustB (t3 == 0) t3 (
  mustB (decide (((a0.inside.log.length : Nat) : Int) < 100)) 4 (
  (appI a0.inside.log ([(GEvent.mk x1 x2 x3)] : List GEvent)).bind (fun t4 =>
  (station_said (bs [112, 108, 97, 99, 101]) ([t2.Place] : List Int)).bind (fun t5 =>
  some (Ref.ok ((GSession.mk (GInside.mk a0.inside.mast a0.inside.day a0.inside.net t4 t2 a0.inside.verdicts a0.inside.ledger a0.inside.flags)), t5)))))))))))

def ball_statesF (x : GMast) : GBall → List GEvent → Option (List (GBall × Int))
  | _, [] => some []
  | s, e :: es => (ball_next x s e).bind fun o => if o.2 = 0 then (ball_statesF x o.1 es).bind fun l => some (o :: l) else some [o]
def ball_states_c1 (c0 : List GEvent) (c1 : GMast) : Option (List (GBall × Int)) := ball_statesF c1 (GBall.mk 0 0 false 0) c0

def ball_Run (a0 : GMast) (a1 : (List GEvent)) : Option (GBall × Int × Int) :=
  (ball_ValidMast a0).bind (fun t1 =>
  (if (!t1) = true then
  some ((GBall.mk 0 0 false 0), 0, 1)
  else
  (if (decide (100 < ((a1.length : Nat) : Int))) = true then
    some ((GBall.mk 0 0 false 0), 0, 7)
  else
    (ball_states_c1 a1 a0).bind (fun xs1 =>
    ((
      rangeL (α := (GBall × Int)) (S := Int × Int × Bool × Int × Int) (X := Ctl (Int × Int × Bool × Int × Int) (GBall × Int × Int)) (fun _ x1 s =>
      match s with
        | (z6, z7, z8, z9, z10) =>
          (if (x1.2 != 0) = true then
            some (Step.done (Ctl.ret ((GBall.mk 0 0 false 0), z10, x1.2)))
          else
            (addI z10 1).bind (fun t2 =>
            some (Step.cont (x1.1.Place, x1.1.Wind, x1.1.Flag, x1.1.At, t2))))) (fun s => match s with | (z6, z7, z8, z9, z10) => Ctl.next (z6, z7, z8, z9, z10)) xs1 0 (0, 0, false, 0, 0)) : Option (Ctl (Int × Int × Bool × Int × Int) (GBall × Int × Int))).bind (fun o => match o with
      | .next (s1, s2, s3, s4, s5) =>
        some ((GBall.mk s1 s2 s3 s4), s5, 0)
      | .ret r => some r
      | .exit _ _ => none)))))

def slices_IndexFunc_Event (a0 : (List GEvent)) (a1 : GEvent → Option (Bool)) : Option (Int) :=
  ((
  rangeN (S := Unit) (X := Ctl (Unit) (Int)) (fun ik1 _ =>
    (idx a0 (ik1 : Int)).bind (fun x1 =>
    (a1 x1).bind (fun t1 =>
    (if t1 = true then
      some (Step.done (Ctl.ret (ik1 : Int)))
    else
      some (Step.cont ()))))) (fun _ => Ctl.next ()) (Int.toNat ((a0.length : Nat) : Int)) 0 ()) : Option (Ctl (Unit) (Int))).bind (fun o => match o with
  | .next _ =>
    some (-1)
  | .ret r => some r
  | .exit _ _ => none)

def slices_ContainsFunc_Event (a0 : (List GEvent)) (a1 : GEvent → Option (Bool)) : Option (Bool) :=
  (slices_IndexFunc_Event a0 a1).bind (fun t1 =>
  some (decide (0 ≤ t1)))

def ball_verdict_c1_c1 (a0 : GEvent) : Option (Bool) :=
  some (a0.Kind == 6)

def ball_verdict_c1 (a0 : (List GEvent)) : Option (Bool) :=
  (slices_ContainsFunc_Event a0 (fun x0 => ball_verdict_c1_c1 x0)).bind (fun t1 =>
  some t1)

def ball_verdict_c2 (a0 : Int) (a1 : Int) (c0 : GMast) : Option (Bool) :=
  (subI a1 c0.Late).bind (fun t1 =>
  (addI a1 c0.Late).bind (fun t2 =>
  (ball_within a0 t1 t2).bind (fun t3 =>
  some t3)))

def ball_verdict_c3 (a0 : GEvent) : Option (Bool) :=
  some (a0.Kind == 4)

def ball_verdict (a0 : GMast) (a1 : (List GEvent)) : Option (Int × Int) :=
  (slices_IndexFunc_Event a1 (fun x0 => ball_verdict_c3 x0)).bind (fun t1 =>
  ((if (decide (t1 < 0)) = true then
  (ball_verdict_c1 a1).bind (fun t2 =>
  some t2)
  else
  some false) : Option Bool).bind (fun b2 =>
  (if b2 = true then
  some (4, t1)
  else
  (if (decide (t1 < 0)) = true then
    some (5, t1)
  else
    (idx a1 t1).bind (fun x1 =>
    (ball_verdict_c2 x1.At a0.Noon a0).bind (fun t3 =>
    (if t3 = true then
      some (0, t1)
    else
      ((
        (idx a1 t1).bind (fun x2 =>
        (addI a0.Noon a0.Again).bind (fun t4 =>
        (subI t4 a0.Half).bind (fun t5 =>
        (if (decide (t5 ≤ x2.At)) = true then
          (cutI a1 0 t1).bind (fun t6 =>
          (ball_verdict_c1 t6).bind (fun t7 =>
          (if t7 = true then
            (idx a1 t1).bind (fun x3 =>
            (addI a0.Noon a0.Again).bind (fun t8 =>
            (ball_verdict_c2 x3.At t8 a0).bind (fun t9 =>
            some t9)))
          else
            some false)))
        else
          some false))))) : Option (Bool)).bind (fun s1 =>
      (if s1 = true then
        some (3, t1)
      else
        (cutI a1 t1 ((a1.length : Nat) : Int)).bind (fun t10 =>
        (ball_verdict_c1 t10).bind (fun t11 =>
        (if t11 = true then
          some (1, t1)
        else
          some (2, t1)))))))))))))

def ball_Verdict (a0 : GMast) (a1 : (List GEvent)) : Option (Int × Int) :=
  (ball_Run a0 a1).bind (fun o => match o with
  | (t1, t2, t3) =>
    (if (t3 != 0) = true then
      some (0, t3)
    else
      (ball_verdict a0 a1).bind (fun o => match o with
        | (t4, t5) =>
          some (t4, 0))))

def ball_Word (a0 : Int) : Option (ByteArray) :=
  (ball_within a0 0 5).bind (fun t1 =>
  (if (!t1) = true then
  some (bs [])
  else
  (idx ([(bs [103, 111, 111, 100]), (bs [119, 114, 111, 110, 103]), (bs [102, 97, 108, 115, 101]), (bs [97, 103, 97, 105, 110]), (bs [116, 111, 108, 100]), (bs [115, 105, 108, 101, 110, 116])] : List ByteArray) a0).bind (fun x1 =>
  some x1)))

def station_session_close (a0 : GSession) (a1 : (List ByteArray)) : Option (Ref (GSession × ByteArray)) :=
  mustB (decide (a0.inside.day < 11000)) 4 (
  (ball_Verdict a0.inside.mast a0.inside.log).bind (fun o => match o with
  | (t1, t2) =>
    mustB (t2 == 0) t2 (
  (appI a0.inside.verdicts ([t1] : List Int)).bind (fun t3 =>
  (addI a0.inside.day 1).bind (fun t4 =>
  (ball_Word t1).bind (fun t5 =>
  some (Ref.ok ((GSession.mk (GInside.mk a0.inside.mast t4 a0.inside.net [] (GBall.mk 0 0 false 0) t3 a0.inside.ledger a0.inside.flags)), t5))))))))

def slices_IndexFunc_Entry (a0 : (List GEntry)) (a1 : GEntry → Option (Bool)) : Option (Int) :=
  ((
  rangeN (S := Unit) (X := Ctl (Unit) (Int)) (fun ik1 _ =>
    (idx a0 (ik1 : Int)).bind (fun x1 =>
    (a1 x1).bind (fun t1 =>
    (if t1 = true then
      some (Step.done (Ctl.ret (ik1 : Int)))
    else
      some (Step.cont ()))))) (fun _ => Ctl.next ()) (Int.toNat ((a0.length : Nat) : Int)) 0 ()) : Option (Ctl (Unit) (Int))).bind (fun o => match o with
  | .next _ =>
    some (-1)
  | .ret r => some r
  | .exit _ _ => none)

def slices_ContainsFunc_Entry (a0 : (List GEntry)) (a1 : GEntry → Option (Bool)) : Option (Bool) :=
  (slices_IndexFunc_Entry a0 a1).bind (fun t1 =>
  some (decide (0 ≤ t1)))

def ledger_within (a0 : Int) (a1 : Int) (a2 : Int) : Option (Bool) :=
  some ((decide (a1 ≤ a0)) && (decide (a0 ≤ a2)))

def ledger_fine (a0 : GEntry) : Option (Bool) :=
  (ledger_within a0.Day 0 182985).bind (fun t1 =>
  ((if t1 = true then
  (ledger_within a0.Error (-86400000) 86400000).bind (fun t2 =>
  some t2)
  else
  some false) : Option Bool).bind (fun b2 =>
  some b2))

def ledger_Valid_c1 (a0 : GEntry) : Option (Bool) :=
  (ledger_fine a0).bind (fun t1 =>
  some (!t1))

def ledger_Valid (a0 : (List GEntry)) : Option (Bool) :=
  ((if (decide (((a0.length : Nat) : Int) ≤ 1000)) = true then
  (slices_ContainsFunc_Entry a0 (fun x0 => ledger_Valid_c1 x0)).bind (fun t1 =>
  some (!t1))
  else
  some false) : Option Bool).bind (fun b1 =>
  some b1)

def slices_Clone_Entry (a0 : (List GEntry)) : Option ((List GEntry)) :=
  (appI ([] : List GEntry) a0).bind (fun t1 =>
  some t1)

def ledger_Added (a0 : (List GEntry)) (a1 : GEntry) : Option ((List GEntry) × Int) :=
  (ledger_Valid a0).bind (fun t1 =>
  ((if (!t1) = true then
  some true
  else
  (ledger_fine a1).bind (fun t2 =>
  some (!t2))) : Option Bool).bind (fun b2 =>
  (if b2 = true then
  some (([] : List GEntry), 1)
  else
  (if (((a0.length : Nat) : Int) == 1000) = true then
    some (([] : List GEntry), 4)
  else
    (slices_Clone_Entry a0).bind (fun t3 =>
    (appI t3 ([a1] : List GEntry)).bind (fun t4 =>
    some (t4, 0)))))))

def station_session_enter (a0 : GSession) (a1 : GEntry) : Option (Ref (GSession × ByteArray)) :=
  (ledger_Added a0.inside.ledger a1).bind (fun o => match o with
  | (t1, t2) =>
    mustB (t2 == 0) t2 (
  (station_said (bs [101, 110, 116, 114, 105, 101, 115]) ([((t1.length : Nat) : Int)] : List Int)).bind (fun t3 =>
  some (Ref.ok ((GSession.mk (GInside.mk a0.inside.mast a0.inside.day a0.inside.net a0.inside.log a0.inside.state a0.inside.verdicts t1 a0.inside.flags)), t3)))))

def station_session_say (a0 : GSession) (a1 : (List ByteArray)) : Option (Ref (GSession × ByteArray)) :=
  (station_values a1).bind (fun t1 =>
  (idx t1 0).bind (fun x1 =>
  refB (station_session_enter a0 (GEntry.mk a0.inside.day false x1)) (fun o => match o with
  | (t2, t3) =>
    some (Ref.ok (t2, t3)))))

def station_session_found (a0 : GSession) (a1 : (List ByteArray)) : Option (Ref (GSession × ByteArray)) :=
  (station_values a1).bind (fun t1 =>
  (idx t1 0).bind (fun x1 =>
  mustB (decide (x1 ≤ a0.inside.day)) 7 (
  (idx t1 0).bind (fun x2 =>
  (idx t1 1).bind (fun x3 =>
  refB (station_session_enter a0 (GEntry.mk x2 true x3)) (fun o => match o with
  | (t2, t3) =>
    some (Ref.ok (t2, t3))))))))

def sight_clock_c1 (a0 : Int) (c0 : GNet) : Option (Bool) :=
  (subI ((c0.Rates.length : Nat) : Int) 1).bind (fun t1 =>
  (sight_within a0 0 t1).bind (fun t2 =>
  some (!t2)))

def sight_clock (a0 : GNet) (a1 : (List Int)) : Option (Int) :=
  (sight_Valid (GNet.mk a0.Rates a0.Sights)).bind (fun t1 =>
  (if (!t1) = true then
  some 1
  else
  (slices_ContainsFunc_int a1 (fun x0 => sight_clock_c1 x0 (GNet.mk a0.Rates a0.Sights))).bind (fun t2 =>
  (if t2 = true then
    some 5
  else
    some 0))))

noncomputable def sight_between (a0 : GNet) (a1 : Int) (a2 : Int) (a3 : Int) : Option (GSpan × Bool) :=
  (if (a1 == a2) = true then
  some ((GSpan.mk 0 0), true)
  else
  (sight_pointOf a1 a3).bind (fun t1 =>
  (sight_pointOf a2 a3).bind (fun t2 =>
  (sight_graphOf (GNet.mk a0.Rates a0.Sights) ([t1, t2] : List GPoint)).bind (fun o => match o with
    | (t3, t4) =>
      (leastG t3 t4 t2 t1).bind (fun o => match o with
        | (t5, t6) =>
          (leastG t3 t4 t1 t2).bind (fun o => match o with
            | (t7, t8) =>
              (negI t7).bind (fun t9 =>
              some ((GSpan.mk t9 t5), (t6 && t8)))))))))

noncomputable def sight_Between (a0 : GNet) (a1 : Int) (a2 : Int) (a3 : Int) : Option (GSpan × Int) :=
  (sight_clock (GNet.mk a0.Rates a0.Sights) ([a1, a2] : List Int)).bind (fun t1 =>
  (if (t1 != 0) = true then
  some ((GSpan.mk 0 0), t1)
  else
  (sight_within a3 0 1000000000000).bind (fun t2 =>
  (if (!t2) = true then
    some ((GSpan.mk 0 0), 7)
  else
    (sight_graphOf (GNet.mk a0.Rates a0.Sights) ([] : List GPoint)).bind (fun o => match o with
      | (t3, t4) =>
        (circleG t3 t4).bind (fun o => match o with
          | (t5, t6) =>
            (if (!t5) = true then
              some ((GSpan.mk 0 0), 9)
            else
              (sight_between (GNet.mk a0.Rates a0.Sights) a1 a2 a3).bind (fun o => match o with
                | (t7, t8) =>
                  (if (!t8) = true then
                    some ((GSpan.mk 0 0), 8)
                  else
                    some (t7, 0))))))))))

noncomputable def sight_Error (a0 : GNet) (a1 : Int) (a2 : Int) : Option (GSpan × Int) :=
  (sight_Between (GNet.mk a0.Rates a0.Sights) a1 0 a2).bind (fun o => match o with
  | (t1, t2) =>
    some (t1, t2))

noncomputable def station_session_bounds (a0 : GSession) (a1 : (List ByteArray)) : Option (Ref (ByteArray)) :=
  (station_values a1).bind (fun t1 =>
  (idx t1 0).bind (fun x1 =>
  (idx t1 1).bind (fun x2 =>
  refB (station_session_time (GSession.mk (GInside.mk a0.inside.mast a0.inside.day (GNet.mk a0.inside.net.Rates a0.inside.net.Sights) a0.inside.log a0.inside.state a0.inside.verdicts a0.inside.ledger a0.inside.flags)) x2) (fun t2 =>
  (sight_Error (GNet.mk a0.inside.net.Rates a0.inside.net.Sights) x1 t2).bind (fun o => match o with
  | (t3, t4) =>
    mustB (t4 == 0) t4 (
  (station_said (bs [101, 114, 114, 111, 114]) ([t3.Lo, t3.Hi] : List Int)).bind (fun t5 =>
  some (Ref.ok t5))))))))

noncomputable def sight_Best (a0 : GNet) (a1 : Int) : Option (Int × Int) :=
  (sight_Error (GNet.mk a0.Rates a0.Sights) 0 a1).bind (fun o => match o with
  | (t1, t2) =>
    (if (t2 != 0) = true then
      some (0, t2)
    else
      ((
        rangeN (S := Int × Int) (X := Int) (fun ik1 s =>
        match s with
          | (z3, z4) =>
            ((
              (sight_between (GNet.mk a0.Rates a0.Sights) (ik1 : Int) 0 a1).bind (fun o => match o with
                | (t3, t4) =>
                  (subI t3.Hi t3.Lo).bind (fun t5 =>
                  ((
                    (if (((decide (0 < (ik1 : Int))) && t4) && ((z3 == 0) || (decide (t5 < z4)))) = true then
                      some ((ik1 : Int), t5)
                    else
                      some (z3, z4))) : Option (Int × Int)).bind (fun o => match o with
                    | (s4, s5) =>
                      some (s4, s5))))) : Option (Int × Int)).bind (fun o => match o with
              | (s2, s3) =>
                some (Step.cont (s2, s3)))) (fun s => match s with | (z3, z4) => z3) (Int.toNat ((a0.Rates.length : Nat) : Int)) 0 (0, 0)) : Option (Int)).bind (fun s1 =>
      (if (s1 == 0) = true then
        some (0, 8)
      else
        some (s1, 0)))))

noncomputable def station_session_best (a0 : GSession) (a1 : (List ByteArray)) : Option (Ref (ByteArray)) :=
  (station_values a1).bind (fun t1 =>
  (idx t1 0).bind (fun x1 =>
  refB (station_session_time (GSession.mk (GInside.mk a0.inside.mast a0.inside.day (GNet.mk a0.inside.net.Rates a0.inside.net.Sights) a0.inside.log a0.inside.state a0.inside.verdicts a0.inside.ledger a0.inside.flags)) x1) (fun t2 =>
  (sight_Best (GNet.mk a0.inside.net.Rates a0.inside.net.Sights) t2).bind (fun o => match o with
  | (t3, t4) =>
    mustB (t4 == 0) t4 (
  (station_said (bs [99, 108, 111, 99, 107]) ([t3] : List Int)).bind (fun t5 =>
  some (Ref.ok t5)))))))

def ledger_page_off (a0 : (List (GKey × Int))) (a1 : Int) : Option (Int × Bool) :=
  (subI ((mget a0 (GKey.mk a1 true)).getD 0) ((mget a0 (GKey.mk a1 false)).getD 0)).bind (fun t1 =>
  some (t1, ((mget a0 (GKey.mk a1 false)).isSome && (mget a0 (GKey.mk a1 true)).isSome)))

def ledger_Off_c1 (a0 : (List (GKey × Int))) (c0 : Int) : Option (Int × Bool) :=
  (ledger_page_off a0 c0).bind (fun o => match o with
  | (t1, t2) =>
    some (t1, t2))

def ledger_isDay (a0 : Int) : Option (Bool) :=
  (ledger_within a0 0 182985).bind (fun t1 =>
  some t1)

def ledger_of (a0 : GEntry) : Option (GKey) :=
  some (GKey.mk a0.Day a0.Found)

def ledger_pageOf (a0 : (List GEntry)) : Option ((List (GKey × Int))) :=
  ((
  rangeL (α := GEntry) (S := (List (GKey × Int))) (X := (List (GKey × Int))) (fun ik1 yk1 z2 =>
    (ledger_of yk1).bind (fun t1 =>
    some (Step.cont (mput z2 t1 yk1.Error)))) (fun z2 => z2) a0 0 ([] : List (GKey × Int))) : Option ((List (GKey × Int)))).bind (fun s1 =>
  some s1)

def ledger_told (a0 : (List GEntry)) (a1 : Int) (a2 : (List (GKey × Int)) → Option (Int × Bool)) : Option (Int × Int) :=
  (ledger_Valid a0).bind (fun t1 =>
  (if (!t1) = true then
  some (0, 1)
  else
  (ledger_isDay a1).bind (fun t2 =>
  (if (!t2) = true then
    some (0, 7)
  else
    (ledger_pageOf a0).bind (fun t3 =>
    (a2 t3).bind (fun o => match o with
      | (t4, t5) =>
        (if (!t5) = true then
          some (0, 8)
        else
          some (t4, 0))))))))

def ledger_Off (a0 : (List GEntry)) (a1 : Int) : Option (Int × Int) :=
  (ledger_told a0 a1 (fun x0 => ledger_Off_c1 x0 a1)).bind (fun o => match o with
  | (t1, t2) =>
    some (t1, t2))

def station_session_off (a0 : GSession) (a1 : (List ByteArray)) : Option (Ref (ByteArray)) :=
  (station_values a1).bind (fun t1 =>
  (idx t1 0).bind (fun x1 =>
  (ledger_Off a0.inside.ledger x1).bind (fun o => match o with
  | (t2, t3) =>
    mustB (t3 == 0) t3 (
  (station_said (bs [111, 102, 102]) ([t2] : List Int)).bind (fun t4 =>
  some (Ref.ok t4))))))

def station_bit (a0 : (List ByteArray)) : Option (Ref (Int)) :=
  (station_values a0).bind (fun t1 =>
  (idx t1 0).bind (fun x1 =>
  mustB (decide (x1 < 13)) 7 (
  (shlI 1 x1).bind (fun t2 =>
  some (Ref.ok t2)))))

def math_bits_OnesCount64 (a0 : Int) : Option (Int) :=
  some (bits .and .i64 (IntKind.i64.wrap (wrU ((wrU ((wrU ((bits .and .u64 (wrU (((wrU ((bits .and .u64 ((wrU ((bits .and .u64 (a0 / 2 ^ ((1 : Int).toNat)) 6148914691236517205) + (bits .and .u64 a0 6148914691236517205))) / 2 ^ ((2 : Int).toNat)) 3689348814741910323) + (bits .and .u64 (wrU ((bits .and .u64 (a0 / 2 ^ ((1 : Int).toNat)) 6148914691236517205) + (bits .and .u64 a0 6148914691236517205))) 3689348814741910323))) / 2 ^ ((4 : Int).toNat)) + (wrU ((bits .and .u64 ((wrU ((bits .and .u64 (a0 / 2 ^ ((1 : Int).toNat)) 6148914691236517205) + (bits .and .u64 a0 6148914691236517205))) / 2 ^ ((2 : Int).toNat)) 3689348814741910323) + (bits .and .u64 (wrU ((bits .and .u64 (a0 / 2 ^ ((1 : Int).toNat)) 6148914691236517205) + (bits .and .u64 a0 6148914691236517205))) 3689348814741910323))))) 1085102592571150095) + ((bits .and .u64 (wrU (((wrU ((bits .and .u64 ((wrU ((bits .and .u64 (a0 / 2 ^ ((1 : Int).toNat)) 6148914691236517205) + (bits .and .u64 a0 6148914691236517205))) / 2 ^ ((2 : Int).toNat)) 3689348814741910323) + (bits .and .u64 (wrU ((bits .and .u64 (a0 / 2 ^ ((1 : Int).toNat)) 6148914691236517205) + (bits .and .u64 a0 6148914691236517205))) 3689348814741910323))) / 2 ^ ((4 : Int).toNat)) + (wrU ((bits .and .u64 ((wrU ((bits .and .u64 (a0 / 2 ^ ((1 : Int).toNat)) 6148914691236517205) + (bits .and .u64 a0 6148914691236517205))) / 2 ^ ((2 : Int).toNat)) 3689348814741910323) + (bits .and .u64 (wrU ((bits .and .u64 (a0 / 2 ^ ((1 : Int).toNat)) 6148914691236517205) + (bits .and .u64 a0 6148914691236517205))) 3689348814741910323))))) 1085102592571150095) / 2 ^ ((8 : Int).toNat)))) + ((wrU ((bits .and .u64 (wrU (((wrU ((bits .and .u64 ((wrU ((bits .and .u64 (a0 / 2 ^ ((1 : Int).toNat)) 6148914691236517205) + (bits .and .u64 a0 6148914691236517205))) / 2 ^ ((2 : Int).toNat)) 3689348814741910323) + (bits .and .u64 (wrU ((bits .and .u64 (a0 / 2 ^ ((1 : Int).toNat)) 6148914691236517205) + (bits .and .u64 a0 6148914691236517205))) 3689348814741910323))) / 2 ^ ((4 : Int).toNat)) + (wrU ((bits .and .u64 ((wrU ((bits .and .u64 (a0 / 2 ^ ((1 : Int).toNat)) 6148914691236517205) + (bits .and .u64 a0 6148914691236517205))) / 2 ^ ((2 : Int).toNat)) 3689348814741910323) + (bits .and .u64 (wrU ((bits .and .u64 (a0 / 2 ^ ((1 : Int).toNat)) 6148914691236517205) + (bits .and .u64 a0 6148914691236517205))) 3689348814741910323))))) 1085102592571150095) + ((bits .and .u64 (wrU (((wrU ((bits .and .u64 ((wrU ((bits .and .u64 (a0 / 2 ^ ((1 : Int).toNat)) 6148914691236517205) + (bits .and .u64 a0 6148914691236517205))) / 2 ^ ((2 : Int).toNat)) 3689348814741910323) + (bits .and .u64 (wrU ((bits .and .u64 (a0 / 2 ^ ((1 : Int).toNat)) 6148914691236517205) + (bits .and .u64 a0 6148914691236517205))) 3689348814741910323))) / 2 ^ ((4 : Int).toNat)) + (wrU ((bits .and .u64 ((wrU ((bits .and .u64 (a0 / 2 ^ ((1 : Int).toNat)) 6148914691236517205) + (bits .and .u64 a0 6148914691236517205))) / 2 ^ ((2 : Int).toNat)) 3689348814741910323) + (bits .and .u64 (wrU ((bits .and .u64 (a0 / 2 ^ ((1 : Int).toNat)) 6148914691236517205) + (bits .and .u64 a0 6148914691236517205))) 3689348814741910323))))) 1085102592571150095) / 2 ^ ((8 : Int).toNat)))) / 2 ^ ((16 : Int).toNat)))) + ((wrU ((wrU ((bits .and .u64 (wrU (((wrU ((bits .and .u64 ((wrU ((bits .and .u64 (a0 / 2 ^ ((1 : Int).toNat)) 6148914691236517205) + (bits .and .u64 a0 6148914691236517205))) / 2 ^ ((2 : Int).toNat)) 3689348814741910323) + (bits .and .u64 (wrU ((bits .and .u64 (a0 / 2 ^ ((1 : Int).toNat)) 6148914691236517205) + (bits .and .u64 a0 6148914691236517205))) 3689348814741910323))) / 2 ^ ((4 : Int).toNat)) + (wrU ((bits .and .u64 ((wrU ((bits .and .u64 (a0 / 2 ^ ((1 : Int).toNat)) 6148914691236517205) + (bits .and .u64 a0 6148914691236517205))) / 2 ^ ((2 : Int).toNat)) 3689348814741910323) + (bits .and .u64 (wrU ((bits .and .u64 (a0 / 2 ^ ((1 : Int).toNat)) 6148914691236517205) + (bits .and .u64 a0 6148914691236517205))) 3689348814741910323))))) 1085102592571150095) + ((bits .and .u64 (wrU (((wrU ((bits .and .u64 ((wrU ((bits .and .u64 (a0 / 2 ^ ((1 : Int).toNat)) 6148914691236517205) + (bits .and .u64 a0 6148914691236517205))) / 2 ^ ((2 : Int).toNat)) 3689348814741910323) + (bits .and .u64 (wrU ((bits .and .u64 (a0 / 2 ^ ((1 : Int).toNat)) 6148914691236517205) + (bits .and .u64 a0 6148914691236517205))) 3689348814741910323))) / 2 ^ ((4 : Int).toNat)) + (wrU ((bits .and .u64 ((wrU ((bits .and .u64 (a0 / 2 ^ ((1 : Int).toNat)) 6148914691236517205) + (bits .and .u64 a0 6148914691236517205))) / 2 ^ ((2 : Int).toNat)) 3689348814741910323) + (bits .and .u64 (wrU ((bits .and .u64 (a0 / 2 ^ ((1 : Int).toNat)) 6148914691236517205) + (bits .and .u64 a0 6148914691236517205))) 3689348814741910323))))) 1085102592571150095) / 2 ^ ((8 : Int).toNat)))) + ((wrU ((bits .and .u64 (wrU (((wrU ((bits .and .u64 ((wrU ((bits .and .u64 (a0 / 2 ^ ((1 : Int).toNat)) 6148914691236517205) + (bits .and .u64 a0 6148914691236517205))) / 2 ^ ((2 : Int).toNat)) 3689348814741910323) + (bits .and .u64 (wrU ((bits .and .u64 (a0 / 2 ^ ((1 : Int).toNat)) 6148914691236517205) + (bits .and .u64 a0 6148914691236517205))) 3689348814741910323))) / 2 ^ ((4 : Int).toNat)) + (wrU ((bits .and .u64 ((wrU ((bits .and .u64 (a0 / 2 ^ ((1 : Int).toNat)) 6148914691236517205) + (bits .and .u64 a0 6148914691236517205))) / 2 ^ ((2 : Int).toNat)) 3689348814741910323) + (bits .and .u64 (wrU ((bits .and .u64 (a0 / 2 ^ ((1 : Int).toNat)) 6148914691236517205) + (bits .and .u64 a0 6148914691236517205))) 3689348814741910323))))) 1085102592571150095) + ((bits .and .u64 (wrU (((wrU ((bits .and .u64 ((wrU ((bits .and .u64 (a0 / 2 ^ ((1 : Int).toNat)) 6148914691236517205) + (bits .and .u64 a0 6148914691236517205))) / 2 ^ ((2 : Int).toNat)) 3689348814741910323) + (bits .and .u64 (wrU ((bits .and .u64 (a0 / 2 ^ ((1 : Int).toNat)) 6148914691236517205) + (bits .and .u64 a0 6148914691236517205))) 3689348814741910323))) / 2 ^ ((4 : Int).toNat)) + (wrU ((bits .and .u64 ((wrU ((bits .and .u64 (a0 / 2 ^ ((1 : Int).toNat)) 6148914691236517205) + (bits .and .u64 a0 6148914691236517205))) / 2 ^ ((2 : Int).toNat)) 3689348814741910323) + (bits .and .u64 (wrU ((bits .and .u64 (a0 / 2 ^ ((1 : Int).toNat)) 6148914691236517205) + (bits .and .u64 a0 6148914691236517205))) 3689348814741910323))))) 1085102592571150095) / 2 ^ ((8 : Int).toNat)))) / 2 ^ ((16 : Int).toNat)))) / 2 ^ ((32 : Int).toNat))))) 127)

def math_bits_OnesCount (a0 : Int) : Option (Int) :=
  (math_bits_OnesCount64 a0).bind (fun t1 =>
  some t1)

def station_session_left (a0 : GSession) : Option (ByteArray) :=
  (math_bits_OnesCount (IntKind.u64.wrap a0.inside.flags)).bind (fun t1 =>
  (station_said (bs [102, 108, 97, 103, 115]) ([t1] : List Int)).bind (fun t2 =>
  some t2))

def station_session_torn (a0 : GSession) (a1 : (List ByteArray)) : Option (Ref (GSession × ByteArray)) :=
  refB (station_bit a1) (fun t1 =>
  mustB ((bits .and .i64 a0.inside.flags t1) != 0) 10 (
  (station_session_left (GSession.mk (GInside.mk a0.inside.mast a0.inside.day (GNet.mk a0.inside.net.Rates a0.inside.net.Sights) a0.inside.log a0.inside.state a0.inside.verdicts a0.inside.ledger (bits .andNot .i64 a0.inside.flags t1)))).bind (fun t2 =>
  some (Ref.ok ((GSession.mk (GInside.mk a0.inside.mast a0.inside.day a0.inside.net a0.inside.log a0.inside.state a0.inside.verdicts a0.inside.ledger (bits .andNot .i64 a0.inside.flags t1))), t2)))))

def station_session_mended (a0 : GSession) (a1 : (List ByteArray)) : Option (Ref (GSession × ByteArray)) :=
  refB (station_bit a1) (fun t1 =>
  mustB ((bits .and .i64 a0.inside.flags t1) == 0) 9 (
  (station_session_left (GSession.mk (GInside.mk a0.inside.mast a0.inside.day (GNet.mk a0.inside.net.Rates a0.inside.net.Sights) a0.inside.log a0.inside.state a0.inside.verdicts a0.inside.ledger (bits .or .i64 a0.inside.flags t1)))).bind (fun t2 =>
  some (Ref.ok ((GSession.mk (GInside.mk a0.inside.mast a0.inside.day a0.inside.net a0.inside.log a0.inside.state a0.inside.verdicts a0.inside.ledger (bits .or .i64 a0.inside.flags t1))), t2)))))

def flag_within (a0 : Int) (a1 : Int) (a2 : Int) : Option (Bool) :=
  some ((decide (a1 ≤ a0)) && (decide (a0 ≤ a2)))

def flag_listed_c1 (a0 : Int) (c0 : Int) : Option (Bool) :=
  (flag_within a0 0 c0).bind (fun t1 =>
  some (!t1))

def flag_listed (a0 : (List Int)) (a1 : Int) : Option (Bool) :=
  (flag_within ((a0.length : Nat) : Int) 1 4).bind (fun t1 =>
  ((if t1 = true then
  (slices_ContainsFunc_int a0 (fun x0 => flag_listed_c1 x0 a1)).bind (fun t2 =>
  some (!t2))
  else
  some false) : Option Bool).bind (fun b2 =>
  some b2))

def flag_ValidDigits (a0 : (List Int)) : Option (Bool) :=
  (flag_listed a0 9).bind (fun t1 =>
  some t1)

def flag_isSet (a0 : Int) : Option (Bool) :=
  (flag_within a0 0 8191).bind (fun t1 =>
  some t1)

def flag_asked (a0 : (List Int)) (a1 : Int) : Option (Int) :=
  (flag_ValidDigits a0).bind (fun t1 =>
  (if (!t1) = true then
  some 1
  else
  (flag_isSet a1).bind (fun t2 =>
  (if (!t2) = true then
    some 7
  else
    some 0))))

def flag_place (a0 : Int) : Option (Int) :=
  (subI a0 10).bind (fun t1 =>
  some t1)

def hoistsFit (digits h : List Int) (f : Int) : Bool :=
  if 10 ≤ f then decide (f - 10 < (h.length : Int)) && (idx digits (f - 10) == idx digits (h.length : Int)) else idx digits (h.length : Int) == some f
def hoistsOk (digits h : List Int) (left : Int) (f : Nat) : Bool := hoistsFit digits h (f : Int) && !(bits .and .i64 (left / 2 ^ f) 1 == 0)
def hoistsG (digits : List Int) : Nat → List Int → Int → List (List Int)
  | 0, h, _ => [h]
  | n + 1, h, left => (List.range 13).flatMap fun f => if hoistsOk digits h left f then hoistsG digits n (h ++ [(f : Int)]) (bits .andNot .i64 left (2 ^ f)) else []
def flag_hoists_c1 (c0 : List Int) (c1 : Int) : Option (List (List Int)) := if c0.length ≤ 1000 then some (hoistsG c0 c0.length [] c1) else none

def flag_With (a0 : (List Int)) (a1 : Int) : Option ((List Int) × Int) :=
  (flag_asked a0 a1).bind (fun t1 =>
  (if (t1 != 0) = true then
  some ([], t1)
  else
  (flag_hoists_c1 a0 a1).bind (fun xs1 =>
  ((
    rangeL (α := (List Int)) (S := Unit) (X := Ctl (Unit) ((List Int) × Int)) (fun _ x1 _ =>
      (slices_Clone_int x1).bind (fun t2 =>
      some (Step.done (Ctl.ret (t2, 0))))) (fun _ => Ctl.next ()) xs1 0 ()) : Option (Ctl (Unit) ((List Int) × Int))).bind (fun o => match o with
    | .next _ =>
      some ([], 10)
    | .ret r => some r
    | .exit _ _ => none))))

def digitsS (s : ByteArray) : Option (List Int) := if s.size ≤ 1000 ∧ (bytes s).all (fun b => decide (48 ≤ b.toNat) && decide (b.toNat ≤ 57)) = true then some ((bytes s).map fun b => (b.toNat : Int) - 48) else none
theorem digitsS_some {s : ByteArray} {r : List Int} (h : digitsS s = some r) : s.size ≤ 1000 ∧ (∀ b ∈ bytes s, 48 ≤ b.toNat ∧ b.toNat ≤ 57) ∧ r = (bytes s).map fun b => (b.toNat : Int) - 48 := by
  unfold digitsS at h
  split at h
  · rename_i hc
    refine ⟨hc.1, fun b hb => ?_, (Option.some.inj h).symm⟩
    have := List.all_eq_true.1 hc.2 b hb
    simpa using this
  · cases h
theorem sub48c : ∀ b : Nat, 48 ≤ b → b ≤ 57 → IntKind.i32.wrap ((b : Int) - 48) = (b : Int) - 48 ∧ cvI .i64 ((b : Int) - 48) = some ((b : Int) - 48) := by
  intro b h1 h2
  have : ∀ c : Nat, c < 10 → IntKind.i32.wrap (c : Int) = c ∧ cvI .i64 (c : Int) = some (c : Int) := by decide
  have h := this (b - 48) (by omega)
  rw [show ((b - 48 : Nat) : Int) = (b : Int) - 48 by omega] at h
  exact h

def station_session_hoist (a0 : GSession) (a1 : (List ByteArray)) : Option (Ref (ByteArray)) :=
  (idx a1 0).bind (fun x1 =>
  (digitsS x1).bind (fun t1 =>
  (flag_With t1 a0.inside.flags).bind (fun o => match o with
  | (t2, t3) =>
    mustB (t3 == 0) t3 (
    ((
      rangeL (α := Int) (S := (List ByteArray)) (X := (List ByteArray)) (fun ik1 yk1 z2 =>
        (strconv_Itoa yk1).bind (fun t4 =>
        (appI z2 ([t4] : List ByteArray)).bind (fun t5 =>
        some (Step.cont t5)))) (fun z2 => z2) t2 0 ([] : List ByteArray)) : Option ((List ByteArray))).bind (fun s1 =>
    (strings_Join s1 (bs [44])).bind (fun t6 =>
    some (Ref.ok t6)))))))

def sight_named (a0 : GNet) (a1 : Int) : Option (Int) :=
  (sight_Valid (GNet.mk a0.Rates a0.Sights)).bind (fun t1 =>
  (if (!t1) = true then
  some 1
  else
  (subI ((a0.Sights.length : Nat) : Int) 1).bind (fun t2 =>
  (sight_within a1 0 t2).bind (fun t3 =>
  (if (!t3) = true then
    some 5
  else
    some 0)))))

def sight_without (a0 : GNet) (a1 : Int) : Option (GNet) :=
  (slices_Clone_int a0.Rates).bind (fun t1 =>
  (slices_Clone_Sight a0.Sights).bind (fun t2 =>
  (addI a1 1).bind (fun t3 =>
  (delI t2 a1 t3).bind (fun t4 =>
  some (GNet.mk t1 t4)))))

def sight_Without (a0 : GNet) (a1 : Int) : Option (GNet × Int) :=
  (sight_named (GNet.mk a0.Rates a0.Sights) a1).bind (fun t1 =>
  (if (t1 != 0) = true then
  some ((GNet.mk ([] : List Int) ([] : List GSight)), t1)
  else
  (sight_without (GNet.mk a0.Rates a0.Sights) a1).bind (fun t2 =>
  some ((GNet.mk t2.Rates t2.Sights), 0))))

def station_session_drop (a0 : GSession) (a1 : (List ByteArray)) : Option (Ref (GSession × ByteArray)) :=
  (station_values a1).bind (fun t1 =>
  (idx t1 0).bind (fun x1 =>
  (sight_Without (GNet.mk a0.inside.net.Rates a0.inside.net.Sights) x1).bind (fun o => match o with
  | (t2, t3) =>
    mustB (t3 == 0) t3 (
  (station_said (bs [115, 105, 103, 104, 116, 115]) ([((t2.Sights.length : Nat) : Int)] : List Int)).bind (fun t4 =>
  some (Ref.ok ((GSession.mk (GInside.mk a0.inside.mast a0.inside.day t2 a0.inside.log a0.inside.state a0.inside.verdicts a0.inside.ledger a0.inside.flags)), t4)))))))

def station_number_right (a1 : ByteArray) : Option (Bool) :=
  (atoiI a1).bind (fun t1 =>
  ((if (((atoiB a1) && (decide (0 ≤ t1))) && (decide (((a1.size : Nat) : Int) ≤ 12))) = true then
  (strconv_Itoa t1).bind (fun t2 =>
  some (decide (t2 = a1)))
  else
  some false) : Option Bool).bind (fun b2 =>
  some b2))

def internal_stringslite_HasPrefix (a0 : ByteArray) (a1 : ByteArray) : Option (Bool) :=
  ((if (decide (((a1.size : Nat) : Int) ≤ ((a0.size : Nat) : Int))) = true then
  (cutB a0 0 ((a1.size : Nat) : Int)).bind (fun t1 =>
  some (decide (t1 = a1)))
  else
  some false) : Option Bool).bind (fun b1 =>
  some b1)

def internal_stringslite_CutPrefix (a0 : ByteArray) (a1 : ByteArray) : Option (ByteArray × Bool) :=
  (internal_stringslite_HasPrefix a0 a1).bind (fun t1 =>
  (if (!t1) = true then
  some (a0, false)
  else
  (cutB a0 ((a1.size : Nat) : Int) ((a0.size : Nat) : Int)).bind (fun t2 =>
  some (t2, true))))

def strings_CutPrefix (a0 : ByteArray) (a1 : ByteArray) : Option (ByteArray × Bool) :=
  (internal_stringslite_CutPrefix a0 a1).bind (fun o => match o with
  | (t1, t2) =>
    some (t1, t2))

def station_signed_right (a1 : ByteArray) : Option (Bool) :=
  (strings_CutPrefix a1 (bs [45])).bind (fun o => match o with
  | (t1, t2) =>
    (station_number_right t1).bind (fun t3 =>
    some (t3 && (!(t2 && (decide (t1 = (bs [48]))))))))

def station_digits_right (a1 : ByteArray) : Option (Bool) :=
  ((if ((decide (1 ≤ ((a1.size : Nat) : Int))) && (decide (((a1.size : Nat) : Int) ≤ 4))) = true then
  (strings_Trim a1 (bs [48, 49, 50, 51, 52, 53, 54, 55, 56, 57])).bind (fun t1 =>
  some (decide (t1 = (bs []))))
  else
  some false) : Option Bool).bind (fun b2 =>
  some b2)

def doF (c : Nat) : Nat := 41 + c
def cmdNm : Nat → ByteArray
  | 0 => ⟨#[115, 105, 103, 104, 116]⟩
  | 1 => ⟨#[101, 118, 101, 110, 116]⟩
  | 2 => ⟨#[99, 108, 111, 115, 101]⟩
  | 3 => ⟨#[115, 97, 121]⟩
  | 4 => ⟨#[102, 111, 117, 110, 100]⟩
  | 5 => ⟨#[101, 114, 114, 111, 114]⟩
  | 6 => ⟨#[98, 101, 115, 116]⟩
  | 7 => ⟨#[111, 102, 102]⟩
  | 8 => ⟨#[116, 111, 114, 110]⟩
  | 9 => ⟨#[109, 101, 110, 100, 101, 100]⟩
  | 10 => ⟨#[104, 111, 105, 115, 116]⟩
  | _ => ⟨#[100, 114, 111, 112]⟩
def kindsOf : Nat → List Nat
  | 0 => [0, 0, 0, 1, 1]
  | 1 => [0, 0, 0]
  | 2 => []
  | 3 => [1]
  | 4 => [0, 1]
  | 5 => [0, 0]
  | 6 => [0]
  | 7 => [0]
  | 8 => [0]
  | 9 => [0]
  | 10 => [2]
  | _ => [0]
def cmdOf (x : ByteArray) : Option Nat := (List.range 12).find? fun c => decide (cmdNm c = x)
def kindC : Nat → C1
  | 0 => ⟨.iface 107 (.agg #[]), rfl⟩
  | 1 => ⟨.iface 108 (.agg #[]), rfl⟩
  | _ => ⟨.iface 109 (.agg #[]), rfl⟩
def kindsV (c : Nat) : List C1 := (kindsOf c).map kindC
/-- A form: its kinds' slice, its command. -/
structure GFm where
  k : Value
  c : Nat
  one : k.oneCell' = true
instance : Flat GFm := ⟨2, fun a => .agg #[a.k, .func (.func (doF a.c)) #[] #[]], fun a => [a.k, .func (.func (doF a.c)) #[] #[]], fun _ => rfl, fun _ => rfl, fun a c hc => by
  rcases List.mem_cons.1 hc with rfl | hc
  · exact a.one
  · rw [List.mem_singleton.1 hc]; rfl, by decide⟩
def formsKV (g : Nat → GFm) : List (ByteArray × GFm) := (List.range 12).map fun c => (cmdNm c, g c)
def formI (r : Nat) (g : Nat → GFm) : Item :=
  ⟨fun b => b = r ∨ ∃ c, c < 12 ∧ (g c).k.ownBlock = some b, fun w => (mapI r (formsKV g)).ok w ∧ ∀ c, c < 12 → (g c).c = c ∧ (ownI (α := C1) (g c).k 85 (kindsV c)).ok w,
    fun w w' hg hb h => ⟨(mapI r (formsKV g)).loc w w' hg (fun b e => hb b (.inl e)) h.1, fun c hc => ⟨(h.2 c hc).1, (ownI (α := C1) (g c).k 85 (kindsV c)).loc w w' hg (fun b e => hb b (.inr ⟨c, hc, e⟩)) (h.2 c hc).2⟩⟩⟩
theorem InvD.form {X : Nat → Prop} {w0 w : World} {L : List Item} (H : InvD X w0 w L) (i : Nat) {r : Nat} {g : Nat → GFm} (hi : L[i]? = some (formI r g)) : MapOk w r (formsKV g) ∧ ∀ c, c < 12 → (g c).c = c ∧ SliceR w (g c).k (kindsV c) := by
  obtain ⟨h1, h2⟩ := (H.items _ (List.mem_of_getElem? hi)).1
  exact ⟨h1, fun c hc => ⟨(h2 c hc).1, ownsRow_sliceR (h2 c hc).2⟩⟩
def rightK (k : Nat) (w : ByteArray) : Option Bool := match k with
  | 0 => station_number_right w
  | 1 => station_signed_right w
  | _ => station_digits_right w
def rightAll : List Nat → List ByteArray → Option Bool
  | [], _ => some true
  | _ :: _, [] => none
  | k :: ks, w :: ws => (rightK k w).bind fun b => if b = true then rightAll ks ws else some false
def station_parsed (a0 : ByteArray) : Option (Option (Nat × List ByteArray)) :=
  (station_proper a0).bind fun b => if b = true then (strings_Split a0 ⟨#[32]⟩).bind fun l => match l with
    | [] => none
    | x :: xs => match cmdOf x with
      | none => some none
      | some c => if xs.length = (kindsOf c).length then (rightAll (kindsOf c) xs).bind fun b => some (if b = true then some (c, xs) else none) else some none
  else some none
def ParP (w0 w : World) (r : Option (Nat × List ByteArray)) (v : Value) : Prop := match r with
  | none => v = .tuple #[.agg #[.slice none 0 0, .nilFunc], .slice none 0 0, .bool false]
  | some (c, ws) => ∃ (vk vw : Value) (b : Nat) (ob : Obj), v = .tuple #[.agg #[vk, .func (.func (doF c)) #[] #[]], vw, .bool true] ∧ (w0.heap.size ≤ b ∧ w.heap[b]? = some ob) ∧ (∀ w2 : World, w2.heap[b]? = some ob → SliceR w2 vw ws) ∧ c < 12 ∧ vk.oneCell' = true
theorem find_range_map {α : Type} (p : ByteArray → Bool) (nm : Nat → ByteArray) (g : Nat → α) : ∀ l : List Nat, ((l.map fun c => (nm c, g c)).find? fun q => p q.1) = (l.find? fun c => p (nm c)).map fun c => (nm c, g c)
  | [] => rfl
  | c :: l => by
    rw [List.map_cons, List.find?_cons, List.find?_cons]
    cases p (nm c) with
    | true => rfl
    | false => exact find_range_map p nm g l
theorem forms_get (g : Nat → GFm) (x : ByteArray) : mget (formsKV g) x = (cmdOf x).map g := by
  unfold mget formsKV cmdOf
  rw [find_range_map (fun q => @BEq.beq ByteArray instBEqOfDecidableEq q x) cmdNm g, Option.map_map]
  rfl
theorem cmdOf_lt {x : ByteArray} {c : Nat} (h : cmdOf x = some c) : c < 12 := by
  have := List.mem_of_find?_eq_some h
  simpa using this

def station_copyNet (a0 : GNet) : Option (GNet) :=
  (slices_Clone_int a0.Rates).bind (fun t1 =>
  (slices_Clone_Sight a0.Sights).bind (fun t2 =>
  some (GNet.mk t1 t2)))

def slices_Clone_Event (a0 : (List GEvent)) : Option ((List GEvent)) :=
  (appI ([] : List GEvent) a0).bind (fun t1 =>
  some t1)

def station_inside_copied (a0 : GInside) : Option (GInside) :=
  (station_copyNet (GNet.mk a0.net.Rates a0.net.Sights)).bind (fun t1 =>
  (slices_Clone_Event a0.log).bind (fun t2 =>
  (slices_Clone_int a0.verdicts).bind (fun t3 =>
  (slices_Clone_Entry a0.ledger).bind (fun t4 =>
  some (GInside.mk a0.mast a0.day (GNet.mk t1.Rates t1.Sights) t2 a0.state t3 t4 a0.flags)))))

noncomputable def sessionDo (a0 : GSession) (c : Nat) (ws : List ByteArray) : Option (Ref (GSession × ByteArray)) := match c with
  | 0 => station_session_sight a0 ws
  | 1 => station_session_event a0 ws
  | 2 => station_session_close a0 ws
  | 3 => station_session_say a0 ws
  | 4 => station_session_found a0 ws
  | 5 => (station_session_bounds a0 ws).map fun r => match r with | .ok t => .ok (a0, t) | .no e => .no e
  | 6 => (station_session_best a0 ws).map fun r => match r with | .ok t => .ok (a0, t) | .no e => .no e
  | 7 => (station_session_off a0 ws).map fun r => match r with | .ok t => .ok (a0, t) | .no e => .no e
  | 8 => station_session_torn a0 ws
  | 9 => station_session_mended a0 ws
  | 10 => (station_session_hoist a0 ws).map fun r => match r with | .ok t => .ok (a0, t) | .no e => .no e
  | 11 => station_session_drop a0 ws
  | _ => none
noncomputable def station_session_attempt (a0 : GSession) (c : Nat) (ws : List ByteArray) : Option (Ref (GSession × ByteArray)) := (sessionDo a0 c ws).bind fun r => match r with
  | .ok p => some (.ok p)
  | .no e => if e = 0 then none else some (.no e)

def station_hex (a0 : Int) : Option (ByteArray) :=
  (strconv_FormatUint a0 16).bind (fun t1 =>
  (cutB (bs [48, 48, 48, 48, 48, 48, 48, 48, 48, 48, 48, 48, 48, 48, 48, 48]) ((t1.size : Nat) : Int) (((bs [48, 48, 48, 48, 48, 48, 48, 48, 48, 48, 48, 48, 48, 48, 48, 48]).size : Nat) : Int)).bind (fun t2 =>
  (catI t2 t1).bind (fun t3 =>
  some t3)))

def station_hash (a0 : ByteArray) : Option (Int) :=
  (bytesI a0).bind (fun t1 =>
  ((
  rangeL (α := UInt8) (S := Int) (X := Int) (fun ik1 yk1 z2 =>
    (cvI .u64 (yk1.toNat : Int)).bind (fun t2 =>
    some (Step.cont (wrU ((bits .xor .u64 z2 t2) * 1099511628211))))) (fun z2 => z2) t1 0 14695981039346656037) : Option (Int)).bind (fun s1 =>
  some s1))

def station_next (a0 : (List GLine)) (a1 : ByteArray) : Option (GLine) :=
  ((
  (if (decide (0 < ((a0.length : Nat) : Int))) = true then
    (subI ((a0.length : Nat) : Int) 1).bind (fun t1 =>
    (idx a0 t1).bind (fun x1 =>
    (station_hex x1.Sum).bind (fun t2 =>
    some t2)))
  else
    some (bs [48, 48, 48, 48, 48, 48, 48, 48, 48, 48, 48, 48, 48, 48, 48, 48]))) : Option (ByteArray)).bind (fun s1 =>
  (catI s1 (bs [32])).bind (fun t3 =>
  (catI t3 a1).bind (fun t4 =>
  (station_hash t4).bind (fun t5 =>
  some (GLine.mk ((a0.length : Nat) : Int) a1 t5)))))

noncomputable def station_Station_Do (a0 : GStation) (a1 : ByteArray) : Option (GStation × ByteArray × Int) :=
  (station_parsed a1).bind (fun o => match o with
  | none =>
    some (a0, (bs []), 12)
  | some (t1, t2) =>
    (if (((a0.lines.length : Nat) : Int) == 2000) = true then
      some (a0, (bs []), 4)
    else
      (station_inside_copied (GInside.mk a0.inside.mast a0.inside.day (GNet.mk a0.inside.net.Rates a0.inside.net.Sights) a0.inside.log a0.inside.state a0.inside.verdicts a0.inside.ledger a0.inside.flags)).bind (fun t3 =>
      (station_session_attempt (GSession.mk t3) t1 t2).bind (fun o => match o with
        | .ok (t4, t5) =>
          (station_next a0.lines a1).bind (fun t7 =>
          (appI a0.lines ([t7] : List GLine)).bind (fun t8 =>
          some ((GStation.mk t4.inside t8), t5, 0)))
        | .no t6 =>
          some (a0, (bs []), t6)))))

def station_Station_Net (a0 : GStation) : Option (GNet) :=
  (station_copyNet (GNet.mk a0.inside.net.Rates a0.inside.net.Sights)).bind (fun t1 =>
  some (GNet.mk t1.Rates t1.Sights))

def station_Station_Ball (a0 : GStation) : Option (GBall) :=
  some a0.inside.state

def station_Station_Day (a0 : GStation) : Option (Int) :=
  some a0.inside.day

def station_Station_Log (a0 : GStation) : Option ((List GEvent)) :=
  (slices_Clone_Event a0.inside.log).bind (fun t1 =>
  some t1)

def station_Station_Verdicts (a0 : GStation) : Option ((List Int)) :=
  (slices_Clone_int a0.inside.verdicts).bind (fun t1 =>
  some t1)

def station_Station_Ledger (a0 : GStation) : Option ((List GEntry)) :=
  (slices_Clone_Entry a0.inside.ledger).bind (fun t1 =>
  some t1)

def station_Station_Flags (a0 : GStation) : Option (Int) :=
  some a0.inside.flags

def station_written (a0 : GLine) : Option (ByteArray) :=
  (strconv_Itoa a0.Number).bind (fun t1 =>
  (catI t1 (bs [32])).bind (fun t2 =>
  (station_hex a0.Sum).bind (fun t3 =>
  (catI t2 t3).bind (fun t4 =>
  (catI t4 (bs [32])).bind (fun t5 =>
  (catI t5 a0.Text).bind (fun t6 =>
  (catI t6 (bs [10])).bind (fun t7 =>
  some t7)))))))

def station_bound (a0 : (List GLine)) : Option (ByteArray) :=
  ((
  rangeL (α := GLine) (S := (List UInt8)) (X := (List UInt8)) (fun ik1 yk1 z2 =>
    (station_written yk1).bind (fun t1 =>
    (addL' z2 t1).bind (fun t2 =>
    some (Step.cont t2)))) (fun z2 => z2) a0 0 ([] : List UInt8)) : Option ((List UInt8))).bind (fun s1 =>
  some (⟨List.toArray s1⟩ : ByteArray))

def station_Station_Book (a0 : GStation) : Option (ByteArray) :=
  (station_bound a0.lines).bind (fun t1 =>
  some t1)

def slices_Clone_Line (a0 : (List GLine)) : Option ((List GLine)) :=
  (appI ([] : List GLine) a0).bind (fun t1 =>
  some t1)

def station_Station_Copy (a0 : GStation) : Option (GStation) :=
  (station_inside_copied (GInside.mk a0.inside.mast a0.inside.day (GNet.mk a0.inside.net.Rates a0.inside.net.Sights) a0.inside.log a0.inside.state a0.inside.verdicts a0.inside.ledger a0.inside.flags)).bind (fun t1 =>
  (slices_Clone_Line a0.lines).bind (fun t2 =>
  some (GStation.mk t1 t2)))

def noongunlaw10_mast  : Option (GMast) :=
  some (GMast.mk 43200000 300000 120000 200 3600000 60)

def station_New (a0 : GMast) (a1 : (List Int)) : Option (Got (Int) (GStation)) :=
  (slices_Clone_int a1).bind (fun t1 =>
  (ball_ValidMast a0).bind (fun t2 =>
  ((if (!t2) = true then
  some true
  else
  (sight_Valid (GNet.mk t1 ([] : List GSight))).bind (fun t3 =>
  some (!t3))) : Option Bool).bind (fun b3 =>
  (if b3 = true then
  some (Got.nil 1)
  else
  some (Got.got (GStation.mk (GInside.mk a0 0 (GNet.mk t1 ([] : List GSight)) ([] : List GEvent) (GBall.mk 0 0 false 0) ([] : List Int) ([] : List GEntry) 8191) ([] : List GLine)))))))

noncomputable def noongunlaw10_awake  : Option (Bool) :=
  (noongunlaw10_mast ).bind (fun t1 =>
  (station_New t1 ([0, 10000] : List Int)).bind (fun o => match o with
  | .got t2 =>
    (station_Station_Do t2 (bs [115, 105, 103, 104, 116, 32, 48, 32, 49, 32, 48, 32, 49, 48, 48, 32, 49, 48, 48])).bind (fun o => match o with
      | (t4, t5, t6) =>
        (station_Station_Do t4 (bs [101, 114, 114, 111, 114, 32, 49, 32, 49, 48, 48, 48, 48, 48, 48])).bind (fun o => match o with
          | (t7, t8, t9) =>
            (station_Station_Do t7 (bs [115, 105, 103, 104, 116, 32, 49, 48, 48, 48, 48, 48, 48, 32, 49, 32, 48, 32, 49, 53, 48, 32, 49, 54, 48])).bind (fun o => match o with
              | (t10, t11, t12) =>
                (station_Station_Do t10 (bs [116, 111, 114, 110, 32, 49, 48])).bind (fun o => match o with
                  | (t13, t14, t15) =>
                    (station_Station_Do t13 (bs [104, 111, 105, 115, 116, 32, 49, 49])).bind (fun o => match o with
                      | (t16, t17, t18) =>
                        some (((((decide (t5 = (bs [115, 105, 103, 104, 116, 115, 32, 49]))) && (decide (t8 = (bs [101, 114, 114, 111, 114, 32, 57, 48, 32, 49, 49, 48])))) && (t12 == 9)) && (decide (t14 = (bs [102, 108, 97, 103, 115, 32, 49, 50])))) && (t18 == 10)))))))
  | .nil t3 =>
    some false))

def station_Station_Do_nil (a1 : ByteArray) : Option (ByteArray × Int) :=
  some ((bs []), 9)

def station_Station_Net_nil  : Option (GNet) :=
  some (GNet.mk ([] : List Int) ([] : List GSight))

def station_Station_Ball_nil  : Option (GBall) :=
  some (GBall.mk 0 0 false 0)

def station_Station_Day_nil  : Option (Int) :=
  some 0

def station_Station_Log_nil  : Option ((List GEvent)) :=
  some ([] : List GEvent)

def station_Station_Verdicts_nil  : Option ((List Int)) :=
  some ([] : List Int)

def station_Station_Ledger_nil  : Option ((List GEntry)) :=
  some ([] : List GEntry)

def station_Station_Flags_nil  : Option (Int) :=
  some 0

def station_Station_Book_nil  : Option (ByteArray) :=
  some (bs [])

noncomputable def noongunlaw10_StationNil (a0 : ByteArray) : Option (Bool) :=
  (station_Station_Do_nil a0).bind (fun o => match o with
  | (t1, t2) =>
    (station_Station_Net_nil ).bind (fun t3 =>
    ((if ((!(decide (t1 = (bs [])))) || (t2 != 9)) = true then
      some true
    else
      (addI ((t3.Rates.length : Nat) : Int) ((t3.Sights.length : Nat) : Int)).bind (fun t4 =>
      some (t4 != 0))) : Option Bool).bind (fun b2 =>
    ((if b2 = true then
      some true
    else
      (station_Station_Ball_nil ).bind (fun t5 =>
      some (!(t5 == (GBall.mk 0 0 false 0))))) : Option Bool).bind (fun b3 =>
    (if b3 = true then
      some false
    else
      (station_Station_Day_nil ).bind (fun t6 =>
      ((if (t6 == 0) = true then
        (station_Station_Log_nil ).bind (fun t7 =>
        some (((t7.length : Nat) : Int) == 0))
      else
        some false) : Option Bool).bind (fun b4 =>
      ((if b4 = true then
        (station_Station_Verdicts_nil ).bind (fun t8 =>
        some (((t8.length : Nat) : Int) == 0))
      else
        some false) : Option Bool).bind (fun b5 =>
      ((if b5 = true then
        (station_Station_Ledger_nil ).bind (fun t9 =>
        some (((t9.length : Nat) : Int) == 0))
      else
        some false) : Option Bool).bind (fun b6 =>
      ((if b6 = true then
        (station_Station_Flags_nil ).bind (fun t10 =>
        some (t10 == 0))
      else
        some false) : Option Bool).bind (fun b7 =>
      ((if b7 = true then
        (station_Station_Book_nil ).bind (fun t11 =>
        some (decide (t11 = (bs []))))
      else
        some false) : Option Bool).bind (fun b8 =>
      ((if b8 = true then
        (noongunlaw10_awake ).bind (fun t12 =>
        some t12)
      else
        some false) : Option Bool).bind (fun b9 =>
      some b9))))))))))))

end Go.Fw
