/-
  What the other functions compute: written by a program from the functions. No condition.
-/
import Derived.Test.YtailgbhadhoedaaSgCirc
namespace Go.Fw
def okGSight (a : GSight) : Prop := inI a.At = true ∧ inI a.A = true ∧ inI a.B = true ∧ inI a.Lo = true ∧ inI a.Hi = true
def okGNet (a : GNet) : Prop := (a.Rates.length ≤ maxLen ∧ ∀ x ∈ a.Rates, (fun a => inI a = true) x) ∧ (a.Sights.length ≤ maxLen ∧ ∀ x ∈ a.Sights, okGSight x)
def noongunlaw02_Light (a0 : GNet) : Option (Bool) :=
  some ((decide (((a0.Rates.length : Nat) : Int) ≤ 100)) && ((decide (((a0.Sights.length : Nat) : Int) ≤ 8)) || ((decide (30 < ((a0.Sights.length : Nat) : Int))) && (decide (((a0.Sights.length : Nat) : Int) ≤ 100)))))

def noongunlaw02_two  : Option (GNet) :=
  some (GNet.mk ([0, 10000] : List Int) ([(GSight.mk 0 1 0 100 100), (GSight.mk 1000000 1 0 150 160)] : List GSight))

def sight_within (a0 : Int) (a1 : Int) (a2 : Int) : Option (Bool) :=
  some ((decide (a1 ≤ a0)) && (decide (a0 ≤ a2)))

def sight_Valid_c1 (a0 : Int) : Option (Bool) :=
  (sight_within a0 0 1000000).bind (fun t1 =>
  some (!t1))

def slices_IndexFunc_int (a0 : (List Int)) (a1 : Int → Option (Bool)) : Option (Int) :=
  ((
  rangeN (S := Unit) (X := Ctl (Unit) (Int)) (fun ik1 _ =>
    (idx a0 (ik1 : Int)).bind (fun x1 =>
    (a1 x1).bind (fun t1 =>
    (if t1 = true then
      some (Step.done (Ctl.ret (ik1 : Int)))
    else
      some (Step.cont ()))))) (fun _ => Ctl.next ()) (Int.toNat ((a0.length : Nat) : Int)) 0 ()) : Option (Ctl (Unit) (Int))).bind (fun o => match o with
  | .next _ =>
    some (-1)
  | .ret r => some r
  | .exit _ _ => none)

def slices_ContainsFunc_int (a0 : (List Int)) (a1 : Int → Option (Bool)) : Option (Bool) :=
  (slices_IndexFunc_int a0 a1).bind (fun t1 =>
  some (decide (0 ≤ t1)))

def sight_validSight (a0 : GSight) (a1 : Int) : Option (Bool) :=
  (sight_within a0.At 0 1000000000000).bind (fun t1 =>
  ((if t1 = true then
  (subI a1 1).bind (fun t2 =>
  (sight_within a0.A 0 t2).bind (fun t3 =>
  some t3))
  else
  some false) : Option Bool).bind (fun b2 =>
  ((if b2 = true then
  (subI a1 1).bind (fun t4 =>
  (sight_within a0.B 0 t4).bind (fun t5 =>
  some t5))
  else
  some false) : Option Bool).bind (fun b3 =>
  ((if (b3 && (a0.A != a0.B)) = true then
  (sight_within a0.Lo (-86400000) a0.Hi).bind (fun t6 =>
  some t6)
  else
  some false) : Option Bool).bind (fun b4 =>
  some (b4 && (decide (a0.Hi ≤ 86400000)))))))

def sight_Valid_c2 (a0 : GSight) (c0 : Int) : Option (Bool) :=
  (sight_validSight a0 c0).bind (fun t1 =>
  some (!t1))

def slices_IndexFunc_Sight (a0 : (List GSight)) (a1 : GSight → Option (Bool)) : Option (Int) :=
  ((
  rangeN (S := Unit) (X := Ctl (Unit) (Int)) (fun ik1 _ =>
    (idx a0 (ik1 : Int)).bind (fun x1 =>
    (a1 x1).bind (fun t1 =>
    (if t1 = true then
      some (Step.done (Ctl.ret (ik1 : Int)))
    else
      some (Step.cont ()))))) (fun _ => Ctl.next ()) (Int.toNat ((a0.length : Nat) : Int)) 0 ()) : Option (Ctl (Unit) (Int))).bind (fun o => match o with
  | .next _ =>
    some (-1)
  | .ret r => some r
  | .exit _ _ => none)

def slices_ContainsFunc_Sight (a0 : (List GSight)) (a1 : GSight → Option (Bool)) : Option (Bool) :=
  (slices_IndexFunc_Sight a0 a1).bind (fun t1 =>
  some (decide (0 ≤ t1)))

def sight_Valid (a0 : GNet) : Option (Bool) :=
  (sight_within ((a0.Rates.length : Nat) : Int) 2 8).bind (fun t1 =>
  ((if (!t1) = true then
  some true
  else
  (idx a0.Rates 0).bind (fun x1 =>
  some (x1 != 0))) : Option Bool).bind (fun b3 =>
  ((if b3 = true then
  some true
  else
  (slices_ContainsFunc_int a0.Rates (fun x0 => sight_Valid_c1 x0)).bind (fun t2 =>
  some t2)) : Option Bool).bind (fun b4 =>
  (if b4 = true then
  some false
  else
  ((if (decide (((a0.Sights.length : Nat) : Int) ≤ 30)) = true then
    (slices_ContainsFunc_Sight a0.Sights (fun x0 => sight_Valid_c2 x0 ((a0.Rates.length : Nat) : Int))).bind (fun t3 =>
    some (!t3))
  else
    some false) : Option Bool).bind (fun b5 =>
  some b5)))))

noncomputable def sight_Consistent (a0 : GNet) : Option (Bool × Int) :=
  (sight_Valid (GNet.mk a0.Rates a0.Sights)).bind (fun t1 =>
  (if (!t1) = true then
  some (false, 1)
  else
  (sight_graphOf (GNet.mk a0.Rates a0.Sights) ([] : List GPoint)).bind (fun o => match o with
    | (t2, t3) =>
      (circleG t2 t3).bind (fun o => match o with
        | (t4, t5) =>
          some (t4, 0)))))

def sight_clock_c1 (a0 : Int) (c0 : GNet) : Option (Bool) :=
  (subI ((c0.Rates.length : Nat) : Int) 1).bind (fun t1 =>
  (sight_within a0 0 t1).bind (fun t2 =>
  some (!t2)))

def sight_clock (a0 : GNet) (a1 : (List Int)) : Option (Int) :=
  (sight_Valid (GNet.mk a0.Rates a0.Sights)).bind (fun t1 =>
  (if (!t1) = true then
  some 1
  else
  (slices_ContainsFunc_int a1 (fun x0 => sight_clock_c1 x0 (GNet.mk a0.Rates a0.Sights))).bind (fun t2 =>
  (if t2 = true then
    some 5
  else
    some 0))))

noncomputable def sight_between (a0 : GNet) (a1 : Int) (a2 : Int) (a3 : Int) : Option (GSpan × Bool) :=
  (if (a1 == a2) = true then
  some ((GSpan.mk 0 0), true)
  else
  (sight_pointOf a1 a3).bind (fun t1 =>
  (sight_pointOf a2 a3).bind (fun t2 =>
  (sight_graphOf (GNet.mk a0.Rates a0.Sights) ([t1, t2] : List GPoint)).bind (fun o => match o with
    | (t3, t4) =>
      (leastG t3 t4 t2 t1).bind (fun o => match o with
        | (t5, t6) =>
          (leastG t3 t4 t1 t2).bind (fun o => match o with
            | (t7, t8) =>
              (negI t7).bind (fun t9 =>
              some ((GSpan.mk t9 t5), (t6 && t8)))))))))

noncomputable def sight_Between (a0 : GNet) (a1 : Int) (a2 : Int) (a3 : Int) : Option (GSpan × Int) :=
  (sight_clock (GNet.mk a0.Rates a0.Sights) ([a1, a2] : List Int)).bind (fun t1 =>
  (if (t1 != 0) = true then
  some ((GSpan.mk 0 0), t1)
  else
  (sight_within a3 0 1000000000000).bind (fun t2 =>
  (if (!t2) = true then
    some ((GSpan.mk 0 0), 7)
  else
    (sight_graphOf (GNet.mk a0.Rates a0.Sights) ([] : List GPoint)).bind (fun o => match o with
      | (t3, t4) =>
        (circleG t3 t4).bind (fun o => match o with
          | (t5, t6) =>
            (if (!t5) = true then
              some ((GSpan.mk 0 0), 9)
            else
              (sight_between (GNet.mk a0.Rates a0.Sights) a1 a2 a3).bind (fun o => match o with
                | (t7, t8) =>
                  (if (!t8) = true then
                    some ((GSpan.mk 0 0), 8)
                  else
                    some (t7, 0))))))))))

noncomputable def sight_Error (a0 : GNet) (a1 : Int) (a2 : Int) : Option (GSpan × Int) :=
  (sight_Between (GNet.mk a0.Rates a0.Sights) a1 0 a2).bind (fun o => match o with
  | (t1, t2) =>
    some (t1, t2))

def sight_Proves_c1 (a0 : Int) (c0 : GNet) : Option (Bool) :=
  (mulI 2 ((c0.Sights.length : Nat) : Int)).bind (fun t1 =>
  (subI t1 1).bind (fun t2 =>
  (sight_within a0 0 t2).bind (fun t3 =>
  some (!t3))))

def sight_Proves (a0 : GNet) (a1 : (List Int)) : Option (Bool) :=
  (sight_Valid (GNet.mk a0.Rates a0.Sights)).bind (fun t1 =>
  ((if ((!t1) || (((a1.length : Nat) : Int) == 0)) = true then
  some true
  else
  (slices_ContainsFunc_int a1 (fun x0 => sight_Proves_c1 x0 (GNet.mk a0.Rates a0.Sights))).bind (fun t2 =>
  some t2)) : Option Bool).bind (fun b2 =>
  (if b2 = true then
  some false
  else
  ((
    rangeN (S := Int) (X := Ctl (Int) (Bool)) (fun ik1 z2 =>
      (idx a1 (ik1 : Int)).bind (fun x1 =>
      (sight_taken (GNet.mk a0.Rates a0.Sights) x1).bind (fun o => match o with
        | (t3, t4, t5) =>
          (addI (ik1 : Int) 1).bind (fun t6 =>
          (remI t6 ((a1.length : Nat) : Int)).bind (fun t7 =>
          (idx a1 t7).bind (fun x2 =>
          (sight_taken (GNet.mk a0.Rates a0.Sights) x2).bind (fun o => match o with
            | (t8, t9, t10) =>
              (if (t4.clock != t8.clock) = true then
            some (Step.done (Ctl.ret false))
          else
            (subI t4.at_ t8.at_).bind (fun t11 =>
            (sight_carry (GNet.mk a0.Rates a0.Sights) t4.clock t11).bind (fun t12 =>
            (addI t5 t12).bind (fun t13 =>
            (addI z2 t13).bind (fun t14 =>
            some (Step.cont t14))))))))))))) (fun z2 => Ctl.next z2) (Int.toNat ((a1.length : Nat) : Int)) 0 0) : Option (Ctl (Int) (Bool))).bind (fun o => match o with
    | .next s1 =>
      some (decide (s1 < 0))
    | .ret r => some r
    | .exit _ _ => none))))

noncomputable def noongunlaw02_awake  : Option (Bool) :=
  (noongunlaw02_two ).bind (fun t1 =>
  (sight_Consistent (GNet.mk t1.Rates t1.Sights)).bind (fun o => match o with
  | (t2, t3) =>
    (cutI t1.Sights 0 1).bind (fun t4 =>
    (sight_Error (GNet.mk t1.Rates t4) 1 1000000).bind (fun o => match o with
      | (t5, t6) =>
        ((if ((t3 == 0) && (!t2)) = true then
          (noongunlaw02_two ).bind (fun t7 =>
          (sight_Proves t7 ([0, 3] : List Int)).bind (fun t8 =>
          some t8))
        else
          some false) : Option Bool).bind (fun b3 =>
        some ((b3 && (t6 == 0)) && (t5 == (GSpan.mk 90 110))))))))

def noongunref02_within (a0 : Int) (a1 : Int) (a2 : Int) : Option (Bool) :=
  some ((decide (a1 ≤ a0)) && (decide (a0 ≤ a2)))

def noongunref02_ValidSight (a0 : GSight) (a1 : Int) : Option (Bool) :=
  (noongunref02_within a0.At 0 1000000000000).bind (fun t1 =>
  some ((((((((t1 && (decide (0 ≤ a0.A))) && (decide (a0.A < a1))) && (decide (0 ≤ a0.B))) && (decide (a0.B < a1))) && (a0.A != a0.B)) && (decide ((-86400000) ≤ a0.Lo))) && (decide (a0.Lo ≤ a0.Hi))) && (decide (a0.Hi ≤ 86400000))))

def noongunref02_Valid (a0 : GNet) : Option (Bool) :=
  (noongunref02_within ((a0.Rates.length : Nat) : Int) 2 8).bind (fun t1 =>
  ((if (!t1) = true then
  some true
  else
  (idx a0.Rates 0).bind (fun x1 =>
  some (x1 != 0))) : Option Bool).bind (fun b2 =>
  (if (b2 || (decide (30 < ((a0.Sights.length : Nat) : Int)))) = true then
  some false
  else
  ((
    rangeL (α := Int) (S := Unit) (X := Ctl (Unit) (Bool)) (fun ik1 yk1 _ =>
      (noongunref02_within yk1 0 1000000).bind (fun t2 =>
      (if (!t2) = true then
        some (Step.done (Ctl.ret false))
      else
        some (Step.cont ())))) (fun _ => Ctl.next ()) a0.Rates 0 ()) : Option (Ctl (Unit) (Bool))).bind (fun o => match o with
    | .next _ =>
      ((
        rangeL (α := GSight) (S := Unit) (X := Ctl (Unit) (Bool)) (fun ik2 yk2 _ =>
          (noongunref02_ValidSight yk2 ((a0.Rates.length : Nat) : Int)).bind (fun t3 =>
          (if (!t3) = true then
            some (Step.done (Ctl.ret false))
          else
            some (Step.cont ())))) (fun _ => Ctl.next ()) a0.Sights 0 ()) : Option (Ctl (Unit) (Bool))).bind (fun o => match o with
        | .next _ =>
          some true
        | .ret r => some r
        | .exit _ _ => none)
    | .ret r => some r
    | .exit _ _ => none))))

def noongunref02_Consistent (a0 : GNet) : Option (Bool × Int) :=
  (noongunref02_Valid (GNet.mk a0.Rates a0.Sights)).bind (fun t1 =>
  (if (!t1) = true then
  some (false, 1)
  else
  (noongunref02_ways (GNet.mk a0.Rates a0.Sights) ([] : List GPoint)).bind (fun o => match o with
    | (t2, t3) =>
      (noongunref02_graph_consistent (GRefgraph.mk t2 t3)).bind (fun t4 =>
      some (t4, 0)))))

def noongunref02_Proves (a0 : GNet) (a1 : (List Int)) : Option (Bool) :=
  (noongunref02_Valid (GNet.mk a0.Rates a0.Sights)).bind (fun t1 =>
  (if ((!t1) || (((a1.length : Nat) : Int) == 0)) = true then
  some false
  else
  ((
    rangeL (α := Int) (S := Int × (List GPoint) × (List GPoint)) (X := Ctl (Int × (List GPoint) × (List GPoint)) (Bool)) (fun ik1 yk1 s =>
    match s with
      | (z4, z5, z6) =>
        ((
          (mulI 2 ((a0.Sights.length : Nat) : Int)).bind (fun t2 =>
          (subI t2 1).bind (fun t3 =>
          (noongunref02_within yk1 0 t3).bind (fun t4 =>
          (if (!t4) = true then
            some (Ctl.ret false)
          else
            (quoI yk1 2).bind (fun t5 =>
            (idx a0.Sights t5).bind (fun x1 =>
            (noongunref02_spot x1.A x1.At).bind (fun t6 =>
            (noongunref02_spot x1.B x1.At).bind (fun t7 =>
            (remI yk1 2).bind (fun t8 =>
            ((
              (if (t8 == 0) = true then
                (appI z5 ([t7] : List GPoint)).bind (fun t9 =>
                (appI z6 ([t6] : List GPoint)).bind (fun t10 =>
                (addI z4 x1.Hi).bind (fun t11 =>
                some (t11, t9, t10))))
              else
                (appI z5 ([t6] : List GPoint)).bind (fun t12 =>
                (appI z6 ([t7] : List GPoint)).bind (fun t13 =>
                (subI z4 x1.Lo).bind (fun t14 =>
                some (t14, t12, t13)))))) : Option (Int × (List GPoint) × (List GPoint))).bind (fun o => match o with
              | (s7, s8, s9) =>
                some (Ctl.next (s7, s8, s9))))))))))))) : Option (Ctl (Int × (List GPoint) × (List GPoint)) (Bool))).bind (fun o => match o with
          | .next (s4, s5, s6) =>
            some (Step.cont (s4, s5, s6))
          | .ret r => some (Step.done (Ctl.ret r))
          | .exit _ _ => none)) (fun s => match s with | (z4, z5, z6) => Ctl.next (z4, z5, z6)) a1 0 (0, ([] : List GPoint), ([] : List GPoint))) : Option (Ctl (Int × (List GPoint) × (List GPoint)) (Bool))).bind (fun o => match o with
    | .next (s1, s2, s3) =>
      ((
        rangeN (S := Int) (X := Ctl (Int) (Bool)) (fun ik2 z11 =>
          (idx s3 (ik2 : Int)).bind (fun x2 =>
          (addI (ik2 : Int) 1).bind (fun t15 =>
          (remI t15 ((s2.length : Nat) : Int)).bind (fun t16 =>
          (idx s2 t16).bind (fun x3 =>
          (if (x2.clock != x3.clock) = true then
            some (Step.done (Ctl.ret false))
          else
            (idx a0.Rates x2.clock).bind (fun x4 =>
            (subI x2.at_ x3.at_).bind (fun t17 =>
            (noongunref02_carry x4 t17).bind (fun t18 =>
            (addI z11 t18).bind (fun t19 =>
            some (Step.cont t19))))))))))) (fun z11 => Ctl.next z11) (Int.toNat ((s3.length : Nat) : Int)) 0 s1) : Option (Ctl (Int) (Bool))).bind (fun o => match o with
        | .next s10 =>
          some (decide (s10 < 0))
        | .ret r => some r
        | .exit _ _ => none)
    | .ret r => some r
    | .exit _ _ => none)))

noncomputable def sight_Conflict (a0 : GNet) : Option ((List Int) × Int) :=
  (sight_Valid (GNet.mk a0.Rates a0.Sights)).bind (fun t1 =>
  (if (!t1) = true then
  some (([] : List Int), 1)
  else
  (sight_graphOf (GNet.mk a0.Rates a0.Sights) ([] : List GPoint)).bind (fun o => match o with
    | (t2, t3) =>
      (circleG t2 t3).bind (fun o => match o with
        | (t4, t5) =>
          (if t4 = true then
            some (([] : List Int), 8)
          else
            some (t5, 0))))))

noncomputable def noongunlaw02_SightProves (a0 : GNet) (a1 : (List Int)) : Option (Bool) :=
  (noongunlaw02_Light (GNet.mk a0.Rates a0.Sights)).bind (fun t1 =>
  (if ((!t1) || (decide (100 < ((a1.length : Nat) : Int)))) = true then
  (noongunlaw02_awake ).bind (fun t2 =>
  some t2)
  else
  (sight_Consistent (GNet.mk a0.Rates a0.Sights)).bind (fun o => match o with
    | (t3, t4) =>
      (noongunref02_Consistent (GNet.mk a0.Rates a0.Sights)).bind (fun o => match o with
        | (t5, t6) =>
          (sight_Proves (GNet.mk a0.Rates a0.Sights) a1).bind (fun t7 =>
          ((if ((t3 != t5) || (t4 != t6)) = true then
            some true
          else
            (noongunref02_Proves (GNet.mk a0.Rates a0.Sights) a1).bind (fun t8 =>
            some (t7 != t8))) : Option Bool).bind (fun b2 =>
          (if (b2 || (t7 && t3)) = true then
            some false
          else
            (sight_Conflict (GNet.mk a0.Rates a0.Sights)).bind (fun o => match o with
              | (t9, t10) =>
                (if (t4 != 0) = true then
                  ((if (t10 == t4) = true then
                    (noongunlaw02_awake ).bind (fun t11 =>
                    some t11)
                  else
                    some false) : Option Bool).bind (fun b3 =>
                  some b3)
                else
                  (if t3 = true then
                    ((if (t10 == 8) = true then
                      (noongunlaw02_awake ).bind (fun t12 =>
                      some t12)
                    else
                      some false) : Option Bool).bind (fun b4 =>
                    some b4)
                  else
                    ((if ((t10 == 0) && (decide (((t9.length : Nat) : Int) ≤ 1000))) = true then
                      (noongunref02_Proves (GNet.mk a0.Rates a0.Sights) t9).bind (fun t13 =>
                      some t13)
                    else
                      some false) : Option Bool).bind (fun b5 =>
                    ((if b5 = true then
                      (sight_Proves (GNet.mk a0.Rates a0.Sights) t9).bind (fun t14 =>
                      some t14)
                    else
                      some false) : Option Bool).bind (fun b6 =>
                    ((if b6 = true then
                      (noongunlaw02_awake ).bind (fun t15 =>
                      some t15)
                    else
                      some false) : Option Bool).bind (fun b7 =>
                    some b7)))))))))))))

end Go.Fw
