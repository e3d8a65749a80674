/-
  What the other functions compute: written by a program from the functions. No condition.
-/
import Derived.Test.YtailgbhadhoedaaSgCirc
namespace Go.Fw
def okGSight (a : GSight) : Prop := inI a.At = true ∧ inI a.A = true ∧ inI a.B = true ∧ inI a.Lo = true ∧ inI a.Hi = true
def okGNet (a : GNet) : Prop := (a.Rates.length ≤ maxLen ∧ ∀ x ∈ a.Rates, (fun a => inI a = true) x) ∧ (a.Sights.length ≤ maxLen ∧ ∀ x ∈ a.Sights, okGSight x)
def noongunlaw02_Light (a0 : GNet) : Option (Bool) :=
  some ((decide (((a0.Rates.length : Nat) : Int) ≤ 100)) && ((decide (((a0.Sights.length : Nat) : Int) ≤ 8)) || ((decide (30 < ((a0.Sights.length : Nat) : Int))) && (decide (((a0.Sights.length : Nat) : Int) ≤ 100)))))

def noongunlaw02_two  : Option (GNet) :=
  some (GNet.mk ([0, 10000] : List Int) ([(GSight.mk 0 1 0 100 100), (GSight.mk 1000000 1 0 150 160)] : List GSight))

def sight_within (a0 : Int) (a1 : Int) (a2 : Int) : Option (Bool) :=
  some ((decide (a1 ≤ a0)) && (decide (a0 ≤ a2)))

def sight_Valid_c1 (a0 : Int) : Option (Bool) :=
  (sight_within a0 0 1000000).bind (fun t1 =>
  some (!t1))

def slices_IndexFunc_int (a0 : (List Int)) (a1 : Int → Option (Bool)) : Option (Int) :=
  ((
  rangeN (S := Unit) (X := Ctl (Unit) (Int)) (fun ik1 _ =>
    (idx a0 (ik1 : Int)).bind (fun x1 =>
    (a1 x1).bind (fun t1 =>
    (if t1 = true then
      some (Step.done (Ctl.ret (ik1 : Int)))
    else
      some (Step.cont ()))))) (fun _ => Ctl.next ()) (Int.toNat ((a0.length : Nat) : Int)) 0 ()) : Option (Ctl (Unit) (Int))).bind (fun o => match o with
  | .next _ =>
    some (-1)
  | .ret r => some r
  | .exit _ _ => none)

def slices_ContainsFunc_int (a0 : (List Int)) (a1 : Int → Option (Bool)) : Option (Bool) :=
  (slices_IndexFunc_int a0 a1).bind (fun t1 =>
  some (decide (0 ≤ t1)))

def sight_validSight (a0 : GSight) (a1 : Int) : Option (Bool) :=
  (sight_within a0.At 0 1000000000000).bind (fun t1 =>
  ((if t1 = true then
  (subI a1 1).bind (fun t2 =>
  (sight_within a0.A 0 t2).bind (fun t3 =>
  some t3))
  else
  some false) : Option Bool).bind (fun b2 =>
  ((if b2 = true then
  (subI a1 1).bind (fun t4 =>
  (sight_within a0.B 0 t4).bind (fun t5 =>
  some t5))
  else
  some false) : Option Bool).bind (fun b3 =>
  ((if (b3 && (a0.A != a0.B)) = true then
  (sight_within a0.Lo (-86400000) a0.Hi).bind (fun t6 =>
  some t6)
  else
  some false) : Option Bool).bind (fun b4 =>
  some (b4 && (decide (a0.Hi ≤ 86400000)))))))

def sight_Valid_c2 (a0 : GSight) (c0 : Int) : Option (Bool) :=
  (sight_validSight a0 c0).bind (fun t1 =>
  some (!t1))

def slices_IndexFunc_Sight (a0 : (List GSight)) (a1 : GSight → Option (Bool)) : Option (Int) :=
  ((
  rangeN (S := Unit) (X := Ctl (Unit) (Int)) (fun ik1 _ =>
    (idx a0 (ik1 : Int)).bind (fun x1 =>
    (a1 x1).bind (fun t1 =>
    (if t1 = true then
      some (Step.done (Ctl.ret (ik1 : Int)))
    else
      some (Step.cont ()))))) (fun _ => Ctl.next ()) (Int.toNat ((a0.length : Nat) : Int)) 0 ()) : Option (Ctl (Unit) (Int))).bind (fun o => match o with
  | .next _ =>
    some (-1)
  | .ret r => some r
  | .exit _ _ => none)

def slices_ContainsFunc_Sight (a0 : (List GSight)) (a1 : GSight → Option (Bool)) : Option (Bool) :=
  (slices_IndexFunc_Sight a0 a1).bind (fun t1 =>
  some (decide (0 ≤ t1)))

def sight_Valid (a0 : GNet) : Option (Bool) :=
  (sight_within ((a0.Rates.length : Nat) : Int) 2 8).bind (fun t1 =>
  ((if (!t1) = true then
  some true
  else
  (idx a0.Rates 0).bind (fun x1 =>
  some (x1 != 0))) : Option Bool).bind (fun b3 =>
  ((if b3 = true then
  some true
  else
  (slices_ContainsFunc_int a0.Rates (fun x0 => sight_Valid_c1 x0)).bind (fun t2 =>
  some t2)) : Option Bool).bind (fun b4 =>
  (if b4 = true then
  some false
  else
  ((if (decide (((a0.Sights.length : Nat) : Int) ≤ 30)) = true then
    (slices_ContainsFunc_Sight a0.Sights (fun x0 => sight_Valid_c2 x0 ((a0.Rates.length : Nat) : Int))).bind (fun t3 =>
    some (!t3))
  else
    some false) : Option Bool).bind (fun b5 =>
  some b5)))))

noncomputable def sight_Consistent (a0 : GNet) : Option (Bool × Int) :=
  (sight_Valid (GNet.mk a0.Rates a0.Sights)).bind (fun t1 =>
  (if (!t1) = true then
  some (false, 1)
  else
  (sight_graphOf (GNet.mk a0.Rates a0.Sights) ([] : List GPoint)).bind (fun o => match o with
    | (t2, t3) =>
      (circleG t2 t3).bind (fun o => match o with
        | (t4, t5) =>
          some (t4, 0)))))

def sight_clock_c1 (a0 : Int) (c0 : GNet) : Option (Bool) :=
  (subI ((c0.Rates.length : Nat) : Int) 1).bind (fun t1 =>
  (sight_within a0 0 t1).bind (fun t2 =>
  some (!t2)))

def sight_clock (a0 : GNet) (a1 : (List Int)) : Option (Int) :=
  (sight_Valid (GNet.mk a0.Rates a0.Sights)).bind (fun t1 =>
  (if (!t1) = true then
  some 1
  else
  (slices_ContainsFunc_int a1 (fun x0 => sight_clock_c1 x0 (GNet.mk a0.Rates a0.Sights))).bind (fun t2 =>
  (if t2 = true then
    some 5
  else
    some 0))))

noncomputable def sight_between (a0 : GNet) (a1 : Int) (a2 : Int) (a3 : Int) : Option (GSpan × Bool) :=
  (if (a1 == a2) = true then
  some ((GSpan.mk 0 0), true)
  else
  (sight_pointOf a1 a3).bind (fun t1 =>
  (sight_pointOf a2 a3).bind (fun t2 =>
  (sight_graphOf (GNet.mk a0.Rates a0.Sights) ([t1, t2] : List GPoint)).bind (fun o => match o with
    | (t3, t4) =>
      (leastG t3 t4 t2 t1).bind (fun o => match o with
        | (t5, t6) =>
          (leastG t3 t4 t1 t2).bind (fun o => match o with
            | (t7, t8) =>
              (negI t7).bind (fun t9 =>
              some ((GSpan.mk t9 t5), (t6 && t8)))))))))

noncomputable def sight_Between (a0 : GNet) (a1 : Int) (a2 : Int) (a3 : Int) : Option (GSpan × Int) :=
  (sight_clock (GNet.mk a0.Rates a0.Sights) ([a1, a2] : List Int)).bind (fun t1 =>
  (if (t1 != 0) = true then
  some ((GSpan.mk 0 0), t1)
  else
  (sight_within a3 0 1000000000000).bind (fun t2 =>
  (if (!t2) = true then
    some ((GSpan.mk 0 0), 7)
  else
    (sight_graphOf (GNet.mk a0.Rates a0.Sights) ([] : List GPoint)).bind (fun o => match o with
      | (t3, t4) =>
        (circleG t3 t4).bind (fun o => match o with
          | (t5, t6) =>
            (if (!t5) = true then
              some ((GSpan.mk 0 0), 9)
            else
              (sight_between (GNet.mk a0.Rates a0.Sights) a1 a2 a3).bind (fun o => match o with
                | (t7, t8) =>
                  (if (!t8) = true then
                    some ((GSpan.mk 0 0), 8)
                  else
                    some (t7, 0))))))))))

noncomputable def sight_Error (a0 : GNet) (a1 : Int) (a2 : Int) : Option (GSpan × Int) :=
  (sight_Between (GNet.mk a0.Rates a0.Sights) a1 0 a2).bind (fun o => match o with
  | (t1, t2) =>
    some (t1, t2))

def sight_Proves_c1 (a0 : Int) (c0 : GNet) : Option (Bool) :=
  (mulI 2 ((c0.Sights.length : Nat) : Int)).bind (fun t1 =>
  (subI t1 1).bind (fun t2 =>
  (sight_within a0 0 t2).bind (fun t3 =>
  some (!t3))))

def sight_Proves (a0 : GNet) (a1 : (List Int)) : Option (Bool) :=
  (sight_Valid (GNet.mk a0.Rates a0.Sights)).bind (fun t1 =>
  ((if ((!t1) || (((a1.length : Nat) : Int) == 0)) = true then
  some true
  else
  (slices_ContainsFunc_int a1 (fun x0 => sight_Proves_c1 x0 (GNet.mk a0.Rates a0.Sights))).bind (fun t2 =>
  some t2)) : Option Bool).bind (fun b2 =>
  (if b2 = true then
  some false
  else
  ((
    rangeN (S := Int) (X := Ctl (Int) (Bool)) (fun ik1 z2 =>
      (idx a1 (ik1 : Int)).bind (fun x1 =>
      (sight_taken (GNet.mk a0.Rates a0.Sights) x1).bind (fun o => match o with
        | (t3, t4, t5) =>
          (addI (ik1 : Int) 1).bind (fun t6 =>
          (remI t6 ((a1.length : Nat) : Int)).bind (fun t7 =>
          (idx a1 t7).bind (fun x2 =>
          (sight_taken (GNet.mk a0.Rates a0.Sights) x2).bind (fun o => match o with
            | (t8, t9, t10) =>
              (if (t4.clock != t8.clock) = true then
            some (Step.done (Ctl.ret false))
          else
            (subI t4.at_ t8.at_).bind (fun t11 =>
            (sight_carry (GNet.mk a0.Rates a0.Sights) t4.clock t11).bind (fun t12 =>
            (addI t5 t12).bind (fun t13 =>
            (addI z2 t13).bind (fun t14 =>
            some (Step.cont t14))))))))))))) (fun z2 => Ctl.next z2) (Int.toNat ((a1.length : Nat) : Int)) 0 0) : Option (Ctl (Int) (Bool))).bind (fun o => match o with
    | .next s1 =>
      some (decide (s1 < 0))
    | .ret r => some r
    | .exit _ _ => none))))

noncomputable def noongunlaw02_awake  : Option (Bool) :=
  (noongunlaw02_two ).bind (fun t1 =>
  (sight_Consistent (GNet.mk t1.Rates t1.Sights)).bind (fun o => match o with
  | (t2, t3) =>
    (cutI t1.Sights 0 1).bind (fun t4 =>
    (sight_Error (GNet.mk t1.Rates t4) 1 1000000).bind (fun o => match o with
      | (t5, t6) =>
        ((if ((t3 == 0) && (!t2)) = true then
          (noongunlaw02_two ).bind (fun t7 =>
          (sight_Proves t7 ([0, 3] : List Int)).bind (fun t8 =>
          some t8))
        else
          some false) : Option Bool).bind (fun b3 =>
        some ((b3 && (t6 == 0)) && (t5 == (GSpan.mk 90 110))))))))

def sight_named (a0 : GNet) (a1 : Int) : Option (Int) :=
  (sight_Valid (GNet.mk a0.Rates a0.Sights)).bind (fun t1 =>
  (if (!t1) = true then
  some 1
  else
  (subI ((a0.Sights.length : Nat) : Int) 1).bind (fun t2 =>
  (sight_within a1 0 t2).bind (fun t3 =>
  (if (!t3) = true then
    some 5
  else
    some 0)))))

def slices_Clone_int (a0 : (List Int)) : Option ((List Int)) :=
  (appI ([] : List Int) a0).bind (fun t1 =>
  some t1)

def slices_Clone_Sight (a0 : (List GSight)) : Option ((List GSight)) :=
  (appI ([] : List GSight) a0).bind (fun t1 =>
  some t1)

def sight_without (a0 : GNet) (a1 : Int) : Option (GNet) :=
  (slices_Clone_int a0.Rates).bind (fun t1 =>
  (slices_Clone_Sight a0.Sights).bind (fun t2 =>
  (addI a1 1).bind (fun t3 =>
  (delI t2 a1 t3).bind (fun t4 =>
  some (GNet.mk t1 t4)))))

noncomputable def sight_implied (a0 : GNet) (a1 : Int) : Option (Bool) :=
  (idx a0.Sights a1).bind (fun x1 =>
  (sight_without (GNet.mk a0.Rates a0.Sights) a1).bind (fun t1 =>
  (sight_between t1 x1.A x1.B x1.At).bind (fun o => match o with
  | (t2, t3) =>
    some ((t3 && (decide (x1.Lo ≤ t2.Lo))) && (decide (t2.Hi ≤ x1.Hi))))))

noncomputable def sight_Implied (a0 : GNet) (a1 : Int) : Option (Bool × Int) :=
  (sight_named (GNet.mk a0.Rates a0.Sights) a1).bind (fun t1 =>
  (if (t1 != 0) = true then
  some (false, t1)
  else
  (sight_graphOf (GNet.mk a0.Rates a0.Sights) ([] : List GPoint)).bind (fun o => match o with
    | (t2, t3) =>
      (circleG t2 t3).bind (fun o => match o with
        | (t4, t5) =>
          (if (!t4) = true then
            some (false, 9)
          else
            (sight_implied (GNet.mk a0.Rates a0.Sights) a1).bind (fun t6 =>
            some (t6, 0)))))))

def noongunref02_within (a0 : Int) (a1 : Int) (a2 : Int) : Option (Bool) :=
  some ((decide (a1 ≤ a0)) && (decide (a0 ≤ a2)))

def noongunref02_ValidSight (a0 : GSight) (a1 : Int) : Option (Bool) :=
  (noongunref02_within a0.At 0 1000000000000).bind (fun t1 =>
  some ((((((((t1 && (decide (0 ≤ a0.A))) && (decide (a0.A < a1))) && (decide (0 ≤ a0.B))) && (decide (a0.B < a1))) && (a0.A != a0.B)) && (decide ((-86400000) ≤ a0.Lo))) && (decide (a0.Lo ≤ a0.Hi))) && (decide (a0.Hi ≤ 86400000))))

def noongunref02_Valid (a0 : GNet) : Option (Bool) :=
  (noongunref02_within ((a0.Rates.length : Nat) : Int) 2 8).bind (fun t1 =>
  ((if (!t1) = true then
  some true
  else
  (idx a0.Rates 0).bind (fun x1 =>
  some (x1 != 0))) : Option Bool).bind (fun b2 =>
  (if (b2 || (decide (30 < ((a0.Sights.length : Nat) : Int)))) = true then
  some false
  else
  ((
    rangeL (α := Int) (S := Unit) (X := Ctl (Unit) (Bool)) (fun ik1 yk1 _ =>
      (noongunref02_within yk1 0 1000000).bind (fun t2 =>
      (if (!t2) = true then
        some (Step.done (Ctl.ret false))
      else
        some (Step.cont ())))) (fun _ => Ctl.next ()) a0.Rates 0 ()) : Option (Ctl (Unit) (Bool))).bind (fun o => match o with
    | .next _ =>
      ((
        rangeL (α := GSight) (S := Unit) (X := Ctl (Unit) (Bool)) (fun ik2 yk2 _ =>
          (noongunref02_ValidSight yk2 ((a0.Rates.length : Nat) : Int)).bind (fun t3 =>
          (if (!t3) = true then
            some (Step.done (Ctl.ret false))
          else
            some (Step.cont ())))) (fun _ => Ctl.next ()) a0.Sights 0 ()) : Option (Ctl (Unit) (Bool))).bind (fun o => match o with
        | .next _ =>
          some true
        | .ret r => some r
        | .exit _ _ => none)
    | .ret r => some r
    | .exit _ _ => none))))

def noongunref02_without (a0 : GNet) (a1 : Int) : Option (GNet) :=
  (appI ([] : List Int) a0.Rates).bind (fun t1 =>
  ((
  rangeN (S := (List GSight)) (X := (List GSight)) (fun ik1 z2 =>
    ((
      (idx a0.Sights (ik1 : Int)).bind (fun x1 =>
      ((
        (if ((ik1 : Int) != a1) = true then
          (appI z2 ([x1] : List GSight)).bind (fun t2 =>
          some t2)
        else
          some z2)) : Option ((List GSight))).bind (fun s3 =>
      some s3))) : Option ((List GSight))).bind (fun s2 =>
    some (Step.cont s2))) (fun z2 => z2) (Int.toNat ((a0.Sights.length : Nat) : Int)) 0 ([] : List GSight)) : Option ((List GSight))).bind (fun s1 =>
  some (GNet.mk t1 s1)))

def noongunref02_named (a0 : GNet) (a1 : Int) : Option (Bool) :=
  some ((decide (0 ≤ a1)) && (decide (a1 < ((a0.Rates.length : Nat) : Int))))

def noongunref02_asked (a0 : GNet) (a1 : Int) (a2 : (List Int)) : Option (Int) :=
  (noongunref02_Valid (GNet.mk a0.Rates a0.Sights)).bind (fun t1 =>
  (if (!t1) = true then
  some 1
  else
  ((
    rangeL (α := Int) (S := Unit) (X := Ctl (Unit) (Int)) (fun ik1 yk1 _ =>
      (noongunref02_named (GNet.mk a0.Rates a0.Sights) yk1).bind (fun t2 =>
      (if (!t2) = true then
        some (Step.done (Ctl.ret 5))
      else
        some (Step.cont ())))) (fun _ => Ctl.next ()) a2 0 ()) : Option (Ctl (Unit) (Int))).bind (fun o => match o with
    | .next _ =>
      (noongunref02_within a1 0 1000000000000).bind (fun t3 =>
      (if (!t3) = true then
        some 7
      else
        some 0))
    | .ret r => some r
    | .exit _ _ => none)))

def noongunref02_between (a0 : GNet) (a1 : GPoint) (a2 : GPoint) : Option (GSpan × Int) :=
  (noongunref02_ways (GNet.mk a0.Rates a0.Sights) ([a1, a2] : List GPoint)).bind (fun o => match o with
  | (t1, t2) =>
    (noongunref02_graph_consistent (GRefgraph.mk t1 t2)).bind (fun t3 =>
    (if (!t3) = true then
      some ((GSpan.mk 0 0), 9)
    else
      (noongunref02_graph_index (GRefgraph.mk t1 t2) a2).bind (fun t4 =>
      (idx t2 t4).bind (fun x1 =>
      (noongunref02_graph_index (GRefgraph.mk t1 t2) a1).bind (fun t5 =>
      (idx x1 t5).bind (fun x2 =>
      (noongunref02_graph_index (GRefgraph.mk t1 t2) a1).bind (fun t6 =>
      (idx t2 t6).bind (fun x3 =>
      (noongunref02_graph_index (GRefgraph.mk t1 t2) a2).bind (fun t7 =>
      (idx x3 t7).bind (fun x4 =>
      (if ((x2 == 1152921504606846976) || (x4 == 1152921504606846976)) = true then
        some ((GSpan.mk 0 0), 8)
      else
        (negI x4).bind (fun t8 =>
        some ((GSpan.mk t8 x2), 0))))))))))))))

def noongunref02_Between (a0 : GNet) (a1 : Int) (a2 : Int) (a3 : Int) : Option (GSpan × Int) :=
  (noongunref02_asked (GNet.mk a0.Rates a0.Sights) a3 ([a1, a2] : List Int)).bind (fun t1 =>
  (if (t1 != 0) = true then
  some ((GSpan.mk 0 0), t1)
  else
  (noongunref02_spot a1 a3).bind (fun t2 =>
  (noongunref02_spot a2 a3).bind (fun t3 =>
  (noongunref02_between (GNet.mk a0.Rates a0.Sights) t2 t3).bind (fun o => match o with
    | (t4, t5) =>
      some (t4, t5))))))

def noongunref02_implied (a0 : GNet) (a1 : Int) : Option (Bool) :=
  (idx a0.Sights a1).bind (fun x1 =>
  (noongunref02_without (GNet.mk a0.Rates a0.Sights) a1).bind (fun t1 =>
  (noongunref02_Between t1 x1.A x1.B x1.At).bind (fun o => match o with
  | (t2, t3) =>
    some (((t3 == 0) && (decide (x1.Lo ≤ t2.Lo))) && (decide (t2.Hi ≤ x1.Hi))))))

def noongunref02_Implied (a0 : GNet) (a1 : Int) : Option (Bool × Int) :=
  (noongunref02_Valid (GNet.mk a0.Rates a0.Sights)).bind (fun t1 =>
  (if (!t1) = true then
  some (false, 1)
  else
  (subI ((a0.Sights.length : Nat) : Int) 1).bind (fun t2 =>
  (noongunref02_within a1 0 t2).bind (fun t3 =>
  (if (!t3) = true then
    some (false, 5)
  else
    (noongunref02_ways (GNet.mk a0.Rates a0.Sights) ([] : List GPoint)).bind (fun o => match o with
      | (t4, t5) =>
        (noongunref02_graph_consistent (GRefgraph.mk t4 t5)).bind (fun t6 =>
        (if (!t6) = true then
          some (false, 9)
        else
          (noongunref02_implied (GNet.mk a0.Rates a0.Sights) a1).bind (fun t7 =>
          some (t7, 0))))))))))

noncomputable def sight_agrees (a0 : GNet) : Option (Int) :=
  (sight_Consistent (GNet.mk a0.Rates a0.Sights)).bind (fun o => match o with
  | (t1, t2) =>
    (if ((t2 == 0) && (!t1)) = true then
      some 9
    else
      some t2))

noncomputable def sight_Tight (a0 : GNet) : Option (GNet × Int) :=
  (sight_agrees (GNet.mk a0.Rates a0.Sights)).bind (fun t1 =>
  (if (t1 != 0) = true then
  some ((GNet.mk ([] : List Int) ([] : List GSight)), t1)
  else
  (slices_Clone_int a0.Rates).bind (fun t2 =>
  ((
    rangeL (α := GSight) (S := (List GSight)) (X := (List GSight)) (fun ik1 yk1 z2 =>
      (sight_between (GNet.mk a0.Rates a0.Sights) yk1.A yk1.B yk1.At).bind (fun o => match o with
        | (t3, t4) =>
          (appI z2 ([(GSight.mk yk1.At yk1.A yk1.B t3.Lo t3.Hi)] : List GSight)).bind (fun t5 =>
          some (Step.cont t5)))) (fun z2 => z2) a0.Sights 0 ([] : List GSight)) : Option ((List GSight))).bind (fun s1 =>
  some ((GNet.mk t2 s1), 0)))))

def noongunref02_Tight (a0 : GNet) : Option (GNet × Int) :=
  (noongunref02_Valid (GNet.mk a0.Rates a0.Sights)).bind (fun t1 =>
  (if (!t1) = true then
  some ((GNet.mk ([] : List Int) ([] : List GSight)), 1)
  else
  (noongunref02_ways (GNet.mk a0.Rates a0.Sights) ([] : List GPoint)).bind (fun o => match o with
    | (t2, t3) =>
      (noongunref02_graph_consistent (GRefgraph.mk t2 t3)).bind (fun t4 =>
      (if (!t4) = true then
        some ((GNet.mk ([] : List Int) ([] : List GSight)), 9)
      else
        (noongunref02_without (GNet.mk a0.Rates a0.Sights) (-1)).bind (fun t5 =>
        ((
          rangeN (S := (List GSight)) (X := (List GSight)) (fun ik1 z2 =>
            (idx a0.Sights (ik1 : Int)).bind (fun x1 =>
            (noongunref02_Between (GNet.mk a0.Rates a0.Sights) x1.A x1.B x1.At).bind (fun o => match o with
              | (t6, t7) =>
                (idx z2 (ik1 : Int)).bind (fun x2 =>
                (idx (z2.set (Int.toNat (ik1 : Int)) (GSight.mk x2.At x2.A x2.B t6.Lo x2.Hi)) (ik1 : Int)).bind (fun x3 =>
                some (Step.cont ((z2.set (Int.toNat (ik1 : Int)) (GSight.mk x2.At x2.A x2.B t6.Lo x2.Hi)).set (Int.toNat (ik1 : Int)) (GSight.mk x3.At x3.A x3.B x3.Lo t6.Hi)))))))) (fun z2 => z2) (Int.toNat ((a0.Sights.length : Nat) : Int)) 0 t5.Sights) : Option ((List GSight))).bind (fun s1 =>
        some ((GNet.mk t5.Rates s1), 0))))))))

noncomputable def sight_Needed (a0 : GNet) : Option ((List Int) × Int) :=
  (sight_agrees (GNet.mk a0.Rates a0.Sights)).bind (fun t1 =>
  (if (t1 != 0) = true then
  some (([] : List Int), t1)
  else
  ((
    rangeN (S := (List Int)) (X := (List Int)) (fun ik1 z2 =>
      (appI z2 ([(ik1 : Int)] : List Int)).bind (fun t2 =>
      some (Step.cont t2))) (fun z2 => z2) (Int.toNat ((a0.Sights.length : Nat) : Int)) 0 ([] : List Int)) : Option ((List Int))).bind (fun s1 =>
  (subI ((a0.Sights.length : Nat) : Int) 1).bind (fun t3 =>
  ((
    loopR (S := Int × (List Int) × (List Int) × (List GSight)) (X := (List Int)) (fun (s : Int × (List Int) × (List Int) × (List GSight)) => match s with
      | (z8, z9, z10, z11) =>
        (if (decide (0 ≤ z8)) = true then
          ((
            (sight_implied (GNet.mk z10 z11) z8).bind (fun t4 =>
            ((
              (if t4 = true then
                (sight_without (GNet.mk z10 z11) z8).bind (fun t5 =>
                (addI z8 1).bind (fun t6 =>
                (delI z9 z8 t6).bind (fun t7 =>
                some (t7, t5.Rates, t5.Sights))))
              else
                some (z9, z10, z11))) : Option ((List Int) × (List Int) × (List GSight))).bind (fun o => match o with
              | (s6, s7, s8) =>
                some (s6, s7, s8)))) : Option ((List Int) × (List Int) × (List GSight))).bind (fun o => match o with
            | (s3, s4, s5) =>
              (subI z8 1).bind (fun t8 =>
              some (Step.cont (t8, s3, s4, s5))))
        else
          some (Step.done z9))) (t3, s1, a0.Rates, a0.Sights)) : Option ((List Int))).bind (fun s2 =>
  some (s2, 0))))))

noncomputable def noongunref02_Needed (a0 : GNet) : Option ((List Int) × Int) :=
  (noongunref02_Valid (GNet.mk a0.Rates a0.Sights)).bind (fun t1 =>
  (if (!t1) = true then
  some (([] : List Int), 1)
  else
  (noongunref02_ways (GNet.mk a0.Rates a0.Sights) ([] : List GPoint)).bind (fun o => match o with
    | (t2, t3) =>
      (noongunref02_graph_consistent (GRefgraph.mk t2 t3)).bind (fun t4 =>
      (if (!t4) = true then
        some (([] : List Int), 9)
      else
        (noongunref02_without (GNet.mk a0.Rates a0.Sights) (-1)).bind (fun t5 =>
        (subI ((a0.Sights.length : Nat) : Int) 1).bind (fun t6 =>
        ((
          loopR (S := Int × (List Int) × (List GSight) × (List Int)) (X := (List Int)) (fun (s : Int × (List Int) × (List GSight) × (List Int)) => match s with
            | (z5, z6, z7, z8) =>
              (if (decide (0 ≤ z5)) = true then
                ((
                  (noongunref02_implied (GNet.mk z6 z7) z5).bind (fun t7 =>
                  ((
                    (if t7 = true then
                      (noongunref02_without (GNet.mk z6 z7) z5).bind (fun t8 =>
                      some (z8, t8.Rates, t8.Sights))
                    else
                      (appI ([z5] : List Int) z8).bind (fun t9 =>
                      some (t9, z6, z7)))) : Option ((List Int) × (List Int) × (List GSight))).bind (fun o => match o with
                    | (s5, s6, s7) =>
                      some (s5, s6, s7)))) : Option ((List Int) × (List Int) × (List GSight))).bind (fun o => match o with
                  | (s2, s3, s4) =>
                    (subI z5 1).bind (fun t10 =>
                    some (Step.cont (t10, s3, s4, s2))))
              else
                some (Step.done z8))) (t6, t5.Rates, t5.Sights, ([] : List Int))) : Option ((List Int))).bind (fun s1 =>
        some (s1, 0)))))))))

def noongunref02_Same (a0 : GNet) (a1 : GNet) : Option (Bool) :=
  (if ((((a0.Rates.length : Nat) : Int) != ((a1.Rates.length : Nat) : Int)) || (((a0.Sights.length : Nat) : Int) != ((a1.Sights.length : Nat) : Int))) = true then
  some false
  else
  ((
    rangeN (S := Unit) (X := Ctl (Unit) (Bool)) (fun ik1 _ =>
      (idx a0.Rates (ik1 : Int)).bind (fun x1 =>
      (idx a1.Rates (ik1 : Int)).bind (fun x2 =>
      (if (x1 != x2) = true then
        some (Step.done (Ctl.ret false))
      else
        some (Step.cont ()))))) (fun _ => Ctl.next ()) (Int.toNat ((a0.Rates.length : Nat) : Int)) 0 ()) : Option (Ctl (Unit) (Bool))).bind (fun o => match o with
    | .next _ =>
      ((
        rangeN (S := Unit) (X := Ctl (Unit) (Bool)) (fun ik2 _ =>
          (idx a0.Sights (ik2 : Int)).bind (fun x3 =>
          (idx a1.Sights (ik2 : Int)).bind (fun x4 =>
          (if (!(x3 == x4)) = true then
            some (Step.done (Ctl.ret false))
          else
            some (Step.cont ()))))) (fun _ => Ctl.next ()) (Int.toNat ((a0.Sights.length : Nat) : Int)) 0 ()) : Option (Ctl (Unit) (Bool))).bind (fun o => match o with
        | .next _ =>
          some true
        | .ret r => some r
        | .exit _ _ => none)
    | .ret r => some r
    | .exit _ _ => none))

def noongunref01_SameInts (a0 : (List Int)) (a1 : (List Int)) : Option (Bool) :=
  (if (((a0.length : Nat) : Int) != ((a1.length : Nat) : Int)) = true then
  some false
  else
  ((
    rangeN (S := Unit) (X := Ctl (Unit) (Bool)) (fun ik1 _ =>
      (idx a0 (ik1 : Int)).bind (fun x1 =>
      (idx a1 (ik1 : Int)).bind (fun x2 =>
      (if (x1 != x2) = true then
        some (Step.done (Ctl.ret false))
      else
        some (Step.cont ()))))) (fun _ => Ctl.next ()) (Int.toNat ((a0.length : Nat) : Int)) 0 ()) : Option (Ctl (Unit) (Bool))).bind (fun o => match o with
    | .next _ =>
      some true
    | .ret r => some r
    | .exit _ _ => none))

noncomputable def noongunlaw02_SightTightens (a0 : GNet) (a1 : Int) : Option (Bool) :=
  (noongunlaw02_Light (GNet.mk a0.Rates a0.Sights)).bind (fun t1 =>
  (if (!t1) = true then
  (noongunlaw02_awake ).bind (fun t2 =>
  some t2)
  else
  (sight_Implied (GNet.mk a0.Rates a0.Sights) a1).bind (fun o => match o with
    | (t3, t4) =>
      (noongunref02_Implied (GNet.mk a0.Rates a0.Sights) a1).bind (fun o => match o with
        | (t5, t6) =>
          (sight_Tight (GNet.mk a0.Rates a0.Sights)).bind (fun o => match o with
            | (t7, t8) =>
              (noongunref02_Tight (GNet.mk a0.Rates a0.Sights)).bind (fun o => match o with
                | (t9, t10) =>
                  (sight_Needed (GNet.mk a0.Rates a0.Sights)).bind (fun o => match o with
                    | (t11, t12) =>
                      (noongunref02_Needed (GNet.mk a0.Rates a0.Sights)).bind (fun o => match o with
                        | (t13, t14) =>
                          ((if (((t3 == t5) && (t4 == t6)) && (t8 == t10)) = true then
                            (noongunref02_Same (GNet.mk t7.Rates t7.Sights) (GNet.mk t9.Rates t9.Sights)).bind (fun t15 =>
                            some t15)
                          else
                            some false) : Option Bool).bind (fun b4 =>
                          ((if (b4 && (t12 == t14)) = true then
                            (noongunref01_SameInts t11 t13).bind (fun t16 =>
                            some t16)
                          else
                            some false) : Option Bool).bind (fun b5 =>
                          ((if b5 = true then
                            (noongunlaw02_awake ).bind (fun t17 =>
                            some t17)
                          else
                            some false) : Option Bool).bind (fun b6 =>
                          some b6)))))))))))

end Go.Fw
