/-
  What the other functions compute: written by a program from the functions. No condition.
-/
import Derived.Test.YtnkncedhanainaaSgCirc
namespace Go.Fw
def okGTube (a : GTube) : Prop := (a.Wires.length ≤ maxLen ∧ ∀ x ∈ a.Wires, (fun a => inI a = true) x) ∧ inI a.Error = true
def okGStar (a : GStar) : Prop := a.Name.size ≤ maxLen ∧ inI a.Ascension = true ∧ inI a.Shift = true ∧ inI a.Slow = true
def sight_within (a0 : Int) (a1 : Int) (a2 : Int) : Option (Bool) :=
  some ((decide (a1 ≤ a0)) && (decide (a0 ≤ a2)))

def sight_Valid_c1 (a0 : Int) : Option (Bool) :=
  (sight_within a0 0 1000000).bind (fun t1 =>
  some (!t1))

def slices_IndexFunc_int (a0 : (List Int)) (a1 : Int → Option (Bool)) : Option (Int) :=
  ((
  rangeN (S := Unit) (X := Ctl (Unit) (Int)) (fun ik1 _ =>
    (idx a0 (ik1 : Int)).bind (fun x1 =>
    (a1 x1).bind (fun t1 =>
    (if t1 = true then
      some (Step.done (Ctl.ret (ik1 : Int)))
    else
      some (Step.cont ()))))) (fun _ => Ctl.next ()) (Int.toNat ((a0.length : Nat) : Int)) 0 ()) : Option (Ctl (Unit) (Int))).bind (fun o => match o with
  | .next _ =>
    some (-1)
  | .ret r => some r
  | .exit _ _ => none)

def slices_ContainsFunc_int (a0 : (List Int)) (a1 : Int → Option (Bool)) : Option (Bool) :=
  (slices_IndexFunc_int a0 a1).bind (fun t1 =>
  some (decide (0 ≤ t1)))

def sight_validSight (a0 : GSight) (a1 : Int) : Option (Bool) :=
  (sight_within a0.At 0 1000000000000).bind (fun t1 =>
  ((if t1 = true then
  (subI a1 1).bind (fun t2 =>
  (sight_within a0.A 0 t2).bind (fun t3 =>
  some t3))
  else
  some false) : Option Bool).bind (fun b2 =>
  ((if b2 = true then
  (subI a1 1).bind (fun t4 =>
  (sight_within a0.B 0 t4).bind (fun t5 =>
  some t5))
  else
  some false) : Option Bool).bind (fun b3 =>
  ((if (b3 && (a0.A != a0.B)) = true then
  (sight_within a0.Lo (-86400000) a0.Hi).bind (fun t6 =>
  some t6)
  else
  some false) : Option Bool).bind (fun b4 =>
  some (b4 && (decide (a0.Hi ≤ 86400000)))))))

def sight_Valid_c2 (a0 : GSight) (c0 : Int) : Option (Bool) :=
  (sight_validSight a0 c0).bind (fun t1 =>
  some (!t1))

def slices_IndexFunc_Sight (a0 : (List GSight)) (a1 : GSight → Option (Bool)) : Option (Int) :=
  ((
  rangeN (S := Unit) (X := Ctl (Unit) (Int)) (fun ik1 _ =>
    (idx a0 (ik1 : Int)).bind (fun x1 =>
    (a1 x1).bind (fun t1 =>
    (if t1 = true then
      some (Step.done (Ctl.ret (ik1 : Int)))
    else
      some (Step.cont ()))))) (fun _ => Ctl.next ()) (Int.toNat ((a0.length : Nat) : Int)) 0 ()) : Option (Ctl (Unit) (Int))).bind (fun o => match o with
  | .next _ =>
    some (-1)
  | .ret r => some r
  | .exit _ _ => none)

def slices_ContainsFunc_Sight (a0 : (List GSight)) (a1 : GSight → Option (Bool)) : Option (Bool) :=
  (slices_IndexFunc_Sight a0 a1).bind (fun t1 =>
  some (decide (0 ≤ t1)))

def sight_Valid (a0 : GNet) : Option (Bool) :=
  (sight_within ((a0.Rates.length : Nat) : Int) 2 8).bind (fun t1 =>
  ((if (!t1) = true then
  some true
  else
  (idx a0.Rates 0).bind (fun x1 =>
  some (x1 != 0))) : Option Bool).bind (fun b3 =>
  ((if b3 = true then
  some true
  else
  (slices_ContainsFunc_int a0.Rates (fun x0 => sight_Valid_c1 x0)).bind (fun t2 =>
  some t2)) : Option Bool).bind (fun b4 =>
  (if b4 = true then
  some false
  else
  ((if (decide (((a0.Sights.length : Nat) : Int) ≤ 30)) = true then
    (slices_ContainsFunc_Sight a0.Sights (fun x0 => sight_Valid_c2 x0 ((a0.Rates.length : Nat) : Int))).bind (fun t3 =>
    some (!t3))
  else
    some false) : Option Bool).bind (fun b5 =>
  some b5)))))

def sight_clock_c1 (a0 : Int) (c0 : GNet) : Option (Bool) :=
  (subI ((c0.Rates.length : Nat) : Int) 1).bind (fun t1 =>
  (sight_within a0 0 t1).bind (fun t2 =>
  some (!t2)))

def sight_clock (a0 : GNet) (a1 : (List Int)) : Option (Int) :=
  (sight_Valid (GNet.mk a0.Rates a0.Sights)).bind (fun t1 =>
  (if (!t1) = true then
  some 1
  else
  (slices_ContainsFunc_int a1 (fun x0 => sight_clock_c1 x0 (GNet.mk a0.Rates a0.Sights))).bind (fun t2 =>
  (if t2 = true then
    some 5
  else
    some 0))))

noncomputable def sight_between (a0 : GNet) (a1 : Int) (a2 : Int) (a3 : Int) : Option (GSpan × Bool) :=
  (if (a1 == a2) = true then
  some ((GSpan.mk 0 0), true)
  else
  (sight_pointOf a1 a3).bind (fun t1 =>
  (sight_pointOf a2 a3).bind (fun t2 =>
  (sight_graphOf (GNet.mk a0.Rates a0.Sights) ([t1, t2] : List GPoint)).bind (fun o => match o with
    | (t3, t4) =>
      (leastG t3 t4 t2 t1).bind (fun o => match o with
        | (t5, t6) =>
          (leastG t3 t4 t1 t2).bind (fun o => match o with
            | (t7, t8) =>
              (negI t7).bind (fun t9 =>
              some ((GSpan.mk t9 t5), (t6 && t8)))))))))

noncomputable def sight_Between (a0 : GNet) (a1 : Int) (a2 : Int) (a3 : Int) : Option (GSpan × Int) :=
  (sight_clock (GNet.mk a0.Rates a0.Sights) ([a1, a2] : List Int)).bind (fun t1 =>
  (if (t1 != 0) = true then
  some ((GSpan.mk 0 0), t1)
  else
  (sight_within a3 0 1000000000000).bind (fun t2 =>
  (if (!t2) = true then
    some ((GSpan.mk 0 0), 7)
  else
    (sight_graphOf (GNet.mk a0.Rates a0.Sights) ([] : List GPoint)).bind (fun o => match o with
      | (t3, t4) =>
        (circleG t3 t4).bind (fun o => match o with
          | (t5, t6) =>
            (if (!t5) = true then
              some ((GSpan.mk 0 0), 9)
            else
              (sight_between (GNet.mk a0.Rates a0.Sights) a1 a2 a3).bind (fun o => match o with
                | (t7, t8) =>
                  (if (!t8) = true then
                    some ((GSpan.mk 0 0), 8)
                  else
                    some (t7, 0))))))))))

noncomputable def sight_Error (a0 : GNet) (a1 : Int) (a2 : Int) : Option (GSpan × Int) :=
  (sight_Between (GNet.mk a0.Rates a0.Sights) a1 0 a2).bind (fun o => match o with
  | (t1, t2) =>
    some (t1, t2))

noncomputable def span_divisor (a0 : Int) (a1 : Int) : Option (Int) :=
  ((
  loopR (S := Int × Int) (X := Int) (fun (s : Int × Int) => match s with
    | (z3, z4) =>
      (if (z4 != 0) = true then
        (remI z3 z4).bind (fun t1 =>
        some (Step.cont (z4, t1)))
      else
        some (Step.done z3))) (a0, a1)) : Option (Int)).bind (fun s1 =>
  (negI s1).bind (fun t2 =>
  some (max s1 t2)))

noncomputable def span_quotient_reduce (a0 : GQuotient) : Option (GQuotient) :=
  (span_divisor a0.n a0.d).bind (fun t1 =>
  ((
  (if (decide (a0.d < 0)) = true then
    (negI t1).bind (fun t2 =>
    some t2)
  else
    some t1)) : Option (Int)).bind (fun s1 =>
  (quoI a0.n s1).bind (fun t3 =>
  (quoI a0.d s1).bind (fun t4 =>
  some (GQuotient.mk t3 t4)))))

noncomputable def span_ValidRatio (a0 : GRatio) : Option (Bool) :=
  ((if ((((decide (1 ≤ a0.D)) && (decide (a0.D ≤ 1000000000))) && (decide ((-1000000000) ≤ a0.N))) && (decide (a0.N ≤ 1000000000))) = true then
  (span_divisor a0.N a0.D).bind (fun t1 =>
  some (t1 == 1))
  else
  some false) : Option Bool).bind (fun b2 =>
  some b2)

noncomputable def span_lowest (a0 : Int) (a1 : Int) : Option (GRatio × Int) :=
  (span_quotient_reduce (GQuotient.mk a0 a1)).bind (fun t1 =>
  (span_ValidRatio (GRatio.mk t1.n t1.d)).bind (fun t2 =>
  (if t2 = true then
  some ((GRatio.mk t1.n t1.d), 0)
  else
  some ((GRatio.mk 0 0), 4))))

noncomputable def span_Make (a0 : Int) (a1 : Int) : Option (GRatio × Int) :=
  (if (((((decide (a0 < (-1000000000000000000))) || (decide (1000000000000000000 < a0))) || (decide (a1 < (-1000000000000000000)))) || (decide (1000000000000000000 < a1))) || (a1 == 0)) = true then
  some ((GRatio.mk 0 0), 7)
  else
  (span_lowest a0 a1).bind (fun o => match o with
    | (t1, t2) =>
      some (t1, t2)))

noncomputable def noonguntop_awake5  : Option (Bool) :=
  (sight_Error (GNet.mk ([0, 1000] : List Int) ([(GSight.mk 5 1 0 (-3) 4)] : List GSight)) 1 5).bind (fun o => match o with
  | (t1, t2) =>
    (span_Make 6 (-4)).bind (fun o => match o with
      | (t3, t4) =>
        some ((((t2 == 0) && (t1 == (GSpan.mk (-3) 4))) && (t4 == 0)) && (t3 == (GRatio.mk (-3) 2)))))

def transit_within (a0 : Int) (a1 : Int) (a2 : Int) : Option (Bool) :=
  some ((decide (a1 ≤ a0)) && (decide (a0 ≤ a2)))

def transit_ValidTube (a0 : GTube) : Option (Bool) :=
  ((
  rangeN (S := Unit) (X := Ctl (Unit) (Bool)) (fun ik1 _ =>
    (idx a0.Wires (ik1 : Int)).bind (fun x1 =>
    (transit_within x1 (-100000) 100000).bind (fun t1 =>
    ((if (!t1) = true then
      some true
    else
      ((if (decide (0 < (ik1 : Int))) = true then
        (subI (ik1 : Int) 1).bind (fun t2 =>
        (idx a0.Wires t2).bind (fun x2 =>
        some (decide (x1 ≤ x2))))
      else
        some false) : Option Bool).bind (fun b3 =>
      some b3)) : Option Bool).bind (fun b2 =>
    (if b2 = true then
      some (Step.done (Ctl.ret false))
    else
      some (Step.cont ())))))) (fun _ => Ctl.next ()) (Int.toNat ((a0.Wires.length : Nat) : Int)) 0 ()) : Option (Ctl (Unit) (Bool))).bind (fun o => match o with
  | .next _ =>
    (transit_within ((a0.Wires.length : Nat) : Int) 1 7).bind (fun t3 =>
    ((if t3 = true then
      (transit_within a0.Error 0 10000).bind (fun t4 =>
      some t4)
    else
      some false) : Option Bool).bind (fun b4 =>
    some b4))
  | .ret r => some r
  | .exit _ _ => none)

def transit_name (a0 : ByteArray) : Option (Bool) :=
  (bytesI a0).bind (fun t1 =>
  ((
  rangeN (S := Unit) (X := Ctl (Unit) (Bool)) (fun ik1 _ =>
    (idx t1 (ik1 : Int)).bind (fun x1 =>
    ((if (!((decide (97 ≤ (x1.toNat : Int))) && (decide ((x1.toNat : Int) ≤ 122)))) = true then
      ((if ((ik1 : Int) == 0) = true then
        some true
      else
        ((if ((x1.toNat : Int) != 95) = true then
          (cvI .i64 (x1.toNat : Int)).bind (fun t2 =>
          (transit_within t2 48 57).bind (fun t3 =>
          some (!t3)))
        else
          some false) : Option Bool).bind (fun b3 =>
        some b3)) : Option Bool).bind (fun b2 =>
      some b2)
    else
      some false) : Option Bool).bind (fun b1 =>
    (if b1 = true then
      some (Step.done (Ctl.ret false))
    else
      some (Step.cont ()))))) (fun _ => Ctl.next ()) (Int.toNat ((t1.length : Nat) : Int)) 0 ()) : Option (Ctl (Unit) (Bool))).bind (fun o => match o with
  | .next _ =>
    (transit_within ((a0.size : Nat) : Int) 1 16).bind (fun t4 =>
    some t4)
  | .ret r => some r
  | .exit _ _ => none))

def transit_ValidStar (a0 : GStar) : Option (Bool) :=
  (transit_name a0.Name).bind (fun t1 =>
  ((if t1 = true then
  (transit_within a0.Ascension 0 86399999).bind (fun t2 =>
  some t2)
  else
  some false) : Option Bool).bind (fun b2 =>
  ((if b2 = true then
  (transit_within a0.Shift (-10000) 10000).bind (fun t3 =>
  some t3)
  else
  some false) : Option Bool).bind (fun b3 =>
  ((if b3 = true then
  (transit_within a0.Slow 1000 10000).bind (fun t4 =>
  some t4)
  else
  some false) : Option Bool).bind (fun b4 =>
  some b4))))

def transit_down (a0 : Int) (a1 : Int) : Option (Int) :=
  (quoI a0 a1).bind (fun t1 =>
  (mulI t1 a1).bind (fun t2 =>
  ((
  (if (decide (a0 < t2)) = true then
    (subI t1 1).bind (fun t3 =>
    some t3)
  else
    some t1)) : Option (Int)).bind (fun s1 =>
  some s1)))

def transit_Wired (a0 : GTube) (a1 : GStar) (a2 : Int) : Option (GTransit × Int) :=
  (transit_ValidTube (GTube.mk a0.Wires a0.Error)).bind (fun t1 =>
  ((if (!t1) = true then
  some true
  else
  (transit_ValidStar a1).bind (fun t2 =>
  some (!t2))) : Option Bool).bind (fun b4 =>
  (if b4 = true then
  some ((GTransit.mk (GStar.mk ByteArray.empty 0 0 0) ([] : List Int)), 1)
  else
  (transit_within a2 (-1000000000000) 1000000000000).bind (fun t3 =>
  (if (!t3) = true then
    some ((GTransit.mk (GStar.mk ByteArray.empty 0 0 0) ([] : List Int)), 7)
  else
    ((
      rangeL (α := Int) (S := (List Int)) (X := Ctl ((List Int)) (GTransit × Int)) (fun ik1 yk1 z2 =>
        (mulI yk1 a1.Slow).bind (fun t4 =>
        (transit_down t4 1000).bind (fun t5 =>
        (addI a2 t5).bind (fun t6 =>
        (transit_within t6 0 86399999).bind (fun t7 =>
        (if (!t7) = true then
          some (Step.done (Ctl.ret ((GTransit.mk (GStar.mk ByteArray.empty 0 0 0) ([] : List Int)), 7)))
        else
          (appI z2 ([t6] : List Int)).bind (fun t8 =>
          some (Step.cont t8)))))))) (fun z2 => Ctl.next z2) a0.Wires 0 ([] : List Int)) : Option (Ctl ((List Int)) (GTransit × Int))).bind (fun o => match o with
      | .next s1 =>
        some ((GTransit.mk a1 s1), 0)
      | .ret r => some r
      | .exit _ _ => none))))))

def transit_timed_c1 (a0 : Int) : Option (Bool) :=
  (transit_within a0 (-1) 86399999).bind (fun t1 =>
  some (!t1))

def transit_timed (a0 : (List Int)) : Option (Bool) :=
  (slices_ContainsFunc_int a0 (fun x0 => transit_timed_c1 x0)).bind (fun t1 =>
  some (!t1))

def transit_Fits (a0 : GTube) (a1 : GTransit) : Option (Bool) :=
  (transit_ValidTube (GTube.mk a0.Wires a0.Error)).bind (fun t1 =>
  ((if t1 = true then
  (transit_ValidStar a1.Star).bind (fun t2 =>
  some t2)
  else
  some false) : Option Bool).bind (fun b3 =>
  ((if (b3 && (((a1.Wires.length : Nat) : Int) == ((a0.Wires.length : Nat) : Int))) = true then
  (transit_timed a1.Wires).bind (fun t3 =>
  some t3)
  else
  some false) : Option Bool).bind (fun b4 =>
  some b4)))

def transit_strips_c1 (a0 : GTransit) (c0 : GTube) : Option (Bool) :=
  (transit_Fits (GTube.mk c0.Wires c0.Error) (GTransit.mk a0.Star a0.Wires)).bind (fun t1 =>
  some (!t1))

def slices_IndexFunc_Transit (a0 : (List GTransit)) (a1 : GTransit → Option (Bool)) : Option (Int) :=
  ((
  rangeN (S := Unit) (X := Ctl (Unit) (Int)) (fun ik1 _ =>
    (idx a0 (ik1 : Int)).bind (fun x1 =>
    (a1 (GTransit.mk x1.Star x1.Wires)).bind (fun t1 =>
    (if t1 = true then
      some (Step.done (Ctl.ret (ik1 : Int)))
    else
      some (Step.cont ()))))) (fun _ => Ctl.next ()) (Int.toNat ((a0.length : Nat) : Int)) 0 ()) : Option (Ctl (Unit) (Int))).bind (fun o => match o with
  | .next _ =>
    some (-1)
  | .ret r => some r
  | .exit _ _ => none)

def slices_ContainsFunc_Transit (a0 : (List GTransit)) (a1 : GTransit → Option (Bool)) : Option (Bool) :=
  (slices_IndexFunc_Transit a0 a1).bind (fun t1 =>
  some (decide (0 ≤ t1)))

def transit_crossing (a0 : GTube) (a1 : GTransit) : Option (Int × Bool) :=
  ((
  rangeN (S := Int × Int) (X := Int × Int) (fun ik1 s =>
  match s with
    | (z3, z4) =>
      ((
        (idx a1.Wires (ik1 : Int)).bind (fun x1 =>
        ((
          (if (decide (0 ≤ x1)) = true then
            (mulI 1000 x1).bind (fun t1 =>
            (addI z3 t1).bind (fun t2 =>
            (idx a0.Wires (ik1 : Int)).bind (fun x2 =>
            (mulI x2 a1.Star.Slow).bind (fun t3 =>
            (subI t2 t3).bind (fun t4 =>
            (addI z4 1).bind (fun t5 =>
            some (t4, t5)))))))
          else
            some (z3, z4))) : Option (Int × Int)).bind (fun o => match o with
          | (s5, s6) =>
            some (s5, s6)))) : Option (Int × Int)).bind (fun o => match o with
        | (s3, s4) =>
          some (Step.cont (s3, s4)))) (fun s => match s with | (z3, z4) => (z3, z4)) (Int.toNat ((a1.Wires.length : Nat) : Int)) 0 (0, 0)) : Option (Int × Int)).bind (fun o => match o with
  | (s1, s2) =>
    (if (s2 == 0) = true then
      some (0, false)
    else
      (mulI 1000 s2).bind (fun t6 =>
      (transit_down s1 t6).bind (fun t7 =>
      some (t7, true)))))

def transit_Crossing (a0 : GTube) (a1 : GTransit) : Option (Int × Int) :=
  (transit_Fits (GTube.mk a0.Wires a0.Error) (GTransit.mk a1.Star a1.Wires)).bind (fun t1 =>
  (if (!t1) = true then
  some (0, 1)
  else
  (transit_crossing (GTube.mk a0.Wires a0.Error) (GTransit.mk a1.Star a1.Wires)).bind (fun o => match o with
    | (t2, t3) =>
      (if (!t3) = true then
        some (0, 8)
      else
        some (t2, 0)))))

def transit_folded (a0 : Int) : Option (Int) :=
  (addI a0 43200000).bind (fun t1 =>
  (transit_down t1 86400000).bind (fun t2 =>
  (mulI t2 86400000).bind (fun t3 =>
  (subI a0 t3).bind (fun t4 =>
  some t4))))

def transit_Difference (a0 : GTube) (a1 : GTransit) : Option (Int × Int) :=
  (transit_Crossing (GTube.mk a0.Wires a0.Error) (GTransit.mk a1.Star a1.Wires)).bind (fun o => match o with
  | (t1, t2) =>
    (if (t2 != 0) = true then
      some (0, t2)
    else
      (subI a1.Star.Ascension t1).bind (fun t3 =>
      (transit_folded t3).bind (fun t4 =>
      some (t4, 0)))))

def transit_strips (a0 : GTube) (a1 : (List GTransit)) : Option ((List GStrip) × Int) :=
  (transit_ValidTube (GTube.mk a0.Wires a0.Error)).bind (fun t1 =>
  ((if (!t1) = true then
  some true
  else
  (transit_within ((a1.length : Nat) : Int) 1 12).bind (fun t2 =>
  some (!t2))) : Option Bool).bind (fun b2 =>
  ((if b2 = true then
  some true
  else
  (slices_ContainsFunc_Transit a1 (fun x0 => transit_strips_c1 x0 (GTube.mk a0.Wires a0.Error))).bind (fun t3 =>
  some t3)) : Option Bool).bind (fun b3 =>
  (if b3 = true then
  some (([] : List GStrip), 1)
  else
  ((
    rangeL (α := GTransit) (S := (List GStrip)) (X := Ctl ((List GStrip)) ((List GStrip) × Int)) (fun ik1 yk1 z2 =>
      (transit_Difference (GTube.mk a0.Wires a0.Error) (GTransit.mk yk1.Star yk1.Wires)).bind (fun o => match o with
        | (t4, t5) =>
          (if (t5 != 0) = true then
            some (Step.done (Ctl.ret (([] : List GStrip), t5)))
          else
            (appI z2 ([(GStrip.mk yk1.Star.Shift t4 t4)] : List GStrip)).bind (fun t6 =>
            some (Step.cont t6))))) (fun z2 => Ctl.next z2) a1 0 ([] : List GStrip)) : Option (Ctl ((List GStrip)) ((List GStrip) × Int))).bind (fun o => match o with
    | .next s1 =>
      some (s1, 0)
    | .ret r => some r
    | .exit _ _ => none)))))

def transit_wider (a0 : (List GStrip)) (a1 : Int) : Option ((List GStrip)) :=
  ((
  rangeL (α := GStrip) (S := (List GStrip)) (X := (List GStrip)) (fun ik1 yk1 z2 =>
    (subI yk1.lo a1).bind (fun t1 =>
    (addI yk1.hi a1).bind (fun t2 =>
    (appI z2 ([(GStrip.mk yk1.shift t1 t2)] : List GStrip)).bind (fun t3 =>
    some (Step.cont t3))))) (fun z2 => z2) a0 0 ([] : List GStrip)) : Option ((List GStrip))).bind (fun s1 =>
  some s1)

def transit_asked (a0 : GTube) (a1 : (List GTransit)) : Option ((List GStrip) × Int) :=
  (transit_strips (GTube.mk a0.Wires a0.Error) a1).bind (fun o => match o with
  | (t1, t2) =>
    (if (t2 != 0) = true then
      some (([] : List GStrip), t2)
    else
      (transit_wider t1 a0.Error).bind (fun t3 =>
      some (t3, 0))))

def transit_over (a0 : Int) (a1 : Int) : Option (GFraction) :=
  ((
  (if (decide (a1 < 0)) = true then
    (negI a0).bind (fun t1 =>
    (negI a1).bind (fun t2 =>
    some (t1, t2)))
  else
    some (a0, a1))) : Option (Int × Int)).bind (fun o => match o with
  | (s1, s2) =>
    some (GFraction.mk s1 s2))

def transit_keep_fraction (a0 : GFraction) (a1 : GFraction) (a2 : GFraction → GFraction → Option (Bool)) : Option (GFraction) :=
  ((if (a0 == (GFraction.mk 0 0)) = true then
  some true
  else
  (a2 a1 a0).bind (fun t1 =>
  some t1)) : Option Bool).bind (fun b5 =>
  (if b5 = true then
  some a1
  else
  some a0))

def transit_fraction_less (a0 : GFraction) (a1 : GFraction) : Option (Bool) :=
  (mulI a0.n a1.d).bind (fun t1 =>
  (mulI a1.n a0.d).bind (fun t2 =>
  some (decide (t1 < t2))))

def transit_fraction_greater (a0 : GFraction) (a1 : GFraction) : Option (Bool) :=
  (transit_fraction_less a1 a0).bind (fun t1 =>
  some t1)

def transit_reach_asks (a0 : GReach) (a1 : Int) (a2 : Int) : Option (GReach) :=
  ((
  ((
    (if (decide (0 < a2)) = true then
      (transit_over a1 a2).bind (fun t1 =>
      (transit_keep_fraction a0.lo t1 (fun x0 x1 => transit_fraction_greater x0 x1)).bind (fun t2 =>
      some (t2.n, t2.d, a0.hi.n, a0.hi.d, a0.ok)))
    else
      ((
        (if (decide (a2 < 0)) = true then
          (transit_over a1 a2).bind (fun t3 =>
          (transit_keep_fraction a0.hi t3 (fun x0 x1 => transit_fraction_less x0 x1)).bind (fun t4 =>
          some (t4.n, t4.d, a0.ok)))
        else
          ((
            (if (decide (0 < a1)) = true then
              some false
            else
              some a0.ok)) : Option (Bool)).bind (fun s14 =>
          some (a0.hi.n, a0.hi.d, s14)))) : Option (Int × Int × Bool)).bind (fun o => match o with
        | (s11, s12, s13) =>
          some (a0.lo.n, a0.lo.d, s11, s12, s13)))) : Option (Int × Int × Int × Int × Bool)).bind (fun o => match o with
    | (s6, s7, s8, s9, s10) =>
      some (s6, s7, s8, s9, s10))) : Option (Int × Int × Int × Int × Bool)).bind (fun o => match o with
  | (s1, s2, s3, s4, s5) =>
    some (GReach.mk (GFraction.mk s1 s2) (GFraction.mk s3 s4) s5))

def transit_azimuths (a0 : (List GStrip)) : Option (GReach) :=
  ((
  rangeL (α := GStrip) (S := Int × Int × Int × Int × Bool) (X := Int × Int × Int × Int × Bool) (fun ik1 yk1 s =>
  match s with
    | (z6, z7, z8, z9, z10) =>
      ((
        ((
          rangeL (α := GStrip) (S := Int × Int × Int × Int × Bool) (X := Int × Int × Int × Int × Bool) (fun ik2 yk2 s =>
          match s with
            | (z21, z22, z23, z24, z25) =>
              (subI yk1.lo yk2.hi).bind (fun t1 =>
              (mulI 1000 t1).bind (fun t2 =>
              (subI yk1.shift yk2.shift).bind (fun t3 =>
              (transit_reach_asks (GReach.mk (GFraction.mk z21 z22) (GFraction.mk z23 z24) z25) t2 t3).bind (fun t4 =>
              some (Step.cont (t4.lo.n, t4.lo.d, t4.hi.n, t4.hi.d, t4.ok))))))) (fun s => match s with | (z21, z22, z23, z24, z25) => (z21, z22, z23, z24, z25)) a0 0 (z6, z7, z8, z9, z10)) : Option (Int × Int × Int × Int × Bool)).bind (fun o => match o with
          | (s11, s12, s13, s14, s15) =>
            some (s11, s12, s13, s14, s15))) : Option (Int × Int × Int × Int × Bool)).bind (fun o => match o with
        | (s6, s7, s8, s9, s10) =>
          some (Step.cont (s6, s7, s8, s9, s10)))) (fun s => match s with | (z6, z7, z8, z9, z10) => (z6, z7, z8, z9, z10)) a0 0 (0, 0, 0, 0, true)) : Option (Int × Int × Int × Int × Bool)).bind (fun o => match o with
  | (s1, s2, s3, s4, s5) =>
    some (GReach.mk (GFraction.mk s1 s2) (GFraction.mk s3 s4) s5))

def transit_agree (a0 : (List GStrip)) : Option (Bool) :=
  (transit_azimuths a0).bind (fun t1 =>
  ((if t1.ok = true then
  ((if ((t1.lo.d == 0) || (t1.hi.d == 0)) = true then
    some true
  else
    (transit_fraction_less t1.hi t1.lo).bind (fun t2 =>
    some (!t2))) : Option Bool).bind (fun b3 =>
  some b3)
  else
  some false) : Option Bool).bind (fun b2 =>
  some b2))

def transit_Agree (a0 : GTube) (a1 : (List GTransit)) : Option (Bool × Int) :=
  (transit_asked (GTube.mk a0.Wires a0.Error) a1).bind (fun o => match o with
  | (t1, t2) =>
    ((if (t2 == 0) = true then
      (transit_agree t1).bind (fun t3 =>
      some t3)
    else
      some false) : Option Bool).bind (fun b2 =>
    some (b2, t2)))

def math_bits_Mul64 (a0 : Int) (a1 : Int) : Option (Int × Int) :=
  some ((wrU ((wrU ((wrU ((a0 / 2 ^ ((32 : Int).toNat)) * (a1 / 2 ^ ((32 : Int).toNat)))) + ((wrU ((wrU ((a0 / 2 ^ ((32 : Int).toNat)) * (bits .and .u64 a1 4294967295))) + ((wrU ((bits .and .u64 a0 4294967295) * (bits .and .u64 a1 4294967295))) / 2 ^ ((32 : Int).toNat)))) / 2 ^ ((32 : Int).toNat)))) + ((wrU ((bits .and .u64 (wrU ((wrU ((a0 / 2 ^ ((32 : Int).toNat)) * (bits .and .u64 a1 4294967295))) + ((wrU ((bits .and .u64 a0 4294967295) * (bits .and .u64 a1 4294967295))) / 2 ^ ((32 : Int).toNat)))) 4294967295) + (wrU ((bits .and .u64 a0 4294967295) * (a1 / 2 ^ ((32 : Int).toNat)))))) / 2 ^ ((32 : Int).toNat)))), (wrU (a0 * a1)))

def transit_wide_minus (a0 : GWide) (a1 : GWide) : Option (GWide) :=
  (sub64I a0.lo a1.lo 0).bind (fun o => match o with
  | (t1, t2) =>
    (sub64I (IntKind.u64.wrap a0.hi) (IntKind.u64.wrap a1.hi) t2).bind (fun o => match o with
      | (t3, t4) =>
        some (GWide.mk (IntKind.i64.wrap t3) t1)))

def transit_product (a0 : Int) (a1 : Int) : Option (GWide) :=
  (negI a0).bind (fun t1 =>
  (negI a1).bind (fun t2 =>
  (math_bits_Mul64 (IntKind.u64.wrap (max a0 t1)) (IntKind.u64.wrap (max a1 t2))).bind (fun o => match o with
  | (t3, t4) =>
    (if ((decide (a0 < 0)) != (decide (a1 < 0))) = true then
      (transit_wide_minus (GWide.mk 0 0) (GWide.mk (IntKind.i64.wrap t3) t4)).bind (fun t5 =>
      some t5)
    else
      some (GWide.mk (IntKind.i64.wrap t3) t4)))))

def transit_wide_below (a0 : GWide) : Option (Bool) :=
  some (decide (a0.hi < 0))

def transit_strip_has (a0 : GStrip) (a1 : GRatio) (a2 : GRatio) : Option (Bool) :=
  (mulI a0.shift a2.N).bind (fun t1 =>
  (transit_product t1 a1.D).bind (fun t2 =>
  (mulI 1000 a1.N).bind (fun t3 =>
  (transit_product t3 a2.D).bind (fun t4 =>
  (mulI 1000 a0.lo).bind (fun t5 =>
  (mulI a1.D a2.D).bind (fun t6 =>
  (transit_product t5 t6).bind (fun t7 =>
  (transit_wide_minus t4 t7).bind (fun t8 =>
  (mulI 1000 a0.hi).bind (fun t9 =>
  (mulI a1.D a2.D).bind (fun t10 =>
  (transit_product t9 t10).bind (fun t11 =>
  (mulI 1000 a1.N).bind (fun t12 =>
  (transit_product t12 a2.D).bind (fun t13 =>
  (transit_wide_minus t11 t13).bind (fun t14 =>
  (transit_wide_minus (GWide.mk 0 0) t2).bind (fun t15 =>
  (transit_wide_minus t8 t15).bind (fun t16 =>
  (transit_wide_below t16).bind (fun t17 =>
  ((if (!t17) = true then
  (transit_wide_minus t14 t2).bind (fun t18 =>
  (transit_wide_below t18).bind (fun t19 =>
  some (!t19)))
  else
  some false) : Option Bool).bind (fun b7 =>
  some b7))))))))))))))))))

def transit_Suits_c1 (a0 : GStrip) (c0 : GRatio) (c1 : GRatio) : Option (Bool) :=
  (transit_strip_has a0 c0 c1).bind (fun t1 =>
  some (!t1))

def slices_IndexFunc_strip (a0 : (List GStrip)) (a1 : GStrip → Option (Bool)) : Option (Int) :=
  ((
  rangeN (S := Unit) (X := Ctl (Unit) (Int)) (fun ik1 _ =>
    (idx a0 (ik1 : Int)).bind (fun x1 =>
    (a1 x1).bind (fun t1 =>
    (if t1 = true then
      some (Step.done (Ctl.ret (ik1 : Int)))
    else
      some (Step.cont ()))))) (fun _ => Ctl.next ()) (Int.toNat ((a0.length : Nat) : Int)) 0 ()) : Option (Ctl (Unit) (Int))).bind (fun o => match o with
  | .next _ =>
    some (-1)
  | .ret r => some r
  | .exit _ _ => none)

def slices_ContainsFunc_strip (a0 : (List GStrip)) (a1 : GStrip → Option (Bool)) : Option (Bool) :=
  (slices_IndexFunc_strip a0 a1).bind (fun t1 =>
  some (decide (0 ≤ t1)))

noncomputable def transit_Suits (a0 : GTube) (a1 : (List GTransit)) (a2 : GRatio) (a3 : GRatio) : Option (Bool × Int) :=
  (span_ValidRatio a2).bind (fun t1 =>
  ((if (!t1) = true then
  some true
  else
  (span_ValidRatio a3).bind (fun t2 =>
  some (!t2))) : Option Bool).bind (fun b4 =>
  (if b4 = true then
  some (false, 1)
  else
  (transit_asked (GTube.mk a0.Wires a0.Error) a1).bind (fun o => match o with
    | (t3, t4) =>
      (if (t4 != 0) = true then
        some (false, t4)
      else
        (slices_ContainsFunc_strip t3 (fun x0 => transit_Suits_c1 x0 a2 a3)).bind (fun t5 =>
        some ((!t5), 0)))))))

noncomputable def noonguntop_TopTransits (a0 : GTube) (a1 : (List GStar)) (a2 : Int) (a3 : Int) : Option (Bool) :=
  (if (((((((decide (((a1.length : Nat) : Int) < 1)) || (decide (6 < ((a1.length : Nat) : Int)))) || (decide (20 < ((a0.Wires.length : Nat) : Int)))) || (decide (a2 < (-1000000)))) || (decide (1000000 < a2))) || (decide (a3 < (-1000)))) || (decide (1000 < a3))) = true then
  (noonguntop_awake5 ).bind (fun t1 =>
  some t1)
  else
  (appI ([] : List Int) a0.Wires).bind (fun t2 =>
  ((
    rangeL (α := GStar) (S := (List GTransit)) (X := Ctl ((List GTransit)) (Bool)) (fun ik1 yk1 z2 =>
      (if (((decide (50 < ((yk1.Name.size : Nat) : Int))) || (decide (yk1.Shift < (-10000)))) || (decide (10000 < yk1.Shift))) = true then
        (noonguntop_awake5 ).bind (fun t3 =>
        some (Step.done (Ctl.ret t3)))
      else
        (quoI (IntKind.i64.wrap (yk1.Shift * a3)) 1000).bind (fun t4 =>
        (transit_Wired (GTube.mk t2 a0.Error) yk1 (IntKind.i64.wrap ((IntKind.i64.wrap (yk1.Ascension - a2)) - t4))).bind (fun o => match o with
          | (t5, t6) =>
            (if (t6 != 0) = true then
              (noonguntop_awake5 ).bind (fun t7 =>
              some (Step.done (Ctl.ret t7)))
            else
              (appI z2 ([(GTransit.mk t5.Star t5.Wires)] : List GTransit)).bind (fun t8 =>
              some (Step.cont t8))))))) (fun z2 => Ctl.next z2) a1 0 ([] : List GTransit)) : Option (Ctl ((List GTransit)) (Bool))).bind (fun o => match o with
    | .next s1 =>
      (if ((decide (a0.Error < 2)) || (decide (10000 < a0.Error))) = true then
        (noonguntop_awake5 ).bind (fun t9 =>
        some t9)
      else
        (transit_Agree (GTube.mk t2 a0.Error) s1).bind (fun o => match o with
          | (t10, t11) =>
            (transit_Suits (GTube.mk t2 a0.Error) s1 (GRatio.mk a2 1) (GRatio.mk a3 1)).bind (fun o => match o with
              | (t12, t13) =>
                ((if ((((t11 == 0) && t10) && (t13 == 0)) && t12) = true then
                  (noonguntop_awake5 ).bind (fun t14 =>
                  some t14)
                else
                  some false) : Option Bool).bind (fun b5 =>
                some b5))))
    | .ret r => some r
    | .exit _ _ => none)))

end Go.Fw
