/-
  What the functions compute, as functions of the values: written by a program from the functions. No condition.
-/
import Derived.Test.YtnkncedhanainaaGreatDoorFwJ
import Derived.Test.YtnkncedhanainaaGreatDoorFwU
import Derived.Test.YtnkncedhanainaaGreatDoorFwX
import Derived.Test.YtnkncedhanainaaGreatDoorFwWi
namespace Go.Fw
structure GBox where
  Name : ByteArray
  Errors : (List Int)
  deriving DecidableEq
instance : Ty GBox where
  size := 2
  rep w cs a := ∃ v1 : Value, cs = [(.string a.Name), v1] ∧ SliceR w v1 a.Errors
  len h := by obtain ⟨v1, rfl, h1⟩ := h; rfl
  one h := by
    obtain ⟨v1, rfl, h1⟩ := h
    obtain ⟨_, _, rfl, _⟩ := h1.shape
    intro c hc
    simp only [List.mem_cons, List.not_mem_nil, or_false] at hc
    rcases hc with rfl | rfl <;> rfl
  monoC h hb := by obtain ⟨v1, rfl, h1⟩ := h; exact ⟨v1, rfl, h1.monoC hb⟩
  pos := by decide
theorem GBox_open {w : World} {p : Addr} {x : GBox} (h : ElemAt w p x) : ∃ v1 : Value, SliceR w v1 x.Errors ∧ ∀ j c, [(.string x.Name), v1][j]? = some c → w.cell? (p.add j) = some c := by
  obtain ⟨_, cs, ⟨v1, rfl, h1⟩, hc⟩ := h
  exact ⟨v1, h1, hc⟩
theorem GBox_rep {w : World} {x : GBox} {v1 : Value} (h1 : SliceR w v1 x.Errors) : Ty.rep w [(.string x.Name), v1] x := ⟨_, rfl, h1⟩

structure GTrial where
  Name : ByteArray
  Least : Int
  Greatest : Int
  Leap : Int
  Number : Int
  deriving DecidableEq
instance : Flat GTrial := ⟨5, fun a => .agg #[.string a.Name, .int .i64 a.Least, .int .i64 a.Greatest, .int .i64 a.Leap, .int .i64 a.Number], fun a => [.string a.Name, .int .i64 a.Least, .int .i64 a.Greatest, .int .i64 a.Leap, .int .i64 a.Number], fun _ => rfl, fun _ => rfl, by simp [Value.oneCell'], by decide⟩

structure GMast where
  Noon : Int
  Half : Int
  Full : Int
  Late : Int
  Again : Int
  Wind : Int
  deriving DecidableEq
instance : Flat GMast := ⟨6, fun a => .agg #[.int .i64 a.Noon, .int .i64 a.Half, .int .i64 a.Full, .int .i64 a.Late, .int .i64 a.Again, .int .i64 a.Wind], fun a => [.int .i64 a.Noon, .int .i64 a.Half, .int .i64 a.Full, .int .i64 a.Late, .int .i64 a.Again, .int .i64 a.Wind], fun _ => rfl, fun _ => rfl, by simp [Value.oneCell'], by decide⟩

structure GEvent where
  At : Int
  Kind : Int
  N : Int
  deriving DecidableEq
instance : Flat GEvent := ⟨3, fun a => .agg #[.int .i64 a.At, .int .i64 a.Kind, .int .i64 a.N], fun a => [.int .i64 a.At, .int .i64 a.Kind, .int .i64 a.N], fun _ => rfl, fun _ => rfl, by simp [Value.oneCell'], by decide⟩

structure GBall where
  Place : Int
  Wind : Int
  Flag : Bool
  At : Int
  deriving DecidableEq
instance : Flat GBall := ⟨4, fun a => .agg #[.int .i64 a.Place, .int .i64 a.Wind, .bool a.Flag, .int .i64 a.At], fun a => [.int .i64 a.Place, .int .i64 a.Wind, .bool a.Flag, .int .i64 a.At], fun _ => rfl, fun _ => rfl, by simp [Value.oneCell'], by decide⟩

structure GMeaning where
  Number : Int
  Text : ByteArray
  deriving DecidableEq
instance : Flat GMeaning := ⟨2, fun a => .agg #[.int .i64 a.Number, .string a.Text], fun a => [.int .i64 a.Number, .string a.Text], fun _ => rfl, fun _ => rfl, by simp [Value.oneCell'], by decide⟩

def okGMast (a : GMast) : Prop := inI a.Noon = true ∧ inI a.Half = true ∧ inI a.Full = true ∧ inI a.Late = true ∧ inI a.Again = true ∧ inI a.Wind = true
def okGEvent (a : GEvent) : Prop := inI a.At = true ∧ inI a.Kind = true ∧ inI a.N = true
def rate_within (a0 : Int) (a1 : Int) (a2 : Int) : Option (Bool) :=
  some ((decide (a1 ≤ a0)) && (decide (a0 ≤ a2)))

def rate_name (a0 : ByteArray) : Option (Bool) :=
  (bytesI a0).bind (fun t1 =>
  ((
  rangeN (S := Unit) (X := Ctl (Unit) (Bool)) (fun ik1 _ =>
    (idx t1 (ik1 : Int)).bind (fun x1 =>
    ((if (!((decide (97 ≤ (x1.toNat : Int))) && (decide ((x1.toNat : Int) ≤ 122)))) = true then
      ((if ((ik1 : Int) == 0) = true then
        some true
      else
        ((if ((x1.toNat : Int) != 95) = true then
          (cvI .i64 (x1.toNat : Int)).bind (fun t2 =>
          (rate_within t2 48 57).bind (fun t3 =>
          some (!t3)))
        else
          some false) : Option Bool).bind (fun b4 =>
        some b4)) : Option Bool).bind (fun b3 =>
      some b3)
    else
      some false) : Option Bool).bind (fun b2 =>
    (if b2 = true then
      some (Step.done (Ctl.ret false))
    else
      some (Step.cont ()))))) (fun _ => Ctl.next ()) (Int.toNat ((t1.length : Nat) : Int)) 0 ()) : Option (Ctl (Unit) (Bool))).bind (fun o => match o with
  | .next _ =>
    (rate_within ((a0.size : Nat) : Int) 1 16).bind (fun t4 =>
    some t4)
  | .ret r => some r
  | .exit _ _ => none))

def slices_IndexFunc_int (a0 : (List Int)) (a1 : Int → Option (Bool)) : Option (Int) :=
  ((
  rangeN (S := Unit) (X := Ctl (Unit) (Int)) (fun ik1 _ =>
    (idx a0 (ik1 : Int)).bind (fun x1 =>
    (a1 x1).bind (fun t1 =>
    (if t1 = true then
      some (Step.done (Ctl.ret (ik1 : Int)))
    else
      some (Step.cont ()))))) (fun _ => Ctl.next ()) (Int.toNat ((a0.length : Nat) : Int)) 0 ()) : Option (Ctl (Unit) (Int))).bind (fun o => match o with
  | .next _ =>
    some (-1)
  | .ret r => some r
  | .exit _ _ => none)

def slices_ContainsFunc_int (a0 : (List Int)) (a1 : Int → Option (Bool)) : Option (Bool) :=
  (slices_IndexFunc_int a0 a1).bind (fun t1 =>
  some (decide (0 ≤ t1)))

def rate_far (a0 : Int) : Option (Bool) :=
  (rate_within a0 (-86400000) 86400000).bind (fun t1 =>
  some (!t1))

def rate_ValidBox (a0 : GBox) : Option (Bool) :=
  (rate_name a0.Name).bind (fun t1 =>
  ((if t1 = true then
  (rate_within ((a0.Errors.length : Nat) : Int) 2 400).bind (fun t2 =>
  some t2)
  else
  some false) : Option Bool).bind (fun b2 =>
  ((if b2 = true then
  (slices_ContainsFunc_int a0.Errors (fun x0 => rate_far x0)).bind (fun t3 =>
  some (!t3))
  else
  some false) : Option Bool).bind (fun b3 =>
  some b3)))

def diffsFrom (k : Int) (xs : List Int) : Nat → Int → Option (List Int)
    | 0, _ => none
    | n + 1, i => if i < (xs.length : Int) then (idx xs i).bind fun x => (subI i k).bind fun j => (idx xs j).bind fun y => (subI x y).bind fun d => (addI i k).bind fun i' => (diffsFrom k xs n i').bind fun l => some (d :: l) else some []
def rate_differences_c1 (c0 : Int) (c1 : List Int) : Option (List Int) := diffsFrom c0 c1 (c1.length + 1) c0

def slices_AppendSeq_int (a1 : List Int) : Option ((List Int)) :=
  ((
  rangeL (α := Int) (S := (List Int)) (X := (List Int)) (fun _ x1 z2 =>
    (appI z2 ([x1] : List Int)).bind (fun t1 =>
    some (Step.cont t1))) (fun z2 => z2) a1 0 ([] : List Int)) : Option ((List Int))).bind (fun s1 =>
  some s1)

def slices_Collect_int (a0 : List Int) : Option ((List Int)) :=
  (slices_AppendSeq_int a0).bind (fun t1 =>
  some t1)

def rate_Weekly (a0 : GBox) : Option ((List Int) × Int) :=
  (rate_ValidBox (GBox.mk a0.Name a0.Errors)).bind (fun t1 =>
  (if (!t1) = true then
  some (([] : List Int), 1)
  else
  (rate_differences_c1 7 a0.Errors).bind (fun xs1 =>
  (slices_Collect_int xs1).bind (fun t2 =>
  (if (((t2.length : Nat) : Int) == 0) = true then
    some (([] : List Int), 8)
  else
    some (t2, 0))))))

def slices_Values_int_c1 (c0 : List Int) : Option (List Int) := some c0

def rate_ends_int (a0 : List Int) : Option (Int × Int) :=
  ((
  rangeL (α := Int) (S := Int × Int × Bool) (X := Int × Int) (fun _ x1 s =>
  match s with
    | (z4, z5, z6) =>
      ((
        ((
          (if z6 = true then
            some (x1, x1, false)
          else
            some (z4, z5, z6))) : Option (Int × Int × Bool)).bind (fun o => match o with
          | (s6, s7, s8) =>
            some ((min s6 x1), (max s7 x1), s8))) : Option (Int × Int × Bool)).bind (fun o => match o with
        | (s3, s4, s5) =>
          some (Step.cont (s3, s4, s5)))) (fun s => match s with | (z4, z5, z6) => (z4, z5)) a0 0 (0, 0, true)) : Option (Int × Int)).bind (fun o => match o with
  | (s1, s2) =>
    some (s1, s2))

def rate_Trial (a0 : GBox) : Option (GTrial × Int) :=
  (rate_Weekly (GBox.mk a0.Name a0.Errors)).bind (fun o => match o with
  | (t1, t2) =>
    (if (t2 != 0) = true then
      some ((GTrial.mk ByteArray.empty 0 0 0 0), t2)
    else
      (if (decide (((t1.length : Nat) : Int) < 2)) = true then
        some ((GTrial.mk ByteArray.empty 0 0 0 0), 8)
      else
        (slices_Values_int_c1 t1).bind (fun xs1 =>
        (rate_ends_int xs1).bind (fun o => match o with
          | (t3, t4) =>
            (rate_differences_c1 1 t1).bind (fun xs2 =>
            ((
              rangeL (α := Int) (S := Int) (X := Int) (fun _ x1 z2 =>
                (negI x1).bind (fun t5 =>
                some (Step.cont (max (max z2 x1) t5)))) (fun z2 => z2) xs2 0 0) : Option (Int)).bind (fun s1 =>
            (subI t4 t3).bind (fun t6 =>
            (mulI 2 s1).bind (fun t7 =>
            (addI t6 t7).bind (fun t8 =>
            some ((GTrial.mk a0.Name t3 t4 s1 t8), 0)))))))))))

def flag_within (a0 : Int) (a1 : Int) (a2 : Int) : Option (Bool) :=
  some ((decide (a1 ≤ a0)) && (decide (a0 ≤ a2)))

def flag_listed_c1 (a0 : Int) (c0 : Int) : Option (Bool) :=
  (flag_within a0 0 c0).bind (fun t1 =>
  some (!t1))

def flag_listed (a0 : (List Int)) (a1 : Int) : Option (Bool) :=
  (flag_within ((a0.length : Nat) : Int) 1 4).bind (fun t1 =>
  ((if t1 = true then
  (slices_ContainsFunc_int a0 (fun x0 => flag_listed_c1 x0 a1)).bind (fun t2 =>
  some (!t2))
  else
  some false) : Option Bool).bind (fun b2 =>
  some b2))

def flag_ValidDigits (a0 : (List Int)) : Option (Bool) :=
  (flag_listed a0 9).bind (fun t1 =>
  some t1)

def slices_Index_int (a0 : (List Int)) (a1 : Int) : Option (Int) :=
  ((
  rangeN (S := Unit) (X := Ctl (Unit) (Int)) (fun ik1 _ =>
    (idx a0 (ik1 : Int)).bind (fun x1 =>
    (if (a1 == x1) = true then
      some (Step.done (Ctl.ret (ik1 : Int)))
    else
      some (Step.cont ())))) (fun _ => Ctl.next ()) (Int.toNat ((a0.length : Nat) : Int)) 0 ()) : Option (Ctl (Unit) (Int))).bind (fun o => match o with
  | .next _ =>
    some (-1)
  | .ret r => some r
  | .exit _ _ => none)

def slices_Contains_int (a0 : (List Int)) (a1 : Int) : Option (Bool) :=
  (slices_Index_int a0 a1).bind (fun t1 =>
  some (decide (0 ≤ t1)))

def flag_place (a0 : Int) : Option (Int) :=
  (subI a0 10).bind (fun t1 =>
  some t1)

noncomputable def flag_Hoist (a0 : (List Int)) : Option ((List Int) × Int) :=
  (flag_ValidDigits a0).bind (fun t1 =>
  (if (!t1) = true then
  some (([] : List Int), 1)
  else
  ((
    rangeN (S := (List Int)) (X := (List Int)) (fun ik1 z2 =>
      ((
        (idx a0 (ik1 : Int)).bind (fun x1 =>
        (slices_Contains_int z2 x1).bind (fun t2 =>
        ((
          (if t2 = true then
            ((
              loopR (S := Int) (X := Int) (fun (z5 : Int) =>
                (slices_Contains_int z2 z5).bind (fun t3 =>
                ((if t3 = true then
                  some true
                else
                  (flag_place z5).bind (fun t4 =>
                  some (decide ((ik1 : Int) ≤ t4)))) : Option Bool).bind (fun b1 =>
                ((if b1 = true then
                  some true
                else
                  (flag_place z5).bind (fun t5 =>
                  (idx a0 t5).bind (fun x2 =>
                  some (x2 != x1)))) : Option Bool).bind (fun b2 =>
                (if b2 = true then
                  (addI z5 1).bind (fun t6 =>
                  some (Step.cont t6))
                else
                  some (Step.done z5)))))) 10) : Option (Int)).bind (fun s4 =>
            some s4)
          else
            some x1)) : Option (Int)).bind (fun s3 =>
        (appI z2 ([s3] : List Int)).bind (fun t7 =>
        some t7))))) : Option ((List Int))).bind (fun s2 =>
      some (Step.cont s2))) (fun z2 => z2) (Int.toNat ((a0.length : Nat) : Int)) 0 ([] : List Int)) : Option ((List Int))).bind (fun s1 =>
  some (s1, 0))))

def noongunref06_SameInts (a0 : (List Int)) (a1 : (List Int)) : Option (Bool) :=
  (if (((a0.length : Nat) : Int) != ((a1.length : Nat) : Int)) = true then
  some false
  else
  ((
    rangeN (S := Unit) (X := Ctl (Unit) (Bool)) (fun ik1 _ =>
      (idx a0 (ik1 : Int)).bind (fun x1 =>
      (idx a1 (ik1 : Int)).bind (fun x2 =>
      (if (x1 != x2) = true then
        some (Step.done (Ctl.ret false))
      else
        some (Step.cont ()))))) (fun _ => Ctl.next ()) (Int.toNat ((a0.length : Nat) : Int)) 0 ()) : Option (Ctl (Unit) (Bool))).bind (fun o => match o with
    | .next _ =>
      some true
    | .ret r => some r
    | .exit _ _ => none))

def ball_within (a0 : Int) (a1 : Int) (a2 : Int) : Option (Bool) :=
  some ((decide (a1 ≤ a0)) && (decide (a0 ≤ a2)))

def ball_Word (a0 : Int) : Option (ByteArray) :=
  (ball_within a0 0 5).bind (fun t1 =>
  (if (!t1) = true then
  some (bs [])
  else
  (idx ([(bs [103, 111, 111, 100]), (bs [119, 114, 111, 110, 103]), (bs [102, 97, 108, 115, 101]), (bs [97, 103, 97, 105, 110]), (bs [116, 111, 108, 100]), (bs [115, 105, 108, 101, 110, 116])] : List ByteArray) a0).bind (fun x1 =>
  some x1)))

noncomputable def noonguntop_awake9  : Option (Bool) :=
  (rate_Trial (GBox.mk (bs [97]) ([0, 7, 14, 21, 28, 35, 42, 49, 57, 65, 73, 81, 89, 97, 105] : List Int))).bind (fun o => match o with
  | (t1, t2) =>
    (flag_Hoist ([1, 1, 1, 1] : List Int)).bind (fun o => match o with
      | (t3, t4) =>
        ((if (((t2 == 0) && (t1.Number == 21)) && (t4 == 0)) = true then
          (noongunref06_SameInts t3 ([1, 10, 11, 12] : List Int)).bind (fun t5 =>
          some t5)
        else
          some false) : Option Bool).bind (fun b2 =>
        ((if b2 = true then
          (ball_Word 3).bind (fun t6 =>
          some (decide (t6 = (bs [97, 103, 97, 105, 110]))))
        else
          some false) : Option Bool).bind (fun b3 =>
        some b3))))

def ball_ValidMast (a0 : GMast) : Option (Bool) :=
  (ball_within a0.Noon 0 86399999).bind (fun t1 =>
  ((if ((((t1 && (decide (1000 ≤ a0.Full))) && (decide (a0.Full < a0.Half))) && (decide (a0.Half ≤ 3600000))) && (decide (a0.Half ≤ a0.Noon))) = true then
  (ball_within a0.Late 0 1000).bind (fun t2 =>
  some t2)
  else
  some false) : Option Bool).bind (fun b2 =>
  ((if b2 = true then
  (ball_within a0.Again a0.Half 7200000).bind (fun t3 =>
  some t3)
  else
  some false) : Option Bool).bind (fun b3 =>
  ((if b3 = true then
  (addI a0.Noon a0.Again).bind (fun t4 =>
  some (decide (t4 < 86400000)))
  else
  some false) : Option Bool).bind (fun b4 =>
  ((if b4 = true then
  (ball_within a0.Wind 0 1000).bind (fun t5 =>
  some t5)
  else
  some false) : Option Bool).bind (fun b5 =>
  some b5)))))

def ball_fine (a0 : GEvent) : Option (Bool) :=
  (ball_within a0.At 0 86399999).bind (fun t1 =>
  ((if t1 = true then
  (ball_within a0.Kind 1 6).bind (fun t2 =>
  some t2)
  else
  some false) : Option Bool).bind (fun b2 =>
  ((if b2 = true then
  (ball_within a0.N 0 1000).bind (fun t3 =>
  some t3)
  else
  some false) : Option Bool).bind (fun b3 =>
  some (b3 && ((a0.Kind == 1) || (a0.N == 0))))))

def ball_rules_c1 (a0 : GMast) (a1 : GBall) (a2 : Int) : Option (Bool) :=
  some true

def ball_rules_c2 (a0 : GBall) (a1 : Int) : Option (GBall) :=
  some (GBall.mk a0.Place (max a0.Wind a1) a0.Flag a0.At)

def ball_hoisting_c1 (a0 : Int) (c0 : Int) (c1 : GMast) : Option (Bool) :=
  (subI a0 c1.Half).bind (fun t1 =>
  (subI a0 c1.Full).bind (fun t2 =>
  (subI t2 1).bind (fun t3 =>
  (ball_within c0 t1 t3).bind (fun t4 =>
  some t4))))

def ball_hoisting (a0 : GMast) (a1 : Int) : Option (Bool) :=
  (ball_hoisting_c1 a0.Noon a1 a0).bind (fun t1 =>
  ((if t1 = true then
  some true
  else
  (addI a0.Noon a0.Again).bind (fun t2 =>
  (ball_hoisting_c1 t2 a1 a0).bind (fun t3 =>
  some t3))) : Option Bool).bind (fun b3 =>
  some b3))

def ball_rules_c3 (a0 : GMast) (a1 : GBall) (a2 : Int) : Option (Bool) :=
  ((if ((a1.Place == 0) && (decide (a1.Wind ≤ a0.Wind))) = true then
  (ball_hoisting a0 a2).bind (fun t1 =>
  some t1)
  else
  some false) : Option Bool).bind (fun b3 =>
  some b3)

def ball_rules_c4 (a0 : GBall) (a1 : Int) : Option (GBall) :=
  some (GBall.mk 1 a0.Wind a0.Flag a0.At)

def ball_rules_c5 (a0 : GMast) (a1 : GBall) (a2 : Int) : Option (Bool) :=
  ((if (a1.Place == 1) = true then
  (subI a0.Noon a0.Full).bind (fun t1 =>
  (addI a0.Noon a0.Again).bind (fun t2 =>
  (ball_within a2 t1 t2).bind (fun t3 =>
  some t3)))
  else
  some false) : Option Bool).bind (fun b3 =>
  some b3)

def ball_rules_c6 (a0 : GBall) (a1 : Int) : Option (GBall) :=
  some (GBall.mk 2 a0.Wind a0.Flag a0.At)

def ball_rules_c7 (a0 : GMast) (a1 : GBall) (a2 : Int) : Option (Bool) :=
  some (a1.Place == 2)

def ball_rules_c8 (a0 : GBall) (a1 : Int) : Option (GBall) :=
  some (GBall.mk 0 a0.Wind a0.Flag a0.At)

def ball_rules_c9 (a0 : GMast) (a1 : GBall) (a2 : Int) : Option (Bool) :=
  some (a1.Place == 2)

def ball_rules_c10 (a0 : GBall) (a1 : Int) : Option (GBall) :=
  some (GBall.mk 3 a0.Wind a0.Flag a0.At)

def ball_rules_c11 (a0 : GMast) (a1 : GBall) (a2 : Int) : Option (Bool) :=
  some (!a1.Flag)

def ball_rules_c12 (a0 : GBall) (a1 : Int) : Option (GBall) :=
  some (GBall.mk 0 a0.Wind true a0.At)

def ball_next (a0 : GMast) (a1 : GBall) (a2 : GEvent) : Option (GBall × Int) :=
  (ball_fine a2).bind (fun t1 =>
  (if ((!t1) || (decide (a2.At < a1.At))) = true then
  some ((GBall.mk 0 0 false 0), 7)
  else
  (if (a2.Kind == 1) = true then
    (ball_rules_c1 a0 a1 a2.At).bind (fun t2 =>
    (if (!t2) = true then
      some ((GBall.mk 0 0 false 0), 9)
    else
      (ball_rules_c2 a1 a2.N).bind (fun t3 =>
      some ((GBall.mk t3.Place t3.Wind t3.Flag a2.At), 0))))
  else
    (if (a2.Kind == 2) = true then
      (ball_rules_c3 a0 a1 a2.At).bind (fun t4 =>
      (if (!t4) = true then
        some ((GBall.mk 0 0 false 0), 9)
      else
        (ball_rules_c4 a1 a2.N).bind (fun t5 =>
        some ((GBall.mk t5.Place t5.Wind t5.Flag a2.At), 0))))
    else
      (if (a2.Kind == 3) = true then
        (ball_rules_c5 a0 a1 a2.At).bind (fun t6 =>
        (if (!t6) = true then
          some ((GBall.mk 0 0 false 0), 9)
        else
          (ball_rules_c6 a1 a2.N).bind (fun t7 =>
          some ((GBall.mk t7.Place t7.Wind t7.Flag a2.At), 0))))
      else
        (if (a2.Kind == 4) = true then
          (ball_rules_c7 a0 a1 a2.At).bind (fun t8 =>
          (if (!t8) = true then
            some ((GBall.mk 0 0 false 0), 9)
          else
            (ball_rules_c8 a1 a2.N).bind (fun t9 =>
            some ((GBall.mk t9.Place t9.Wind t9.Flag a2.At), 0))))
        else
          (if (a2.Kind == 5) = true then
            (ball_rules_c9 a0 a1 a2.At).bind (fun t10 =>
            (if (!t10) = true then
              some ((GBall.mk 0 0 false 0), 9)
            else
              (ball_rules_c10 a1 a2.N).bind (fun t11 =>
              some ((GBall.mk t11.Place t11.Wind t11.Flag a2.At), 0))))
          else
            (if (a2.Kind == 6) = true then
              (ball_rules_c11 a0 a1 a2.At).bind (fun t12 =>
              (if (!t12) = true then
                some ((GBall.mk 0 0 false 0), 9)
              else
                (ball_rules_c12 a1 a2.N).bind (fun t13 =>
                some ((GBall.mk t13.Place t13.Wind t13.Flag a2.At), 0))))
            else
              none))))))))

def ball_statesF (x : GMast) : GBall → List GEvent → Option (List (GBall × Int))
  | _, [] => some []
  | s, e :: es => (ball_next x s e).bind fun o => if o.2 = 0 then (ball_statesF x o.1 es).bind fun l => some (o :: l) else some [o]
def ball_states_c1 (c0 : List GEvent) (c1 : GMast) : Option (List (GBall × Int)) := ball_statesF c1 (GBall.mk 0 0 false 0) c0

def ball_Run (a0 : GMast) (a1 : (List GEvent)) : Option (GBall × Int × Int) :=
  (ball_ValidMast a0).bind (fun t1 =>
  (if (!t1) = true then
  some ((GBall.mk 0 0 false 0), 0, 1)
  else
  (if (decide (100 < ((a1.length : Nat) : Int))) = true then
    some ((GBall.mk 0 0 false 0), 0, 7)
  else
    (ball_states_c1 a1 a0).bind (fun xs1 =>
    ((
      rangeL (α := (GBall × Int)) (S := Int × Int × Bool × Int × Int) (X := Ctl (Int × Int × Bool × Int × Int) (GBall × Int × Int)) (fun _ x1 s =>
      match s with
        | (z6, z7, z8, z9, z10) =>
          (if (x1.2 != 0) = true then
            some (Step.done (Ctl.ret ((GBall.mk 0 0 false 0), z10, x1.2)))
          else
            (addI z10 1).bind (fun t2 =>
            some (Step.cont (x1.1.Place, x1.1.Wind, x1.1.Flag, x1.1.At, t2))))) (fun s => match s with | (z6, z7, z8, z9, z10) => Ctl.next (z6, z7, z8, z9, z10)) xs1 0 (0, 0, false, 0, 0)) : Option (Ctl (Int × Int × Bool × Int × Int) (GBall × Int × Int))).bind (fun o => match o with
      | .next (s1, s2, s3, s4, s5) =>
        some ((GBall.mk s1 s2 s3 s4), s5, 0)
      | .ret r => some r
      | .exit _ _ => none)))))

def slices_IndexFunc_Event (a0 : (List GEvent)) (a1 : GEvent → Option (Bool)) : Option (Int) :=
  ((
  rangeN (S := Unit) (X := Ctl (Unit) (Int)) (fun ik1 _ =>
    (idx a0 (ik1 : Int)).bind (fun x1 =>
    (a1 x1).bind (fun t1 =>
    (if t1 = true then
      some (Step.done (Ctl.ret (ik1 : Int)))
    else
      some (Step.cont ()))))) (fun _ => Ctl.next ()) (Int.toNat ((a0.length : Nat) : Int)) 0 ()) : Option (Ctl (Unit) (Int))).bind (fun o => match o with
  | .next _ =>
    some (-1)
  | .ret r => some r
  | .exit _ _ => none)

def slices_ContainsFunc_Event (a0 : (List GEvent)) (a1 : GEvent → Option (Bool)) : Option (Bool) :=
  (slices_IndexFunc_Event a0 a1).bind (fun t1 =>
  some (decide (0 ≤ t1)))

def ball_verdict_c1_c1 (a0 : GEvent) : Option (Bool) :=
  some (a0.Kind == 6)

def ball_verdict_c1 (a0 : (List GEvent)) : Option (Bool) :=
  (slices_ContainsFunc_Event a0 (fun x0 => ball_verdict_c1_c1 x0)).bind (fun t1 =>
  some t1)

def ball_verdict_c2 (a0 : Int) (a1 : Int) (c0 : GMast) : Option (Bool) :=
  (subI a1 c0.Late).bind (fun t1 =>
  (addI a1 c0.Late).bind (fun t2 =>
  (ball_within a0 t1 t2).bind (fun t3 =>
  some t3)))

def ball_verdict_c3 (a0 : GEvent) : Option (Bool) :=
  some (a0.Kind == 4)

def ball_verdict (a0 : GMast) (a1 : (List GEvent)) : Option (Int × Int) :=
  (slices_IndexFunc_Event a1 (fun x0 => ball_verdict_c3 x0)).bind (fun t1 =>
  ((if (decide (t1 < 0)) = true then
  (ball_verdict_c1 a1).bind (fun t2 =>
  some t2)
  else
  some false) : Option Bool).bind (fun b2 =>
  (if b2 = true then
  some (4, t1)
  else
  (if (decide (t1 < 0)) = true then
    some (5, t1)
  else
    (idx a1 t1).bind (fun x1 =>
    (ball_verdict_c2 x1.At a0.Noon a0).bind (fun t3 =>
    (if t3 = true then
      some (0, t1)
    else
      ((
        (idx a1 t1).bind (fun x2 =>
        (addI a0.Noon a0.Again).bind (fun t4 =>
        (subI t4 a0.Half).bind (fun t5 =>
        (if (decide (t5 ≤ x2.At)) = true then
          (cutI a1 0 t1).bind (fun t6 =>
          (ball_verdict_c1 t6).bind (fun t7 =>
          (if t7 = true then
            (idx a1 t1).bind (fun x3 =>
            (addI a0.Noon a0.Again).bind (fun t8 =>
            (ball_verdict_c2 x3.At t8 a0).bind (fun t9 =>
            some t9)))
          else
            some false)))
        else
          some false))))) : Option (Bool)).bind (fun s1 =>
      (if s1 = true then
        some (3, t1)
      else
        (cutI a1 t1 ((a1.length : Nat) : Int)).bind (fun t10 =>
        (ball_verdict_c1 t10).bind (fun t11 =>
        (if t11 = true then
          some (1, t1)
        else
          some (2, t1)))))))))))))

def ball_Verdict (a0 : GMast) (a1 : (List GEvent)) : Option (Int × Int) :=
  (ball_Run a0 a1).bind (fun o => match o with
  | (t1, t2, t3) =>
    (if (t3 != 0) = true then
      some (0, t3)
    else
      (ball_verdict a0 a1).bind (fun o => match o with
        | (t4, t5) =>
          some (t4, 0))))

def flag_isNumber (a0 : Int) : Option (Bool) :=
  (flag_within a0 0 9999).bind (fun t1 =>
  some t1)

def strconv_Itoa (a0 : Int) : Option ByteArray := if 0 ≤ a0 ∧ a0 ≤ 9223372036854775807 then some ⟨(Lib.decDigits a0.toNat).toArray⟩ else none
def digsOf (m : Nat) : List Int := (Lib.decDigits m).map fun b => (b.toNat : Int) - 48
def flag_digitsOf (a0 : Int) : Option (List Int) := if 0 ≤ a0 ∧ a0 ≤ 9223372036854775807 then some (digsOf a0.toNat) else none

def flag_Digits (a0 : Int) : Option ((List Int) × Int) :=
  (flag_isNumber a0).bind (fun t1 =>
  (if (!t1) = true then
  some (([] : List Int), 7)
  else
  (flag_digitsOf a0).bind (fun t2 =>
  some (t2, 0))))

def flag_ValidBook_c1 (a0 : Int) : Option (Bool) :=
  some ((decide (a0 < 32)) || (decide (126 < a0)))

def runesL (s : ByteArray) : Nat → Nat → List (Nat × Nat)
  | 0, _ => []
  | n + 1, p => if p < s.size then (p, (Utf8.decode s p).1) :: runesL s n (p + (Utf8.decode s p).2) else []
def idxR (f : Int → Option Bool) (b : Bool) : List (Nat × Nat) → Option Int
  | [] => some (-1)
  | (p, r) :: l => (f (r : Int)).bind fun t => if (t == b) = true then some (p : Int) else idxR f b l
def strings_indexFunc (a0 : ByteArray) (a1 : Int → Option (Bool)) (a2 : Bool) : Option Int := if a0.size ≤ 1099511627776 then idxR a1 a2 (runesL a0 (a0.size + 1) 0) else none
theorem dec_w (s : ByteArray) (i : Nat) : 1 ≤ (Utf8.decode s i).2 := by
  unfold Utf8.decode
  simp only
  repeat' split
  all_goals simp

def strings_IndexFunc (a0 : ByteArray) (a1 : Int → Option (Bool)) : Option (Int) :=
  (strings_indexFunc a0 a1 true).bind (fun t1 =>
  some t1)

def strings_ContainsFunc (a0 : ByteArray) (a1 : Int → Option (Bool)) : Option (Bool) :=
  (strings_IndexFunc a0 a1).bind (fun t1 =>
  some (decide (0 ≤ t1)))

def flag_ValidBook (a0 : (List GMeaning)) : Option (Bool) :=
  ((
  rangeN (S := Unit) (X := Ctl (Unit) (Bool)) (fun ik1 _ =>
    (idx a0 (ik1 : Int)).bind (fun x1 =>
    (flag_isNumber x1.Number).bind (fun t1 =>
    ((if (!t1) = true then
      some true
    else
      ((if (decide (0 < (ik1 : Int))) = true then
        (subI (ik1 : Int) 1).bind (fun t2 =>
        (idx a0 t2).bind (fun x2 =>
        some (decide (x1.Number ≤ x2.Number))))
      else
        some false) : Option Bool).bind (fun b3 =>
      some b3)) : Option Bool).bind (fun b2 =>
    ((if b2 = true then
      some true
    else
      (flag_within ((x1.Text.size : Nat) : Int) 1 60).bind (fun t3 =>
      some (!t3))) : Option Bool).bind (fun b4 =>
    ((if b4 = true then
      some true
    else
      (strings_ContainsFunc x1.Text (fun x0 => flag_ValidBook_c1 x0)).bind (fun t4 =>
      some t4)) : Option Bool).bind (fun b5 =>
    (if b5 = true then
      some (Step.done (Ctl.ret false))
    else
      some (Step.cont ())))))))) (fun _ => Ctl.next ()) (Int.toNat ((a0.length : Nat) : Int)) 0 ()) : Option (Ctl (Unit) (Bool))).bind (fun o => match o with
  | .next _ =>
    some (decide (((a0.length : Nat) : Int) ≤ 200))
  | .ret r => some r
  | .exit _ _ => none)

def flag_isSet (a0 : Int) : Option (Bool) :=
  (flag_within a0 0 8191).bind (fun t1 =>
  some t1)

def hoistsFit (digits h : List Int) (f : Int) : Bool :=
  if 10 ≤ f then decide (f - 10 < (h.length : Int)) && (idx digits (f - 10) == idx digits (h.length : Int)) else idx digits (h.length : Int) == some f
def hoistsOk (digits h : List Int) (left : Int) (f : Nat) : Bool := hoistsFit digits h (f : Int) && !(bits .and .i64 (left / 2 ^ f) 1 == 0)
def hoistsG (digits : List Int) : Nat → List Int → Int → List (List Int)
  | 0, h, _ => [h]
  | n + 1, h, left => (List.range 13).flatMap fun f => if hoistsOk digits h left f then hoistsG digits n (h ++ [(f : Int)]) (bits .andNot .i64 left (2 ^ f)) else []
def flag_hoists_c1 (c0 : List Int) (c1 : Int) : Option (List (List Int)) := if c0.length ≤ 1000 then some (hoistsG c0 c0.length [] c1) else none

def flag_can (a0 : (List Int)) (a1 : Int) : Option (Bool) :=
  (flag_hoists_c1 a0 a1).bind (fun xs1 =>
  ((
  rangeL (α := (List Int)) (S := Unit) (X := Ctl (Unit) (Bool)) (fun _ x1 _ =>
    some (Step.done (Ctl.ret true))) (fun _ => Ctl.next ()) xs1 0 ()) : Option (Ctl (Unit) (Bool))).bind (fun o => match o with
  | .next _ =>
    some false
  | .ret r => some r
  | .exit _ _ => none))

def cmp_isNaN_int (a0 : Int) : Option (Bool) :=
  some (a0 != a0)

def cmp_Compare_int (a0 : Int) (a1 : Int) : Option (Int) :=
  (cmp_isNaN_int a0).bind (fun t1 =>
  (cmp_isNaN_int a1).bind (fun t2 =>
  (if t1 = true then
  (if t2 = true then
    some 0
  else
    some (-1))
  else
  (if t2 = true then
    some 1
  else
    (if (decide (a0 < a1)) = true then
      some (-1)
    else
      (if (decide (a1 < a0)) = true then
        some 1
      else
        some 0))))))

def cmpI (a b : Int) : Int := if a < b then -1 else if b < a then 1 else 0
theorem Compare_int_eq (a b : Int) : cmp_Compare_int a b = some (cmpI a b) := by
  unfold cmp_Compare_int cmp_isNaN_int cmpI
  by_cases h : a < b
  · simp [h]
  · by_cases h2 : b < a <;> simp [h, h2]
theorem int_lt (x y : Int) : Go.Proofs.ltOf cmpI x y = decide (x < y) := by
  unfold Go.Proofs.ltOf cmpI
  by_cases h : x < y
  · simp [h]
  · by_cases h2 : y < x <;> simp [h, h2]
theorem int_swo : Go.Sort.SWO (Go.Proofs.ltOf cmpI) where
  irrefl x := by rw [int_lt]; simp
  trans x y z h1 h2 := by
    rw [int_lt] at *
    simp only [decide_eq_true_eq] at *
    omega
  ntrans x y z h1 h2 := by
    rw [int_lt] at *
    simp only [decide_eq_false_iff_not] at *
    omega
noncomputable def sortInts : List Int → List Int := srtOf cmpI

noncomputable def flag_Lost (a0 : (List GMeaning)) (a1 : Int) : Option ((List Int) × Int) :=
  (flag_ValidBook a0).bind (fun t1 =>
  (if (!t1) = true then
  some (([] : List Int), 1)
  else
  (flag_isSet a1).bind (fun t2 =>
  (if (!t2) = true then
    some (([] : List Int), 7)
  else
    ((
      rangeL (α := GMeaning) (S := (List Int)) (X := (List Int)) (fun ik1 yk1 z2 =>
        ((
          (flag_digitsOf yk1.Number).bind (fun t3 =>
          (flag_can t3 a1).bind (fun t4 =>
          ((
            (if (!t4) = true then
              (appI z2 ([yk1.Number] : List Int)).bind (fun t5 =>
              some t5)
            else
              some z2)) : Option ((List Int))).bind (fun s3 =>
          some s3)))) : Option ((List Int))).bind (fun s2 =>
        some (Step.cont s2))) (fun z2 => z2) a0 0 ([] : List Int)) : Option ((List Int))).bind (fun s1 =>
    (srtI sortInts s1).bind (fun t6 =>
    some (t6, 0)))))))

def flag_asked (a0 : (List Int)) (a1 : Int) : Option (Int) :=
  (flag_ValidDigits a0).bind (fun t1 =>
  (if (!t1) = true then
  some 1
  else
  (flag_isSet a1).bind (fun t2 =>
  (if (!t2) = true then
    some 7
  else
    some 0))))

def slices_Clone_int (a0 : (List Int)) : Option ((List Int)) :=
  (appI ([] : List Int) a0).bind (fun t1 =>
  some t1)

def flag_With (a0 : (List Int)) (a1 : Int) : Option ((List Int) × Int) :=
  (flag_asked a0 a1).bind (fun t1 =>
  (if (t1 != 0) = true then
  some ([], t1)
  else
  (flag_hoists_c1 a0 a1).bind (fun xs1 =>
  ((
    rangeL (α := (List Int)) (S := Unit) (X := Ctl (Unit) ((List Int) × Int)) (fun _ x1 _ =>
      (slices_Clone_int x1).bind (fun t2 =>
      some (Step.done (Ctl.ret (t2, 0))))) (fun _ => Ctl.next ()) xs1 0 ()) : Option (Ctl (Unit) ((List Int) × Int))).bind (fun o => match o with
    | .next _ =>
      some ([], 10)
    | .ret r => some r
    | .exit _ _ => none))))

def flag_ValidHoist (a0 : (List Int)) : Option (Bool) :=
  (flag_listed a0 12).bind (fun t1 =>
  (if (!t1) = true then
  some false
  else
  ((
    rangeN (S := Unit) (X := Ctl (Unit) (Bool)) (fun ik1 _ =>
      (idx a0 (ik1 : Int)).bind (fun x1 =>
      (cutI a0 0 (ik1 : Int)).bind (fun t2 =>
      (slices_Contains_int t2 x1).bind (fun t3 =>
      ((if t3 = true then
        some true
      else
        ((if (decide (10 ≤ x1)) = true then
          (flag_place x1).bind (fun t4 =>
          some (decide ((ik1 : Int) ≤ t4)))
        else
          some false) : Option Bool).bind (fun b2 =>
        some b2)) : Option Bool).bind (fun b1 =>
      (if b1 = true then
        some (Step.done (Ctl.ret false))
      else
        some (Step.cont ()))))))) (fun _ => Ctl.next ()) (Int.toNat ((a0.length : Nat) : Int)) 0 ()) : Option (Ctl (Unit) (Bool))).bind (fun o => match o with
    | .next _ =>
      some true
    | .ret r => some r
    | .exit _ _ => none)))

def flag_means (a0 : (List Int)) : Option ((List Int)) :=
  ((
  rangeL (α := Int) (S := (List Int)) (X := (List Int)) (fun ik1 yk1 z2 =>
    ((
      ((
        (if (decide (10 ≤ yk1)) = true then
          (flag_place yk1).bind (fun t1 =>
          (idx z2 t1).bind (fun x1 =>
          some x1))
        else
          some yk1)) : Option (Int)).bind (fun s3 =>
      (appI z2 ([s3] : List Int)).bind (fun t2 =>
      some t2))) : Option ((List Int))).bind (fun s2 =>
    some (Step.cont s2))) (fun z2 => z2) a0 0 ([] : List Int)) : Option ((List Int))).bind (fun s1 =>
  some s1)

def flag_texts (a0 : (List GMeaning)) : Option ((List (Int × ByteArray))) :=
  ((
  rangeL (α := GMeaning) (S := (List (Int × ByteArray))) (X := (List (Int × ByteArray))) (fun ik1 yk1 z2 =>
    some (Step.cont (mput z2 yk1.Number yk1.Text))) (fun z2 => z2) a0 0 ([] : List (Int × ByteArray))) : Option ((List (Int × ByteArray)))).bind (fun s1 =>
  some s1)

def flag_number (a0 : (List Int)) : Option (Int) :=
  ((
  rangeL (α := Int) (S := Int) (X := Int) (fun ik1 yk1 z2 =>
    (mulI 10 z2).bind (fun t1 =>
    (addI t1 yk1).bind (fun t2 =>
    some (Step.cont t2)))) (fun z2 => z2) a0 0 0) : Option (Int)).bind (fun s1 =>
  some s1)

def slices_Equal_int (a0 : (List Int)) (a1 : (List Int)) : Option (Bool) :=
  (if (((a0.length : Nat) : Int) != ((a1.length : Nat) : Int)) = true then
  some false
  else
  ((
    rangeN (S := Unit) (X := Ctl (Unit) (Bool)) (fun ik1 _ =>
      (idx a0 (ik1 : Int)).bind (fun x1 =>
      (idx a1 (ik1 : Int)).bind (fun x2 =>
      (if (x1 != x2) = true then
        some (Step.done (Ctl.ret false))
      else
        some (Step.cont ()))))) (fun _ => Ctl.next ()) (Int.toNat ((a0.length : Nat) : Int)) 0 ()) : Option (Ctl (Unit) (Bool))).bind (fun o => match o with
    | .next _ =>
      some true
    | .ret r => some r
    | .exit _ _ => none))

def flag_Look (a0 : (List GMeaning)) (a1 : (List Int)) : Option (ByteArray × Int) :=
  (flag_ValidBook a0).bind (fun t1 =>
  ((if (!t1) = true then
  some true
  else
  (flag_ValidHoist a1).bind (fun t2 =>
  some (!t2))) : Option Bool).bind (fun b1 =>
  (if b1 = true then
  some ((bs []), 1)
  else
  (flag_means a1).bind (fun t3 =>
  (flag_texts a0).bind (fun t4 =>
  (flag_number t3).bind (fun t5 =>
  ((if (!(mget t4 t5).isSome) = true then
    some true
  else
    (flag_number t3).bind (fun t6 =>
    (flag_digitsOf t6).bind (fun t7 =>
    (slices_Equal_int t3 t7).bind (fun t8 =>
    some (!t8))))) : Option Bool).bind (fun b2 =>
  (if b2 = true then
    some ((bs []), 8)
  else
    some (((mget t4 t5).getD ByteArray.empty), 0)))))))))

noncomputable def noonguntop_TopVerdictHoisted (a0 : GMast) (a1 : (List GEvent)) (a2 : Int) : Option (Bool) :=
  (if (decide (60 < ((a1.length : Nat) : Int))) = true then
  (noonguntop_awake9 ).bind (fun t1 =>
  some t1)
  else
  (ball_Verdict a0 a1).bind (fun o => match o with
    | (t2, t3) =>
      (if (t3 != 0) = true then
        ((if (t2 == 0) = true then
          (noonguntop_awake9 ).bind (fun t4 =>
          some t4)
        else
          some false) : Option Bool).bind (fun b2 =>
        some b2)
      else
        ((
          rangeN (S := (List GMeaning)) (X := (List GMeaning)) (fun ik1 z2 =>
            (addI 1010 (ik1 : Int)).bind (fun t5 =>
            (ball_Word (ik1 : Int)).bind (fun t6 =>
            (appI z2 ([(GMeaning.mk t5 t6)] : List GMeaning)).bind (fun t7 =>
            some (Step.cont t7))))) (fun z2 => z2) (Int.toNat 6) 0 ([] : List GMeaning)) : Option ((List GMeaning))).bind (fun s1 =>
        (addI 1010 t2).bind (fun t8 =>
        (flag_Digits t8).bind (fun o => match o with
          | (t9, t10) =>
            ((if (t10 != 0) = true then
              some true
            else
              (flag_ValidBook s1).bind (fun t11 =>
              some (!t11))) : Option Bool).bind (fun b3 =>
            (if b3 = true then
              some false
            else
              (flag_Lost s1 a2).bind (fun o => match o with
                | (t12, t13) =>
                  (flag_With t9 a2).bind (fun o => match o with
                    | (t14, t15) =>
                      (if (t13 != 0) = true then
                        ((if (t15 == t13) = true then
                          (noonguntop_awake9 ).bind (fun t16 =>
                          some t16)
                        else
                          some false) : Option Bool).bind (fun b4 =>
                        some b4)
                      else
                        ((
                          rangeL (α := Int) (S := Bool) (X := Bool) (fun ik2 yk2 z5 =>
                            ((if z5 = true then
                              some true
                            else
                              (addI 1010 t2).bind (fun t17 =>
                              some (yk2 == t17))) : Option Bool).bind (fun b5 =>
                            some (Step.cont b5))) (fun z5 => z5) t12 0 false) : Option (Bool)).bind (fun s2 =>
                        (if s2 = true then
                          ((if (t15 == 10) = true then
                            (noonguntop_awake9 ).bind (fun t18 =>
                            some t18)
                          else
                            some false) : Option Bool).bind (fun b6 =>
                          some b6)
                        else
                          (flag_Look s1 t14).bind (fun o => match o with
                            | (t19, t20) =>
                              ((if ((t15 == 0) && (t20 == 0)) = true then
                                (ball_Word t2).bind (fun t21 =>
                                some (decide (t19 = t21)))
                              else
                                some false) : Option Bool).bind (fun b7 =>
                              ((if b7 = true then
                                (noonguntop_awake9 ).bind (fun t22 =>
                                some t22)
                              else
                                some false) : Option Bool).bind (fun b8 =>
                              some b8))))))))))))))))

end Go.Fw
