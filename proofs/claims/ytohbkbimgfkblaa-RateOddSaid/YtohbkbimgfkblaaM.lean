/-
  What the functions compute, as functions of the values: written by a program from the functions. No condition.
-/
import Derived.Test.YtohbkbimgfkblaaFwJ
import Derived.Test.YtohbkbimgfkblaaFwU
namespace Go.Fw
structure GBox where
  Name : ByteArray
  Errors : (List Int)
  deriving DecidableEq
instance : Ty GBox where
  size := 2
  rep w cs a := ∃ v1 : Value, cs = [(.string a.Name), v1] ∧ SliceR w v1 a.Errors
  len h := by obtain ⟨v1, rfl, h1⟩ := h; rfl
  one h := by
    obtain ⟨v1, rfl, h1⟩ := h
    obtain ⟨_, _, rfl, _⟩ := h1.shape
    intro c hc
    simp only [List.mem_cons, List.not_mem_nil, or_false] at hc
    rcases hc with rfl | rfl <;> rfl
  monoC h hb := by obtain ⟨v1, rfl, h1⟩ := h; exact ⟨v1, rfl, h1.monoC hb⟩
  pos := by decide
theorem GBox_open {w : World} {p : Addr} {x : GBox} (h : ElemAt w p x) : ∃ v1 : Value, SliceR w v1 x.Errors ∧ ∀ j c, [(.string x.Name), v1][j]? = some c → w.cell? (p.add j) = some c := by
  obtain ⟨_, cs, ⟨v1, rfl, h1⟩, hc⟩ := h
  exact ⟨v1, h1, hc⟩
theorem GBox_rep {w : World} {x : GBox} {v1 : Value} (h1 : SliceR w v1 x.Errors) : Ty.rep w [(.string x.Name), v1] x := ⟨_, rfl, h1⟩

structure GTrial where
  Name : ByteArray
  Least : Int
  Greatest : Int
  Leap : Int
  Number : Int
  deriving DecidableEq
instance : Flat GTrial := ⟨5, fun a => .agg #[.string a.Name, .int .i64 a.Least, .int .i64 a.Greatest, .int .i64 a.Leap, .int .i64 a.Number], fun a => [.string a.Name, .int .i64 a.Least, .int .i64 a.Greatest, .int .i64 a.Leap, .int .i64 a.Number], fun _ => rfl, fun _ => rfl, by simp [Value.oneCell'], by decide⟩

structure GSpan where
  Lo : Int
  Hi : Int
  deriving DecidableEq
instance : Flat GSpan := ⟨2, fun a => .agg #[.int .i64 a.Lo, .int .i64 a.Hi], fun a => [.int .i64 a.Lo, .int .i64 a.Hi], fun _ => rfl, fun _ => rfl, by simp [Value.oneCell'], by decide⟩

structure GQuotient where
  n : Int
  d : Int
  deriving DecidableEq
instance : Flat GQuotient := ⟨2, fun a => .agg #[.int .i64 a.n, .int .i64 a.d], fun a => [.int .i64 a.n, .int .i64 a.d], fun _ => rfl, fun _ => rfl, by simp [Value.oneCell'], by decide⟩

structure GRatio where
  N : Int
  D : Int
  deriving DecidableEq
instance : Flat GRatio := ⟨2, fun a => .agg #[.int .i64 a.N, .int .i64 a.D], fun a => [.int .i64 a.N, .int .i64 a.D], fun _ => rfl, fun _ => rfl, by simp [Value.oneCell'], by decide⟩

structure GPurchase where
  list : (List Int)
  sum : Int
  deriving DecidableEq
instance : Ty GPurchase where
  size := 2
  rep w cs a := ∃ v0 : Value, cs = [v0, (.int .i64 a.sum)] ∧ SliceR w v0 a.list
  len h := by obtain ⟨v0, rfl, h0⟩ := h; rfl
  one h := by
    obtain ⟨v0, rfl, h0⟩ := h
    obtain ⟨_, _, rfl, _⟩ := h0.shape
    intro c hc
    simp only [List.mem_cons, List.not_mem_nil, or_false] at hc
    rcases hc with rfl | rfl <;> rfl
  monoC h hb := by obtain ⟨v0, rfl, h0⟩ := h; exact ⟨v0, rfl, h0.monoC hb⟩
  pos := by decide
theorem GPurchase_open {w : World} {p : Addr} {x : GPurchase} (h : ElemAt w p x) : ∃ v0 : Value, SliceR w v0 x.list ∧ ∀ j c, [v0, (.int .i64 x.sum)][j]? = some c → w.cell? (p.add j) = some c := by
  obtain ⟨_, cs, ⟨v0, rfl, h0⟩, hc⟩ := h
  exact ⟨v0, h0, hc⟩
theorem GPurchase_rep {w : World} {x : GPurchase} {v0 : Value} (h0 : SliceR w v0 x.list) : Ty.rep w [v0, (.int .i64 x.sum)] x := ⟨_, rfl, h0⟩

def okGBox (a : GBox) : Prop := a.Name.size ≤ maxLen ∧ (a.Errors.length ≤ maxLen ∧ ∀ x ∈ a.Errors, (fun a => inI a = true) x)
def okGSpan (a : GSpan) : Prop := inI a.Lo = true ∧ inI a.Hi = true
def noongunlaw06_fit (a0 : (List GBox)) : Option (Bool) :=
  ((
  rangeL (α := GBox) (S := Unit) (X := Ctl (Unit) (Bool)) (fun _   yk1 _ =>
    (if (((decide (100 < ((yk1.Name.size : Nat) : Int))) || ((decide (60 < ((yk1.Errors.length : Nat) : Int))) && (decide (((yk1.Errors.length : Nat) : Int) < 399)))) || (decide (410 < ((yk1.Errors.length : Nat) : Int)))) = true then
      some (Step.done (Ctl.ret false))
    else
      some (Step.cont ()))) (fun _ => Ctl.next ()) a0 0 ()) : Option (Ctl (Unit) (Bool))).bind (fun o => match o with
  | .next _ =>
    some (decide (((a0.length : Nat) : Int) ≤ 20))
  | .ret r => some r
  | .exit _ _ => none)

def rate_within (a0 : Int) (a1 : Int) (a2 : Int) : Option (Bool) :=
  some ((decide (a1 ≤ a0)) && (decide (a0 ≤ a2)))

def rate_name (a0 : ByteArray) : Option (Bool) :=
  (bytesI a0).bind (fun t1 =>
  ((
  rangeN (S := Unit) (X := Ctl (Unit) (Bool)) (fun ik1 _ =>
    (idx t1 (ik1 : Int)).bind (fun x1 =>
    ((if (!((decide (97 ≤ (x1.toNat : Int))) && (decide ((x1.toNat : Int) ≤ 122)))) = true then
      ((if ((ik1 : Int) == 0) = true then
        some true
      else
        ((if ((x1.toNat : Int) != 95) = true then
          (cvI .i64 (x1.toNat : Int)).bind (fun t2 =>
          (rate_within t2 48 57).bind (fun t3 =>
          some (!t3)))
        else
          some false) : Option Bool).bind (fun b3 =>
        some b3)) : Option Bool).bind (fun b2 =>
      some b2)
    else
      some false) : Option Bool).bind (fun b1 =>
    (if b1 = true then
      some (Step.done (Ctl.ret false))
    else
      some (Step.cont ()))))) (fun _ => Ctl.next ()) (Int.toNat ((t1.length : Nat) : Int)) 0 ()) : Option (Ctl (Unit) (Bool))).bind (fun o => match o with
  | .next _ =>
    (rate_within ((a0.size : Nat) : Int) 1 16).bind (fun t4 =>
    some t4)
  | .ret r => some r
  | .exit _ _ => none))

def slices_IndexFunc_int (a0 : (List Int)) (a1 : Int → Option (Bool)) : Option (Int) :=
  ((
  rangeN (S := Unit) (X := Ctl (Unit) (Int)) (fun ik1 _ =>
    (idx a0 (ik1 : Int)).bind (fun x1 =>
    (a1 x1).bind (fun t1 =>
    (if t1 = true then
      some (Step.done (Ctl.ret (ik1 : Int)))
    else
      some (Step.cont ()))))) (fun _ => Ctl.next ()) (Int.toNat ((a0.length : Nat) : Int)) 0 ()) : Option (Ctl (Unit) (Int))).bind (fun o => match o with
  | .next _ =>
    some (-1)
  | .ret r => some r
  | .exit _ _ => none)

def slices_ContainsFunc_int (a0 : (List Int)) (a1 : Int → Option (Bool)) : Option (Bool) :=
  (slices_IndexFunc_int a0 a1).bind (fun t1 =>
  some (decide (0 ≤ t1)))

def rate_far (a0 : Int) : Option (Bool) :=
  (rate_within a0 (-86400000) 86400000).bind (fun t1 =>
  some (!t1))

def rate_ValidBox (a0 : GBox) : Option (Bool) :=
  (rate_name a0.Name).bind (fun t1 =>
  ((if t1 = true then
  (rate_within ((a0.Errors.length : Nat) : Int) 2 400).bind (fun t2 =>
  some t2)
  else
  some false) : Option Bool).bind (fun b2 =>
  ((if b2 = true then
  (slices_ContainsFunc_int a0.Errors (fun x0 => rate_far x0)).bind (fun t3 =>
  some (!t3))
  else
  some false) : Option Bool).bind (fun b3 =>
  some b3)))

def diffsFrom (k : Int) (xs : List Int) : Nat → Int → Option (List Int)
    | 0, _ => none
    | n + 1, i => if i < (xs.length : Int) then (idx xs i).bind fun x => (subI i k).bind fun j => (idx xs j).bind fun y => (subI x y).bind fun d => (addI i k).bind fun i' => (diffsFrom k xs n i').bind fun l => some (d :: l) else some []
def rate_differences_c1 (c0 : Int) (c1 : List Int) : Option (List Int) := diffsFrom c0 c1 (c1.length + 1) c0

def slices_AppendSeq_int (a1 : List Int) : Option ((List Int)) :=
  ((
  rangeL (α := Int) (S := (List Int)) (X := (List Int)) (fun _ x1 z2 =>
    (appI z2 ([x1] : List Int)).bind (fun t1 =>
    some (Step.cont t1))) (fun z2 => z2) a1 0 ([] : List Int)) : Option ((List Int))).bind (fun s1 =>
  some s1)

def slices_Collect_int (a0 : List Int) : Option ((List Int)) :=
  (slices_AppendSeq_int a0).bind (fun t1 =>
  some t1)

def rate_Weekly (a0 : GBox) : Option ((List Int) × Int) :=
  (rate_ValidBox (GBox.mk a0.Name a0.Errors)).bind (fun t1 =>
  (if (!t1) = true then
  some (([] : List Int), 1)
  else
  (rate_differences_c1 7 a0.Errors).bind (fun xs1 =>
  (slices_Collect_int xs1).bind (fun t2 =>
  (if (((t2.length : Nat) : Int) == 0) = true then
    some (([] : List Int), 8)
  else
    some (t2, 0))))))

def slices_Values_int_c1 (c0 : List Int) : Option (List Int) := some c0

def rate_ends_int (a0 : List Int) : Option (Int × Int) :=
  ((
  rangeL (α := Int) (S := Int × Int × Bool) (X := Int × Int) (fun _ x1 s =>
  match s with
    | (z4, z5, z6) =>
      ((
        ((
          (if z6 = true then
            some (x1, x1, false)
          else
            some (z4, z5, z6))) : Option (Int × Int × Bool)).bind (fun o => match o with
          | (s6, s7, s8) =>
            some ((min s6 x1), (max s7 x1), s8))) : Option (Int × Int × Bool)).bind (fun o => match o with
        | (s3, s4, s5) =>
          some (Step.cont (s3, s4, s5)))) (fun s => match s with | (z4, z5, _ ) => (z4, z5)) a0 0 (0, 0, true)) : Option (Int × Int)).bind (fun o => match o with
  | (s1, s2) =>
    some (s1, s2))

def rate_Trial (a0 : GBox) : Option (GTrial × Int) :=
  (rate_Weekly (GBox.mk a0.Name a0.Errors)).bind (fun o => match o with
  | (t1, t2) =>
    (if (t2 != 0) = true then
      some ((GTrial.mk ByteArray.empty 0 0 0 0), t2)
    else
      (if (decide (((t1.length : Nat) : Int) < 2)) = true then
        some ((GTrial.mk ByteArray.empty 0 0 0 0), 8)
      else
        (slices_Values_int_c1 t1).bind (fun xs1 =>
        (rate_ends_int xs1).bind (fun o => match o with
          | (t3, t4) =>
            (rate_differences_c1 1 t1).bind (fun xs2 =>
            ((
              rangeL (α := Int) (S := Int) (X := Int) (fun _ x1 z2 =>
                some (Step.cont (max (max z2 x1) (negW x1)))) (fun z2 => z2) xs2 0 0) : Option (Int)).bind (fun s1 =>
            (subI t4 t3).bind (fun t5 =>
            (mulI 2 s1).bind (fun t6 =>
            (addI t5 t6).bind (fun t7 =>
            some ((GTrial.mk a0.Name t3 t4 s1 t7), 0)))))))))))

def rate_Arc (a0 : Int) : Option (Int × Int × Int) :=
  (rate_within a0 (-1000000000000) 1000000000000).bind (fun t1 =>
  (if (!t1) = true then
  some (0, 0, 7)
  else
  (mulI 15 (max a0 (negW a0))).bind (fun t2 =>
  (quoI t2 1000).bind (fun t3 =>
  (remI t2 1000).bind (fun t4 =>
  some (t3, t4, 0))))))

def noongunlaw06_awake  : Option (Bool) :=
  (rate_Trial (GBox.mk (bs [97]) ([0, 7, 14, 21, 28, 35, 42, 49, 57, 65, 73, 81, 89, 97, 105] : List Int))).bind (fun o => match o with
  | (t1, t2) =>
    (rate_Arc 4000).bind (fun o => match o with
      | (t3, _ , t5) =>
        some ((((t2 == 0) && (t1 == (GTrial.mk (bs [97]) 49 56 7 21))) && (t5 == 0)) && (t3 == 60))))

def noongunlaw06_RateOpposite (a0 : GBox) : Option (Bool) :=
  (noongunlaw06_fit ([(GBox.mk a0.Name a0.Errors)] : List GBox)).bind (fun t1 =>
  (if (!t1) = true then
  (noongunlaw06_awake ).bind (fun t2 =>
  some t2)
  else
  ((
    rangeL (α := Int) (S := (List Int)) (X := (List Int)) (fun _   yk1 z2 =>
      (appI z2 ([(negW yk1)] : List Int)).bind (fun t3 =>
      some (Step.cont t3))) (fun z2 => z2) a0.Errors 0 ([] : List Int)) : Option ((List Int))).bind (fun s1 =>
  (rate_Trial (GBox.mk a0.Name a0.Errors)).bind (fun o => match o with
    | (t4, t5) =>
      (rate_Trial (GBox.mk a0.Name s1)).bind (fun o => match o with
        | (t6, t7) =>
          (rate_ValidBox (GBox.mk a0.Name a0.Errors)).bind (fun t8 =>
          (if (!t8) = true then
            ((if (t5 == 1) = true then
              (noongunlaw06_awake ).bind (fun t9 =>
              some t9)
            else
              some false) : Option Bool).bind (fun b5 =>
            some b5)
          else
            ((if (((((t5 == t7) && (t4.Number == t6.Number)) && (t4.Leap == t6.Leap)) && (t4.Least == (negW t6.Greatest))) && (t4.Greatest == (negW t6.Least))) = true then
              (noongunlaw06_awake ).bind (fun t10 =>
              some t10)
            else
              some false) : Option Bool).bind (fun b6 =>
            some b6))))))))

def rate_told (a0 : GBox) : Option (GBox × Int) :=
  (rate_ValidBox (GBox.mk a0.Name a0.Errors)).bind (fun t1 =>
  (if (!t1) = true then
  some ((GBox.mk ByteArray.empty ([] : List Int)), 4)
  else
  some ((GBox.mk a0.Name a0.Errors), 0)))

def rate_Shifted (a0 : GBox) (a1 : Int) (a2 : Int) : Option (GBox × Int) :=
  (rate_ValidBox (GBox.mk a0.Name a0.Errors)).bind (fun t1 =>
  (if (!t1) = true then
  some ((GBox.mk ByteArray.empty ([] : List Int)), 1)
  else
  (rate_far a1).bind (fun t2 =>
  ((if t2 = true then
    some true
  else
    (rate_within a2 (-1000000) 1000000).bind (fun t3 =>
    some (!t3))) : Option Bool).bind (fun b3 =>
  (if b3 = true then
    some ((GBox.mk ByteArray.empty ([] : List Int)), 7)
  else
    ((
      rangeN (S := (List Int)) (X := (List Int)) (fun ik1 z2 =>
        (idx a0.Errors (ik1 : Int)).bind (fun x1 =>
        (addI x1 a1).bind (fun t4 =>
        (mulI a2 (ik1 : Int)).bind (fun t5 =>
        (addI t4 t5).bind (fun t6 =>
        (appI z2 ([t6] : List Int)).bind (fun t7 =>
        some (Step.cont t7))))))) (fun z2 => z2) (Int.toNat ((a0.Errors.length : Nat) : Int)) 0 ([] : List Int)) : Option ((List Int))).bind (fun s1 =>
    (rate_told (GBox.mk a0.Name s1)).bind (fun o => match o with
      | (t8, t9) =>
        some ((GBox.mk t8.Name t8.Errors), t9))))))))

def noongunref06_Name (a0 : ByteArray) : Option (Bool) :=
  ((
  chkI ((a0.size : Nat) : Int) (rangeN (S := Unit) (X := Ctl (Unit) (Bool)) (fun ik1 _ =>
    (idx (bytes a0) (ik1 : Int)).bind (fun x1 =>
    (if (((decide ((x1.toNat : Int) < 97)) || (decide (122 < (x1.toNat : Int)))) && (((ik1 : Int) == 0) || (((x1.toNat : Int) != 95) && ((decide ((x1.toNat : Int) < 48)) || (decide (57 < (x1.toNat : Int))))))) = true then
      some (Step.done (Ctl.ret false))
    else
      some (Step.cont ())))) (fun _ => Ctl.next ()) (Int.toNat ((a0.size : Nat) : Int)) 0 ())) : Option (Ctl (Unit) (Bool))).bind (fun o => match o with
  | .next _ =>
    some ((decide (1 ≤ ((a0.size : Nat) : Int))) && (decide (((a0.size : Nat) : Int) ≤ 16)))
  | .ret r => some r
  | .exit _ _ => none)

def noongunref06_ValidBox (a0 : GBox) : Option (Bool) :=
  ((
  rangeL (α := Int) (S := Unit) (X := Ctl (Unit) (Bool)) (fun _   yk1 _ =>
    (if ((decide (yk1 < (-86400000))) || (decide (86400000 < yk1))) = true then
      some (Step.done (Ctl.ret false))
    else
      some (Step.cont ()))) (fun _ => Ctl.next ()) a0.Errors 0 ()) : Option (Ctl (Unit) (Bool))).bind (fun o => match o with
  | .next _ =>
    (noongunref06_Name a0.Name).bind (fun t1 =>
    some ((t1 && (decide (2 ≤ ((a0.Errors.length : Nat) : Int)))) && (decide (((a0.Errors.length : Nat) : Int) ≤ 400))))
  | .ret r => some r
  | .exit _ _ => none)

def noongunref06_Shifted (a0 : GBox) (a1 : Int) (a2 : Int) : Option (GBox × Int) :=
  (noongunref06_ValidBox (GBox.mk a0.Name a0.Errors)).bind (fun t1 =>
  (if (!t1) = true then
  some ((GBox.mk ByteArray.empty ([] : List Int)), 1)
  else
  (if ((((decide (a1 < (-86400000))) || (decide (86400000 < a1))) || (decide (a2 < (-1000000)))) || (decide (1000000 < a2))) = true then
    some ((GBox.mk ByteArray.empty ([] : List Int)), 7)
  else
    ((
      rangeN (S := (List Int)) (X := (List Int)) (fun ik1 z2 =>
        (idx a0.Errors (ik1 : Int)).bind (fun x1 =>
        (addI x1 a1).bind (fun t2 =>
        (mulI a2 (ik1 : Int)).bind (fun t3 =>
        (addI t2 t3).bind (fun t4 =>
        (appI z2 ([t4] : List Int)).bind (fun t5 =>
        some (Step.cont t5))))))) (fun z2 => z2) (Int.toNat ((a0.Errors.length : Nat) : Int)) 0 ([] : List Int)) : Option ((List Int))).bind (fun s1 =>
    (noongunref06_ValidBox (GBox.mk a0.Name s1)).bind (fun t6 =>
    (if (!t6) = true then
      some ((GBox.mk ByteArray.empty ([] : List Int)), 4)
    else
      some ((GBox.mk a0.Name s1), 0)))))))

def noongunref06_SameInts (a0 : (List Int)) (a1 : (List Int)) : Option (Bool) :=
  (if (((a0.length : Nat) : Int) != ((a1.length : Nat) : Int)) = true then
  some false
  else
  ((
    rangeN (S := Unit) (X := Ctl (Unit) (Bool)) (fun ik1 _ =>
      (idx a0 (ik1 : Int)).bind (fun x1 =>
      (idx a1 (ik1 : Int)).bind (fun x2 =>
      (if (x1 != x2) = true then
        some (Step.done (Ctl.ret false))
      else
        some (Step.cont ()))))) (fun _ => Ctl.next ()) (Int.toNat ((a0.length : Nat) : Int)) 0 ()) : Option (Ctl (Unit) (Bool))).bind (fun o => match o with
    | .next _ =>
      some true
    | .ret r => some r
    | .exit _ _ => none))

def noongunref06_SameBox (a0 : GBox) (a1 : GBox) : Option (Bool) :=
  ((if (decide (a0.Name = a1.Name)) = true then
  (noongunref06_SameInts a0.Errors a1.Errors).bind (fun t1 =>
  some t1)
  else
  some false) : Option Bool).bind (fun b3 =>
  some b3)

def noongunlaw06_RateShifted (a0 : GBox) (a1 : Int) (a2 : Int) : Option (Bool) :=
  (noongunlaw06_fit ([(GBox.mk a0.Name a0.Errors)] : List GBox)).bind (fun t1 =>
  (if (!t1) = true then
  (noongunlaw06_awake ).bind (fun t2 =>
  some t2)
  else
  (rate_Shifted (GBox.mk a0.Name a0.Errors) a1 a2).bind (fun o => match o with
    | (t3, t4) =>
      (noongunref06_Shifted (GBox.mk a0.Name a0.Errors) a1 a2).bind (fun o => match o with
        | (t5, t6) =>
          (noongunref06_SameBox (GBox.mk t3.Name t3.Errors) (GBox.mk t5.Name t5.Errors)).bind (fun t7 =>
          (if ((!t7) || (t4 != t6)) = true then
            some false
          else
            (if (t4 != 0) = true then
              (noongunlaw06_awake ).bind (fun t8 =>
              some t8)
            else
              (rate_Trial (GBox.mk a0.Name a0.Errors)).bind (fun o => match o with
                | (t9, t10) =>
                  (rate_Trial (GBox.mk t3.Name t3.Errors)).bind (fun o => match o with
                    | (t11, t12) =>
                      (if (t10 != 0) = true then
                        ((if (t12 == t10) = true then
                          (noongunlaw06_awake ).bind (fun t13 =>
                          some t13)
                        else
                          some false) : Option Bool).bind (fun b6 =>
                        some b6)
                      else
                        ((if (t12 == 0) = true then
                          (mulI 7 a2).bind (fun t14 =>
                          (addI t9.Least t14).bind (fun t15 =>
                          some (t11.Least == t15)))
                        else
                          some false) : Option Bool).bind (fun b7 =>
                        ((if b7 = true then
                          (mulI 7 a2).bind (fun t16 =>
                          (addI t9.Greatest t16).bind (fun t17 =>
                          some (t11.Greatest == t17)))
                        else
                          some false) : Option Bool).bind (fun b8 =>
                        ((if ((b8 && (t11.Leap == t9.Leap)) && (t11.Number == t9.Number)) = true then
                          (noongunlaw06_awake ).bind (fun t18 =>
                          some t18)
                        else
                          some false) : Option Bool).bind (fun b9 =>
                        some b9)))))))))))))

def rate_Daily (a0 : GBox) : Option ((List Int) × Int) :=
  (rate_ValidBox (GBox.mk a0.Name a0.Errors)).bind (fun t1 =>
  (if (!t1) = true then
  some (([] : List Int), 1)
  else
  (rate_differences_c1 1 a0.Errors).bind (fun xs1 =>
  (slices_Collect_int xs1).bind (fun t2 =>
  some (t2, 0)))))

def noongunref06_Least (a0 : (List Int)) : Option (Int) :=
  (idx a0 0).bind (fun x1 =>
  ((
  rangeL (α := Int) (S := Int) (X := Int) (fun _   yk1 z2 =>
    some (Step.cont (min z2 yk1))) (fun z2 => z2) a0 0 x1) : Option (Int)).bind (fun s1 =>
  some s1))

def noongunref06_Greatest (a0 : (List Int)) : Option (Int) :=
  (idx a0 0).bind (fun x1 =>
  ((
  rangeL (α := Int) (S := Int) (X := Int) (fun _   yk1 z2 =>
    some (Step.cont (max z2 yk1))) (fun z2 => z2) a0 0 x1) : Option (Int)).bind (fun s1 =>
  some s1))

def span_ValidSpan (a0 : GSpan) : Option (Bool) :=
  some (((decide ((-1000000000000) ≤ a0.Lo)) && (decide (a0.Lo ≤ a0.Hi))) && (decide (a0.Hi ≤ 1000000000000)))

def rate_Ahead (a0 : GBox) (a1 : Int) (a2 : Int) : Option (GSpan × Int) :=
  (rate_Daily (GBox.mk a0.Name a0.Errors)).bind (fun o => match o with
  | (t1, t2) =>
    (if (t2 != 0) = true then
      some ((GSpan.mk 0 0), t2)
    else
      ((if (decide (a1 < 1)) = true then
        some true
      else
        (rate_within a2 1 400).bind (fun t3 =>
        some (!t3))) : Option Bool).bind (fun b3 =>
      (if b3 = true then
        some ((GSpan.mk 0 0), 7)
      else
        (if (decide (((t1.length : Nat) : Int) < a1)) = true then
          some ((GSpan.mk 0 0), 8)
        else
          (subI ((t1.length : Nat) : Int) a1).bind (fun t4 =>
          (cutI t1 t4 ((t1.length : Nat) : Int)).bind (fun t5 =>
          (slices_Values_int_c1 t5).bind (fun xs1 =>
          (rate_ends_int xs1).bind (fun o => match o with
            | (t6, t7) =>
              (subI ((a0.Errors.length : Nat) : Int) 1).bind (fun t8 =>
              (idx a0.Errors t8).bind (fun x1 =>
              (mulI a2 t6).bind (fun t9 =>
              (addI x1 t9).bind (fun t10 =>
              (mulI a2 t7).bind (fun t11 =>
              (addI x1 t11).bind (fun t12 =>
              (span_ValidSpan (GSpan.mk t10 t12)).bind (fun t13 =>
              (if (!t13) = true then
                some ((GSpan.mk 0 0), 4)
              else
                some ((GSpan.mk t10 t12), 0))))))))))))))))))

def noongunlaw06_RateHolds (a0 : GBox) (a1 : Int) (a2 : (List Int)) : Option (Bool) :=
  (noongunlaw06_fit ([(GBox.mk a0.Name a0.Errors)] : List GBox)).bind (fun t1 =>
  (if (((!t1) || (decide (20 < ((a2.length : Nat) : Int)))) || (decide (a1 < 1))) = true then
  (noongunlaw06_awake ).bind (fun t2 =>
  some t2)
  else
  (rate_Daily (GBox.mk a0.Name a0.Errors)).bind (fun o => match o with
    | (t3, t4) =>
      (if ((t4 != 0) || (decide (((t3.length : Nat) : Int) < a1))) = true then
        (noongunlaw06_awake ).bind (fun t5 =>
        some t5)
      else
        (subI ((t3.length : Nat) : Int) a1).bind (fun t6 =>
        (cutI t3 t6 ((t3.length : Nat) : Int)).bind (fun t7 =>
        (noongunref06_Least t7).bind (fun t8 =>
        (subI ((t3.length : Nat) : Int) a1).bind (fun t9 =>
        (cutI t3 t9 ((t3.length : Nat) : Int)).bind (fun t10 =>
        (noongunref06_Greatest t10).bind (fun t11 =>
        (subI ((a0.Errors.length : Nat) : Int) 1).bind (fun t12 =>
        (idx a0.Errors t12).bind (fun x1 =>
        ((
          rangeN (S := Int) (X := Ctl (Unit) (Bool)) (fun ik1 z2 =>
            (idx a2 (ik1 : Int)).bind (fun x2 =>
            (addI z2 (max t8 (min t11 x2))).bind (fun t13 =>
            (addI (ik1 : Int) 1).bind (fun t14 =>
            (rate_Ahead (GBox.mk a0.Name a0.Errors) a1 t14).bind (fun o => match o with
              | (t15, t16) =>
                (if (((t16 != 0) || (decide (t13 < t15.Lo))) || (decide (t15.Hi < t13))) = true then
                  some (Step.done (Ctl.ret false))
                else
                  some (Step.cont t13))))))) (fun _  => Ctl.next ()) (Int.toNat ((a2.length : Nat) : Int)) 0 x1) : Option (Ctl (Unit) (Bool))).bind (fun o => match o with
          | .next _ =>
            (noongunlaw06_awake ).bind (fun t17 =>
            some t17)
          | .ret r => some r
          | .exit _ _ => none)))))))))))))

def slices_Clone_int (a0 : (List Int)) : Option ((List Int)) :=
  (appI ([] : List Int) a0).bind (fun t1 =>
  some t1)

def rate_Joined (a0 : GBox) (a1 : GBox) : Option (GBox × Int) :=
  (rate_ValidBox (GBox.mk a0.Name a0.Errors)).bind (fun t1 =>
  ((if (!t1) = true then
  some true
  else
  (rate_ValidBox (GBox.mk a1.Name a1.Errors)).bind (fun t2 =>
  some (!t2))) : Option Bool).bind (fun b4 =>
  (if b4 = true then
  some ((GBox.mk ByteArray.empty ([] : List Int)), 1)
  else
  (slices_Clone_int a0.Errors).bind (fun t3 =>
  (subI ((a0.Errors.length : Nat) : Int) 1).bind (fun t4 =>
  (idx a0.Errors t4).bind (fun x1 =>
  (idx a1.Errors 0).bind (fun x2 =>
  (subI x1 x2).bind (fun t5 =>
  (cutI a1.Errors 1 ((a1.Errors.length : Nat) : Int)).bind (fun t6 =>
  ((
    rangeL (α := Int) (S := (List Int)) (X := (List Int)) (fun _   yk1 z2 =>
      (addI yk1 t5).bind (fun t7 =>
      (appI z2 ([t7] : List Int)).bind (fun t8 =>
      some (Step.cont t8)))) (fun z2 => z2) t6 0 t3) : Option ((List Int))).bind (fun s1 =>
  (rate_told (GBox.mk a0.Name s1)).bind (fun o => match o with
    | (t9, t10) =>
      some ((GBox.mk t9.Name t9.Errors), t10))))))))))))

noncomputable def noongunref06_rates (a0 : GBox) (a1 : Int) : Option ((List Int)) :=
  ((
  loopR (S := Int × (List Int)) (X := (List Int)) (fun (s : Int × (List Int)) => match s with
    | (z3, z4) =>
      (if (decide (z3 < ((a0.Errors.length : Nat) : Int))) = true then
        (idx a0.Errors z3).bind (fun x1 =>
        (subI z3 a1).bind (fun t1 =>
        (idx a0.Errors t1).bind (fun x2 =>
        (subI x1 x2).bind (fun t2 =>
        (appI z4 ([t2] : List Int)).bind (fun t3 =>
        (addI z3 a1).bind (fun t4 =>
        some (Step.cont (t4, t3))))))))
      else
        some (Step.done z4))) (a1, ([] : List Int))) : Option ((List Int))).bind (fun s1 =>
  some s1)

noncomputable def noongunref06_Joined (a0 : GBox) (a1 : GBox) : Option (GBox × Int) :=
  (noongunref06_ValidBox (GBox.mk a0.Name a0.Errors)).bind (fun t1 =>
  ((if (!t1) = true then
  some true
  else
  (noongunref06_ValidBox (GBox.mk a1.Name a1.Errors)).bind (fun t2 =>
  some (!t2))) : Option Bool).bind (fun b4 =>
  (if b4 = true then
  some ((GBox.mk ByteArray.empty ([] : List Int)), 1)
  else
  (appI ([] : List Int) a0.Errors).bind (fun t3 =>
  (noongunref06_rates (GBox.mk a1.Name a1.Errors) 1).bind (fun t4 =>
  ((
    rangeL (α := Int) (S := (List Int)) (X := (List Int)) (fun _   yk1 z2 =>
      (subI ((z2.length : Nat) : Int) 1).bind (fun t5 =>
      (idx z2 t5).bind (fun x1 =>
      (addI x1 yk1).bind (fun t6 =>
      (appI z2 ([t6] : List Int)).bind (fun t7 =>
      some (Step.cont t7)))))) (fun z2 => z2) t4 0 t3) : Option ((List Int))).bind (fun s1 =>
  (noongunref06_ValidBox (GBox.mk a0.Name s1)).bind (fun t8 =>
  (if (!t8) = true then
    some ((GBox.mk ByteArray.empty ([] : List Int)), 4)
  else
    some ((GBox.mk a0.Name s1), 0)))))))))

noncomputable def noongunlaw06_RateJoined (a0 : GBox) (a1 : GBox) : Option (Bool) :=
  (noongunlaw06_fit ([(GBox.mk a0.Name a0.Errors), (GBox.mk a1.Name a1.Errors)] : List GBox)).bind (fun t1 =>
  (if (!t1) = true then
  (noongunlaw06_awake ).bind (fun t2 =>
  some t2)
  else
  (rate_Joined (GBox.mk a0.Name a0.Errors) (GBox.mk a1.Name a1.Errors)).bind (fun o => match o with
    | (t3, t4) =>
      (noongunref06_Joined (GBox.mk a0.Name a0.Errors) (GBox.mk a1.Name a1.Errors)).bind (fun o => match o with
        | (t5, t6) =>
          (noongunref06_SameBox (GBox.mk t3.Name t3.Errors) (GBox.mk t5.Name t5.Errors)).bind (fun t7 =>
          (if ((!t7) || (t4 != t6)) = true then
            some false
          else
            (if (t4 != 0) = true then
              (noongunlaw06_awake ).bind (fun t8 =>
              some t8)
            else
              (rate_Daily (GBox.mk a0.Name a0.Errors)).bind (fun o => match o with
                | (t9, t10) =>
                  (rate_Daily (GBox.mk a1.Name a1.Errors)).bind (fun o => match o with
                    | (t11, t12) =>
                      (rate_Daily (GBox.mk t3.Name t3.Errors)).bind (fun o => match o with
                        | (t13, t14) =>
                          ((if (((t10 == 0) && (t12 == 0)) && (t14 == 0)) = true then
                            (appI ([] : List Int) t9).bind (fun t15 =>
                            (appI t15 t11).bind (fun t16 =>
                            (noongunref06_SameInts t13 t16).bind (fun t17 =>
                            some t17)))
                          else
                            some false) : Option Bool).bind (fun b5 =>
                          ((if b5 = true then
                            (noongunlaw06_awake ).bind (fun t18 =>
                            some t18)
                          else
                            some false) : Option Bool).bind (fun b7 =>
                          some b7))))))))))))

noncomputable def span_divisor (a0 : Int) (a1 : Int) : Option (Int) :=
  ((
  loopR (S := Int × Int) (X := Int) (fun (s : Int × Int) => match s with
    | (z3, z4) =>
      (if (z4 != 0) = true then
        (remI z3 z4).bind (fun t1 =>
        some (Step.cont (z4, t1)))
      else
        some (Step.done z3))) (a0, a1)) : Option (Int)).bind (fun s1 =>
  some (max s1 (negW s1)))

noncomputable def span_quotient_reduce (a0 : GQuotient) : Option (GQuotient) :=
  (span_divisor a0.n a0.d).bind (fun t1 =>
  ((
  (if (decide (a0.d < 0)) = true then
    some (negW t1)
  else
    some t1)) : Option (Int)).bind (fun s1 =>
  (quoI a0.n s1).bind (fun t2 =>
  (quoI a0.d s1).bind (fun t3 =>
  some (GQuotient.mk t2 t3)))))

noncomputable def span_ValidRatio (a0 : GRatio) : Option (Bool) :=
  ((if ((((decide (1 ≤ a0.D)) && (decide (a0.D ≤ 1000000000))) && (decide ((-1000000000) ≤ a0.N))) && (decide (a0.N ≤ 1000000000))) = true then
  (span_divisor a0.N a0.D).bind (fun t1 =>
  some (t1 == 1))
  else
  some false) : Option Bool).bind (fun b2 =>
  some b2)

noncomputable def span_lowest (a0 : Int) (a1 : Int) : Option (GRatio × Int) :=
  (span_quotient_reduce (GQuotient.mk a0 a1)).bind (fun t1 =>
  (span_ValidRatio (GRatio.mk t1.n t1.d)).bind (fun t2 =>
  (if t2 = true then
  some ((GRatio.mk t1.n t1.d), 0)
  else
  some ((GRatio.mk 0 0), 4))))

noncomputable def span_Make (a0 : Int) (a1 : Int) : Option (GRatio × Int) :=
  (if (((((decide (a0 < (-1000000000000000000))) || (decide (1000000000000000000 < a0))) || (decide (a1 < (-1000000000000000000)))) || (decide (1000000000000000000 < a1))) || (a1 == 0)) = true then
  some ((GRatio.mk 0 0), 7)
  else
  (span_lowest a0 a1).bind (fun o => match o with
    | (t1, t2) =>
      some (t1, t2)))

noncomputable def rate_Warm (a0 : Int) (a1 : Int) (a2 : Int) (a3 : Int) (a4 : Int) : Option (GRatio × Int) :=
  ((
  rangeN (S := Unit) (X := Ctl (Unit) (GRatio × Int)) (fun ik1 _ =>
    (idx ([a0, a2, a4] : List Int) (ik1 : Int)).bind (fun x1 =>
    (rate_within x1 (-50000) 50000).bind (fun t1 =>
    (if (!t1) = true then
      some (Step.done (Ctl.ret ((GRatio.mk 0 0), 7)))
    else
      some (Step.cont ()))))) (fun _ => Ctl.next ()) (Int.toNat 3) 0 ()) : Option (Ctl (Unit) (GRatio × Int))).bind (fun o => match o with
  | .next _ =>
    ((if (a0 == a2) = true then
      some true
    else
      (rate_within a1 (-100000) 100000).bind (fun t2 =>
      some (!t2))) : Option Bool).bind (fun b2 =>
    ((if b2 = true then
      some true
    else
      (rate_within a3 (-100000) 100000).bind (fun t3 =>
      some (!t3))) : Option Bool).bind (fun b3 =>
    (if b3 = true then
      some ((GRatio.mk 0 0), 7)
    else
      (subI a2 a0).bind (fun t4 =>
      (mulI a1 t4).bind (fun t5 =>
      (subI a3 a1).bind (fun t6 =>
      (subI a4 a0).bind (fun t7 =>
      (mulI t6 t7).bind (fun t8 =>
      (addI t5 t8).bind (fun t9 =>
      (subI a2 a0).bind (fun t10 =>
      (span_Make t9 t10).bind (fun o => match o with
        | (t11, t12) =>
          some (t11, t12))))))))))))
  | .ret r => some r
  | .exit _ _ => none)

def noongunref06_Abs (a0 : Int) : Option (Int) :=
  (if (decide (a0 < 0)) = true then
  some (negW a0)
  else
  some a0)

noncomputable def noongunref06_Ratio (a0 : Int) (a1 : Int) : Option (GRatio × Int) :=
  ((
  (if (decide (a1 < 0)) = true then
    some ((negW a0), (negW a1))
  else
    some (a0, a1))) : Option (Int × Int)).bind (fun o => match o with
  | (s1, s2) =>
    (noongunref06_Abs s1).bind (fun t1 =>
    ((
      loopR (S := Int × Int) (X := Int) (fun (s : Int × Int) => match s with
        | (z3, z4) =>
          (if (decide (0 < z4)) = true then
            (remI z3 z4).bind (fun t2 =>
            some (Step.cont (z4, t2)))
          else
            some (Step.done z3))) (t1, s2)) : Option (Int)).bind (fun s3 =>
    (quoI s1 s3).bind (fun t3 =>
    (quoI s2 s3).bind (fun t4 =>
    (noongunref06_Abs t3).bind (fun t5 =>
    (if ((decide (1000000000 < t5)) || (decide (1000000000 < t4))) = true then
      some ((GRatio.mk 0 0), 4)
    else
      some ((GRatio.mk t3 t4), 0))))))))

noncomputable def noongunref06_Warm (a0 : Int) (a1 : Int) (a2 : Int) (a3 : Int) (a4 : Int) : Option (GRatio × Int) :=
  ((
  rangeL (α := Int) (S := Unit) (X := Ctl (Unit) (GRatio × Int)) (fun _   yk1 _ =>
    (if ((decide (yk1 < (-50000))) || (decide (50000 < yk1))) = true then
      some (Step.done (Ctl.ret ((GRatio.mk 0 0), 7)))
    else
      some (Step.cont ()))) (fun _ => Ctl.next ()) ([a0, a2, a4] : List Int) 0 ()) : Option (Ctl (Unit) (GRatio × Int))).bind (fun o => match o with
  | .next _ =>
    ((
      rangeL (α := Int) (S := Unit) (X := Ctl (Unit) (GRatio × Int)) (fun _   yk2 _ =>
        (if ((decide (yk2 < (-100000))) || (decide (100000 < yk2))) = true then
          some (Step.done (Ctl.ret ((GRatio.mk 0 0), 7)))
        else
          some (Step.cont ()))) (fun _ => Ctl.next ()) ([a1, a3] : List Int) 0 ()) : Option (Ctl (Unit) (GRatio × Int))).bind (fun o => match o with
      | .next _ =>
        (if (a0 == a2) = true then
          some ((GRatio.mk 0 0), 7)
        else
          (subI a2 a0).bind (fun t1 =>
          (mulI a1 t1).bind (fun t2 =>
          (subI a3 a1).bind (fun t3 =>
          (subI a4 a0).bind (fun t4 =>
          (mulI t3 t4).bind (fun t5 =>
          (addI t2 t5).bind (fun t6 =>
          (subI a2 a0).bind (fun t7 =>
          (noongunref06_Ratio t6 t7).bind (fun o => match o with
            | (t8, t9) =>
              some (t8, t9))))))))))
      | .ret r => some r
      | .exit _ _ => none)
  | .ret r => some r
  | .exit _ _ => none)

noncomputable def noongunlaw06_RateWarm (a0 : Int) (a1 : Int) (a2 : Int) (a3 : Int) (a4 : Int) : Option (Bool) :=
  (rate_Warm a0 a1 a2 a3 a4).bind (fun o => match o with
  | (t1, t2) =>
    (noongunref06_Warm a0 a1 a2 a3 a4).bind (fun o => match o with
      | (t3, t4) =>
        (rate_Warm a0 a1 a2 a3 a0).bind (fun o => match o with
          | (t5, t6) =>
            (rate_Warm a0 a1 a2 a3 a2).bind (fun o => match o with
              | (t7, t8) =>
                (if ((!(t1 == t3)) || (t2 != t4)) = true then
                  some false
                else
                  (if ((t6 != 0) || (t8 != 0)) = true then
                    ((if (t2 != 0) = true then
                      (noongunlaw06_awake ).bind (fun t9 =>
                      some t9)
                    else
                      some false) : Option Bool).bind (fun b5 =>
                    some b5)
                  else
                    ((if ((t5 == (GRatio.mk a1 1)) && (t7 == (GRatio.mk a3 1))) = true then
                      (noongunlaw06_awake ).bind (fun t10 =>
                      some t10)
                    else
                      some false) : Option Bool).bind (fun b6 =>
                    some b6)))))))

noncomputable def noongunref06_Ahead (a0 : GBox) (a1 : Int) (a2 : Int) : Option (GSpan × Int) :=
  (noongunref06_ValidBox (GBox.mk a0.Name a0.Errors)).bind (fun t1 =>
  (if (!t1) = true then
  some ((GSpan.mk 0 0), 1)
  else
  (if (((decide (a1 < 1)) || (decide (a2 < 1))) || (decide (400 < a2))) = true then
    some ((GSpan.mk 0 0), 7)
  else
    (noongunref06_rates (GBox.mk a0.Name a0.Errors) 1).bind (fun t2 =>
    (if (decide (((t2.length : Nat) : Int) < a1)) = true then
      some ((GSpan.mk 0 0), 8)
    else
      (subI ((a0.Errors.length : Nat) : Int) 1).bind (fun t3 =>
      (idx a0.Errors t3).bind (fun x1 =>
      (subI ((t2.length : Nat) : Int) a1).bind (fun t4 =>
      (cutI t2 t4 ((t2.length : Nat) : Int)).bind (fun t5 =>
      (noongunref06_Least t5).bind (fun t6 =>
      (mulI a2 t6).bind (fun t7 =>
      (addI x1 t7).bind (fun t8 =>
      (subI ((t2.length : Nat) : Int) a1).bind (fun t9 =>
      (cutI t2 t9 ((t2.length : Nat) : Int)).bind (fun t10 =>
      (noongunref06_Greatest t10).bind (fun t11 =>
      (mulI a2 t11).bind (fun t12 =>
      (addI x1 t12).bind (fun t13 =>
      (if ((decide (t8 < (-1000000000000))) || (decide (1000000000000 < t13))) = true then
        some ((GSpan.mk 0 0), 4)
      else
        some ((GSpan.mk t8 t13), 0)))))))))))))))))))

def rate_Leaps (a0 : GBox) (a1 : Int) : Option ((List Int) × Int) :=
  (rate_Daily (GBox.mk a0.Name a0.Errors)).bind (fun o => match o with
  | (t1, t2) =>
    (if (t2 != 0) = true then
      some (([] : List Int), t2)
    else
      (if (decide (a1 < 0)) = true then
        some (([] : List Int), 7)
      else
        (rate_differences_c1 1 t1).bind (fun xs1 =>
        ((
          rangeL (α := Int) (S := (List Int) × Int) (X := (List Int)) (fun _ x1 s =>
          match s with
            | (z3, z4) =>
              ((
                (addI z4 1).bind (fun t3 =>
                ((
                  (if (decide (a1 < (max x1 (negW x1)))) = true then
                    (appI z3 ([t3] : List Int)).bind (fun t4 =>
                    some t4)
                  else
                    some z3)) : Option ((List Int))).bind (fun s4 =>
                some (s4, t3)))) : Option ((List Int) × Int)).bind (fun o => match o with
                | (s2, s3) =>
                  some (Step.cont (s2, s3)))) (fun s => match s with | (z3, _ ) => z3) xs1 0 (([] : List Int), 0)) : Option ((List Int))).bind (fun s1 =>
        some (s1, 0))))))

noncomputable def noongunref06_Leaps (a0 : GBox) (a1 : Int) : Option ((List Int) × Int) :=
  (noongunref06_ValidBox (GBox.mk a0.Name a0.Errors)).bind (fun t1 =>
  (if (!t1) = true then
  some (([] : List Int), 1)
  else
  (if (decide (a1 < 0)) = true then
    some (([] : List Int), 7)
  else
    (noongunref06_rates (GBox.mk a0.Name a0.Errors) 1).bind (fun t2 =>
    ((
      loopR (S := Int × (List Int)) (X := (List Int)) (fun (s : Int × (List Int)) => match s with
        | (z3, z4) =>
          (if (decide (z3 < ((t2.length : Nat) : Int))) = true then
            ((
              (idx t2 z3).bind (fun x1 =>
              (subI z3 1).bind (fun t3 =>
              (idx t2 t3).bind (fun x2 =>
              (subI x1 x2).bind (fun t4 =>
              (noongunref06_Abs t4).bind (fun t5 =>
              ((
                (if (decide (a1 < t5)) = true then
                  (appI z4 ([z3] : List Int)).bind (fun t6 =>
                  some t6)
                else
                  some z4)) : Option ((List Int))).bind (fun s3 =>
              some s3))))))) : Option ((List Int))).bind (fun s2 =>
            (addI z3 1).bind (fun t7 =>
            some (Step.cont (t7, s2))))
          else
            some (Step.done z4))) (1, ([] : List Int))) : Option ((List Int))).bind (fun s1 =>
    some (s1, 0))))))

noncomputable def noongunlaw06_RateAhead (a0 : GBox) (a1 : Int) (a2 : Int) (a3 : Int) (a4 : Int) : Option (Bool) :=
  (noongunlaw06_fit ([(GBox.mk a0.Name a0.Errors)] : List GBox)).bind (fun t1 =>
  (if (!t1) = true then
  (noongunlaw06_awake ).bind (fun t2 =>
  some t2)
  else
  (rate_Ahead (GBox.mk a0.Name a0.Errors) a1 a2).bind (fun o => match o with
    | (t3, t4) =>
      (noongunref06_Ahead (GBox.mk a0.Name a0.Errors) a1 a2).bind (fun o => match o with
        | (t5, t6) =>
          (rate_Leaps (GBox.mk a0.Name a0.Errors) a4).bind (fun o => match o with
            | (t7, t8) =>
              (noongunref06_Leaps (GBox.mk a0.Name a0.Errors) a4).bind (fun o => match o with
                | (t9, t10) =>
                  ((if ((!(t3 == t5)) || (t4 != t6)) = true then
                    some true
                  else
                    (noongunref06_SameInts t7 t9).bind (fun t11 =>
                    some (!t11))) : Option Bool).bind (fun b4 =>
                  (if (b4 || (t8 != t10)) = true then
                    some false
                  else
                    (if ((t4 != 0) || (decide (a3 < a2))) = true then
                      (noongunlaw06_awake ).bind (fun t12 =>
                      some t12)
                    else
                      (rate_Ahead (GBox.mk a0.Name a0.Errors) a1 a3).bind (fun o => match o with
                        | (t13, t14) =>
                          ((if (t14 != 0) = true then
                            some true
                          else
                            (subI t13.Hi t13.Lo).bind (fun t15 =>
                            (subI t3.Hi t3.Lo).bind (fun t16 =>
                            some (decide (t16 ≤ t15))))) : Option Bool).bind (fun b6 =>
                          ((if b6 = true then
                            (noongunlaw06_awake ).bind (fun t17 =>
                            some t17)
                          else
                            some false) : Option Bool).bind (fun b7 =>
                          some b7))))))))))))

noncomputable def noongunref06_Daily (a0 : GBox) : Option ((List Int) × Int) :=
  (noongunref06_ValidBox (GBox.mk a0.Name a0.Errors)).bind (fun t1 =>
  (if (!t1) = true then
  some (([] : List Int), 1)
  else
  (noongunref06_rates (GBox.mk a0.Name a0.Errors) 1).bind (fun t2 =>
  some (t2, 0))))

noncomputable def noongunref06_Weekly (a0 : GBox) : Option ((List Int) × Int) :=
  (noongunref06_ValidBox (GBox.mk a0.Name a0.Errors)).bind (fun t1 =>
  (if (!t1) = true then
  some (([] : List Int), 1)
  else
  (noongunref06_rates (GBox.mk a0.Name a0.Errors) 7).bind (fun t2 =>
  (if (((t2.length : Nat) : Int) == 0) = true then
    some (([] : List Int), 8)
  else
    some (t2, 0)))))

noncomputable def rate_Mean (a0 : GBox) : Option (GRatio × Int) :=
  (rate_ValidBox (GBox.mk a0.Name a0.Errors)).bind (fun t1 =>
  (if (!t1) = true then
  some ((GRatio.mk 0 0), 1)
  else
  (subI ((a0.Errors.length : Nat) : Int) 1).bind (fun t2 =>
  (idx a0.Errors t2).bind (fun x1 =>
  (idx a0.Errors 0).bind (fun x2 =>
  (subI x1 x2).bind (fun t3 =>
  (span_Make t3 t2).bind (fun o => match o with
    | (t4, t5) =>
      some (t4, t5))))))))

noncomputable def noongunref06_Mean (a0 : GBox) : Option (GRatio × Int) :=
  (noongunref06_ValidBox (GBox.mk a0.Name a0.Errors)).bind (fun t1 =>
  (if (!t1) = true then
  some ((GRatio.mk 0 0), 1)
  else
  (subI ((a0.Errors.length : Nat) : Int) 1).bind (fun t2 =>
  (idx a0.Errors t2).bind (fun x1 =>
  (idx a0.Errors 0).bind (fun x2 =>
  (subI x1 x2).bind (fun t3 =>
  (subI ((a0.Errors.length : Nat) : Int) 1).bind (fun t4 =>
  (noongunref06_Ratio t3 t4).bind (fun o => match o with
    | (t5, t6) =>
      some (t5, t6)))))))))

noncomputable def noongunlaw06_RateDays (a0 : GBox) : Option (Bool) :=
  (noongunlaw06_fit ([(GBox.mk a0.Name a0.Errors)] : List GBox)).bind (fun t1 =>
  (if (!t1) = true then
  (noongunlaw06_awake ).bind (fun t2 =>
  some t2)
  else
  (rate_Daily (GBox.mk a0.Name a0.Errors)).bind (fun o => match o with
    | (t3, t4) =>
      (noongunref06_Daily (GBox.mk a0.Name a0.Errors)).bind (fun o => match o with
        | (t5, t6) =>
          (rate_Weekly (GBox.mk a0.Name a0.Errors)).bind (fun o => match o with
            | (t7, t8) =>
              (noongunref06_Weekly (GBox.mk a0.Name a0.Errors)).bind (fun o => match o with
                | (t9, t10) =>
                  (rate_Mean (GBox.mk a0.Name a0.Errors)).bind (fun o => match o with
                    | (t11, t12) =>
                      (noongunref06_Mean (GBox.mk a0.Name a0.Errors)).bind (fun o => match o with
                        | (t13, t14) =>
                          (rate_ValidBox (GBox.mk a0.Name a0.Errors)).bind (fun t15 =>
                          (noongunref06_ValidBox (GBox.mk a0.Name a0.Errors)).bind (fun t16 =>
                          ((if (t15 != t16) = true then
                            some true
                          else
                            (noongunref06_SameInts t3 t5).bind (fun t17 =>
                            some (!t17))) : Option Bool).bind (fun b4 =>
                          ((if (b4 || (t4 != t6)) = true then
                            some true
                          else
                            (noongunref06_SameInts t7 t9).bind (fun t18 =>
                            some (!t18))) : Option Bool).bind (fun b5 =>
                          (if (((b5 || (t8 != t10)) || (!(t11 == t13))) || (t12 != t14)) = true then
                            some false
                          else
                            (if (t4 != 0) = true then
                              (noongunlaw06_awake ).bind (fun t19 =>
                              some t19)
                            else
                              ((
                                rangeN (S := Int) (X := Ctl (Int) (Bool)) (fun ik1 z2 =>
                                  ((
                                    (idx t3 (ik1 : Int)).bind (fun x1 =>
                                    (addI z2 x1).bind (fun t20 =>
                                    (addI (ik1 : Int) 1).bind (fun t21 =>
                                    (remI t21 7).bind (fun t22 =>
                                    ((
                                      (if (t22 == 0) = true then
                                        (subI (ik1 : Int) 6).bind (fun t23 =>
                                        (addI (ik1 : Int) 1).bind (fun t24 =>
                                        (cutI t3 t23 t24).bind (fun t25 =>
                                        ((
                                          rangeL (α := Int) (S := Int) (X := Int) (fun _   yk2 z5 =>
                                            (addI z5 yk2).bind (fun t26 =>
                                            some (Step.cont t26))) (fun z5 => z5) t25 0 0) : Option (Int)).bind (fun s3 =>
                                        (quoI (ik1 : Int) 7).bind (fun t27 =>
                                        ((if (decide (((t7.length : Nat) : Int) ≤ t27)) = true then
                                          some true
                                        else
                                          (quoI (ik1 : Int) 7).bind (fun t28 =>
                                          (idx t7 t28).bind (fun x2 =>
                                          some (x2 != s3)))) : Option Bool).bind (fun b6 =>
                                        (if b6 = true then
                                          some (Ctl.ret false)
                                        else
                                          some (Ctl.next ()))))))))
                                      else
                                        some (Ctl.next ()))) : Option (Ctl (Unit) (Bool))).bind (fun o => match o with
                                      | .next _ =>
                                        some (Ctl.next t20)
                                      | .ret r => some (Ctl.ret r)
                                      | .exit _ _ => none)))))) : Option (Ctl (Int) (Bool))).bind (fun o => match o with
                                    | .next s2 =>
                                      some (Step.cont s2)
                                    | .ret r => some (Step.done (Ctl.ret r))
                                    | .exit _ _ => none)) (fun z2 => Ctl.next z2) (Int.toNat ((t3.length : Nat) : Int)) 0 0) : Option (Ctl (Int) (Bool))).bind (fun o => match o with
                                | .next s1 =>
                                  (subI ((a0.Errors.length : Nat) : Int) 1).bind (fun t29 =>
                                  (idx a0.Errors t29).bind (fun x3 =>
                                  (idx a0.Errors 0).bind (fun x4 =>
                                  (subI x3 x4).bind (fun t30 =>
                                  ((if ((s1 == t30) && (t12 == 0)) = true then
                                    (mulI t11.N ((t3.length : Nat) : Int)).bind (fun t31 =>
                                    (mulI s1 t11.D).bind (fun t32 =>
                                    some (t31 == t32)))
                                  else
                                    some false) : Option Bool).bind (fun b7 =>
                                  ((if b7 = true then
                                    (noongunlaw06_awake ).bind (fun t33 =>
                                    some t33)
                                  else
                                    some false) : Option Bool).bind (fun b8 =>
                                  some b8))))))
                                | .ret r => some r
                                | .exit _ _ => none)))))))))))))))

def rate_ValidBoxes (a0 : (List GBox)) : Option (Bool) :=
  ((
  rangeL (α := GBox) (S := (List (ByteArray × Bool))) (X := Ctl (Unit) (Bool)) (fun _   yk1 z2 =>
    (rate_ValidBox (GBox.mk yk1.Name yk1.Errors)).bind (fun t1 =>
    (if ((!t1) || ((mget z2 yk1.Name).getD false)) = true then
      some (Step.done (Ctl.ret false))
    else
      some (Step.cont (mput z2 yk1.Name true))))) (fun _  => Ctl.next ()) a0 0 ([] : List (ByteArray × Bool))) : Option (Ctl (Unit) (Bool))).bind (fun o => match o with
  | .next _ =>
    (rate_within ((a0.length : Nat) : Int) 1 16).bind (fun t2 =>
    some t2)
  | .ret r => some r
  | .exit _ _ => none)

def rate_Odd_c1 (a0 : GBox) (c0 : (List GBox)) : Option (Bool) :=
  (idx c0 0).bind (fun x1 =>
  some (((a0.Errors.length : Nat) : Int) != ((x1.Errors.length : Nat) : Int)))

def slices_IndexFunc_Box (a0 : (List GBox)) (a1 : GBox → Option (Bool)) : Option (Int) :=
  ((
  rangeN (S := Unit) (X := Ctl (Unit) (Int)) (fun ik1 _ =>
    (idx a0 (ik1 : Int)).bind (fun x1 =>
    (a1 (GBox.mk x1.Name x1.Errors)).bind (fun t1 =>
    (if t1 = true then
      some (Step.done (Ctl.ret (ik1 : Int)))
    else
      some (Step.cont ()))))) (fun _ => Ctl.next ()) (Int.toNat ((a0.length : Nat) : Int)) 0 ()) : Option (Ctl (Unit) (Int))).bind (fun o => match o with
  | .next _ =>
    some (-1)
  | .ret r => some r
  | .exit _ _ => none)

def slices_ContainsFunc_Box (a0 : (List GBox)) (a1 : GBox → Option (Bool)) : Option (Bool) :=
  (slices_IndexFunc_Box a0 a1).bind (fun t1 =>
  some (decide (0 ≤ t1)))

def rate_play (a0 : GBox) (a1 : GBox) : Option (Int) :=
  ((
  rangeN (S := (List Int)) (X := (List Int)) (fun ik1 z2 =>
    (idx a0.Errors (ik1 : Int)).bind (fun x1 =>
    (idx a1.Errors (ik1 : Int)).bind (fun x2 =>
    (subI x1 x2).bind (fun t1 =>
    (appI z2 ([t1] : List Int)).bind (fun t2 =>
    some (Step.cont t2)))))) (fun z2 => z2) (Int.toNat ((a0.Errors.length : Nat) : Int)) 0 ([] : List Int)) : Option ((List Int))).bind (fun s1 =>
  (slices_Values_int_c1 s1).bind (fun xs1 =>
  (rate_ends_int xs1).bind (fun o => match o with
  | (t3, t4) =>
    (subI t4 t3).bind (fun t5 =>
    some t5))))

def slices_Index_int (a0 : (List Int)) (a1 : Int) : Option (Int) :=
  ((
  rangeN (S := Unit) (X := Ctl (Unit) (Int)) (fun ik1 _ =>
    (idx a0 (ik1 : Int)).bind (fun x1 =>
    (if (a1 == x1) = true then
      some (Step.done (Ctl.ret (ik1 : Int)))
    else
      some (Step.cont ())))) (fun _ => Ctl.next ()) (Int.toNat ((a0.length : Nat) : Int)) 0 ()) : Option (Ctl (Unit) (Int))).bind (fun o => match o with
  | .next _ =>
    some (-1)
  | .ret r => some r
  | .exit _ _ => none)

def slices_Contains_int (a0 : (List Int)) (a1 : Int) : Option (Bool) :=
  (slices_Index_int a0 a1).bind (fun t1 =>
  some (decide (0 ≤ t1)))

def rate_Odd (a0 : (List GBox)) : Option (Int × Int) :=
  (rate_ValidBoxes a0).bind (fun t1 =>
  (if (!t1) = true then
  some (0, 1)
  else
  ((if (((a0.length : Nat) : Int) != 3) = true then
    some true
  else
    (slices_ContainsFunc_Box a0 (fun x0 => rate_Odd_c1 x0 a0)).bind (fun t2 =>
    some t2)) : Option Bool).bind (fun b2 =>
  (if b2 = true then
    some (0, 7)
  else
    (idx a0 1).bind (fun x1 =>
    (idx a0 2).bind (fun x2 =>
    (rate_play (GBox.mk x1.Name x1.Errors) (GBox.mk x2.Name x2.Errors)).bind (fun t3 =>
    (idx a0 0).bind (fun x3 =>
    (idx a0 2).bind (fun x4 =>
    (rate_play (GBox.mk x3.Name x3.Errors) (GBox.mk x4.Name x4.Errors)).bind (fun t4 =>
    (idx a0 0).bind (fun x5 =>
    (idx a0 1).bind (fun x6 =>
    (rate_play (GBox.mk x5.Name x5.Errors) (GBox.mk x6.Name x6.Errors)).bind (fun t5 =>
    (slices_Values_int_c1 ([t3, t4, t5] : List Int)).bind (fun xs1 =>
    (rate_ends_int xs1).bind (fun o => match o with
      | (t6, _ ) =>
        (slices_Index_int ([t3, t4, t5] : List Int) t6).bind (fun t8 =>
        (addI t8 1).bind (fun t9 =>
        (cutI ([t3, t4, t5] : List Int) t9 ((([t3, t4, t5] : List Int).length : Nat) : Int)).bind (fun t10 =>
        (slices_Contains_int t10 t6).bind (fun t11 =>
        (if t11 = true then
          some (0, 8)
        else
          some (t8, 0)))))))))))))))))))))

def noongunref06_several (a0 : (List GBox)) : Option (Bool) :=
  ((
  rangeN (S := Unit) (X := Ctl (Unit) (Bool)) (fun ik1 _ =>
    ((
      (idx a0 (ik1 : Int)).bind (fun x1 =>
      (noongunref06_ValidBox (GBox.mk x1.Name x1.Errors)).bind (fun t1 =>
      (if (!t1) = true then
        some (Ctl.ret false)
      else
        (cutI a0 0 (ik1 : Int)).bind (fun t2 =>
        ((
          rangeL (α := GBox) (S := Unit) (X := Ctl (Unit) (Bool)) (fun _   yk2 _ =>
            (if (decide (x1.Name = yk2.Name)) = true then
              some (Step.done (Ctl.ret false))
            else
              some (Step.cont ()))) (fun _ => Ctl.next ()) t2 0 ()) : Option (Ctl (Unit) (Bool))).bind (fun o => match o with
          | .next _ =>
            some (Ctl.next ())
          | .ret r => some (Ctl.ret r)
          | .exit _ _ => none)))))) : Option (Ctl (Unit) (Bool))).bind (fun o => match o with
      | .next _ =>
        some (Step.cont ())
      | .ret r => some (Step.done (Ctl.ret r))
      | .exit _ _ => none)) (fun _ => Ctl.next ()) (Int.toNat ((a0.length : Nat) : Int)) 0 ()) : Option (Ctl (Unit) (Bool))).bind (fun o => match o with
  | .next _ =>
    some (decide (((a0.length : Nat) : Int) ≤ 16))
  | .ret r => some r
  | .exit _ _ => none)

def noongunref06_ValidBoxes (a0 : (List GBox)) : Option (Bool) :=
  ((if (decide (1 ≤ ((a0.length : Nat) : Int))) = true then
  (noongunref06_several a0).bind (fun t1 =>
  some t1)
  else
  some false) : Option Bool).bind (fun b1 =>
  some b1)

def noongunref06_play (a0 : GBox) (a1 : GBox) : Option (Int) :=
  ((
  rangeN (S := (List Int)) (X := (List Int)) (fun ik1 z2 =>
    (idx a0.Errors (ik1 : Int)).bind (fun x1 =>
    (idx a1.Errors (ik1 : Int)).bind (fun x2 =>
    (subI x1 x2).bind (fun t1 =>
    (appI z2 ([t1] : List Int)).bind (fun t2 =>
    some (Step.cont t2)))))) (fun z2 => z2) (Int.toNat ((a0.Errors.length : Nat) : Int)) 0 ([] : List Int)) : Option ((List Int))).bind (fun s1 =>
  (noongunref06_Greatest s1).bind (fun t3 =>
  (noongunref06_Least s1).bind (fun t4 =>
  (subI t3 t4).bind (fun t5 =>
  some t5))))

def noongunref06_Odd (a0 : (List GBox)) : Option (Int × Int) :=
  (noongunref06_ValidBoxes a0).bind (fun t1 =>
  (if (!t1) = true then
  some (0, 1)
  else
  ((if (((a0.length : Nat) : Int) != 3) = true then
    some true
  else
    (idx a0 0).bind (fun x1 =>
    (idx a0 1).bind (fun x2 =>
    some (((x1.Errors.length : Nat) : Int) != ((x2.Errors.length : Nat) : Int))))) : Option Bool).bind (fun b1 =>
  ((if b1 = true then
    some true
  else
    (idx a0 0).bind (fun x3 =>
    (idx a0 2).bind (fun x4 =>
    some (((x3.Errors.length : Nat) : Int) != ((x4.Errors.length : Nat) : Int))))) : Option Bool).bind (fun b2 =>
  (if b2 = true then
    some (0, 7)
  else
    (idx a0 1).bind (fun x5 =>
    (idx a0 2).bind (fun x6 =>
    (noongunref06_play (GBox.mk x5.Name x5.Errors) (GBox.mk x6.Name x6.Errors)).bind (fun t2 =>
    (idx a0 0).bind (fun x7 =>
    (idx a0 2).bind (fun x8 =>
    (noongunref06_play (GBox.mk x7.Name x7.Errors) (GBox.mk x8.Name x8.Errors)).bind (fun t3 =>
    (idx a0 0).bind (fun x9 =>
    (idx a0 1).bind (fun x10 =>
    (noongunref06_play (GBox.mk x9.Name x9.Errors) (GBox.mk x10.Name x10.Errors)).bind (fun t4 =>
    ((
      rangeN (S := Unit) (X := Ctl (Unit) (Int × Int)) (fun ik1 _ =>
        (idx ([t2, t3, t4] : List Int) (ik1 : Int)).bind (fun x11 =>
        (addI (ik1 : Int) 1).bind (fun t5 =>
        (remI t5 3).bind (fun t6 =>
        (idx ([t2, t3, t4] : List Int) t6).bind (fun x12 =>
        ((if (decide (x11 < x12)) = true then
          (addI (ik1 : Int) 2).bind (fun t7 =>
          (remI t7 3).bind (fun t8 =>
          (idx ([t2, t3, t4] : List Int) t8).bind (fun x13 =>
          some (decide (x11 < x13)))))
        else
          some false) : Option Bool).bind (fun b3 =>
        (if b3 = true then
          some (Step.done (Ctl.ret ((ik1 : Int), 0)))
        else
          some (Step.cont ())))))))) (fun _ => Ctl.next ()) (Int.toNat ((([t2, t3, t4] : List Int).length : Nat) : Int)) 0 ()) : Option (Ctl (Unit) (Int × Int))).bind (fun o => match o with
      | .next _ =>
        some (0, 8)
      | .ret r => some r
      | .exit _ _ => none)))))))))))))))

def noongunref06_Arc (a0 : Int) : Option (Int × Int × Int) :=
  (if ((decide (a0 < (-1000000000000))) || (decide (1000000000000 < a0))) = true then
  some (0, 0, 7)
  else
  (noongunref06_Abs a0).bind (fun t1 =>
  (mulI 15 t1).bind (fun t2 =>
  (quoI t2 1000).bind (fun t3 =>
  (remI t2 1000).bind (fun t4 =>
  some (t3, t4, 0))))))

def rate_Days (a0 : GSpan) (a1 : Int) : Option (Int × Int) :=
  (span_ValidSpan a0).bind (fun t1 =>
  (if (!t1) = true then
  some (0, 1)
  else
  (rate_within a0.Lo (-1000000) 1000000).bind (fun t2 =>
  ((if (!t2) = true then
    some true
  else
    (rate_within a0.Hi (-1000000) 1000000).bind (fun t3 =>
    some (!t3))) : Option Bool).bind (fun b2 =>
  ((if b2 = true then
    some true
  else
    (rate_within a1 0 1000000000).bind (fun t4 =>
    some (!t4))) : Option Bool).bind (fun b3 =>
  (if b3 = true then
    some (0, 7)
  else
    ((
      rangeN (S := Unit) (X := Ctl (Unit) (Int × Int)) (fun ik1 _ =>
        (subI a0.Hi a0.Lo).bind (fun t5 =>
        (mulI (ik1 : Int) t5).bind (fun t6 =>
        (if (decide (a1 < t6)) = true then
          some (Step.done (Ctl.ret ((ik1 : Int), 0)))
        else
          some (Step.cont ()))))) (fun _ => Ctl.next ()) (Int.toNat 401) 0 ()) : Option (Ctl (Unit) (Int × Int))).bind (fun o => match o with
      | .next _ =>
        some (0, 8)
      | .ret r => some r
      | .exit _ _ => none)))))))

def noongunref06_Days (a0 : GSpan) (a1 : Int) : Option (Int × Int) :=
  (if (((decide (a0.Hi < a0.Lo)) || (decide (a0.Lo < (-1000000000000)))) || (decide (1000000000000 < a0.Hi))) = true then
  some (0, 1)
  else
  (if ((((decide (a0.Lo < (-1000000))) || (decide (1000000 < a0.Hi))) || (decide (a1 < 0))) || (decide (1000000000 < a1))) = true then
    some (0, 7)
  else
    ((
      rangeN (S := Unit) (X := Ctl (Unit) (Int × Int)) (fun ik1 _ =>
        (subI a0.Hi a0.Lo).bind (fun t1 =>
        (mulI (ik1 : Int) t1).bind (fun t2 =>
        (if (decide (a1 < t2)) = true then
          some (Step.done (Ctl.ret ((ik1 : Int), 0)))
        else
          some (Step.cont ()))))) (fun _ => Ctl.next ()) (Int.toNat 401) 0 ()) : Option (Ctl (Unit) (Int × Int))).bind (fun o => match o with
      | .next _ =>
        some (0, 8)
      | .ret r => some r
      | .exit _ _ => none)))

def noongunlaw06_RateOdd (a0 : (List GBox)) (a1 : Int) (a2 : GSpan) (a3 : Int) : Option (Bool) :=
  (noongunlaw06_fit a0).bind (fun t1 =>
  (if (!t1) = true then
  (noongunlaw06_awake ).bind (fun t2 =>
  some t2)
  else
  (rate_Odd a0).bind (fun o => match o with
    | (t3, t4) =>
      (noongunref06_Odd a0).bind (fun o => match o with
        | (t5, t6) =>
          (rate_Arc a1).bind (fun o => match o with
            | (t7, t8, t9) =>
              (noongunref06_Arc a1).bind (fun o => match o with
                | (t10, t11, t12) =>
                  (rate_Days a2 a3).bind (fun o => match o with
                    | (t13, t14) =>
                      (noongunref06_Days a2 a3).bind (fun o => match o with
                        | (t15, t16) =>
                          ((if (((((((t3 == t5) && (t4 == t6)) && (t7 == t10)) && (t8 == t11)) && (t9 == t12)) && (t13 == t15)) && (t14 == t16)) = true then
                            (noongunlaw06_awake ).bind (fun t17 =>
                            some t17)
                          else
                            some false) : Option Bool).bind (fun b2 =>
                          some b2)))))))))

def rate_Bought_c1 (a0 : Int) : Option (Bool) :=
  (rate_within a0 0 1000000).bind (fun t1 =>
  some (!t1))

def rate_Bought_c2 (a0 : GTrial) : Option (Bool) :=
  (rate_within a0.Number 0 1000000000000).bind (fun t1 =>
  some (!t1))

def slices_IndexFunc_Trial (a0 : (List GTrial)) (a1 : GTrial → Option (Bool)) : Option (Int) :=
  ((
  rangeN (S := Unit) (X := Ctl (Unit) (Int)) (fun ik1 _ =>
    (idx a0 (ik1 : Int)).bind (fun x1 =>
    (a1 x1).bind (fun t1 =>
    (if t1 = true then
      some (Step.done (Ctl.ret (ik1 : Int)))
    else
      some (Step.cont ()))))) (fun _ => Ctl.next ()) (Int.toNat ((a0.length : Nat) : Int)) 0 ()) : Option (Ctl (Unit) (Int))).bind (fun o => match o with
  | .next _ =>
    some (-1)
  | .ret r => some r
  | .exit _ _ => none)

def slices_ContainsFunc_Trial (a0 : (List GTrial)) (a1 : GTrial → Option (Bool)) : Option (Bool) :=
  (slices_IndexFunc_Trial a0 a1).bind (fun t1 =>
  some (decide (0 ≤ t1)))

def cmp_isNaN_int (a0 : Int) : Option (Bool) :=
  some (a0 != a0)

def cmp_Compare_int (a0 : Int) (a1 : Int) : Option (Int) :=
  (cmp_isNaN_int a0).bind (fun t1 =>
  (cmp_isNaN_int a1).bind (fun t2 =>
  (if t1 = true then
  (if t2 = true then
    some 0
  else
    some (-1))
  else
  (if t2 = true then
    some 1
  else
    (if (decide (a0 < a1)) = true then
      some (-1)
    else
      (if (decide (a1 < a0)) = true then
        some 1
      else
        some 0))))))

def slices_Compare_int (a0 : (List Int)) (a1 : (List Int)) : Option (Int) :=
  ((
  rangeN (S := Unit) (X := Ctl (Unit) (Int)) (fun ik1 _ =>
    (idx a0 (ik1 : Int)).bind (fun x1 =>
    (if (decide (((a1.length : Nat) : Int) ≤ (ik1 : Int))) = true then
      some (Step.done (Ctl.ret 1))
    else
      (idx a1 (ik1 : Int)).bind (fun x2 =>
      (cmp_Compare_int x1 x2).bind (fun t1 =>
      (if (t1 != 0) = true then
        some (Step.done (Ctl.ret t1))
      else
        some (Step.cont ()))))))) (fun _ => Ctl.next ()) (Int.toNat ((a0.length : Nat) : Int)) 0 ()) : Option (Ctl (Unit) (Int))).bind (fun o => match o with
  | .next _ =>
    (if (decide (((a0.length : Nat) : Int) < ((a1.length : Nat) : Int))) = true then
      some (-1)
    else
      some 0)
  | .ret r => some r
  | .exit _ _ => none)

def cmp_Or_int (a0 : (List Int)) : Option (Int) :=
  ((
  rangeL (α := Int) (S := Unit) (X := Ctl (Unit) (Int)) (fun _   yk1 _ =>
    (if (yk1 != 0) = true then
      some (Step.done (Ctl.ret yk1))
    else
      some (Step.cont ()))) (fun _ => Ctl.next ()) a0 0 ()) : Option (Ctl (Unit) (Int))).bind (fun o => match o with
  | .next _ =>
    some 0
  | .ret r => some r
  | .exit _ _ => none)

def rate_purchase_better (a0 : GPurchase) (a1 : GPurchase) : Option (Bool) :=
  (cmp_Compare_int ((a1.list.length : Nat) : Int) ((a0.list.length : Nat) : Int)).bind (fun t1 =>
  (cmp_Compare_int a0.sum a1.sum).bind (fun t2 =>
  (slices_Compare_int a0.list a1.list).bind (fun t3 =>
  (cmp_Or_int ([t1, t2, t3] : List Int)).bind (fun t4 =>
  some (decide (t4 < 0))))))

noncomputable def noongunref06_Trial (a0 : GBox) : Option (GTrial × Int) :=
  (noongunref06_ValidBox (GBox.mk a0.Name a0.Errors)).bind (fun t1 =>
  (if (!t1) = true then
  some ((GTrial.mk ByteArray.empty 0 0 0 0), 1)
  else
  (noongunref06_rates (GBox.mk a0.Name a0.Errors) 7).bind (fun t2 =>
  (if (decide (((t2.length : Nat) : Int) < 2)) = true then
    some ((GTrial.mk ByteArray.empty 0 0 0 0), 8)
  else
    (noongunref06_Least t2).bind (fun t3 =>
    (noongunref06_Greatest t2).bind (fun t4 =>
    ((
      loopR (S := Int × Int) (X := Int) (fun (s : Int × Int) => match s with
        | (z3, z4) =>
          (if (decide (z3 < ((t2.length : Nat) : Int))) = true then
            (idx t2 z3).bind (fun x1 =>
            (subI z3 1).bind (fun t5 =>
            (idx t2 t5).bind (fun x2 =>
            (subI x1 x2).bind (fun t6 =>
            (noongunref06_Abs t6).bind (fun t7 =>
            (addI z3 1).bind (fun t8 =>
            some (Step.cont (t8, (max z4 t7)))))))))
          else
            some (Step.done z4))) (1, 0)) : Option (Int)).bind (fun s1 =>
    (subI t4 t3).bind (fun t9 =>
    (mulI 2 s1).bind (fun t10 =>
    (addI t9 t10).bind (fun t11 =>
    some ((GTrial.mk a0.Name t3 t4 s1 t11), 0)))))))))))

end Go.Fw
