/-
  What the functions compute, as functions of the values: written by a program from the functions. No condition.
-/
import Derived.Test.YtohbkbimgfkblaaFwJ
import Derived.Test.YtohbkbimgfkblaaFwU
import Derived.Test.YtohbkbimgfkblaaFwW
namespace Go.Fw
structure GBox where
  Name : ByteArray
  Errors : (List Int)
  deriving DecidableEq
instance : Ty GBox where
  size := 2
  rep w cs a := ∃ v1 : Value, cs = [(.string a.Name), v1] ∧ SliceR w v1 a.Errors
  len h := by obtain ⟨v1, rfl, h1⟩ := h; rfl
  one h := by
    obtain ⟨v1, rfl, h1⟩ := h
    obtain ⟨_, _, rfl, _⟩ := h1.shape
    intro c hc
    simp only [List.mem_cons, List.not_mem_nil, or_false] at hc
    rcases hc with rfl | rfl <;> rfl
  monoC h hb := by obtain ⟨v1, rfl, h1⟩ := h; exact ⟨v1, rfl, h1.monoC hb⟩
  pos := by decide
theorem GBox_open {w : World} {p : Addr} {x : GBox} (h : ElemAt w p x) : ∃ v1 : Value, SliceR w v1 x.Errors ∧ ∀ j c, [(.string x.Name), v1][j]? = some c → w.cell? (p.add j) = some c := by
  obtain ⟨_, cs, ⟨v1, rfl, h1⟩, hc⟩ := h
  exact ⟨v1, h1, hc⟩
theorem GBox_rep {w : World} {x : GBox} {v1 : Value} (h1 : SliceR w v1 x.Errors) : Ty.rep w [(.string x.Name), v1] x := ⟨_, rfl, h1⟩

structure GTrial where
  Name : ByteArray
  Least : Int
  Greatest : Int
  Leap : Int
  Number : Int
  deriving DecidableEq
instance : Flat GTrial := ⟨5, fun a => .agg #[.string a.Name, .int .i64 a.Least, .int .i64 a.Greatest, .int .i64 a.Leap, .int .i64 a.Number], fun a => [.string a.Name, .int .i64 a.Least, .int .i64 a.Greatest, .int .i64 a.Leap, .int .i64 a.Number], fun _ => rfl, fun _ => rfl, by simp [Value.oneCell'], by decide⟩

def okGBox (a : GBox) : Prop := a.Name.size ≤ maxLen ∧ (a.Errors.length ≤ maxLen ∧ ∀ x ∈ a.Errors, (fun a => inI a = true) x)
def noongunlaw06_fit (a0 : (List GBox)) : Option (Bool) :=
  ((
  rangeL (α := GBox) (S := Unit) (X := Ctl (Unit) (Bool)) (fun ik1 yk1 _ =>
    (if (((decide (100 < ((yk1.Name.size : Nat) : Int))) || ((decide (60 < ((yk1.Errors.length : Nat) : Int))) && (decide (((yk1.Errors.length : Nat) : Int) < 399)))) || (decide (410 < ((yk1.Errors.length : Nat) : Int)))) = true then
      some (Step.done (Ctl.ret false))
    else
      some (Step.cont ()))) (fun _ => Ctl.next ()) a0 0 ()) : Option (Ctl (Unit) (Bool))).bind (fun o => match o with
  | .next _ =>
    some (decide (((a0.length : Nat) : Int) ≤ 20))
  | .ret r => some r
  | .exit _ _ => none)

def rate_within (a0 : Int) (a1 : Int) (a2 : Int) : Option (Bool) :=
  some ((decide (a1 ≤ a0)) && (decide (a0 ≤ a2)))

def rate_name (a0 : ByteArray) : Option (Bool) :=
  (bytesI a0).bind (fun t1 =>
  ((
  rangeN (S := Unit) (X := Ctl (Unit) (Bool)) (fun ik1 _ =>
    (idx t1 (ik1 : Int)).bind (fun x1 =>
    ((if (!((decide (97 ≤ (x1.toNat : Int))) && (decide ((x1.toNat : Int) ≤ 122)))) = true then
      ((if ((ik1 : Int) == 0) = true then
        some true
      else
        ((if ((x1.toNat : Int) != 95) = true then
          (cvI .i64 (x1.toNat : Int)).bind (fun t2 =>
          (rate_within t2 48 57).bind (fun t3 =>
          some (!t3)))
        else
          some false) : Option Bool).bind (fun b3 =>
        some b3)) : Option Bool).bind (fun b2 =>
      some b2)
    else
      some false) : Option Bool).bind (fun b1 =>
    (if b1 = true then
      some (Step.done (Ctl.ret false))
    else
      some (Step.cont ()))))) (fun _ => Ctl.next ()) (Int.toNat ((t1.length : Nat) : Int)) 0 ()) : Option (Ctl (Unit) (Bool))).bind (fun o => match o with
  | .next _ =>
    (rate_within ((a0.size : Nat) : Int) 1 16).bind (fun t4 =>
    some t4)
  | .ret r => some r
  | .exit _ _ => none))

def slices_IndexFunc_int (a0 : (List Int)) (a1 : Int → Option (Bool)) : Option (Int) :=
  ((
  rangeN (S := Unit) (X := Ctl (Unit) (Int)) (fun ik1 _ =>
    (idx a0 (ik1 : Int)).bind (fun x1 =>
    (a1 x1).bind (fun t1 =>
    (if t1 = true then
      some (Step.done (Ctl.ret (ik1 : Int)))
    else
      some (Step.cont ()))))) (fun _ => Ctl.next ()) (Int.toNat ((a0.length : Nat) : Int)) 0 ()) : Option (Ctl (Unit) (Int))).bind (fun o => match o with
  | .next _ =>
    some (-1)
  | .ret r => some r
  | .exit _ _ => none)

def slices_ContainsFunc_int (a0 : (List Int)) (a1 : Int → Option (Bool)) : Option (Bool) :=
  (slices_IndexFunc_int a0 a1).bind (fun t1 =>
  some (decide (0 ≤ t1)))

def rate_far (a0 : Int) : Option (Bool) :=
  (rate_within a0 (-86400000) 86400000).bind (fun t1 =>
  some (!t1))

def rate_ValidBox (a0 : GBox) : Option (Bool) :=
  (rate_name a0.Name).bind (fun t1 =>
  ((if t1 = true then
  (rate_within ((a0.Errors.length : Nat) : Int) 2 400).bind (fun t2 =>
  some t2)
  else
  some false) : Option Bool).bind (fun b2 =>
  ((if b2 = true then
  (slices_ContainsFunc_int a0.Errors (fun x0 => rate_far x0)).bind (fun t3 =>
  some (!t3))
  else
  some false) : Option Bool).bind (fun b3 =>
  some b3)))

def diffsFrom (k : Int) (xs : List Int) : Nat → Int → Option (List Int)
    | 0, _ => none
    | n + 1, i => if i < (xs.length : Int) then (idx xs i).bind fun x => (subI i k).bind fun j => (idx xs j).bind fun y => (subI x y).bind fun d => (addI i k).bind fun i' => (diffsFrom k xs n i').bind fun l => some (d :: l) else some []
def rate_differences_c1 (c0 : Int) (c1 : List Int) : Option (List Int) := diffsFrom c0 c1 (c1.length + 1) c0

def slices_AppendSeq_int (a1 : List Int) : Option ((List Int)) :=
  ((
  rangeL (α := Int) (S := (List Int)) (X := (List Int)) (fun _ x1 z2 =>
    (appI z2 ([x1] : List Int)).bind (fun t1 =>
    some (Step.cont t1))) (fun z2 => z2) a1 0 ([] : List Int)) : Option ((List Int))).bind (fun s1 =>
  some s1)

def slices_Collect_int (a0 : List Int) : Option ((List Int)) :=
  (slices_AppendSeq_int a0).bind (fun t1 =>
  some t1)

def rate_Weekly (a0 : GBox) : Option ((List Int) × Int) :=
  (rate_ValidBox (GBox.mk a0.Name a0.Errors)).bind (fun t1 =>
  (if (!t1) = true then
  some (([] : List Int), 1)
  else
  (rate_differences_c1 7 a0.Errors).bind (fun xs1 =>
  (slices_Collect_int xs1).bind (fun t2 =>
  (if (((t2.length : Nat) : Int) == 0) = true then
    some (([] : List Int), 8)
  else
    some (t2, 0))))))

def slices_Values_int_c1 (c0 : List Int) : Option (List Int) := some c0

def rate_ends_int (a0 : List Int) : Option (Int × Int) :=
  ((
  rangeL (α := Int) (S := Int × Int × Bool) (X := Int × Int) (fun _ x1 s =>
  match s with
    | (z4, z5, z6) =>
      ((
        ((
          (if z6 = true then
            some (x1, x1, false)
          else
            some (z4, z5, z6))) : Option (Int × Int × Bool)).bind (fun o => match o with
          | (s6, s7, s8) =>
            some ((min s6 x1), (max s7 x1), s8))) : Option (Int × Int × Bool)).bind (fun o => match o with
        | (s3, s4, s5) =>
          some (Step.cont (s3, s4, s5)))) (fun s => match s with | (z4, z5, z6) => (z4, z5)) a0 0 (0, 0, true)) : Option (Int × Int)).bind (fun o => match o with
  | (s1, s2) =>
    some (s1, s2))

def rate_Trial (a0 : GBox) : Option (GTrial × Int) :=
  (rate_Weekly (GBox.mk a0.Name a0.Errors)).bind (fun o => match o with
  | (t1, t2) =>
    (if (t2 != 0) = true then
      some ((GTrial.mk ByteArray.empty 0 0 0 0), t2)
    else
      (if (decide (((t1.length : Nat) : Int) < 2)) = true then
        some ((GTrial.mk ByteArray.empty 0 0 0 0), 8)
      else
        (slices_Values_int_c1 t1).bind (fun xs1 =>
        (rate_ends_int xs1).bind (fun o => match o with
          | (t3, t4) =>
            (rate_differences_c1 1 t1).bind (fun xs2 =>
            ((
              rangeL (α := Int) (S := Int) (X := Int) (fun _ x1 z2 =>
                some (Step.cont (max (max z2 x1) (negW x1)))) (fun z2 => z2) xs2 0 0) : Option (Int)).bind (fun s1 =>
            (subI t4 t3).bind (fun t5 =>
            (mulI 2 s1).bind (fun t6 =>
            (addI t5 t6).bind (fun t7 =>
            some ((GTrial.mk a0.Name t3 t4 s1 t7), 0)))))))))))

def rate_Arc (a0 : Int) : Option (Int × Int × Int) :=
  (rate_within a0 (-1000000000000) 1000000000000).bind (fun t1 =>
  (if (!t1) = true then
  some (0, 0, 7)
  else
  (mulI 15 (max a0 (negW a0))).bind (fun t2 =>
  (quoI t2 1000).bind (fun t3 =>
  (remI t2 1000).bind (fun t4 =>
  some (t3, t4, 0))))))

def noongunlaw06_awake  : Option (Bool) :=
  (rate_Trial (GBox.mk (bs [97]) ([0, 7, 14, 21, 28, 35, 42, 49, 57, 65, 73, 81, 89, 97, 105] : List Int))).bind (fun o => match o with
  | (t1, t2) =>
    (rate_Arc 4000).bind (fun o => match o with
      | (t3, t4, t5) =>
        some ((((t2 == 0) && (t1 == (GTrial.mk (bs [97]) 49 56 7 21))) && (t5 == 0)) && (t3 == 60))))

def rate_ValidBoxes (a0 : (List GBox)) : Option (Bool) :=
  ((
  rangeL (α := GBox) (S := (List (ByteArray × Bool))) (X := Ctl (Unit) (Bool)) (fun ik1 yk1 z2 =>
    (rate_ValidBox (GBox.mk yk1.Name yk1.Errors)).bind (fun t1 =>
    (if ((!t1) || ((mget z2 yk1.Name).getD false)) = true then
      some (Step.done (Ctl.ret false))
    else
      some (Step.cont (mput z2 yk1.Name true))))) (fun z2 => Ctl.next ()) a0 0 ([] : List (ByteArray × Bool))) : Option (Ctl (Unit) (Bool))).bind (fun o => match o with
  | .next _ =>
    (rate_within ((a0.length : Nat) : Int) 1 16).bind (fun t2 =>
    some t2)
  | .ret r => some r
  | .exit _ _ => none)

def noongunref06_Name (a0 : ByteArray) : Option (Bool) :=
  ((
  chkI ((a0.size : Nat) : Int) (rangeN (S := Unit) (X := Ctl (Unit) (Bool)) (fun ik1 _ =>
    (idx (bytes a0) (ik1 : Int)).bind (fun x1 =>
    (if (((decide ((x1.toNat : Int) < 97)) || (decide (122 < (x1.toNat : Int)))) && (((ik1 : Int) == 0) || (((x1.toNat : Int) != 95) && ((decide ((x1.toNat : Int) < 48)) || (decide (57 < (x1.toNat : Int))))))) = true then
      some (Step.done (Ctl.ret false))
    else
      some (Step.cont ())))) (fun _ => Ctl.next ()) (Int.toNat ((a0.size : Nat) : Int)) 0 ())) : Option (Ctl (Unit) (Bool))).bind (fun o => match o with
  | .next _ =>
    some ((decide (1 ≤ ((a0.size : Nat) : Int))) && (decide (((a0.size : Nat) : Int) ≤ 16)))
  | .ret r => some r
  | .exit _ _ => none)

def noongunref06_ValidBox (a0 : GBox) : Option (Bool) :=
  ((
  rangeL (α := Int) (S := Unit) (X := Ctl (Unit) (Bool)) (fun ik1 yk1 _ =>
    (if ((decide (yk1 < (-86400000))) || (decide (86400000 < yk1))) = true then
      some (Step.done (Ctl.ret false))
    else
      some (Step.cont ()))) (fun _ => Ctl.next ()) a0.Errors 0 ()) : Option (Ctl (Unit) (Bool))).bind (fun o => match o with
  | .next _ =>
    (noongunref06_Name a0.Name).bind (fun t1 =>
    some ((t1 && (decide (2 ≤ ((a0.Errors.length : Nat) : Int)))) && (decide (((a0.Errors.length : Nat) : Int) ≤ 400))))
  | .ret r => some r
  | .exit _ _ => none)

def noongunref06_several (a0 : (List GBox)) : Option (Bool) :=
  ((
  rangeN (S := Unit) (X := Ctl (Unit) (Bool)) (fun ik1 _ =>
    ((
      (idx a0 (ik1 : Int)).bind (fun x1 =>
      (noongunref06_ValidBox (GBox.mk x1.Name x1.Errors)).bind (fun t1 =>
      (if (!t1) = true then
        some (Ctl.ret false)
      else
        (cutI a0 0 (ik1 : Int)).bind (fun t2 =>
        ((
          rangeL (α := GBox) (S := Unit) (X := Ctl (Unit) (Bool)) (fun ik2 yk2 _ =>
            (if (decide (x1.Name = yk2.Name)) = true then
              some (Step.done (Ctl.ret false))
            else
              some (Step.cont ()))) (fun _ => Ctl.next ()) t2 0 ()) : Option (Ctl (Unit) (Bool))).bind (fun o => match o with
          | .next _ =>
            some (Ctl.next ())
          | .ret r => some (Ctl.ret r)
          | .exit _ _ => none)))))) : Option (Ctl (Unit) (Bool))).bind (fun o => match o with
      | .next _ =>
        some (Step.cont ())
      | .ret r => some (Step.done (Ctl.ret r))
      | .exit _ _ => none)) (fun _ => Ctl.next ()) (Int.toNat ((a0.length : Nat) : Int)) 0 ()) : Option (Ctl (Unit) (Bool))).bind (fun o => match o with
  | .next _ =>
    some (decide (((a0.length : Nat) : Int) ≤ 16))
  | .ret r => some r
  | .exit _ _ => none)

def noongunref06_ValidBoxes (a0 : (List GBox)) : Option (Bool) :=
  ((if (decide (1 ≤ ((a0.length : Nat) : Int))) = true then
  (noongunref06_several a0).bind (fun t1 =>
  some t1)
  else
  some false) : Option Bool).bind (fun b1 =>
  some b1)

noncomputable def noongunref06_rates (a0 : GBox) (a1 : Int) : Option ((List Int)) :=
  ((
  loopR (S := Int × (List Int)) (X := (List Int)) (fun (s : Int × (List Int)) => match s with
    | (z3, z4) =>
      (if (decide (z3 < ((a0.Errors.length : Nat) : Int))) = true then
        (idx a0.Errors z3).bind (fun x1 =>
        (subI z3 a1).bind (fun t1 =>
        (idx a0.Errors t1).bind (fun x2 =>
        (subI x1 x2).bind (fun t2 =>
        (appI z4 ([t2] : List Int)).bind (fun t3 =>
        (addI z3 a1).bind (fun t4 =>
        some (Step.cont (t4, t3))))))))
      else
        some (Step.done z4))) (a1, ([] : List Int))) : Option ((List Int))).bind (fun s1 =>
  some s1)

def noongunref06_Least (a0 : (List Int)) : Option (Int) :=
  (idx a0 0).bind (fun x1 =>
  ((
  rangeL (α := Int) (S := Int) (X := Int) (fun ik1 yk1 z2 =>
    some (Step.cont (min z2 yk1))) (fun z2 => z2) a0 0 x1) : Option (Int)).bind (fun s1 =>
  some s1))

def noongunref06_Greatest (a0 : (List Int)) : Option (Int) :=
  (idx a0 0).bind (fun x1 =>
  ((
  rangeL (α := Int) (S := Int) (X := Int) (fun ik1 yk1 z2 =>
    some (Step.cont (max z2 yk1))) (fun z2 => z2) a0 0 x1) : Option (Int)).bind (fun s1 =>
  some s1))

def noongunref06_Abs (a0 : Int) : Option (Int) :=
  (if (decide (a0 < 0)) = true then
  some (negW a0)
  else
  some a0)

noncomputable def noongunref06_Trial (a0 : GBox) : Option (GTrial × Int) :=
  (noongunref06_ValidBox (GBox.mk a0.Name a0.Errors)).bind (fun t1 =>
  (if (!t1) = true then
  some ((GTrial.mk ByteArray.empty 0 0 0 0), 1)
  else
  (noongunref06_rates (GBox.mk a0.Name a0.Errors) 7).bind (fun t2 =>
  (if (decide (((t2.length : Nat) : Int) < 2)) = true then
    some ((GTrial.mk ByteArray.empty 0 0 0 0), 8)
  else
    (noongunref06_Least t2).bind (fun t3 =>
    (noongunref06_Greatest t2).bind (fun t4 =>
    ((
      loopR (S := Int × Int) (X := Int) (fun (s : Int × Int) => match s with
        | (z3, z4) =>
          (if (decide (z3 < ((t2.length : Nat) : Int))) = true then
            (idx t2 z3).bind (fun x1 =>
            (subI z3 1).bind (fun t5 =>
            (idx t2 t5).bind (fun x2 =>
            (subI x1 x2).bind (fun t6 =>
            (noongunref06_Abs t6).bind (fun t7 =>
            (addI z3 1).bind (fun t8 =>
            some (Step.cont (t8, (max z4 t7)))))))))
          else
            some (Step.done z4))) (1, 0)) : Option (Int)).bind (fun s1 =>
    (subI t4 t3).bind (fun t9 =>
    (mulI 2 s1).bind (fun t10 =>
    (addI t9 t10).bind (fun t11 =>
    some ((GTrial.mk a0.Name t3 t4 s1 t11), 0)))))))))))

def cmp_isNaN_int (a0 : Int) : Option (Bool) :=
  some (a0 != a0)

def cmp_Compare_int (a0 : Int) (a1 : Int) : Option (Int) :=
  (cmp_isNaN_int a0).bind (fun t1 =>
  (cmp_isNaN_int a1).bind (fun t2 =>
  (if t1 = true then
  (if t2 = true then
    some 0
  else
    some (-1))
  else
  (if t2 = true then
    some 1
  else
    (if (decide (a0 < a1)) = true then
      some (-1)
    else
      (if (decide (a1 < a0)) = true then
        some 1
      else
        some 0))))))

def cmp_isNaN_string (a0 : ByteArray) : Option (Bool) :=
  some (!(decide (a0 = a0)))

def cmp_Compare_string (a0 : ByteArray) (a1 : ByteArray) : Option (Int) :=
  (cmp_isNaN_string a0).bind (fun t1 =>
  (cmp_isNaN_string a1).bind (fun t2 =>
  (if t1 = true then
  (if t2 = true then
    some 0
  else
    some (-1))
  else
  (if t2 = true then
    some 1
  else
    (if (Op.bytesLess a0.toList a1.toList) = true then
      some (-1)
    else
      (if (!(Op.bytesLess a0.toList a1.toList || a0.toList == a1.toList)) = true then
        some 1
      else
        some 0))))))

def cmp_Or_int (a0 : (List Int)) : Option (Int) :=
  ((
  rangeL (α := Int) (S := Unit) (X := Ctl (Unit) (Int)) (fun ik1 yk1 _ =>
    (if (yk1 != 0) = true then
      some (Step.done (Ctl.ret yk1))
    else
      some (Step.cont ()))) (fun _ => Ctl.next ()) a0 0 ()) : Option (Ctl (Unit) (Int))).bind (fun o => match o with
  | .next _ =>
    some 0
  | .ret r => some r
  | .exit _ _ => none)

def rate_Ranked_c1 (a0 : GTrial) (a1 : GTrial) : Option (Int) :=
  (cmp_Compare_int a0.Number a1.Number).bind (fun t1 =>
  (cmp_Compare_string a0.Name a1.Name).bind (fun t2 =>
  (cmp_Or_int ([t1, t2] : List Int)).bind (fun t3 =>
  some t3)))

instance : Inhabited GTrial := ⟨⟨ByteArray.empty, 0, 0, 0, 0⟩⟩
theorem bl_irrefl : ∀ x : List UInt8, Op.bytesLess x x = false
  | [] => rfl
  | a :: x => by rw [Op.bytesLess, bl_irrefl x]; simp
theorem bl_trans : ∀ x y z : List UInt8, Op.bytesLess x y = true → Op.bytesLess y z = true → Op.bytesLess x z = true
  | _, [], _, h, _ => by cases ‹List UInt8› <;> simp [Op.bytesLess] at h
  | _, _ :: _, [], _, h => by simp [Op.bytesLess] at h
  | [], _ :: _, _ :: _, _, _ => rfl
  | a :: x, b :: y, c :: z, h, h2 => by
    rw [Op.bytesLess] at h h2 ⊢
    simp only [Bool.or_eq_true, decide_eq_true_eq, Bool.and_eq_true, beq_iff_eq] at h h2 ⊢
    rcases h with h | ⟨rfl, h⟩
    · rcases h2 with h2 | ⟨rfl, h2⟩
      · exact .inl (UInt8.lt_trans h h2)
      · exact .inl h
    · rcases h2 with h2 | ⟨rfl, h2⟩
      · exact .inl h2
      · exact .inr ⟨rfl, bl_trans x y z h h2⟩
theorem bl_total : ∀ x y : List UInt8, Op.bytesLess x y = false → Op.bytesLess y x = false → x = y
  | [], [], _, _ => rfl
  | [], _ :: _, h, _ => by simp [Op.bytesLess] at h
  | _ :: _, [], _, h => by simp [Op.bytesLess] at h
  | a :: x, b :: y, h, h2 => by
    rw [Op.bytesLess] at h h2
    simp only [Bool.or_eq_false_iff, decide_eq_false_iff_not] at h h2
    have hab : a = b := UInt8.le_antisymm (UInt8.not_lt.1 h2.1) (UInt8.not_lt.1 h.1)
    subst hab
    rw [bl_total x y (by simpa using h.2) (by simpa using h2.2)]
theorem bl_asymm (x y : List UInt8) (h : Op.bytesLess x y = true) : Op.bytesLess y x = false := by
  cases h2 : Op.bytesLess y x with
  | false => rfl
  | true => have := bl_trans x y x h h2; rw [bl_irrefl] at this; cases this
theorem bl_ntrans (x y z : List UInt8) (h : Op.bytesLess x y = false) (h2 : Op.bytesLess y z = false) : Op.bytesLess x z = false := by
  cases h3 : Op.bytesLess x z with
  | false => rfl
  | true =>
    cases h4 : Op.bytesLess y x with
    | true => rw [bl_trans y x z h4 h3] at h2; cases h2
    | false => rw [bl_total x y h h4, h2] at h3; cases h3
def cmpI (a b : Int) : Int := if a < b then -1 else if b < a then 1 else 0
def cmpS (a b : ByteArray) : Int := if Op.bytesLess a.toList b.toList = true then -1 else if (!(Op.bytesLess a.toList b.toList || a.toList == b.toList)) = true then 1 else 0
theorem Compare_int_eq (a b : Int) : cmp_Compare_int a b = some (cmpI a b) := by
  unfold cmp_Compare_int cmp_isNaN_int cmpI
  by_cases h : a < b
  · simp [h]
  · by_cases h2 : b < a <;> simp [h, h2]
theorem Compare_string_eq (a b : ByteArray) : cmp_Compare_string a b = some (cmpS a b) := by
  unfold cmp_Compare_string cmp_isNaN_string cmpS
  simp only [decide_true, Bool.not_true, Option.bind_some, Bool.false_eq_true, if_false]
  cases Op.bytesLess a.toList b.toList with
  | true => simp
  | false => cases (a.toList == b.toList) <;> simp
def trialC (x y : GTrial) : Int := if cmpI x.Number y.Number ≠ 0 then cmpI x.Number y.Number else cmpS x.Name y.Name
theorem Or_two (p q : Int) : cmp_Or_int [p, q] = some (if p ≠ 0 then p else q) := by
  unfold cmp_Or_int
  simp only [rangeL]
  by_cases h : p = 0
  · by_cases h2 : q = 0 <;> simp [h, h2]
  · simp [h]
theorem ranked_c1_some (x y : GTrial) : rate_Ranked_c1 x y = some (trialC x y) := by
  unfold rate_Ranked_c1
  simp only [Compare_int_eq, Compare_string_eq, Or_two, Option.bind_some]
  rfl
theorem trial_lt (x y : GTrial) : Go.Proofs.ltOf trialC x y = (decide (x.Number < y.Number) || (decide (x.Number = y.Number) && Op.bytesLess x.Name.toList y.Name.toList)) := by
  unfold Go.Proofs.ltOf trialC cmpI cmpS
  by_cases h : x.Number < y.Number
  · simp [h]
  · by_cases h2 : y.Number < x.Number
    · have : ¬ x.Number = y.Number := by omega
      simp [h, h2, this]
    · have : x.Number = y.Number := by omega
      simp only [this, Int.lt_irrefl, if_false, decide_false, decide_true, Bool.false_or, Bool.true_and, ne_eq, not_true_eq_false]
      cases Op.bytesLess x.Name.toList y.Name.toList with
      | true => simp
      | false => cases (x.Name.toList == y.Name.toList) <;> simp
theorem trial_swo : Go.Sort.SWO (Go.Proofs.ltOf trialC) where
  irrefl x := by rw [trial_lt, bl_irrefl]; simp
  trans x y z h1 h2 := by
    rw [trial_lt] at *
    simp only [Bool.or_eq_true, decide_eq_true_eq, Bool.and_eq_true] at *
    rcases h1 with h1 | ⟨e1, h1⟩
    · rcases h2 with h2 | ⟨e2, h2⟩
      · left; omega
      · left; omega
    · rcases h2 with h2 | ⟨e2, h2⟩
      · left; omega
      · right; exact ⟨e1.trans e2, bl_trans _ _ _ h1 h2⟩
  ntrans x y z h1 h2 := by
    rw [trial_lt] at *
    simp only [Bool.or_eq_false_iff, decide_eq_false_iff_not, Bool.and_eq_false_iff] at *
    refine ⟨by omega, ?_⟩
    by_cases e : x.Number = z.Number
    · right
      have e1 : x.Number = y.Number := by omega
      have e2 : y.Number = z.Number := by omega
      exact bl_ntrans _ _ _ (h1.2.resolve_left (by simp [e1])) (h2.2.resolve_left (by simp [e2]))
    · left; exact e
noncomputable def sortTrials : List GTrial → List GTrial := srtOf trialC

noncomputable def rate_Ranked (a0 : (List GBox)) : Option ((List GTrial) × Int) :=
  (rate_ValidBoxes a0).bind (fun t1 =>
  (if (!t1) = true then
  some (([] : List GTrial), 1)
  else
  ((
    rangeL (α := GBox) (S := (List GTrial)) (X := Ctl ((List GTrial)) ((List GTrial) × Int)) (fun ik1 yk1 z2 =>
      (rate_Trial (GBox.mk yk1.Name yk1.Errors)).bind (fun o => match o with
        | (t2, t3) =>
          (if (t3 != 0) = true then
            some (Step.done (Ctl.ret (([] : List GTrial), t3)))
          else
            (appI z2 ([t2] : List GTrial)).bind (fun t4 =>
            some (Step.cont t4))))) (fun z2 => Ctl.next z2) a0 0 ([] : List GTrial)) : Option (Ctl ((List GTrial)) ((List GTrial) × Int))).bind (fun o => match o with
    | .next s1 =>
      (srtI sortTrials s1).bind (fun t5 =>
      some (t5, 0))
    | .ret r => some r
    | .exit _ _ => none)))

noncomputable def noongunref06_Ranked (a0 : (List GBox)) : Option ((List GTrial) × Int) :=
  (noongunref06_ValidBoxes a0).bind (fun t1 =>
  (if (!t1) = true then
  some (([] : List GTrial), 1)
  else
  ((
    rangeL (α := GBox) (S := (List GTrial)) (X := Ctl ((List GTrial)) ((List GTrial) × Int)) (fun ik1 yk1 z2 =>
      ((
        (noongunref06_Trial (GBox.mk yk1.Name yk1.Errors)).bind (fun o => match o with
          | (t2, t3) =>
            (if (t3 != 0) = true then
              some (Ctl.ret (([] : List GTrial), t3))
            else
              ((
                loopR (S := Int) (X := Int) (fun (z5 : Int) =>
                  ((if (decide (0 < z5)) = true then
                    (subI z5 1).bind (fun t4 =>
                    (idx z2 t4).bind (fun x1 =>
                    ((if (decide (t2.Number < x1.Number)) = true then
                      some true
                    else
                      (subI z5 1).bind (fun t5 =>
                      (idx z2 t5).bind (fun x2 =>
                      ((if (t2.Number == x2.Number) = true then
                        (subI z5 1).bind (fun t6 =>
                        (idx z2 t6).bind (fun x3 =>
                        some (Op.bytesLess t2.Name.toList x3.Name.toList)))
                      else
                        some false) : Option Bool).bind (fun b5 =>
                      some b5)))) : Option Bool).bind (fun b4 =>
                    some b4)))
                  else
                    some false) : Option Bool).bind (fun b3 =>
                  (if b3 = true then
                    (subI z5 1).bind (fun t7 =>
                    some (Step.cont t7))
                  else
                    some (Step.done z5)))) ((z2.length : Nat) : Int)) : Option (Int)).bind (fun s3 =>
              (cutI z2 0 s3).bind (fun t8 =>
              (appI ([] : List GTrial) t8).bind (fun t9 =>
              (appI t9 ([t2] : List GTrial)).bind (fun t10 =>
              (cutI z2 s3 ((z2.length : Nat) : Int)).bind (fun t11 =>
              (appI t10 t11).bind (fun t12 =>
              some (Ctl.next t12)))))))))) : Option (Ctl ((List GTrial)) ((List GTrial) × Int))).bind (fun o => match o with
        | .next s2 =>
          some (Step.cont s2)
        | .ret r => some (Step.done (Ctl.ret r))
        | .exit _ _ => none)) (fun z2 => Ctl.next z2) a0 0 ([] : List GTrial)) : Option (Ctl ((List GTrial)) ((List GTrial) × Int))).bind (fun o => match o with
    | .next s1 =>
      some (s1, 0)
    | .ret r => some r
    | .exit _ _ => none)))

noncomputable def rate_Passed (a0 : (List GBox)) (a1 : Int) : Option ((List ByteArray) × Int) :=
  (rate_ValidBoxes a0).bind (fun t1 =>
  (if (!t1) = true then
  some (([] : List ByteArray), 1)
  else
  (if (decide (a1 < 0)) = true then
    some (([] : List ByteArray), 7)
  else
    (rate_Ranked a0).bind (fun o => match o with
      | (t2, t3) =>
        ((
          rangeL (α := GTrial) (S := (List ByteArray)) (X := (List ByteArray)) (fun ik1 yk1 z2 =>
            ((
              ((
                (if (decide (yk1.Number ≤ a1)) = true then
                  (appI z2 ([yk1.Name] : List ByteArray)).bind (fun t4 =>
                  some t4)
                else
                  some z2)) : Option ((List ByteArray))).bind (fun s3 =>
              some s3)) : Option ((List ByteArray))).bind (fun s2 =>
            some (Step.cont s2))) (fun z2 => z2) t2 0 ([] : List ByteArray)) : Option ((List ByteArray))).bind (fun s1 =>
        some (s1, t3))))))

noncomputable def noongunref06_Passed (a0 : (List GBox)) (a1 : Int) : Option ((List ByteArray) × Int) :=
  (noongunref06_ValidBoxes a0).bind (fun t1 =>
  (if (!t1) = true then
  some (([] : List ByteArray), 1)
  else
  (if (decide (a1 < 0)) = true then
    some (([] : List ByteArray), 7)
  else
    (noongunref06_Ranked a0).bind (fun o => match o with
      | (t2, t3) =>
        (if (t3 != 0) = true then
          some (([] : List ByteArray), t3)
        else
          ((
            rangeL (α := GTrial) (S := (List ByteArray)) (X := (List ByteArray)) (fun ik1 yk1 z2 =>
              ((
                ((
                  (if (decide (yk1.Number ≤ a1)) = true then
                    (appI z2 ([yk1.Name] : List ByteArray)).bind (fun t4 =>
                    some t4)
                  else
                    some z2)) : Option ((List ByteArray))).bind (fun s3 =>
                some s3)) : Option ((List ByteArray))).bind (fun s2 =>
              some (Step.cont s2))) (fun z2 => z2) t2 0 ([] : List ByteArray)) : Option ((List ByteArray))).bind (fun s1 =>
          some (s1, 0)))))))

def noongunref06_SameTrials (a0 : (List GTrial)) (a1 : (List GTrial)) : Option (Bool) :=
  (if (((a0.length : Nat) : Int) != ((a1.length : Nat) : Int)) = true then
  some false
  else
  ((
    rangeN (S := Unit) (X := Ctl (Unit) (Bool)) (fun ik1 _ =>
      (idx a0 (ik1 : Int)).bind (fun x1 =>
      (idx a1 (ik1 : Int)).bind (fun x2 =>
      (if (!(x1 == x2)) = true then
        some (Step.done (Ctl.ret false))
      else
        some (Step.cont ()))))) (fun _ => Ctl.next ()) (Int.toNat ((a0.length : Nat) : Int)) 0 ()) : Option (Ctl (Unit) (Bool))).bind (fun o => match o with
    | .next _ =>
      some true
    | .ret r => some r
    | .exit _ _ => none))

def noongunref06_SameTexts (a0 : (List ByteArray)) (a1 : (List ByteArray)) : Option (Bool) :=
  (if (((a0.length : Nat) : Int) != ((a1.length : Nat) : Int)) = true then
  some false
  else
  ((
    rangeN (S := Unit) (X := Ctl (Unit) (Bool)) (fun ik1 _ =>
      (idx a0 (ik1 : Int)).bind (fun x1 =>
      (idx a1 (ik1 : Int)).bind (fun x2 =>
      (if (!(decide (x1 = x2))) = true then
        some (Step.done (Ctl.ret false))
      else
        some (Step.cont ()))))) (fun _ => Ctl.next ()) (Int.toNat ((a0.length : Nat) : Int)) 0 ()) : Option (Ctl (Unit) (Bool))).bind (fun o => match o with
    | .next _ =>
      some true
    | .ret r => some r
    | .exit _ _ => none))

noncomputable def noongunlaw06_RateTrials (a0 : (List GBox)) (a1 : Int) : Option (Bool) :=
  (noongunlaw06_fit a0).bind (fun t1 =>
  (if (!t1) = true then
  (noongunlaw06_awake ).bind (fun t2 =>
  some t2)
  else
  (rate_ValidBoxes a0).bind (fun t3 =>
  (noongunref06_ValidBoxes a0).bind (fun t4 =>
  (if (t3 != t4) = true then
    some false
  else
    ((
      rangeL (α := GBox) (S := Unit) (X := Ctl (Unit) (Bool)) (fun ik1 yk1 _ =>
        (rate_Trial (GBox.mk yk1.Name yk1.Errors)).bind (fun o => match o with
          | (t5, t6) =>
            (noongunref06_Trial (GBox.mk yk1.Name yk1.Errors)).bind (fun o => match o with
              | (t7, t8) =>
                (if ((!(t5 == t7)) || (t6 != t8)) = true then
                  some (Step.done (Ctl.ret false))
                else
                  some (Step.cont ()))))) (fun _ => Ctl.next ()) a0 0 ()) : Option (Ctl (Unit) (Bool))).bind (fun o => match o with
      | .next _ =>
        (rate_Ranked a0).bind (fun o => match o with
          | (t9, t10) =>
            (noongunref06_Ranked a0).bind (fun o => match o with
              | (t11, t12) =>
                (rate_Passed a0 a1).bind (fun o => match o with
                  | (t13, t14) =>
                    (noongunref06_Passed a0 a1).bind (fun o => match o with
                      | (t15, t16) =>
                        (noongunref06_SameTrials t9 t11).bind (fun t17 =>
                        ((if (t17 && (t10 == t12)) = true then
                          (noongunref06_SameTexts t13 t15).bind (fun t18 =>
                          some t18)
                        else
                          some false) : Option Bool).bind (fun b4 =>
                        ((if (b4 && (t14 == t16)) = true then
                          (noongunlaw06_awake ).bind (fun t19 =>
                          some t19)
                        else
                          some false) : Option Bool).bind (fun b5 =>
                        some b5)))))))
      | .ret r => some r
      | .exit _ _ => none))))))

end Go.Fw
