/-
  What the functions compute, as functions of the values: written by a program from the functions. No condition.
-/
import Derived.Test.YtohbkbimgfkblaaFwJ
import Derived.Test.YtohbkbimgfkblaaFwU
import Derived.Test.YtohbkbimgfkblaaFwV
import Derived.Test.YtohbkbimgfkblaaBuysLib
namespace Go.Fw
structure GBox where
  Name : ByteArray
  Errors : (List Int)
  deriving DecidableEq
instance : Ty GBox where
  size := 2
  rep w cs a := ∃ v1 : Value, cs = [(.string a.Name), v1] ∧ SliceR w v1 a.Errors
  len h := by obtain ⟨v1, rfl, h1⟩ := h; rfl
  one h := by
    obtain ⟨v1, rfl, h1⟩ := h
    obtain ⟨_, _, rfl, _⟩ := h1.shape
    intro c hc
    simp only [List.mem_cons, List.not_mem_nil, or_false] at hc
    rcases hc with rfl | rfl <;> rfl
  monoC h hb := by obtain ⟨v1, rfl, h1⟩ := h; exact ⟨v1, rfl, h1.monoC hb⟩
  pos := by decide
theorem GBox_open {w : World} {p : Addr} {x : GBox} (h : ElemAt w p x) : ∃ v1 : Value, SliceR w v1 x.Errors ∧ ∀ j c, [(.string x.Name), v1][j]? = some c → w.cell? (p.add j) = some c := by
  obtain ⟨_, cs, ⟨v1, rfl, h1⟩, hc⟩ := h
  exact ⟨v1, h1, hc⟩
theorem GBox_rep {w : World} {x : GBox} {v1 : Value} (h1 : SliceR w v1 x.Errors) : Ty.rep w [(.string x.Name), v1] x := ⟨_, rfl, h1⟩

structure GTrial where
  Name : ByteArray
  Least : Int
  Greatest : Int
  Leap : Int
  Number : Int
  deriving DecidableEq
instance : Flat GTrial := ⟨5, fun a => .agg #[.string a.Name, .int .i64 a.Least, .int .i64 a.Greatest, .int .i64 a.Leap, .int .i64 a.Number], fun a => [.string a.Name, .int .i64 a.Least, .int .i64 a.Greatest, .int .i64 a.Leap, .int .i64 a.Number], fun _ => rfl, fun _ => rfl, by simp [Value.oneCell'], by decide⟩

structure GPurchase where
  list : (List Int)
  sum : Int
  deriving DecidableEq
instance : Ty GPurchase where
  size := 2
  rep w cs a := ∃ v0 : Value, cs = [v0, (.int .i64 a.sum)] ∧ SliceR w v0 a.list
  len h := by obtain ⟨v0, rfl, h0⟩ := h; rfl
  one h := by
    obtain ⟨v0, rfl, h0⟩ := h
    obtain ⟨_, _, rfl, _⟩ := h0.shape
    intro c hc
    simp only [List.mem_cons, List.not_mem_nil, or_false] at hc
    rcases hc with rfl | rfl <;> rfl
  monoC h hb := by obtain ⟨v0, rfl, h0⟩ := h; exact ⟨v0, rfl, h0.monoC hb⟩
  pos := by decide
theorem GPurchase_open {w : World} {p : Addr} {x : GPurchase} (h : ElemAt w p x) : ∃ v0 : Value, SliceR w v0 x.list ∧ ∀ j c, [v0, (.int .i64 x.sum)][j]? = some c → w.cell? (p.add j) = some c := by
  obtain ⟨_, cs, ⟨v0, rfl, h0⟩, hc⟩ := h
  exact ⟨v0, h0, hc⟩
theorem GPurchase_rep {w : World} {x : GPurchase} {v0 : Value} (h0 : SliceR w v0 x.list) : Ty.rep w [v0, (.int .i64 x.sum)] x := ⟨_, rfl, h0⟩

def okGTrial (a : GTrial) : Prop := a.Name.size ≤ maxLen ∧ inI a.Least = true ∧ inI a.Greatest = true ∧ inI a.Leap = true ∧ inI a.Number = true
def rate_within (a0 : Int) (a1 : Int) (a2 : Int) : Option (Bool) :=
  some ((decide (a1 ≤ a0)) && (decide (a0 ≤ a2)))

def rate_name (a0 : ByteArray) : Option (Bool) :=
  (bytesI a0).bind (fun t1 =>
  ((
  rangeN (S := Unit) (X := Ctl (Unit) (Bool)) (fun ik1 _ =>
    (idx t1 (ik1 : Int)).bind (fun x1 =>
    ((if (!((decide (97 ≤ (x1.toNat : Int))) && (decide ((x1.toNat : Int) ≤ 122)))) = true then
      ((if ((ik1 : Int) == 0) = true then
        some true
      else
        ((if ((x1.toNat : Int) != 95) = true then
          (cvI .i64 (x1.toNat : Int)).bind (fun t2 =>
          (rate_within t2 48 57).bind (fun t3 =>
          some (!t3)))
        else
          some false) : Option Bool).bind (fun b3 =>
        some b3)) : Option Bool).bind (fun b2 =>
      some b2)
    else
      some false) : Option Bool).bind (fun b1 =>
    (if b1 = true then
      some (Step.done (Ctl.ret false))
    else
      some (Step.cont ()))))) (fun _ => Ctl.next ()) (Int.toNat ((t1.length : Nat) : Int)) 0 ()) : Option (Ctl (Unit) (Bool))).bind (fun o => match o with
  | .next _ =>
    (rate_within ((a0.size : Nat) : Int) 1 16).bind (fun t4 =>
    some t4)
  | .ret r => some r
  | .exit _ _ => none))

def slices_IndexFunc_int (a0 : (List Int)) (a1 : Int → Option (Bool)) : Option (Int) :=
  ((
  rangeN (S := Unit) (X := Ctl (Unit) (Int)) (fun ik1 _ =>
    (idx a0 (ik1 : Int)).bind (fun x1 =>
    (a1 x1).bind (fun t1 =>
    (if t1 = true then
      some (Step.done (Ctl.ret (ik1 : Int)))
    else
      some (Step.cont ()))))) (fun _ => Ctl.next ()) (Int.toNat ((a0.length : Nat) : Int)) 0 ()) : Option (Ctl (Unit) (Int))).bind (fun o => match o with
  | .next _ =>
    some (-1)
  | .ret r => some r
  | .exit _ _ => none)

def slices_ContainsFunc_int (a0 : (List Int)) (a1 : Int → Option (Bool)) : Option (Bool) :=
  (slices_IndexFunc_int a0 a1).bind (fun t1 =>
  some (decide (0 ≤ t1)))

def rate_far (a0 : Int) : Option (Bool) :=
  (rate_within a0 (-86400000) 86400000).bind (fun t1 =>
  some (!t1))

def rate_ValidBox (a0 : GBox) : Option (Bool) :=
  (rate_name a0.Name).bind (fun t1 =>
  ((if t1 = true then
  (rate_within ((a0.Errors.length : Nat) : Int) 2 400).bind (fun t2 =>
  some t2)
  else
  some false) : Option Bool).bind (fun b2 =>
  ((if b2 = true then
  (slices_ContainsFunc_int a0.Errors (fun x0 => rate_far x0)).bind (fun t3 =>
  some (!t3))
  else
  some false) : Option Bool).bind (fun b3 =>
  some b3)))

def diffsFrom (k : Int) (xs : List Int) : Nat → Int → Option (List Int)
    | 0, _ => none
    | n + 1, i => if i < (xs.length : Int) then (idx xs i).bind fun x => (subI i k).bind fun j => (idx xs j).bind fun y => (subI x y).bind fun d => (addI i k).bind fun i' => (diffsFrom k xs n i').bind fun l => some (d :: l) else some []
def rate_differences_c1 (c0 : Int) (c1 : List Int) : Option (List Int) := diffsFrom c0 c1 (c1.length + 1) c0

def slices_AppendSeq_int (a1 : List Int) : Option ((List Int)) :=
  ((
  rangeL (α := Int) (S := (List Int)) (X := (List Int)) (fun _ x1 z2 =>
    (appI z2 ([x1] : List Int)).bind (fun t1 =>
    some (Step.cont t1))) (fun z2 => z2) a1 0 ([] : List Int)) : Option ((List Int))).bind (fun s1 =>
  some s1)

def slices_Collect_int (a0 : List Int) : Option ((List Int)) :=
  (slices_AppendSeq_int a0).bind (fun t1 =>
  some t1)

def rate_Weekly (a0 : GBox) : Option ((List Int) × Int) :=
  (rate_ValidBox (GBox.mk a0.Name a0.Errors)).bind (fun t1 =>
  (if (!t1) = true then
  some (([] : List Int), 1)
  else
  (rate_differences_c1 7 a0.Errors).bind (fun xs1 =>
  (slices_Collect_int xs1).bind (fun t2 =>
  (if (((t2.length : Nat) : Int) == 0) = true then
    some (([] : List Int), 8)
  else
    some (t2, 0))))))

def slices_Values_int_c1 (c0 : List Int) : Option (List Int) := some c0

def rate_ends_int (a0 : List Int) : Option (Int × Int) :=
  ((
  rangeL (α := Int) (S := Int × Int × Bool) (X := Int × Int) (fun _ x1 s =>
  match s with
    | (z4, z5, z6) =>
      ((
        ((
          (if z6 = true then
            some (x1, x1, false)
          else
            some (z4, z5, z6))) : Option (Int × Int × Bool)).bind (fun o => match o with
          | (s6, s7, s8) =>
            some ((min s6 x1), (max s7 x1), s8))) : Option (Int × Int × Bool)).bind (fun o => match o with
        | (s3, s4, s5) =>
          some (Step.cont (s3, s4, s5)))) (fun s => match s with | (z4, z5, z6) => (z4, z5)) a0 0 (0, 0, true)) : Option (Int × Int)).bind (fun o => match o with
  | (s1, s2) =>
    some (s1, s2))

def rate_Trial (a0 : GBox) : Option (GTrial × Int) :=
  (rate_Weekly (GBox.mk a0.Name a0.Errors)).bind (fun o => match o with
  | (t1, t2) =>
    (if (t2 != 0) = true then
      some ((GTrial.mk ByteArray.empty 0 0 0 0), t2)
    else
      (if (decide (((t1.length : Nat) : Int) < 2)) = true then
        some ((GTrial.mk ByteArray.empty 0 0 0 0), 8)
      else
        (slices_Values_int_c1 t1).bind (fun xs1 =>
        (rate_ends_int xs1).bind (fun o => match o with
          | (t3, t4) =>
            (rate_differences_c1 1 t1).bind (fun xs2 =>
            ((
              rangeL (α := Int) (S := Int) (X := Int) (fun _ x1 z2 =>
                some (Step.cont (max (max z2 x1) (negW x1)))) (fun z2 => z2) xs2 0 0) : Option (Int)).bind (fun s1 =>
            (subI t4 t3).bind (fun t5 =>
            (mulI 2 s1).bind (fun t6 =>
            (addI t5 t6).bind (fun t7 =>
            some ((GTrial.mk a0.Name t3 t4 s1 t7), 0)))))))))))

def rate_Arc (a0 : Int) : Option (Int × Int × Int) :=
  (rate_within a0 (-1000000000000) 1000000000000).bind (fun t1 =>
  (if (!t1) = true then
  some (0, 0, 7)
  else
  (mulI 15 (max a0 (negW a0))).bind (fun t2 =>
  (quoI t2 1000).bind (fun t3 =>
  (remI t2 1000).bind (fun t4 =>
  some (t3, t4, 0))))))

def noongunlaw06_awake  : Option (Bool) :=
  (rate_Trial (GBox.mk (bs [97]) ([0, 7, 14, 21, 28, 35, 42, 49, 57, 65, 73, 81, 89, 97, 105] : List Int))).bind (fun o => match o with
  | (t1, t2) =>
    (rate_Arc 4000).bind (fun o => match o with
      | (t3, t4, t5) =>
        some ((((t2 == 0) && (t1 == (GTrial.mk (bs [97]) 49 56 7 21))) && (t5 == 0)) && (t3 == 60))))

def rate_Bought_c1 (a0 : Int) : Option (Bool) :=
  (rate_within a0 0 1000000).bind (fun t1 =>
  some (!t1))

def rate_Bought_c2 (a0 : GTrial) : Option (Bool) :=
  (rate_within a0.Number 0 1000000000000).bind (fun t1 =>
  some (!t1))

def slices_IndexFunc_Trial (a0 : (List GTrial)) (a1 : GTrial → Option (Bool)) : Option (Int) :=
  ((
  rangeN (S := Unit) (X := Ctl (Unit) (Int)) (fun ik1 _ =>
    (idx a0 (ik1 : Int)).bind (fun x1 =>
    (a1 x1).bind (fun t1 =>
    (if t1 = true then
      some (Step.done (Ctl.ret (ik1 : Int)))
    else
      some (Step.cont ()))))) (fun _ => Ctl.next ()) (Int.toNat ((a0.length : Nat) : Int)) 0 ()) : Option (Ctl (Unit) (Int))).bind (fun o => match o with
  | .next _ =>
    some (-1)
  | .ret r => some r
  | .exit _ _ => none)

def slices_ContainsFunc_Trial (a0 : (List GTrial)) (a1 : GTrial → Option (Bool)) : Option (Bool) :=
  (slices_IndexFunc_Trial a0 a1).bind (fun t1 =>
  some (decide (0 ≤ t1)))

def cmp_isNaN_int (a0 : Int) : Option (Bool) :=
  some (a0 != a0)

def cmp_Compare_int (a0 : Int) (a1 : Int) : Option (Int) :=
  (cmp_isNaN_int a0).bind (fun t1 =>
  (cmp_isNaN_int a1).bind (fun t2 =>
  (if t1 = true then
  (if t2 = true then
    some 0
  else
    some (-1))
  else
  (if t2 = true then
    some 1
  else
    (if (decide (a0 < a1)) = true then
      some (-1)
    else
      (if (decide (a1 < a0)) = true then
        some 1
      else
        some 0))))))

def slices_Compare_int (a0 : (List Int)) (a1 : (List Int)) : Option (Int) :=
  ((
  rangeN (S := Unit) (X := Ctl (Unit) (Int)) (fun ik1 _ =>
    (idx a0 (ik1 : Int)).bind (fun x1 =>
    (if (decide (((a1.length : Nat) : Int) ≤ (ik1 : Int))) = true then
      some (Step.done (Ctl.ret 1))
    else
      (idx a1 (ik1 : Int)).bind (fun x2 =>
      (cmp_Compare_int x1 x2).bind (fun t1 =>
      (if (t1 != 0) = true then
        some (Step.done (Ctl.ret t1))
      else
        some (Step.cont ()))))))) (fun _ => Ctl.next ()) (Int.toNat ((a0.length : Nat) : Int)) 0 ()) : Option (Ctl (Unit) (Int))).bind (fun o => match o with
  | .next _ =>
    (if (decide (((a0.length : Nat) : Int) < ((a1.length : Nat) : Int))) = true then
      some (-1)
    else
      some 0)
  | .ret r => some r
  | .exit _ _ => none)

def cmp_Or_int (a0 : (List Int)) : Option (Int) :=
  ((
  rangeL (α := Int) (S := Unit) (X := Ctl (Unit) (Int)) (fun ik1 yk1 _ =>
    (if (yk1 != 0) = true then
      some (Step.done (Ctl.ret yk1))
    else
      some (Step.cont ()))) (fun _ => Ctl.next ()) a0 0 ()) : Option (Ctl (Unit) (Int))).bind (fun o => match o with
  | .next _ =>
    some 0
  | .ret r => some r
  | .exit _ _ => none)

def rate_purchase_better (a0 : GPurchase) (a1 : GPurchase) : Option (Bool) :=
  (cmp_Compare_int ((a1.list.length : Nat) : Int) ((a0.list.length : Nat) : Int)).bind (fun t1 =>
  (cmp_Compare_int a0.sum a1.sum).bind (fun t2 =>
  (slices_Compare_int a0.list a1.list).bind (fun t3 =>
  (cmp_Or_int ([t1, t2, t3] : List Int)).bind (fun t4 =>
  some (decide (t4 < 0))))))

def itemsF (a0 : List GTrial) (a1 : List Int) : List It := (a0.zip a1).zipIdx.map fun t => (t.2, t.1.2, t.1.1.Number)
def fitsF (a0 : List GTrial) (a1 : List Int) (a2 : Int) : Bool :=
  decide (1 ≤ a0.length) && decide (a0.length ≤ 16) && decide (a1.length = a0.length) && a1.all (fun p => decide (0 ≤ p) && decide (p ≤ 1000000)) && a0.all (fun t => decide (0 ≤ t.Number) && decide (t.Number ≤ 1000000000000)) && decide (0 ≤ a2) && decide (a2 ≤ 1000000000)
def rate_Bought_head (a0 : (List GTrial)) (a1 : (List Int)) (a2 : Int) : Option ((List Int) × Int) :=
  (rate_within ((a0.length : Nat) : Int) 1 16).bind (fun t1 =>
  ((if ((!t1) || (((a1.length : Nat) : Int) != ((a0.length : Nat) : Int))) = true then
  some true
  else
  (slices_ContainsFunc_int a1 (fun x0 => rate_Bought_c1 x0)).bind (fun t2 =>
  some t2)) : Option Bool).bind (fun b3 =>
  ((if b3 = true then
  some true
  else
  (slices_ContainsFunc_Trial a0 (fun x0 => rate_Bought_c2 x0)).bind (fun t3 =>
  some t3)) : Option Bool).bind (fun b4 =>
  ((if b4 = true then
  some true
  else
  (rate_within a2 0 1000000000).bind (fun t4 =>
  some (!t4))) : Option Bool).bind (fun b5 =>
  (if b5 = true then
  some (([] : List Int), 7)
  else
  some (([] : List Int), 0))))))
def rate_Bought (a0 : List GTrial) (a1 : List Int) (a2 : Int) : Option (List Int × Int) :=
  if fitsF a0 a1 a2 = true then some (((buyE (itemsF a0 a1) a2 ⟨[], 0⟩).foldl updF ⟨[], 0⟩).list, 0) else some ([], 7)

def noongunref06_before (a0 : (List Int)) (a1 : (List Int)) : Option (Bool) :=
  ((
  rangeN (S := Unit) (X := Ctl (Unit) (Bool)) (fun ik1 _ =>
    (if (decide (((a1.length : Nat) : Int) ≤ (ik1 : Int))) = true then
      some (Step.done (Ctl.ret false))
    else
      (idx a0 (ik1 : Int)).bind (fun x1 =>
      (idx a1 (ik1 : Int)).bind (fun x2 =>
      (if (x1 != x2) = true then
        (idx a0 (ik1 : Int)).bind (fun x3 =>
        (idx a1 (ik1 : Int)).bind (fun x4 =>
        some (Step.done (Ctl.ret (decide (x3 < x4))))))
      else
        some (Step.cont ())))))) (fun _ => Ctl.next ()) (Int.toNat ((a0.length : Nat) : Int)) 0 ()) : Option (Ctl (Unit) (Bool))).bind (fun o => match o with
  | .next _ =>
    some (decide (((a0.length : Nat) : Int) < ((a1.length : Nat) : Int)))
  | .ret r => some r
  | .exit _ _ => none)

def noongunref06_Bought (a0 : (List GTrial)) (a1 : (List Int)) (a2 : Int) : Option ((List Int) × Int) :=
  (if (((((decide (((a0.length : Nat) : Int) < 1)) || (decide (16 < ((a0.length : Nat) : Int)))) || (((a1.length : Nat) : Int) != ((a0.length : Nat) : Int))) || (decide (a2 < 0))) || (decide (1000000000 < a2))) = true then
  some (([] : List Int), 7)
  else
  ((
    rangeN (S := Unit) (X := Ctl (Unit) ((List Int) × Int)) (fun ik1 _ =>
      (idx a0 (ik1 : Int)).bind (fun x1 =>
      (idx a1 (ik1 : Int)).bind (fun x2 =>
      ((if (decide (x2 < 0)) = true then
        some true
      else
        (idx a1 (ik1 : Int)).bind (fun x3 =>
        some (decide (1000000 < x3)))) : Option Bool).bind (fun b2 =>
      (if ((b2 || (decide (x1.Number < 0))) || (decide (1000000000000 < x1.Number))) = true then
        some (Step.done (Ctl.ret (([] : List Int), 7)))
      else
        some (Step.cont ())))))) (fun _ => Ctl.next ()) (Int.toNat ((a0.length : Nat) : Int)) 0 ()) : Option (Ctl (Unit) ((List Int) × Int))).bind (fun o => match o with
    | .next _ =>
      (shlI 1 ((a0.length : Nat) : Int)).bind (fun t1 =>
      ((
        chkI t1 (rangeN (S := Int × (List Int)) (X := (List Int)) (fun ik2 s =>
        match s with
          | (z3, z4) =>
            ((
              ((
                rangeN (S := Int × Int × (List Int)) (X := Int × Int × (List Int)) (fun ik3 s =>
                match s with
                  | (z10, z11, z12) =>
                    ((
                      (idx a0 (ik3 : Int)).bind (fun x4 =>
                      (shrI (ik2 : Int) (ik3 : Int)).bind (fun t2 =>
                      ((
                        (if ((bits .and .i64 t2 1) == 1) = true then
                          (appI z12 ([(ik3 : Int)] : List Int)).bind (fun t3 =>
                          (idx a1 (ik3 : Int)).bind (fun x5 =>
                          (addI z10 x5).bind (fun t4 =>
                          (addI z11 x4.Number).bind (fun t5 =>
                          some (t4, t5, t3)))))
                        else
                          some (z10, z11, z12))) : Option (Int × Int × (List Int))).bind (fun o => match o with
                        | (s10, s11, s12) =>
                          some (s10, s11, s12))))) : Option (Int × Int × (List Int))).bind (fun o => match o with
                      | (s7, s8, s9) =>
                        some (Step.cont (s7, s8, s9)))) (fun s => match s with | (z10, z11, z12) => (z10, z11, z12)) (Int.toNat ((a0.length : Nat) : Int)) 0 (0, 0, ([] : List Int))) : Option (Int × Int × (List Int))).bind (fun o => match o with
                | (s4, s5, s6) =>
                  ((if (decide (((z4.length : Nat) : Int) < ((s6.length : Nat) : Int))) = true then
                    some true
                  else
                    ((if (((s6.length : Nat) : Int) == ((z4.length : Nat) : Int)) = true then
                      ((if (decide (s5 < z3)) = true then
                        some true
                      else
                        ((if (s5 == z3) = true then
                          (noongunref06_before s6 z4).bind (fun t6 =>
                          some t6)
                        else
                          some false) : Option Bool).bind (fun b7 =>
                        some b7)) : Option Bool).bind (fun b6 =>
                      some b6)
                    else
                      some false) : Option Bool).bind (fun b5 =>
                    some b5)) : Option Bool).bind (fun b4 =>
                  ((
                    (if ((decide (s4 ≤ a2)) && b4) = true then
                      some (s5, s6)
                    else
                      some (z3, z4))) : Option (Int × (List Int))).bind (fun o => match o with
                    | (s13, s14) =>
                      some (s13, s14))))) : Option (Int × (List Int))).bind (fun o => match o with
              | (s2, s3) =>
                some (Step.cont (s2, s3)))) (fun s => match s with | (z3, z4) => z4) (Int.toNat t1) 0 (0, ([] : List Int)))) : Option ((List Int))).bind (fun s1 =>
      some (s1, 0)))
    | .ret r => some r
    | .exit _ _ => none))

def noongunref06_SameInts (a0 : (List Int)) (a1 : (List Int)) : Option (Bool) :=
  (if (((a0.length : Nat) : Int) != ((a1.length : Nat) : Int)) = true then
  some false
  else
  ((
    rangeN (S := Unit) (X := Ctl (Unit) (Bool)) (fun ik1 _ =>
      (idx a0 (ik1 : Int)).bind (fun x1 =>
      (idx a1 (ik1 : Int)).bind (fun x2 =>
      (if (x1 != x2) = true then
        some (Step.done (Ctl.ret false))
      else
        some (Step.cont ()))))) (fun _ => Ctl.next ()) (Int.toNat ((a0.length : Nat) : Int)) 0 ()) : Option (Ctl (Unit) (Bool))).bind (fun o => match o with
    | .next _ =>
      some true
    | .ret r => some r
    | .exit _ _ => none))

def noongunlaw06_RateBuys (a0 : (List GTrial)) (a1 : (List Int)) (a2 : Int) (a3 : (List Int)) : Option (Bool) :=
  (if (((((decide (10 < ((a0.length : Nat) : Int))) && (decide (((a0.length : Nat) : Int) ≤ 16))) || (decide (20 < ((a0.length : Nat) : Int)))) || (decide (20 < ((a1.length : Nat) : Int)))) || (decide (20 < ((a3.length : Nat) : Int)))) = true then
  (noongunlaw06_awake ).bind (fun t1 =>
  some t1)
  else
  (rate_Bought a0 a1 a2).bind (fun o => match o with
    | (t2, t3) =>
      (noongunref06_Bought a0 a1 a2).bind (fun o => match o with
        | (t4, t5) =>
          (noongunref06_SameInts t2 t4).bind (fun t6 =>
          (if ((!t6) || (t3 != t5)) = true then
            some false
          else
            (if (t3 != 0) = true then
              (noongunlaw06_awake ).bind (fun t7 =>
              some t7)
            else
              ((
                rangeL (α := Int) (S := Int) (X := Int) (fun ik1 yk1 z2 =>
                  (idx a0 yk1).bind (fun x1 =>
                  (addI z2 x1.Number).bind (fun t8 =>
                  some (Step.cont t8)))) (fun z2 => z2) t2 0 0) : Option (Int)).bind (fun s1 =>
              ((
                rangeN (S := Int × Int) (X := Ctl (Int × Int) (Bool)) (fun ik2 s =>
                match s with
                  | (z6, z7) =>
                    (idx a3 (ik2 : Int)).bind (fun x2 =>
                    ((if ((decide (x2 < 0)) || (decide (((a0.length : Nat) : Int) ≤ x2))) = true then
                      some true
                    else
                      ((if (decide (0 < (ik2 : Int))) = true then
                        (subI (ik2 : Int) 1).bind (fun t9 =>
                        (idx a3 t9).bind (fun x3 =>
                        some (decide (x2 ≤ x3))))
                      else
                        some false) : Option Bool).bind (fun b2 =>
                      some b2)) : Option Bool).bind (fun b1 =>
                    (if b1 = true then
                      (noongunlaw06_awake ).bind (fun t10 =>
                      some (Step.done (Ctl.ret t10)))
                    else
                      (idx a1 x2).bind (fun x4 =>
                      (addI z6 x4).bind (fun t11 =>
                      (idx a0 x2).bind (fun x5 =>
                      (addI z7 x5.Number).bind (fun t12 =>
                      some (Step.cont (t11, t12)))))))))) (fun s => match s with | (z6, z7) => Ctl.next (z6, z7)) (Int.toNat ((a3.length : Nat) : Int)) 0 (0, 0)) : Option (Ctl (Int × Int) (Bool))).bind (fun o => match o with
                | .next (s2, s3) =>
                  ((if (((decide (a2 < s2)) || (decide (((a3.length : Nat) : Int) < ((t2.length : Nat) : Int)))) || ((((a3.length : Nat) : Int) == ((t2.length : Nat) : Int)) && (decide (s1 ≤ s3)))) = true then
                    (noongunlaw06_awake ).bind (fun t13 =>
                    some t13)
                  else
                    some false) : Option Bool).bind (fun b3 =>
                  some b3)
                | .ret r => some r
                | .exit _ _ => none))))))))

end Go.Fw
