/-
  What the functions compute, as functions of the values: written by a program from the functions. No condition.
-/
import Derived.Test.YtijjocfjgpibjaaDoorFwJ
import Derived.Test.YtijjocfjgpibjaaDoorFwU
import Derived.Test.YtijjocfjgpibjaaDoorFwZ
namespace Go.Fw
structure GEntry where
  Day : Int
  Found : Bool
  Error : Int
  deriving DecidableEq
instance : Flat GEntry := ⟨3, fun a => .agg #[.int .i64 a.Day, .bool a.Found, .int .i64 a.Error], fun a => [.int .i64 a.Day, .bool a.Found, .int .i64 a.Error], fun _ => rfl, fun _ => rfl, by simp [Value.oneCell'], by decide⟩

structure GKey where
  day : Int
  found : Bool
  deriving DecidableEq
instance : Flat GKey := ⟨2, fun a => .agg #[.int .i64 a.day, .bool a.found], fun a => [.int .i64 a.day, .bool a.found], fun _ => rfl, fun _ => rfl, by simp [Value.oneCell'], by decide⟩

def okGEntry (a : GEntry) : Prop := inI a.Day = true ∧ True ∧ inI a.Error = true
def noongunlaw09_fit (a0 : (List GEntry)) : Option (Bool) :=
  some ((decide (((a0.length : Nat) : Int) ≤ 30)) || ((decide (1000 ≤ ((a0.length : Nat) : Int))) && (decide (((a0.length : Nat) : Int) ≤ 1003))))

def ledger_page_off (a0 : (List (GKey × Int))) (a1 : Int) : Option (Int × Bool) :=
  (subI ((mget a0 (GKey.mk a1 true)).getD 0) ((mget a0 (GKey.mk a1 false)).getD 0)).bind (fun t1 =>
  some (t1, ((mget a0 (GKey.mk a1 false)).isSome && (mget a0 (GKey.mk a1 true)).isSome)))

def ledger_Off_c1 (a0 : (List (GKey × Int))) (c0 : Int) : Option (Int × Bool) :=
  (ledger_page_off a0 c0).bind (fun o => match o with
  | (t1, t2) =>
    some (t1, t2))

def slices_IndexFunc_Entry (a0 : (List GEntry)) (a1 : GEntry → Option (Bool)) : Option (Int) :=
  ((
  rangeN (S := Unit) (X := Ctl (Unit) (Int)) (fun ik1 _ =>
    (idx a0 (ik1 : Int)).bind (fun x1 =>
    (a1 x1).bind (fun t1 =>
    (if t1 = true then
      some (Step.done (Ctl.ret (ik1 : Int)))
    else
      some (Step.cont ()))))) (fun _ => Ctl.next ()) (Int.toNat ((a0.length : Nat) : Int)) 0 ()) : Option (Ctl (Unit) (Int))).bind (fun o => match o with
  | .next _ =>
    some (-1)
  | .ret r => some r
  | .exit _ _ => none)

def slices_ContainsFunc_Entry (a0 : (List GEntry)) (a1 : GEntry → Option (Bool)) : Option (Bool) :=
  (slices_IndexFunc_Entry a0 a1).bind (fun t1 =>
  some (decide (0 ≤ t1)))

def ledger_within (a0 : Int) (a1 : Int) (a2 : Int) : Option (Bool) :=
  some ((decide (a1 ≤ a0)) && (decide (a0 ≤ a2)))

def ledger_fine (a0 : GEntry) : Option (Bool) :=
  (ledger_within a0.Day 0 182985).bind (fun t1 =>
  ((if t1 = true then
  (ledger_within a0.Error (-86400000) 86400000).bind (fun t2 =>
  some t2)
  else
  some false) : Option Bool).bind (fun b2 =>
  some b2))

def ledger_Valid_c1 (a0 : GEntry) : Option (Bool) :=
  (ledger_fine a0).bind (fun t1 =>
  some (!t1))

def ledger_Valid (a0 : (List GEntry)) : Option (Bool) :=
  ((if (decide (((a0.length : Nat) : Int) ≤ 1000)) = true then
  (slices_ContainsFunc_Entry a0 (fun x0 => ledger_Valid_c1 x0)).bind (fun t1 =>
  some (!t1))
  else
  some false) : Option Bool).bind (fun b1 =>
  some b1)

def ledger_isDay (a0 : Int) : Option (Bool) :=
  (ledger_within a0 0 182985).bind (fun t1 =>
  some t1)

def ledger_of (a0 : GEntry) : Option (GKey) :=
  some (GKey.mk a0.Day a0.Found)

def ledger_pageOf (a0 : (List GEntry)) : Option ((List (GKey × Int))) :=
  ((
  rangeL (α := GEntry) (S := (List (GKey × Int))) (X := (List (GKey × Int))) (fun ik1 yk1 z2 =>
    (ledger_of yk1).bind (fun t1 =>
    some (Step.cont (mput z2 t1 yk1.Error)))) (fun z2 => z2) a0 0 ([] : List (GKey × Int))) : Option ((List (GKey × Int)))).bind (fun s1 =>
  some s1)

def ledger_told (a0 : (List GEntry)) (a1 : Int) (a2 : (List (GKey × Int)) → Option (Int × Bool)) : Option (Int × Int) :=
  (ledger_Valid a0).bind (fun t1 =>
  (if (!t1) = true then
  some (0, 1)
  else
  (ledger_isDay a1).bind (fun t2 =>
  (if (!t2) = true then
    some (0, 7)
  else
    (ledger_pageOf a0).bind (fun t3 =>
    (a2 t3).bind (fun o => match o with
      | (t4, t5) =>
        (if (!t5) = true then
          some (0, 8)
        else
          some (t4, 0))))))))

def ledger_Off (a0 : (List GEntry)) (a1 : Int) : Option (Int × Int) :=
  (ledger_told a0 a1 (fun x0 => ledger_Off_c1 x0 a1)).bind (fun o => match o with
  | (t1, t2) =>
    some (t1, t2))

def ledger_Corrections (a0 : (List GEntry)) : Option ((List Int) × Int) :=
  (ledger_Valid a0).bind (fun t1 =>
  (if (!t1) = true then
  some (([] : List Int), 1)
  else
  ((
    rangeN (S := (List (GKey × Bool)) × (List Int)) (X := (List Int)) (fun ik1 s =>
    match s with
      | (z3, z4) =>
        ((
          (idx a0 (ik1 : Int)).bind (fun x1 =>
          (ledger_of x1).bind (fun t2 =>
          ((
            (if ((mget z3 t2).getD false) = true then
              (appI z4 ([(ik1 : Int)] : List Int)).bind (fun t3 =>
              some t3)
            else
              some z4)) : Option ((List Int))).bind (fun s4 =>
          (ledger_of x1).bind (fun t4 =>
          some ((mput z3 t4 true), s4)))))) : Option ((List (GKey × Bool)) × (List Int))).bind (fun o => match o with
          | (s2, s3) =>
            some (Step.cont (s2, s3)))) (fun s => match s with | (z3, z4) => z4) (Int.toNat ((a0.length : Nat) : Int)) 0 (([] : List (GKey × Bool)), ([] : List Int))) : Option ((List Int))).bind (fun s1 =>
  some (s1, 0))))

def noongunref09_SameInts (a0 : (List Int)) (a1 : (List Int)) : Option (Bool) :=
  (if (((a0.length : Nat) : Int) != ((a1.length : Nat) : Int)) = true then
  some false
  else
  ((
    rangeN (S := Unit) (X := Ctl (Unit) (Bool)) (fun ik1 _ =>
      (idx a0 (ik1 : Int)).bind (fun x1 =>
      (idx a1 (ik1 : Int)).bind (fun x2 =>
      (if (x1 != x2) = true then
        some (Step.done (Ctl.ret false))
      else
        some (Step.cont ()))))) (fun _ => Ctl.next ()) (Int.toNat ((a0.length : Nat) : Int)) 0 ()) : Option (Ctl (Unit) (Bool))).bind (fun o => match o with
    | .next _ =>
      some true
    | .ret r => some r
    | .exit _ _ => none))

def noongunlaw09_awake  : Option (Bool) :=
  (ledger_Off ([(GEntry.mk 5 false 100), (GEntry.mk 5 true 180), (GEntry.mk 6 false 90), (GEntry.mk 5 true 170)] : List GEntry) 5).bind (fun o => match o with
  | (t1, t2) =>
    (ledger_Corrections ([(GEntry.mk 5 false 100), (GEntry.mk 5 true 180), (GEntry.mk 6 false 90), (GEntry.mk 5 true 170)] : List GEntry)).bind (fun o => match o with
      | (t3, t4) =>
        ((if (((t2 == 0) && (t1 == 70)) && (t4 == 0)) = true then
          (noongunref09_SameInts t3 ([3] : List Int)).bind (fun t5 =>
          some t5)
        else
          some false) : Option Bool).bind (fun b1 =>
        some b1)))

def strings_Cut (a0 a1 : ByteArray) : Option (ByteArray × ByteArray × Bool) := cutSI a0 a1

def strings_Split (a0 a1 : ByteArray) : Option (List ByteArray) := splitI a0 a1

def ledger_word (a0 : Bool) : Option (ByteArray) :=
  (if a0 = true then
  some (bs [102, 111, 117, 110, 100])
  else
  some (bs [115, 97, 105, 100]))

def strconv_Itoa (a0 : Int) : Option ByteArray := if -9223372036854775808 ≤ a0 ∧ a0 ≤ 9223372036854775807 then some ⟨(Lib.itoa a0).toArray⟩ else none

def addL (xs : List UInt8) (s : ByteArray) : Option (List UInt8) := if xs.length + s.size ≤ 1099511627776 then some (xs ++ bytes s) else none
def ledger_lineN (a0 : GEntry) : Option ByteArray :=
  (strconv_Itoa a0.Day).bind (fun t1 =>
  (catI t1 (bs [32])).bind (fun t2 =>
  (ledger_word a0.Found).bind (fun t3 =>
  (catI t2 t3).bind (fun t4 =>
  (catI t4 (bs [32])).bind (fun t5 =>
  (strconv_Itoa a0.Error).bind (fun t6 =>
  (catI t5 t6).bind (fun t7 =>
  (catI t7 (bs [10])).bind (fun t8 => some t8))))))))
def ledger_Format (a0 : (List GEntry)) : Option (ByteArray) :=
  (ledger_Valid a0).bind (fun t1 =>
  (if (!t1) = true then
  some (bs [])
  else
  (rangeL (α := GEntry) (S := List UInt8) (X := List UInt8) (fun _ y z => (ledger_lineN y).bind fun s => (addL z s).bind fun z2 => some (Step.cont z2)) (fun z => z) a0 0 []).bind fun xs =>
  some ⟨xs.toArray⟩))

def strings_HasPrefix (a0 a1 : ByteArray) : Option Bool := some (Lib.hasPrefix (bytes a0) (bytes a1))

noncomputable def ledger_Parse (a0 : ByteArray) : Option ((List GEntry) × Int × Int) :=
  (if (decide (65536 < ((a0.size : Nat) : Int))) = true then
  some (([] : List GEntry), 0, 3)
  else
  ((
    loopR (S := ByteArray × Int × (List GEntry)) (X := Ctl ((List GEntry)) ((List GEntry) × Int × Int)) (fun (s : ByteArray × Int × (List GEntry)) => match s with
      | (z4, z5, z6) =>
        (if (!(decide (z4 = (bs [])))) = true then
          (strings_Cut z4 (bs [10])).bind (fun o => match o with
            | (t1, t2, t3) =>
              (strings_Split t1 (bs [32])).bind (fun t4 =>
              (if ((((t4.length : Nat) : Int) != 3) || (((z6.length : Nat) : Int) == 1000)) = true then
                some (Step.done (Ctl.ret (([] : List GEntry), z5, 2)))
              else
                (idx t4 1).bind (fun x1 =>
                (ledger_word true).bind (fun t5 =>
                (idx t4 0).bind (fun x2 =>
                (atoiI x2).bind (fun t6 =>
                (idx t4 2).bind (fun x3 =>
                (atoiI x3).bind (fun t7 =>
                (ledger_Format ([(GEntry.mk t6 (decide (x1 = t5)) t7)] : List GEntry)).bind (fun t8 =>
                ((if (decide (t8 = (bs []))) = true then
                  some true
                else
                  (strings_HasPrefix z4 t8).bind (fun t9 =>
                  some (!t9))) : Option Bool).bind (fun b2 =>
                (if b2 = true then
                  some (Step.done (Ctl.ret (([] : List GEntry), z5, 2)))
                else
                  (appI z6 ([(GEntry.mk t6 (decide (x1 = t5)) t7)] : List GEntry)).bind (fun t10 =>
                  (addI z5 1).bind (fun t11 =>
                  some (Step.cont (t2, t11, t10))))))))))))))))
        else
          some (Step.done (Ctl.next z6)))) (a0, 0, ([] : List GEntry))) : Option (Ctl ((List GEntry)) ((List GEntry) × Int × Int))).bind (fun o => match o with
    | .next s1 =>
      some (s1, 0, 0)
    | .ret r => some r
    | .exit _ _ => none))

def noongunref09_line (a0 : GEntry) : Option (ByteArray) :=
  ((
  (if a0.Found = true then
    some (bs [102, 111, 117, 110, 100])
  else
    some (bs [115, 97, 105, 100]))) : Option (ByteArray)).bind (fun s1 =>
  (strconv_Itoa a0.Day).bind (fun t1 =>
  (catI t1 (bs [32])).bind (fun t2 =>
  (catI t2 s1).bind (fun t3 =>
  (catI t3 (bs [32])).bind (fun t4 =>
  (strconv_Itoa a0.Error).bind (fun t5 =>
  (catI t4 t5).bind (fun t6 =>
  some t6)))))))

def noongunref09_day (a0 : Int) : Option (Bool) :=
  some ((decide (0 ≤ a0)) && (decide (a0 ≤ 182985)))

def noongunref09_valid (a0 : GEntry) : Option (Bool) :=
  (noongunref09_day a0.Day).bind (fun t1 =>
  some ((t1 && (decide ((-86400000) ≤ a0.Error))) && (decide (a0.Error ≤ 86400000))))

noncomputable def noongunref09_Parse (a0 : ByteArray) : Option ((List GEntry) × Int × Int) :=
  (if (decide (65536 < ((a0.size : Nat) : Int))) = true then
  some (([] : List GEntry), 0, 3)
  else
  ((
    loopR (S := ByteArray × Int × (List GEntry)) (X := Ctl ((List GEntry)) ((List GEntry) × Int × Int)) (fun (s : ByteArray × Int × (List GEntry)) => match s with
      | (z4, z5, z6) =>
        (if (!(decide (z4 = (bs [])))) = true then
          (strings_Cut z4 (bs [10])).bind (fun o => match o with
            | (t1, t2, t3) =>
              (strings_Split t1 (bs [32])).bind (fun t4 =>
              (if (((((t4.length : Nat) : Int) != 3) || (!t3)) || (z5 == 1000)) = true then
                some (Step.done (Ctl.ret (([] : List GEntry), z5, 2)))
              else
                (idx t4 1).bind (fun x1 =>
                (idx t4 0).bind (fun x2 =>
                (atoiI x2).bind (fun t5 =>
                (idx t4 2).bind (fun x3 =>
                (atoiI x3).bind (fun t6 =>
                (noongunref09_line (GEntry.mk t5 (decide (x1 = (bs [102, 111, 117, 110, 100]))) t6)).bind (fun t7 =>
                ((if (!(decide (t7 = t1))) = true then
                  some true
                else
                  (noongunref09_valid (GEntry.mk t5 (decide (x1 = (bs [102, 111, 117, 110, 100]))) t6)).bind (fun t8 =>
                  some (!t8))) : Option Bool).bind (fun b2 =>
                (if b2 = true then
                  some (Step.done (Ctl.ret (([] : List GEntry), z5, 2)))
                else
                  (appI z6 ([(GEntry.mk t5 (decide (x1 = (bs [102, 111, 117, 110, 100]))) t6)] : List GEntry)).bind (fun t9 =>
                  (addI z5 1).bind (fun t10 =>
                  some (Step.cont (t2, t10, t9)))))))))))))))
        else
          some (Step.done (Ctl.next z6)))) (a0, 0, ([] : List GEntry))) : Option (Ctl ((List GEntry)) ((List GEntry) × Int × Int))).bind (fun o => match o with
    | .next s1 =>
      some (s1, 0, 0)
    | .ret r => some r
    | .exit _ _ => none))

def noongunref09_SameEntries (a0 : (List GEntry)) (a1 : (List GEntry)) : Option (Bool) :=
  (if (((a0.length : Nat) : Int) != ((a1.length : Nat) : Int)) = true then
  some false
  else
  ((
    rangeN (S := Unit) (X := Ctl (Unit) (Bool)) (fun ik1 _ =>
      (idx a0 (ik1 : Int)).bind (fun x1 =>
      (idx a1 (ik1 : Int)).bind (fun x2 =>
      (if (!(x1 == x2)) = true then
        some (Step.done (Ctl.ret false))
      else
        some (Step.cont ()))))) (fun _ => Ctl.next ()) (Int.toNat ((a0.length : Nat) : Int)) 0 ()) : Option (Ctl (Unit) (Bool))).bind (fun o => match o with
    | .next _ =>
      some true
    | .ret r => some r
    | .exit _ _ => none))

def noongunref09_Valid (a0 : (List GEntry)) : Option (Bool) :=
  ((
  rangeL (α := GEntry) (S := Unit) (X := Ctl (Unit) (Bool)) (fun ik1 yk1 _ =>
    (noongunref09_valid yk1).bind (fun t1 =>
    (if (!t1) = true then
      some (Step.done (Ctl.ret false))
    else
      some (Step.cont ())))) (fun _ => Ctl.next ()) a0 0 ()) : Option (Ctl (Unit) (Bool))).bind (fun o => match o with
  | .next _ =>
    some (decide (((a0.length : Nat) : Int) ≤ 1000))
  | .ret r => some r
  | .exit _ _ => none)

def noongunref09_lineN (a0 : GEntry) : Option ByteArray :=
  (noongunref09_line a0).bind (fun t1 =>
  (catI t1 (bs [10])).bind (fun t2 => some t2))
def noongunref09_Format (a0 : (List GEntry)) : Option (ByteArray) :=
  (noongunref09_Valid a0).bind (fun t1 =>
  (if (!t1) = true then
  some (bs [])
  else
  (rangeL (α := GEntry) (S := List UInt8) (X := List UInt8) (fun _ y z => (noongunref09_lineN y).bind fun s => (addL z s).bind fun z2 => some (Step.cont z2)) (fun z => z) a0 0 []).bind fun xs =>
  some ⟨xs.toArray⟩))

noncomputable def noongunlaw09_LedgerTexts (a0 : (List GEntry)) (a1 : ByteArray) : Option (Bool) :=
  (noongunlaw09_fit a0).bind (fun t1 =>
  (if ((!t1) || ((decide (3000 < ((a1.size : Nat) : Int))) && (decide (((a1.size : Nat) : Int) ≤ 65536)))) = true then
  (noongunlaw09_awake ).bind (fun t2 =>
  some t2)
  else
  (ledger_Parse a1).bind (fun o => match o with
    | (t3, t4, t5) =>
      (noongunref09_Parse a1).bind (fun o => match o with
        | (t6, t7, t8) =>
          (noongunref09_SameEntries t3 t6).bind (fun t9 =>
          (if (((!t9) || (t4 != t7)) || (t5 != t8)) = true then
            some false
          else
            (ledger_Format a0).bind (fun t10 =>
            (noongunref09_Format a0).bind (fun t11 =>
            (if (!(decide (t10 = t11))) = true then
              some false
            else
              (ledger_Valid a0).bind (fun t12 =>
              (if (!t12) = true then
                (noongunlaw09_awake ).bind (fun t13 =>
                some t13)
              else
                (ledger_Parse t10).bind (fun o => match o with
                  | (t14, t15, t16) =>
                    ((if (t16 == 0) = true then
                      (noongunref09_SameEntries t14 a0).bind (fun t17 =>
                      some t17)
                    else
                      some false) : Option Bool).bind (fun b1 =>
                    ((if b1 = true then
                      (noongunlaw09_awake ).bind (fun t18 =>
                      some t18)
                    else
                      some false) : Option Bool).bind (fun b2 =>
                    some b2))))))))))))))

end Go.Fw
