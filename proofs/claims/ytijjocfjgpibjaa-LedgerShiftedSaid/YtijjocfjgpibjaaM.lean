/-
  What the functions compute, as functions of the values: written by a program from the functions. No condition.
-/
import Derived.Test.YtijjocfjgpibjaaFwJ
import Derived.Test.YtijjocfjgpibjaaFwM
namespace Go.Fw
structure GEntry where
  Day : Int
  Found : Bool
  Error : Int
  deriving DecidableEq
instance : Flat GEntry := ⟨3, fun a => .agg #[.int .i64 a.Day, .bool a.Found, .int .i64 a.Error], fun a => [.int .i64 a.Day, .bool a.Found, .int .i64 a.Error], fun _ => rfl, fun _ => rfl, by simp [Value.oneCell'], by decide⟩

structure GKey where
  day : Int
  found : Bool
  deriving DecidableEq
instance : Flat GKey := ⟨2, fun a => .agg #[.int .i64 a.day, .bool a.found], fun a => [.int .i64 a.day, .bool a.found], fun _ => rfl, fun _ => rfl, by simp [Value.oneCell'], by decide⟩

def okGEntry (a : GEntry) : Prop := inI a.Day = true ∧ True ∧ inI a.Error = true
def noongunlaw09_fit (a0 : (List GEntry)) : Option (Bool) :=
  some ((decide (((a0.length : Nat) : Int) ≤ 30)) || ((decide (1000 ≤ ((a0.length : Nat) : Int))) && (decide (((a0.length : Nat) : Int) ≤ 1003))))

def ledger_page_off (a0 : (List (GKey × Int))) (a1 : Int) : Option (Int × Bool) :=
  (subI ((mget a0 (GKey.mk a1 true)).getD 0) ((mget a0 (GKey.mk a1 false)).getD 0)).bind (fun t1 =>
  some (t1, ((mget a0 (GKey.mk a1 false)).isSome && (mget a0 (GKey.mk a1 true)).isSome)))

def ledger_Off_c1 (a0 : (List (GKey × Int))) (c0 : Int) : Option (Int × Bool) :=
  (ledger_page_off a0 c0).bind (fun o => match o with
  | (t1, t2) =>
    some (t1, t2))

def slices_IndexFunc_Entry (a0 : (List GEntry)) (a1 : GEntry → Option (Bool)) : Option (Int) :=
  ((
  rangeN (S := Unit) (X := Ctl (Unit) (Int)) (fun ik1 _ =>
    (idx a0 (ik1 : Int)).bind (fun x1 =>
    (a1 x1).bind (fun t1 =>
    (if t1 = true then
      some (Step.done (Ctl.ret (ik1 : Int)))
    else
      some (Step.cont ()))))) (fun _ => Ctl.next ()) (Int.toNat ((a0.length : Nat) : Int)) 0 ()) : Option (Ctl (Unit) (Int))).bind (fun o => match o with
  | .next _ =>
    some (-1)
  | .ret r => some r
  | .exit _ _ => none)

def slices_ContainsFunc_Entry (a0 : (List GEntry)) (a1 : GEntry → Option (Bool)) : Option (Bool) :=
  (slices_IndexFunc_Entry a0 a1).bind (fun t1 =>
  some (decide (0 ≤ t1)))

def ledger_within (a0 : Int) (a1 : Int) (a2 : Int) : Option (Bool) :=
  some ((decide (a1 ≤ a0)) && (decide (a0 ≤ a2)))

def ledger_fine (a0 : GEntry) : Option (Bool) :=
  (ledger_within a0.Day 0 182985).bind (fun t1 =>
  ((if t1 = true then
  (ledger_within a0.Error (-86400000) 86400000).bind (fun t2 =>
  some t2)
  else
  some false) : Option Bool).bind (fun b2 =>
  some b2))

def ledger_Valid_c1 (a0 : GEntry) : Option (Bool) :=
  (ledger_fine a0).bind (fun t1 =>
  some (!t1))

def ledger_Valid (a0 : (List GEntry)) : Option (Bool) :=
  ((if (decide (((a0.length : Nat) : Int) ≤ 1000)) = true then
  (slices_ContainsFunc_Entry a0 (fun x0 => ledger_Valid_c1 x0)).bind (fun t1 =>
  some (!t1))
  else
  some false) : Option Bool).bind (fun b1 =>
  some b1)

def ledger_isDay (a0 : Int) : Option (Bool) :=
  (ledger_within a0 0 182985).bind (fun t1 =>
  some t1)

def ledger_of (a0 : GEntry) : Option (GKey) :=
  some (GKey.mk a0.Day a0.Found)

def ledger_pageOf (a0 : (List GEntry)) : Option ((List (GKey × Int))) :=
  ((
  rangeL (α := GEntry) (S := (List (GKey × Int))) (X := (List (GKey × Int))) (fun _   yk1 z2 =>
    (ledger_of yk1).bind (fun t1 =>
    some (Step.cont (mput z2 t1 yk1.Error)))) (fun z2 => z2) a0 0 ([] : List (GKey × Int))) : Option ((List (GKey × Int)))).bind (fun s1 =>
  some s1)

def ledger_told (a0 : (List GEntry)) (a1 : Int) (a2 : (List (GKey × Int)) → Option (Int × Bool)) : Option (Int × Int) :=
  (ledger_Valid a0).bind (fun t1 =>
  (if (!t1) = true then
  some (0, 1)
  else
  (ledger_isDay a1).bind (fun t2 =>
  (if (!t2) = true then
    some (0, 7)
  else
    (ledger_pageOf a0).bind (fun t3 =>
    (a2 t3).bind (fun o => match o with
      | (t4, t5) =>
        (if (!t5) = true then
          some (0, 8)
        else
          some (t4, 0))))))))

def ledger_Off (a0 : (List GEntry)) (a1 : Int) : Option (Int × Int) :=
  (ledger_told a0 a1 (fun x0 => ledger_Off_c1 x0 a1)).bind (fun o => match o with
  | (t1, t2) =>
    some (t1, t2))

def ledger_Corrections (a0 : (List GEntry)) : Option ((List Int) × Int) :=
  (ledger_Valid a0).bind (fun t1 =>
  (if (!t1) = true then
  some (([] : List Int), 1)
  else
  ((
    rangeN (S := (List (GKey × Bool)) × (List Int)) (X := (List Int)) (fun ik1 s =>
    match s with
      | (z3, z4) =>
        ((
          (idx a0 (ik1 : Int)).bind (fun x1 =>
          (ledger_of x1).bind (fun t2 =>
          ((
            (if ((mget z3 t2).getD false) = true then
              (appI z4 ([(ik1 : Int)] : List Int)).bind (fun t3 =>
              some t3)
            else
              some z4)) : Option ((List Int))).bind (fun s4 =>
          (ledger_of x1).bind (fun t4 =>
          some ((mput z3 t4 true), s4)))))) : Option ((List (GKey × Bool)) × (List Int))).bind (fun o => match o with
          | (s2, s3) =>
            some (Step.cont (s2, s3)))) (fun s => match s with | (_ , z4) => z4) (Int.toNat ((a0.length : Nat) : Int)) 0 (([] : List (GKey × Bool)), ([] : List Int))) : Option ((List Int))).bind (fun s1 =>
  some (s1, 0))))

def noongunref09_SameInts (a0 : (List Int)) (a1 : (List Int)) : Option (Bool) :=
  (if (((a0.length : Nat) : Int) != ((a1.length : Nat) : Int)) = true then
  some false
  else
  ((
    rangeN (S := Unit) (X := Ctl (Unit) (Bool)) (fun ik1 _ =>
      (idx a0 (ik1 : Int)).bind (fun x1 =>
      (idx a1 (ik1 : Int)).bind (fun x2 =>
      (if (x1 != x2) = true then
        some (Step.done (Ctl.ret false))
      else
        some (Step.cont ()))))) (fun _ => Ctl.next ()) (Int.toNat ((a0.length : Nat) : Int)) 0 ()) : Option (Ctl (Unit) (Bool))).bind (fun o => match o with
    | .next _ =>
      some true
    | .ret r => some r
    | .exit _ _ => none))

def noongunlaw09_awake  : Option (Bool) :=
  (ledger_Off ([(GEntry.mk 5 false 100), (GEntry.mk 5 true 180), (GEntry.mk 6 false 90), (GEntry.mk 5 true 170)] : List GEntry) 5).bind (fun o => match o with
  | (t1, t2) =>
    (ledger_Corrections ([(GEntry.mk 5 false 100), (GEntry.mk 5 true 180), (GEntry.mk 6 false 90), (GEntry.mk 5 true 170)] : List GEntry)).bind (fun o => match o with
      | (t3, t4) =>
        ((if (((t2 == 0) && (t1 == 70)) && (t4 == 0)) = true then
          (noongunref09_SameInts t3 ([3] : List Int)).bind (fun t5 =>
          some t5)
        else
          some false) : Option Bool).bind (fun b1 =>
        some b1)))

def ledger_Said_c1 (a0 : (List (GKey × Int))) (c0 : Int) : Option (Int × Bool) :=
  some (((mget a0 (GKey.mk c0 false)).getD 0), (mget a0 (GKey.mk c0 false)).isSome)

def ledger_Said (a0 : (List GEntry)) (a1 : Int) : Option (Int × Int) :=
  (ledger_told a0 a1 (fun x0 => ledger_Said_c1 x0 a1)).bind (fun o => match o with
  | (t1, t2) =>
    some (t1, t2))

def noongunref09_day (a0 : Int) : Option (Bool) :=
  some ((decide (0 ≤ a0)) && (decide (a0 ≤ 182985)))

def noongunref09_valid (a0 : GEntry) : Option (Bool) :=
  (noongunref09_day a0.Day).bind (fun t1 =>
  some ((t1 && (decide ((-86400000) ≤ a0.Error))) && (decide (a0.Error ≤ 86400000))))

def noongunref09_Valid (a0 : (List GEntry)) : Option (Bool) :=
  ((
  rangeL (α := GEntry) (S := Unit) (X := Ctl (Unit) (Bool)) (fun _   yk1 _ =>
    (noongunref09_valid yk1).bind (fun t1 =>
    (if (!t1) = true then
      some (Step.done (Ctl.ret false))
    else
      some (Step.cont ())))) (fun _ => Ctl.next ()) a0 0 ()) : Option (Ctl (Unit) (Bool))).bind (fun o => match o with
  | .next _ =>
    some (decide (((a0.length : Nat) : Int) ≤ 1000))
  | .ret r => some r
  | .exit _ _ => none)

def noongunref09_asked (a0 : (List GEntry)) (a1 : Int) : Option (Int) :=
  (noongunref09_Valid a0).bind (fun t1 =>
  (if (!t1) = true then
  some 1
  else
  (noongunref09_day a1).bind (fun t2 =>
  (if (!t2) = true then
    some 7
  else
    some 0))))

noncomputable def noongunref09_last (a0 : (List GEntry)) (a1 : Int) (a2 : Bool) : Option (Int × Bool) :=
  (subI ((a0.length : Nat) : Int) 1).bind (fun t1 =>
  ((
  loopR (S := Int) (X := Ctl (Unit) (Int × Bool)) (fun (z2 : Int) =>
    (if (decide (0 ≤ z2)) = true then
      (idx a0 z2).bind (fun x1 =>
      ((if (x1.Day == a1) = true then
        (idx a0 z2).bind (fun x2 =>
        some (x2.Found == a2))
      else
        some false) : Option Bool).bind (fun b1 =>
      (if b1 = true then
        (idx a0 z2).bind (fun x3 =>
        some (Step.done (Ctl.ret (x3.Error, true))))
      else
        (subI z2 1).bind (fun t2 =>
        some (Step.cont t2)))))
    else
      some (Step.done (Ctl.next ())))) t1) : Option (Ctl (Unit) (Int × Bool))).bind (fun o => match o with
  | .next _ =>
    some (0, false)
  | .ret r => some r
  | .exit _ _ => none))

noncomputable def noongunref09_Said (a0 : (List GEntry)) (a1 : Int) : Option (Int × Int) :=
  (noongunref09_asked a0 a1).bind (fun t1 =>
  (if (t1 != 0) = true then
  some (0, t1)
  else
  (noongunref09_last a0 a1 false).bind (fun o => match o with
    | (t2, t3) =>
      (if (!t3) = true then
        some (0, 8)
      else
        some (t2, 0)))))

def ledger_Found_c1 (a0 : (List (GKey × Int))) (c0 : Int) : Option (Int × Bool) :=
  some (((mget a0 (GKey.mk c0 true)).getD 0), (mget a0 (GKey.mk c0 true)).isSome)

def ledger_Found (a0 : (List GEntry)) (a1 : Int) : Option (Int × Int) :=
  (ledger_told a0 a1 (fun x0 => ledger_Found_c1 x0 a1)).bind (fun o => match o with
  | (t1, t2) =>
    some (t1, t2))

noncomputable def noongunref09_Found (a0 : (List GEntry)) (a1 : Int) : Option (Int × Int) :=
  (noongunref09_asked a0 a1).bind (fun t1 =>
  (if (t1 != 0) = true then
  some (0, t1)
  else
  (noongunref09_last a0 a1 true).bind (fun o => match o with
    | (t2, t3) =>
      (if (!t3) = true then
        some (0, 8)
      else
        some (t2, 0)))))

noncomputable def noongunref09_off (a0 : (List GEntry)) (a1 : Int) : Option (Int × Bool) :=
  (noongunref09_last a0 a1 false).bind (fun o => match o with
  | (t1, t2) =>
    (noongunref09_last a0 a1 true).bind (fun o => match o with
      | (t3, t4) =>
        (subI t3 t1).bind (fun t5 =>
        some (t5, (t2 && t4)))))

noncomputable def noongunref09_Off (a0 : (List GEntry)) (a1 : Int) : Option (Int × Int) :=
  (noongunref09_asked a0 a1).bind (fun t1 =>
  (if (t1 != 0) = true then
  some (0, t1)
  else
  (noongunref09_off a0 a1).bind (fun o => match o with
    | (t2, t3) =>
      (if (!t3) = true then
        some (0, 8)
      else
        some (t2, 0)))))

noncomputable def noongunlaw09_LedgerSays (a0 : (List GEntry)) (a1 : Int) : Option (Bool) :=
  (noongunlaw09_fit a0).bind (fun t1 =>
  (if (!t1) = true then
  (noongunlaw09_awake ).bind (fun t2 =>
  some t2)
  else
  (ledger_Said a0 a1).bind (fun o => match o with
    | (t3, t4) =>
      (noongunref09_Said a0 a1).bind (fun o => match o with
        | (t5, t6) =>
          (ledger_Found a0 a1).bind (fun o => match o with
            | (t7, t8) =>
              (noongunref09_Found a0 a1).bind (fun o => match o with
                | (t9, t10) =>
                  (ledger_Off a0 a1).bind (fun o => match o with
                    | (t11, t12) =>
                      (noongunref09_Off a0 a1).bind (fun o => match o with
                        | (t13, t14) =>
                          (ledger_Valid a0).bind (fun t15 =>
                          (noongunref09_Valid a0).bind (fun t16 =>
                          ((if (((((((t15 == t16) && (t3 == t5)) && (t4 == t6)) && (t7 == t9)) && (t8 == t10)) && (t11 == t13)) && (t12 == t14)) = true then
                            ((if (t12 != 0) = true then
                              some true
                            else
                              (subI t7 t3).bind (fun t17 =>
                              some (t11 == t17))) : Option Bool).bind (fun b2 =>
                            some b2)
                          else
                            some false) : Option Bool).bind (fun b1 =>
                          ((if b1 = true then
                            (noongunlaw09_awake ).bind (fun t18 =>
                            some t18)
                          else
                            some false) : Option Bool).bind (fun b3 =>
                          some b3))))))))))))

def noongunlaw09_small (a0 : (List GEntry)) : Option (Bool) :=
  some (decide (((a0.length : Nat) : Int) ≤ 30))

def ledger_Rated (a0 : (List GEntry)) (a1 : Int) (a2 : Int) : Option (Int × Int) :=
  (ledger_Valid a0).bind (fun t1 =>
  (if (!t1) = true then
  some (0, 1)
  else
  (ledger_isDay a1).bind (fun t2 =>
  ((if (!t2) = true then
    some true
  else
    (ledger_isDay a2).bind (fun t3 =>
    some (!t3))) : Option Bool).bind (fun b1 =>
  (if (b1 || (decide (a2 ≤ a1))) = true then
    some (0, 7)
  else
    (ledger_pageOf a0).bind (fun t4 =>
    (ledger_page_off t4 a1).bind (fun o => match o with
      | (t5, t6) =>
        (ledger_page_off t4 a2).bind (fun o => match o with
          | (t7, t8) =>
            (if ((!t6) || (!t8)) = true then
              some (0, 8)
            else
              (subI t7 t5).bind (fun t9 =>
              some (t9, 0)))))))))))

noncomputable def noongunref09_Rated (a0 : (List GEntry)) (a1 : Int) (a2 : Int) : Option (Int × Int) :=
  (noongunref09_Valid a0).bind (fun t1 =>
  (if (!t1) = true then
  some (0, 1)
  else
  (noongunref09_day a1).bind (fun t2 =>
  ((if (!t2) = true then
    some true
  else
    (noongunref09_day a2).bind (fun t3 =>
    some (!t3))) : Option Bool).bind (fun b1 =>
  (if (b1 || (decide (a2 ≤ a1))) = true then
    some (0, 7)
  else
    (noongunref09_off a0 a1).bind (fun o => match o with
      | (t4, t5) =>
        (noongunref09_off a0 a2).bind (fun o => match o with
          | (t6, t7) =>
            (if ((!t5) || (!t7)) = true then
              some (0, 8)
            else
              (subI t6 t4).bind (fun t8 =>
              some (t8, 0))))))))))

noncomputable def noongunlaw09_LedgerRated (a0 : (List GEntry)) (a1 : Int) (a2 : Int) (a3 : Int) : Option (Bool) :=
  (noongunlaw09_small a0).bind (fun t1 =>
  (if (!t1) = true then
  (noongunlaw09_awake ).bind (fun t2 =>
  some t2)
  else
  (ledger_Rated a0 a1 a2).bind (fun o => match o with
    | (t3, t4) =>
      (noongunref09_Rated a0 a1 a2).bind (fun o => match o with
        | (t5, t6) =>
          (if ((t3 != t5) || (t4 != t6)) = true then
            some false
          else
            (ledger_Rated a0 a2 a3).bind (fun o => match o with
              | (t7, t8) =>
                (if ((t4 != 0) || (t8 != 0)) = true then
                  (noongunlaw09_awake ).bind (fun t9 =>
                  some t9)
                else
                  (ledger_Rated a0 a1 a3).bind (fun o => match o with
                    | (t10, t11) =>
                      ((if (t11 == 0) = true then
                        (addI t3 t7).bind (fun t12 =>
                        some (t10 == t12))
                      else
                        some false) : Option Bool).bind (fun b1 =>
                      ((if b1 = true then
                        (noongunlaw09_awake ).bind (fun t13 =>
                        some t13)
                      else
                        some false) : Option Bool).bind (fun b2 =>
                      some b2))))))))))

def slices_Clone_Entry (a0 : (List GEntry)) : Option ((List GEntry)) :=
  (appI ([] : List GEntry) a0).bind (fun t1 =>
  some t1)

def ledger_Added (a0 : (List GEntry)) (a1 : GEntry) : Option ((List GEntry) × Int) :=
  (ledger_Valid a0).bind (fun t1 =>
  ((if (!t1) = true then
  some true
  else
  (ledger_fine a1).bind (fun t2 =>
  some (!t2))) : Option Bool).bind (fun b2 =>
  (if b2 = true then
  some (([] : List GEntry), 1)
  else
  (if (((a0.length : Nat) : Int) == 1000) = true then
    some (([] : List GEntry), 4)
  else
    (slices_Clone_Entry a0).bind (fun t3 =>
    (appI t3 ([a1] : List GEntry)).bind (fun t4 =>
    some (t4, 0)))))))

def noongunref09_Added (a0 : (List GEntry)) (a1 : GEntry) : Option ((List GEntry) × Int) :=
  (noongunref09_Valid a0).bind (fun t1 =>
  ((if (!t1) = true then
  some true
  else
  (noongunref09_valid a1).bind (fun t2 =>
  some (!t2))) : Option Bool).bind (fun b2 =>
  (if b2 = true then
  some (([] : List GEntry), 1)
  else
  (if (((a0.length : Nat) : Int) == 1000) = true then
    some (([] : List GEntry), 4)
  else
    (appI ([] : List GEntry) a0).bind (fun t3 =>
    (appI t3 ([a1] : List GEntry)).bind (fun t4 =>
    some (t4, 0)))))))

def slices_Grow_Entry (a1 : Int) : Option ((List GEntry)) :=
  ((
  (if (decide (a1 < 0)) = true then
    none
  else
    some ())) : Option (Unit)).bind (fun _ =>
  (subI a1 0).bind (fun t1 =>
  ((
  (if (decide (0 < t1)) = true then
    (makI (GEntry.mk 0 false 0) t1).bind (fun t2 =>
    (preI t2 0).bind (fun t3 =>
    some t3))
  else
    some ([] : List GEntry))) : Option ((List GEntry))).bind (fun s1 =>
  some s1)))

def slices_Concat_Entry (a0 : (List (List GEntry))) : Option ((List GEntry)) :=
  ((
  rangeL (α := (List GEntry)) (S := Int) (X := Int) (fun _   yk1 z2 =>
    ((
      (addI z2 ((yk1.length : Nat) : Int)).bind (fun t1 =>
      ((
        (if (decide (t1 < 0)) = true then
          none
        else
          some ())) : Option (Unit)).bind (fun _ =>
      some t1))) : Option (Int)).bind (fun s2 =>
    some (Step.cont s2))) (fun z2 => z2) a0 0 0) : Option (Int)).bind (fun s1 =>
  (slices_Grow_Entry s1).bind (fun t2 =>
  ((
  rangeL (α := (List GEntry)) (S := (List GEntry)) (X := (List GEntry)) (fun _   yk2 z5 =>
    (appI z5 yk2).bind (fun t3 =>
    some (Step.cont t3))) (fun z5 => z5) a0 0 t2) : Option ((List GEntry))).bind (fun s3 =>
  some s3)))

def ledger_Merged (a0 : (List GEntry)) (a1 : (List GEntry)) : Option ((List GEntry) × Int) :=
  (ledger_Valid a0).bind (fun t1 =>
  ((if (!t1) = true then
  some true
  else
  (ledger_Valid a1).bind (fun t2 =>
  some (!t2))) : Option Bool).bind (fun b1 =>
  (if b1 = true then
  some (([] : List GEntry), 1)
  else
  (addI ((a0.length : Nat) : Int) ((a1.length : Nat) : Int)).bind (fun t3 =>
  (if (decide (1000 < t3)) = true then
    some (([] : List GEntry), 4)
  else
    (slices_Concat_Entry ([a0, a1] : List (List GEntry))).bind (fun t4 =>
    some (t4, 0)))))))

def noongunref09_Merged (a0 : (List GEntry)) (a1 : (List GEntry)) : Option ((List GEntry) × Int) :=
  (noongunref09_Valid a0).bind (fun t1 =>
  ((if (!t1) = true then
  some true
  else
  (noongunref09_Valid a1).bind (fun t2 =>
  some (!t2))) : Option Bool).bind (fun b1 =>
  (if b1 = true then
  some (([] : List GEntry), 1)
  else
  (addI ((a0.length : Nat) : Int) ((a1.length : Nat) : Int)).bind (fun t3 =>
  (if (decide (1000 < t3)) = true then
    some (([] : List GEntry), 4)
  else
    (appI ([] : List GEntry) a0).bind (fun t4 =>
    (appI t4 a1).bind (fun t5 =>
    some (t5, 0))))))))

def noongunref09_SameEntries (a0 : (List GEntry)) (a1 : (List GEntry)) : Option (Bool) :=
  (if (((a0.length : Nat) : Int) != ((a1.length : Nat) : Int)) = true then
  some false
  else
  ((
    rangeN (S := Unit) (X := Ctl (Unit) (Bool)) (fun ik1 _ =>
      (idx a0 (ik1 : Int)).bind (fun x1 =>
      (idx a1 (ik1 : Int)).bind (fun x2 =>
      (if (!(x1 == x2)) = true then
        some (Step.done (Ctl.ret false))
      else
        some (Step.cont ()))))) (fun _ => Ctl.next ()) (Int.toNat ((a0.length : Nat) : Int)) 0 ()) : Option (Ctl (Unit) (Bool))).bind (fun o => match o with
    | .next _ =>
      some true
    | .ret r => some r
    | .exit _ _ => none))

def noongunlaw09_LedgerAdds (a0 : (List GEntry)) (a1 : (List GEntry)) (a2 : GEntry) (a3 : Int) : Option (Bool) :=
  (noongunlaw09_fit a0).bind (fun t1 =>
  ((if (!t1) = true then
  some true
  else
  (noongunlaw09_fit a1).bind (fun t2 =>
  some (!t2))) : Option Bool).bind (fun b2 =>
  (if b2 = true then
  (noongunlaw09_awake ).bind (fun t3 =>
  some t3)
  else
  (ledger_Added a0 a2).bind (fun o => match o with
    | (t4, t5) =>
      (noongunref09_Added a0 a2).bind (fun o => match o with
        | (t6, t7) =>
          (ledger_Merged a0 a1).bind (fun o => match o with
            | (t8, t9) =>
              (noongunref09_Merged a0 a1).bind (fun o => match o with
                | (t10, t11) =>
                  (noongunref09_SameEntries t4 t6).bind (fun t12 =>
                  ((if ((!t12) || (t5 != t7)) = true then
                    some true
                  else
                    (noongunref09_SameEntries t8 t10).bind (fun t13 =>
                    some (!t13))) : Option Bool).bind (fun b3 =>
                  (if (b3 || (t9 != t11)) = true then
                    some false
                  else
                    (if ((t5 != 0) || (a3 == a2.Day)) = true then
                      (noongunlaw09_awake ).bind (fun t14 =>
                      some t14)
                    else
                      (ledger_Off a0 a3).bind (fun o => match o with
                        | (t15, t16) =>
                          (ledger_Off t4 a3).bind (fun o => match o with
                            | (t17, t18) =>
                              ((if ((t15 == t17) && (t16 == t18)) = true then
                                (noongunlaw09_awake ).bind (fun t19 =>
                                some t19)
                              else
                                some false) : Option Bool).bind (fun b4 =>
                              some b4))))))))))))))

def ledger_Shifted (a0 : (List GEntry)) (a1 : Int) : Option ((List GEntry) × Int) :=
  (ledger_Valid a0).bind (fun t1 =>
  (if (!t1) = true then
  some (([] : List GEntry), 1)
  else
  (ledger_within a1 (-182985) 182985).bind (fun t2 =>
  (if (!t2) = true then
    some (([] : List GEntry), 7)
  else
    (slices_Clone_Entry a0).bind (fun t3 =>
    ((
      rangeN (S := (List GEntry)) (X := (List GEntry)) (fun ik1 z2 =>
        (idx z2 (ik1 : Int)).bind (fun x1 =>
        (addI x1.Day a1).bind (fun t4 =>
        (idx z2 (ik1 : Int)).bind (fun x2 =>
        some (Step.cont (z2.set (Int.toNat (ik1 : Int)) (GEntry.mk t4 x2.Found x2.Error))))))) (fun z2 => z2) (Int.toNat ((t3.length : Nat) : Int)) 0 t3) : Option ((List GEntry))).bind (fun s1 =>
    (ledger_Valid s1).bind (fun t5 =>
    (if (!t5) = true then
      some (([] : List GEntry), 4)
    else
      some (s1, 0)))))))))

def noongunref09_Shifted (a0 : (List GEntry)) (a1 : Int) : Option ((List GEntry) × Int) :=
  (noongunref09_Valid a0).bind (fun t1 =>
  (if (!t1) = true then
  some (([] : List GEntry), 1)
  else
  (if ((decide (a1 < (-182985))) || (decide (182985 < a1))) = true then
    some (([] : List GEntry), 7)
  else
    ((
      rangeL (α := GEntry) (S := (List GEntry)) (X := (List GEntry)) (fun _   yk1 z2 =>
        (addI yk1.Day a1).bind (fun t2 =>
        (appI z2 ([(GEntry.mk t2 yk1.Found yk1.Error)] : List GEntry)).bind (fun t3 =>
        some (Step.cont t3)))) (fun z2 => z2) a0 0 ([] : List GEntry)) : Option ((List GEntry))).bind (fun s1 =>
    (noongunref09_Valid s1).bind (fun t4 =>
    (if (!t4) = true then
      some (([] : List GEntry), 4)
    else
      some (s1, 0)))))))

def noongunlaw09_LedgerShifted (a0 : (List GEntry)) (a1 : (List GEntry)) (a2 : Int) (a3 : Int) : Option (Bool) :=
  (noongunlaw09_small a0).bind (fun t1 =>
  ((if (!t1) = true then
  some true
  else
  (noongunlaw09_small a1).bind (fun t2 =>
  some (!t2))) : Option Bool).bind (fun b1 =>
  (if b1 = true then
  (noongunlaw09_awake ).bind (fun t3 =>
  some t3)
  else
  (ledger_Shifted a0 a2).bind (fun o => match o with
    | (t4, t5) =>
      (noongunref09_Shifted a0 a2).bind (fun o => match o with
        | (t6, t7) =>
          (noongunref09_SameEntries t4 t6).bind (fun t8 =>
          (if ((!t8) || (t5 != t7)) = true then
            some false
          else
            (ledger_Merged a0 a1).bind (fun o => match o with
              | (t9, t10) =>
                ((
                  (if (t10 == 0) = true then
                    (ledger_Corrections a0).bind (fun o => match o with
                      | (t11, t12) =>
                        (ledger_Corrections a1).bind (fun o => match o with
                          | (t13, t14) =>
                            (ledger_Corrections t9).bind (fun o => match o with
                              | (t15, t16) =>
                                ((if (((t12 != 0) || (t14 != 0)) || (t16 != 0)) = true then
                                  some true
                                else
                                  (addI ((t11.length : Nat) : Int) ((t13.length : Nat) : Int)).bind (fun t17 =>
                                  some (decide (((t15.length : Nat) : Int) < t17)))) : Option Bool).bind (fun b2 =>
                                (if b2 = true then
                                  some (Ctl.ret false)
                                else
                                  some (Ctl.next ()))))))
                  else
                    some (Ctl.next ()))) : Option (Ctl (Unit) (Bool))).bind (fun o => match o with
                  | .next _ =>
                    (if (t5 != 0) = true then
                      (noongunlaw09_awake ).bind (fun t18 =>
                      some t18)
                    else
                      (negI a2).bind (fun t19 =>
                      (ledger_Shifted t4 t19).bind (fun o => match o with
                        | (t20, t21) =>
                          ((if (t21 != 0) = true then
                            some true
                          else
                            (noongunref09_SameEntries t20 a0).bind (fun t22 =>
                            some (!t22))) : Option Bool).bind (fun b3 =>
                          (if b3 = true then
                            some false
                          else
                            ((if ((decide (a3 < 0)) || (decide (182985 < a3))) = true then
                              some true
                            else
                              (addI a3 a2).bind (fun t23 =>
                              some (decide (t23 < 0)))) : Option Bool).bind (fun b4 =>
                            ((if b4 = true then
                              some true
                            else
                              (addI a3 a2).bind (fun t24 =>
                              some (decide (182985 < t24)))) : Option Bool).bind (fun b5 =>
                            (if b5 = true then
                              (noongunlaw09_awake ).bind (fun t25 =>
                              some t25)
                            else
                              (ledger_Off a0 a3).bind (fun o => match o with
                                | (t26, t27) =>
                                  (addI a3 a2).bind (fun t28 =>
                                  (ledger_Off t4 t28).bind (fun o => match o with
                                    | (t29, t30) =>
                                      ((if ((t26 == t29) && (t27 == t30)) = true then
                                        (noongunlaw09_awake ).bind (fun t31 =>
                                        some t31)
                                      else
                                        some false) : Option Bool).bind (fun b6 =>
                                      some b6))))))))))))
                  | .ret r => some r
                  | .exit _ _ => none)))))))))

end Go.Fw
