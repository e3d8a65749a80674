/-
  What the functions compute, as functions of the values: written by a program from the functions. No condition.
-/
import Derived.Test.YtijjocfjgpibjaaFwJ
import Derived.Test.YtijjocfjgpibjaaFwU
namespace Go.Fw
structure GEntry where
  Day : Int
  Found : Bool
  Error : Int
  deriving DecidableEq
instance : Flat GEntry := ⟨3, fun a => .agg #[.int .i64 a.Day, .bool a.Found, .int .i64 a.Error], fun a => [.int .i64 a.Day, .bool a.Found, .int .i64 a.Error], fun _ => rfl, fun _ => rfl, by simp [Value.oneCell'], by decide⟩

structure GKey where
  day : Int
  found : Bool
  deriving DecidableEq
instance : Flat GKey := ⟨2, fun a => .agg #[.int .i64 a.day, .bool a.found], fun a => [.int .i64 a.day, .bool a.found], fun _ => rfl, fun _ => rfl, by simp [Value.oneCell'], by decide⟩

structure GQuotient where
  n : Int
  d : Int
  deriving DecidableEq
instance : Flat GQuotient := ⟨2, fun a => .agg #[.int .i64 a.n, .int .i64 a.d], fun a => [.int .i64 a.n, .int .i64 a.d], fun _ => rfl, fun _ => rfl, by simp [Value.oneCell'], by decide⟩

structure GRatio where
  N : Int
  D : Int
  deriving DecidableEq
instance : Flat GRatio := ⟨2, fun a => .agg #[.int .i64 a.N, .int .i64 a.D], fun a => [.int .i64 a.N, .int .i64 a.D], fun _ => rfl, fun _ => rfl, by simp [Value.oneCell'], by decide⟩

def okGEntry (a : GEntry) : Prop := inI a.Day = true ∧ True ∧ inI a.Error = true
def noongunlaw09_fit (a0 : (List GEntry)) : Option (Bool) :=
  some ((decide (((a0.length : Nat) : Int) ≤ 30)) || ((decide (1000 ≤ ((a0.length : Nat) : Int))) && (decide (((a0.length : Nat) : Int) ≤ 1003))))

def ledger_page_off (a0 : (List (GKey × Int))) (a1 : Int) : Option (Int × Bool) :=
  (subI ((mget a0 (GKey.mk a1 true)).getD 0) ((mget a0 (GKey.mk a1 false)).getD 0)).bind (fun t1 =>
  some (t1, ((mget a0 (GKey.mk a1 false)).isSome && (mget a0 (GKey.mk a1 true)).isSome)))

def ledger_Off_c1 (a0 : (List (GKey × Int))) (c0 : Int) : Option (Int × Bool) :=
  (ledger_page_off a0 c0).bind (fun o => match o with
  | (t1, t2) =>
    some (t1, t2))

def slices_IndexFunc_Entry (a0 : (List GEntry)) (a1 : GEntry → Option (Bool)) : Option (Int) :=
  ((
  rangeN (S := Unit) (X := Ctl (Unit) (Int)) (fun ik1 _ =>
    (idx a0 (ik1 : Int)).bind (fun x1 =>
    (a1 x1).bind (fun t1 =>
    (if t1 = true then
      some (Step.done (Ctl.ret (ik1 : Int)))
    else
      some (Step.cont ()))))) (fun _ => Ctl.next ()) (Int.toNat ((a0.length : Nat) : Int)) 0 ()) : Option (Ctl (Unit) (Int))).bind (fun o => match o with
  | .next _ =>
    some (-1)
  | .ret r => some r
  | .exit _ _ => none)

def slices_ContainsFunc_Entry (a0 : (List GEntry)) (a1 : GEntry → Option (Bool)) : Option (Bool) :=
  (slices_IndexFunc_Entry a0 a1).bind (fun t1 =>
  some (decide (0 ≤ t1)))

def ledger_within (a0 : Int) (a1 : Int) (a2 : Int) : Option (Bool) :=
  some ((decide (a1 ≤ a0)) && (decide (a0 ≤ a2)))

def ledger_fine (a0 : GEntry) : Option (Bool) :=
  (ledger_within a0.Day 0 182985).bind (fun t1 =>
  ((if t1 = true then
  (ledger_within a0.Error (-86400000) 86400000).bind (fun t2 =>
  some t2)
  else
  some false) : Option Bool).bind (fun b2 =>
  some b2))

def ledger_Valid_c1 (a0 : GEntry) : Option (Bool) :=
  (ledger_fine a0).bind (fun t1 =>
  some (!t1))

def ledger_Valid (a0 : (List GEntry)) : Option (Bool) :=
  ((if (decide (((a0.length : Nat) : Int) ≤ 1000)) = true then
  (slices_ContainsFunc_Entry a0 (fun x0 => ledger_Valid_c1 x0)).bind (fun t1 =>
  some (!t1))
  else
  some false) : Option Bool).bind (fun b1 =>
  some b1)

def ledger_isDay (a0 : Int) : Option (Bool) :=
  (ledger_within a0 0 182985).bind (fun t1 =>
  some t1)

def ledger_of (a0 : GEntry) : Option (GKey) :=
  some (GKey.mk a0.Day a0.Found)

def ledger_pageOf (a0 : (List GEntry)) : Option ((List (GKey × Int))) :=
  ((
  rangeL (α := GEntry) (S := (List (GKey × Int))) (X := (List (GKey × Int))) (fun _   yk1 z2 =>
    (ledger_of yk1).bind (fun t1 =>
    some (Step.cont (mput z2 t1 yk1.Error)))) (fun z2 => z2) a0 0 ([] : List (GKey × Int))) : Option ((List (GKey × Int)))).bind (fun s1 =>
  some s1)

def ledger_told (a0 : (List GEntry)) (a1 : Int) (a2 : (List (GKey × Int)) → Option (Int × Bool)) : Option (Int × Int) :=
  (ledger_Valid a0).bind (fun t1 =>
  (if (!t1) = true then
  some (0, 1)
  else
  (ledger_isDay a1).bind (fun t2 =>
  (if (!t2) = true then
    some (0, 7)
  else
    (ledger_pageOf a0).bind (fun t3 =>
    (a2 t3).bind (fun o => match o with
      | (t4, t5) =>
        (if (!t5) = true then
          some (0, 8)
        else
          some (t4, 0))))))))

def ledger_Off (a0 : (List GEntry)) (a1 : Int) : Option (Int × Int) :=
  (ledger_told a0 a1 (fun x0 => ledger_Off_c1 x0 a1)).bind (fun o => match o with
  | (t1, t2) =>
    some (t1, t2))

def ledger_Corrections (a0 : (List GEntry)) : Option ((List Int) × Int) :=
  (ledger_Valid a0).bind (fun t1 =>
  (if (!t1) = true then
  some (([] : List Int), 1)
  else
  ((
    rangeN (S := (List (GKey × Bool)) × (List Int)) (X := (List Int)) (fun ik1 s =>
    match s with
      | (z3, z4) =>
        ((
          (idx a0 (ik1 : Int)).bind (fun x1 =>
          (ledger_of x1).bind (fun t2 =>
          ((
            (if ((mget z3 t2).getD false) = true then
              (appI z4 ([(ik1 : Int)] : List Int)).bind (fun t3 =>
              some t3)
            else
              some z4)) : Option ((List Int))).bind (fun s4 =>
          (ledger_of x1).bind (fun t4 =>
          some ((mput z3 t4 true), s4)))))) : Option ((List (GKey × Bool)) × (List Int))).bind (fun o => match o with
          | (s2, s3) =>
            some (Step.cont (s2, s3)))) (fun s => match s with | (_ , z4) => z4) (Int.toNat ((a0.length : Nat) : Int)) 0 (([] : List (GKey × Bool)), ([] : List Int))) : Option ((List Int))).bind (fun s1 =>
  some (s1, 0))))

def noongunref09_SameInts (a0 : (List Int)) (a1 : (List Int)) : Option (Bool) :=
  (if (((a0.length : Nat) : Int) != ((a1.length : Nat) : Int)) = true then
  some false
  else
  ((
    rangeN (S := Unit) (X := Ctl (Unit) (Bool)) (fun ik1 _ =>
      (idx a0 (ik1 : Int)).bind (fun x1 =>
      (idx a1 (ik1 : Int)).bind (fun x2 =>
      (if (x1 != x2) = true then
        some (Step.done (Ctl.ret false))
      else
        some (Step.cont ()))))) (fun _ => Ctl.next ()) (Int.toNat ((a0.length : Nat) : Int)) 0 ()) : Option (Ctl (Unit) (Bool))).bind (fun o => match o with
    | .next _ =>
      some true
    | .ret r => some r
    | .exit _ _ => none))

def noongunlaw09_awake  : Option (Bool) :=
  (ledger_Off ([(GEntry.mk 5 false 100), (GEntry.mk 5 true 180), (GEntry.mk 6 false 90), (GEntry.mk 5 true 170)] : List GEntry) 5).bind (fun o => match o with
  | (t1, t2) =>
    (ledger_Corrections ([(GEntry.mk 5 false 100), (GEntry.mk 5 true 180), (GEntry.mk 6 false 90), (GEntry.mk 5 true 170)] : List GEntry)).bind (fun o => match o with
      | (t3, t4) =>
        ((if (((t2 == 0) && (t1 == 70)) && (t4 == 0)) = true then
          (noongunref09_SameInts t3 ([3] : List Int)).bind (fun t5 =>
          some t5)
        else
          some false) : Option Bool).bind (fun b1 =>
        some b1)))

def ledger_Said_c1 (a0 : (List (GKey × Int))) (c0 : Int) : Option (Int × Bool) :=
  some (((mget a0 (GKey.mk c0 false)).getD 0), (mget a0 (GKey.mk c0 false)).isSome)

def ledger_Said (a0 : (List GEntry)) (a1 : Int) : Option (Int × Int) :=
  (ledger_told a0 a1 (fun x0 => ledger_Said_c1 x0 a1)).bind (fun o => match o with
  | (t1, t2) =>
    some (t1, t2))

def noongunref09_day (a0 : Int) : Option (Bool) :=
  some ((decide (0 ≤ a0)) && (decide (a0 ≤ 182985)))

def noongunref09_valid (a0 : GEntry) : Option (Bool) :=
  (noongunref09_day a0.Day).bind (fun t1 =>
  some ((t1 && (decide ((-86400000) ≤ a0.Error))) && (decide (a0.Error ≤ 86400000))))

def noongunref09_Valid (a0 : (List GEntry)) : Option (Bool) :=
  ((
  rangeL (α := GEntry) (S := Unit) (X := Ctl (Unit) (Bool)) (fun _   yk1 _ =>
    (noongunref09_valid yk1).bind (fun t1 =>
    (if (!t1) = true then
      some (Step.done (Ctl.ret false))
    else
      some (Step.cont ())))) (fun _ => Ctl.next ()) a0 0 ()) : Option (Ctl (Unit) (Bool))).bind (fun o => match o with
  | .next _ =>
    some (decide (((a0.length : Nat) : Int) ≤ 1000))
  | .ret r => some r
  | .exit _ _ => none)

def noongunref09_asked (a0 : (List GEntry)) (a1 : Int) : Option (Int) :=
  (noongunref09_Valid a0).bind (fun t1 =>
  (if (!t1) = true then
  some 1
  else
  (noongunref09_day a1).bind (fun t2 =>
  (if (!t2) = true then
    some 7
  else
    some 0))))

noncomputable def noongunref09_last (a0 : (List GEntry)) (a1 : Int) (a2 : Bool) : Option (Int × Bool) :=
  (subI ((a0.length : Nat) : Int) 1).bind (fun t1 =>
  ((
  loopR (S := Int) (X := Ctl (Unit) (Int × Bool)) (fun (z2 : Int) =>
    (if (decide (0 ≤ z2)) = true then
      (idx a0 z2).bind (fun x1 =>
      ((if (x1.Day == a1) = true then
        (idx a0 z2).bind (fun x2 =>
        some (x2.Found == a2))
      else
        some false) : Option Bool).bind (fun b1 =>
      (if b1 = true then
        (idx a0 z2).bind (fun x3 =>
        some (Step.done (Ctl.ret (x3.Error, true))))
      else
        (subI z2 1).bind (fun t2 =>
        some (Step.cont t2)))))
    else
      some (Step.done (Ctl.next ())))) t1) : Option (Ctl (Unit) (Int × Bool))).bind (fun o => match o with
  | .next _ =>
    some (0, false)
  | .ret r => some r
  | .exit _ _ => none))

noncomputable def noongunref09_Said (a0 : (List GEntry)) (a1 : Int) : Option (Int × Int) :=
  (noongunref09_asked a0 a1).bind (fun t1 =>
  (if (t1 != 0) = true then
  some (0, t1)
  else
  (noongunref09_last a0 a1 false).bind (fun o => match o with
    | (t2, t3) =>
      (if (!t3) = true then
        some (0, 8)
      else
        some (t2, 0)))))

def ledger_Found_c1 (a0 : (List (GKey × Int))) (c0 : Int) : Option (Int × Bool) :=
  some (((mget a0 (GKey.mk c0 true)).getD 0), (mget a0 (GKey.mk c0 true)).isSome)

def ledger_Found (a0 : (List GEntry)) (a1 : Int) : Option (Int × Int) :=
  (ledger_told a0 a1 (fun x0 => ledger_Found_c1 x0 a1)).bind (fun o => match o with
  | (t1, t2) =>
    some (t1, t2))

noncomputable def noongunref09_Found (a0 : (List GEntry)) (a1 : Int) : Option (Int × Int) :=
  (noongunref09_asked a0 a1).bind (fun t1 =>
  (if (t1 != 0) = true then
  some (0, t1)
  else
  (noongunref09_last a0 a1 true).bind (fun o => match o with
    | (t2, t3) =>
      (if (!t3) = true then
        some (0, 8)
      else
        some (t2, 0)))))

noncomputable def noongunref09_off (a0 : (List GEntry)) (a1 : Int) : Option (Int × Bool) :=
  (noongunref09_last a0 a1 false).bind (fun o => match o with
  | (t1, t2) =>
    (noongunref09_last a0 a1 true).bind (fun o => match o with
      | (t3, t4) =>
        (subI t3 t1).bind (fun t5 =>
        some (t5, (t2 && t4)))))

noncomputable def noongunref09_Off (a0 : (List GEntry)) (a1 : Int) : Option (Int × Int) :=
  (noongunref09_asked a0 a1).bind (fun t1 =>
  (if (t1 != 0) = true then
  some (0, t1)
  else
  (noongunref09_off a0 a1).bind (fun o => match o with
    | (t2, t3) =>
      (if (!t3) = true then
        some (0, 8)
      else
        some (t2, 0)))))

noncomputable def noongunlaw09_LedgerSays (a0 : (List GEntry)) (a1 : Int) : Option (Bool) :=
  (noongunlaw09_fit a0).bind (fun t1 =>
  (if (!t1) = true then
  (noongunlaw09_awake ).bind (fun t2 =>
  some t2)
  else
  (ledger_Said a0 a1).bind (fun o => match o with
    | (t3, t4) =>
      (noongunref09_Said a0 a1).bind (fun o => match o with
        | (t5, t6) =>
          (ledger_Found a0 a1).bind (fun o => match o with
            | (t7, t8) =>
              (noongunref09_Found a0 a1).bind (fun o => match o with
                | (t9, t10) =>
                  (ledger_Off a0 a1).bind (fun o => match o with
                    | (t11, t12) =>
                      (noongunref09_Off a0 a1).bind (fun o => match o with
                        | (t13, t14) =>
                          (ledger_Valid a0).bind (fun t15 =>
                          (noongunref09_Valid a0).bind (fun t16 =>
                          ((if (((((((t15 == t16) && (t3 == t5)) && (t4 == t6)) && (t7 == t9)) && (t8 == t10)) && (t11 == t13)) && (t12 == t14)) = true then
                            ((if (t12 != 0) = true then
                              some true
                            else
                              (subI t7 t3).bind (fun t17 =>
                              some (t11 == t17))) : Option Bool).bind (fun b2 =>
                            some b2)
                          else
                            some false) : Option Bool).bind (fun b1 =>
                          ((if b1 = true then
                            (noongunlaw09_awake ).bind (fun t18 =>
                            some t18)
                          else
                            some false) : Option Bool).bind (fun b3 =>
                          some b3))))))))))))

def noongunlaw09_small (a0 : (List GEntry)) : Option (Bool) :=
  some (decide (((a0.length : Nat) : Int) ≤ 30))

def ledger_Rated (a0 : (List GEntry)) (a1 : Int) (a2 : Int) : Option (Int × Int) :=
  (ledger_Valid a0).bind (fun t1 =>
  (if (!t1) = true then
  some (0, 1)
  else
  (ledger_isDay a1).bind (fun t2 =>
  ((if (!t2) = true then
    some true
  else
    (ledger_isDay a2).bind (fun t3 =>
    some (!t3))) : Option Bool).bind (fun b1 =>
  (if (b1 || (decide (a2 ≤ a1))) = true then
    some (0, 7)
  else
    (ledger_pageOf a0).bind (fun t4 =>
    (ledger_page_off t4 a1).bind (fun o => match o with
      | (t5, t6) =>
        (ledger_page_off t4 a2).bind (fun o => match o with
          | (t7, t8) =>
            (if ((!t6) || (!t8)) = true then
              some (0, 8)
            else
              (subI t7 t5).bind (fun t9 =>
              some (t9, 0)))))))))))

noncomputable def noongunref09_Rated (a0 : (List GEntry)) (a1 : Int) (a2 : Int) : Option (Int × Int) :=
  (noongunref09_Valid a0).bind (fun t1 =>
  (if (!t1) = true then
  some (0, 1)
  else
  (noongunref09_day a1).bind (fun t2 =>
  ((if (!t2) = true then
    some true
  else
    (noongunref09_day a2).bind (fun t3 =>
    some (!t3))) : Option Bool).bind (fun b1 =>
  (if (b1 || (decide (a2 ≤ a1))) = true then
    some (0, 7)
  else
    (noongunref09_off a0 a1).bind (fun o => match o with
      | (t4, t5) =>
        (noongunref09_off a0 a2).bind (fun o => match o with
          | (t6, t7) =>
            (if ((!t5) || (!t7)) = true then
              some (0, 8)
            else
              (subI t6 t4).bind (fun t8 =>
              some (t8, 0))))))))))

noncomputable def noongunlaw09_LedgerRated (a0 : (List GEntry)) (a1 : Int) (a2 : Int) (a3 : Int) : Option (Bool) :=
  (noongunlaw09_small a0).bind (fun t1 =>
  (if (!t1) = true then
  (noongunlaw09_awake ).bind (fun t2 =>
  some t2)
  else
  (ledger_Rated a0 a1 a2).bind (fun o => match o with
    | (t3, t4) =>
      (noongunref09_Rated a0 a1 a2).bind (fun o => match o with
        | (t5, t6) =>
          (if ((t3 != t5) || (t4 != t6)) = true then
            some false
          else
            (ledger_Rated a0 a2 a3).bind (fun o => match o with
              | (t7, t8) =>
                (if ((t4 != 0) || (t8 != 0)) = true then
                  (noongunlaw09_awake ).bind (fun t9 =>
                  some t9)
                else
                  (ledger_Rated a0 a1 a3).bind (fun o => match o with
                    | (t10, t11) =>
                      ((if (t11 == 0) = true then
                        (addI t3 t7).bind (fun t12 =>
                        some (t10 == t12))
                      else
                        some false) : Option Bool).bind (fun b1 =>
                      ((if b1 = true then
                        (noongunlaw09_awake ).bind (fun t13 =>
                        some t13)
                      else
                        some false) : Option Bool).bind (fun b2 =>
                      some b2))))))))))

def slices_Clone_Entry (a0 : (List GEntry)) : Option ((List GEntry)) :=
  (appI ([] : List GEntry) a0).bind (fun t1 =>
  some t1)

def ledger_Added (a0 : (List GEntry)) (a1 : GEntry) : Option ((List GEntry) × Int) :=
  (ledger_Valid a0).bind (fun t1 =>
  ((if (!t1) = true then
  some true
  else
  (ledger_fine a1).bind (fun t2 =>
  some (!t2))) : Option Bool).bind (fun b2 =>
  (if b2 = true then
  some (([] : List GEntry), 1)
  else
  (if (((a0.length : Nat) : Int) == 1000) = true then
    some (([] : List GEntry), 4)
  else
    (slices_Clone_Entry a0).bind (fun t3 =>
    (appI t3 ([a1] : List GEntry)).bind (fun t4 =>
    some (t4, 0)))))))

def noongunref09_Added (a0 : (List GEntry)) (a1 : GEntry) : Option ((List GEntry) × Int) :=
  (noongunref09_Valid a0).bind (fun t1 =>
  ((if (!t1) = true then
  some true
  else
  (noongunref09_valid a1).bind (fun t2 =>
  some (!t2))) : Option Bool).bind (fun b2 =>
  (if b2 = true then
  some (([] : List GEntry), 1)
  else
  (if (((a0.length : Nat) : Int) == 1000) = true then
    some (([] : List GEntry), 4)
  else
    (appI ([] : List GEntry) a0).bind (fun t3 =>
    (appI t3 ([a1] : List GEntry)).bind (fun t4 =>
    some (t4, 0)))))))

def slices_Grow_Entry (a1 : Int) : Option ((List GEntry)) :=
  ((
  (if (decide (a1 < 0)) = true then
    none
  else
    some ())) : Option (Unit)).bind (fun _ =>
  (subI a1 0).bind (fun t1 =>
  ((
  (if (decide (0 < t1)) = true then
    (makI ((GEntry.mk 0 false 0) : GEntry) t1).bind (fun t2 =>
    (preI t2 0).bind (fun t3 =>
    some t3))
  else
    some ([] : List GEntry))) : Option ((List GEntry))).bind (fun s1 =>
  some s1)))

def slices_Concat_Entry (a0 : (List (List GEntry))) : Option ((List GEntry)) :=
  ((
  rangeL (α := (List GEntry)) (S := Int) (X := Int) (fun _   yk1 z2 =>
    ((
      (addI z2 ((yk1.length : Nat) : Int)).bind (fun t1 =>
      ((
        (if (decide (t1 < 0)) = true then
          none
        else
          some ())) : Option (Unit)).bind (fun _ =>
      some t1))) : Option (Int)).bind (fun s2 =>
    some (Step.cont s2))) (fun z2 => z2) a0 0 0) : Option (Int)).bind (fun s1 =>
  (slices_Grow_Entry s1).bind (fun t2 =>
  ((
  rangeL (α := (List GEntry)) (S := (List GEntry)) (X := (List GEntry)) (fun _   yk2 z5 =>
    (appI z5 yk2).bind (fun t3 =>
    some (Step.cont t3))) (fun z5 => z5) a0 0 t2) : Option ((List GEntry))).bind (fun s3 =>
  some s3)))

def ledger_Merged (a0 : (List GEntry)) (a1 : (List GEntry)) : Option ((List GEntry) × Int) :=
  (ledger_Valid a0).bind (fun t1 =>
  ((if (!t1) = true then
  some true
  else
  (ledger_Valid a1).bind (fun t2 =>
  some (!t2))) : Option Bool).bind (fun b1 =>
  (if b1 = true then
  some (([] : List GEntry), 1)
  else
  (addI ((a0.length : Nat) : Int) ((a1.length : Nat) : Int)).bind (fun t3 =>
  (if (decide (1000 < t3)) = true then
    some (([] : List GEntry), 4)
  else
    (slices_Concat_Entry ([a0, a1] : List (List GEntry))).bind (fun t4 =>
    some (t4, 0)))))))

def noongunref09_Merged (a0 : (List GEntry)) (a1 : (List GEntry)) : Option ((List GEntry) × Int) :=
  (noongunref09_Valid a0).bind (fun t1 =>
  ((if (!t1) = true then
  some true
  else
  (noongunref09_Valid a1).bind (fun t2 =>
  some (!t2))) : Option Bool).bind (fun b1 =>
  (if b1 = true then
  some (([] : List GEntry), 1)
  else
  (addI ((a0.length : Nat) : Int) ((a1.length : Nat) : Int)).bind (fun t3 =>
  (if (decide (1000 < t3)) = true then
    some (([] : List GEntry), 4)
  else
    (appI ([] : List GEntry) a0).bind (fun t4 =>
    (appI t4 a1).bind (fun t5 =>
    some (t5, 0))))))))

def noongunref09_SameEntries (a0 : (List GEntry)) (a1 : (List GEntry)) : Option (Bool) :=
  (if (((a0.length : Nat) : Int) != ((a1.length : Nat) : Int)) = true then
  some false
  else
  ((
    rangeN (S := Unit) (X := Ctl (Unit) (Bool)) (fun ik1 _ =>
      (idx a0 (ik1 : Int)).bind (fun x1 =>
      (idx a1 (ik1 : Int)).bind (fun x2 =>
      (if (!(x1 == x2)) = true then
        some (Step.done (Ctl.ret false))
      else
        some (Step.cont ()))))) (fun _ => Ctl.next ()) (Int.toNat ((a0.length : Nat) : Int)) 0 ()) : Option (Ctl (Unit) (Bool))).bind (fun o => match o with
    | .next _ =>
      some true
    | .ret r => some r
    | .exit _ _ => none))

def noongunlaw09_LedgerAdds (a0 : (List GEntry)) (a1 : (List GEntry)) (a2 : GEntry) (a3 : Int) : Option (Bool) :=
  (noongunlaw09_fit a0).bind (fun t1 =>
  ((if (!t1) = true then
  some true
  else
  (noongunlaw09_fit a1).bind (fun t2 =>
  some (!t2))) : Option Bool).bind (fun b2 =>
  (if b2 = true then
  (noongunlaw09_awake ).bind (fun t3 =>
  some t3)
  else
  (ledger_Added a0 a2).bind (fun o => match o with
    | (t4, t5) =>
      (noongunref09_Added a0 a2).bind (fun o => match o with
        | (t6, t7) =>
          (ledger_Merged a0 a1).bind (fun o => match o with
            | (t8, t9) =>
              (noongunref09_Merged a0 a1).bind (fun o => match o with
                | (t10, t11) =>
                  (noongunref09_SameEntries t4 t6).bind (fun t12 =>
                  ((if ((!t12) || (t5 != t7)) = true then
                    some true
                  else
                    (noongunref09_SameEntries t8 t10).bind (fun t13 =>
                    some (!t13))) : Option Bool).bind (fun b3 =>
                  (if (b3 || (t9 != t11)) = true then
                    some false
                  else
                    (if ((t5 != 0) || (a3 == a2.Day)) = true then
                      (noongunlaw09_awake ).bind (fun t14 =>
                      some t14)
                    else
                      (ledger_Off a0 a3).bind (fun o => match o with
                        | (t15, t16) =>
                          (ledger_Off t4 a3).bind (fun o => match o with
                            | (t17, t18) =>
                              ((if ((t15 == t17) && (t16 == t18)) = true then
                                (noongunlaw09_awake ).bind (fun t19 =>
                                some t19)
                              else
                                some false) : Option Bool).bind (fun b4 =>
                              some b4))))))))))))))

def ledger_Shifted (a0 : (List GEntry)) (a1 : Int) : Option ((List GEntry) × Int) :=
  (ledger_Valid a0).bind (fun t1 =>
  (if (!t1) = true then
  some (([] : List GEntry), 1)
  else
  (ledger_within a1 (-182985) 182985).bind (fun t2 =>
  (if (!t2) = true then
    some (([] : List GEntry), 7)
  else
    (slices_Clone_Entry a0).bind (fun t3 =>
    ((
      rangeN (S := (List GEntry)) (X := (List GEntry)) (fun ik1 z2 =>
        (idx z2 (ik1 : Int)).bind (fun x1 =>
        (addI x1.Day a1).bind (fun t4 =>
        (idx z2 (ik1 : Int)).bind (fun x2 =>
        some (Step.cont (z2.set (Int.toNat (ik1 : Int)) (GEntry.mk t4 x2.Found x2.Error))))))) (fun z2 => z2) (Int.toNat ((t3.length : Nat) : Int)) 0 t3) : Option ((List GEntry))).bind (fun s1 =>
    (ledger_Valid s1).bind (fun t5 =>
    (if (!t5) = true then
      some (([] : List GEntry), 4)
    else
      some (s1, 0)))))))))

def noongunref09_Shifted (a0 : (List GEntry)) (a1 : Int) : Option ((List GEntry) × Int) :=
  (noongunref09_Valid a0).bind (fun t1 =>
  (if (!t1) = true then
  some (([] : List GEntry), 1)
  else
  (if ((decide (a1 < (-182985))) || (decide (182985 < a1))) = true then
    some (([] : List GEntry), 7)
  else
    ((
      rangeL (α := GEntry) (S := (List GEntry)) (X := (List GEntry)) (fun _   yk1 z2 =>
        (addI yk1.Day a1).bind (fun t2 =>
        (appI z2 ([(GEntry.mk t2 yk1.Found yk1.Error)] : List GEntry)).bind (fun t3 =>
        some (Step.cont t3)))) (fun z2 => z2) a0 0 ([] : List GEntry)) : Option ((List GEntry))).bind (fun s1 =>
    (noongunref09_Valid s1).bind (fun t4 =>
    (if (!t4) = true then
      some (([] : List GEntry), 4)
    else
      some (s1, 0)))))))

def noongunlaw09_LedgerShifted (a0 : (List GEntry)) (a1 : (List GEntry)) (a2 : Int) (a3 : Int) : Option (Bool) :=
  (noongunlaw09_small a0).bind (fun t1 =>
  ((if (!t1) = true then
  some true
  else
  (noongunlaw09_small a1).bind (fun t2 =>
  some (!t2))) : Option Bool).bind (fun b1 =>
  (if b1 = true then
  (noongunlaw09_awake ).bind (fun t3 =>
  some t3)
  else
  (ledger_Shifted a0 a2).bind (fun o => match o with
    | (t4, t5) =>
      (noongunref09_Shifted a0 a2).bind (fun o => match o with
        | (t6, t7) =>
          (noongunref09_SameEntries t4 t6).bind (fun t8 =>
          (if ((!t8) || (t5 != t7)) = true then
            some false
          else
            (ledger_Merged a0 a1).bind (fun o => match o with
              | (t9, t10) =>
                ((
                  (if (t10 == 0) = true then
                    (ledger_Corrections a0).bind (fun o => match o with
                      | (t11, t12) =>
                        (ledger_Corrections a1).bind (fun o => match o with
                          | (t13, t14) =>
                            (ledger_Corrections t9).bind (fun o => match o with
                              | (t15, t16) =>
                                ((if (((t12 != 0) || (t14 != 0)) || (t16 != 0)) = true then
                                  some true
                                else
                                  (addI ((t11.length : Nat) : Int) ((t13.length : Nat) : Int)).bind (fun t17 =>
                                  some (decide (((t15.length : Nat) : Int) < t17)))) : Option Bool).bind (fun b2 =>
                                (if b2 = true then
                                  some (Ctl.ret false)
                                else
                                  some (Ctl.next ()))))))
                  else
                    some (Ctl.next ()))) : Option (Ctl (Unit) (Bool))).bind (fun o => match o with
                  | .next _ =>
                    (if (t5 != 0) = true then
                      (noongunlaw09_awake ).bind (fun t18 =>
                      some t18)
                    else
                      (negI a2).bind (fun t19 =>
                      (ledger_Shifted t4 t19).bind (fun o => match o with
                        | (t20, t21) =>
                          ((if (t21 != 0) = true then
                            some true
                          else
                            (noongunref09_SameEntries t20 a0).bind (fun t22 =>
                            some (!t22))) : Option Bool).bind (fun b3 =>
                          (if b3 = true then
                            some false
                          else
                            ((if ((decide (a3 < 0)) || (decide (182985 < a3))) = true then
                              some true
                            else
                              (addI a3 a2).bind (fun t23 =>
                              some (decide (t23 < 0)))) : Option Bool).bind (fun b4 =>
                            ((if b4 = true then
                              some true
                            else
                              (addI a3 a2).bind (fun t24 =>
                              some (decide (182985 < t24)))) : Option Bool).bind (fun b5 =>
                            (if b5 = true then
                              (noongunlaw09_awake ).bind (fun t25 =>
                              some t25)
                            else
                              (ledger_Off a0 a3).bind (fun o => match o with
                                | (t26, t27) =>
                                  (addI a3 a2).bind (fun t28 =>
                                  (ledger_Off t4 t28).bind (fun o => match o with
                                    | (t29, t30) =>
                                      ((if ((t26 == t29) && (t27 == t30)) = true then
                                        (noongunlaw09_awake ).bind (fun t31 =>
                                        some t31)
                                      else
                                        some false) : Option Bool).bind (fun b6 =>
                                      some b6))))))))))))
                  | .ret r => some r
                  | .exit _ _ => none)))))))))

def ledger_Last_c1 (a0 : GEntry) (a1 : GEntry) : Option (Int) :=
  (if (a0.Day != a1.Day) = true then
  (subI a0.Day a1.Day).bind (fun t1 =>
  some t1)
  else
  (if a0.Found = true then
    some 1
  else
    some (-1)))

def offsOf (kv : List (GKey × Int)) : List Int → Option (List (Int × Int))
  | [] => some []
  | d :: l => (ledger_page_off kv d).bind fun o => (offsOf kv l).bind fun r => some (if o.2 = true then (d, o.1) :: r else r)
def dedupI : List Int → List Int
  | [] => []
  | a :: l => if a ∈ l then dedupI l else a :: dedupI l
theorem mem_dedupI {x : Int} : ∀ {l : List Int}, x ∈ dedupI l ↔ x ∈ l
  | [] => Iff.rfl
  | a :: l => by
    rw [dedupI]
    split
    · rename_i h
      rw [mem_dedupI, List.mem_cons]
      exact ⟨.inr, fun h' => h'.elim (fun e => e ▸ h) id⟩
    · rw [List.mem_cons, List.mem_cons, mem_dedupI]
theorem nodup_dedupI : ∀ l : List Int, (dedupI l).Nodup
  | [] => List.nodup_nil
  | a :: l => by
    rw [dedupI]
    split
    · exact nodup_dedupI l
    · rename_i h
      exact List.nodup_cons.2 ⟨fun h' => h (mem_dedupI.1 h'), nodup_dedupI l⟩
def daysOf (kv : List (GKey × Int)) : List Int := (dedupI (kv.map fun p => p.1.day)).mergeSort fun x y => decide (x ≤ y)
def ledger_page_days_c1 (kv : List (GKey × Int)) : Option (List (Int × Int)) := if kv.length ≤ 1073741824 ∧ (kv.all fun p => inI p.1.day) = true then offsOf kv (daysOf kv) else none
def DaysOk (w : World) (ra : Nat) (kv : List (GKey × Int)) : Prop := ∃ kva : List (Int × Bool), MapOk w ra kva ∧ kva.length ≤ kv.length ∧ ∀ d, (∃ b, (d, b) ∈ kva) ↔ ∃ p ∈ kv, p.1.day = d
def daysI (ra : Nat) (kv : List (GKey × Int)) : Item := ⟨fun b => b = ra, fun w => DaysOk w ra kv, fun _ _ _ h ⟨kva, ⟨es, c, h1, h2⟩, h3⟩ => ⟨kva, ⟨es, c, (h ra rfl).trans h1, h2⟩, h3⟩⟩
theorem InvD.days {X : Nat → Prop} {w0 w : World} {L : List Item} (H : InvD X w0 w L) (i : Nat) {ra : Nat} {kv : List (GKey × Int)} (hi : L[i]? = some (daysI ra kv)) : DaysOk w ra kv := (H.items _ (List.mem_of_getElem? hi)).1
theorem mem_mput {α β : Type} [DecidableEq α] (kv : List (α × β)) (k : α) (v : β) (d : α) : (∃ b, (d, b) ∈ mput kv k v) ↔ d = k ∨ ∃ b, (d, b) ∈ kv := by
  unfold mput
  split
  · rename_i h
    obtain ⟨p, hp, he⟩ := List.any_eq_true.1 h
    have he : p.1 = k := by simpa using he
    constructor
    · rintro ⟨b, hb⟩
      obtain ⟨q, hq, e⟩ := List.mem_map.1 hb
      split at e
      · exact .inl (congrArg Prod.fst e).symm
      · subst e; exact .inr ⟨_, hq⟩
    · rintro (rfl | ⟨b, hb⟩)
      · exact ⟨v, List.mem_map.2 ⟨p, hp, by rw [if_pos (by simpa using he)]⟩⟩
      · by_cases hd : d = k
        · subst hd; exact ⟨v, List.mem_map.2 ⟨_, hb, by simp⟩⟩
        · exact ⟨b, List.mem_map.2 ⟨_, hb, by simp [hd]⟩⟩
  · constructor
    · rintro ⟨b, hb⟩
      rcases List.mem_append.1 hb with hb | hb
      · exact .inr ⟨b, hb⟩
      · obtain e := List.mem_singleton.1 hb
        exact .inl (congrArg Prod.fst e)
    · rintro (rfl | ⟨b, hb⟩)
      · exact ⟨v, List.mem_append.2 (.inr (List.mem_singleton.2 rfl))⟩
      · exact ⟨b, List.mem_append.2 (.inl hb)⟩
theorem mput_len {α β : Type} [DecidableEq α] (kv : List (α × β)) (k : α) (v : β) : (mput kv k v).length ≤ kv.length + 1 := by
  unfold mput
  split <;> simp

def ledger_those (a0 : (List GEntry)) (a1 : Int → Option (Bool)) : Option ((List Int)) :=
  (ledger_pageOf a0).bind (fun t1 =>
  (ledger_page_days_c1 t1).bind (fun xs1 =>
  ((
  rangeL (α := (Int × Int)) (S := (List Int)) (X := (List Int)) (fun _ x1 z2 =>
    ((
      (a1 x1.2).bind (fun t2 =>
      ((
        (if t2 = true then
          (appI z2 ([x1.1] : List Int)).bind (fun t3 =>
          some t3)
        else
          some z2)) : Option ((List Int))).bind (fun s3 =>
      some s3))) : Option ((List Int))).bind (fun s2 =>
    some (Step.cont s2))) (fun z2 => z2) xs1 0 ([] : List Int)) : Option ((List Int))).bind (fun s1 =>
  some s1)))

def ledger_Days_c1 (_  : Int) : Option (Bool) :=
  some true

def ledger_Days (a0 : (List GEntry)) : Option ((List Int) × Int) :=
  (ledger_Valid a0).bind (fun t1 =>
  (if (!t1) = true then
  some (([] : List Int), 1)
  else
  (ledger_those a0 (fun x0 => ledger_Days_c1 x0)).bind (fun t2 =>
  some (t2, 0))))

noncomputable def noongunref09_all (a0 : (List GEntry)) : Option ((List Int)) :=
  ((
  loopR (S := Int × (List Int)) (X := Ctl (Unit) ((List Int))) (fun (s : Int × (List Int)) => match s with
    | (z3, z4) =>
      ((
        ((
          rangeL (α := GEntry) (S := Int) (X := Int) (fun _   yk1 z8 =>
            ((
              ((
                (if ((decide (z3 < yk1.Day)) && ((decide (z8 < 0)) || (decide (yk1.Day < z8)))) = true then
                  some yk1.Day
                else
                  some z8)) : Option (Int)).bind (fun s5 =>
              some s5)) : Option (Int)).bind (fun s4 =>
            some (Step.cont s4))) (fun z8 => z8) a0 0 (-1)) : Option (Int)).bind (fun s3 =>
        (if (decide (s3 < 0)) = true then
          some (Ctl.ret z4)
        else
          (appI z4 ([s3] : List Int)).bind (fun t1 =>
          some (Ctl.next (s3, t1)))))) : Option (Ctl (Int × (List Int)) ((List Int)))).bind (fun o => match o with
        | .next (s1, s2) =>
          some (Step.cont (s1, s2))
        | .ret r => some (Step.done (Ctl.ret r))
        | .exit _ _ => none)) ((-1), ([] : List Int))) : Option (Ctl (Unit) ((List Int)))).bind (fun o => match o with
  | .next _ =>
    none
  | .ret r => some r
  | .exit _ _ => none)

noncomputable def noongunref09_days (a0 : (List GEntry)) : Option ((List Int)) :=
  (noongunref09_all a0).bind (fun t1 =>
  ((
  rangeL (α := Int) (S := (List Int)) (X := (List Int)) (fun _   yk1 z2 =>
    ((
      (noongunref09_off a0 yk1).bind (fun o => match o with
        | (_ , t3) =>
          ((
            (if t3 = true then
              (appI z2 ([yk1] : List Int)).bind (fun t4 =>
              some t4)
            else
              some z2)) : Option ((List Int))).bind (fun s3 =>
          some s3))) : Option ((List Int))).bind (fun s2 =>
    some (Step.cont s2))) (fun z2 => z2) t1 0 ([] : List Int)) : Option ((List Int))).bind (fun s1 =>
  some s1))

noncomputable def noongunref09_Days (a0 : (List GEntry)) : Option ((List Int) × Int) :=
  (noongunref09_Valid a0).bind (fun t1 =>
  (if (!t1) = true then
  some (([] : List Int), 1)
  else
  (noongunref09_days a0).bind (fun t2 =>
  some (t2, 0))))

def notFound (kv l : List (GKey × Int)) : List Int := (l.filter fun p => !p.1.found && !(mget kv (GKey.mk p.1.day true)).isSome).map fun p => p.1.day
def ledger_Unfound (a0 : (List GEntry)) : Option ((List Int) × Int) :=
  (ledger_Valid a0).bind (fun t1 =>
  (if (!t1) = true then
  some (([] : List Int), 1)
  else
  (ledger_pageOf a0).bind (fun t2 =>
  if t2.length ≤ 1073741824 then some ((notFound t2 t2).mergeSort (fun x y => decide (x ≤ y)), 0) else none)))

noncomputable def noongunref09_Unfound (a0 : (List GEntry)) : Option ((List Int) × Int) :=
  (noongunref09_Valid a0).bind (fun t1 =>
  (if (!t1) = true then
  some (([] : List Int), 1)
  else
  (noongunref09_all a0).bind (fun t2 =>
  ((
    rangeL (α := Int) (S := (List Int)) (X := (List Int)) (fun _   yk1 z2 =>
      ((
        (noongunref09_last a0 yk1 false).bind (fun o => match o with
          | (_ , t4) =>
            (noongunref09_last a0 yk1 true).bind (fun o => match o with
              | (_ , t6) =>
                ((
                  (if (t4 && (!t6)) = true then
                    (appI z2 ([yk1] : List Int)).bind (fun t7 =>
                    some t7)
                  else
                    some z2)) : Option ((List Int))).bind (fun s3 =>
                some s3)))) : Option ((List Int))).bind (fun s2 =>
      some (Step.cont s2))) (fun z2 => z2) t2 0 ([] : List Int)) : Option ((List Int))).bind (fun s1 =>
  some (s1, 0)))))

noncomputable def noongunref09_Corrections (a0 : (List GEntry)) : Option ((List Int) × Int) :=
  (noongunref09_Valid a0).bind (fun t1 =>
  (if (!t1) = true then
  some (([] : List Int), 1)
  else
  ((
    rangeN (S := (List Int)) (X := (List Int)) (fun ik1 z2 =>
      ((
        (idx a0 (ik1 : Int)).bind (fun x1 =>
        (cutI a0 0 (ik1 : Int)).bind (fun t2 =>
        (noongunref09_last t2 x1.Day x1.Found).bind (fun o => match o with
          | (_ , t4) =>
            ((
          (if t4 = true then
            (appI z2 ([(ik1 : Int)] : List Int)).bind (fun t5 =>
            some t5)
          else
            some z2)) : Option ((List Int))).bind (fun s3 =>
        some s3))))) : Option ((List Int))).bind (fun s2 =>
      some (Step.cont s2))) (fun z2 => z2) (Int.toNat ((a0.length : Nat) : Int)) 0 ([] : List Int)) : Option ((List Int))).bind (fun s1 =>
  some (s1, 0))))

noncomputable def noongunlaw09_LedgerDays (a0 : (List GEntry)) : Option (Bool) :=
  (noongunlaw09_small a0).bind (fun t1 =>
  (if (!t1) = true then
  (noongunlaw09_awake ).bind (fun t2 =>
  some t2)
  else
  (ledger_Days a0).bind (fun o => match o with
    | (t3, t4) =>
      (noongunref09_Days a0).bind (fun o => match o with
        | (t5, t6) =>
          (ledger_Unfound a0).bind (fun o => match o with
            | (t7, t8) =>
              (noongunref09_Unfound a0).bind (fun o => match o with
                | (t9, t10) =>
                  (ledger_Corrections a0).bind (fun o => match o with
                    | (t11, t12) =>
                      (noongunref09_Corrections a0).bind (fun o => match o with
                        | (t13, t14) =>
                          (noongunref09_SameInts t3 t5).bind (fun t15 =>
                          ((if (t15 && (t4 == t6)) = true then
                            (noongunref09_SameInts t7 t9).bind (fun t16 =>
                            some t16)
                          else
                            some false) : Option Bool).bind (fun b1 =>
                          ((if (b1 && (t8 == t10)) = true then
                            (noongunref09_SameInts t11 t13).bind (fun t17 =>
                            some t17)
                          else
                            some false) : Option Bool).bind (fun b2 =>
                          ((if (b2 && (t12 == t14)) = true then
                            (noongunlaw09_awake ).bind (fun t18 =>
                            some t18)
                          else
                            some false) : Option Bool).bind (fun b3 =>
                          some b3))))))))))))

def ledger_size (a0 : Int) : Option (Int) :=
  (negI a0).bind (fun t1 =>
  some (max a0 t1))

def ledger_Letters_c1 (a0 : Int) (c0 : Int) : Option (Bool) :=
  (ledger_size a0).bind (fun t1 =>
  some (decide (c0 < t1)))

def ledger_Letters (a0 : (List GEntry)) (a1 : Int) : Option ((List Int) × Int) :=
  (ledger_Valid a0).bind (fun t1 =>
  (if (!t1) = true then
  some (([] : List Int), 1)
  else
  (ledger_within a1 0 86400000).bind (fun t2 =>
  (if (!t2) = true then
    some (([] : List Int), 7)
  else
    (ledger_those a0 (fun x0 => ledger_Letters_c1 x0 a1)).bind (fun t3 =>
    some (t3, 0))))))

def ledger_Streak_c1 (a0 : Int) (c0 : Int) : Option (Bool) :=
  (ledger_size a0).bind (fun t1 =>
  some (decide (t1 ≤ c0)))

def ledger_Streak (a0 : (List GEntry)) (a1 : Int) : Option (Int × Int × Int) :=
  (ledger_Valid a0).bind (fun t1 =>
  (if (!t1) = true then
  some (0, 0, 1)
  else
  (ledger_within a1 0 86400000).bind (fun t2 =>
  (if (!t2) = true then
    some (0, 0, 7)
  else
    (ledger_those a0 (fun x0 => ledger_Streak_c1 x0 a1)).bind (fun t3 =>
    ((
      rangeL (α := Int) (S := Int × Int × Int × Int) (X := Int × Int) (fun _   yk1 s =>
      match s with
        | (z5, z6, z7, z8) =>
          ((
            (addI z8 1).bind (fun t4 =>
            ((
              (if (yk1 != t4) = true then
                some 0
              else
                some z7)) : Option (Int)).bind (fun s7 =>
            (addI s7 1).bind (fun t5 =>
            ((
              (if (decide (z6 < t5)) = true then
                (subI yk1 t5).bind (fun t6 =>
                (addI t6 1).bind (fun t7 =>
                some (t7, t5)))
              else
                some (z5, z6))) : Option (Int × Int)).bind (fun o => match o with
              | (s8, s9) =>
                some (s8, s9, t5, yk1)))))) : Option (Int × Int × Int × Int)).bind (fun o => match o with
            | (s3, s4, s5, s6) =>
              some (Step.cont (s3, s4, s5, s6)))) (fun s => match s with | (z5, z6, _ , _ ) => (z5, z6)) t3 0 (0, 0, 0, (-2))) : Option (Int × Int)).bind (fun o => match o with
      | (s1, s2) =>
        (if (s2 == 0) = true then
          some (0, 0, 8)
        else
          some (s1, s2, 0))))))))

def ledger_Worst (a0 : (List GEntry)) : Option (Int × Int) :=
  (ledger_Valid a0).bind (fun t1 =>
  (if (!t1) = true then
  some (0, 1)
  else
  (ledger_pageOf a0).bind (fun t2 =>
  (ledger_page_days_c1 t2).bind (fun xs1 =>
  ((
    rangeL (α := (Int × Int)) (S := Int × Int) (X := Int × Int) (fun _ x1 s =>
    match s with
      | (z3, z4) =>
        ((
          (ledger_size x1.2).bind (fun t3 =>
          ((
            (if (decide (z4 < t3)) = true then
              (ledger_size x1.2).bind (fun t4 =>
              some (x1.1, t4))
            else
              some (z3, z4))) : Option (Int × Int)).bind (fun o => match o with
            | (s5, s6) =>
              some (s5, s6)))) : Option (Int × Int)).bind (fun o => match o with
          | (s3, s4) =>
            some (Step.cont (s3, s4)))) (fun s => match s with | (z3, z4) => (z3, z4)) xs1 0 (0, (-1))) : Option (Int × Int)).bind (fun o => match o with
    | (s1, s2) =>
      (if (decide (s2 < 0)) = true then
        some (0, 8)
      else
        some (s1, 0)))))))

def noongunref09_Abs (a0 : Int) : Option (Int) :=
  (if (decide (a0 < 0)) = true then
  (negI a0).bind (fun t1 =>
  some t1)
  else
  some a0)

def noongunlaw09_LedgerLetters (a0 : (List GEntry)) (a1 : Int) : Option (Bool) :=
  (noongunlaw09_small a0).bind (fun t1 =>
  (if (!t1) = true then
  (noongunlaw09_awake ).bind (fun t2 =>
  some t2)
  else
  (ledger_Letters a0 a1).bind (fun o => match o with
    | (t3, t4) =>
      (if (t4 != 0) = true then
        ((if (((t3.length : Nat) : Int) == 0) = true then
          (noongunlaw09_awake ).bind (fun t5 =>
          some t5)
        else
          some false) : Option Bool).bind (fun b1 =>
        some b1)
      else
        (ledger_Days a0).bind (fun o => match o with
          | (t6, t7) =>
            (ledger_Streak a0 a1).bind (fun o => match o with
              | (t8, t9, t10) =>
                (ledger_Worst a0).bind (fun o => match o with
                  | (t11, t12) =>
                    (if (((t7 != 0) || ((t10 == 0) != (decide (((t3.length : Nat) : Int) < ((t6.length : Nat) : Int))))) || ((t12 == 0) != (decide (0 < ((t6.length : Nat) : Int))))) = true then
                      some false
                    else
                      ((
                        rangeL (α := Int) (S := Int × Int) (X := Ctl (Int × Int) (Bool)) (fun _   yk1 s =>
                        match s with
                          | (z3, z4) =>
                            ((
                              (ledger_Off a0 yk1).bind (fun o => match o with
                                | (t13, t14) =>
                                  (ledger_Off a0 t11).bind (fun o => match o with
                                    | (t15, t16) =>
                                      ((if ((t14 != 0) || (t16 != 0)) = true then
                                        some true
                                      else
                                        (noongunref09_Abs t13).bind (fun t17 =>
                                        (noongunref09_Abs t15).bind (fun t18 =>
                                        some (decide (t18 < t17))))) : Option Bool).bind (fun b2 =>
                                      (if b2 = true then
                                        some (Ctl.ret false)
                                      else
                                        ((if (decide (z3 < ((t3.length : Nat) : Int))) = true then
                                          (idx t3 z3).bind (fun x1 =>
                                          some (x1 == yk1))
                                        else
                                          some false) : Option Bool).bind (fun b3 =>
                                        (noongunref09_Abs t13).bind (fun t19 =>
                                        (if (b3 != (decide (a1 < t19))) = true then
                                          some (Ctl.ret false)
                                        else
                                          ((
                                            (if b3 = true then
                                              (addI z3 1).bind (fun t20 =>
                                              some t20)
                                            else
                                              some z3)) : Option (Int)).bind (fun s5 =>
                                          ((if ((t10 == 0) && (decide (t8 ≤ yk1))) = true then
                                            (addI t8 t9).bind (fun t21 =>
                                            some (decide (yk1 < t21)))
                                          else
                                            some false) : Option Bool).bind (fun b4 =>
                                          ((
                                            (if b4 = true then
                                              (if b3 = true then
                                                some (Ctl.ret false)
                                              else
                                                (addI z4 1).bind (fun t22 =>
                                                some (Ctl.next t22)))
                                            else
                                              some (Ctl.next z4))) : Option (Ctl (Int) (Bool))).bind (fun o => match o with
                                            | .next s6 =>
                                              some (Ctl.next (s5, s6))
                                            | .ret r => some (Ctl.ret r)
                                            | .exit _ _ => none))))))))))) : Option (Ctl (Int × Int) (Bool))).bind (fun o => match o with
                              | .next (s3, s4) =>
                                some (Step.cont (s3, s4))
                              | .ret r => some (Step.done (Ctl.ret r))
                              | .exit _ _ => none)) (fun s => match s with | (z3, z4) => Ctl.next (z3, z4)) t6 0 (0, 0)) : Option (Ctl (Int × Int) (Bool))).bind (fun o => match o with
                        | .next (s1, s2) =>
                          ((if ((s1 == ((t3.length : Nat) : Int)) && (s2 == t9)) = true then
                            (noongunlaw09_awake ).bind (fun t23 =>
                            some t23)
                          else
                            some false) : Option Bool).bind (fun b5 =>
                          some b5)
                        | .ret r => some r
                        | .exit _ _ => none)))))))))

noncomputable def noongunref09_Worst (a0 : (List GEntry)) : Option (Int × Int) :=
  (noongunref09_Valid a0).bind (fun t1 =>
  (if (!t1) = true then
  some (0, 1)
  else
  (noongunref09_days a0).bind (fun t2 =>
  ((
    rangeL (α := Int) (S := Int × Int) (X := Int) (fun _   yk1 s =>
    match s with
      | (z3, z4) =>
        ((
          (noongunref09_off a0 yk1).bind (fun o => match o with
            | (t3, _ ) =>
              (noongunref09_Abs t3).bind (fun t5 =>
              ((
                (if (decide (z4 < t5)) = true then
                  (noongunref09_Abs t3).bind (fun t6 =>
                  some (yk1, t6))
                else
                  some (z3, z4))) : Option (Int × Int)).bind (fun o => match o with
                | (s4, s5) =>
                  some (s4, s5))))) : Option (Int × Int)).bind (fun o => match o with
          | (s2, s3) =>
            some (Step.cont (s2, s3)))) (fun s => match s with | (z3, _ ) => z3) t2 0 ((-1), (-1))) : Option (Int)).bind (fun s1 =>
  (if (decide (s1 < 0)) = true then
    some (0, 8)
  else
    some (s1, 0))))))

def noongunref09_bounded (a0 : (List GEntry)) (a1 : Int) : Option (Int) :=
  (noongunref09_Valid a0).bind (fun t1 =>
  (if (!t1) = true then
  some 1
  else
  (if ((decide (a1 < 0)) || (decide (86400000 < a1))) = true then
    some 7
  else
    some 0)))

noncomputable def noongunref09_Streak (a0 : (List GEntry)) (a1 : Int) : Option (Int × Int × Int) :=
  (noongunref09_bounded a0 a1).bind (fun t1 =>
  (if (t1 != 0) = true then
  some (0, 0, t1)
  else
  (noongunref09_days a0).bind (fun t2 =>
  ((
    rangeL (α := Int) (S := Int × Int × Int × Int) (X := Int × Int) (fun _   yk1 s =>
    match s with
      | (z5, z6, z7, z8) =>
        ((
          (noongunref09_off a0 yk1).bind (fun o => match o with
            | (t3, _ ) =>
              (noongunref09_Abs t3).bind (fun t5 =>
              (if (decide (a1 < t5)) = true then
                some (z5, z6, z7, z8)
              else
                ((
                  (if (yk1 != z8) = true then
                    some yk1
                  else
                    some z7)) : Option (Int)).bind (fun s7 =>
                (addI yk1 1).bind (fun t6 =>
                (subI t6 s7).bind (fun t7 =>
                ((
                  (if (decide (z6 < t7)) = true then
                    (subI t6 s7).bind (fun t8 =>
                    some (s7, t8))
                  else
                    some (z5, z6))) : Option (Int × Int)).bind (fun o => match o with
                  | (s8, s9) =>
                    some (s8, s9, s7, t6))))))))) : Option (Int × Int × Int × Int)).bind (fun o => match o with
          | (s3, s4, s5, s6) =>
            some (Step.cont (s3, s4, s5, s6)))) (fun s => match s with | (z5, z6, _ , _ ) => (z5, z6)) t2 0 (0, 0, 0, (-1))) : Option (Int × Int)).bind (fun o => match o with
    | (s1, s2) =>
      (if (s2 == 0) = true then
        some (0, 0, 8)
      else
        some (s1, s2, 0))))))

noncomputable def noongunref09_Letters (a0 : (List GEntry)) (a1 : Int) : Option ((List Int) × Int) :=
  (noongunref09_bounded a0 a1).bind (fun t1 =>
  (if (t1 != 0) = true then
  some (([] : List Int), t1)
  else
  (noongunref09_days a0).bind (fun t2 =>
  ((
    rangeL (α := Int) (S := (List Int)) (X := (List Int)) (fun _   yk1 z2 =>
      ((
        (noongunref09_off a0 yk1).bind (fun o => match o with
          | (t3, _ ) =>
            (noongunref09_Abs t3).bind (fun t5 =>
            ((
              (if (decide (a1 < t5)) = true then
                (appI z2 ([yk1] : List Int)).bind (fun t6 =>
                some t6)
              else
                some z2)) : Option ((List Int))).bind (fun s3 =>
            some s3)))) : Option ((List Int))).bind (fun s2 =>
      some (Step.cont s2))) (fun z2 => z2) t2 0 ([] : List Int)) : Option ((List Int))).bind (fun s1 =>
  some (s1, 0)))))

def ledger_Fine (a0 : (List GEntry)) (a1 : Int) (a2 : Int) : Option (Int × Int) :=
  (ledger_Letters a0 a1).bind (fun o => match o with
  | (t1, t2) =>
    (if (t2 != 0) = true then
      some (0, t2)
    else
      (ledger_within a2 0 1000000).bind (fun t3 =>
      (if (!t3) = true then
        some (0, 7)
      else
        (mulI a2 ((t1.length : Nat) : Int)).bind (fun t4 =>
        some (t4, 0))))))

noncomputable def noongunref09_Fine (a0 : (List GEntry)) (a1 : Int) (a2 : Int) : Option (Int × Int) :=
  (noongunref09_Letters a0 a1).bind (fun o => match o with
  | (t1, t2) =>
    (if (t2 != 0) = true then
      some (0, t2)
    else
      (if ((decide (a2 < 0)) || (decide (1000000 < a2))) = true then
        some (0, 7)
      else
        (mulI a2 ((t1.length : Nat) : Int)).bind (fun t3 =>
        some (t3, 0)))))

noncomputable def noongunlaw09_LedgerWorst (a0 : (List GEntry)) (a1 : Int) (a2 : Int) : Option (Bool) :=
  (noongunlaw09_small a0).bind (fun t1 =>
  (if (!t1) = true then
  (noongunlaw09_awake ).bind (fun t2 =>
  some t2)
  else
  (ledger_Worst a0).bind (fun o => match o with
    | (t3, t4) =>
      (noongunref09_Worst a0).bind (fun o => match o with
        | (t5, t6) =>
          (ledger_Streak a0 a1).bind (fun o => match o with
            | (t7, t8, t9) =>
              (noongunref09_Streak a0 a1).bind (fun o => match o with
                | (t10, t11, t12) =>
                  (ledger_Letters a0 a1).bind (fun o => match o with
                    | (t13, t14) =>
                      (noongunref09_Letters a0 a1).bind (fun o => match o with
                        | (t15, t16) =>
                          (ledger_Fine a0 a1 a2).bind (fun o => match o with
                            | (t17, t18) =>
                              (noongunref09_Fine a0 a1 a2).bind (fun o => match o with
                                | (t19, t20) =>
                                  ((if (((((t3 == t5) && (t4 == t6)) && (t7 == t10)) && (t8 == t11)) && (t9 == t12)) = true then
                                    (noongunref09_SameInts t13 t15).bind (fun t21 =>
                                    some t21)
                                  else
                                    some false) : Option Bool).bind (fun b1 =>
                                  ((if (((b1 && (t14 == t16)) && (t17 == t19)) && (t18 == t20)) = true then
                                    (noongunlaw09_awake ).bind (fun t22 =>
                                    some t22)
                                  else
                                    some false) : Option Bool).bind (fun b2 =>
                                  some b2))))))))))))

def ledger_stretch (a0 : (List GEntry)) (a1 : Int) (a2 : Int) : Option ((List Int) × Int) :=
  (ledger_Valid a0).bind (fun t1 =>
  (if (!t1) = true then
  some (([] : List Int), 1)
  else
  (ledger_isDay a1).bind (fun t2 =>
  ((if (!t2) = true then
    some true
  else
    (ledger_isDay a2).bind (fun t3 =>
    some (!t3))) : Option Bool).bind (fun b3 =>
  (if (b3 || (decide (a2 < a1))) = true then
    some (([] : List Int), 7)
  else
    (ledger_pageOf a0).bind (fun t4 =>
    (ledger_page_days_c1 t4).bind (fun xs1 =>
    ((
      rangeL (α := (Int × Int)) (S := (List Int)) (X := (List Int)) (fun _ x1 z2 =>
        ((
          (ledger_within x1.1 a1 a2).bind (fun t5 =>
          ((
            (if t5 = true then
              (appI z2 ([x1.2] : List Int)).bind (fun t6 =>
              some t6)
            else
              some z2)) : Option ((List Int))).bind (fun s3 =>
          some s3))) : Option ((List Int))).bind (fun s2 =>
        some (Step.cont s2))) (fun z2 => z2) xs1 0 ([] : List Int)) : Option ((List Int))).bind (fun s1 =>
    some (s1, 0)))))))))

def ledger_total (a0 : (List Int)) : Option (Int) :=
  ((
  rangeL (α := Int) (S := Int) (X := Int) (fun _   yk1 z2 =>
    (addI z2 yk1).bind (fun t1 =>
    some (Step.cont t1))) (fun z2 => z2) a0 0 0) : Option (Int)).bind (fun s1 =>
  some s1)

def ledger_Sum (a0 : (List GEntry)) (a1 : Int) (a2 : Int) : Option (Int × Int) :=
  (ledger_stretch a0 a1 a2).bind (fun o => match o with
  | (t1, t2) =>
    (ledger_total t1).bind (fun t3 =>
    some (t3, t2)))

noncomputable def noongunref09_stretch (a0 : (List GEntry)) (a1 : Int) (a2 : Int) : Option (Int × Int × Int) :=
  (noongunref09_Valid a0).bind (fun t1 =>
  (if (!t1) = true then
  some (0, 0, 1)
  else
  (noongunref09_day a1).bind (fun t2 =>
  ((if (!t2) = true then
    some true
  else
    (noongunref09_day a2).bind (fun t3 =>
    some (!t3))) : Option Bool).bind (fun b1 =>
  (if (b1 || (decide (a2 < a1))) = true then
    some (0, 0, 7)
  else
    (noongunref09_days a0).bind (fun t4 =>
    ((
      rangeL (α := Int) (S := Int × Int) (X := Int × Int) (fun _   yk1 s =>
      match s with
        | (z3, z4) =>
          ((
            ((
              (if ((decide (a1 ≤ yk1)) && (decide (yk1 ≤ a2))) = true then
                (noongunref09_off a0 yk1).bind (fun o => match o with
                  | (t5, _ ) =>
                    (addI z3 t5).bind (fun t7 =>
                    (addI z4 1).bind (fun t8 =>
                    some (t7, t8))))
              else
                some (z3, z4))) : Option (Int × Int)).bind (fun o => match o with
              | (s5, s6) =>
                some (s5, s6))) : Option (Int × Int)).bind (fun o => match o with
            | (s3, s4) =>
              some (Step.cont (s3, s4)))) (fun s => match s with | (z3, z4) => (z3, z4)) t4 0 (0, 0)) : Option (Int × Int)).bind (fun o => match o with
      | (s1, s2) =>
        some (s1, s2, 0))))))))

noncomputable def noongunref09_Sum (a0 : (List GEntry)) (a1 : Int) (a2 : Int) : Option (Int × Int) :=
  (noongunref09_stretch a0 a1 a2).bind (fun o => match o with
  | (t1, _ , t3) =>
    some (t1, t3))

noncomputable def span_divisor (a0 : Int) (a1 : Int) : Option (Int) :=
  ((
  loopR (S := Int × Int) (X := Int) (fun (s : Int × Int) => match s with
    | (z3, z4) =>
      (if (z4 != 0) = true then
        (remI z3 z4).bind (fun t1 =>
        some (Step.cont (z4, t1)))
      else
        some (Step.done z3))) (a0, a1)) : Option (Int)).bind (fun s1 =>
  (negI s1).bind (fun t2 =>
  some (max s1 t2)))

noncomputable def span_quotient_reduce (a0 : GQuotient) : Option (GQuotient) :=
  (span_divisor a0.n a0.d).bind (fun t1 =>
  ((
  (if (decide (a0.d < 0)) = true then
    (negI t1).bind (fun t2 =>
    some t2)
  else
    some t1)) : Option (Int)).bind (fun s1 =>
  (quoI a0.n s1).bind (fun t3 =>
  (quoI a0.d s1).bind (fun t4 =>
  some (GQuotient.mk t3 t4)))))

noncomputable def span_ValidRatio (a0 : GRatio) : Option (Bool) :=
  ((if ((((decide (1 ≤ a0.D)) && (decide (a0.D ≤ 1000000000))) && (decide ((-1000000000) ≤ a0.N))) && (decide (a0.N ≤ 1000000000))) = true then
  (span_divisor a0.N a0.D).bind (fun t1 =>
  some (t1 == 1))
  else
  some false) : Option Bool).bind (fun b2 =>
  some b2)

noncomputable def span_lowest (a0 : Int) (a1 : Int) : Option (GRatio × Int) :=
  (span_quotient_reduce (GQuotient.mk a0 a1)).bind (fun t1 =>
  (span_ValidRatio (GRatio.mk t1.n t1.d)).bind (fun t2 =>
  (if t2 = true then
  some ((GRatio.mk t1.n t1.d), 0)
  else
  some ((GRatio.mk 0 0), 4))))

noncomputable def span_Make (a0 : Int) (a1 : Int) : Option (GRatio × Int) :=
  (if (((((decide (a0 < (-1000000000000000000))) || (decide (1000000000000000000 < a0))) || (decide (a1 < (-1000000000000000000)))) || (decide (1000000000000000000 < a1))) || (a1 == 0)) = true then
  some ((GRatio.mk 0 0), 7)
  else
  (span_lowest a0 a1).bind (fun o => match o with
    | (t1, t2) =>
      some (t1, t2)))

noncomputable def ledger_Mean (a0 : (List GEntry)) (a1 : Int) (a2 : Int) : Option (GRatio × Int) :=
  (ledger_stretch a0 a1 a2).bind (fun o => match o with
  | (t1, t2) =>
    (if (t2 != 0) = true then
      some ((GRatio.mk 0 0), t2)
    else
      (if (((t1.length : Nat) : Int) == 0) = true then
        some ((GRatio.mk 0 0), 8)
      else
        (ledger_total t1).bind (fun t3 =>
        (span_Make t3 ((t1.length : Nat) : Int)).bind (fun o => match o with
          | (t4, t5) =>
            some (t4, t5))))))

noncomputable def noongunref09_Mean (a0 : (List GEntry)) (a1 : Int) (a2 : Int) : Option (GRatio × Int) :=
  (noongunref09_stretch a0 a1 a2).bind (fun o => match o with
  | (t1, t2, t3) =>
    (if (t3 != 0) = true then
      some ((GRatio.mk 0 0), t3)
    else
      (if (t2 == 0) = true then
        some ((GRatio.mk 0 0), 8)
      else
        (noongunref09_Abs t1).bind (fun t4 =>
        ((
          loopR (S := Int × Int) (X := Int) (fun (s : Int × Int) => match s with
            | (z3, z4) =>
              (if (decide (0 < z4)) = true then
                (remI z3 z4).bind (fun t5 =>
                some (Step.cont (z4, t5)))
              else
                some (Step.done z3))) (t4, t2)) : Option (Int)).bind (fun s1 =>
        (quoI t1 s1).bind (fun t6 =>
        (quoI t2 s1).bind (fun t7 =>
        (noongunref09_Abs t6).bind (fun t8 =>
        (if (decide (1000000000 < t8)) = true then
          some ((GRatio.mk 0 0), 4)
        else
          some ((GRatio.mk t6 t7), 0))))))))))

noncomputable def noongunlaw09_LedgerSums (a0 : (List GEntry)) (a1 : Int) (a2 : Int) (a3 : Int) : Option (Bool) :=
  (noongunlaw09_small a0).bind (fun t1 =>
  (if (!t1) = true then
  (noongunlaw09_awake ).bind (fun t2 =>
  some t2)
  else
  (ledger_Sum a0 a1 a2).bind (fun o => match o with
    | (t3, t4) =>
      (noongunref09_Sum a0 a1 a2).bind (fun o => match o with
        | (t5, t6) =>
          (ledger_Mean a0 a1 a2).bind (fun o => match o with
            | (t7, t8) =>
              (noongunref09_Mean a0 a1 a2).bind (fun o => match o with
                | (t9, t10) =>
                  (if ((((t3 != t5) || (t4 != t6)) || (!(t7 == t9))) || (t8 != t10)) = true then
                    some false
                  else
                    (if (t4 != 0) = true then
                      (noongunlaw09_awake ).bind (fun t11 =>
                      some t11)
                    else
                      (ledger_Days a0).bind (fun o => match o with
                        | (t12, t13) =>
                          (if (t13 != 0) = true then
                            some false
                          else
                            ((
                              rangeL (α := Int) (S := Int) (X := Ctl (Int) (Bool)) (fun _   yk1 z2 =>
                                ((
                                  (ledger_Off a0 yk1).bind (fun o => match o with
                                    | (t14, t15) =>
                                      (if (t15 != 0) = true then
                                        some (Ctl.ret false)
                                      else
                                        ((
                                          (if ((decide (a1 ≤ yk1)) && (decide (yk1 ≤ a2))) = true then
                                            (addI z2 t14).bind (fun t16 =>
                                            some t16)
                                          else
                                            some z2)) : Option (Int)).bind (fun s3 =>
                                        some (Ctl.next s3))))) : Option (Ctl (Int) (Bool))).bind (fun o => match o with
                                  | .next s2 =>
                                    some (Step.cont s2)
                                  | .ret r => some (Step.done (Ctl.ret r))
                                  | .exit _ _ => none)) (fun z2 => Ctl.next z2) t12 0 0) : Option (Ctl (Int) (Bool))).bind (fun o => match o with
                              | .next s1 =>
                                (if (((s1 != t3) || (decide (a3 ≤ a2))) || (decide (182985 < a3))) = true then
                                  ((if (s1 == t3) = true then
                                    (noongunlaw09_awake ).bind (fun t17 =>
                                    some t17)
                                  else
                                    some false) : Option Bool).bind (fun b3 =>
                                  some b3)
                                else
                                  (addI a2 1).bind (fun t18 =>
                                  (ledger_Sum a0 t18 a3).bind (fun o => match o with
                                    | (t19, t20) =>
                                      (ledger_Sum a0 a1 a3).bind (fun o => match o with
                                        | (t21, t22) =>
                                          ((if ((t20 == 0) && (t22 == 0)) = true then
                                            (addI t3 t19).bind (fun t23 =>
                                            some (t23 == t21))
                                          else
                                            some false) : Option Bool).bind (fun b4 =>
                                          ((if b4 = true then
                                            (noongunlaw09_awake ).bind (fun t24 =>
                                            some t24)
                                          else
                                            some false) : Option Bool).bind (fun b5 =>
                                          some b5))))))
                              | .ret r => some r
                              | .exit _ _ => none)))))))))))

end Go.Fw
