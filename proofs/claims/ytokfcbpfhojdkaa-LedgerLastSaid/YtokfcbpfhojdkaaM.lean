/-
  What the functions compute, as functions of the values: written by a program from the functions. No condition.
-/
import Derived.Test.YtokfcbpfhojdkaaFwJ
import Derived.Test.YtokfcbpfhojdkaaFwU
import Derived.Test.YtokfcbpfhojdkaaFwPd
import Derived.Test.YtokfcbpfhojdkaaFwW
namespace Go.Fw
structure GEntry where
  Day : Int
  Found : Bool
  Error : Int
  deriving DecidableEq
instance : Flat GEntry := ⟨3, fun a => .agg #[.int .i64 a.Day, .bool a.Found, .int .i64 a.Error], fun a => [.int .i64 a.Day, .bool a.Found, .int .i64 a.Error], fun _ => rfl, fun _ => rfl, by simp [Value.oneCell'], by decide⟩

structure GKey where
  day : Int
  found : Bool
  deriving DecidableEq
instance : Flat GKey := ⟨2, fun a => .agg #[.int .i64 a.day, .bool a.found], fun a => [.int .i64 a.day, .bool a.found], fun _ => rfl, fun _ => rfl, by simp [Value.oneCell'], by decide⟩

def okGEntry (a : GEntry) : Prop := inI a.Day = true ∧ True ∧ inI a.Error = true
def noongunlaw09_small (a0 : (List GEntry)) : Option (Bool) :=
  some (decide (((a0.length : Nat) : Int) ≤ 30))

def ledger_page_off (a0 : (List (GKey × Int))) (a1 : Int) : Option (Int × Bool) :=
  (subI ((mget a0 (GKey.mk a1 true)).getD 0) ((mget a0 (GKey.mk a1 false)).getD 0)).bind (fun t1 =>
  some (t1, ((mget a0 (GKey.mk a1 false)).isSome && (mget a0 (GKey.mk a1 true)).isSome)))

def ledger_Off_c1 (a0 : (List (GKey × Int))) (c0 : Int) : Option (Int × Bool) :=
  (ledger_page_off a0 c0).bind (fun o => match o with
  | (t1, t2) =>
    some (t1, t2))

def slices_IndexFunc_Entry (a0 : (List GEntry)) (a1 : GEntry → Option (Bool)) : Option (Int) :=
  ((
  rangeN (S := Unit) (X := Ctl (Unit) (Int)) (fun ik1 _ =>
    (idx a0 (ik1 : Int)).bind (fun x1 =>
    (a1 x1).bind (fun t1 =>
    (if t1 = true then
      some (Step.done (Ctl.ret (ik1 : Int)))
    else
      some (Step.cont ()))))) (fun _ => Ctl.next ()) (Int.toNat ((a0.length : Nat) : Int)) 0 ()) : Option (Ctl (Unit) (Int))).bind (fun o => match o with
  | .next _ =>
    some (-1)
  | .ret r => some r
  | .exit _ _ => none)

def slices_ContainsFunc_Entry (a0 : (List GEntry)) (a1 : GEntry → Option (Bool)) : Option (Bool) :=
  (slices_IndexFunc_Entry a0 a1).bind (fun t1 =>
  some (decide (0 ≤ t1)))

def ledger_within (a0 : Int) (a1 : Int) (a2 : Int) : Option (Bool) :=
  some ((decide (a1 ≤ a0)) && (decide (a0 ≤ a2)))

def ledger_fine (a0 : GEntry) : Option (Bool) :=
  (ledger_within a0.Day 0 182985).bind (fun t1 =>
  ((if t1 = true then
  (ledger_within a0.Error (-86400000) 86400000).bind (fun t2 =>
  some t2)
  else
  some false) : Option Bool).bind (fun b2 =>
  some b2))

def ledger_Valid_c1 (a0 : GEntry) : Option (Bool) :=
  (ledger_fine a0).bind (fun t1 =>
  some (!t1))

def ledger_Valid (a0 : (List GEntry)) : Option (Bool) :=
  ((if (decide (((a0.length : Nat) : Int) ≤ 1000)) = true then
  (slices_ContainsFunc_Entry a0 (fun x0 => ledger_Valid_c1 x0)).bind (fun t1 =>
  some (!t1))
  else
  some false) : Option Bool).bind (fun b1 =>
  some b1)

def ledger_isDay (a0 : Int) : Option (Bool) :=
  (ledger_within a0 0 182985).bind (fun t1 =>
  some t1)

def ledger_of (a0 : GEntry) : Option (GKey) :=
  some (GKey.mk a0.Day a0.Found)

def ledger_pageOf (a0 : (List GEntry)) : Option ((List (GKey × Int))) :=
  ((
  rangeL (α := GEntry) (S := (List (GKey × Int))) (X := (List (GKey × Int))) (fun ik1 yk1 z2 =>
    (ledger_of yk1).bind (fun t1 =>
    some (Step.cont (mput z2 t1 yk1.Error)))) (fun z2 => z2) a0 0 ([] : List (GKey × Int))) : Option ((List (GKey × Int)))).bind (fun s1 =>
  some s1)

def ledger_told (a0 : (List GEntry)) (a1 : Int) (a2 : (List (GKey × Int)) → Option (Int × Bool)) : Option (Int × Int) :=
  (ledger_Valid a0).bind (fun t1 =>
  (if (!t1) = true then
  some (0, 1)
  else
  (ledger_isDay a1).bind (fun t2 =>
  (if (!t2) = true then
    some (0, 7)
  else
    (ledger_pageOf a0).bind (fun t3 =>
    (a2 t3).bind (fun o => match o with
      | (t4, t5) =>
        (if (!t5) = true then
          some (0, 8)
        else
          some (t4, 0))))))))

def ledger_Off (a0 : (List GEntry)) (a1 : Int) : Option (Int × Int) :=
  (ledger_told a0 a1 (fun x0 => ledger_Off_c1 x0 a1)).bind (fun o => match o with
  | (t1, t2) =>
    some (t1, t2))

def ledger_Corrections (a0 : (List GEntry)) : Option ((List Int) × Int) :=
  (ledger_Valid a0).bind (fun t1 =>
  (if (!t1) = true then
  some (([] : List Int), 1)
  else
  ((
    rangeN (S := (List (GKey × Bool)) × (List Int)) (X := (List Int)) (fun ik1 s =>
    match s with
      | (z3, z4) =>
        ((
          (idx a0 (ik1 : Int)).bind (fun x1 =>
          (ledger_of x1).bind (fun t2 =>
          ((
            (if ((mget z3 t2).getD false) = true then
              (appI z4 ([(ik1 : Int)] : List Int)).bind (fun t3 =>
              some t3)
            else
              some z4)) : Option ((List Int))).bind (fun s4 =>
          (ledger_of x1).bind (fun t4 =>
          some ((mput z3 t4 true), s4)))))) : Option ((List (GKey × Bool)) × (List Int))).bind (fun o => match o with
          | (s2, s3) =>
            some (Step.cont (s2, s3)))) (fun s => match s with | (z3, z4) => z4) (Int.toNat ((a0.length : Nat) : Int)) 0 (([] : List (GKey × Bool)), ([] : List Int))) : Option ((List Int))).bind (fun s1 =>
  some (s1, 0))))

def noongunref09_SameInts (a0 : (List Int)) (a1 : (List Int)) : Option (Bool) :=
  (if (((a0.length : Nat) : Int) != ((a1.length : Nat) : Int)) = true then
  some false
  else
  ((
    rangeN (S := Unit) (X := Ctl (Unit) (Bool)) (fun ik1 _ =>
      (idx a0 (ik1 : Int)).bind (fun x1 =>
      (idx a1 (ik1 : Int)).bind (fun x2 =>
      (if (x1 != x2) = true then
        some (Step.done (Ctl.ret false))
      else
        some (Step.cont ()))))) (fun _ => Ctl.next ()) (Int.toNat ((a0.length : Nat) : Int)) 0 ()) : Option (Ctl (Unit) (Bool))).bind (fun o => match o with
    | .next _ =>
      some true
    | .ret r => some r
    | .exit _ _ => none))

def noongunlaw09_awake  : Option (Bool) :=
  (ledger_Off ([(GEntry.mk 5 false 100), (GEntry.mk 5 true 180), (GEntry.mk 6 false 90), (GEntry.mk 5 true 170)] : List GEntry) 5).bind (fun o => match o with
  | (t1, t2) =>
    (ledger_Corrections ([(GEntry.mk 5 false 100), (GEntry.mk 5 true 180), (GEntry.mk 6 false 90), (GEntry.mk 5 true 170)] : List GEntry)).bind (fun o => match o with
      | (t3, t4) =>
        ((if (((t2 == 0) && (t1 == 70)) && (t4 == 0)) = true then
          (noongunref09_SameInts t3 ([3] : List Int)).bind (fun t5 =>
          some t5)
        else
          some false) : Option Bool).bind (fun b1 =>
        some b1)))

instance : Inhabited GEntry := ⟨⟨0, false, 0⟩⟩
/-- What the comparison of ledger.Last answers. -/
def lastC (x y : GEntry) : Int := if x.Day ≠ y.Day then IntKind.i64.wrap (x.Day - y.Day) else if x.Found = true then 1 else -1
/-- The order that it is at different entries of one row. -/
def lastLt (x y : GEntry) : Bool := decide (x.Day < y.Day) || (decide (x.Day = y.Day) && (!x.Found && y.Found))
theorem lastLt_iff {x y : GEntry} : lastLt x y = true ↔ x.Day < y.Day ∨ (x.Day = y.Day ∧ x.Found = false ∧ y.Found = true) := by
  unfold lastLt
  simp
theorem lastLt_not {x y : GEntry} : lastLt x y = false ↔ y.Day < x.Day ∨ (x.Day = y.Day ∧ (x.Found = true ∨ y.Found = false)) := by
  rw [← Bool.not_eq_true, lastLt_iff]
  constructor
  · intro h
    by_cases e : x.Day = y.Day
    · refine .inr ⟨e, ?_⟩
      cases hx : x.Found with
      | true => exact .inl rfl
      | false =>
        cases hy : y.Found with
        | false => exact .inr rfl
        | true => exact absurd (.inr ⟨e, hx, hy⟩) h
    · refine .inl ?_
      by_cases l : x.Day < y.Day
      · exact absurd (.inl l) h
      · omega
  · rintro (h | ⟨e, h⟩) (k | ⟨k, k1, k2⟩)
    · omega
    · omega
    · omega
    · rcases h with h | h
      · rw [h] at k1; cases k1
      · rw [h] at k2; cases k2
theorem lastLt_swo : Go.Sort.SWO lastLt where
  irrefl x := lastLt_not.2 (.inr ⟨rfl, by cases x.Found <;> simp⟩)
  trans x y z h k := by
    rw [lastLt_iff] at h k ⊢
    rcases h with h | ⟨h, h1, h2⟩ <;> rcases k with k | ⟨k, k1, k2⟩
    · exact .inl (by omega)
    · exact .inl (by omega)
    · exact .inl (by omega)
    · rw [h2] at k1; cases k1
  ntrans x y z h k := by
    rw [lastLt_not] at h k ⊢
    rcases h with h | ⟨h, h1⟩ <;> rcases k with k | ⟨k, k1⟩
    · exact .inl (by omega)
    · exact .inl (by omega)
    · exact .inl (by omega)
    · refine .inr ⟨by omega, ?_⟩
      rcases h1 with h1 | h1
      · exact .inl h1
      · rcases k1 with k1 | k1
        · rw [h1] at k1; cases k1
        · exact .inr k1
/-- A row whose entries differ in their day or their kind. -/
def lastOk (xs : List GEntry) : Bool := xs.all (fun x => decide (0 ≤ x.Day) && decide (x.Day ≤ 1000000)) && decide ((xs.map fun x => (x.Day, x.Found)).Nodup)
def lastSort (xs : List GEntry) : List GEntry := (Go.Sort.pdq lastLt xs.toArray 0 xs.length (Lib.bitLen xs.length) true true).toList
def sortLast (xs : List GEntry) : Option (List GEntry) := if xs.length ≤ 1073741824 ∧ lastOk xs = true then some (lastSort xs) else none
theorem sortLast_some {xs ys : List GEntry} (h : sortLast xs = some ys) : xs.length ≤ 1073741824 ∧ lastOk xs = true ∧ lastSort xs = ys := by
  unfold sortLast at h
  split at h
  · rename_i hl; exact ⟨hl.1, hl.2, Option.some.inj h⟩
  · cases h
theorem last_inj {xs : List GEntry} (h : (xs.map fun x => (x.Day, x.Found)).Nodup) : ∀ x ∈ xs, ∀ y ∈ xs, x.Day = y.Day → x.Found = y.Found → x = y := by
  induction xs with
  | nil => intro x hx; cases hx
  | cons a l ih =>
    rw [List.map_cons, List.nodup_cons] at h
    have hno : ∀ z ∈ l, ¬ (a.Day = z.Day ∧ a.Found = z.Found) := fun z hz e => h.1 (List.mem_map.2 ⟨z, hz, by rw [e.1, e.2]⟩)
    intro x hx y hy e1 e2
    rcases List.mem_cons.1 hx with hx1 | hx1 <;> rcases List.mem_cons.1 hy with hy1 | hy1
    · exact hx1.trans hy1.symm
    · exact absurd ⟨by rw [← e1, hx1], by rw [← e2, hx1]⟩ (hno y hy1)
    · exact absurd ⟨by rw [e1, hy1], by rw [e2, hy1]⟩ (hno x hx1)
    · exact ih h.2 x hx1 y hy1 e1 e2
theorem last_nodup {xs : List GEntry} (h : (xs.map fun x => (x.Day, x.Found)).Nodup) : xs.Nodup := by
  induction xs with
  | nil => exact List.nodup_nil
  | cons a l ih =>
    rw [List.map_cons, List.nodup_cons] at h
    rw [List.nodup_cons]
    exact ⟨fun hm => h.1 (List.mem_map.2 ⟨a, hm, rfl⟩), ih h.2⟩
theorem last_ag {xs : List GEntry} (h : lastOk xs = true) : Go.Sort.AgP (Go.Proofs.ltOf lastC) lastLt xs.toArray := by
  unfold lastOk at h
  rw [Bool.and_eq_true, List.all_eq_true, decide_eq_true_eq] at h
  obtain ⟨hb, hn⟩ := h
  refine ⟨last_nodup hn, fun x hx y hy hne => ?_⟩
  have bx := hb x hx
  have by_ := hb y hy
  rw [Bool.and_eq_true, decide_eq_true_eq, decide_eq_true_eq] at bx by_
  show decide (lastC x y < 0) = _
  unfold lastC
  by_cases e : x.Day = y.Day
  · have hf : x.Found ≠ y.Found := fun h => hne (last_inj hn x hx y hy e h)
    rw [if_neg (by simpa using e)]
    cases hx2 : x.Found with
    | true => rw [if_pos rfl]; exact (lastLt_not.2 (.inr ⟨e, .inl hx2⟩)).symm
    | false =>
      rw [if_neg (by decide)]
      have : y.Found = true := by
        cases hy2 : y.Found with
        | true => rfl
        | false => exact absurd (hx2.trans hy2.symm) hf
      exact (lastLt_iff.2 (.inr ⟨e, hx2, this⟩)).symm
  · rw [if_pos e, IntWalk.i64_in _ (by omega)]
    by_cases l : x.Day < y.Day
    · rw [lastLt_iff.2 (.inl l)]
      exact decide_eq_true (by omega)
    · rw [lastLt_not.2 (.inl (by omega))]
      exact decide_eq_false (by omega)
theorem lastSort_facts (xs : List GEntry) : (lastSort xs).Perm xs ∧ (lastSort xs).Pairwise fun a b => lastLt b a = false := by
  obtain ⟨⟨h1, -, h3⟩, h4⟩ := Go.Sort.pdq_sorts lastLt lastLt_swo xs.toArray 0 xs.length (Lib.bitLen xs.length) true true (Nat.zero_le _) (by simp) (Or.inl rfl)
  have hs : (Go.Sort.pdq lastLt xs.toArray 0 xs.length (Lib.bitLen xs.length) true true).size = xs.length := by simpa using h1
  constructor
  · unfold lastSort
    rw [Array.extract_eq_self_of_le (by omega)] at h3
    simpa using h3
  · rw [List.pairwise_iff_getElem]
    intro i j hi hj hij
    have hi' : i < (Go.Sort.pdq lastLt xs.toArray 0 xs.length (Lib.bitLen xs.length) true true).size := by simpa [lastSort] using hi
    have hj' : j < (Go.Sort.pdq lastLt xs.toArray 0 xs.length (Lib.bitLen xs.length) true true).size := by simpa [lastSort] using hj
    have := h4 i j (Nat.zero_le _) hij (by omega)
    rw [getElem!_pos _ i hi', getElem!_pos _ j hj'] at this
    simpa [lastSort] using this

def entsOf (kv : List (GKey × Int)) : List GEntry := kv.map fun p => ⟨p.1.day, p.1.found, p.2⟩
def ledger_Last (a0 : (List GEntry)) : Option ((List GEntry) × Int) :=
  (ledger_Valid a0).bind (fun t1 =>
  (if (!t1) = true then
  some (([] : List GEntry), 1)
  else
  (ledger_pageOf a0).bind (fun t2 =>
  (sortLast (entsOf t2)).bind (fun l => some (l, 0)))))
theorem lastOk_perm {xs ys : List GEntry} (h : xs.Perm ys) : lastOk xs = lastOk ys := by
  unfold lastOk
  rw [Bool.eq_iff_iff, Bool.and_eq_true, Bool.and_eq_true, List.all_eq_true, List.all_eq_true, decide_eq_true_eq, decide_eq_true_eq, (h.map _).nodup_iff]
  exact ⟨fun ⟨a, b⟩ => ⟨fun x hx => a x (h.mem_iff.2 hx), b⟩, fun ⟨a, b⟩ => ⟨fun x hx => a x (h.mem_iff.1 hx), b⟩⟩
theorem lastSort_perm {xs ys : List GEntry} (h : xs.Perm ys) (hk : lastOk ys = true) : lastSort xs = lastSort ys := by
  have f1 := lastSort_facts xs
  have f2 := lastSort_facts ys
  refine List.Perm.eq_of_pairwise (le := fun a b => lastLt b a = false) (fun a b ha hb h1 h2 => ?_) f1.2 f2.2 (f1.1.trans (h.trans f2.1.symm))
  have ha' : a ∈ ys := h.mem_iff.1 (f1.1.mem_iff.1 ha)
  have hb' : b ∈ ys := f2.1.mem_iff.1 hb
  have hn : (ys.map fun x => (x.Day, x.Found)).Nodup := by
    unfold lastOk at hk
    rw [Bool.and_eq_true, decide_eq_true_eq] at hk
    exact hk.2
  rw [lastLt_not] at h1 h2
  refine last_inj hn a ha' b hb' (by omega) ?_
  rcases h1 with h1 | ⟨_, h1⟩
  · omega
  rcases h2 with h2 | ⟨_, h2⟩
  · omega
  cases ea : a.Found <;> cases eb : b.Found <;> simp_all
theorem sortLast_perm {xs ys r : List GEntry} (h : xs.Perm ys) (hs : sortLast ys = some r) : sortLast xs = some r := by
  obtain ⟨h1, h2, rfl⟩ := sortLast_some hs
  unfold sortLast
  rw [if_pos ⟨by rw [h.length_eq]; exact h1, by rw [lastOk_perm h]; exact h2⟩, lastSort_perm h h2]

def noongunref09_day (a0 : Int) : Option (Bool) :=
  some ((decide (0 ≤ a0)) && (decide (a0 ≤ 182985)))

def noongunref09_valid (a0 : GEntry) : Option (Bool) :=
  (noongunref09_day a0.Day).bind (fun t1 =>
  some ((t1 && (decide ((-86400000) ≤ a0.Error))) && (decide (a0.Error ≤ 86400000))))

def noongunref09_Valid (a0 : (List GEntry)) : Option (Bool) :=
  ((
  rangeL (α := GEntry) (S := Unit) (X := Ctl (Unit) (Bool)) (fun ik1 yk1 _ =>
    (noongunref09_valid yk1).bind (fun t1 =>
    (if (!t1) = true then
      some (Step.done (Ctl.ret false))
    else
      some (Step.cont ())))) (fun _ => Ctl.next ()) a0 0 ()) : Option (Ctl (Unit) (Bool))).bind (fun o => match o with
  | .next _ =>
    some (decide (((a0.length : Nat) : Int) ≤ 1000))
  | .ret r => some r
  | .exit _ _ => none)

noncomputable def noongunref09_all (a0 : (List GEntry)) : Option ((List Int)) :=
  ((
  loopR (S := Int × (List Int)) (X := Ctl (Unit) ((List Int))) (fun (s : Int × (List Int)) => match s with
    | (z3, z4) =>
      ((
        ((
          rangeL (α := GEntry) (S := Int) (X := Int) (fun ik1 yk1 z8 =>
            ((
              ((
                (if ((decide (z3 < yk1.Day)) && ((decide (z8 < 0)) || (decide (yk1.Day < z8)))) = true then
                  some yk1.Day
                else
                  some z8)) : Option (Int)).bind (fun s5 =>
              some s5)) : Option (Int)).bind (fun s4 =>
            some (Step.cont s4))) (fun z8 => z8) a0 0 (-1)) : Option (Int)).bind (fun s3 =>
        (if (decide (s3 < 0)) = true then
          some (Ctl.ret z4)
        else
          (appI z4 ([s3] : List Int)).bind (fun t1 =>
          some (Ctl.next (s3, t1)))))) : Option (Ctl (Int × (List Int)) ((List Int)))).bind (fun o => match o with
        | .next (s1, s2) =>
          some (Step.cont (s1, s2))
        | .ret r => some (Step.done (Ctl.ret r))
        | .exit _ _ => none)) ((-1), ([] : List Int))) : Option (Ctl (Unit) ((List Int)))).bind (fun o => match o with
  | .next _ =>
    none
  | .ret r => some r
  | .exit _ _ => none)

noncomputable def noongunref09_last (a0 : (List GEntry)) (a1 : Int) (a2 : Bool) : Option (Int × Bool) :=
  (subI ((a0.length : Nat) : Int) 1).bind (fun t1 =>
  ((
  loopR (S := Int) (X := Ctl (Unit) (Int × Bool)) (fun (z2 : Int) =>
    (if (decide (0 ≤ z2)) = true then
      (idx a0 z2).bind (fun x1 =>
      ((if (x1.Day == a1) = true then
        (idx a0 z2).bind (fun x2 =>
        some (x2.Found == a2))
      else
        some false) : Option Bool).bind (fun b1 =>
      (if b1 = true then
        (idx a0 z2).bind (fun x3 =>
        some (Step.done (Ctl.ret (x3.Error, true))))
      else
        (subI z2 1).bind (fun t2 =>
        some (Step.cont t2)))))
    else
      some (Step.done (Ctl.next ())))) t1) : Option (Ctl (Unit) (Int × Bool))).bind (fun o => match o with
  | .next _ =>
    some (0, false)
  | .ret r => some r
  | .exit _ _ => none))

noncomputable def noongunref09_Last (a0 : (List GEntry)) : Option ((List GEntry) × Int) :=
  (noongunref09_Valid a0).bind (fun t1 =>
  (if (!t1) = true then
  some (([] : List GEntry), 1)
  else
  (noongunref09_all a0).bind (fun t2 =>
  ((
    rangeL (α := Int) (S := (List GEntry)) (X := (List GEntry)) (fun ik1 yk1 z2 =>
      ((
        ((
          rangeL (α := Bool) (S := (List GEntry)) (X := (List GEntry)) (fun ik2 yk2 z5 =>
            ((
              (noongunref09_last a0 yk1 yk2).bind (fun o => match o with
                | (t3, t4) =>
                  ((
                    (if t4 = true then
                      (appI z5 ([(GEntry.mk yk1 yk2 t3)] : List GEntry)).bind (fun t5 =>
                      some t5)
                    else
                      some z5)) : Option ((List GEntry))).bind (fun s5 =>
                  some s5))) : Option ((List GEntry))).bind (fun s4 =>
            some (Step.cont s4))) (fun z5 => z5) ([false, true] : List Bool) 0 z2) : Option ((List GEntry))).bind (fun s3 =>
        some s3)) : Option ((List GEntry))).bind (fun s2 =>
      some (Step.cont s2))) (fun z2 => z2) t2 0 ([] : List GEntry)) : Option ((List GEntry))).bind (fun s1 =>
  some (s1, 0)))))

def noongunref09_SameEntries (a0 : (List GEntry)) (a1 : (List GEntry)) : Option (Bool) :=
  (if (((a0.length : Nat) : Int) != ((a1.length : Nat) : Int)) = true then
  some false
  else
  ((
    rangeN (S := Unit) (X := Ctl (Unit) (Bool)) (fun ik1 _ =>
      (idx a0 (ik1 : Int)).bind (fun x1 =>
      (idx a1 (ik1 : Int)).bind (fun x2 =>
      (if (!(x1 == x2)) = true then
        some (Step.done (Ctl.ret false))
      else
        some (Step.cont ()))))) (fun _ => Ctl.next ()) (Int.toNat ((a0.length : Nat) : Int)) 0 ()) : Option (Ctl (Unit) (Bool))).bind (fun o => match o with
    | .next _ =>
      some true
    | .ret r => some r
    | .exit _ _ => none))

def ledger_Said_c1 (a0 : (List (GKey × Int))) (c0 : Int) : Option (Int × Bool) :=
  some (((mget a0 (GKey.mk c0 false)).getD 0), (mget a0 (GKey.mk c0 false)).isSome)

def ledger_Said (a0 : (List GEntry)) (a1 : Int) : Option (Int × Int) :=
  (ledger_told a0 a1 (fun x0 => ledger_Said_c1 x0 a1)).bind (fun o => match o with
  | (t1, t2) =>
    some (t1, t2))

def ledger_Found_c1 (a0 : (List (GKey × Int))) (c0 : Int) : Option (Int × Bool) :=
  some (((mget a0 (GKey.mk c0 true)).getD 0), (mget a0 (GKey.mk c0 true)).isSome)

def ledger_Found (a0 : (List GEntry)) (a1 : Int) : Option (Int × Int) :=
  (ledger_told a0 a1 (fun x0 => ledger_Found_c1 x0 a1)).bind (fun o => match o with
  | (t1, t2) =>
    some (t1, t2))

noncomputable def noongunlaw09_LedgerLast (a0 : (List GEntry)) (a1 : Int) : Option (Bool) :=
  (noongunlaw09_small a0).bind (fun t1 =>
  (if (!t1) = true then
  (noongunlaw09_awake ).bind (fun t2 =>
  some t2)
  else
  (ledger_Last a0).bind (fun o => match o with
    | (t3, t4) =>
      (noongunref09_Last a0).bind (fun o => match o with
        | (t5, t6) =>
          (noongunref09_SameEntries t3 t5).bind (fun t7 =>
          (if ((!t7) || (t4 != t6)) = true then
            some false
          else
            (if (t4 != 0) = true then
              (noongunlaw09_awake ).bind (fun t8 =>
              some t8)
            else
              (ledger_Corrections t3).bind (fun o => match o with
                | (t9, t10) =>
                  (ledger_Said a0 a1).bind (fun o => match o with
                    | (t11, t12) =>
                      (ledger_Said t3 a1).bind (fun o => match o with
                        | (t13, t14) =>
                          (ledger_Found a0 a1).bind (fun o => match o with
                            | (t15, t16) =>
                              (ledger_Found t3 a1).bind (fun o => match o with
                                | (t17, t18) =>
                                  ((if ((((((t10 == 0) && (((t9.length : Nat) : Int) == 0)) && (t11 == t13)) && (t12 == t14)) && (t15 == t17)) && (t16 == t18)) = true then
                                    (noongunlaw09_awake ).bind (fun t19 =>
                                    some t19)
                                  else
                                    some false) : Option Bool).bind (fun b1 =>
                                  some b1)))))))))))))

end Go.Fw
