/-
  SightChanges, plain: what is added, taken out and shifted is the same in both texts.
-/
import Derived.Test.YtailgbhadhoedaaChgLib
import Derived.Test.YtailgbhadhoedaaRowLib
namespace Go.Fw
open Go.Gr
theorem rangeL_build {α β X : Type} (p : α → Bool) (g : α → β) (y : X) {body : Int → α → List β → Option (Step (List β) X)} {fin : List β → X} : ∀ (l : List α) (i : Int) (acc : List β), acc.length + l.length ≤ 1000 →
    (∀ i x s, x ∈ l → s.length ≤ 999 → body i x s = some (if p x = true then .cont (s ++ [g x]) else .done y)) → rangeL body fin l i acc = some (if l.all p = true then fin (acc ++ l.map g) else y)
  | [], i, acc, _, _ => by rw [rangeL]; simp
  | x :: l, i, acc, hl, h => by
    rw [List.length_cons] at hl
    rw [rangeL, h i x acc (List.mem_cons_self ..) (by omega), Option.bind_some]
    cases hp : p x with
    | false => simp [hp]
    | true =>
      rw [if_pos rfl]
      have := rangeL_build p g y (fin := fin) l (i + 1) (acc ++ [g x]) (by simp; omega) fun i x s hx => h i x s (List.mem_cons_of_mem _ hx)
      rw [List.all_cons, hp, Bool.true_and, List.map_cons, show acc ++ g x :: l.map g = (acc ++ [g x]) ++ l.map g by simp]
      exact this
theorem added_same (x : GNet) (s : GSight) : ∃ r, sight_Added x s = some r ∧ noongunref02_Added x s = some r := by
  unfold sight_Added noongunref02_Added
  rw [show GNet.mk x.Rates x.Sights = x from rfl, valid_eq, refValid_eq, Option.bind_some, Option.bind_some]
  cases hx : vNet x with
  | false => exact ⟨_, rfl, rfl⟩
  | true =>
    obtain ⟨h1, h2, h3, h4, h5, h6⟩ := vNet_iff.1 hx
    simp only [Bool.not_true, Bool.false_eq_true, if_false, validSight_eq s (show 1 ≤ ((x.Rates.length : Nat) : Int) ∧ ((x.Rates.length : Nat) : Int) ≤ 1000000 by omega), refValidSight_eq]
    cases hs : vSight ((x.Rates.length : Nat) : Int) s with
    | false => exact ⟨_, rfl, rfl⟩
    | true =>
      simp only [Option.bind_some, Bool.not_true, Bool.false_eq_true, if_false]
      by_cases hl : (((x.Sights.length : Nat) : Int) == 30) = true
      · rw [if_pos hl, if_pos hl]
        exact ⟨_, rfl, rfl⟩
      · rw [if_neg hl, if_neg hl, cloneI_eq (by omega), cloneS_eq (by omega), rWithout_none (by omega) (by omega)]
        simp only [Option.bind_some]
        rw [app1 (by omega)]
        exact ⟨_, rfl, rfl⟩
theorem without_same (x : GNet) (i : Int) : ∃ r, sight_Without x i = some r ∧ noongunref02_Without x i = some r := by
  unfold sight_Without noongunref02_Without sight_named
  rw [show GNet.mk x.Rates x.Sights = x from rfl, valid_eq, refValid_eq, Option.bind_some, Option.bind_some]
  cases hx : vNet x with
  | false => exact ⟨_, rfl, rfl⟩
  | true =>
    obtain ⟨h1, h2, h3, h4, h5, h6⟩ := vNet_iff.1 hx
    have hsub : subI ((x.Sights.length : Nat) : Int) 1 = some ((x.Sights.length : Int) - 1) := subI_ok (by omega)
    rw [if_neg (by decide), if_neg (by decide), hsub, Option.bind_some, Option.bind_some]
    have hw : sight_within i 0 ((x.Sights.length : Int) - 1) = some (decide (0 ≤ i) && decide (i ≤ (x.Sights.length : Int) - 1)) := rfl
    rw [hw, refWithin_and, Option.bind_some, Option.bind_some]
    by_cases hi : 0 ≤ i ∧ i ≤ (x.Sights.length : Int) - 1
    · rw [decide_eq_true hi.1, decide_eq_true hi.2]
      obtain ⟨k, rfl⟩ := Int.eq_ofNat_of_zero_le hi.1
      refine ⟨(woNet x k, 0), ?_, ?_⟩
      · refine Eq.trans (bindS (if_neg (by decide))) ?_
        rw [if_neg (by decide), sWithout_eq (by omega) (by omega) (by omega)]
        rfl
      · refine (if_neg (by decide)).trans ?_
        rw [rWithout_eq (by omega) (by omega)]
        rfl
    · have : (decide (0 ≤ i) && decide (i ≤ (x.Sights.length : Int) - 1)) = false := by rw [Bool.and_eq_false_iff, decide_eq_false_iff_not, decide_eq_false_iff_not]; omega
      rw [this]
      exact ⟨_, rfl, rfl⟩
def shiftS (c d : Int) (s : GSight) : GSight := if c = s.A then ⟨s.At, s.A, s.B, s.Lo + d, s.Hi + d⟩ else if c = s.B then ⟨s.At, s.A, s.B, s.Lo - d, s.Hi - d⟩ else s
theorem shifted_same (x : GNet) (c d : Int) : ∃ r, sight_Shifted x c d = some r ∧ noongunref02_Shifted x c d = some r := by
  unfold sight_Shifted noongunref02_Shifted
  rw [show GNet.mk x.Rates x.Sights = x from rfl, valid_eq, refValid_eq, Option.bind_some, Option.bind_some]
  cases hx : vNet x with
  | false => exact ⟨_, rfl, rfl⟩
  | true =>
    obtain ⟨h1, h2, h3, h4, h5, h6⟩ := vNet_iff.1 hx
    rw [if_neg (by decide), if_neg (by decide), sub1 (by omega), Option.bind_some, within_and, Option.bind_some]
    unfold noongunref02_named
    rw [Option.bind_some]
    by_cases hc : 1 ≤ c ∧ c ≤ (x.Rates.length : Int) - 1
    · have hcr : ((!(decide (0 ≤ c) && decide (c < ((x.Rates.length : Nat) : Int)))) || (c == 0)) = false := by
        rw [decide_eq_true (by omega : 0 ≤ c), decide_eq_true (by omega : c < ((x.Rates.length : Nat) : Int)), Bool.or_eq_false_iff, beq_eq_false_iff_ne]
        exact ⟨rfl, by omega⟩
      simp only [decide_eq_true hc.1, decide_eq_true hc.2, Bool.and_true, Bool.not_true, Bool.false_eq_true, if_false, within_and, Option.bind_some, hcr, refWithin_and]
      by_cases hd : -86400000 ≤ d ∧ d ≤ 86400000
      · rw [decide_eq_true hd.1, decide_eq_true hd.2, if_neg (by decide), if_neg (by decide), cloneI_eq (by omega), Option.bind_some, rWithout_none (by omega) (by omega), Option.bind_some, Int.toNat_natCast]
        have hS := rangeL_build (X := Ctl (List GSight) (GNet × Int)) (fun s => vSight (x.Rates.length : Int) (shiftS c d s)) (shiftS c d) (Ctl.ret (GNet.mk [] [], 4)) (fin := fun z => Ctl.next z) (body := fun ik1 yk1 z2 =>
          ((
            ((
              ((
                (if (c == yk1.A) = true then
                  (addI yk1.Lo d).bind (fun t6 =>
                  (addI yk1.Hi d).bind (fun t7 =>
                  some (t6, t7)))
                else
                  ((
                    (if (c == yk1.B) = true then
                      (subI yk1.Lo d).bind (fun t8 =>
                      (subI yk1.Hi d).bind (fun t9 =>
                      some (t8, t9)))
                    else
                      some (yk1.Lo, yk1.Hi))) : Option (Int × Int)).bind (fun o => match o with
                    | (s7, s8) =>
                      some (s7, s8)))) : Option (Int × Int)).bind (fun o => match o with
                | (s5, s6) =>
                  some (s5, s6))) : Option (Int × Int)).bind (fun o => match o with
              | (s3, s4) =>
                (sight_validSight (GSight.mk yk1.At yk1.A yk1.B s3 s4) ((x.Rates.length : Nat) : Int)).bind (fun t10 =>
                (if (!t10) = true then
                  some (Ctl.ret ((GNet.mk ([] : List Int) ([] : List GSight)), 4))
                else
                  (appI z2 ([(GSight.mk yk1.At yk1.A yk1.B s3 s4)] : List GSight)).bind (fun t11 =>
                  some (Ctl.next t11)))))) : Option (Ctl ((List GSight)) (GNet × Int))).bind (fun o => match o with
            | .next s2 =>
              some (Step.cont s2)
            | .ret r => some (Step.done (Ctl.ret r))
            | .exit _ _ => none)) x.Sights 0 [] (by simp only [List.length_nil]; omega) (fun i s acc hs hacc => by
          obtain ⟨_, _, _, _, _, _, _, l1, l2, l3⟩ := vSight_iff.1 (h6 s hs)
          have hv : ∀ lo hi, sight_validSight (GSight.mk s.At s.A s.B lo hi) ((x.Rates.length : Nat) : Int) = some (vSight (x.Rates.length : Int) ⟨s.At, s.A, s.B, lo, hi⟩) := fun lo hi => validSight_eq _ (by omega)
          have happ : ∀ z : GSight, appI acc [z] = some (acc ++ [z]) := fun z => app1 (by omega) z
          unfold shiftS
          by_cases hA : c = s.A
          · rw [if_pos (beq_iff_eq.2 hA), if_pos hA, addI_ok (by omega), Option.bind_some, addI_ok (by omega)]
            simp only [Option.bind_some, hv, happ]
            cases vSight (x.Rates.length : Int) ⟨s.At, s.A, s.B, s.Lo + d, s.Hi + d⟩ <;> rfl
          · rw [if_neg (by simpa using hA), if_neg hA]
            by_cases hB : c = s.B
            · rw [if_pos (beq_iff_eq.2 hB), if_pos hB, subI_ok (by omega), Option.bind_some, subI_ok (by omega)]
              simp only [Option.bind_some, hv, happ]
              cases vSight (x.Rates.length : Int) ⟨s.At, s.A, s.B, s.Lo - d, s.Hi - d⟩ <;> rfl
            · rw [if_neg (by simpa using hB), if_neg hB]
              simp only [Option.bind_some, hv, happ]
              cases vSight (x.Rates.length : Int) ⟨s.At, s.A, s.B, s.Lo, s.Hi⟩ <;> rfl)
        have hR := rangeN_setmap (X := Ctl (List GSight) (GNet × Int)) (fun s => vSight (x.Rates.length : Int) (shiftS c d s)) (shiftS c d) (Ctl.ret (GNet.mk [] [], 4)) x.Sights (fin := fun z => Ctl.next z) (body := fun ik1 z2 =>
          ((
            (idx z2 (ik1 : Int)).bind (fun x1 =>
            ((
              (if (x1.A == c) = true then
                some d
              else
                some 0)) : Option (Int)).bind (fun s3 =>
            ((
              (if (x1.B == c) = true then
                (negI d).bind (fun t5 =>
                some t5)
              else
                some s3)) : Option (Int)).bind (fun s4 =>
            (addI x1.Lo s4).bind (fun t6 =>
            (addI x1.Hi s4).bind (fun t7 =>
            (noongunref02_ValidSight (GSight.mk x1.At x1.A x1.B t6 t7) ((x.Rates.length : Nat) : Int)).bind (fun t8 =>
            (if (!t8) = true then
              some (Ctl.ret ((GNet.mk ([] : List Int) ([] : List GSight)), 4))
            else
              (idx z2 (ik1 : Int)).bind (fun x2 =>
              some (Ctl.next (z2.set (Int.toNat (ik1 : Int)) (GSight.mk x1.At x1.A x1.B t6 t7)))))))))))) : Option (Ctl ((List GSight)) (GNet × Int))).bind (fun o => match o with
            | .next s2 =>
              some (Step.cont s2)
            | .ret r => some (Step.done (Ctl.ret r))
            | .exit _ _ => none)) (fun j s z hs hz => by
          obtain ⟨_, _, _, _, _, _, hne, l1, l2, l3⟩ := vSight_iff.1 (h6 s (List.mem_of_getElem? hs))
          have hiz : idx z (j : Int) = some s := idx_at hz
          have hn : negI d = some (-d) := by unfold negI; rw [if_pos (inI_iff.2 (by omega))]
          have htn : Int.toNat (j : Int) = j := Int.toNat_natCast j
          rw [hiz, Option.bind_some, hn, htn]
          unfold shiftS
          by_cases hA : c = s.A
          · have hB : ¬ s.B = c := fun h => hne (by omega)
            rw [if_pos (beq_iff_eq.2 hA.symm), Option.bind_some, if_neg (by simpa using hB), Option.bind_some, addI_ok (by omega), Option.bind_some, addI_ok (by omega), Option.bind_some, refValidSight_eq, Option.bind_some, if_pos hA]
            cases vSight (x.Rates.length : Int) ⟨s.At, s.A, s.B, s.Lo + d, s.Hi + d⟩ <;> rfl
          · rw [if_neg (by simpa using fun h => hA (Eq.symm h)), if_neg hA, Option.bind_some]
            by_cases hB : c = s.B
            · rw [if_pos (beq_iff_eq.2 hB.symm), Option.bind_some, Option.bind_some, addI_ok (by omega), Option.bind_some, addI_ok (by omega), Option.bind_some, refValidSight_eq, Option.bind_some, if_pos hB, ← Int.sub_eq_add_neg, ← Int.sub_eq_add_neg]
              cases vSight (x.Rates.length : Int) ⟨s.At, s.A, s.B, s.Lo - d, s.Hi - d⟩ <;> rfl
            · rw [if_neg (by simpa using fun h => hB (Eq.symm h)), Option.bind_some, addI_ok (by omega), Option.bind_some, addI_ok (by omega), Option.bind_some, refValidSight_eq, Option.bind_some, if_neg hB, Int.add_zero, Int.add_zero]
              cases vSight (x.Rates.length : Int) ⟨s.At, s.A, s.B, s.Lo, s.Hi⟩ <;> rfl) x.Sights.length 0 (by omega)
        rw [List.nil_append] at hS
        rw [List.take_zero, List.map_nil, List.nil_append, List.drop_zero] at hR
        refine ⟨if (x.Sights.all fun s => vSight (x.Rates.length : Int) (shiftS c d s)) = true then (⟨x.Rates, x.Sights.map (shiftS c d)⟩, 0) else (⟨[], []⟩, 4), ?_, ?_⟩
        · refine Eq.trans (bindS hS) ?_
          cases (x.Sights.all fun s => vSight (x.Rates.length : Int) (shiftS c d s)) <;> rfl
        · refine Eq.trans (bindS hR) ?_
          cases (x.Sights.all fun s => vSight (x.Rates.length : Int) (shiftS c d s)) <;> rfl
      · have : (decide (-86400000 ≤ d) && decide (d ≤ 86400000)) = false := by rw [Bool.and_eq_false_iff, decide_eq_false_iff_not, decide_eq_false_iff_not]; omega
        rw [this]
        exact ⟨_, rfl, rfl⟩
    · have : (decide (1 ≤ c) && decide (c ≤ (x.Rates.length : Int) - 1)) = false := by rw [Bool.and_eq_false_iff, decide_eq_false_iff_not, decide_eq_false_iff_not]; omega
      have hcr : ((!(decide (0 ≤ c) && decide (c < ((x.Rates.length : Nat) : Int)))) || (c == 0)) = true := by
        rw [Bool.or_eq_true, Bool.not_eq_true', Bool.and_eq_false_iff, decide_eq_false_iff_not, decide_eq_false_iff_not, beq_iff_eq]
        omega
      rw [this, hcr]
      exact ⟨_, rfl, rfl⟩
theorem law_noongunlaw02_SightChanges (a0 : GNet) (_ : okGNet a0) (a1 : GSight) (_ : okGSight a1) (a2 : GArr3) (_ : okGArr3 a2) : noongunlaw02_SightChanges a0 a1 a2 = some true := by
  unfold noongunlaw02_SightChanges
  rw [awake_eq, show GNet.mk a0.Rates a0.Sights = a0 from rfl]
  by_cases hl : ((decide (100 < ((a0.Rates.length : Nat) : Int))) || (decide (100 < ((a0.Sights.length : Nat) : Int)))) = true
  · rw [if_pos hl]; rfl
  · rw [if_neg hl]
    obtain ⟨⟨y1, e1⟩, h1, k1⟩ := added_same a0 a1
    obtain ⟨⟨y2, e2⟩, h2, k2⟩ := without_same a0 a2.x0
    obtain ⟨⟨y3, e3⟩, h3, k3⟩ := shifted_same a0 a2.x1 a2.x2
    have hsame : ∀ y : GNet, noongunref02_Same (GNet.mk y.Rates y.Sights) (GNet.mk y.Rates y.Sights) = some true := fun y => refSame_self y
    refine (bindS h1).trans ((bindS k1).trans ?_)
    dsimp only
    rw [bne_self_eq_false, if_neg (by decide), hsame, Option.bind_some, Option.bind_some, if_neg (by decide)]
    refine (bindS h2).trans ((bindS k2).trans ?_)
    dsimp only
    rw [bne_self_eq_false, if_neg (by decide), hsame, Option.bind_some, Option.bind_some, if_neg (by decide)]
    refine (bindS h3).trans ((bindS k3).trans ?_)
    dsimp only
    rw [beq_self_eq_true, if_pos rfl, hsame]
    rfl
end Go.Fw
