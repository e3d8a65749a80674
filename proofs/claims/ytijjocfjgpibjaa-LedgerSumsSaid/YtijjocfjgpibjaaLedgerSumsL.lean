/-
  LedgerSums, plain: its model gives true for whatever comes in. No condition.
-/
import Derived.Test.YtijjocfjgpibjaaSumLib
namespace Go.Fw
theorem Off_some {l : List GEntry} (hv : vL l = true) {d : Int} (hd : d ∈ offDays l) : ledger_Off l d = some (offV l d, 0) := by
  have h1 := offDays_day hv hd
  have h2 := mem_offDays.1 hd
  rw [Off_eq]
  unfold toldR hasOff at *
  have : dayB d = true := by unfold dayB; simp; omega
  rw [if_pos hv, if_pos this, if_pos h2]
  rfl
theorem sums_fold {l : List GEntry} (hv : vL l = true) (a b : Int) : ∀ (L : List Int) (i s : Int), (∀ d ∈ L, d ∈ offDays l) → (-1000000000000 + 172800000 * (L.length : Int) ≤ s ∧ s ≤ 1000000000000 - 172800000 * (L.length : Int)) →
    rangeL (α := Int) (S := Int) (X := Ctl (Int) (Bool)) (fun _ yk1 z2 => (((ledger_Off l yk1).bind (fun o => match o with
                                    | (t14, t15) => (if (t15 != 0) = true then some (Ctl.ret false) else
                                        (((if ((decide (a ≤ yk1)) && (decide (yk1 ≤ b))) = true then (addI z2 t14).bind (fun t16 => some t16) else some z2)) : Option (Int)).bind (fun s3 => some (Ctl.next s3))))) : Option (Ctl (Int) (Bool))).bind (fun o => match o with
                                  | .next s2 => some (Step.cont s2)
                                  | .ret r => some (Step.done (Ctl.ret r))
                                  | .exit _ _ => none)) (fun z2 => Ctl.next z2) L i s = some (Ctl.next (s + ((L.filter fun d => decide (a ≤ d) && decide (d ≤ b)).map (offV l)).sum)) := by
  intro L
  induction L with
  | nil => intro i s _ _; simp [rangeL]
  | cons d L ih =>
    intro i s h hb
    rw [List.length_cons] at hb
    have ho := offV_bound hv d
    have h' : ∀ d ∈ L, d ∈ offDays l := fun e he => h e (by simp [he])
    rw [rangeL, List.filter_cons]
    simp only [Off_some hv (h d (by simp)), Option.bind_some, bne_self_eq_false, Bool.false_eq_true, if_false]
    cases hc : (decide (a ≤ d) && decide (d ≤ b)) with
    | true =>
      simp only [if_true]
      rw [addI_ok (by omega)]
      simp only [Option.bind_some]
      have := ih (i + 1) (s + offV l d) h' (by omega)
      erw [this]
      rw [List.map_cons, List.sum_cons]
      congr 2; omega
    | false =>
      simp only [Bool.false_eq_true, if_false, Option.bind_some]
      exact ih (i + 1) s h' (by omega)
theorem sum_split (l : List GEntry) (a b c : Int) (h1 : a ≤ b) (h2 : b < c) : (offsS l a b).sum + (offsS l (b + 1) c).sum = (offsS l a c).sum := by
  unfold offsS inS
  generalize offDays l = L
  induction L with
  | nil => rfl
  | cons d L ih =>
    rw [List.filter_cons, List.filter_cons, List.filter_cons]
    by_cases g1 : a ≤ d ∧ d ≤ b
    · rw [if_pos (by simp; omega), if_neg (by simp; omega), if_pos (by simp; omega)]
      rw [List.map_cons, List.map_cons, List.sum_cons, List.sum_cons]; omega
    · by_cases g2 : b + 1 ≤ d ∧ d ≤ c
      · rw [if_neg (by simp; omega), if_pos (by simp; omega), if_pos (by simp; omega)]
        rw [List.map_cons, List.map_cons, List.sum_cons, List.sum_cons]; omega
      · rw [if_neg (by simp; omega), if_neg (by simp; omega), if_neg (by simp; omega)]
        exact ih
theorem law_noongunlaw09_LedgerSums (a0 : (List GEntry)) (_ : ∀ a ∈ a0, okGEntry a) (_ : a0.length ≤ maxLen) (a1 : Int) (_ : inI a1 = true) (a2 : Int) (_ : inI a2 = true) (a3 : Int) (_ : inI a3 = true) : noongunlaw09_LedgerSums a0 a1 a2 a3 = some true := by
  unfold noongunlaw09_LedgerSums
  rw [small_eq, Option.bind_some]
  split
  · rw [awake_eq]; rfl
  · obtain ⟨r, hr1, hr2⟩ := Mean_eq a0 a1 a2
    simp only [Sum_eq, rSum_eq, hr1, hr2, Option.bind_some, bne_self_eq_false, Bool.or_false, beq_self_eq_true, Bool.not_true, Bool.false_eq_true, if_false]
    by_cases he : (strR a0 a1 a2).2 = 0
    · have hv : vL a0 = true := by
        cases hv : vL a0 with
        | true => rfl
        | false => unfold strR at he; rw [hv] at he; simp at he
      have ho : okS a1 a2 = true := by
        cases ho : okS a1 a2 with
        | true => rfl
        | false => unfold strR at he; rw [hv, ho] at he; simp at he
      have hlen := vL_len hv
      have hol := offDays_len a0
      have hr : ∀ a b, okS a b = true → strR a0 a b = (offsS a0 a b, 0) := by
        intro a b h
        unfold strR
        rw [if_pos hv, if_pos h]
      rw [if_neg (by simpa using he), Days_eq, if_pos hv, Option.bind_some]
      simp only [bne_self_eq_false, Bool.false_eq_true, if_false]
      erw [sums_fold hv a1 a2 (offDays a0) 0 0 (fun _ h => h) (by omega)]
      rw [hr a1 a2 ho]
      have es : ((List.filter (fun d => decide (a1 ≤ d) && decide (d ≤ a2)) (offDays a0)).map (offV a0)).sum = (offsS a0 a1 a2).sum := rfl
      simp only [Option.bind_some, Int.zero_add, es, bne_self_eq_false, Bool.false_or, beq_self_eq_true, if_true, awake_eq]
      by_cases h3 : a3 ≤ a2 ∨ 182985 < a3
      · rw [if_pos (by simpa using h3)]
      · rw [if_neg (by simpa using h3)]
        have ho2 := ho
        unfold okS dayB at ho2
        simp only [Bool.and_eq_true, decide_eq_true_eq, Bool.not_eq_true', decide_eq_false_iff_not] at ho2
        have o1 : okS (a2 + 1) a3 = true := by
          unfold okS dayB
          simp only [Bool.and_eq_true, decide_eq_true_eq, Bool.not_eq_true', decide_eq_false_iff_not]; omega
        have o2 : okS a1 a3 = true := by
          unfold okS dayB
          simp only [Bool.and_eq_true, decide_eq_true_eq, Bool.not_eq_true', decide_eq_false_iff_not]; omega
        rw [addI_ok (by omega)]
        simp only [Option.bind_some, hr _ _ o1, hr _ _ o2, beq_self_eq_true, Bool.and_self, if_true]
        have hb1 := sum_bd _ (strR_bound a0 a1 a2)
        have hb2 := sum_bd _ (strR_bound a0 (a2 + 1) a3)
        have hl1 := strR_len a0 a1 a2
        have hl2 := strR_len a0 (a2 + 1) a3
        rw [hr a1 a2 ho] at hb1 hl1
        rw [hr _ _ o1] at hb2 hl2
        simp only at hb1 hb2 hl1 hl2
        rw [addI_ok (by omega)]
        simp only [Option.bind_some, sum_split a0 a1 a2 a3 (by omega) (by omega), beq_self_eq_true, if_true]
    · rw [if_pos (by simpa using he), awake_eq]; rfl
end Go.Fw
