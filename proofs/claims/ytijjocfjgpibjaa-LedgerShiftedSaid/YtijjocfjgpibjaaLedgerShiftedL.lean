/-
  LedgerShifted, the plain law: what the code computes answers true, for entries, a number and a day within their types' ranges.
-/
import Derived.Test.YtijjocfjgpibjaaLedgerAddsL
import Derived.Test.YtijjocfjgpibjaaCorr
namespace Go.Fw
def shE (by_ : Int) (e : GEntry) : GEntry := ⟨e.Day + by_, e.Found, e.Error⟩
def shiftedR (l : List GEntry) (b : Int) : List GEntry × Int :=
  if vL l = true then if (decide (-182985 ≤ b) && decide (b ≤ 182985)) = true then if vL (l.map (shE b)) = true then (l.map (shE b), 0) else ([], 4) else ([], 7) else ([], 1)
theorem vL_day {l : List GEntry} (hv : vL l = true) {e : GEntry} (he : e ∈ l) : 0 ≤ e.Day ∧ e.Day ≤ 182985 := by
  simp only [vL, Bool.and_eq_true, List.all_eq_true] at hv
  have := hv.1 e he
  simp only [vE, dayB, Bool.and_eq_true, decide_eq_true_eq] at this
  exact this.1
theorem Shifted_eq (l : List GEntry) (b : Int) : ledger_Shifted l b = some (shiftedR l b) := by
  unfold ledger_Shifted shiftedR
  rw [Valid_eq, within_eq]
  simp only [Option.bind_some]
  cases hv : vL l with
  | false => simp
  | true =>
    have hl := vL_len hv
    cases hb : (decide (-182985 ≤ b) && decide (b ≤ 182985)) with
    | false => simp
    | true =>
      simp only [Bool.not_true, Bool.false_eq_true, if_false, if_true]
      rw [clone_eq l (by omega)]
      simp only [Option.bind_some]
      rw [rangeN_map (shE b)]
      · simp only [Option.bind_some, Valid_eq]
        cases vL (l.map (shE b)) <;> rfl
      · intro i z x hx hz
        have hd := vL_day hv (List.mem_of_getElem? hx)
        simp only [Bool.and_eq_true, decide_eq_true_eq] at hb
        rw [idx_at hz]
        simp only [Option.bind_some]
        rw [addI_ok (by omega)]
        rfl
theorem rShifted_eq (l : List GEntry) (b : Int) : noongunref09_Shifted l b = some (shiftedR l b) := by
  unfold noongunref09_Shifted shiftedR
  rw [rValid_eq]
  simp only [Option.bind_some]
  cases hv : vL l with
  | false => simp
  | true =>
    have hl := vL_len hv
    have hbb : (decide (b < -182985) || decide (182985 < b)) = !(decide (-182985 ≤ b) && decide (b ≤ 182985)) := by
      rw [Bool.eq_iff_iff]; simp
    rw [hbb]
    cases hb : (decide (-182985 ≤ b) && decide (b ≤ 182985)) with
    | false => simp
    | true =>
      simp only [Bool.not_true, Bool.false_eq_true, if_false, if_true]
      simp only [Bool.and_eq_true, decide_eq_true_eq] at hb
      rw [rangeL_congr (body' := fun _ x z => (appI z [shE b x]).bind fun t => some (.cont t)) (fin' := fun z => z) (fun _ => rfl)]
      · rw [rangeL_app (fun x => [shE b x]) l 0 [] (by rw [flatMap_one, List.length_map]; simp; omega), flatMap_one]
        simp only [Option.bind_some, List.nil_append, rValid_eq]
        cases vL (l.map (shE b)) <;> rfl
      · intro i x s hx
        have hd := vL_day hv hx
        rw [addI_ok (by omega)]
        rfl
theorem lastE_shift (l : List GEntry) (b d : Int) (f : Bool) : lastE (l.map (shE b)) (d + b) f = lastE l d f := by
  unfold lastE
  rw [List.foldl_map]
  congr 1
  funext acc e
  simp only [shE]
  by_cases h : e.Day = d
  · simp [h]
  · have : ¬ e.Day + b = d + b := by omega
    simp [h, this]
theorem shE_back (l : List GEntry) (b : Int) : (l.map (shE b)).map (shE (-b)) = l := by
  rw [List.map_map]
  conv => rhs; rw [← List.map_id l]
  congr 1
  funext e
  obtain ⟨d, f, x⟩ := e
  simp only [Function.comp, shE, id]
  congr 1
  omega
theorem shiftedR_ok {l : List GEntry} {b : Int} (h : (shiftedR l b).2 = 0) : vL l = true ∧ (-182985 ≤ b ∧ b ≤ 182985) ∧ vL (l.map (shE b)) = true ∧ shiftedR l b = (l.map (shE b), 0) := by
  revert h
  unfold shiftedR
  cases vL l <;> simp
  by_cases hb : -182985 ≤ b ∧ b ≤ 182985
  · simp only [hb, and_self, if_true]
    cases vL (l.map (shE b)) <;> simp
  · simp [hb]
theorem law_noongunlaw09_LedgerShifted (a0 : (List GEntry)) (_ : ∀ a ∈ a0, okGEntry a) (_ : a0.length ≤ maxLen) (a1 : (List GEntry)) (_ : ∀ a ∈ a1, okGEntry a) (_ : a1.length ≤ maxLen) (a2 : Int) (_ : inI a2 = true) (a3 : Int) (h3 : inI a3 = true) :
    noongunlaw09_LedgerShifted a0 a1 a2 a3 = some true := by
  rw [inI_iff] at h3
  unfold noongunlaw09_LedgerShifted noongunlaw09_small
  simp only [Shifted_eq, rShifted_eq, same_eq, awake_eq, Merged_eq, Option.bind_some, decide_true, bne_self_eq_false, Bool.not_true, Bool.or_self, Bool.false_eq_true, if_false]
  generalize hp : decide (((a0.length : Nat) : Int) ≤ 30) = p
  generalize decide (((a1.length : Nat) : Int) ≤ 30) = q
  cases p
  · rfl
  cases q
  · rfl
  simp only [Bool.not_true, Bool.false_eq_true, if_false, Option.bind_some]
  have hcorr : (if ((mergedR a0 a1).2 == 0) = true then
      (ledger_Corrections a0).bind (fun o => match o with
        | (t11, t12) => (ledger_Corrections a1).bind (fun o => match o with
          | (t13, t14) => (ledger_Corrections (mergedR a0 a1).1).bind (fun o => match o with
            | (t15, t16) => ((if (((t12 != 0) || (t14 != 0)) || (t16 != 0)) = true then some true else (addI ((t11.length : Nat) : Int) ((t13.length : Nat) : Int)).bind (fun t17 => some (decide (((t15.length : Nat) : Int) < t17)))) : Option Bool).bind (fun b2 =>
              (if b2 = true then some (Ctl.ret false) else some (Ctl.next ()))))))
      else some (Ctl.next ())) = (some (Ctl.next ()) : Option (Ctl Unit Bool)) := by
    unfold mergedR
    cases hv : vL a0 with
    | false => simp
    | true =>
      cases hw : vL a1 with
      | false => simp
      | true =>
        have hl := vL_len hv
        have hl1 := vL_len hw
        by_cases h : 1000 < a0.length + a1.length
        · simp [h]
        · have hm : vL (a0 ++ a1) = true := by
            rw [vL_app]
            simp only [vL, Bool.and_eq_true] at hv hw
            simp [hv.1, hw.1]
            omega
          have c1 := corr_len_le a0
          have c2 := corr_len_le a1
          simp only [Bool.and_self, if_true, h, if_false, beq_self_eq_true, Corrections_eq, corrR, hv, hw, hm, Option.bind_some, bne_self_eq_false, Bool.or_self, Bool.false_eq_true]
          rw [addI_ok (by omega)]
          have := corr_app a0 a1
          simp only [Option.bind_some]
          rw [if_neg (by simp; omega)]
  rw [hcorr]
  simp only [Option.bind_some]
  split
  · rfl
  · rename_i h
    simp only [bne_iff_ne, ne_eq, Decidable.not_not] at h
    obtain ⟨k1, k2, k3, k4⟩ := shiftedR_ok h
    rw [k4]
    rw [negI_ok (by omega)]
    simp only [Option.bind_some]
    have hback : shiftedR (a0.map (shE a2)) (-a2) = (a0, 0) := by
      unfold shiftedR
      rw [k3, shE_back, k1]
      simp
      omega
    rw [hback]
    simp only [bne_self_eq_false, Bool.false_eq_true, if_false, decide_true, Bool.not_true, Option.bind_some]
    by_cases h1 : (decide (a3 < 0) || decide (182985 < a3)) = true
    · rw [if_pos h1]; rfl
    · rw [if_neg h1]
      simp only [Bool.or_eq_true, decide_eq_true_eq, not_or] at h1
      rw [addI_ok (by omega)]
      simp only [Option.bind_some]
      by_cases h2 : a3 + a2 < 0
      · simp [h2]
      · simp only [h2, decide_false, Bool.false_eq_true, if_false, Option.bind_some]
        by_cases h4 : 182985 < a3 + a2
        · simp [h4]
        · simp only [h4, decide_false, Bool.false_eq_true, if_false]
          rw [Off_eq, Off_eq]
          simp only [Option.bind_some]
          have hd1 : dayB a3 = true := by simp [dayB]; omega
          have hd2 : dayB (a3 + a2) = true := by simp [dayB]; omega
          unfold toldR
          rw [lastE_shift, lastE_shift, k1, k3, hd1, hd2]
          simp
end Go.Fw
