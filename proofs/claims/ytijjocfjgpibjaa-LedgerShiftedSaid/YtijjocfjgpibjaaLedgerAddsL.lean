/-
  LedgerAdds, the plain law: what the code computes answers true, for entries and a day within their types' ranges.
-/
import Derived.Test.YtijjocfjgpibjaaLib
namespace Go.Fw
theorem vL_app (l m : List GEntry) : vL (l ++ m) = (l.all vE && m.all vE && decide (((l ++ m).length : Int) ≤ 1000)) := by
  unfold vL; rw [List.all_append]
theorem clone_eq (l : List GEntry) (h : l.length ≤ 1099511627776) : slices_Clone_Entry l = some l := by
  unfold slices_Clone_Entry
  rw [appI_ok (by simpa using h)]
  rfl
theorem vL_len {l : List GEntry} (h : vL l = true) : l.length ≤ 1000 := by
  simp only [vL, Bool.and_eq_true, decide_eq_true_eq] at h; omega
theorem same_eq (a b : List GEntry) : noongunref09_SameEntries a b = some (decide (a = b)) := by
  unfold noongunref09_SameEntries
  exact same_fun (fun x y => !(x == y)) (fun x y => by rfl) a b
def addedR (l : List GEntry) (x : GEntry) : List GEntry × Int := if (vL l && vE x) = true then if l.length = 1000 then ([], 4) else (l ++ [x], 0) else ([], 1)
theorem Added_eq (l : List GEntry) (x : GEntry) : ledger_Added l x = some (addedR l x) := by
  unfold ledger_Added addedR
  simp only [Valid_eq, fine_eq, Option.bind_some]
  cases hv : vL l with
  | false => simp
  | true =>
    have hl := vL_len hv
    cases he : vE x with
    | false => simp
    | true =>
      by_cases h : l.length = 1000
      · simp [h]
      · rw [clone_eq l (by omega), Option.bind_some, appI_ok (by simp; omega)]
        simp [h]
        omega
theorem rAdded_eq (l : List GEntry) (x : GEntry) : noongunref09_Added l x = some (addedR l x) := by
  unfold noongunref09_Added addedR
  simp only [rValid_eq, rvalid_eq, Option.bind_some]
  cases hv : vL l with
  | false => simp
  | true =>
    have hl := vL_len hv
    cases he : vE x with
    | false => simp
    | true =>
      by_cases h : l.length = 1000
      · simp [h]
      · rw [appI_ok (by simp; omega), Option.bind_some, appI_ok (by simp; omega)]
        simp [h]
        omega
theorem Grow_eq (n : Int) (h : 0 ≤ n ∧ n ≤ 1099511627776) : slices_Grow_Entry n = some [] := by
  unfold slices_Grow_Entry
  rw [if_neg (by simp; omega)]
  simp only [Option.bind_some]
  rw [subI_ok (by omega)]
  simp only [Option.bind_some, Int.sub_zero]
  by_cases h0 : 0 < n
  · rw [if_pos (by simpa using h0)]
    simp [makI, h, preI]
  · rw [if_neg (by simpa using h0)]
    rfl
theorem Concat_eq (a b : List GEntry) (h : a.length + b.length ≤ 1099511627776) : slices_Concat_Entry [a, b] = some (a ++ b) := by
  unfold slices_Concat_Entry
  simp only [rangeL]
  rw [addI_ok (by omega)]
  simp only [Option.bind_some, Int.zero_add]
  rw [if_neg (by simp)]
  simp only [Option.bind_some]
  rw [addI_ok (by omega)]
  simp only [Option.bind_some]
  rw [if_neg (by simp; omega)]
  simp only [Option.bind_some]
  rw [Grow_eq _ (by omega)]
  simp only [Option.bind_some]
  rw [appI_ok (by simp; omega)]
  simp only [Option.bind_some, List.nil_append]
  rw [appI_ok h]
  rfl
def mergedR (a b : List GEntry) : List GEntry × Int := if (vL a && vL b) = true then if 1000 < a.length + b.length then ([], 4) else (a ++ b, 0) else ([], 1)
theorem Merged_eq (a b : List GEntry) : ledger_Merged a b = some (mergedR a b) := by
  unfold ledger_Merged mergedR
  simp only [Valid_eq, Option.bind_some]
  cases hv : vL a with
  | false => simp
  | true =>
    cases he : vL b with
    | false => simp
    | true =>
      have ha := vL_len hv
      have hb := vL_len he
      simp only [Bool.not_true, Bool.false_eq_true, if_false, Option.bind_some]
      rw [addI_ok (by omega), Option.bind_some, Concat_eq a b (by omega)]
      by_cases h : 1000 < a.length + b.length
      · simp [h]; omega
      · simp [h]; omega
theorem rMerged_eq (a b : List GEntry) : noongunref09_Merged a b = some (mergedR a b) := by
  unfold noongunref09_Merged mergedR
  simp only [rValid_eq, Option.bind_some]
  cases hv : vL a with
  | false => simp
  | true =>
    cases he : vL b with
    | false => simp
    | true =>
      have ha := vL_len hv
      have hb := vL_len he
      simp only [Bool.not_true, Bool.false_eq_true, if_false, Option.bind_some]
      rw [addI_ok (by omega), Option.bind_some, appI_ok (by simp; omega), Option.bind_some, List.nil_append, appI_ok (by omega)]
      by_cases h : 1000 < a.length + b.length
      · simp [h]; omega
      · simp [h]; omega
theorem lastE_snoc (l : List GEntry) (x : GEntry) (d : Int) (f : Bool) (h : d ≠ x.Day) : lastE (l ++ [x]) d f = lastE l d f := by
  unfold lastE
  rw [List.foldl_append]
  simp only [List.foldl_cons, List.foldl_nil]
  rw [if_neg (fun hh => h hh.1.symm)]
theorem law_noongunlaw09_LedgerAdds (a0 : (List GEntry)) (_ : ∀ a ∈ a0, okGEntry a) (_ : a0.length ≤ maxLen) (a1 : (List GEntry)) (_ : ∀ a ∈ a1, okGEntry a) (_ : a1.length ≤ maxLen) (a2 : GEntry) (_ : okGEntry a2) (a3 : Int) (_ : inI a3 = true) :
    noongunlaw09_LedgerAdds a0 a1 a2 a3 = some true := by
  unfold noongunlaw09_LedgerAdds noongunlaw09_fit
  simp only [Added_eq, rAdded_eq, Merged_eq, rMerged_eq, same_eq, awake_eq, Option.bind_some, decide_true, bne_self_eq_false, Bool.not_true, Bool.or_self, Bool.false_eq_true, if_false]
  generalize (decide (((a0.length : Nat) : Int) ≤ 30) || (decide (1000 ≤ ((a0.length : Nat) : Int)) && decide (((a0.length : Nat) : Int) ≤ 1003))) = p
  generalize (decide (((a1.length : Nat) : Int) ≤ 30) || (decide (1000 ≤ ((a1.length : Nat) : Int)) && decide (((a1.length : Nat) : Int) ≤ 1003))) = q
  cases p
  · rfl
  cases q
  · rfl
  simp only [Bool.not_true, Bool.false_eq_true, if_false, Option.bind_some]
  split
  · rfl
  · rename_i h
    simp only [Bool.or_eq_true, bne_iff_ne, ne_eq, beq_iff_eq, not_or, Decidable.not_not] at h
    obtain ⟨h1, h2⟩ := h
    rw [Off_eq, Off_eq]
    simp only [Option.bind_some]
    unfold addedR at h1 ⊢
    cases hv : (vL a0 && vE a2) with
    | false => rw [hv] at h1; simp at h1
    | true =>
      rw [hv] at h1
      simp only [if_true] at h1 ⊢
      by_cases hl : a0.length = 1000
      · simp [hl] at h1
      · simp only [hl, if_false]
        simp only [Bool.and_eq_true] at hv
        have hlen := vL_len hv.1
        have hv2 : vL (a0 ++ [a2]) = true := by
          rw [vL_app]
          have := hv.1
          simp only [vL, Bool.and_eq_true] at this
          simp [this.1, hv.2]
          omega
        unfold toldR
        rw [lastE_snoc _ _ _ _ h2, lastE_snoc _ _ _ _ h2, hv2, hv.1]
        simp
end Go.Fw
