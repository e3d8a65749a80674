/-
  Valid nets: what the code asks. No program in it.
-/
import Derived.Test.YtailgbhadhoedaaAwake
namespace Go.Fw
def vSight (n : Int) (s : GSight) : Bool := decide (0 ≤ s.At) && decide (s.At ≤ 1000000000000) && decide (0 ≤ s.A) && decide (s.A < n) && decide (0 ≤ s.B) && decide (s.B < n) && decide (s.A ≠ s.B) && decide (-86400000 ≤ s.Lo) && decide (s.Lo ≤ s.Hi) && decide (s.Hi ≤ 86400000)
def vRate (r : Int) : Bool := decide (0 ≤ r) && decide (r ≤ 1000000)
def vNet (x : GNet) : Bool := decide (2 ≤ x.Rates.length) && decide (x.Rates.length ≤ 8) && decide (x.Rates[0]? = some 0) && decide (x.Sights.length ≤ 30) && x.Rates.all vRate && x.Sights.all (vSight (x.Rates.length : Int))
theorem vSight_iff {n : Int} {s : GSight} : vSight n s = true ↔ 0 ≤ s.At ∧ s.At ≤ 1000000000000 ∧ 0 ≤ s.A ∧ s.A < n ∧ 0 ≤ s.B ∧ s.B < n ∧ s.A ≠ s.B ∧ -86400000 ≤ s.Lo ∧ s.Lo ≤ s.Hi ∧ s.Hi ≤ 86400000 := by
  unfold vSight
  simp only [Bool.and_eq_true, decide_eq_true_eq, and_assoc]
theorem vRate_iff {r : Int} : vRate r = true ↔ 0 ≤ r ∧ r ≤ 1000000 := by
  unfold vRate
  simp only [Bool.and_eq_true, decide_eq_true_eq]
theorem vNet_iff {x : GNet} : vNet x = true ↔ 2 ≤ x.Rates.length ∧ x.Rates.length ≤ 8 ∧ x.Rates[0]? = some 0 ∧ x.Sights.length ≤ 30 ∧ (∀ r ∈ x.Rates, 0 ≤ r ∧ r ≤ 1000000) ∧ ∀ s ∈ x.Sights, vSight (x.Rates.length : Int) s = true := by
  unfold vNet
  simp only [Bool.and_eq_true, decide_eq_true_eq, and_assoc, List.all_eq_true, vRate_iff]
theorem containsInt_eq (l : List Int) (f : Int → Option Bool) (p : Int → Bool) (h : ∀ x ∈ l, f x = some (p x)) : slices_ContainsFunc_int l f = some (l.any p) := by
  unfold slices_ContainsFunc_int slices_IndexFunc_int
  rw [index_loop p]
  · rw [← findIdx_any]
    cases l.findIdx? p with
    | none => rfl
    | some i => simp
  · intro i x hx
    simp only [idx_at hx, Option.bind_some, h x (List.mem_of_getElem? hx)]
    cases p x <;> rfl
theorem containsSight_eq (l : List GSight) (f : GSight → Option Bool) (p : GSight → Bool) (h : ∀ x ∈ l, f x = some (p x)) : slices_ContainsFunc_Sight l f = some (l.any p) := by
  unfold slices_ContainsFunc_Sight slices_IndexFunc_Sight
  rw [index_loop p]
  · rw [← findIdx_any]
    cases l.findIdx? p with
    | none => rfl
    | some i => simp
  · intro i x hx
    simp only [idx_at hx, Option.bind_some, h x (List.mem_of_getElem? hx)]
    cases p x <;> rfl
theorem not_any {α : Type} (p : α → Bool) (l : List α) : (!l.any fun x => !p x) = l.all p := by
  induction l with
  | nil => rfl
  | cons x l ih => simp only [List.any_cons, List.all_cons, Bool.not_or, Bool.not_not, ih]
theorem any_not {α : Type} (p : α → Bool) (l : List α) : (l.any fun x => !p x) = !l.all p := by rw [← not_any, Bool.not_not]
theorem andI (b : Bool) (o : Option Bool) (c : Bool) (h : o = some c) : (if b = true then o else some false) = some (b && c) := by cases b <;> simp [h]
theorem orO (b : Bool) (o : Option Bool) (c : Bool) (h : b = false → o = some c) : (if b = true then some true else o) = some (b || c) := by
  cases b
  · simp [h rfl]
  · rfl
theorem sub1 {n : Int} (hn : 1 ≤ n ∧ n ≤ 1000000) : subI n 1 = some (n - 1) := if_pos (inI_iff.2 (by omega))
theorem validSight_eq (s : GSight) {n : Int} (hn : 1 ≤ n ∧ n ≤ 1000000) : sight_validSight s n = some (vSight n s) := by
  unfold sight_validSight sight_within
  simp only [sub1 hn, Option.bind_some]
  simp only [andI _ _ _ rfl, Option.bind_some]
  rw [Option.some.injEq, Bool.eq_iff_iff, vSight_iff]
  simp only [Bool.and_eq_true, decide_eq_true_eq, bne_iff_ne]
  omega
theorem valid_eq (x : GNet) : sight_Valid x = some (vNet x) := by
  unfold sight_Valid sight_within
  by_cases hl : 2 ≤ x.Rates.length ∧ x.Rates.length ≤ 8
  · have h1 : (decide ((2 : Int) ≤ ((x.Rates.length : Nat) : Int)) && decide (((x.Rates.length : Nat) : Int) ≤ 8)) = true := by
      rw [Bool.and_eq_true, decide_eq_true_eq, decide_eq_true_eq]; omega
    obtain ⟨r0, hr⟩ : ∃ r0, x.Rates[0]? = some r0 := ⟨_, List.getElem?_eq_getElem (by omega)⟩
    have hi : idx x.Rates 0 = some r0 := by unfold idx; rw [if_pos (Int.le_refl 0)]; exact hr
    have c1 : slices_ContainsFunc_int x.Rates (fun x0 => sight_Valid_c1 x0) = some (!x.Rates.all vRate) := by
      rw [← any_not]
      refine containsInt_eq _ _ _ fun r _ => ?_
      rfl
    have c2 : slices_ContainsFunc_Sight x.Sights (fun x0 => sight_Valid_c2 x0 ((x.Rates.length : Nat) : Int)) = some (!x.Sights.all (vSight (x.Rates.length : Int))) := by
      rw [← any_not]
      refine containsSight_eq _ _ _ fun s _ => ?_
      unfold sight_Valid_c2
      rw [validSight_eq s (by omega)]
      rfl
    rw [Option.bind_some, h1]
    simp only [Bool.not_true, Bool.false_eq_true, if_false, hi, Option.bind_some, c1, c2, orO _ _ _ (fun _ => rfl), andI _ _ _ rfl]
    unfold vNet
    rw [decide_eq_true hl.1, decide_eq_true hl.2, hr]
    by_cases e0 : r0 = 0
    · subst e0
      by_cases e1 : x.Sights.length ≤ 30
      · cases x.Rates.all vRate <;> simp [e1] <;> omega
      · cases x.Rates.all vRate <;> simp [e1] <;> omega
    · simp [e0]
  · have h1 : (decide ((2 : Int) ≤ ((x.Rates.length : Nat) : Int)) && decide (((x.Rates.length : Nat) : Int) ≤ 8)) = false := by
      rw [Bool.and_eq_false_iff, decide_eq_false_iff_not, decide_eq_false_iff_not]; omega
    rw [Option.bind_some, h1]
    simp only [Bool.not_false, if_true, Option.bind_some]
    symm
    rw [Option.some.injEq]
    cases hv : vNet x with
    | false => rfl
    | true => exact absurd (vNet_iff.1 hv) (fun h => hl ⟨h.1, h.2.1⟩)
end Go.Fw
