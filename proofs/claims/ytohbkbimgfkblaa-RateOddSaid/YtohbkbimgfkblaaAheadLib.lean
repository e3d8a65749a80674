/-
  Daily rates and what they make ahead, plain. No condition.
-/
import Derived.Test.YtohbkbimgfkblaaLib
namespace Go.Fw
theorem mul_bd {i a B : Int} (h0 : 0 ≤ i) (h1 : i ≤ 20) (h : -B ≤ a ∧ a ≤ B) : -20 * B ≤ i * a ∧ i * a ≤ 20 * B := by
  have hB : 0 ≤ B := by omega
  have e1 : i * a ≤ i * B := Int.mul_le_mul_of_nonneg_left h.2 h0
  have e2 : i * B ≤ 20 * B := Int.mul_le_mul_of_nonneg_right h1 hB
  have e3 : i * (-B) ≤ i * a := Int.mul_le_mul_of_nonneg_left h.1 h0
  have e4 : i * (-B) = -(i * B) := Int.mul_neg _ _
  omega
theorem Daily_eq (a : GBox) (h : a.Name.size ≤ 1000) : rate_Daily a = some (dailyS a) := by
  unfold rate_Daily dailyS
  simp only [mk_eta, ValidBox_eq _ h, Option.bind_some]
  cases hv : vBox a with
  | false => rfl
  | true =>
    have hl := vB_len hv
    have hd := diffs_eq 1 a.Errors 86400000 (by omega) (by omega) (by omega) (vB_errors hv) (by omega)
    simp only [Bool.not_true, Bool.false_eq_true, if_false, if_true]
    rw [show ((1 : Nat) : Int) = 1 from rfl] at hd
    rw [hd, Option.bind_some, collect_eq _ (by rw [dl_len]; have := Nat.div_le_self (a.Errors.length - 1) 1; omega), Option.bind_some]
theorem Least_eq (l : List Int) (h : l ≠ []) : noongunref06_Least l = some (loS l) := by
  cases l with
  | nil => exact absurd rfl h
  | cons x t =>
    unfold noongunref06_Least
    have : idx (x :: t) 0 = some x := rfl
    rw [this, Option.bind_some, rangeL_fold min _ 0 x (fun _ _ _ _ => rfl)]
    simp [loS]
theorem Greatest_eq (l : List Int) (h : l ≠ []) : noongunref06_Greatest l = some (hiS l) := by
  cases l with
  | nil => exact absurd rfl h
  | cons x t =>
    unfold noongunref06_Greatest
    have : idx (x :: t) 0 = some x := rfl
    rw [this, Option.bind_some, rangeL_fold max _ 0 x (fun _ _ _ _ => rfl)]
    simp [hiS]
theorem fold_mono : ∀ (t : List Int) (x y : Int), x ≤ y → t.foldl min x ≤ t.foldl max y
  | [], _, _, h => h
  | z :: t, x, y, h => fold_mono t _ _ (by omega)
theorem lo_le_hi (l : List Int) (h : l ≠ []) : loS l ≤ hiS l := by
  cases l with
  | nil => exact absurd rfl h
  | cons x t => exact fold_mono t x x (Int.le_refl _)
/-- The last n of a list. -/
def lastN (n : Int) (l : List Int) : List Int := l.drop (l.length - n.toNat)
theorem lastN_eq (l : List Int) (n : Int) (h1 : 1 ≤ n) (h2 : n ≤ (l.length : Int)) : cutI l (((l.length : Nat) : Int) - n) ((l.length : Nat) : Int) = some (lastN n l) := by
  unfold cutI lastN
  rw [if_pos (by omega), Int.toNat_natCast, List.take_length, show (((l.length : Nat) : Int) - n).toNat = l.length - n.toNat by omega]
theorem lastN_ne (l : List Int) (n : Int) (h1 : 1 ≤ n) (h2 : n ≤ (l.length : Int)) : lastN n l ≠ [] := by
  unfold lastN
  intro h
  have := congrArg List.length h
  simp at this
  omega
def spanB (s : GSpan) : Bool := decide (-1000000000000 ≤ s.Lo) && decide (s.Lo ≤ s.Hi) && decide (s.Hi ≤ 1000000000000)
def lastS (a : GBox) : Int := a.Errors.getD (a.Errors.length - 1) 0
def aheadS (a : GBox) (n d : Int) : GSpan × Int :=
  if vBox a = true then
    (if (decide (n < 1) || !inB 1 400 d) = true then (⟨0, 0⟩, 7) else if (((dl 1 a.Errors).length : Nat) : Int) < n then (⟨0, 0⟩, 8)
      else if spanB ⟨lastS a + d * loS (lastN n (dl 1 a.Errors)), lastS a + d * hiS (lastN n (dl 1 a.Errors))⟩ = true then (⟨lastS a + d * loS (lastN n (dl 1 a.Errors)), lastS a + d * hiS (lastN n (dl 1 a.Errors))⟩, 0) else (⟨0, 0⟩, 4))
  else (⟨0, 0⟩, 1)
theorem mul_bd2 {i a B : Int} (h0 : 0 ≤ i) (h1 : i ≤ 400) (h : -B ≤ a ∧ a ≤ B) : -400 * B ≤ i * a ∧ i * a ≤ 400 * B := by
  have hB : 0 ≤ B := by omega
  have e1 : i * a ≤ i * B := Int.mul_le_mul_of_nonneg_left h.2 h0
  have e2 : i * B ≤ 400 * B := Int.mul_le_mul_of_nonneg_right h1 hB
  have e3 : i * (-B) ≤ i * a := Int.mul_le_mul_of_nonneg_left h.1 h0
  have e4 : i * (-B) = -(i * B) := Int.mul_neg _ _
  omega
theorem Ahead_eq (a : GBox) (n d : Int) (h : a.Name.size ≤ 1000) : rate_Ahead a n d = some (aheadS a n d) := by
  unfold rate_Ahead aheadS
  simp only [mk_eta, Daily_eq _ h, Option.bind_some, dailyS, within_eq]
  cases hv : vBox a with
  | false => rfl
  | true =>
    have hl := vB_len hv
    have hdl : (dl 1 a.Errors).length = a.Errors.length - 1 := by rw [dl_len, Nat.div_one]
    have hbs : (if (decide (n < 1)) = true then some true else some (!inB 1 400 d)) = some (decide (n < 1) || !inB 1 400 d) := by cases decide (n < 1) <;> rfl
    simp only [if_true, bne_self_eq_false, Bool.false_eq_true, if_false]
    rw [hbs, Option.bind_some]
    cases hb : (decide (n < 1) || !inB 1 400 d) with
    | true => rfl
    | false =>
      simp only [Bool.or_eq_false_iff, decide_eq_false_iff_not, Bool.not_eq_false', inB_iff] at hb
      simp only [Bool.false_eq_true, if_false, decide_eq_true_eq]
      by_cases hlt : (((dl 1 a.Errors).length : Nat) : Int) < n
      · rw [if_pos hlt, if_pos hlt]
      · have hbd : ∀ y ∈ dl 1 a.Errors, -172800000 ≤ y ∧ y ≤ 172800000 := dl_mem (B := 86400000) (by omega) (vB_errors hv)
        have hlast : ∀ y ∈ lastN n (dl 1 a.Errors), -172800000 ≤ y ∧ y ≤ 172800000 := fun y hy => hbd y (List.mem_of_mem_drop hy)
        have hlo := loS_bd (B := 172800000) (by omega) _ hlast
        have hhi := hiS_bd (B := 172800000) (by omega) _ hlast
        have b1 := mul_bd2 (i := d) (by omega) (by omega) hlo
        have b2 := mul_bd2 (i := d) (by omega) (by omega) hhi
        have el : a.Errors[a.Errors.length - 1]? = some a.Errors[a.Errors.length - 1] := List.getElem?_eq_getElem (by omega)
        have hE := vB_errors hv _ (List.getElem_mem (show a.Errors.length - 1 < a.Errors.length by omega))
        have hlS : lastS a = a.Errors[a.Errors.length - 1] := by unfold lastS; rw [List.getD_eq_getElem?_getD, el]; rfl
        rw [if_neg hlt, if_neg hlt, subI_ok (by omega), Option.bind_some, lastN_eq _ n (by omega) (by omega), Option.bind_some]
        simp only [slices_Values_int_c1, Option.bind_some, ends_eq _ (lastN_ne (dl 1 a.Errors) n (by omega) (by omega))]
        rw [subI_ok (by omega), Option.bind_some, show ((a.Errors.length : Nat) : Int) - 1 = ((a.Errors.length - 1 : Nat) : Int) by omega, idx_at el, Option.bind_some, mulI_ok (by omega), Option.bind_some, addI_ok (by omega), Option.bind_some,
          mulI_ok (by omega), Option.bind_some, addI_ok (by omega), Option.bind_some, ← hlS]
        show (some (spanB _)).bind _ = _
        rw [Option.bind_some]
        cases spanB ⟨lastS a + d * loS (lastN n (dl 1 a.Errors)), lastS a + d * hiS (lastN n (dl 1 a.Errors))⟩ <;> rfl
end Go.Fw
