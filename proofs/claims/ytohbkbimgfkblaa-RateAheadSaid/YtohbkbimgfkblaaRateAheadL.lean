/-
  RateAhead's plain law: the model returns true. No program in it.
-/
import Derived.Test.YtohbkbimgfkblaaRatesLib
namespace Go.Fw
theorem rAhead_eq (a : GBox) (n d : Int) (h : a.Name.size ≤ 1000) : noongunref06_Ahead a n d = some (aheadS a n d) := by
  unfold noongunref06_Ahead aheadS
  simp only [mk_eta, rValidBox_eq _ h, Option.bind_some]
  cases hv : vBox a with
  | false => rfl
  | true =>
    have hl := vB_len hv
    have hdl := dl1_len a.Errors
    have hbs : (((decide (n < 1)) || (decide (d < 1))) || (decide (400 < d))) = (decide (n < 1) || !inB 1 400 d) := by
      unfold inB
      rw [Bool.eq_iff_iff]; simp; omega
    simp only [Bool.not_true, Bool.false_eq_true, if_false, if_true]
    rw [hbs]
    cases hb : (decide (n < 1) || !inB 1 400 d) with
    | true => rfl
    | false =>
      simp only [Bool.or_eq_false_iff, decide_eq_false_iff_not, Bool.not_eq_false', inB_iff] at hb
      rw [if_neg (by simp), if_neg (by simp), rates_eq a (vB_errors hv) hl.1 (by omega), Option.bind_some]
      by_cases hlt : (((dl 1 a.Errors).length : Nat) : Int) < n
      · rw [if_pos hlt, if_pos (decide_eq_true hlt)]
      · have hbd : ∀ y ∈ dl 1 a.Errors, -172800000 ≤ y ∧ y ≤ 172800000 := dl_mem (B := 86400000) (by omega) (vB_errors hv)
        have hlast : ∀ y ∈ lastN n (dl 1 a.Errors), -172800000 ≤ y ∧ y ≤ 172800000 := fun y hy => hbd y (List.mem_of_mem_drop hy)
        have hne := lastN_ne (dl 1 a.Errors) n (by omega) (by omega)
        have hlo := loS_bd (B := 172800000) (by omega) _ hlast
        have hhi := hiS_bd (B := 172800000) (by omega) _ hlast
        have b1 := mul_bd2 (i := d) (by omega) (by omega) hlo
        have b2 := mul_bd2 (i := d) (by omega) (by omega) hhi
        have b3 : d * loS (lastN n (dl 1 a.Errors)) ≤ d * hiS (lastN n (dl 1 a.Errors)) := Int.mul_le_mul_of_nonneg_left (lo_le_hi _ hne) (by omega)
        have el : a.Errors[a.Errors.length - 1]? = some a.Errors[a.Errors.length - 1] := List.getElem?_eq_getElem (by omega)
        have hE := vB_errors hv _ (List.getElem_mem (show a.Errors.length - 1 < a.Errors.length by omega))
        have hlS : lastS a = a.Errors[a.Errors.length - 1] := by unfold lastS; rw [List.getD_eq_getElem?_getD, el]; rfl
        rw [if_neg hlt, if_neg (by simp only [decide_eq_true_eq]; exact hlt), subI_ok (by omega), Option.bind_some, show ((a.Errors.length : Nat) : Int) - 1 = ((a.Errors.length - 1 : Nat) : Int) by omega, idx_at el, Option.bind_some,
          subI_ok (by omega), Option.bind_some, lastN_eq _ n (by omega) (by omega), Option.bind_some, Least_eq _ hne, Option.bind_some, mulI_ok (by omega), Option.bind_some, addI_ok (by omega), Option.bind_some, Option.bind_some,
          lastN_eq _ n (by omega) (by omega), Option.bind_some, Greatest_eq _ hne, Option.bind_some, mulI_ok (by omega), Option.bind_some, addI_ok (by omega), Option.bind_some, ← hlS]
        rw [← hlS] at hE
        have hsp : spanB ⟨lastS a + d * loS (lastN n (dl 1 a.Errors)), lastS a + d * hiS (lastN n (dl 1 a.Errors))⟩ = true := by
          simp only [spanB, Bool.and_eq_true, decide_eq_true_eq]; omega
        rw [if_pos hsp, if_neg]
        simp only [Bool.or_eq_true, decide_eq_true_eq]
        omega

/-! Leaps. -/
def leapF (c : Int) : Int → List Int → List Int
  | _, [] => []
  | i, x :: xs => (if c < max x (-x) then [i] else []) ++ leapF c (i + 1) xs
theorem leapF_snoc (c : Int) (x : Int) : ∀ (l : List Int) (i : Int), leapF c i (l ++ [x]) = leapF c i l ++ (if c < max x (-x) then [i + (l.length : Int)] else [])
  | [], i => by simp [leapF]
  | y :: l, i => by
    rw [List.cons_append, leapF, leapF_snoc c x l (i + 1), leapF, List.append_assoc, List.length_cons]
    congr 3
    have : i + 1 + (l.length : Int) = i + ((l.length + 1 : Nat) : Int) := by omega
    rw [this]
theorem leapF_len (c : Int) : ∀ (l : List Int) (i : Int), (leapF c i l).length ≤ l.length
  | [], _ => Nat.le_refl _
  | x :: l, i => by
    have := leapF_len c l (i + 1)
    rw [leapF, List.length_append, List.length_cons]
    split <;> simp <;> omega
def leapsS (a : GBox) (c : Int) : List Int × Int := if vBox a = true then (if c < 0 then ([], 7) else (leapF c 1 (dl 1 (dl 1 a.Errors)), 0)) else ([], 1)
theorem leap_loop (c : Int) (body : Int → Int → (List Int × Int) → Option (Step (List Int × Int) (List Int)))
    (hb : ∀ i x z k, body i x (z, k) = (((addI k 1).bind fun t3 => ((if decide (c < max x (negW x)) = true then (appI z [t3]).bind fun t => some t else some z : Option (List Int))).bind fun s4 => some (s4, t3)) : Option (List Int × Int)).bind fun o => some (.cont (o.1, o.2))) :
    ∀ (l : List Int) (i : Int) (z : List Int) (k : Nat), (∀ x ∈ l, -1000000000 ≤ x ∧ x ≤ 1000000000) → k + l.length ≤ 1000 → z.length + l.length ≤ 1000 → rangeL body (fun s => s.1) l i (z, (k : Int)) = some (z ++ leapF c ((k : Int) + 1) l)
  | [], i, z, k, _, _, _ => by simp [rangeL, leapF]
  | x :: l, i, z, k, hx, hk, hz => by
    have b1 := hx x (by simp)
    simp only [List.length_cons] at hk hz
    rw [rangeL, hb, addI_ok (by omega), Option.bind_some, negW_ok (by omega)]
    by_cases hc : c < max x (-x)
    · rw [if_pos (decide_eq_true hc), appI_ok (by simp only [List.length_singleton]; omega), Option.bind_some, Option.bind_some, Option.bind_some, Option.bind_some]
      have := leap_loop c body hb l (i + 1) (z ++ [(k : Int) + 1]) (k + 1) (fun y hy => hx y (by simp [hy])) (by omega) (by rw [List.length_append]; simp only [List.length_singleton]; omega)
      rw [leapF, if_pos hc]
      simp only [Int.natCast_add, Int.natCast_one] at this
      rw [← List.append_assoc]
      exact this
    · rw [if_neg (by simpa using hc), Option.bind_some, Option.bind_some, Option.bind_some]
      have := leap_loop c body hb l (i + 1) z (k + 1) (fun y hy => hx y (by simp [hy])) (by omega) (by omega)
      rw [leapF, if_neg hc, List.nil_append]
      simp only [Int.natCast_add, Int.natCast_one] at this
      exact this
theorem ddl_bd {a : GBox} (hv : vBox a = true) : ∀ y ∈ dl 1 (dl 1 a.Errors), -345600000 ≤ y ∧ y ≤ 345600000 := dl_mem (B := 172800000) (by omega) (dl_mem (B := 86400000) (by omega) (vB_errors hv))
theorem Leaps_eq (a : GBox) (c : Int) (h : a.Name.size ≤ 1000) : rate_Leaps a c = some (leapsS a c) := by
  unfold rate_Leaps leapsS
  simp only [mk_eta, Daily_eq _ h, Option.bind_some, dailyS]
  cases hv : vBox a with
  | false => rfl
  | true =>
    have hl := vB_len hv
    have hdl := dl1_len a.Errors
    have hddl := dl1_len (dl 1 a.Errors)
    simp only [if_true, bne_self_eq_false, Bool.false_eq_true, if_false, decide_eq_true_eq]
    by_cases hc : c < 0
    · rw [if_pos hc, if_pos hc]
    · have hd := diffs_eq 1 (dl 1 a.Errors) 172800000 (by omega) (by omega) (by omega) (dl_mem (B := 86400000) (by omega) (vB_errors hv)) (by omega)
      rw [show ((1 : Nat) : Int) = 1 from rfl] at hd
      rw [if_neg hc, if_neg hc, hd, Option.bind_some]
      have := leap_loop c (fun _ x1 s => (((addI s.2 1).bind fun t3 => ((if decide (c < max x1 (negW x1)) = true then (appI s.1 [t3]).bind fun t => some t else some s.1 : Option (List Int))).bind fun s4 => some (s4, t3)) : Option (List Int × Int)).bind fun o => some (.cont (o.1, o.2)))
        (fun _ _ _ _ => rfl) (dl 1 (dl 1 a.Errors)) 0 [] 0 (fun x hx => by have := ddl_bd hv x hx; omega) (by omega) (by simp; omega)
      have e2 := congrArg (fun o => Option.bind o (fun s1 : List Int => some (s1, (0 : Int)))) this
      refine Eq.trans ?_ e2
      simp only [decide_eq_true_eq]
      rfl
theorem abs_eq (x : Int) (h : -1000000000 ≤ x ∧ x ≤ 1000000000) : noongunref06_Abs x = some (max x (-x)) := by
  unfold noongunref06_Abs
  by_cases h0 : x < 0
  · rw [if_pos (decide_eq_true h0), negW_ok (by omega), show max x (-x) = -x by omega]
  · rw [if_neg (by simpa using h0), show max x (-x) = x by omega]
theorem rLeaps_eq (a : GBox) (c : Int) (h : a.Name.size ≤ 1000) : noongunref06_Leaps a c = some (leapsS a c) := by
  unfold noongunref06_Leaps leapsS
  simp only [mk_eta, rValidBox_eq _ h, Option.bind_some]
  cases hv : vBox a with
  | false => rfl
  | true =>
    have hl := vB_len hv
    have hdl := dl1_len a.Errors
    have hddl := dl1_len (dl 1 a.Errors)
    simp only [Bool.not_true, Bool.false_eq_true, if_false, if_true]
    by_cases hc : c < 0
    · rw [if_pos (decide_eq_true hc), if_pos hc]
    · rw [if_neg (by simpa using hc), if_neg hc, rates_eq a (vB_errors hv) hl.1 (by omega), Option.bind_some]
      obtain ⟨x, h1, rfl⟩ := loopR_inv (S := Int × List Int) (X := List Int) (body := fun (s : Int × (List Int)) => match s with
        | (z3, z4) =>
          (if (decide (z3 < (((dl 1 a.Errors).length : Nat) : Int))) = true then
            ((
              (idx (dl 1 a.Errors) z3).bind (fun x1 =>
              (subI z3 1).bind (fun t3 =>
              (idx (dl 1 a.Errors) t3).bind (fun x2 =>
              (subI x1 x2).bind (fun t4 =>
              (noongunref06_Abs t4).bind (fun t5 =>
              ((
                (if (decide (c < t5)) = true then
                  (appI z4 ([z3] : List Int)).bind (fun t6 =>
                  some t6)
                else
                  some z4)) : Option ((List Int))).bind (fun s3 =>
              some s3))))))) : Option ((List Int))).bind (fun s2 =>
            (addI z3 1).bind (fun t7 =>
            some (Step.cont (t7, s2))))
          else
            some (Step.done z4))) (fun s => (dl 1 a.Errors).length - s.1.toNat) (fun s => ∃ j : Nat, s = (((j + 1 : Nat) : Int), leapF c 1 ((dl 1 (dl 1 a.Errors)).take j)) ∧ j + 1 ≤ (dl 1 a.Errors).length) (fun x => x = leapF c 1 (dl 1 (dl 1 a.Errors))) (by
          rintro _ ⟨j, rfl, hj⟩
          by_cases hlt : j + 1 < (dl 1 a.Errors).length
          · right
            have e1 : (dl 1 a.Errors)[j + 1]? = some (dl 1 a.Errors)[j + 1] := List.getElem?_eq_getElem hlt
            have e2 : (dl 1 a.Errors)[j]? = some (dl 1 a.Errors)[j] := List.getElem?_eq_getElem (by omega)
            have hdb : ∀ y ∈ dl 1 a.Errors, -172800000 ≤ y ∧ y ≤ 172800000 := dl_mem (B := 86400000) (by omega) (vB_errors hv)
            have b1 := hdb _ (List.getElem_mem hlt)
            have b2 := hdb _ (List.getElem_mem (show j < (dl 1 a.Errors).length by omega))
            have hd : decide ((((j + 1 : Nat) : Int)) < (((dl 1 a.Errors).length : Nat) : Int)) = true := decide_eq_true (by omega)
            have htk : (dl 1 (dl 1 a.Errors)).take (j + 1) = (dl 1 (dl 1 a.Errors)).take j ++ [(dl 1 a.Errors)[j + 1] - (dl 1 a.Errors)[j]] := by rw [List.take_add_one, dl1_get _ _ hlt]; rfl
            have htl : ((dl 1 (dl 1 a.Errors)).take j).length = j := by rw [List.length_take]; omega
            have hfl := leapF_len c ((dl 1 (dl 1 a.Errors)).take j) 1
            refine ⟨(((j + 1 + 1 : Nat) : Int), leapF c 1 ((dl 1 (dl 1 a.Errors)).take (j + 1))), ?_, ⟨j + 1, rfl, by omega⟩, by show (dl 1 a.Errors).length - (((j + 1 + 1 : Nat) : Int)).toNat < (dl 1 a.Errors).length - (((j + 1 : Nat) : Int)).toNat; omega⟩
            show (if _ = true then _ else _) = _
            rw [if_pos hd, idx_at e1, Option.bind_some, subI_ok (by omega), Option.bind_some, show (((j + 1 : Nat) : Int)) - 1 = ((j : Nat) : Int) by omega, idx_at e2, Option.bind_some, subI_ok (by omega), Option.bind_some, abs_eq _ (by omega), Option.bind_some,
              htk, leapF_snoc, htl, show (1 : Int) + (j : Int) = ((j + 1 : Nat) : Int) by omega]
            by_cases hx : c < max ((dl 1 a.Errors)[j + 1] - (dl 1 a.Errors)[j]) (-((dl 1 a.Errors)[j + 1] - (dl 1 a.Errors)[j]))
            · rw [if_pos (decide_eq_true hx), if_pos hx, appI_ok (by simp only [List.length_singleton]; omega), Option.bind_some, Option.bind_some, Option.bind_some, addI_ok (by omega), Option.bind_some]
              rfl
            · rw [if_neg (by simpa using hx), if_neg hx, Option.bind_some, Option.bind_some, addI_ok (by omega), Option.bind_some, List.append_nil]
              rfl
          · left
            have hd : ¬ decide ((((j + 1 : Nat) : Int)) < (((dl 1 a.Errors).length : Nat) : Int)) = true := by simp only [decide_eq_true_eq]; omega
            refine ⟨_, ?_, rfl⟩
            show (if _ = true then _ else _) = _
            rw [if_neg hd, List.take_of_length_le (by omega)]) ((1 : Int), ([] : List Int)) ⟨0, rfl, by omega⟩
      rw [h1]; rfl

theorem ahead_zero {a : GBox} {n d : Int} (h : (aheadS a n d).2 = 0) : 1 ≤ d ∧ d ≤ 400 ∧ vBox a = true ∧ lastN n (dl 1 a.Errors) ≠ [] ∧ (aheadS a n d).1 = ⟨lastS a + d * loS (lastN n (dl 1 a.Errors)), lastS a + d * hiS (lastN n (dl 1 a.Errors))⟩ := by
  unfold aheadS at h ⊢
  by_cases hv : vBox a = true
  · rw [if_pos hv] at h ⊢
    by_cases hb : (decide (n < 1) || !inB 1 400 d) = true
    · rw [if_pos hb] at h; cases h
    · rw [if_neg hb] at h ⊢
      simp only [Bool.or_eq_true, decide_eq_true_eq, Bool.not_eq_true', not_or, Bool.not_eq_false, inB_iff] at hb
      by_cases hl : (((dl 1 a.Errors).length : Nat) : Int) < n
      · rw [if_pos hl] at h; cases h
      · rw [if_neg hl] at h ⊢
        split at h
        · rename_i hs
          rw [if_pos hs]
          exact ⟨hb.2.1, hb.2.2, hv, lastN_ne _ n (by omega) (by omega), rfl⟩
        · cases h
  · rw [if_neg hv] at h; cases h
theorem wide {lo hi d d' : Int} (h : lo ≤ hi) (hd : d ≤ d') : d * hi - d * lo ≤ d' * hi - d' * lo := by
  have h1 : d * (hi - lo) ≤ d' * (hi - lo) := Int.mul_le_mul_of_nonneg_right hd (by omega)
  rw [Int.mul_sub, Int.mul_sub] at h1
  exact h1
theorem law_noongunlaw06_RateAhead (a0 : GBox) (_ok0 : okGBox a0) (a1 : Int) (_ok1 : inI a1 = true) (a2 : Int) (_ok2 : inI a2 = true) (a3 : Int) (_ok3 : inI a3 = true) (a4 : Int) (_ok4 : inI a4 = true) : noongunlaw06_RateAhead a0 a1 a2 a3 a4 = some true := by
  unfold noongunlaw06_RateAhead
  simp only [mk_eta, fit_one, Option.bind_some, awake_eq]
  cases hf : fitB a0 with
  | false => rfl
  | true =>
    have hn : a0.Name.size ≤ 1000 := by
      simp only [fitB, Bool.not_eq_true', Bool.or_eq_false_iff, decide_eq_false_iff_not] at hf
      omega
    simp only [Bool.not_true, Bool.false_eq_true, if_false]
    rw [Ahead_eq _ _ _ hn, Option.bind_some, rAhead_eq _ _ _ hn, Option.bind_some, Leaps_eq _ _ hn, Option.bind_some, rLeaps_eq _ _ hn, Option.bind_some]
    simp only [beq_self_eq_true, Bool.not_true, bne_self_eq_false, Bool.or_self, Bool.false_eq_true, if_false, sameInts_eq, decide_true, Option.bind_some, Bool.or_false]
    by_cases hc : ((((aheadS a0 a1 a2).2 != 0) || (decide (a3 < a2))) = true)
    · rw [if_pos hc]
    · rw [if_neg hc]
      simp only [Bool.or_eq_true, bne_iff_ne, decide_eq_true_eq, not_or, Decidable.not_not] at hc
      obtain ⟨h0, h32⟩ := hc
      obtain ⟨q1, q2, hv, hne, q3⟩ := ahead_zero h0
      rw [Ahead_eq _ _ _ hn, Option.bind_some]
      by_cases h1 : (aheadS a0 a1 a3).2 = 0
      · obtain ⟨p1, p2, _, _, p3⟩ := ahead_zero h1
        have hbd : ∀ y ∈ lastN a1 (dl 1 a0.Errors), -172800000 ≤ y ∧ y ≤ 172800000 := fun y hy => dl_mem (B := 86400000) (by omega) (vB_errors hv) y (List.mem_of_mem_drop hy)
        have hlo := loS_bd (B := 172800000) (by omega) _ hbd
        have hhi := hiS_bd (B := 172800000) (by omega) _ hbd
        have b1 := mul_bd2 (i := a2) (by omega) q2 hlo
        have b2 := mul_bd2 (i := a2) (by omega) q2 hhi
        have b3 := mul_bd2 (i := a3) (by omega) p2 hlo
        have b4 := mul_bd2 (i := a3) (by omega) p2 hhi
        have hw := wide (lo_le_hi _ hne) (show a2 ≤ a3 by omega)
        have hE : -86400000 ≤ lastS a0 ∧ lastS a0 ≤ 86400000 := by
          have hl := vB_len hv
          have el : a0.Errors[a0.Errors.length - 1]? = some a0.Errors[a0.Errors.length - 1] := List.getElem?_eq_getElem (by omega)
          unfold lastS
          rw [List.getD_eq_getElem?_getD, el]
          exact vB_errors hv _ (List.getElem_mem _)
        rw [h1, q3, p3]
        simp only [bne_self_eq_false, Bool.false_eq_true, if_false]
        rw [subI_ok (by omega), Option.bind_some, subI_ok (by omega), Option.bind_some, Option.bind_some, decide_eq_true (by omega)]
        rfl
      · have hb : ((aheadS a0 a1 a3).2 != 0) = true := by simp [h1]
        rw [hb]
        rfl
end Go.Fw
