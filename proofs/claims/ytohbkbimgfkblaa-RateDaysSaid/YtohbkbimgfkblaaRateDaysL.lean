/-
  RateDays' plain law: the model returns true. No program in it.
-/
import Derived.Test.YtohbkbimgfkblaaSpanLib
namespace Go.Fw
theorem dlk_get (k : Nat) (hk : 0 < k) (xs : List Int) (j : Nat) (h : (j + 1) * k < xs.length) : (dl k xs)[j]? = some (xs.getD ((j + 1) * k) 0 - xs.getD (j * k) 0) := by
  unfold dl
  have hj : j < (xs.length - 1) / k := by
    have : j + 1 ≤ (xs.length - 1) / k := (Nat.le_div_iff_mul_le hk).2 (by omega)
    omega
  rw [List.getElem?_map, List.getElem?_range hj]
  rfl
theorem ratesk_eq (a : GBox) (k : Nat) (hk : 0 < k) (hk2 : k ≤ 7) (hx : ∀ x ∈ a.Errors, -86400000 ≤ x ∧ x ≤ 86400000) (hl : 2 ≤ a.Errors.length) (hl2 : a.Errors.length ≤ 1000) : noongunref06_rates a (k : Int) = some (dl k a.Errors) := by
  unfold noongunref06_rates
  have hM := Nat.div_le_self (a.Errors.length - 1) k
  obtain ⟨x, h1, rfl⟩ := loopR_inv (S := Int × List Int) (X := List Int) (body := fun (s : Int × (List Int)) => match s with
    | (z3, z4) =>
      (if (decide (z3 < ((a.Errors.length : Nat) : Int))) = true then
        (idx a.Errors z3).bind (fun x1 =>
        (subI z3 (k : Int)).bind (fun t1 =>
        (idx a.Errors t1).bind (fun x2 =>
        (subI x1 x2).bind (fun t2 =>
        (appI z4 ([t2] : List Int)).bind (fun t3 =>
        (addI z3 (k : Int)).bind (fun t4 =>
        some (Step.cont (t4, t3))))))))
      else
        some (Step.done z4))) (fun s => a.Errors.length - s.1.toNat) (fun s => ∃ j : Nat, s = ((((j + 1) * k : Nat) : Int), (dl k a.Errors).take j) ∧ j ≤ (a.Errors.length - 1) / k) (fun x => x = dl k a.Errors) (by
      rintro _ ⟨j, rfl, hj⟩
      have hs : (j + 1) * k = j * k + k := Nat.succ_mul j k
      have hs2 : (j + 1 + 1) * k = (j + 1) * k + k := Nat.succ_mul (j + 1) k
      by_cases hlt : (j + 1) * k < a.Errors.length
      · right
        have hj1 : j + 1 ≤ (a.Errors.length - 1) / k := (Nat.le_div_iff_mul_le hk).2 (by omega)
        have e1 : a.Errors[(j + 1) * k]? = some a.Errors[(j + 1) * k] := List.getElem?_eq_getElem hlt
        have hlt2 : j * k < a.Errors.length := by omega
        have e2 : a.Errors[j * k]? = some a.Errors[j * k] := List.getElem?_eq_getElem hlt2
        have b1 := hx _ (List.getElem_mem hlt)
        have b2 := hx _ (List.getElem_mem hlt2)
        have hd : decide (((((j + 1) * k : Nat) : Int)) < ((a.Errors.length : Nat) : Int)) = true := decide_eq_true (by omega)
        have hg := dlk_get k hk a.Errors j hlt
        rw [List.getD_eq_getElem?_getD, e1, List.getD_eq_getElem?_getD, e2] at hg
        refine ⟨((((j + 1 + 1) * k : Nat) : Int), (dl k a.Errors).take (j + 1)), ?_, ⟨j + 1, rfl, hj1⟩, by
          show a.Errors.length - ((((j + 1 + 1) * k : Nat) : Int)).toNat < a.Errors.length - ((((j + 1) * k : Nat) : Int)).toNat; omega⟩
        show (if _ = true then _ else _) = _
        rw [if_pos hd, idx_at e1, Option.bind_some, subI_ok (by omega), Option.bind_some, show ((((j + 1) * k : Nat) : Int)) - (k : Int) = ((j * k : Nat) : Int) by omega, idx_at e2, Option.bind_some, subI_ok (by omega), Option.bind_some,
          appI_ok (by rw [List.length_take]; simp only [List.length_singleton]; omega), Option.bind_some, addI_ok (by omega), Option.bind_some, List.take_add_one, hg,
          show ((((j + 1) * k : Nat) : Int)) + (k : Int) = (((j + 1 + 1) * k : Nat) : Int) by omega]
        rfl
      · left
        have hd : ¬ decide (((((j + 1) * k : Nat) : Int)) < ((a.Errors.length : Nat) : Int)) = true := by simp only [decide_eq_true_eq]; omega
        have hj2 : (a.Errors.length - 1) / k ≤ j := by
          by_cases h : j + 1 ≤ (a.Errors.length - 1) / k
          · have := (Nat.le_div_iff_mul_le hk).1 h; omega
          · omega
        refine ⟨_, ?_, rfl⟩
        show (if _ = true then _ else _) = _
        rw [if_neg hd, List.take_of_length_le (by rw [dl_len]; exact hj2)]) ((k : Int), ([] : List Int)) ⟨0, by simp, Nat.zero_le _⟩
  rw [h1]; rfl
theorem rDaily_eq (a : GBox) (h : a.Name.size ≤ 1000) : noongunref06_Daily a = some (dailyS a) := by
  unfold noongunref06_Daily dailyS
  simp only [mk_eta, rValidBox_eq _ h, Option.bind_some]
  cases hv : vBox a with
  | false => rfl
  | true =>
    have hl := vB_len hv
    have hr := rates_eq a (vB_errors hv) hl.1 (by omega)
    simp only [Bool.not_true, Bool.false_eq_true, if_false, if_true]
    rw [hr, Option.bind_some]
theorem rWeekly_eq (a : GBox) (h : a.Name.size ≤ 1000) : noongunref06_Weekly a = some (weeklyS a) := by
  unfold noongunref06_Weekly weeklyS
  simp only [mk_eta, rValidBox_eq _ h, Option.bind_some]
  cases hv : vBox a with
  | false => rfl
  | true =>
    have hl := vB_len hv
    have hr := ratesk_eq a 7 (by omega) (by omega) (vB_errors hv) hl.1 (by omega)
    rw [show ((7 : Nat) : Int) = 7 from rfl] at hr
    simp only [Bool.not_true, Bool.false_eq_true, if_false, if_true]
    rw [hr, Option.bind_some]
    by_cases h0 : (dl 7 a.Errors).length = 0
    · simp [h0]
    · have : (((dl 7 a.Errors).length : Nat) : Int) ≠ 0 := by omega
      simp [h0]
/-- The mean, where the box is right. -/
theorem Mean_eq (a : GBox) (h : a.Name.size ≤ 1000) (hv : vBox a = true) : ∃ n' d' : Int, rate_Mean a = some (⟨n', d'⟩, 0) ∧ noongunref06_Mean a = some (⟨n', d'⟩, 0) ∧
    n' * ((a.Errors.length - 1 : Nat) : Int) = (a.Errors.getD (a.Errors.length - 1) 0 - a.Errors.getD 0 0) * d' ∧ -1000000000 ≤ n' ∧ n' ≤ 1000000000 ∧ 1 ≤ d' ∧ d' ≤ 1000 := by
  have hl := vB_len hv
  have e1 : a.Errors[a.Errors.length - 1]? = some a.Errors[a.Errors.length - 1] := List.getElem?_eq_getElem (by omega)
  have e0 : a.Errors[0]? = some a.Errors[0] := List.getElem?_eq_getElem (by omega)
  have i0 : idx a.Errors 0 = some a.Errors[0] := idx_at (i := 0) e0
  have b1 := vB_errors hv _ (List.getElem_mem (show a.Errors.length - 1 < a.Errors.length by omega))
  have b0 := vB_errors hv _ (List.getElem_mem (show 0 < a.Errors.length by omega))
  obtain ⟨g, n', d', hg, hG, f1, f2, h1⟩ := gcd_parts (a.Errors[a.Errors.length - 1] - a.Errors[0]) ((a.Errors.length - 1 : Nat) : Int) (by omega)
  have bn := part_bd hg f1 (B := 1000000000) (by omega)
  have bp := part_pos hg f2 (by omega)
  have bd := part_bd hg f2 (B := 1000) (by omega)
  refine ⟨n', d', ?_, ?_, ?_, bn.1, bn.2, bp, bd.2⟩
  · unfold rate_Mean
    simp only [mk_eta, ValidBox_eq _ h, hv, Option.bind_some, Bool.not_true, Bool.false_eq_true, if_false]
    rw [subI_ok (by omega), Option.bind_some, show ((a.Errors.length : Nat) : Int) - 1 = ((a.Errors.length - 1 : Nat) : Int) by omega, idx_at e1, Option.bind_some, i0, Option.bind_some, subI_ok (by omega), Option.bind_some,
      Make_eq (by omega) (by omega) hg hG f1 f2 h1]
    rfl
  · unfold noongunref06_Mean
    simp only [mk_eta, rValidBox_eq _ h, hv, Option.bind_some, Bool.not_true, Bool.false_eq_true, if_false]
    rw [subI_ok (by omega), Option.bind_some, show ((a.Errors.length : Nat) : Int) - 1 = ((a.Errors.length - 1 : Nat) : Int) by omega, idx_at e1, Option.bind_some, i0, Option.bind_some, subI_ok (by omega), Option.bind_some, Option.bind_some,
      Ratio_eq (by omega) (by omega) hg hG f1 f2]
    rfl
  · rw [List.getD_eq_getElem?_getD, e1, List.getD_eq_getElem?_getD, e0]
    show _ = (a.Errors[a.Errors.length - 1] - a.Errors[0]) * d'
    rw [f1, f2, ← Int.mul_assoc, Int.mul_comm n' (g : Int)]
theorem getD_bd {xs : List Int} (h : ∀ x ∈ xs, -86400000 ≤ x ∧ x ≤ 86400000) (i : Nat) : -86400000 ≤ xs.getD i 0 ∧ xs.getD i 0 ≤ 86400000 := by
  rw [List.getD_eq_getElem?_getD]
  cases e : xs[i]? with
  | none => simp only [Option.getD_none]; omega
  | some x => exact h x (List.mem_of_getElem? e)
theorem sum_cut (xs : List Int) (h : ∀ x ∈ xs, -86400000 ≤ x ∧ x ≤ 86400000) (p q : Nat) (hpq : p ≤ q) (hq : q < xs.length) :
    rangeL (α := Int) (S := Int) (X := Int) (fun _ y z => (addI z y).bind fun t => some (Step.cont t)) (fun z => z) (((dl 1 xs).take q).drop p) 0 0 = some (xs.getD q 0 - xs.getD p 0) := by
  have hlen : (((dl 1 xs).take q).drop p).length = q - p := by rw [List.length_drop, List.length_take, dl1_len]; omega
  obtain ⟨s, h1, h2⟩ := rangeL_inv (S := Int) (X := Int) (body := fun _ y z => (addI z y).bind fun t => some (Step.cont t)) (fin := fun z => z) (fun j z => z = xs.getD (p + j) 0 - xs.getD p 0) (((dl 1 xs).take q).drop p) 0 (by
    rintro j y z hy rfl
    have hj : j < q - p := by rw [← hlen]; exact (List.getElem?_eq_some_iff.1 hy).1
    rw [List.getElem?_drop, List.getElem?_take, if_pos (by omega), dlk_get 1 (by omega) xs (p + j) (by omega)] at hy
    obtain rfl := Option.some.inj hy
    have b1 := getD_bd h (p + j)
    have b2 := getD_bd h (p + j + 1)
    have b3 := getD_bd h p
    refine ⟨_, ?_, rfl⟩
    rw [Nat.mul_one, Nat.mul_one, addI_ok (by omega), Option.bind_some, show xs.getD (p + j) 0 - xs.getD p 0 + (xs.getD (p + j + 1) 0 - xs.getD (p + j) 0) = xs.getD (p + (j + 1)) 0 - xs.getD p 0 by rw [← Nat.add_assoc]; omega]) (by rw [Nat.add_zero]; omega)
  rw [h1, h2, hlen, show p + (q - p) = q by omega]
theorem mul_bd3 {a b : Int} (h1 : -1000000000 ≤ a) (h2 : a ≤ 1000000000) (h3 : 0 ≤ b) (h4 : b ≤ 1000) : -9223372036854775808 ≤ a * b ∧ a * b ≤ 9223372036854775807 := by
  have e1 : a * b ≤ 1000000000 * b := Int.mul_le_mul_of_nonneg_right h2 h3
  have e2 : -1000000000 * b ≤ a * b := Int.mul_le_mul_of_nonneg_right h1 h3
  omega
theorem law_noongunlaw06_RateDays (a0 : GBox) (_ok0 : okGBox a0) : noongunlaw06_RateDays a0 = some true := by
  unfold noongunlaw06_RateDays
  simp only [mk_eta, fit_one, Option.bind_some, awake_eq]
  cases hf : fitB a0 with
  | false => rfl
  | true =>
    have hn : a0.Name.size ≤ 1000 := by
      simp only [fitB, Bool.not_eq_true', Bool.or_eq_false_iff, decide_eq_false_iff_not] at hf
      omega
    simp only [Bool.not_true, Bool.false_eq_true, if_false]
    rw [Daily_eq _ hn, Option.bind_some, rDaily_eq _ hn, Option.bind_some, Weekly_eq _ hn, Option.bind_some, rWeekly_eq _ hn, Option.bind_some]
    cases hv : vBox a0 with
    | false =>
      have m1 : rate_Mean a0 = some (⟨0, 0⟩, 1) := by unfold rate_Mean; simp only [mk_eta, ValidBox_eq _ hn, hv, Option.bind_some]; rfl
      have m2 : noongunref06_Mean a0 = some (⟨0, 0⟩, 1) := by unfold noongunref06_Mean; simp only [mk_eta, rValidBox_eq _ hn, hv, Option.bind_some]; rfl
      rw [m1, Option.bind_some, m2, Option.bind_some, ValidBox_eq _ hn, Option.bind_some, rValidBox_eq _ hn, Option.bind_some]
      simp [dailyS, hv, sameInts_eq]
    | true =>
      obtain ⟨n', d', m1, m2, m3, m4, m5, m6, m7⟩ := Mean_eq a0 hn hv
      have hl := vB_len hv
      have hE := vB_errors hv
      have hdl := dl1_len a0.Errors
      have hw : (weeklyS a0).1 = dl 7 a0.Errors := by
        unfold weeklyS
        rw [if_pos hv]
        by_cases h0 : (dl 7 a0.Errors).length = 0
        · rw [if_pos h0]; exact (List.eq_nil_of_length_eq_zero h0).symm
        · rw [if_neg h0]
      have hd : dailyS a0 = (dl 1 a0.Errors, 0) := by unfold dailyS; rw [if_pos hv]
      rw [m1, Option.bind_some, m2, Option.bind_some, ValidBox_eq _ hn, Option.bind_some, rValidBox_eq _ hn, Option.bind_some, hd]
      simp only [bne_self_eq_false, Bool.false_eq_true, if_false, sameInts_eq, decide_true, Option.bind_some, Bool.not_true, Bool.or_self, beq_self_eq_true, hw]
      obtain ⟨s, l1, l2⟩ := rangeN_inv (S := Int) (X := Ctl Int Bool) (fin := fun z2 => Ctl.next z2) (body := fun ik1 z2 =>
        ((
          (idx (dl 1 a0.Errors) ik1).bind (fun x1 =>
          (addI z2 x1).bind (fun t20 =>
          (addI ik1 1).bind (fun t21 =>
          (remI t21 7).bind (fun t22 =>
          ((
            (if (t22 == 0) = true then
              (subI ik1 6).bind (fun t23 =>
              (addI ik1 1).bind (fun t24 =>
              (cutI (dl 1 a0.Errors) t23 t24).bind (fun t25 =>
              ((
                rangeL (α := Int) (S := Int) (X := Int) (fun _ yk2 z5 =>
                  (addI z5 yk2).bind (fun t26 =>
                  some (Step.cont t26))) (fun z5 => z5) t25 0 0) : Option (Int)).bind (fun s3 =>
              (quoI ik1 7).bind (fun t27 =>
              ((if (decide ((((dl 7 a0.Errors).length : Nat) : Int) ≤ t27)) = true then
                some true
              else
                (quoI ik1 7).bind (fun t28 =>
                (idx (dl 7 a0.Errors) t28).bind (fun x2 =>
                some (x2 != s3)))) : Option Bool).bind (fun b6 =>
              (if b6 = true then
                some (Ctl.ret false)
              else
                some (Ctl.next ()))))))))
            else
              some (Ctl.next ()))) : Option (Ctl (Unit) (Bool))).bind (fun o => match o with
            | .next _ =>
              some (Ctl.next t20)
            | .ret r => some (Ctl.ret r)
            | .exit _ _ => none)))))) : Option (Ctl (Int) (Bool))).bind (fun o => match o with
          | .next s2 =>
            some (Step.cont s2)
          | .ret r => some (Step.done (Ctl.ret r))
          | .exit _ _ => none)) (fun i z => z = a0.Errors.getD i 0 - a0.Errors.getD 0 0) (dl 1 a0.Errors).length 0 (by
        rintro i z hi rfl
        have hlt : i + 1 < a0.Errors.length := by omega
        have q1 := dlk_get 1 (by omega) a0.Errors i (by omega)
        rw [Nat.mul_one, Nat.mul_one] at q1
        have b0 := getD_bd hE 0
        have b1 := getD_bd hE i
        have b2 := getD_bd hE (i + 1)
        refine ⟨_, ?_, rfl⟩
        rw [idx_at q1, Option.bind_some, addI_ok (by omega), Option.bind_some, addI_ok (by omega), Option.bind_some, remI_ok (by omega), Option.bind_some,
          show a0.Errors.getD i 0 - a0.Errors.getD 0 0 + (a0.Errors.getD (i + 1) 0 - a0.Errors.getD i 0) = a0.Errors.getD (i + 1) 0 - a0.Errors.getD 0 0 by omega,
          show ((i : Int) + 1).tmod 7 = (((i + 1) % 7 : Nat) : Int) by rw [Int.tmod_eq_emod_of_nonneg (by omega)]; omega]
        by_cases h7 : (i + 1) % 7 = 0
        · have hq : (i : Int).tdiv 7 = ((i / 7 : Nat) : Int) := by rw [Int.tdiv_eq_ediv_of_nonneg (by omega)]; omega
          have hcut : cutI (dl 1 a0.Errors) ((i : Int) - 6) ((i : Int) + 1) = some (((dl 1 a0.Errors).take (i + 1)).drop (i - 6)) := by
            unfold cutI
            rw [if_pos (by omega), show ((i : Int) + 1).toNat = i + 1 by omega, show ((i : Int) - 6).toNat = i - 6 by omega]
          have hi7 : (i / 7 + 1) * 7 = i + 1 := by omega
          have hq7 := dlk_get 7 (by omega) a0.Errors (i / 7) (by omega)
          have hlen7 : i / 7 < (dl 7 a0.Errors).length := (List.getElem?_eq_some_iff.1 hq7).1
          rw [hi7, show i / 7 * 7 = i - 6 by omega] at hq7
          have hnle : ¬ decide ((((dl 7 a0.Errors).length : Nat) : Int) ≤ ((i / 7 : Nat) : Int)) = true := by simp only [decide_eq_true_eq]; omega
          rw [h7]
          simp only [Int.natCast_zero, beq_self_eq_true, if_true]
          rw [subI_ok (by omega), Option.bind_some, Option.bind_some, hcut, Option.bind_some, sum_cut a0.Errors hE (i - 6) (i + 1) (by omega) hlt, Option.bind_some, quoI_ok (by omega) (by rw [hq]; omega), Option.bind_some, hq,
            if_neg hnle, Option.bind_some, idx_at hq7, Option.bind_some]
          simp
        · have : ((((i + 1) % 7 : Nat) : Int) == 0) = false := by rw [beq_eq_false_iff_ne]; omega
          rw [this]
          rfl) (by omega)
      subst l2
      have e2 := congrArg (fun o => Option.bind o (fun o : Ctl Int Bool => match o with
        | .next s1 =>
          (subI ((a0.Errors.length : Nat) : Int) 1).bind (fun t29 =>
          (idx a0.Errors t29).bind (fun x3 =>
          (idx a0.Errors 0).bind (fun x4 =>
          (subI x3 x4).bind (fun t30 =>
          ((if ((s1 == t30) && true) = true then
            (mulI n' (((dl 1 a0.Errors).length : Nat) : Int)).bind (fun t31 =>
            (mulI s1 d').bind (fun t32 =>
            some (t31 == t32)))
          else
            some false) : Option Bool).bind (fun b7 =>
          ((if b7 = true then
            some true
          else
            some false) : Option Bool).bind (fun t2 => some t2))))))
        | .ret r => some r
        | .exit _ _ => none)) l1
      have e1 : a0.Errors[a0.Errors.length - 1]? = some a0.Errors[a0.Errors.length - 1] := List.getElem?_eq_getElem (by omega)
      have e0 : a0.Errors[0]? = some a0.Errors[0] := List.getElem?_eq_getElem (by omega)
      have i0 : idx a0.Errors 0 = some a0.Errors[0] := idx_at (i := 0) e0
      have g1 : a0.Errors.getD (a0.Errors.length - 1) 0 = a0.Errors[a0.Errors.length - 1] := by rw [List.getD_eq_getElem?_getD, e1]; rfl
      have g0 : a0.Errors.getD 0 0 = a0.Errors[0] := by rw [List.getD_eq_getElem?_getD, e0]; rfl
      have b1 := hE _ (List.getElem_mem (show a0.Errors.length - 1 < a0.Errors.length by omega))
      have b0 := hE _ (List.getElem_mem (show 0 < a0.Errors.length by omega))
      refine Eq.trans ?_ (e2.trans ?_)
      · simp only [Bool.and_true]
        rfl
      · show (subI ((a0.Errors.length : Nat) : Int) 1).bind _ = _
        rw [subI_ok (by omega), Option.bind_some, show ((a0.Errors.length : Nat) : Int) - 1 = ((a0.Errors.length - 1 : Nat) : Int) by omega, idx_at e1, Option.bind_some, i0, Option.bind_some, subI_ok (by omega), Option.bind_some, hdl, g1, g0]
        rw [g1, g0] at m3
        have k1 := mul_bd3 m4 m5 (show 0 ≤ ((a0.Errors.length - 1 : Nat) : Int) by omega) (show ((a0.Errors.length - 1 : Nat) : Int) ≤ 1000 by omega)
        simp only [beq_self_eq_true, Bool.and_self, if_true]
        rw [mulI_ok k1, Option.bind_some, mulI_ok (by rw [← m3]; exact k1), Option.bind_some, ← m3]
        simp
end Go.Fw
