/-
  FlagChecked, the plain law: what the code computes answers true, for digits, a place and a digit within their types' ranges.
-/
import Derived.Test.YtecedifkjafneaaLib
namespace Go.Fw
def sumL (l : List Int) : Int := l.foldl (· + ·) 0
theorem foldl_add (l : List Int) (z : Int) : l.foldl (· + ·) z = z + sumL l := by
  unfold sumL
  induction l generalizing z with
  | nil => simp
  | cons x l ih => rw [List.foldl_cons, List.foldl_cons, ih, ih (0 + x)]; omega
theorem sumL_cons (x : Int) (l : List Int) : sumL (x :: l) = x + sumL l := by
  rw [show sumL (x :: l) = (x :: l).foldl (· + ·) 0 from rfl, List.foldl_cons, foldl_add]; omega
theorem sumL_app (l m : List Int) : sumL (l ++ m) = sumL l + sumL m := by
  rw [show sumL (l ++ m) = (l ++ m).foldl (· + ·) 0 from rfl, List.foldl_append, foldl_add]; rfl
theorem sumL_bound {l : List Int} (h : l.all (inB 0 9) = true) : 0 ≤ sumL l ∧ sumL l ≤ 9 * l.length := by
  induction l with
  | nil => simp [sumL]
  | cons x l ih =>
    simp only [List.all_cons, Bool.and_eq_true, inB, decide_eq_true_eq] at h
    have := ih (by simpa [inB] using h.2)
    rw [sumL_cons, List.length_cons]
    omega
theorem sum_loop (l : List Int) (h : l.all (inB 0 9) = true) (hl : l.length ≤ 4) :
    rangeL (fun _ yk1 z2 => (addI z2 yk1).bind (fun t1 => some (Step.cont t1))) (fun z2 => z2) l 0 0 = some (sumL l) := by
  have key : ∀ (l : List Int) (i z : Int), l.all (inB 0 9) = true → 0 ≤ z → z + 9 * l.length ≤ 1000 → rangeL (fun _ yk1 z2 => (addI z2 yk1).bind (fun t1 => some (Step.cont t1))) (fun z2 => z2) l i z = some (z + sumL l) := by
    intro l
    induction l with
    | nil => intro i z _ _ _; simp [rangeL, sumL]
    | cons x l ih =>
      intro i z h h0 h1
      simp only [List.all_cons, Bool.and_eq_true] at h
      have hx := h.1
      simp only [inB, Bool.and_eq_true, decide_eq_true_eq] at hx
      rw [List.length_cons] at h1
      rw [rangeL, addI_ok (by omega)]
      simp only [Option.bind_some]
      rw [ih (i + 1) (z + x) h.2 (by omega) (by omega), sumL_cons]
      congr 1
      omega
  rw [key l 0 0 h (by omega) (by omega), Int.zero_add]
theorem vD_parts {l : List Int} (hv : vD l = true) : 1 ≤ l.length ∧ l.length ≤ 4 ∧ l.all (inB 0 9) = true := by
  simp only [vD, inB, Bool.and_eq_true, decide_eq_true_eq] at hv
  exact ⟨by omega, by omega, hv.2⟩
theorem rest_eq {l : List Int} (hv : vD l = true) : flag_rest l = some ((sumL l).tmod 10) := by
  obtain ⟨_, h2, h3⟩ := vD_parts hv
  unfold flag_rest
  rw [sum_loop l h3 h2]
  rfl
theorem rsum_eq {l : List Int} (hv : vD l = true) : noongunref07_sum l = some (sumL l) := by
  obtain ⟨_, h2, h3⟩ := vD_parts hv
  unfold noongunref07_sum
  rw [sum_loop l h3 h2]
  rfl
def rightR (l : List Int) : Bool × Int := if vD l = true then ((sumL l).tmod 10 == 0, 0) else (false, 1)
def lastD (l : List Int) : Int := (10 - (sumL l).tmod 10).tmod 10
def checkedR (l : List Int) : List Int × Int := if vD l = true then if l.length = 4 then ([], 7) else (l ++ [lastD l], 0) else ([], 1)
theorem Right_eq (l : List Int) : flag_Right l = some (rightR l) := by
  unfold flag_Right rightR
  rw [ValidDigits_eq]
  simp only [Option.bind_some]
  cases hv : vD l with
  | false => simp
  | true => simp [rest_eq hv]
theorem rRight_eq (l : List Int) : noongunref07_Right l = some (rightR l) := by
  unfold noongunref07_Right rightR
  rw [rValidDigits_eq]
  simp only [Option.bind_some]
  cases hv : vD l with
  | false => simp
  | true => simp [rsum_eq hv, remI]
theorem tmod_bound {l : List Int} (hv : vD l = true) : 0 ≤ (sumL l).tmod 10 ∧ (sumL l).tmod 10 ≤ 9 := by
  have := sumL_bound (vD_parts hv).2.2
  rw [Int.tmod_eq_emod_of_nonneg this.1]
  omega
theorem Checked_eq (l : List Int) : flag_Checked l = some (checkedR l) := by
  unfold flag_Checked checkedR
  rw [ValidDigits_eq]
  simp only [Option.bind_some]
  cases hv : vD l with
  | false => simp
  | true =>
    obtain ⟨h1, h2, h3⟩ := vD_parts hv
    have hb := tmod_bound hv
    by_cases h : l.length = 4
    · simp [h]
    · rw [clone_eq l (by omega), rest_eq hv]
      simp only [Option.bind_some]
      rw [subI_ok (by omega)]
      simp only [Option.bind_some]
      rw [remI_ok (by decide)]
      simp only [Option.bind_some]
      rw [appI_ok (by simp; omega)]
      simp [h, lastD]
      omega
theorem rChecked_eq (l : List Int) : noongunref07_Checked l = some (checkedR l) := by
  unfold noongunref07_Checked checkedR
  rw [rValidDigits_eq]
  simp only [Option.bind_some]
  cases hv : vD l with
  | false => simp
  | true =>
    obtain ⟨h1, h2, h3⟩ := vD_parts hv
    have hb := tmod_bound hv
    by_cases h : l.length = 4
    · simp [h]
    · rw [appI_ok (by simp; omega), rsum_eq hv]
      simp only [Option.bind_some]
      rw [remI_ok (by decide)]
      simp only [Option.bind_some]
      rw [subI_ok (by omega)]
      simp only [Option.bind_some]
      rw [remI_ok (by decide)]
      simp only [Option.bind_some]
      rw [appI_ok (by simp; omega)]
      simp [h, lastD]
      omega
theorem sumL_set (l : List Int) (i : Nat) (x d : Int) (h : l[i]? = some x) : sumL (l.set i d) = sumL l - x + d := by
  induction l generalizing i with
  | nil => simp at h
  | cons y l ih =>
    cases i with
    | zero =>
      simp only [List.getElem?_cons_zero, Option.some.injEq] at h
      subst h
      rw [List.set_cons_zero, sumL_cons, sumL_cons]; omega
    | succ i =>
      rw [List.set_cons_succ, sumL_cons, sumL_cons, ih i (by simpa using h)]; omega
theorem all_set (l : List Int) (i : Nat) (d : Int) (h : l.all (inB 0 9) = true) (hd : inB 0 9 d = true) : (l.set i d).all (inB 0 9) = true := by
  rw [List.all_eq_true] at h ⊢
  intro x hx
  rcases List.mem_or_eq_of_mem_set hx with hx | rfl
  · exact h x hx
  · exact hd
theorem law_noongunlaw07_FlagChecked (a0 : (List Int)) (_ : ∀ a ∈ a0, (fun a => inI a = true) a) (_ : a0.length ≤ maxLen) (a1 : Int) (_ : inI a1 = true) (a2 : Int) (_ : inI a2 = true) : noongunlaw07_FlagChecked a0 a1 a2 = some true := by
  unfold noongunlaw07_FlagChecked
  simp only [awake_eq, Checked_eq, rChecked_eq, Right_eq, rRight_eq, same_eq, Option.bind_some, decide_true, bne_self_eq_false, Bool.not_true, Bool.or_self, Bool.false_eq_true, if_false]
  split
  · rfl
  · split
    · rfl
    · rename_i h
      simp only [bne_iff_ne, ne_eq, Decidable.not_not] at h
      unfold checkedR at h ⊢
      cases hv : vD a0 with
      | false => rw [hv] at h; simp at h
      | true =>
        rw [hv] at h
        simp only [if_true] at h ⊢
        by_cases h4 : a0.length = 4
        · simp [h4] at h
        · simp only [h4, if_false]
          obtain ⟨k1, k2, k3⟩ := vD_parts hv
          have hs := sumL_bound k3
          have ht := tmod_bound hv
          have he : (sumL a0).tmod 10 = sumL a0 % 10 := Int.tmod_eq_emod_of_nonneg hs.1
          have hl : lastD a0 = (10 - sumL a0 % 10) % 10 := by
            unfold lastD
            rw [he, Int.tmod_eq_emod_of_nonneg (by omega)]
          have hl9 : inB 0 9 (lastD a0) = true := by rw [hl]; simp [inB]; omega
          have hall : (a0 ++ [lastD a0]).all (inB 0 9) = true := by rw [List.all_append, k3]; simp [hl9]
          have hv2 : vD (a0 ++ [lastD a0]) = true := by
            unfold vD
            rw [hall]
            simp [inB]
            omega
          have hsum : sumL (a0 ++ [lastD a0]) = sumL a0 + lastD a0 := by rw [sumL_app]; simp [sumL]
          have hz : (sumL (a0 ++ [lastD a0])).tmod 10 = 0 := by
            rw [Int.tmod_eq_emod_of_nonneg (by rw [hsum, hl]; omega), hsum, hl]; omega
          simp only [rightR, hv2, if_true, hz]
          simp only [beq_self_eq_true, bne_self_eq_false, Bool.not_true, Bool.or_self, Bool.false_eq_true, if_false]
          by_cases hp : ((((decide (a1 < 0)) || (decide (((((a0 ++ [lastD a0]).length : Nat) : Int)) ≤ a1))) || (decide (a2 < 0))) || (decide (9 < a2))) = true
          · rw [if_pos hp]; rfl
          · rw [if_neg hp]
            simp only [Bool.or_eq_true, decide_eq_true_eq, not_or] at hp
            obtain ⟨⟨⟨p1, p2⟩, p3⟩, p4⟩ := hp
            rw [idx_int (by omega) (by omega)]
            simp only [Option.bind_some]
            generalize hx : (a0 ++ [lastD a0])[a1.toNat]'(by omega) = x
            have hx2 : (a0 ++ [lastD a0])[a1.toNat]? = some x := by rw [← hx]; exact List.getElem?_eq_getElem _
            by_cases hxe : x = a2
            · simp [hxe]
            · rw [if_neg (by simpa using hxe)]
              rw [appI_ok (by simp; omega)]
              simp only [List.nil_append, Option.bind_some]
              rw [idx_int (by omega) (by omega)]
              simp only [Option.bind_some]
              have hd9 : inB 0 9 a2 = true := by simp [inB]; omega
              have hall3 := all_set _ a1.toNat a2 hall hd9
              have hv3 : vD ((a0 ++ [lastD a0]).set a1.toNat a2) = true := by
                unfold vD
                rw [hall3]
                simp [inB]
                omega
              have hx9 : inB 0 9 x = true := List.all_eq_true.1 hall x (List.mem_of_getElem? hx2)
              simp only [inB, Bool.and_eq_true, decide_eq_true_eq] at hx9
              have hnz : ¬ (sumL ((a0 ++ [lastD a0]).set a1.toNat a2)).tmod 10 = 0 := by
                have hb := sumL_bound hall3
                rw [Int.tmod_eq_emod_of_nonneg hb.1, sumL_set _ _ _ _ hx2]
                rw [Int.tmod_eq_emod_of_nonneg (by rw [hsum, hl]; omega)] at hz
                omega
              simp [hv3, hnz]
end Go.Fw
