/-
  LedgerLetters, plain: its model gives true for whatever comes in. No condition.
-/
import Derived.Test.YtijjocfjgpibjaaWorstLib
namespace Go.Fw
/-- What the longest streak keeps. -/
theorem streak_inv (S : List Int) : ∀ (L : List Int) (s : Int × Int × Int × Int), (∀ d ∈ L, d ∈ S ∧ 0 ≤ d) → (0 ≤ s.2.1 ∧ 0 ≤ s.2.2.1) → (∀ x, s.1 ≤ x → x < s.1 + s.2.1 → x ∈ S) → (∀ x, s.2.2.2 - s.2.2.1 < x → x ≤ s.2.2.2 → x ∈ S) →
    0 ≤ (L.foldl sF s).2.1 ∧ (∀ x, (L.foldl sF s).1 ≤ x → x < (L.foldl sF s).1 + (L.foldl sF s).2.1 → x ∈ S) ∧ s.2.1 ≤ (L.foldl sF s).2.1 ∧ (L ≠ [] → 1 ≤ (L.foldl sF s).2.1)
  | [], s, _, h1, h2, h3 => ⟨h1.1, h2, Int.le_refl _, fun h => absurd rfl h⟩
  | d :: L, (z5, z6, z7, z8), hL, h1, h2, h3 => by
    rw [List.foldl_cons]
    have hd := hL d (by simp)
    simp only at h1 h2 h3
    obtain ⟨n0, hn0⟩ : ∃ n0, n0 = (if d ≠ z8 + 1 then 0 else z7) := ⟨_, rfl⟩
    have hb : 0 ≤ n0 := by rw [hn0]; split <;> omega
    have es : sF (z5, z6, z7, z8) d = if z6 < n0 + 1 then (d - (n0 + 1) + 1, n0 + 1, n0 + 1, d) else (z5, z6, n0 + 1, d) := by unfold sF; rw [hn0]
    have hnow : ∀ x, d - (n0 + 1) < x → x ≤ d → x ∈ S := by
      intro x hx1 hx2
      by_cases hxd : x = d
      · rw [hxd]; exact hd.1
      · by_cases hz : d = z8 + 1
        · rw [if_neg (by omega)] at hn0
          exact h3 x (by omega) (by omega)
        · rw [if_pos hz] at hn0; omega
    rw [es]
    by_cases h : z6 < n0 + 1
    · rw [if_pos h]
      obtain ⟨q1, q2, q3, q4⟩ := streak_inv S L (d - (n0 + 1) + 1, n0 + 1, n0 + 1, d) (fun e he => hL e (by simp [he])) ⟨by simp; omega, by simp; omega⟩ (fun x hx1 hx2 => by simp only at hx1 hx2; exact hnow x (by omega) (by omega)) (fun x hx1 hx2 => hnow x hx1 hx2)
      simp only at q3
      exact ⟨q1, q2, by simp only; omega, fun _ => by omega⟩
    · rw [if_neg h]
      obtain ⟨q1, q2, q3, q4⟩ := streak_inv S L (z5, z6, n0 + 1, d) (fun e he => hL e (by simp [he])) ⟨h1.1, by simp; omega⟩ h2 (fun x hx1 hx2 => hnow x hx1 hx2)
      simp only at q3
      exact ⟨q1, q2, q3, fun _ => by omega⟩
/-- How many days of an interval stand in a rising list that has them all. -/
theorem count_inside : ∀ (n : Nat) (L : List Int) (a : Int), L.Pairwise (· < ·) → (∀ x, a ≤ x → x < a + n → x ∈ L) → L.countP (fun d => decide (a ≤ d) && decide (d < a + n)) = n
  | 0, L, a, _, _ => by
    rw [List.countP_eq_zero]
    intro d _
    simp <;> omega
  | n + 1, L, a, hp, h => by
    have hmem := h (a + n) (by omega) (by omega)
    have ih := count_inside n L a hp fun x h1 h2 => h x h1 (by omega)
    have hone : L.countP (fun d => decide (d = a + n)) = 1 := by
      have hn : L.Nodup := hp.imp fun h => by omega
      have := List.Nodup.count (a := a + n) hn
      rw [if_pos hmem] at this
      rw [← this, List.count]
      refine List.countP_congr fun x _ => ?_
      simp
    have hsplit : ∀ M : List Int, M.countP (fun d => decide (a ≤ d) && decide (d < a + ((n + 1 : Nat) : Int))) = M.countP (fun d => decide (a ≤ d) && decide (d < a + (n : Int))) + M.countP (fun d => decide (d = a + n)) := by
      intro M
      induction M with
      | nil => rfl
      | cons x M ihM =>
        rw [List.countP_cons, List.countP_cons, List.countP_cons, ihM]
        by_cases h1 : x = a + n
        · have e1 : (decide (a ≤ x) && decide (x < a + ((n + 1 : Nat) : Int))) = true := by simp; omega
          have e2 : (decide (a ≤ x) && decide (x < a + (n : Int))) = false := by rw [Bool.and_eq_false_iff]; simp; omega
          rw [e1, e2, decide_eq_true h1]; simp; omega
        · have e1 : (decide (a ≤ x) && decide (x < a + ((n + 1 : Nat) : Int))) = (decide (a ≤ x) && decide (x < a + (n : Int))) := by
            rw [Bool.eq_iff_iff]; simp; omega
          rw [e1, decide_eq_false h1]; simp; omega
    rw [hsplit, ih, hone]
theorem Off_at {l : List GEntry} (hv : vL l = true) {d : Int} (hd : d ∈ offDays l) : ledger_Off l d = some (offV l d, 0) := by
  have h1 := offDays_day hv hd
  have h2 := mem_offDays.1 hd
  rw [Off_eq]
  unfold toldR hasOff at *
  have : dayB d = true := by unfold dayB; simp; omega
  rw [if_pos hv, if_pos this, if_pos h2]
  rfl
theorem law_noongunlaw09_LedgerLetters (a0 : (List GEntry)) (_ : ∀ a ∈ a0, okGEntry a) (_ : a0.length ≤ maxLen) (a1 : Int) (_ : inI a1 = true) : noongunlaw09_LedgerLetters a0 a1 = some true := by
  unfold noongunlaw09_LedgerLetters
  rw [small_eq, Option.bind_some]
  split
  · rw [awake_eq]; rfl
  · simp only [Letters_eq, Days_eq, Streak_eq, Worst_eq, Option.bind_some]
    by_cases hv : vL a0 = true
    · by_cases hw : dayW a1 = true
      · have hlen := vL_len hv
        have hol := offDays_len a0
        have el : lettersR a0 a1 = (lateL a0 a1, 0) := by unfold lettersR; rw [if_pos hv, if_pos hw]
        have hsplit : (lateL a0 a1).length + (smallL a0 a1).length = (offDays a0).length := by
          unfold lateL smallL
          generalize offDays a0 = L
          induction L with
          | nil => rfl
          | cons d L ih =>
            rw [List.filter_cons, List.filter_cons, List.length_cons]
            by_cases h : a1 < aO a0 d
            · have : ¬ aO a0 d ≤ a1 := by omega
              simp only [h, this, decide_true, decide_false, if_true, Bool.false_eq_true, if_false, List.length_cons]; omega
            · have : aO a0 d ≤ a1 := by omega
              simp only [h, this, decide_true, decide_false, if_true, Bool.false_eq_true, if_false, List.length_cons]; omega
        obtain ⟨q1, q2, q3, q4⟩ := streak_inv (smallL a0 a1) (smallL a0 a1) (0, 0, 0, -2) (fun d hd => ⟨hd, (smallL_day hv hd).1⟩) ⟨by simp, by simp⟩ (fun x h1 h2 => by simp only at h1 h2; omega) (fun x h1 h2 => by simp only at h1 h2; omega)
        obtain ⟨from_, hfrom⟩ : ∃ x, x = (streakS a0 a1).1 := ⟨_, rfl⟩
        obtain ⟨len, hln⟩ : ∃ x, x = (streakS a0 a1).2.1 := ⟨_, rfl⟩
        have q1' : 0 ≤ len := by rw [hln]; exact q1
        have q2' : ∀ x, from_ ≤ x → x < from_ + len → x ∈ smallL a0 a1 := by rw [hfrom, hln]; exact q2
        have hS0 : len = 0 ↔ smallL a0 a1 = [] := by
          constructor
          · intro h
            by_cases hs : smallL a0 a1 = []
            · exact hs
            · have := q4 hs
              change 1 ≤ (streakS a0 a1).2.1 at this
              omega
          · intro h
            rw [hln]; unfold streakS; rw [h]; rfl
        obtain ⟨sa, sb, sc, hst⟩ : ∃ sa sb sc, streakR a0 a1 = (sa, sb, sc) := ⟨_, _, _, rfl⟩
        have hstr : (sb = len) ∧ (sc == 0) = decide (len ≠ 0) ∧ (sc = 0 → sa = from_) := by
          have : streakR a0 a1 = if (streakS a0 a1).2.1 = 0 then (0, 0, 8) else ((streakS a0 a1).1, (streakS a0 a1).2.1, 0) := by unfold streakR; rw [if_pos hv, if_pos hw]
          rw [hst, ← hln, ← hfrom] at this
          by_cases h : len = 0
          · rw [if_pos h] at this
            simp only [Prod.mk.injEq] at this
            obtain ⟨rfl, rfl, rfl⟩ := this
            exact ⟨h.symm, by simp [h], by simp⟩
          · rw [if_neg h] at this
            simp only [Prod.mk.injEq] at this
            obtain ⟨rfl, rfl, rfl⟩ := this
            exact ⟨rfl, by simp [h], fun _ => rfl⟩
        obtain ⟨hsb, hsc, hsa⟩ := hstr
        have hsmall0 : smallL a0 a1 = [] ↔ (smallL a0 a1).length = 0 := by rw [List.length_eq_zero_iff]
        have g1 : (sc == 0) = decide (((lateL a0 a1).length : Int) < ((offDays a0).length : Int)) := by
          rw [hsc, Bool.eq_iff_iff, decide_eq_true_eq, decide_eq_true_eq, ne_eq, hS0, hsmall0]
          omega
        obtain ⟨wd, we, hwo⟩ : ∃ wd we, worstR a0 = (wd, we) := ⟨_, _, rfl⟩
        have hworst : (we == 0) = decide (0 < ((offDays a0).length : Int)) ∧ ∀ d ∈ offDays a0, wd ∈ offDays a0 ∧ aO a0 d ≤ aO a0 wd := by
          unfold worstR at hwo
          rw [if_pos hv] at hwo
          cases hd : offDays a0 with
          | nil => rw [hd] at hwo; simp only [Prod.mk.injEq] at hwo; obtain ⟨_, rfl⟩ := hwo; exact ⟨by simp, fun d h => by simp at h⟩
          | cons d L =>
            rw [hd] at hwo
            simp only [Prod.mk.injEq] at hwo
            obtain ⟨rfl, rfl⟩ := hwo
            have hi := wF_inv a0 L (d, aO a0 d) [d] (by simp) rfl (by simp)
            exact ⟨by simp <;> omega, fun e he => ⟨hi.1, by rw [← hi.2.1]; exact hi.2.2 e he⟩⟩
        obtain ⟨hwe, hwd⟩ := hworst
        rw [el, hst, hwo]
        simp only [bne_self_eq_false, Bool.false_eq_true, if_false, hv, if_true, g1, hwe, Bool.or_self]
        have hloop := rangeL_inv (body := fun (_ : Int) (yk1 : Int) (s : Int × Int) => match s with
          | (z3, z4) => (((ledger_Off a0 yk1).bind (fun o => match o with
                | (t13, t14) => (ledger_Off a0 wd).bind (fun o => match o with
                    | (t15, t16) => ((if ((t14 != 0) || (t16 != 0)) = true then some true else (noongunref09_Abs t13).bind (fun t17 => (noongunref09_Abs t15).bind (fun t18 => some (decide (t18 < t17))))) : Option Bool).bind (fun b2 =>
                      (if b2 = true then some (Ctl.ret false) else
                        ((if (decide (z3 < (((lateL a0 a1).length : Nat) : Int))) = true then (idx (lateL a0 a1) z3).bind (fun x1 => some (x1 == yk1)) else some false) : Option Bool).bind (fun b3 =>
                        (noongunref09_Abs t13).bind (fun t19 => (if (b3 != (decide (a1 < t19))) = true then some (Ctl.ret false) else
                          (((if b3 = true then (addI z3 1).bind (fun t20 => some t20) else some z3)) : Option (Int)).bind (fun s5 =>
                          ((if ((decide (((lateL a0 a1).length : Int) < ((offDays a0).length : Int))) && (decide (sa ≤ yk1))) = true then (addI sa sb).bind (fun t21 => some (decide (yk1 < t21))) else some false) : Option Bool).bind (fun b4 =>
                          (((if b4 = true then (if b3 = true then some (Ctl.ret false) else (addI z4 1).bind (fun t22 => some (Ctl.next t22))) else some (Ctl.next z4))) : Option (Ctl (Int) (Bool))).bind (fun o => match o with
                            | .next s6 => some (Ctl.next (s5, s6))
                            | .ret r => some (Ctl.ret r)
                            | .exit _ _ => none))))))))))) : Option (Ctl (Int × Int) (Bool))).bind (fun o => match o with
                              | .next (s3, s4) => some (Step.cont (s3, s4))
                              | .ret r => some (Step.done (Ctl.ret r))
                              | .exit _ _ => none)) (fin := fun s => match s with | (z3, z4) => (Ctl.next (z3, z4) : Ctl (Int × Int) Bool))
          (fun j s => s = (((((((offDays a0).take j).filter fun d => decide (a1 < aO a0 d)).length : Nat) : Int)), (((((offDays a0).take j).countP fun d => decide (from_ ≤ d) && decide (d < from_ + len)) : Nat) : Int))) (offDays a0) (0, 0) (fun j d s hj hs => by
            subst hs
            have hd := List.mem_of_getElem? hj
            have hjl := (List.getElem?_eq_some_iff.1 hj).1
            obtain ⟨hwm, hle⟩ := hwd d hd
            have htake : (offDays a0).take (j + 1) = (offDays a0).take j ++ [d] := by rw [List.take_add_one, hj]; rfl
            have hdrop : (offDays a0).drop j = d :: (offDays a0).drop (j + 1) := by
              rw [List.drop_eq_getElem_cons hjl]; congr 1; exact (List.getElem?_eq_some_iff.1 hj).2
            have hlate : lateL a0 a1 = (((offDays a0).take j).filter fun d => decide (a1 < aO a0 d)) ++ (d :: (offDays a0).drop (j + 1)).filter fun d => decide (a1 < aO a0 d) := by
              rw [← hdrop, ← List.filter_append, List.take_append_drop]; rfl
            have hfl : (((offDays a0).take j).filter fun d => decide (a1 < aO a0 d)).length ≤ 1000 := Nat.le_trans (List.length_filter_le _ _) (by rw [List.length_take]; omega)
            have hcl : (((offDays a0).take j).countP fun d => decide (from_ ≤ d) && decide (d < from_ + len)) ≤ 1000 := Nat.le_trans List.countP_le_length (by rw [List.length_take]; omega)
            have hb3 : (((if (decide (((((offDays a0).take j).filter fun d => decide (a1 < aO a0 d)).length : Int) < (((lateL a0 a1).length : Nat) : Int))) = true then (idx (lateL a0 a1) (((((offDays a0).take j).filter fun d => decide (a1 < aO a0 d)).length : Nat) : Int)).bind (fun x1 => some (x1 == d)) else some false)) : Option Bool) = some (decide (a1 < aO a0 d)) := by
              have hidx : (lateL a0 a1)[(((offDays a0).take j).filter fun d => decide (a1 < aO a0 d)).length]? = ((d :: (offDays a0).drop (j + 1)).filter fun d => decide (a1 < aO a0 d))[0]? := by
                rw [hlate, List.getElem?_append_right (Nat.le_refl _), Nat.sub_self]
              by_cases hlt : a1 < aO a0 d
              · rw [List.filter_cons, if_pos (by simpa using hlt)] at hidx hlate
                have hll : (((offDays a0).take j).filter fun d => decide (a1 < aO a0 d)).length < (lateL a0 a1).length := by rw [hlate]; simp
                rw [if_pos (by simp; omega), idx_nat, hidx]
                simp [hlt]
              · rw [List.filter_cons, if_neg (by simpa using hlt)] at hidx
                split
                · rename_i hc
                  have hc : (((offDays a0).take j).filter fun d => decide (a1 < aO a0 d)).length < (lateL a0 a1).length := by simpa using hc
                  rw [idx_nat, List.getElem?_eq_getElem hc]
                  have hx : (lateL a0 a1)[(((offDays a0).take j).filter fun d => decide (a1 < aO a0 d)).length] ∈ (((offDays a0).drop (j + 1)).filter fun d => decide (a1 < aO a0 d)) := by
                    have := List.getElem?_eq_getElem hc
                    rw [hidx] at this
                    exact List.mem_of_getElem? this
                  have hne : ¬ (lateL a0 a1)[(((offDays a0).take j).filter fun d => decide (a1 < aO a0 d)).length] = d := by
                    intro e
                    rw [e] at hx
                    have := (List.mem_filter.1 hx).2
                    simp at this
                    exact hlt this
                  simp [hne, hlt]
                · simp [hlt]
            have hin : ((((if ((decide (((lateL a0 a1).length : Int) < ((offDays a0).length : Int))) && (decide (sa ≤ d))) = true then (addI sa sb).bind (fun t21 => some (decide (d < t21))) else some false)) : Option Bool) = some (decide (from_ ≤ d) && decide (d < from_ + len))) := by
              rw [← g1, hsc, hsb]
              by_cases h0 : len = 0
              · have : (decide (from_ ≤ d) && decide (d < from_ + len)) = false := by rw [Bool.and_eq_false_iff]; simp; omega
                rw [this]; simp [h0]
              · have hsa' := hsa (by simpa [h0] using hsc)
                rw [hsa']
                have hf := (smallL_day hv (q2' from_ (Int.le_refl _) (by omega)))
                have hl2 := (smallL_day hv (q2' (from_ + len - 1) (by omega) (by omega)))
                rw [addI_ok (by omega)]
                by_cases h1 : from_ ≤ d <;> simp [h0, h1]
            have hnl : (decide (from_ ≤ d) && decide (d < from_ + len)) = true → ¬ a1 < aO a0 d := by
              intro h
              rw [Bool.and_eq_true, decide_eq_true_eq, decide_eq_true_eq] at h
              have := (List.mem_filter.1 (q2' d h.1 h.2)).2
              simp at this; omega
            refine ⟨_, ?_, rfl⟩
            have hba := aO_abs hv d
            have hbw := aO_abs hv wd
            simp only [Off_at hv hd, Off_at hv hwm, Option.bind_some, hba, hbw, hb3, hin]
            rw [htake, List.filter_append, List.length_append, List.countP_append, List.countP_singleton]
            have hnlt : decide (aO a0 wd < aO a0 d) = false := decide_eq_false (by omega)
            simp only [bne_self_eq_false, Bool.or_self, Bool.false_eq_true, if_false, hnlt, Option.bind_some]
            by_cases hlt : a1 < aO a0 d
            · have hno : (decide (from_ ≤ d) && decide (d < from_ + len)) = false := by
                cases h : (decide (from_ ≤ d) && decide (d < from_ + len)) with
                | false => rfl
                | true => exact absurd hlt (hnl h)
              simp only [hlt, hno, decide_true, if_true, Bool.false_eq_true, if_false, List.filter_cons, List.filter_nil, List.length_cons, List.length_nil]
              rw [addI_ok (by omega)]
              simp
            · simp only [hlt, decide_false, Bool.false_eq_true, if_false, List.filter_cons, List.filter_nil, List.length_nil, Option.bind_some]
              cases h : (decide (from_ ≤ d) && decide (d < from_ + len)) with
              | false => simp
              | true =>
                simp only [if_true]
                rw [addI_ok (by omega)]
                simp) rfl
        obtain ⟨s', h1, h2⟩ := hloop
        erw [h1]
        rw [h2, List.take_length]
        obtain ⟨N, hN⟩ : ∃ N : Nat, len = (N : Int) := ⟨len.toNat, by omega⟩
        have hcnt : (offDays a0).countP (fun d => decide (from_ ≤ d) && decide (d < from_ + len)) = N := by
          rw [hN]
          exact count_inside N _ _ (offDays_lt a0) fun x h3 h4 => (List.mem_filter.1 (q2' x h3 (by omega))).1
        simp only [Option.bind_some, hsb, hN]
        have : (((offDays a0).filter fun d => decide (a1 < aO a0 d)).length : Int) = (((lateL a0 a1).length : Nat) : Int) := rfl
        rw [this]
        rw [hN] at hcnt
        simp [awake_eq, hcnt]
      · have el : lettersR a0 a1 = ([], 7) := by unfold lettersR; rw [if_pos hv, if_neg hw]
        rw [el]
        simp [awake_eq]
    · have el : lettersR a0 a1 = ([], 1) := by unfold lettersR; rw [if_neg hv]
      rw [el]
      simp [awake_eq]
end Go.Fw
