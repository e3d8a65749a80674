/-
  The ledger's letters, streaks and worst days, plain. No condition.
-/
import Derived.Test.YtijjocfjgpibjaaDayLib
namespace Go.Fw
def absI (x : Int) : Int := max x (-x)
theorem size_eq {x : Int} (h : -172800000 ≤ x ∧ x ≤ 172800000) : ledger_size x = some (absI x) := by
  unfold ledger_size absI
  rw [negI_ok (by omega)]; rfl
theorem rabs_eq {x : Int} (h : -172800000 ≤ x ∧ x ≤ 172800000) : noongunref09_Abs x = some (absI x) := by
  unfold noongunref09_Abs absI
  by_cases h0 : x < 0
  · rw [if_pos (by simpa using h0), negI_ok (by omega)]
    simp only [Option.bind_some, Option.some.injEq]
    omega
  · rw [if_neg (by simpa using h0)]
    simp only [Option.some.injEq]
    omega
def aO (l : List GEntry) (d : Int) : Int := absI (offV l d)
theorem aO_nn (l : List GEntry) (d : Int) : 0 ≤ aO l d := by unfold aO absI; omega
theorem aO_size {l : List GEntry} (hv : vL l = true) (d : Int) : ledger_size (offV l d) = some (aO l d) := size_eq (offV_bound hv d)
theorem aO_abs {l : List GEntry} (hv : vL l = true) (d : Int) : noongunref09_Abs (offV l d) = some (aO l d) := rabs_eq (offV_bound hv d)
def dayW (w : Int) : Bool := decide (0 ≤ w) && decide (w ≤ 86400000)
theorem within_day (w : Int) : ledger_within w 0 86400000 = some (dayW w) := rfl
def lateL (l : List GEntry) (w : Int) : List Int := (offDays l).filter fun d => decide (w < aO l d)
def smallL (l : List GEntry) (w : Int) : List Int := (offDays l).filter fun d => decide (aO l d ≤ w)
def lettersR (l : List GEntry) (w : Int) : List Int × Int := if vL l = true then (if dayW w = true then (lateL l w, 0) else ([], 7)) else ([], 1)
theorem Letters_eq (l : List GEntry) (w : Int) : ledger_Letters l w = some (lettersR l w) := by
  unfold ledger_Letters lettersR
  rw [Valid_eq]
  cases hv : vL l with
  | false => rfl
  | true =>
    simp only [Option.bind_some, Bool.not_true, Bool.false_eq_true, if_false, if_true, within_day]
    cases hw : dayW w with
    | false => rfl
    | true =>
      simp only [Bool.not_true, Bool.false_eq_true, if_false, if_true]
      rw [those_eq hv _ (fun x => decide (w < absI x)) (fun d _ => by unfold ledger_Letters_c1; rw [aO_size hv]; rfl)]
      rfl
theorem bounded_eq (l : List GEntry) (w : Int) : noongunref09_bounded l w = some (if vL l = true then (if dayW w = true then 0 else 7) else 1) := by
  unfold noongunref09_bounded
  rw [rValid_eq]
  cases hv : vL l with
  | false => rfl
  | true =>
    have : (decide (w < 0) || decide (86400000 < w)) = !dayW w := by
      unfold dayW
      rw [Bool.eq_iff_iff]
      simp only [Bool.or_eq_true, decide_eq_true_eq, Bool.not_eq_true', Bool.and_eq_false_iff, decide_eq_false_iff_not]
      omega
    simp only [Option.bind_some, Bool.not_true, Bool.false_eq_true, if_false, if_true, this]
    cases dayW w <;> rfl
theorem rLetters_eq (l : List GEntry) (w : Int) : noongunref09_Letters l w = some (lettersR l w) := by
  unfold noongunref09_Letters lettersR
  rw [bounded_eq]
  cases hv : vL l with
  | false => rfl
  | true =>
    cases hw : dayW w with
    | false => rfl
    | true =>
      have hlen := vL_len hv
      have hol := offDays_len l
      simp only [Option.bind_some, if_true, bne_self_eq_false, Bool.false_eq_true, if_false, rdays_eq hv]
      rw [pick_loop (fun d => decide (w < aO l d))]
      · rfl
      · intro i d s _ hs
        rw [roff_eq hv]
        simp only [Option.bind_some, aO_abs hv]
        by_cases h : w < aO l d
        · simp only [h, decide_true, if_true]; rw [appI_ok (by simp; omega)]; rfl
        · simp only [h, decide_false, Bool.false_eq_true, if_false]; rfl
      · simp; omega
/-! The worst day. -/
def wF (l : List GEntry) (s : Int × Int) (d : Int) : Int × Int := if s.2 < aO l d then (d, aO l d) else s
def worstR (l : List GEntry) : Int × Int := if vL l = true then (match offDays l with | [] => (0, 8) | d :: L => ((L.foldl (wF l) (d, aO l d)).1, 0)) else (0, 1)
theorem wF_inv (l : List GEntry) : ∀ (L : List Int) (s : Int × Int) (D : List Int), s.1 ∈ D → s.2 = aO l s.1 → (∀ d ∈ D, aO l d ≤ s.2) → (L.foldl (wF l) s).1 ∈ D ++ L ∧ (L.foldl (wF l) s).2 = aO l (L.foldl (wF l) s).1 ∧ ∀ d ∈ D ++ L, aO l d ≤ (L.foldl (wF l) s).2
  | [], s, D, h1, h2, h3 => by simpa using ⟨h1, h2, h3⟩
  | d :: L, s, D, h1, h2, h3 => by
    rw [List.foldl_cons]
    have := wF_inv l L (wF l s d) (D ++ [d]) (by unfold wF; split <;> simp [h1]) (by unfold wF; split <;> simp [h2]) (by
      intro e he
      rcases List.mem_append.1 he with he | he
      · have := h3 e he
        unfold wF; split
        · show aO l e ≤ aO l d; omega
        · exact this
      · rw [List.mem_singleton.1 he]
        unfold wF; split
        · exact Int.le_refl _
        · omega)
    simpa [List.append_assoc] using this
theorem worst_fold {l : List GEntry} (hv : vL l = true) (L : List Int) (s : Int × Int) (i : Int) : rangeL (α := (Int × Int)) (S := Int × Int) (X := Int × Int) (fun _ x1 s => match s with
      | (z3, z4) => (((ledger_size x1.2).bind (fun t3 => (((if (decide (z4 < t3)) = true then (ledger_size x1.2).bind (fun t4 => some (x1.1, t4)) else some (z3, z4))) : Option (Int × Int)).bind (fun o => match o with
            | (s5, s6) => some (s5, s6)))) : Option (Int × Int)).bind (fun o => match o with
          | (s3, s4) => some (Step.cont (s3, s4)))) (fun s => match s with | (z3, z4) => (z3, z4)) (L.map fun d => (d, offV l d)) i s = some (L.foldl (wF l) s) := by
  induction L generalizing s i with
  | nil => rfl
  | cons d L ih =>
    obtain ⟨z3, z4⟩ := s
    rw [List.map_cons, rangeL, List.foldl_cons]
    simp only [aO_size hv d, Option.bind_some]
    have e : wF l (z3, z4) d = if z4 < aO l d then (d, aO l d) else (z3, z4) := rfl
    rw [e]
    by_cases h : z4 < aO l d
    · simp only [h, decide_true, if_true, Option.bind_some]; exact ih _ _
    · simp only [h, decide_false, Bool.false_eq_true, if_false, Option.bind_some]; exact ih _ _
theorem rworst_fold {l : List GEntry} (hv : vL l = true) (L : List Int) (s : Int × Int) (i : Int) : rangeL (α := Int) (S := Int × Int) (X := Int) (fun _ yk1 s => match s with
      | (z3, z4) => (((noongunref09_off l yk1).bind (fun o => match o with
            | (t3, _) => (noongunref09_Abs t3).bind (fun t5 => (((if (decide (z4 < t5)) = true then (noongunref09_Abs t3).bind (fun t6 => some (yk1, t6)) else some (z3, z4))) : Option (Int × Int)).bind (fun o => match o with
                | (s4, s5) => some (s4, s5))))) : Option (Int × Int)).bind (fun o => match o with
          | (s2, s3) => some (Step.cont (s2, s3)))) (fun s => match s with | (z3, _) => z3) L i s = some (L.foldl (wF l) s).1 := by
  induction L generalizing s i with
  | nil => rfl
  | cons d L ih =>
    obtain ⟨z3, z4⟩ := s
    rw [rangeL, List.foldl_cons]
    simp only [roff_eq hv d, aO_abs hv d, Option.bind_some]
    have e : wF l (z3, z4) d = if z4 < aO l d then (d, aO l d) else (z3, z4) := rfl
    rw [e]
    by_cases h : z4 < aO l d
    · simp only [h, decide_true, if_true, Option.bind_some]; exact ih _ _
    · simp only [h, decide_false, Bool.false_eq_true, if_false, Option.bind_some]; exact ih _ _
theorem Worst_eq (l : List GEntry) : ledger_Worst l = some (worstR l) := by
  unfold ledger_Worst worstR
  rw [Valid_eq]
  cases hv : vL l with
  | false => rfl
  | true =>
    obtain ⟨pg, h1, h2, h3, h4⟩ := page_eq2 l
    simp only [Option.bind_some, Bool.not_true, Bool.false_eq_true, if_false, if_true, h1, page_days_eq hv h2 h3 h4]
    erw [worst_fold hv]
    cases hd : offDays l with
    | nil => rfl
    | cons d L =>
      have h0 := aO_nn l d
      have hw : wF l (0, -1) d = (d, aO l d) := by unfold wF; rw [if_pos (by show (-1 : Int) < _; omega)]
      have hi := wF_inv l L (d, aO l d) [d] (by simp) rfl (by simp)
      have h5 := aO_nn l (L.foldl (wF l) (d, aO l d)).1
      rw [List.foldl_cons, hw]
      simp only [Option.bind_some]
      rw [if_neg (by rw [hi.2.1]; simp; omega)]
theorem rWorst_eq (l : List GEntry) : noongunref09_Worst l = some (worstR l) := by
  unfold noongunref09_Worst worstR
  rw [rValid_eq]
  cases hv : vL l with
  | false => rfl
  | true =>
    simp only [Option.bind_some, Bool.not_true, Bool.false_eq_true, if_false, if_true, rdays_eq hv]
    erw [rworst_fold hv]
    cases hd : offDays l with
    | nil => rfl
    | cons d L =>
      have h0 := aO_nn l d
      have hw : wF l (-1, -1) d = (d, aO l d) := by unfold wF; rw [if_pos (by show (-1 : Int) < _; omega)]
      have hi := wF_inv l L (d, aO l d) [d] (by simp) rfl (by simp)
      have hday : (L.foldl (wF l) (d, aO l d)).1 ∈ offDays l := by rw [hd]; exact hi.1
      have := offDays_day hv hday
      rw [List.foldl_cons, hw]
      simp only [Option.bind_some]
      rw [if_neg (by simp; omega)]
/-! The longest streak. -/
/-- from, length, now, last -/
def sF (s : Int × Int × Int × Int) (d : Int) : Int × Int × Int × Int :=
  let n := (if d ≠ s.2.2.2 + 1 then 0 else s.2.2.1) + 1
  if s.2.1 < n then (d - n + 1, n, n, d) else (s.1, s.2.1, n, d)
def streakS (l : List GEntry) (w : Int) : Int × Int × Int × Int := (smallL l w).foldl sF (0, 0, 0, -2)
def streakR (l : List GEntry) (w : Int) : Int × Int × Int :=
  if vL l = true then (if dayW w = true then (if (streakS l w).2.1 = 0 then (0, 0, 8) else ((streakS l w).1, (streakS l w).2.1, 0)) else (0, 0, 7)) else (0, 0, 1)
theorem streak_loop : ∀ (L : List Int) (i : Int) (s : Int × Int × Int × Int), (∀ d ∈ L, 0 ≤ d ∧ d ≤ 182985) → (0 ≤ s.2.2.1 ∧ s.2.2.1 + L.length ≤ 1000000) → (-2 ≤ s.2.2.2 ∧ s.2.2.2 ≤ 182985) →
    rangeL (α := Int) (S := Int × Int × Int × Int) (X := Int × Int) (fun _ yk1 s => match s with
        | (z5, z6, z7, z8) => (((addI z8 1).bind (fun t4 => (((if (yk1 != t4) = true then some 0 else some z7)) : Option (Int)).bind (fun s7 => (addI s7 1).bind (fun t5 => (((if (decide (z6 < t5)) = true then (subI yk1 t5).bind (fun t6 => (addI t6 1).bind (fun t7 => some (t7, t5))) else some (z5, z6))) : Option (Int × Int)).bind (fun o => match o with
              | (s8, s9) => some (s8, s9, t5, yk1)))))) : Option (Int × Int × Int × Int)).bind (fun o => match o with
            | (s3, s4, s5, s6) => some (Step.cont (s3, s4, s5, s6)))) (fun s => match s with | (z5, z6, _, _) => (z5, z6)) L i s = some ((L.foldl sF s).1, (L.foldl sF s).2.1)
  | [], i, s, _, _, _ => rfl
  | d :: L, i, s, hL, hn, hl => by
    obtain ⟨z5, z6, z7, z8⟩ := s
    have hd := hL d (by simp)
    rw [List.length_cons] at hn
    simp only at hn hl
    rw [rangeL, List.foldl_cons]
    have e1 : addI z8 1 = some (z8 + 1) := addI_ok (by omega)
    have e2 : (((if (d != z8 + 1) = true then some 0 else some z7)) : Option Int) = some (if d ≠ z8 + 1 then 0 else z7) := by
      by_cases h : d = z8 + 1 <;> simp [h]
    obtain ⟨n0, hn0⟩ : ∃ n0, n0 = (if d ≠ z8 + 1 then 0 else z7) := ⟨_, rfl⟩
    have hb : 0 ≤ n0 ∧ n0 ≤ z7 := by rw [hn0]; split <;> omega
    have e3 : addI n0 1 = some (n0 + 1) := addI_ok (by omega)
    have e4 : subI d (n0 + 1) = some (d - (n0 + 1)) := subI_ok (by omega)
    have e5 : addI (d - (n0 + 1)) 1 = some (d - (n0 + 1) + 1) := addI_ok (by omega)
    have es : sF (z5, z6, z7, z8) d = if z6 < n0 + 1 then (d - (n0 + 1) + 1, n0 + 1, n0 + 1, d) else (z5, z6, n0 + 1, d) := by unfold sF; rw [hn0]
    simp only [e1, Option.bind_some, e2]
    rw [← hn0]
    simp only [e3, Option.bind_some, e4, e5, es]
    by_cases h : z6 < n0 + 1
    · simp only [h, decide_true, if_true, Option.bind_some]
      exact streak_loop L (i + 1) _ (fun d hd => hL d (by simp [hd])) ⟨by simp; omega, by simp; omega⟩ ⟨by simp; omega, by simp; omega⟩
    · simp only [h, decide_false, Bool.false_eq_true, if_false, Option.bind_some]
      exact streak_loop L (i + 1) _ (fun d hd => hL d (by simp [hd])) ⟨by simp; omega, by simp; omega⟩ ⟨by simp; omega, by simp; omega⟩
theorem smallL_day {l : List GEntry} (hv : vL l = true) {w d : Int} (hd : d ∈ smallL l w) : 0 ≤ d ∧ d ≤ 182985 := offDays_day hv (List.mem_filter.1 hd).1
theorem smallL_len (l : List GEntry) (w : Int) : (smallL l w).length ≤ l.length := Nat.le_trans (List.length_filter_le _ _) (offDays_len l)
theorem Streak_eq (l : List GEntry) (w : Int) : ledger_Streak l w = some (streakR l w) := by
  unfold ledger_Streak streakR
  rw [Valid_eq]
  cases hv : vL l with
  | false => rfl
  | true =>
    simp only [Option.bind_some, Bool.not_true, Bool.false_eq_true, if_false, if_true, within_day]
    cases hw : dayW w with
    | false => rfl
    | true =>
      have hlen := vL_len hv
      have hsl := smallL_len l w
      simp only [Bool.not_true, Bool.false_eq_true, if_false, if_true]
      rw [those_eq hv _ (fun x => decide (absI x ≤ w)) (fun d _ => by unfold ledger_Streak_c1; rw [aO_size hv]; rfl), Option.bind_some]
      have := streak_loop (smallL l w) 0 (0, 0, 0, -2) (fun d hd => smallL_day hv hd) ⟨by simp, by simp; omega⟩ ⟨by simp, by simp⟩
      erw [this]
      show _ = some (if (streakS l w).2.1 = 0 then _ else _)
      simp only [Option.bind_some]
      by_cases h : (streakS l w).2.1 = 0
      · rw [if_pos h, if_pos (by rw [beq_iff_eq]; exact h)]
      · rw [if_neg h, if_neg (by rw [beq_iff_eq]; exact h)]; rfl
/-- The document's states beside ours. -/
theorem rstreak_loop {l : List GEntry} (hv : vL l = true) (w : Int) : ∀ (L : List Int) (i z5 z6 z7 z8 now last : Int), (∀ d ∈ L, 0 ≤ d ∧ d ≤ 182985) → last + 1 = z8 → (z8 = -1 ∧ z7 = 0 ∨ now = z8 - z7 ∧ 0 ≤ z7 ∧ z7 ≤ z8) → z8 ≤ 182986 →
    rangeL (α := Int) (S := Int × Int × Int × Int) (X := Int × Int) (fun _ yk1 s => match s with
      | (z5, z6, z7, z8) => (((noongunref09_off l yk1).bind (fun o => match o with
            | (t3, _) => (noongunref09_Abs t3).bind (fun t5 => (if (decide (w < t5)) = true then some (z5, z6, z7, z8) else
                (((if (yk1 != z8) = true then some yk1 else some z7)) : Option (Int)).bind (fun s7 => (addI yk1 1).bind (fun t6 => (subI t6 s7).bind (fun t7 => (((if (decide (z6 < t7)) = true then (subI t6 s7).bind (fun t8 => some (s7, t8)) else some (z5, z6))) : Option (Int × Int)).bind (fun o => match o with
                  | (s8, s9) => some (s8, s9, s7, t6))))))))) : Option (Int × Int × Int × Int)).bind (fun o => match o with
          | (s3, s4, s5, s6) => some (Step.cont (s3, s4, s5, s6)))) (fun s => match s with | (z5, z6, _, _) => (z5, z6)) L i (z5, z6, z7, z8) =
      some (((L.filter fun d => decide (aO l d ≤ w)).foldl sF (z5, z6, now, last)).1, ((L.filter fun d => decide (aO l d ≤ w)).foldl sF (z5, z6, now, last)).2.1)
  | [], i, z5, z6, z7, z8, now, last, _, _, _, _ => rfl
  | d :: L, i, z5, z6, z7, z8, now, last, hL, h1, h2, h3 => by
    have hd := hL d (by simp)
    have hL' : ∀ d ∈ L, 0 ≤ d ∧ d ≤ 182985 := fun d hd => hL d (by simp [hd])
    rw [rangeL, List.filter_cons]
    simp only [roff_eq hv d, aO_abs hv d, Option.bind_some]
    by_cases hw : w < aO l d
    · have : ¬ aO l d ≤ w := by omega
      simp only [hw, decide_true, if_true, Option.bind_some, this, decide_false, Bool.false_eq_true, if_false]
      exact rstreak_loop hv w L (i + 1) z5 z6 z7 z8 now last hL' h1 h2 h3
    · have hle : aO l d ≤ w := by omega
      simp only [hw, decide_false, Bool.false_eq_true, if_false, hle, decide_true, if_true, List.foldl_cons]
      have e2 : (((if (d != z8) = true then some d else some z7)) : Option Int) = some (if d ≠ z8 then d else z7) := by by_cases h : d = z8 <;> simp [h]
      obtain ⟨b, hb⟩ : ∃ b, b = (if d ≠ z8 then d else z7) := ⟨_, rfl⟩
      have hbb : 0 ≤ b ∧ b ≤ d := by
        rw [hb]
        by_cases h : d = z8
        · rw [if_neg (by omega)]
          rcases h2 with ⟨h5, h6⟩ | ⟨h5, h6, h7⟩ <;> omega
        · rw [if_pos h]; omega
      have e3 : addI d 1 = some (d + 1) := addI_ok (by omega)
      have e4 : subI (d + 1) b = some (d + 1 - b) := subI_ok (by omega)
      have hn : (if d ≠ last + 1 then 0 else now) + 1 = d + 1 - b := by
        rw [hb]
        by_cases h : d = z8
        · rw [if_neg (by omega), if_neg (by omega)]
          rcases h2 with ⟨h5, h6⟩ | ⟨h5, h6, h7⟩ <;> omega
        · rw [if_pos (by omega), if_pos h]; omega
      have es : sF (z5, z6, now, last) d = if z6 < d + 1 - b then (b, d + 1 - b, d + 1 - b, d) else (z5, z6, d + 1 - b, d) := by
        unfold sF
        simp only [hn]
        have : d - (d + 1 - b) + 1 = b := by omega
        rw [this]
      rw [es, e2]
      simp only [Option.bind_some]
      rw [← hb]
      simp only [e3, Option.bind_some, e4]
      by_cases h : z6 < d + 1 - b
      · simp only [h, decide_true, if_true, Option.bind_some]
        exact rstreak_loop hv w L (i + 1) b (d + 1 - b) b (d + 1) (d + 1 - b) d hL' rfl (.inr ⟨rfl, hbb.1, by omega⟩) (by omega)
      · simp only [h, decide_false, Bool.false_eq_true, if_false, Option.bind_some]
        exact rstreak_loop hv w L (i + 1) z5 z6 b (d + 1) (d + 1 - b) d hL' rfl (.inr ⟨rfl, hbb.1, by omega⟩) (by omega)
theorem rStreak_eq (l : List GEntry) (w : Int) : noongunref09_Streak l w = some (streakR l w) := by
  unfold noongunref09_Streak streakR
  rw [bounded_eq]
  cases hv : vL l with
  | false => rfl
  | true =>
    cases hw : dayW w with
    | false => rfl
    | true =>
      simp only [Option.bind_some, if_true, bne_self_eq_false, Bool.false_eq_true, if_false, rdays_eq hv]
      have := rstreak_loop hv w (offDays l) 0 0 0 0 (-1) 0 (-2) (fun d hd => offDays_day hv hd) (by omega) (.inl ⟨rfl, rfl⟩) (by omega)
      erw [this]
      show _ = some (if (streakS l w).2.1 = 0 then _ else _)
      simp only [Option.bind_some]
      by_cases h : (streakS l w).2.1 = 0
      · rw [if_pos h, if_pos (by rw [beq_iff_eq]; exact h)]
      · rw [if_neg h, if_neg (by rw [beq_iff_eq]; exact h)]; rfl
theorem Fine_eq (l : List GEntry) (w p : Int) : ∃ r, ledger_Fine l w p = some r ∧ noongunref09_Fine l w p = some r := by
  unfold ledger_Fine noongunref09_Fine
  rw [Letters_eq, rLetters_eq]
  simp only [Option.bind_some]
  by_cases he : (lettersR l w).2 = 0
  · have hal : (lettersR l w).1.length ≤ 1000 := by
      unfold lettersR
      split
      · rename_i hv
        split
        · exact Nat.le_trans (Nat.le_trans (List.length_filter_le _ _) (offDays_len l)) (vL_len hv)
        · simp
      · simp
    rw [if_neg (by simp [he]), if_neg (by simp [he])]
    have hwi : ledger_within p 0 1000000 = some (decide (0 ≤ p) && decide (p ≤ 1000000)) := rfl
    rw [hwi]
    by_cases hp : 0 ≤ p ∧ p ≤ 1000000
    · have e1 : (!(decide (0 ≤ p) && decide (p ≤ 1000000))) = false := by simp [hp.1, hp.2]
      have e2 : (decide (p < 0) || decide (1000000 < p)) = false := by rw [Bool.or_eq_false_iff]; simp; omega
      have hm : p * (((lettersR l w).1.length : Nat) : Int) ≤ 1000000 * 1000 := Int.mul_le_mul hp.2 (by omega) (by omega) (by omega)
      have hm2 : 0 ≤ p * (((lettersR l w).1.length : Nat) : Int) := Int.mul_nonneg hp.1 (by omega)
      simp only [Option.bind_some, e1, e2, Bool.false_eq_true, if_false]
      rw [mulI_ok (by omega)]
      exact ⟨_, rfl, rfl⟩
    · have e1 : (!(decide (0 ≤ p) && decide (p ≤ 1000000))) = true := by simp; omega
      have e2 : (decide (p < 0) || decide (1000000 < p)) = true := by rw [Bool.or_eq_true]; simp; omega
      simp only [Option.bind_some, e1, e2, if_true]
      exact ⟨_, rfl, rfl⟩
  · rw [if_pos (by simpa using he), if_pos (by simpa using he)]
    exact ⟨_, rfl, rfl⟩
end Go.Fw
