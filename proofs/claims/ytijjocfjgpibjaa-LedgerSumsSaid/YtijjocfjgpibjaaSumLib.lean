/-
  The ledger's sums and means, plain. No condition.
-/
import Derived.Test.YtijjocfjgpibjaaWorstLib
namespace Go.Fw
theorem gcd_step (x y : Int) : Int.gcd y (x.tmod y) = Int.gcd x y := by
  unfold Int.gcd
  rw [Int.natAbs_tmod, Nat.gcd_comm y.natAbs, ← Nat.gcd_rec, Nat.gcd_comm]
theorem divisor_eq (a b : Int) (ha : -4611686018427387904 ≤ a ∧ a ≤ 4611686018427387904) (hb : -4611686018427387904 ≤ b ∧ b ≤ 4611686018427387904) : span_divisor a b = some ((Int.gcd a b : Nat) : Int) := by
  unfold span_divisor
  obtain ⟨x, h1, h2, h3⟩ := loopR_inv (S := Int × Int) (X := Int) (body := fun (s : Int × Int) => match s with
    | (z3, z4) =>
      (if (z4 != 0) = true then
        (remI z3 z4).bind (fun t1 =>
        some (Step.cont (z4, t1)))
      else
        some (Step.done z3))) (fun s => s.2.natAbs) (fun s => Int.gcd s.1 s.2 = Int.gcd a b ∧ s.1.natAbs ≤ 4611686018427387904 ∧ s.2.natAbs ≤ 4611686018427387904) (fun x => x.natAbs = Int.gcd a b ∧ x.natAbs ≤ 4611686018427387904) (by
      rintro ⟨z3, z4⟩ ⟨hg, h3, h4⟩
      by_cases h0 : z4 = 0
      · left
        subst h0
        refine ⟨z3, rfl, ?_, h3⟩
        rw [← hg]
        simp [Int.gcd]
      · right
        have hlt : (z3.tmod z4).natAbs < z4.natAbs := by
          rw [Int.natAbs_tmod]
          exact Nat.mod_lt _ (by omega)
        refine ⟨(z4, z3.tmod z4), ?_, ⟨(gcd_step z3 z4).trans hg, h4, by show (z3.tmod z4).natAbs ≤ _; omega⟩, hlt⟩
        show (if (z4 != 0) = true then _ else _) = _
        rw [if_pos (by simp [h0]), remI_ok h0]
        rfl) (a, b) ⟨rfl, by show a.natAbs ≤ _; omega, by show b.natAbs ≤ _; omega⟩
  rw [h1]
  rw [Option.bind_some, negI_ok (by omega), Option.bind_some, ← h2]
  congr 1
  omega
theorem gcd_parts (n d : Int) (hd : 1 ≤ d) : ∃ (g : Nat) (n' d' : Int), 0 < g ∧ Int.gcd n d = g ∧ n = (g : Int) * n' ∧ d = (g : Int) * d' ∧ Int.gcd n' d' = 1 := by
  have hg : 0 < Int.gcd n d := Int.gcd_pos_of_ne_zero_right _ (by omega)
  obtain ⟨n', hn⟩ := Int.gcd_dvd_left (a := n) (b := d)
  obtain ⟨d', hd'⟩ := Int.gcd_dvd_right (a := n) (b := d)
  refine ⟨Int.gcd n d, n', d', hg, rfl, hn, hd', ?_⟩
  have h1 : Int.gcd n d = Int.gcd n d * Int.gcd n' d' := by
    have := Int.gcd_mul_left (Int.gcd n d : Int) n' d'
    rw [← hn, ← hd', Int.natAbs_natCast] at this
    exact this
  have h2 : Int.gcd n d * 1 = Int.gcd n d * Int.gcd n' d' := by rw [Nat.mul_one]; exact h1
  exact (Nat.eq_of_mul_eq_mul_left hg h2).symm
theorem part_bd {g : Nat} {n n' B : Int} (hg : 0 < g) (h : n = (g : Int) * n') (hn : -B ≤ n ∧ n ≤ B) : -B ≤ n' ∧ n' ≤ B := by
  have hg1 : (1 : Int) ≤ (g : Int) := by omega
  by_cases h0 : 0 ≤ n'
  · have : 1 * n' ≤ (g : Int) * n' := Int.mul_le_mul_of_nonneg_right hg1 h0
    omega
  · have : (g : Int) * n' ≤ 1 * n' := Int.mul_le_mul_of_nonpos_right hg1 (by omega)
    omega
theorem part_pos {g : Nat} {d d' : Int} (hg : 0 < g) (h : d = (g : Int) * d') (hd : 1 ≤ d) : 1 ≤ d' := by
  by_cases h0 : 1 ≤ d'
  · exact h0
  · have : (g : Int) * d' ≤ (g : Int) * 0 := Int.mul_le_mul_of_nonneg_left (by omega) (by omega)
    omega
theorem Make_eq {n d : Int} {g : Nat} {n' d' : Int} (hn : -1000000000000 ≤ n ∧ n ≤ 1000000000000) (hd : 1 ≤ d ∧ d ≤ 1000) (hg : 0 < g) (hG : Int.gcd n d = g) (e1 : n = (g : Int) * n') (e2 : d = (g : Int) * d') (h1 : Int.gcd n' d' = 1) : span_Make n d = some (if 1000000000 < absI n' then (⟨0, 0⟩, 4) else (⟨n', d'⟩, 0)) := by
  have bn := part_bd hg e1 hn
  have bd := part_bd (B := 1000) hg e2 (by omega)
  have bp := part_pos hg e2 hd.1
  have hgn : ((g : Nat) : Int) ≠ 0 := by omega
  unfold span_Make span_lowest span_quotient_reduce
  rw [if_neg (by simp only [Bool.or_eq_true, decide_eq_true_eq, beq_iff_eq]; omega)]
  show ((((span_divisor n d).bind _).bind _).bind _) = _
  rw [divisor_eq n d (by omega) (by omega), hG, Option.bind_some]
  have q1 : n.tdiv (g : Int) = n' := by rw [e1]; exact Int.mul_tdiv_cancel_left _ hgn
  have q2 : d.tdiv (g : Int) = d' := by rw [e2]; exact Int.mul_tdiv_cancel_left _ hgn
  have hd0 : decide (d < 0) = false := decide_eq_false (by omega)
  simp only [hd0, Bool.false_eq_true, if_false, Option.bind_some]
  rw [quoI_ok hgn (by rw [q1]; omega), Option.bind_some, quoI_ok hgn (by rw [q2]; omega), Option.bind_some, Option.bind_some, q1, q2]
  unfold span_ValidRatio
  have hv : ((((decide (1 ≤ d')) && (decide (d' ≤ 1000000000))) && (decide ((-1000000000) ≤ n'))) && (decide (n' ≤ 1000000000))) = !decide (1000000000 < absI n') := by
    unfold absI
    rw [Bool.eq_iff_iff]
    simp only [Bool.and_eq_true, decide_eq_true_eq, Bool.not_eq_true', decide_eq_false_iff_not]; omega
  simp only [hv]
  by_cases hb : 1000000000 < absI n'
  · simp only [hb, decide_true, Bool.not_true, Bool.false_eq_true, if_false, if_true, Option.bind_some]
  · simp only [hb, decide_false, Bool.not_false, if_true, if_false]
    rw [divisor_eq n' d' (by omega) (by omega), h1]
    rfl
theorem rabs_big {x : Int} (h : -1000000000000 ≤ x ∧ x ≤ 1000000000000) : noongunref09_Abs x = some (absI x) := by
  unfold noongunref09_Abs absI
  by_cases h0 : x < 0
  · rw [if_pos (by simpa using h0), negI_ok (by omega)]
    simp only [Option.bind_some, Option.some.injEq]
    omega
  · rw [if_neg (by simpa using h0)]
    simp only [Option.some.injEq]
    omega
theorem rgcd_loop (n d : Int) (hd : 0 ≤ d) : loopR (S := Int × Int) (X := Int) (fun (s : Int × Int) => match s with
            | (z3, z4) => (if (decide (0 < z4)) = true then (remI z3 z4).bind (fun t5 => some (Step.cont (z4, t5))) else some (Step.done z3))) (absI n, d) = some ((Int.gcd n d : Nat) : Int) := by
  obtain ⟨x, h1, h2⟩ := loopR_inv (S := Int × Int) (X := Int) (body := fun (s : Int × Int) => match s with
            | (z3, z4) => (if (decide (0 < z4)) = true then (remI z3 z4).bind (fun t5 => some (Step.cont (z4, t5))) else some (Step.done z3))) (fun s => s.2.natAbs) (fun s => Int.gcd s.1 s.2 = Int.gcd n d ∧ 0 ≤ s.1 ∧ 0 ≤ s.2) (fun x => x = ((Int.gcd n d : Nat) : Int)) (by
      rintro ⟨z3, z4⟩ ⟨hg3, h3, h4⟩
      by_cases h0 : 0 < z4
      · right
        have hlt : (z3.tmod z4).natAbs < z4.natAbs := by rw [Int.natAbs_tmod]; exact Nat.mod_lt _ (by omega)
        refine ⟨(z4, z3.tmod z4), ?_, ⟨(gcd_step z3 z4).trans hg3, h4, Int.tmod_nonneg _ h3⟩, hlt⟩
        show (if decide (0 < z4) = true then _ else _) = _
        rw [if_pos (decide_eq_true h0), remI_ok (by omega)]
        rfl
      · left
        refine ⟨z3, ?_, ?_⟩
        · show (if decide (0 < z4) = true then _ else _) = _
          rw [if_neg (by simpa using h0)]
        · have h0' : z4 = 0 := by have h4' : 0 ≤ z4 := h4; omega
          subst h0'
          rw [← hg3]
          have h3' : 0 ≤ z3 := h3
          simp only [Int.gcd, Int.natAbs_zero, Nat.gcd_zero_right]
          omega) (absI n, d) ⟨by simp only [Int.gcd]; congr 1; unfold absI; omega, by unfold absI; show (0 : Int) ≤ max n (-n); omega, hd⟩
  rw [h1, h2]
/-! The stretch. -/
def okS (a b : Int) : Bool := dayB a && dayB b && !decide (b < a)
def inS (l : List GEntry) (a b : Int) : List Int := (offDays l).filter fun d => decide (a ≤ d) && decide (d ≤ b)
def offsS (l : List GEntry) (a b : Int) : List Int := (inS l a b).map (offV l)
def strR (l : List GEntry) (a b : Int) : List Int × Int := if vL l = true then (if okS a b = true then (offsS l a b, 0) else ([], 7)) else ([], 1)
theorem inS_len (l : List GEntry) (a b : Int) : (inS l a b).length ≤ l.length := Nat.le_trans (List.length_filter_le _ _) (offDays_len l)
theorem strR_len (l : List GEntry) (a b : Int) : (strR l a b).1.length ≤ 1000 := by
  unfold strR
  split
  · rename_i hv
    split
    · show (List.map _ _).length ≤ _
      rw [List.length_map]
      exact Nat.le_trans (inS_len l a b) (vL_len hv)
    · simp
  · simp
theorem strR_bound (l : List GEntry) (a b : Int) : ∀ x ∈ (strR l a b).1, -172800000 ≤ x ∧ x ≤ 172800000 := by
  unfold strR
  split
  · rename_i hv
    split
    · intro x hx
      obtain ⟨d, _, rfl⟩ := List.mem_map.1 hx
      exact offV_bound hv d
    · simp
  · simp
theorem sum_bd : ∀ L : List Int, (∀ x ∈ L, -172800000 ≤ x ∧ x ≤ 172800000) → -172800000 * (L.length : Int) ≤ L.sum ∧ L.sum ≤ 172800000 * (L.length : Int)
  | [], _ => by simp
  | x :: L, h => by
    have := sum_bd L fun y hy => h y (by simp [hy])
    have := h x (by simp)
    rw [List.sum_cons, List.length_cons]
    omega
theorem stretch_fold (l : List GEntry) (a b : Int) : ∀ (L : List Int) (i : Int) (s : List Int), s.length + L.length ≤ 1000000 →
    rangeL (α := (Int × Int)) (S := (List Int)) (X := (List Int)) (fun _ x1 z2 => (((ledger_within x1.1 a b).bind (fun t5 => (((if t5 = true then (appI z2 ([x1.2] : List Int)).bind (fun t6 => some t6) else some z2)) : Option ((List Int))).bind (fun s3 => some s3))) : Option ((List Int))).bind (fun s2 => some (Step.cont s2))) (fun z2 => z2) (L.map fun d => (d, offV l d)) i s = some (s ++ (L.filter fun d => decide (a ≤ d) && decide (d ≤ b)).map (offV l))
  | [], i, s, _ => by simp [rangeL]
  | d :: L, i, s, h => by
    rw [List.length_cons] at h
    rw [List.map_cons, rangeL, List.filter_cons]
    have hw : ledger_within (d, offV l d).1 a b = some (decide (a ≤ d) && decide (d ≤ b)) := rfl
    rw [hw]
    cases hc : (decide (a ≤ d) && decide (d ≤ b)) with
    | true =>
      simp only [Option.bind_some, if_true]
      rw [appI_ok (by simp; omega)]
      simp only [Option.bind_some]
      have := stretch_fold l a b L (i + 1) (s ++ [offV l d]) (by simp; omega)
      erw [this]
      simp
    | false =>
      simp only [Option.bind_some, Bool.false_eq_true, if_false]
      exact stretch_fold l a b L (i + 1) s (by omega)
theorem guard_day (a b : Int) {β : Type} (x y : Option β) : ((if (!(dayB a)) = true then some true else some (!dayB b)) : Option Bool).bind (fun b3 => if (b3 || (decide (b < a))) = true then x else y) = if okS a b = true then y else x := by
  unfold okS
  cases dayB a <;> cases dayB b <;> by_cases h : b < a <;> simp [h]
theorem stretch_eq (l : List GEntry) (a b : Int) : ledger_stretch l a b = some (strR l a b) := by
  unfold ledger_stretch strR
  rw [Valid_eq]
  cases hv : vL l with
  | false => rfl
  | true =>
    obtain ⟨pg, h1, h2, h3, h4⟩ := page_eq2 l
    have hlen := vL_len hv
    have hol := offDays_len l
    simp only [Option.bind_some, Bool.not_true, Bool.false_eq_true, if_false, if_true, isDay_eq]
    rw [guard_day]
    cases ho : okS a b with
    | false => rfl
    | true =>
      simp only [if_true, h1, Option.bind_some, page_days_eq hv h2 h3 h4]
      erw [stretch_fold l a b (offDays l) 0 [] (by simp; omega)]
      rfl
theorem total_eq : ∀ L : List Int, (∀ x ∈ L, -172800000 ≤ x ∧ x ≤ 172800000) → L.length ≤ 1000 → ledger_total L = some L.sum := by
  intro L hL hlen
  have key : ∀ (L : List Int) (i s : Int), (∀ x ∈ L, -172800000 ≤ x ∧ x ≤ 172800000) → (-1000000000000 + 172800000 * (L.length : Int) ≤ s ∧ s ≤ 1000000000000 - 172800000 * (L.length : Int)) → rangeL (α := Int) (S := Int) (X := Int) (fun _ yk1 z2 => (addI z2 yk1).bind (fun t1 => some (Step.cont t1))) (fun z2 => z2) L i s = some (s + L.sum) := by
    intro L
    induction L with
    | nil => intro i s _ _; simp [rangeL]
    | cons x L ih =>
      intro i s h hb
      have hx := h x (by simp)
      rw [List.length_cons] at hb
      rw [rangeL, addI_ok (by omega)]
      simp only [Option.bind_some]
      rw [ih _ _ (fun y hy => h y (by simp [hy])) (by omega), List.sum_cons]
      congr 1; omega
  unfold ledger_total
  rw [key L 0 0 hL (by omega)]
  simp
theorem Sum_eq (l : List GEntry) (a b : Int) : ledger_Sum l a b = some ((strR l a b).1.sum, (strR l a b).2) := by
  unfold ledger_Sum
  rw [stretch_eq, Option.bind_some]
  show (ledger_total (strR l a b).1).bind _ = _
  rw [total_eq _ (strR_bound l a b) (strR_len l a b)]
  rfl
theorem rstretch_fold {l : List GEntry} (hv : vL l = true) (a b : Int) : ∀ (L : List Int) (i z3 : Int) (n : Nat), n + L.length ≤ 1000 → (-172800000 * (n : Int) ≤ z3 ∧ z3 ≤ 172800000 * (n : Int)) →
    rangeL (α := Int) (S := Int × Int) (X := Int × Int) (fun _ yk1 s =>
      match s with
        | (z3, z4) => (((((if ((decide (a ≤ yk1)) && (decide (yk1 ≤ b))) = true then (noongunref09_off l yk1).bind (fun o => match o with
                  | (t5, _) => (addI z3 t5).bind (fun t7 => (addI z4 1).bind (fun t8 => some (t7, t8)))) else some (z3, z4))) : Option (Int × Int)).bind (fun o => match o with
              | (s5, s6) => some (s5, s6))) : Option (Int × Int)).bind (fun o => match o with
            | (s3, s4) => some (Step.cont (s3, s4)))) (fun s => match s with | (z3, z4) => (z3, z4)) L i (z3, (n : Int)) = some (z3 + ((L.filter fun d => decide (a ≤ d) && decide (d ≤ b)).map (offV l)).sum, ((n + (L.filter fun d => decide (a ≤ d) && decide (d ≤ b)).length : Nat) : Int))
  | [], i, z3, n, _, _ => by simp [rangeL]
  | d :: L, i, z3, n, h, hb => by
    rw [List.length_cons] at h
    rw [rangeL, List.filter_cons]
    have ho := offV_bound hv d
    cases hc : (decide (a ≤ d) && decide (d ≤ b)) with
    | true =>
      simp only [if_true, roff_eq hv d, Option.bind_some]
      rw [addI_ok (by omega), Option.bind_some, addI_ok (by omega)]
      simp only [Option.bind_some]
      have := rstretch_fold hv a b L (i + 1) (z3 + offV l d) (n + 1) (by omega) (by omega)
      rw [show ((n + 1 : Nat) : Int) = (n : Int) + 1 from rfl] at this
      erw [this]
      rw [List.map_cons, List.sum_cons, List.length_cons]
      congr 2
      · omega
      · congr 1; omega
    | false =>
      simp only [Bool.false_eq_true, if_false, Option.bind_some]
      exact rstretch_fold hv a b L (i + 1) z3 n (by omega) hb
theorem rstretch_eq (l : List GEntry) (a b : Int) : noongunref09_stretch l a b = some ((strR l a b).1.sum, (((strR l a b).1.length : Nat) : Int), (strR l a b).2) := by
  unfold noongunref09_stretch strR
  rw [rValid_eq]
  cases hv : vL l with
  | false => rfl
  | true =>
    have hlen := vL_len hv
    have hol := offDays_len l
    simp only [Option.bind_some, Bool.not_true, Bool.false_eq_true, if_false, if_true, rday_eq]
    rw [guard_day]
    cases ho : okS a b with
    | false => rfl
    | true =>
      simp only [if_true, rdays_eq hv, Option.bind_some]
      have := rstretch_fold hv a b (offDays l) 0 0 0 (by omega) (by omega)
      erw [this]
      simp only [Option.bind_some, Int.zero_add, Nat.zero_add]
      show some _ = some ((offsS l a b).sum, _, _)
      unfold offsS inS
      rw [List.length_map]
theorem rSum_eq (l : List GEntry) (a b : Int) : noongunref09_Sum l a b = some ((strR l a b).1.sum, (strR l a b).2) := by
  unfold noongunref09_Sum
  rw [rstretch_eq]; rfl
theorem Mean_eq (l : List GEntry) (a b : Int) : ∃ r, ledger_Mean l a b = some r ∧ noongunref09_Mean l a b = some r := by
  unfold ledger_Mean noongunref09_Mean
  rw [stretch_eq, rstretch_eq]
  have hl := strR_len l a b
  have hb := sum_bd _ (strR_bound l a b)
  have ht := total_eq _ (strR_bound l a b) hl
  obtain ⟨L, e, hL⟩ : ∃ L e, strR l a b = (L, e) := ⟨_, _, rfl⟩
  rw [hL] at hl hb ht ⊢
  simp only at hl hb ht
  simp only [Option.bind_some]
  by_cases he : e = 0
  · subst he
    simp only [bne_self_eq_false, Bool.false_eq_true, if_false]
    by_cases h0 : L.length = 0
    · rw [if_pos (by simp [h0]), if_pos (by simp [h0])]
      exact ⟨_, rfl, rfl⟩
    · rw [if_neg (by simp; intro h; simp [h] at h0), if_neg (by simp; intro h; simp [h] at h0), ht]
      obtain ⟨g, n', d', hg, hG, e1, e2, h1⟩ := gcd_parts L.sum (L.length : Int) (by omega)
      have hn : -1000000000000 ≤ L.sum ∧ L.sum ≤ 1000000000000 := by omega
      have hgn : ((g : Nat) : Int) ≠ 0 := by omega
      have bn := part_bd hg e1 hn
      have bd := part_bd (B := 1000) hg e2 (by omega)
      have q1 : (L.sum).tdiv (g : Int) = n' := by rw [e1]; exact Int.mul_tdiv_cancel_left _ hgn
      have q2 : ((L.length : Nat) : Int).tdiv (g : Int) = d' := by rw [e2]; exact Int.mul_tdiv_cancel_left _ hgn
      rw [Option.bind_some, Make_eq hn (by omega) hg hG e1 e2 h1, rabs_big hn]
      simp only [Option.bind_some]
      erw [rgcd_loop L.sum (L.length : Int) (by omega)]
      rw [hG, Option.bind_some, quoI_ok hgn (by rw [q1]; omega), Option.bind_some, quoI_ok hgn (by rw [q2]; omega), Option.bind_some, q1, q2, rabs_big bn, Option.bind_some]
      refine ⟨_, rfl, ?_⟩
      by_cases hbig : 1000000000 < absI n'
      · rw [if_pos (decide_eq_true hbig), if_pos hbig]
      · rw [if_neg (by simpa using hbig), if_neg hbig]
  · rw [if_pos (by simpa using he), if_pos (by simpa using he)]
    exact ⟨_, rfl, rfl⟩
end Go.Fw
