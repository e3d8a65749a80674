/-
  Fractions, plain: the greatest common divisor, and what is made of it. No condition.
-/
import Derived.Test.YtohbkbimgfkblaaRatesLib
namespace Go.Fw
theorem gcd_step (x y : Int) : Int.gcd y (x.tmod y) = Int.gcd x y := by
  unfold Int.gcd
  rw [Int.natAbs_tmod, Nat.gcd_comm y.natAbs, ← Nat.gcd_rec, Nat.gcd_comm]
theorem divisor_eq (a b : Int) (ha : -4611686018427387904 ≤ a ∧ a ≤ 4611686018427387904) (hb : -4611686018427387904 ≤ b ∧ b ≤ 4611686018427387904) : span_divisor a b = some ((Int.gcd a b : Nat) : Int) := by
  unfold span_divisor
  obtain ⟨x, h1, h2, h3⟩ := loopR_inv (S := Int × Int) (X := Int) (body := fun (s : Int × Int) => match s with
    | (z3, z4) =>
      (if (z4 != 0) = true then
        (remI z3 z4).bind (fun t1 =>
        some (Step.cont (z4, t1)))
      else
        some (Step.done z3))) (fun s => s.2.natAbs) (fun s => Int.gcd s.1 s.2 = Int.gcd a b ∧ s.1.natAbs ≤ 4611686018427387904 ∧ s.2.natAbs ≤ 4611686018427387904) (fun x => x.natAbs = Int.gcd a b ∧ x.natAbs ≤ 4611686018427387904) (by
      rintro ⟨z3, z4⟩ ⟨hg, h3, h4⟩
      by_cases h0 : z4 = 0
      · left
        subst h0
        refine ⟨z3, rfl, ?_, h3⟩
        rw [← hg]
        simp [Int.gcd]
      · right
        have hlt : (z3.tmod z4).natAbs < z4.natAbs := by
          rw [Int.natAbs_tmod]
          exact Nat.mod_lt _ (by omega)
        refine ⟨(z4, z3.tmod z4), ?_, ⟨(gcd_step z3 z4).trans hg, h4, by show (z3.tmod z4).natAbs ≤ _; omega⟩, hlt⟩
        show (if (z4 != 0) = true then _ else _) = _
        rw [if_pos (by simp [h0]), remI_ok h0]
        rfl) (a, b) ⟨rfl, by show a.natAbs ≤ _; omega, by show b.natAbs ≤ _; omega⟩
  rw [h1]
  show some (max x (negW x)) = _
  rw [negW_ok (by omega), ← h2]
  congr 1
  omega
theorem gcd_parts (n d : Int) (hd : 1 ≤ d) : ∃ (g : Nat) (n' d' : Int), 0 < g ∧ Int.gcd n d = g ∧ n = (g : Int) * n' ∧ d = (g : Int) * d' ∧ Int.gcd n' d' = 1 := by
  have hg : 0 < Int.gcd n d := Int.gcd_pos_of_ne_zero_right _ (by omega)
  obtain ⟨n', hn⟩ := Int.gcd_dvd_left (a := n) (b := d)
  obtain ⟨d', hd'⟩ := Int.gcd_dvd_right (a := n) (b := d)
  refine ⟨Int.gcd n d, n', d', hg, rfl, hn, hd', ?_⟩
  have h1 : Int.gcd n d = Int.gcd n d * Int.gcd n' d' := by
    have := Int.gcd_mul_left (Int.gcd n d : Int) n' d'
    rw [← hn, ← hd', Int.natAbs_natCast] at this
    exact this
  have h2 : Int.gcd n d * 1 = Int.gcd n d * Int.gcd n' d' := by rw [Nat.mul_one]; exact h1
  exact (Nat.eq_of_mul_eq_mul_left hg h2).symm
theorem part_bd {g : Nat} {n n' B : Int} (hg : 0 < g) (h : n = (g : Int) * n') (hn : -B ≤ n ∧ n ≤ B) : -B ≤ n' ∧ n' ≤ B := by
  have hg1 : (1 : Int) ≤ (g : Int) := by omega
  by_cases h0 : 0 ≤ n'
  · have : 1 * n' ≤ (g : Int) * n' := Int.mul_le_mul_of_nonneg_right hg1 h0
    omega
  · have : (g : Int) * n' ≤ 1 * n' := Int.mul_le_mul_of_nonpos_right hg1 (by omega)
    omega
theorem part_pos {g : Nat} {d d' : Int} (hg : 0 < g) (h : d = (g : Int) * d') (hd : 1 ≤ d) : 1 ≤ d' := by
  by_cases h0 : 1 ≤ d'
  · exact h0
  · have : (g : Int) * d' ≤ (g : Int) * 0 := Int.mul_le_mul_of_nonneg_left (by omega) (by omega)
    omega
theorem Make_eq {n d : Int} {g : Nat} {n' d' : Int} (hn : -1000000000 ≤ n ∧ n ≤ 1000000000) (hd : 1 ≤ d ∧ d ≤ 1000) (hg : 0 < g) (hG : Int.gcd n d = g) (e1 : n = (g : Int) * n') (e2 : d = (g : Int) * d') (h1 : Int.gcd n' d' = 1) : span_Make n d = some (⟨n', d'⟩, 0) := by
  have bn := part_bd hg e1 hn
  have bd := part_bd (B := 1000) hg e2 (by omega)
  have bp := part_pos hg e2 hd.1
  have hgn : ((g : Nat) : Int) ≠ 0 := by omega
  unfold span_Make span_lowest span_quotient_reduce
  rw [if_neg (by simp only [Bool.or_eq_true, decide_eq_true_eq, beq_iff_eq]; omega)]
  show ((((span_divisor n d).bind _).bind _).bind _) = _
  rw [divisor_eq n d (by omega) (by omega), hG, Option.bind_some]
  have q1 : n.tdiv (g : Int) = n' := by rw [e1]; exact Int.mul_tdiv_cancel_left _ hgn
  have q2 : d.tdiv (g : Int) = d' := by rw [e2]; exact Int.mul_tdiv_cancel_left _ hgn
  have hd0 : decide (d < 0) = false := decide_eq_false (by omega)
  simp only [hd0, Bool.false_eq_true, if_false, Option.bind_some]
  rw [quoI_ok hgn (by rw [q1]; omega), Option.bind_some, quoI_ok hgn (by rw [q2]; omega), Option.bind_some, Option.bind_some, q1, q2]
  unfold span_ValidRatio
  have hv : ((((decide (1 ≤ d')) && (decide (d' ≤ 1000000000))) && (decide ((-1000000000) ≤ n'))) && (decide (n' ≤ 1000000000))) = true := by
    simp only [Bool.and_eq_true, decide_eq_true_eq]; omega
  simp only [hv, if_true]
  rw [divisor_eq n' d' (by omega) (by omega), h1]
  rfl
theorem abs_nat (x : Int) (h : -1000000000 ≤ x ∧ x ≤ 1000000000) : noongunref06_Abs x = some ((x.natAbs : Nat) : Int) := by
  unfold noongunref06_Abs
  by_cases h0 : x < 0
  · rw [if_pos (decide_eq_true h0), negW_ok (by omega)]
    congr 1; omega
  · rw [if_neg (by simpa using h0)]
    congr 1; omega
theorem Ratio_eq {n d : Int} {g : Nat} {n' d' : Int} (hn : -1000000000 ≤ n ∧ n ≤ 1000000000) (hd : 1 ≤ d ∧ d ≤ 1000) (hg : 0 < g) (hG : Int.gcd n d = g) (e1 : n = (g : Int) * n') (e2 : d = (g : Int) * d') : noongunref06_Ratio n d = some (⟨n', d'⟩, 0) := by
  have bn := part_bd hg e1 hn
  have bd := part_bd (B := 1000) hg e2 (by omega)
  have bp := part_pos hg e2 hd.1
  have hgn : ((g : Nat) : Int) ≠ 0 := by omega
  unfold noongunref06_Ratio
  rw [if_neg (by simp only [decide_eq_true_eq]; omega), Option.bind_some]
  show (noongunref06_Abs n).bind _ = _
  rw [abs_nat n hn, Option.bind_some]
  obtain ⟨x, h1, h2⟩ := loopR_inv (S := Int × Int) (X := Int) (body := fun (s : Int × Int) => match s with
    | (z3, z4) =>
      (if (decide (0 < z4)) = true then
        (remI z3 z4).bind (fun t2 =>
        some (Step.cont (z4, t2)))
      else
        some (Step.done z3))) (fun s => s.2.natAbs) (fun s => Int.gcd s.1 s.2 = g ∧ 0 ≤ s.1 ∧ 0 ≤ s.2) (fun x => x = (g : Int)) (by
      rintro ⟨z3, z4⟩ ⟨hg3, h3, h4⟩
      by_cases h0 : 0 < z4
      · right
        have hlt : (z3.tmod z4).natAbs < z4.natAbs := by rw [Int.natAbs_tmod]; exact Nat.mod_lt _ (by omega)
        refine ⟨(z4, z3.tmod z4), ?_, ⟨(gcd_step z3 z4).trans hg3, h4, Int.tmod_nonneg _ h3⟩, hlt⟩
        show (if decide (0 < z4) = true then _ else _) = _
        rw [if_pos (decide_eq_true h0), remI_ok (by omega)]
        rfl
      · left
        refine ⟨z3, ?_, ?_⟩
        · show (if decide (0 < z4) = true then _ else _) = _
          rw [if_neg (by simpa using h0)]
        · have h0' : z4 = 0 := by have h4' : 0 ≤ z4 := h4; omega
          subst h0'
          rw [← hg3]
          have h3' : 0 ≤ z3 := h3
          simp only [Int.gcd, Int.natAbs_zero, Nat.gcd_zero_right]
          omega) (((n.natAbs : Nat) : Int), d) ⟨by rw [← hG]; simp [Int.gcd], by show (0 : Int) ≤ ((n.natAbs : Nat) : Int); omega, by show 0 ≤ d; omega⟩
  subst h2
  rw [h1, Option.bind_some]
  have q1 : n.tdiv (g : Int) = n' := by rw [e1]; exact Int.mul_tdiv_cancel_left _ hgn
  have q2 : d.tdiv (g : Int) = d' := by rw [e2]; exact Int.mul_tdiv_cancel_left _ hgn
  rw [quoI_ok hgn (by rw [q1]; omega), Option.bind_some, quoI_ok hgn (by rw [q2]; omega), Option.bind_some, q1, q2, abs_nat n' bn, Option.bind_some, if_neg]
  simp only [Bool.or_eq_true, decide_eq_true_eq]
  omega
end Go.Fw
