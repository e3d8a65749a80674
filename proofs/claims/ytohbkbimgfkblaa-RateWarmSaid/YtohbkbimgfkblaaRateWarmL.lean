/-
  RateWarm, plain: its model gives true for whatever comes in. No condition.
-/
import Derived.Test.YtohbkbimgfkblaaSpanLib
namespace Go.Fw
/-- The sign of a divisor. -/
def sgnG (d : Int) (g : Nat) : Int := if d < 0 then -(g : Int) else (g : Int)
theorem parts_sgn (n d : Int) (hd : d ≠ 0) : ∃ (g : Nat) (n' d' : Int), 0 < g ∧ Int.gcd n d = g ∧ n = sgnG d g * n' ∧ d = sgnG d g * d' ∧ Int.gcd n' d' = 1 ∧ 1 ≤ d' := by
  unfold sgnG
  by_cases h : d < 0
  · obtain ⟨g, n', d', h1, h2, h3, h4, h5⟩ := gcd_parts (-n) (-d) (by omega)
    rw [Int.neg_gcd, Int.gcd_neg] at h2
    refine ⟨g, n', d', h1, h2, ?_, ?_, h5, part_pos h1 h4 (by omega)⟩
    · rw [if_pos h, Int.neg_mul]; omega
    · rw [if_pos h, Int.neg_mul]; omega
  · obtain ⟨g, n', d', h1, h2, h3, h4, h5⟩ := gcd_parts n d (by omega)
    refine ⟨g, n', d', h1, h2, ?_, ?_, h5, part_pos h1 h4 (by omega)⟩
    · rw [if_neg h]; exact h3
    · rw [if_neg h]; exact h4
theorem part_sgn {g : Nat} {d n n' B : Int} (hg : 0 < g) (h : n = sgnG d g * n') (hn : -B ≤ n ∧ n ≤ B) : -B ≤ n' ∧ n' ≤ B := by
  unfold sgnG at h
  by_cases h0 : d < 0
  · rw [if_pos h0, Int.neg_mul] at h
    exact part_bd (n := -n) hg (by omega) (by omega)
  · rw [if_neg h0] at h
    exact part_bd hg h hn
def ratR (n' d' : Int) : GRatio × Int := if 1000000000 < n' ∨ n' < -1000000000 then (⟨0, 0⟩, 4) else (⟨n', d'⟩, 0)
theorem Make_gen {n d n' d' : Int} {g : Nat} (hn : -1000000000000 ≤ n ∧ n ≤ 1000000000000) (hd0 : d ≠ 0) (hd : -1000000 ≤ d ∧ d ≤ 1000000) (hg : 0 < g) (hG : Int.gcd n d = g) (e1 : n = sgnG d g * n') (e2 : d = sgnG d g * d') (h1 : Int.gcd n' d' = 1) (hp : 1 ≤ d') :
    span_Make n d = some (ratR n' d') := by
  have bn := part_sgn hg e1 hn
  have bd := part_sgn hg e2 hd
  have hgn : sgnG d g ≠ 0 := by unfold sgnG; split <;> omega
  have hgd : (g : Int) ≤ 1000000 := by
    have h2 : (g : Int) ∣ d := by rw [← hG]; exact Int.gcd_dvd_right _ _
    have := Int.le_of_dvd (by omega) ((Int.dvd_natAbs (a := (g : Int)) (b := d)).2 h2)
    omega
  unfold span_Make span_lowest span_quotient_reduce
  rw [if_neg (by simp only [Bool.or_eq_true, decide_eq_true_eq, beq_iff_eq]; omega)]
  show ((((span_divisor n d).bind _).bind _).bind _) = _
  rw [divisor_eq n d (by omega) (by omega), hG, Option.bind_some]
  have hs : (((if (decide (d < 0)) = true then some (negW (g : Int)) else some (g : Int))) : Option Int) = some (sgnG d g) := by
    unfold sgnG
    by_cases h : d < 0
    · rw [if_pos (decide_eq_true h), if_pos h, negW_ok (by omega)]
    · rw [if_neg (by simpa using h), if_neg h]
  have q1 : n.tdiv (sgnG d g) = n' := by conv => lhs; arg 1; rw [e1]
                                         exact Int.mul_tdiv_cancel_left _ hgn
  have q2 : d.tdiv (sgnG d g) = d' := by conv => lhs; arg 1; rw [e2]
                                         exact Int.mul_tdiv_cancel_left _ hgn
  have eb : ∀ {β : Type} (k : Int → Option β), (((if (decide (d < 0)) = true then some (negW (g : Int)) else some (g : Int))) : Option Int).bind k = k (sgnG d g) := by intro β k; rw [hs]; rfl
  simp only [eb]
  rw [quoI_ok hgn (by rw [q1]; omega), Option.bind_some, quoI_ok hgn (by rw [q2]; omega), Option.bind_some, Option.bind_some, q1, q2]
  unfold span_ValidRatio ratR
  by_cases hbig : 1000000000 < n' ∨ n' < -1000000000
  · have hv : ((((decide (1 ≤ d')) && (decide (d' ≤ 1000000000))) && (decide ((-1000000000) ≤ n'))) && (decide (n' ≤ 1000000000))) = false := by
      rw [Bool.eq_false_iff]; simp only [ne_eq, Bool.and_eq_true, decide_eq_true_eq]; omega
    simp only [hv, Bool.false_eq_true, if_false, Option.bind_some, if_pos hbig]
  · have hv : ((((decide (1 ≤ d')) && (decide (d' ≤ 1000000000))) && (decide ((-1000000000) ≤ n'))) && (decide (n' ≤ 1000000000))) = true := by
      simp only [Bool.and_eq_true, decide_eq_true_eq]; omega
    simp only [hv, if_true, if_neg hbig]
    rw [divisor_eq n' d' (by omega) (by omega), h1]
    rfl
theorem abs_big (x : Int) (h : -1000000000000 ≤ x ∧ x ≤ 1000000000000) : noongunref06_Abs x = some ((x.natAbs : Nat) : Int) := by
  unfold noongunref06_Abs
  by_cases h0 : x < 0
  · rw [if_pos (decide_eq_true h0), negW_ok (by omega)]
    congr 1; omega
  · rw [if_neg (by simpa using h0)]
    congr 1; omega
theorem rgcd6 (n d : Int) (hd : 0 ≤ d) : loopR (S := Int × Int) (X := Int) (fun (s : Int × Int) => match s with
        | (z3, z4) => (if (decide (0 < z4)) = true then (remI z3 z4).bind (fun t2 => some (Step.cont (z4, t2))) else some (Step.done z3))) (((n.natAbs : Nat) : Int), d) = some ((Int.gcd n d : Nat) : Int) := by
  obtain ⟨x, h1, h2⟩ := loopR_inv (S := Int × Int) (X := Int) (body := fun (s : Int × Int) => match s with
        | (z3, z4) => (if (decide (0 < z4)) = true then (remI z3 z4).bind (fun t2 => some (Step.cont (z4, t2))) else some (Step.done z3))) (fun s => s.2.natAbs) (fun s => Int.gcd s.1 s.2 = Int.gcd n d ∧ 0 ≤ s.1 ∧ 0 ≤ s.2) (fun x => x = ((Int.gcd n d : Nat) : Int)) (by
      rintro ⟨z3, z4⟩ ⟨hg3, h3, h4⟩
      by_cases h0 : 0 < z4
      · right
        have hlt : (z3.tmod z4).natAbs < z4.natAbs := by rw [Int.natAbs_tmod]; exact Nat.mod_lt _ (by omega)
        refine ⟨(z4, z3.tmod z4), ?_, ⟨(gcd_step z3 z4).trans hg3, h4, Int.tmod_nonneg _ h3⟩, hlt⟩
        show (if decide (0 < z4) = true then _ else _) = _
        rw [if_pos (decide_eq_true h0), remI_ok (by omega)]
        rfl
      · left
        refine ⟨z3, ?_, ?_⟩
        · show (if decide (0 < z4) = true then _ else _) = _
          rw [if_neg (by simpa using h0)]
        · have h0' : z4 = 0 := by have h4' : 0 ≤ z4 := h4; omega
          subst h0'
          rw [← hg3]
          have h3' : 0 ≤ z3 := h3
          simp only [Int.gcd, Int.natAbs_zero, Nat.gcd_zero_right]
          omega) (((n.natAbs : Nat) : Int), d) ⟨by simp [Int.gcd], by show (0 : Int) ≤ ((n.natAbs : Nat) : Int); omega, hd⟩
  rw [h1, h2]
theorem Ratio_gen {n d n' d' : Int} {g : Nat} (hn : -1000000000000 ≤ n ∧ n ≤ 1000000000000) (hd0 : d ≠ 0) (hd : -1000000 ≤ d ∧ d ≤ 1000000) (hg : 0 < g) (hG : Int.gcd n d = g) (e1 : n = sgnG d g * n') (e2 : d = sgnG d g * d') (hp : 1 ≤ d') :
    noongunref06_Ratio n d = some (ratR n' d') := by
  have bn := part_sgn hg e1 hn
  have bd := part_sgn hg e2 hd
  have hgn : ((g : Nat) : Int) ≠ 0 := by omega
  unfold noongunref06_Ratio
  obtain ⟨m, k, hm, hk1, hk2, f1, f2, f3⟩ : ∃ m k : Int, (((if (decide (d < 0)) = true then some ((negW n), (negW d)) else some (n, d))) : Option (Int × Int)) = some (m, k) ∧ 1 ≤ k ∧ (-1000000000000 ≤ m ∧ m ≤ 1000000000000) ∧ m = (g : Int) * n' ∧ k = (g : Int) * d' ∧ Int.gcd m k = g := by
    unfold sgnG at e1 e2
    by_cases h : d < 0
    · rw [if_pos h, Int.neg_mul] at e1 e2
      refine ⟨-n, -d, by rw [if_pos (decide_eq_true h), negW_ok (by omega), negW_ok (by omega)], by omega, by omega, by omega, by omega, by rw [Int.neg_gcd, Int.gcd_neg]; exact hG⟩
    · rw [if_neg h] at e1 e2
      exact ⟨n, d, by rw [if_neg (by simpa using h)], by omega, hn, e1, e2, hG⟩
  rw [hm]
  simp only [Option.bind_some]
  rw [abs_big m hk2]
  simp only [Option.bind_some]
  erw [rgcd6 m k (by omega)]
  have q1 : m.tdiv (g : Int) = n' := by rw [f1]; exact Int.mul_tdiv_cancel_left _ hgn
  have q2 : k.tdiv (g : Int) = d' := by rw [f2]; exact Int.mul_tdiv_cancel_left _ hgn
  rw [f3, Option.bind_some, quoI_ok hgn (by rw [q1]; omega), Option.bind_some, quoI_ok hgn (by rw [q2]; omega), Option.bind_some, q1, q2, abs_big n' bn, Option.bind_some]
  unfold ratR
  by_cases hbig : 1000000000 < n' ∨ n' < -1000000000
  · rw [if_pos (by simp only [Bool.or_eq_true, decide_eq_true_eq]; omega), if_pos hbig]
  · rw [if_neg (by simp only [Bool.or_eq_true, decide_eq_true_eq]; omega), if_neg hbig]
/-! Warm. -/
def warmOk (a b c d e : Int) : Bool := inB (-50000) 50000 a && inB (-50000) 50000 c && inB (-50000) 50000 e && !(a == c) && inB (-100000) 100000 b && inB (-100000) 100000 d
theorem mul_abs {x y X Y : Int} (hx : -X ≤ x ∧ x ≤ X) (hy : -Y ≤ y ∧ y ≤ Y) : -(X * Y) ≤ x * y ∧ x * y ≤ X * Y := by
  have h1 : (x * y).natAbs ≤ X.natAbs * Y.natAbs := by rw [Int.natAbs_mul]; exact Nat.mul_le_mul (by omega) (by omega)
  have h2 : ((X.natAbs * Y.natAbs : Nat) : Int) = X * Y := by
    rw [Int.natCast_mul, Int.natAbs_of_nonneg (by omega), Int.natAbs_of_nonneg (by omega)]
  omega
def warmN (a b c d e : Int) : Int := b * (c - a) + (d - b) * (e - a)
theorem warm_parts {a b c d e : Int} (h : warmOk a b c d e = true) : (-50000 ≤ a ∧ a ≤ 50000) ∧ (-50000 ≤ c ∧ c ≤ 50000) ∧ (-50000 ≤ e ∧ e ≤ 50000) ∧ a ≠ c ∧ (-100000 ≤ b ∧ b ≤ 100000) ∧ (-100000 ≤ d ∧ d ≤ 100000) := by
  unfold warmOk at h
  simp only [Bool.and_eq_true, inB_iff, Bool.not_eq_true', beq_eq_false_iff_ne] at h
  obtain ⟨⟨⟨⟨⟨h1, h2⟩, h3⟩, h4⟩, h5⟩, h6⟩ := h
  exact ⟨h1, h2, h3, h4, h5, h6⟩
theorem warm_bd {a b c d e : Int} (h : warmOk a b c d e = true) : (-10000000000 ≤ b * (c - a) ∧ b * (c - a) ≤ 10000000000) ∧ (-20000000000 ≤ (d - b) * (e - a) ∧ (d - b) * (e - a) ≤ 20000000000) := by
  obtain ⟨h1, h2, h3, h4, h5, h6⟩ := warm_parts h
  have := mul_abs (x := b) (y := c - a) (X := 100000) (Y := 100000) h5 (by omega)
  have := mul_abs (x := d - b) (y := e - a) (X := 200000) (Y := 100000) (by omega) (by omega)
  omega
theorem Warm_eq (a b c d e : Int) : rate_Warm a b c d e = if warmOk a b c d e = true then span_Make (warmN a b c d e) (c - a) else some (⟨0, 0⟩, 7) := by
  unfold rate_Warm
  by_cases h : warmOk a b c d e = true
  · rw [if_pos h]
    obtain ⟨h1, h2, h3, h4, h5, h6⟩ := warm_parts h
    obtain ⟨m1, m2⟩ := warm_bd h
    have w1 : inB (-50000) 50000 a = true := inB_iff.2 h1
    have w2 : inB (-50000) 50000 c = true := inB_iff.2 h2
    have w3 : inB (-50000) 50000 e = true := inB_iff.2 h3
    have w4 : inB (-100000) 100000 b = true := inB_iff.2 h5
    have w5 : inB (-100000) 100000 d = true := inB_iff.2 h6
    have i0 : idx ([a, c, e] : List Int) 0 = some a := rfl
    have i1 : idx ([a, c, e] : List Int) (0 + 1) = some c := rfl
    have i2 : idx ([a, c, e] : List Int) (0 + 1 + 1) = some e := rfl
    have t3 : Int.toNat 3 = 3 := rfl
    have hac : (a == c) = false := by simpa using h4
    rw [t3]
    simp only [rangeN, i0, i1, i2, Option.bind_some, within_eq, w1, w2, w3, w4, w5, Bool.not_true, Bool.false_eq_true, if_false, hac]
    rw [subI_ok (by omega), Option.bind_some, mulI_ok (by omega), Option.bind_some, subI_ok (by omega), Option.bind_some, subI_ok (by omega), Option.bind_some, mulI_ok (by omega), Option.bind_some, addI_ok (by omega), Option.bind_some, Option.bind_some]
    show (span_Make (warmN a b c d e) (c - a)).bind _ = _
    cases span_Make (warmN a b c d e) (c - a) with
    | none => rfl
    | some r => rfl
  · rw [if_neg h]
    have i0 : idx ([a, c, e] : List Int) 0 = some a := rfl
    have i1 : idx ([a, c, e] : List Int) (0 + 1) = some c := rfl
    have i2 : idx ([a, c, e] : List Int) (0 + 1 + 1) = some e := rfl
    have t3 : Int.toNat 3 = 3 := rfl
    unfold warmOk at h
    rw [t3]
    simp only [rangeN, i0, i1, i2, Option.bind_some, within_eq]
    cases w1 : inB (-50000) 50000 a with
    | false => simp
    | true =>
      cases w2 : inB (-50000) 50000 c with
      | false => simp
      | true =>
        cases w3 : inB (-50000) 50000 e with
        | false => simp
        | true =>
          cases w0 : (a == c) with
          | true => simp
          | false =>
            cases w4 : inB (-100000) 100000 b with
            | false => simp
            | true =>
              cases w5 : inB (-100000) 100000 d with
              | false => simp
              | true => rw [w1, w2, w3, w0, w4, w5] at h; simp at h
theorem out_inB (lo hi x : Int) : (decide (x < lo) || decide (hi < x)) = !inB lo hi x := by
  unfold inB
  rw [Bool.eq_iff_iff]
  simp only [Bool.or_eq_true, decide_eq_true_eq, Bool.not_eq_true', Bool.and_eq_false_iff, decide_eq_false_iff_not]
  omega
theorem rWarm_eq (a b c d e : Int) : noongunref06_Warm a b c d e = if warmOk a b c d e = true then noongunref06_Ratio (warmN a b c d e) (c - a) else some (⟨0, 0⟩, 7) := by
  unfold noongunref06_Warm
  simp only [rangeL, out_inB]
  by_cases h : warmOk a b c d e = true
  · rw [if_pos h]
    obtain ⟨h1, h2, h3, h4, h5, h6⟩ := warm_parts h
    obtain ⟨m1, m2⟩ := warm_bd h
    have w1 : inB (-50000) 50000 a = true := inB_iff.2 h1
    have w2 : inB (-50000) 50000 c = true := inB_iff.2 h2
    have w3 : inB (-50000) 50000 e = true := inB_iff.2 h3
    have w4 : inB (-100000) 100000 b = true := inB_iff.2 h5
    have w5 : inB (-100000) 100000 d = true := inB_iff.2 h6
    have hac : (a == c) = false := by simpa using h4
    simp only [w1, w2, w3, w4, w5, Bool.not_true, Bool.false_eq_true, if_false, hac, Option.bind_some]
    rw [subI_ok (by omega), Option.bind_some, mulI_ok (by omega), Option.bind_some, subI_ok (by omega), Option.bind_some, subI_ok (by omega), Option.bind_some, mulI_ok (by omega), Option.bind_some, addI_ok (by omega), Option.bind_some, Option.bind_some]
    show (noongunref06_Ratio (warmN a b c d e) (c - a)).bind _ = _
    cases noongunref06_Ratio (warmN a b c d e) (c - a) with
    | none => rfl
    | some r => rfl
  · rw [if_neg h]
    unfold warmOk at h
    cases w1 : inB (-50000) 50000 a with
    | false => simp
    | true =>
      cases w2 : inB (-50000) 50000 c with
      | false => simp
      | true =>
        cases w3 : inB (-50000) 50000 e with
        | false => simp
        | true =>
          cases w4 : inB (-100000) 100000 b with
          | false => simp
          | true =>
            cases w5 : inB (-100000) 100000 d with
            | false => simp
            | true =>
              cases w0 : (a == c) with
              | true => simp
              | false => rw [w1, w2, w3, w0, w4, w5] at h; simp at h
theorem Make_mul {b D : Int} (hb : -100000 ≤ b ∧ b ≤ 100000) (h0 : D ≠ 0) (hD : -100000 ≤ D ∧ D ≤ 100000) : span_Make (b * D) D = some (⟨b, 1⟩, 0) := by
  have hm := mul_abs (x := b) (y := D) (X := 100000) (Y := 100000) hb hD
  have hg : Int.gcd (b * D) D = D.natAbs := by
    rw [Int.gcd_comm]; simp
  have hs : sgnG D D.natAbs = D := by unfold sgnG; split <;> omega
  rw [Make_gen (n' := b) (d' := 1) (g := D.natAbs) (by omega) h0 (by omega) (by omega) hg (by rw [hs, Int.mul_comm]) (by rw [hs, Int.mul_one]) (by simp) (by omega)]
  unfold ratR
  rw [if_neg (by omega)]
theorem law_noongunlaw06_RateWarm (a0 : Int) (_ : inI a0 = true) (a1 : Int) (_ : inI a1 = true) (a2 : Int) (_ : inI a2 = true) (a3 : Int) (_ : inI a3 = true) (a4 : Int) (_ : inI a4 = true) : noongunlaw06_RateWarm a0 a1 a2 a3 a4 = some true := by
  unfold noongunlaw06_RateWarm
  rw [Warm_eq, rWarm_eq, Warm_eq, Warm_eq]
  by_cases h : warmOk a0 a1 a2 a3 a4 = true
  · obtain ⟨h1, h2, h3, h4, h5, h6⟩ := warm_parts h
    obtain ⟨m1, m2⟩ := warm_bd h
    have ok0 : warmOk a0 a1 a2 a3 a0 = true := by
      unfold warmOk
      simp only [Bool.and_eq_true, inB_iff, Bool.not_eq_true', beq_eq_false_iff_ne]
      exact ⟨⟨⟨⟨⟨h1, h2⟩, h1⟩, h4⟩, h5⟩, h6⟩
    have ok2 : warmOk a0 a1 a2 a3 a2 = true := by
      unfold warmOk
      simp only [Bool.and_eq_true, inB_iff, Bool.not_eq_true', beq_eq_false_iff_ne]
      exact ⟨⟨⟨⟨⟨h1, h2⟩, h2⟩, h4⟩, h5⟩, h6⟩
    have n0 : warmN a0 a1 a2 a3 a0 = a1 * (a2 - a0) := by unfold warmN; rw [Int.sub_self, Int.mul_zero, Int.add_zero]
    have n2 : warmN a0 a1 a2 a3 a2 = a3 * (a2 - a0) := by unfold warmN; rw [← Int.add_mul]; congr 1; omega
    obtain ⟨g, n', d', p1, p2, p3, p4, p5, p6⟩ := parts_sgn (warmN a0 a1 a2 a3 a4) (a2 - a0) (by omega)
    have hn : -1000000000000 ≤ warmN a0 a1 a2 a3 a4 ∧ warmN a0 a1 a2 a3 a4 ≤ 1000000000000 := by unfold warmN; omega
    rw [if_pos h, if_pos h, if_pos ok0, if_pos ok2, n0, n2, Make_mul h5 (by omega) (by omega), Make_mul h6 (by omega) (by omega), Make_gen hn (by omega) (by omega) p1 p2 p3 p4 p5 p6, Ratio_gen hn (by omega) (by omega) p1 p2 p3 p4 p6]
    simp [awake_eq]
  · rw [if_neg h, if_neg h]
    have hr : ∀ e, ∃ r : GRatio × Int, (if warmOk a0 a1 a2 a3 e = true then span_Make (warmN a0 a1 a2 a3 e) (a2 - a0) else some (⟨0, 0⟩, 7)) = some r ∧ (warmOk a0 a1 a2 a3 e = false → r.2 = 7) ∧ (warmOk a0 a1 a2 a3 e = true → e = a0 → r = (⟨a1, 1⟩, 0)) ∧ (warmOk a0 a1 a2 a3 e = true → e = a2 → r = (⟨a3, 1⟩, 0)) := by
      intro e
      cases he : warmOk a0 a1 a2 a3 e with
      | false => exact ⟨_, rfl, fun _ => rfl, fun h => by simp at h, fun h => by simp at h⟩
      | true =>
        obtain ⟨h1, h2, h3, h4, h5, h6⟩ := warm_parts he
        obtain ⟨m1, m2⟩ := warm_bd he
        have hn : -1000000000000 ≤ warmN a0 a1 a2 a3 e ∧ warmN a0 a1 a2 a3 e ≤ 1000000000000 := by unfold warmN; omega
        obtain ⟨g, n', d', p1, p2, p3, p4, p5, p6⟩ := parts_sgn (warmN a0 a1 a2 a3 e) (a2 - a0) (by omega)
        have hmk := Make_gen hn (by omega) (by omega) p1 p2 p3 p4 p5 p6
        rw [if_pos rfl]
        refine ⟨_, hmk, fun h => by simp at h, fun _ e0 => ?_, fun _ e0 => ?_⟩
        · have n0 : warmN a0 a1 a2 a3 e = a1 * (a2 - a0) := by rw [e0]; unfold warmN; rw [Int.sub_self, Int.mul_zero, Int.add_zero]
          rw [n0, Make_mul h5 (by omega) (by omega)] at hmk
          exact (Option.some.inj hmk).symm
        · have n2 : warmN a0 a1 a2 a3 e = a3 * (a2 - a0) := by rw [e0]; unfold warmN; rw [← Int.add_mul]; congr 1; omega
          rw [n2, Make_mul h6 (by omega) (by omega)] at hmk
          exact (Option.some.inj hmk).symm
    obtain ⟨r0, e0, f0, g0, _⟩ := hr a0
    obtain ⟨r2, e2, f2, _, g2⟩ := hr a2
    rw [e0, e2]
    simp only [Option.bind_some]
    cases k0 : warmOk a0 a1 a2 a3 a0 with
    | false => simp [f0 k0, awake_eq]
    | true =>
      cases k2 : warmOk a0 a1 a2 a3 a2 with
      | false => simp [f2 k2, awake_eq]
      | true => simp [g0 k0 rfl, g2 k2 rfl, awake_eq]
end Go.Fw
