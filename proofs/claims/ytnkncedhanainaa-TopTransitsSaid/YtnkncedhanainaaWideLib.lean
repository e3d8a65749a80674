/-
  Numbers of 128 bits, plain: products and differences of small numbers are exact; a strip that has a clock's error and an azimuth. No condition.
-/
import Derived.Test.YtnkncedhanainaaAgreeLib
namespace Go.Fw
theorem wrU_in {a : Int} (h : 0 ≤ a ∧ a < 18446744073709551616) : IntKind.u64.wrap a = a := by
  simp only [IntKind.wrap, IntKind.bits, IntKind.signed, Bool.false_eq_true, false_and, if_false]
  show a % 2 ^ 64 = a
  omega
theorem wrU_neg {a : Int} (h : -18446744073709551616 ≤ a ∧ a < 0) : IntKind.u64.wrap a = a + 18446744073709551616 := by
  simp only [IntKind.wrap, IntKind.bits, IntKind.signed, Bool.false_eq_true, false_and, if_false]
  show a % 2 ^ 64 = _
  omega
theorem wrI_in {a : Int} (h : -9223372036854775808 ≤ a ∧ a ≤ 9223372036854775807) : IntKind.i64.wrap a = a := wrap_of_inI (inI_iff.2 h)
theorem wrI_show (a : Int) : IntKind.i64.wrap a = if (true && decide (a % 18446744073709551616 ≥ 9223372036854775808)) = true then a % 18446744073709551616 - 18446744073709551616 else a % 18446744073709551616 := rfl
theorem wrI_big {a : Int} (h : 9223372036854775808 ≤ a ∧ a < 18446744073709551616) : IntKind.i64.wrap a = a - 18446744073709551616 := by
  rw [wrI_show, if_pos (by rw [Bool.true_and, decide_eq_true_eq]; omega)]
  omega
theorem wrap_i64_in (a : Int) : -9223372036854775808 ≤ IntKind.i64.wrap a ∧ IntKind.i64.wrap a ≤ 9223372036854775807 := by
  rw [wrI_show]
  split
  · rename_i h
    rw [Bool.true_and, decide_eq_true_eq] at h
    omega
  · rename_i h
    rw [Bool.true_and, decide_eq_true_eq] at h
    omega
theorem mask_eq {a : Int} (h : 0 ≤ a ∧ a < 4294967296) : bits .and .u64 a 4294967295 = a := by
  obtain ⟨n, rfl⟩ := Int.eq_ofNat_of_zero_le h.1
  have hn : n < 4294967296 := by omega
  have : bits .and .u64 (n : Int) 4294967295 = IntKind.u64.wrap (((BitVec.ofInt 64 (n : Int)) &&& (BitVec.ofInt 64 4294967295)).toNat : Int) := rfl
  rw [this]
  have e1 : (BitVec.ofInt 64 (n : Int)).toNat = n := by
    rw [BitVec.toNat_ofInt]
    omega
  have e2 : (BitVec.ofInt 64 4294967295).toNat = 2 ^ 32 - 1 := by decide
  rw [BitVec.toNat_and, e1, e2, Nat.and_two_pow_sub_one_eq_mod, Nat.mod_eq_of_lt (by omega)]
  exact wrU_in (by omega)
theorem mul64_eq {a b : Int} (ha : 0 ≤ a ∧ a < 4294967296) (hb : 0 ≤ b ∧ b < 4294967296) : math_bits_Mul64 a b = some (0, a * b) := by
  have hm : 0 ≤ a * b ∧ a * b < 18446744073709551616 := by
    have h1 : a * b ≤ 4294967295 * b := Int.mul_le_mul_of_nonneg_right (by omega) hb.1
    have h2 : 0 ≤ a * b := Int.mul_nonneg ha.1 hb.1
    omega
  have e3 : (2 : Int) ^ ((32 : Int).toNat) = 4294967296 := by decide
  have ea : a / 4294967296 = 0 := by omega
  have eb : b / 4294967296 = 0 := by omega
  have hq : 0 ≤ a * b / 4294967296 ∧ a * b / 4294967296 < 4294967296 := by omega
  unfold math_bits_Mul64
  simp only [e3, ea, eb, mask_eq ha, mask_eq hb, wrU, Int.zero_mul, Int.mul_zero]
  have w0 : IntKind.u64.wrap (0 : Int) = 0 := by decide
  have wm : IntKind.u64.wrap (a * b) = a * b := wrU_in hm
  simp only [w0, wm, Int.zero_add]
  have wq : IntKind.u64.wrap (a * b / 4294967296) = a * b / 4294967296 := wrU_in (by omega)
  simp only [wq, Int.add_zero, mask_eq hq]
  have q0 : a * b / 4294967296 / 4294967296 = 0 := by omega
  simp [q0, w0, wq]
/-- What a wide number says. -/
def Rep (w : GWide) (v : Int) : Prop := w.hi = v / 18446744073709551616 ∧ w.lo = v % 18446744073709551616
theorem minus_eq {p q : GWide} {a b : Int} (hp : Rep p a) (hq : Rep q b) (ha : -100000000000000000000 ≤ a ∧ a ≤ 100000000000000000000) (hb : -100000000000000000000 ≤ b ∧ b ≤ 100000000000000000000) :
    ∃ r, transit_wide_minus p q = some r ∧ Rep r (a - b) := by
  obtain ⟨p1, p2⟩ := hp
  obtain ⟨q1, q2⟩ := hq
  have hpl : 0 ≤ p.lo ∧ p.lo < 18446744073709551616 := by omega
  have hql : 0 ≤ q.lo ∧ q.lo < 18446744073709551616 := by omega
  have hph : -6 ≤ p.hi ∧ p.hi ≤ 5 := by omega
  have hqh : -6 ≤ q.hi ∧ q.hi ≤ 5 := by omega
  obtain ⟨pl, hpl'⟩ := Int.eq_ofNat_of_zero_le hpl.1
  obtain ⟨ql, hql'⟩ := Int.eq_ofNat_of_zero_le hql.1
  have hw : ∀ x : Int, -6 ≤ x ∧ x ≤ 5 → ∃ n : Nat, IntKind.u64.wrap x = (n : Int) ∧ ((0 ≤ x ∧ (n : Int) = x) ∨ (x < 0 ∧ (n : Int) = x + 18446744073709551616)) := by
    intro x hx
    rcases Int.lt_or_le x 0 with h | h
    · refine ⟨(x + 18446744073709551616).toNat, ?_, .inr ⟨h, by omega⟩⟩
      rw [wrU_neg (by omega)]; omega
    · refine ⟨x.toNat, ?_, .inl ⟨h, by omega⟩⟩
      rw [wrU_in (by omega)]; omega
  obtain ⟨ph, hph1, hph2⟩ := hw p.hi hph
  obtain ⟨qh, hqh1, hqh2⟩ := hw q.hi hqh
  unfold transit_wide_minus
  have s1 : sub64I p.lo q.lo 0 = some (sub64V p.lo q.lo 0) := if_pos (by omega)
  rw [s1, Option.bind_some]
  unfold sub64V
  dsimp only
  rw [hph1, hqh1, hpl', hql']
  simp only [Int.toNat_natCast, Int.toNat_zero, Nat.sub_zero, Nat.add_zero]
  generalize hb0 : (if pl < ql then 1 else 0 : Nat) = bo
  have hbo : (pl < ql ∧ bo = 1) ∨ (ql ≤ pl ∧ bo = 0) := by
    rcases Nat.lt_or_ge pl ql with h | h
    · rw [if_pos h] at hb0; exact .inl ⟨h, hb0.symm⟩
    · rw [if_neg (by omega)] at hb0; exact .inr ⟨h, hb0.symm⟩
  have s2 : sub64I (ph : Int) (qh : Int) (bo : Int) = some (sub64V (ph : Int) (qh : Int) (bo : Int)) := if_pos (by omega)
  rw [s2, Option.bind_some]
  unfold sub64V
  dsimp only
  simp only [Int.toNat_natCast]
  refine ⟨_, rfl, ?_, ?_⟩
  · show IntKind.i64.wrap (((ph + 18446744073709551616 - qh - bo) % 18446744073709551616 : Nat) : Int) = _
    rcases Int.lt_or_le (((ph + 18446744073709551616 - qh - bo) % 18446744073709551616 : Nat) : Int) 9223372036854775808 with h | h
    · rw [wrI_in (by omega)]; omega
    · rw [wrI_big (by omega)]; omega
  · show ((((pl + 18446744073709551616 - ql) % 18446744073709551616 : Nat)) : Int) = _
    omega
theorem rep_zero : Rep (GWide.mk 0 0) 0 := ⟨rfl, rfl⟩
theorem product_eq {a b : Int} (ha : -4294967295 ≤ a ∧ a ≤ 4294967295) (hb : -4294967295 ≤ b ∧ b ≤ 4294967295) : ∃ r, transit_product a b = some r ∧ Rep r (a * b) := by
  have hna : (0 ≤ a ∧ max a (-a) = a) ∨ (a < 0 ∧ max a (-a) = -a) := by omega
  have hnb : (0 ≤ b ∧ max b (-b) = b) ∨ (b < 0 ∧ max b (-b) = -b) := by omega
  have hma : 0 ≤ max a (-a) ∧ max a (-a) < 4294967296 := by omega
  have hmb : 0 ≤ max b (-b) ∧ max b (-b) < 4294967296 := by omega
  unfold transit_product
  rw [negI_ok (by omega), Option.bind_some, negI_ok (by omega), Option.bind_some, wrU_in (by omega), wrU_in (by omega), mul64_eq hma hmb, Option.bind_some]
  dsimp only
  have hm : 0 ≤ max a (-a) * max b (-b) ∧ max a (-a) * max b (-b) < 18446744073709551616 := by
    have h1 : max a (-a) * max b (-b) ≤ 4294967295 * max b (-b) := Int.mul_le_mul_of_nonneg_right (by omega) hmb.1
    have h2 : 0 ≤ max a (-a) * max b (-b) := Int.mul_nonneg hma.1 hmb.1
    omega
  have hr : Rep (GWide.mk (IntKind.i64.wrap 0) (max a (-a) * max b (-b))) (max a (-a) * max b (-b)) := ⟨by show IntKind.i64.wrap 0 = _; rw [wrI_in (by decide)]; omega, by show max a (-a) * max b (-b) = _; omega⟩
  have hsame : a * b = max a (-a) * max b (-b) ∨ a * b = -(max a (-a) * max b (-b)) := by
    rcases hna with ⟨_, h1⟩ | ⟨_, h1⟩ <;> rcases hnb with ⟨_, h2⟩ | ⟨_, h2⟩ <;> rw [h1, h2]
    · exact .inl rfl
    · rw [Int.mul_neg, Int.neg_neg]; exact .inr rfl
    · rw [Int.neg_mul, Int.neg_neg]; exact .inr rfl
    · rw [Int.neg_mul_neg]; exact .inl rfl
  cases hs : decide (a < 0) != decide (b < 0) with
  | true =>
    rw [if_pos rfl]
    obtain ⟨r, h1, h2⟩ := minus_eq rep_zero hr (by decide) (by omega)
    refine ⟨r, by rw [h1]; rfl, ?_⟩
    have : a * b = 0 - max a (-a) * max b (-b) := by
      rcases hna with ⟨q1, h1⟩ | ⟨q1, h1⟩ <;> rcases hnb with ⟨q2, h2⟩ | ⟨q2, h2⟩
      · rw [decide_eq_false (by omega), decide_eq_false (by omega)] at hs; cases hs
      · rw [h1, h2, Int.mul_neg]; omega
      · rw [h1, h2, Int.neg_mul]; omega
      · rw [decide_eq_true q1, decide_eq_true q2] at hs; cases hs
    rw [this]
    exact h2
  | false =>
    rw [if_neg (by decide)]
    refine ⟨_, rfl, ?_⟩
    have : a * b = max a (-a) * max b (-b) := by
      rcases hna with ⟨q1, h1⟩ | ⟨q1, h1⟩ <;> rcases hnb with ⟨q2, h2⟩ | ⟨q2, h2⟩
      · rw [h1, h2]
      · rw [decide_eq_false (by omega), decide_eq_true q2] at hs; cases hs
      · rw [decide_eq_true q1, decide_eq_false (by omega)] at hs; cases hs
      · rw [h1, h2, Int.neg_mul_neg]
    rw [this]
    exact hr
theorem below_eq {w : GWide} {v : Int} (h : Rep w v) : transit_wide_below w = some (decide (v < 0)) := by
  unfold transit_wide_below
  congr 2
  have := h.1
  apply propext
  omega
theorem has_eq {e a : Int} {s : GStrip} (he : -1000000 ≤ e ∧ e ≤ 1000000) (ha : -1000 ≤ a ∧ a ≤ 1000) (h : In e a s) : transit_strip_has s ⟨e, 1⟩ ⟨a, 1⟩ = some true := by
  have h1 := h.sh
  have h2 := h.lo
  have h3 := h.hi
  have h4 := h.below
  have h5 := h.above
  have hsa : -10000000 ≤ s.shift * a ∧ s.shift * a ≤ 10000000 := by
    rcases Int.le_total 0 a with h0 | h0
    · have := mul_in (A := 10000) (B := 1000) h1 ⟨h0, ha.2⟩ (by decide); omega
    · have := mul_in (A := 10000) (B := 1000) (m := -a) h1 ⟨by omega, by omega⟩ (by decide)
      rw [Int.mul_neg] at this; omega
  obtain ⟨p1, hp1, r1⟩ := product_eq (a := s.shift * a) (b := 1) (by omega) (by decide)
  obtain ⟨p2, hp2, r2⟩ := product_eq (a := 1000 * e) (b := 1) (by omega) (by decide)
  obtain ⟨p3, hp3, r3⟩ := product_eq (a := 1000 * s.lo) (b := 1) (by omega) (by decide)
  obtain ⟨p4, hp4, r4⟩ := product_eq (a := 1000 * s.hi) (b := 1) (by omega) (by decide)
  rw [Int.mul_one] at r1 r2 r3 r4
  obtain ⟨m1, hm1, t1⟩ := minus_eq r2 r3 (by omega) (by omega)
  obtain ⟨m2, hm2, t2⟩ := minus_eq r4 r2 (by omega) (by omega)
  obtain ⟨m3, hm3, t3⟩ := minus_eq rep_zero r1 (by decide) (by omega)
  obtain ⟨m4, hm4, t4⟩ := minus_eq t1 t3 (by omega) (by omega)
  obtain ⟨m5, hm5, t5⟩ := minus_eq t2 r1 (by omega) (by omega)
  have k1 : mulI s.shift a = some (s.shift * a) := mulI_ok (by omega)
  have k2 : mulI 1000 e = some (1000 * e) := mulI_ok (by omega)
  have k3 : mulI 1000 s.lo = some (1000 * s.lo) := mulI_ok (by omega)
  have k4 : mulI 1000 s.hi = some (1000 * s.hi) := mulI_ok (by omega)
  have k5 : mulI 1 1 = some 1 := by decide
  have k6 : decide (1000 * e - 1000 * s.lo - (0 - s.shift * a) < 0) = false := decide_eq_false (by omega)
  have k7 : decide (1000 * s.hi - 1000 * e - s.shift * a < 0) = false := decide_eq_false (by omega)
  unfold transit_strip_has
  simp only [k1, k2, k3, k4, k5, hp1, hp2, hp3, hp4, hm1, hm2, hm3, hm4, hm5, below_eq t4, below_eq t5, Option.bind_some, k6, k7]
  rfl
theorem ratio_eq {n : Int} (h : -1000000 ≤ n ∧ n ≤ 1000000) : span_ValidRatio ⟨n, 1⟩ = some true := by
  have d : span_divisor n 1 = some 1 := by
    unfold span_divisor
    refine (bindS (a := 1) ?_).trans (by decide)
    refine (loopR_cont (1, n.tmod 1) (gcd_step (by decide))).trans ?_
    rw [Int.tmod_one]
    exact loopR_done rfl
  unfold span_ValidRatio
  rw [d]
  have : ((((decide (1 ≤ (1 : Int))) && (decide ((1 : Int) ≤ 1000000000))) && (decide ((-1000000000) ≤ n))) && (decide (n ≤ 1000000000))) = true := by
    rw [decide_eq_true (show -1000000000 ≤ n by omega), decide_eq_true (show n ≤ 1000000000 by omega)]
    decide
  rw [if_pos this]
  rfl
theorem containsS_eq (l : List GStrip) (f : GStrip → Option Bool) (p : GStrip → Bool) (h : ∀ x ∈ l, f x = some (p x)) : slices_ContainsFunc_strip l f = some (l.any p) := by
  unfold slices_ContainsFunc_strip slices_IndexFunc_strip
  rw [index_loop p]
  · rw [← findIdx_any]
    cases l.findIdx? p with
    | none => rfl
    | some i => simp
  · intro i x hx
    simp only [idx_at hx, Option.bind_some, h x (List.mem_of_getElem? hx)]
    cases p x <;> rfl
end Go.Fw
