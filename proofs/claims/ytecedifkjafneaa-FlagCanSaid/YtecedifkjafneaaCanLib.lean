/-
  How many numbers can be hoisted, plain: both counts are the same. No condition.
-/
import Derived.Test.YtecedifkjafneaaHoistLib3
namespace Go.Fw

/-- The digits of a number, as many as are asked. -/
def dig : Nat → Nat → List Int
  | 0, _ => []
  | n + 1, k => ((k / 10 ^ n : Nat) : Int) :: dig n (k % 10 ^ n)
theorem dig_len : ∀ n k, (dig n k).length = n
  | 0, _ => rfl
  | n + 1, k => by rw [dig, List.length_cons, dig_len]
theorem pow_pos10 (n : Nat) : 0 < 10 ^ n := Nat.pow_pos (by decide)
theorem dig_ok : ∀ n k, k < 10 ^ n → ∀ x ∈ dig n k, 0 ≤ x ∧ x ≤ 9
  | 0, _, _, x, hx => by simp [dig] at hx
  | n + 1, k, hk, x, hx => by
    rw [dig] at hx
    rcases List.mem_cons.1 hx with rfl | hx
    · have : k / 10 ^ n < 10 := by rw [Nat.div_lt_iff_lt_mul (pow_pos10 n)]; rw [Nat.pow_succ] at hk; omega
      generalize k / 10 ^ n = q at this ⊢
      omega
    · exact dig_ok n _ (Nat.mod_lt _ (pow_pos10 n)) x hx
theorem dig_zero : ∀ n, dig n 0 = List.replicate n 0
  | 0 => rfl
  | n + 1 => by rw [dig, Nat.zero_div, Nat.zero_mod, dig_zero n]; rfl
theorem dig_last : ∀ n, dig n (10 ^ n - 1) = List.replicate n 9
  | 0 => rfl
  | n + 1 => by
    have hp := pow_pos10 n
    have e : 10 ^ (n + 1) - 1 = 9 * 10 ^ n + (10 ^ n - 1) := by rw [Nat.pow_succ]; omega
    rw [dig, e, Nat.mul_comm 9, Nat.mul_add_div hp, Nat.div_eq_of_lt (by omega), Nat.mul_add_mod, Nat.mod_eq_of_lt (by omega), dig_last n]; rfl
/-- The next number. -/
theorem dig_next : ∀ n k, k + 1 < 10 ^ n → ∃ (p : List Int) (x : Int) (m : Nat), dig n k = p ++ x :: List.replicate m 9 ∧ x ≠ 9 ∧ dig n (k + 1) = p ++ (x + 1) :: List.replicate m 0 ∧ p.length + 1 + m = n
  | 0, k, h => by simp at h
  | n + 1, k, h => by
    have hp := pow_pos10 n
    have hdm := Nat.div_add_mod k (10 ^ n)
    have hml := Nat.mod_lt k hp
    by_cases hr : k % 10 ^ n + 1 < 10 ^ n
    · obtain ⟨p, x, m, h1, h2, h3, h4⟩ := dig_next n (k % 10 ^ n) hr
      have e1 : (k + 1) / 10 ^ n = k / 10 ^ n := by
        rw [show k + 1 = 10 ^ n * (k / 10 ^ n) + (k % 10 ^ n + 1) by omega, Nat.mul_add_div hp, Nat.div_eq_of_lt hr, Nat.add_zero]
      have e2 : (k + 1) % 10 ^ n = k % 10 ^ n + 1 := by
        rw [show k + 1 = 10 ^ n * (k / 10 ^ n) + (k % 10 ^ n + 1) by omega, Nat.mul_add_mod, Nat.mod_eq_of_lt hr]
      exact ⟨((k / 10 ^ n : Nat) : Int) :: p, x, m, by rw [dig, h1]; rfl, h2, by rw [dig, e1, e2, h3]; rfl, by simp; omega⟩
    · have hr' : k % 10 ^ n = 10 ^ n - 1 := by omega
      have e1 : (k + 1) / 10 ^ n = k / 10 ^ n + 1 := by
        rw [show k + 1 = 10 ^ n * (k / 10 ^ n + 1) by rw [Nat.mul_add]; omega, Nat.mul_div_cancel_left _ hp]
      have e2 : (k + 1) % 10 ^ n = 0 := by
        rw [show k + 1 = 10 ^ n * (k / 10 ^ n + 1) by rw [Nat.mul_add]; omega, Nat.mul_mod_right]
      have h9 : k / 10 ^ n < 9 := by
        have : (k + 1) / 10 ^ n < 10 := by rw [Nat.div_lt_iff_lt_mul hp]; rw [Nat.pow_succ] at h; omega
        omega
      refine ⟨[], ((k / 10 ^ n : Nat) : Int), n, ?_, by omega, ?_, by simp; omega⟩
      · rw [dig, hr', dig_last]; rfl
      · rw [dig, e1, e2, dig_zero]; rfl
/-- The value of digits. -/
def valN (l : List Int) : Nat := l.foldl (fun a d => 10 * a + d.toNat) 0
theorem fold_from (l : List Int) (a : Nat) : l.foldl (fun a d => 10 * a + d.toNat) a = a * 10 ^ l.length + valN l := by
  unfold valN
  induction l generalizing a with
  | nil => simp
  | cons d l ih =>
    rw [List.foldl_cons, ih, List.foldl_cons, ih (10 * 0 + d.toNat), List.length_cons, Nat.pow_succ, Nat.mul_zero, Nat.zero_add, Nat.add_mul, Nat.add_assoc]
    congr 1
    rw [Nat.mul_comm 10 a, Nat.mul_assoc, Nat.mul_comm 10]
theorem valN_lt (l : List Int) (h : ∀ x ∈ l, 0 ≤ x ∧ x ≤ 9) : valN l < 10 ^ l.length := by
  induction l with
  | nil => simp [valN]
  | cons d l ih =>
    have hd := h d (by simp)
    have hl := ih fun x hx => h x (by simp [hx])
    have := fold_from l (10 * 0 + d.toNat)
    unfold valN at *
    rw [List.foldl_cons, this, List.length_cons, Nat.pow_succ]
    have h9 : (10 * 0 + d.toNat) * 10 ^ l.length ≤ 9 * 10 ^ l.length := Nat.mul_le_mul_right _ (by omega)
    omega
theorem dig_valN (l : List Int) (h : ∀ x ∈ l, 0 ≤ x ∧ x ≤ 9) : dig l.length (valN l) = l := by
  induction l with
  | nil => rfl
  | cons d l ih =>
    have hd := h d (by simp)
    have hl' : ∀ x ∈ l, 0 ≤ x ∧ x ≤ 9 := fun x hx => h x (by simp [hx])
    have hlt := valN_lt l hl'
    have e : valN (d :: l) = d.toNat * 10 ^ l.length + valN l := by
      have := fold_from l (10 * 0 + d.toNat)
      unfold valN at *
      rw [List.foldl_cons, this, Nat.mul_zero, Nat.zero_add]
    rw [List.length_cons, dig, e, Nat.mul_comm, Nat.mul_add_div (pow_pos10 _), Nat.div_eq_of_lt hlt, Nat.mul_add_mod, Nat.mod_eq_of_lt hlt, ih hl', Nat.add_zero]
    congr 1
    omega
theorem valN_dig (n k : Nat) (hk : k < 10 ^ n) : valN (dig n k) = k := by
  induction n generalizing k with
  | zero => simp at hk; subst hk; rfl
  | succ n ih =>
    have hp := pow_pos10 n
    have := fold_from (dig n (k % 10 ^ n)) (10 * 0 + (((k / 10 ^ n : Nat) : Int)).toNat)
    rw [dig_len, ih _ (Nat.mod_lt _ hp)] at this
    rw [dig]
    show ((((k / 10 ^ n : Nat) : Int) :: dig n (k % 10 ^ n)).foldl (fun a d => 10 * a + d.toNat) 0) = k
    rw [List.foldl_cons, this, Nat.mul_zero, Nat.zero_add, Int.toNat_natCast, Nat.mul_comm]
    exact Nat.div_add_mod k (10 ^ n)

/-! The count. -/
def canK (n fl : Nat) (j : Nat) : Bool := !(RH (dig n j) fl).isEmpty
def cnt (n fl k : Nat) : Nat := (List.range k).countP (canK n fl)
theorem cnt_succ (n fl k : Nat) : cnt n fl (k + 1) = cnt n fl k + (if canK n fl k = true then 1 else 0) := by
  unfold cnt
  rw [List.range_succ, List.countP_append, List.countP_singleton]
theorem cnt_le (n fl k : Nat) : cnt n fl k ≤ k := by
  have := List.countP_le_length (p := canK n fl) (l := List.range k)
  rwa [List.length_range] at this
def canR (n : Int) (a : Int) : Int × Int := if inB 1 4 n = true ∧ inB 0 8191 a = true then ((cnt n.toNat a.toNat (10 ^ n.toNat) : Nat), 0) else (0, 7)
theorem pow4 (n : Nat) (hn : n ≤ 4) : 10 ^ n ≤ 10000 := Nat.le_trans (Nat.pow_le_pow_right (by decide) hn) (by decide)
section
variable {B : Int × List Int → Option (Step (Int × List Int) (Int × List Int))}
theorem nines1 (hB : ∀ s, B s = ((if (decide (0 ≤ s.1)) = true then (idx s.2 s.1).bind (fun x1 => some (x1 == 9)) else some false) : Option Bool).bind (fun b2 => (if b2 = true then (idx s.2 s.1).bind (fun _ => (subI s.1 1).bind (fun t7 => some (Step.cont (t7, (s.2.set (Int.toNat s.1) 0))))) else some (Step.done (s.1, s.2)))))
    (p : List Int) (x : Int) (hx : x ≠ 9) (hp : p.length ≤ 100) : ∀ (m : Nat) (c : List Int), m ≤ 100 → loopR B (((p.length + m : Nat) : Int), p ++ x :: (List.replicate m 9 ++ c)) = some ((p.length : Int), p ++ x :: (List.replicate m 0 ++ c))
  | 0, c, _ => by
    refine loopR_done ?_
    rw [hB]
    have : idx (p ++ x :: (List.replicate 0 9 ++ c)) (((p.length + 0 : Nat)) : Int) = some x := by rw [idx_nat, Nat.add_zero, List.getElem?_append_right (Nat.le_refl _), Nat.sub_self]; rfl
    simp only [this, decide_eq_true (Int.natCast_nonneg _), if_true, Option.bind_some, beq_eq_false_iff_ne.2 hx, Bool.false_eq_true, if_false]
    rfl
  | m + 1, c, hm => by
    have hget : idx (p ++ x :: (List.replicate (m + 1) 9 ++ c)) (((p.length + (m + 1) : Nat)) : Int) = some 9 := by
      rw [idx_nat, List.getElem?_append_right (by omega), Nat.add_sub_cancel_left, List.getElem?_cons_succ, List.getElem?_append_left (by simp), List.getElem?_replicate, if_pos (by omega)]
    have hset : (p ++ x :: (List.replicate (m + 1) 9 ++ c)).set (p.length + (m + 1)) 0 = p ++ x :: (List.replicate m 9 ++ 0 :: c) := by
      rw [List.set_append_right _ _ (by omega), Nat.add_sub_cancel_left, List.set_cons_succ, List.replicate_succ', List.append_assoc, List.set_append_right _ _ (by simp), List.length_replicate, Nat.sub_self]; rfl
    rw [loopR_cont (((p.length + m : Nat) : Int), p ++ x :: (List.replicate m 9 ++ 0 :: c))]
    · rw [nines1 hB p x hx hp m (0 :: c) (by omega), List.replicate_succ', List.append_assoc]; rfl
    · rw [hB]
      simp only [hget, decide_eq_true (Int.natCast_nonneg _), if_true, Option.bind_some, beq_self_eq_true]
      rw [subI_ok (by omega), Option.bind_some, Int.toNat_natCast, hset]
      congr 3
      omega
theorem nines0 (hB : ∀ s, B s = ((if (decide (0 ≤ s.1)) = true then (idx s.2 s.1).bind (fun x1 => some (x1 == 9)) else some false) : Option Bool).bind (fun b2 => (if b2 = true then (idx s.2 s.1).bind (fun _ => (subI s.1 1).bind (fun t7 => some (Step.cont (t7, (s.2.set (Int.toNat s.1) 0))))) else some (Step.done (s.1, s.2))))) :
    ∀ (m : Nat) (c : List Int), m ≤ 100 → loopR B ((m : Int) - 1, List.replicate m 9 ++ c) = some (-1, List.replicate m 0 ++ c)
  | 0, c, _ => by
    refine loopR_done ?_
    rw [hB]; rfl
  | m + 1, c, hm => by
    have e : ((m + 1 : Nat) : Int) - 1 = (m : Int) := by omega
    have hget : idx (List.replicate (m + 1) 9 ++ c) (m : Int) = some 9 := by
      rw [idx_nat, List.getElem?_append_left (by simp), List.getElem?_replicate, if_pos (by omega)]
    have hset : (List.replicate (m + 1) (9 : Int) ++ c).set m 0 = List.replicate m 9 ++ 0 :: c := by
      rw [List.replicate_succ', List.append_assoc, List.set_append_right _ _ (by simp), List.length_replicate, Nat.sub_self]; rfl
    rw [e, loopR_cont ((m : Int) - 1, List.replicate m 9 ++ 0 :: c)]
    · rw [nines0 hB m (0 :: c) (by omega), List.replicate_succ', List.append_assoc]; rfl
    · rw [hB]
      simp only [hget, decide_eq_true (Int.natCast_nonneg _), if_true, Option.bind_some, beq_self_eq_true]
      rw [subI_ok (by omega), Option.bind_some, Int.toNat_natCast, hset]
end
theorem Can_eq (n a : Int) : flag_Can n a = some (canR n a) := by
  unfold flag_Can canR
  rw [within_eq, Option.bind_some]
  cases h1 : inB 1 4 n with
  | false => simp
  | true =>
    simp only [Bool.not_true, Bool.false_eq_true, if_false, isSet_eq, Option.bind_some]
    cases h2 : inB 0 8191 a with
    | false => simp
    | true =>
      obtain ⟨fl, rfl, hfl⟩ := set_nat h2
      have hn : 1 ≤ n ∧ n ≤ 4 := by unfold inB at h1; simpa using h1
      obtain ⟨N, rfl⟩ : ∃ N : Nat, n = (N : Int) := ⟨n.toNat, by omega⟩
      have hp4 := pow4 N (by omega)
      have hp0 := pow_pos10 N
      have hmk : makI (0 : Int) (N : Int) = some (dig N 0) := by
        unfold makI
        rw [if_pos (by omega), dig_zero, Int.toNat_natCast]
      simp only [Bool.not_true, Bool.false_eq_true, if_false, and_self, if_true, hmk, Option.bind_some, Int.toNat_natCast]
      have hloop : ∀ (j k : Nat), k + j + 1 = 10 ^ N → loopR (S := Int × (List Int)) (X := Ctl (Unit) (Int × Int)) (fun (s : Int × (List Int)) => match s with
        | (z3, z4) =>
          (((flag_can z4 (fl : Int)).bind (fun t4 => (((if t4 = true then (addI z3 1).bind (fun t5 => some t5) else some z3)) : Option (Int)).bind (fun s3 =>
            (subI (N : Int) 1).bind (fun t6 =>
            ((loopR (S := Int × (List Int)) (X := Int × (List Int)) (fun (s : Int × (List Int)) => match s with
                | (z9, z10) => ((if (decide (0 ≤ z9)) = true then (idx z10 z9).bind (fun x1 => some (x1 == 9)) else some false) : Option Bool).bind (fun b2 =>
                  (if b2 = true then (idx z10 z9).bind (fun _ => (subI z9 1).bind (fun t7 => some (Step.cont (t7, (z10.set (Int.toNat z9) 0))))) else some (Step.done (z9, z10))))) (t6, z4)) : Option (Int × (List Int))).bind (fun o => match o with
              | (s4, s5) => (if (decide (s4 < 0)) = true then some (Ctl.ret (s3, 0)) else (idx s5 s4).bind (fun x3 => (addI x3 1).bind (fun t8 => (idx s5 s4).bind (fun _ => some (Ctl.next (s3, (s5.set (Int.toNat s4) t8)))))))))))) : Option (Ctl (Int × (List Int)) (Int × Int))).bind (fun o => match o with
            | .next (s1, s2) => some (Step.cont (s1, s2))
            | .ret r => some (Step.done (Ctl.ret r))
            | .exit _ _ => none)) (((cnt N fl k : Nat) : Int), dig N k) = some (Ctl.ret (((cnt N fl (10 ^ N) : Nat) : Int), 0)) := by
        intro j
        induction j with
        | zero =>
          intro k hk
          have hk' : k = 10 ^ N - 1 := by omega
          have hle := cnt_le N fl k
          refine loopR_done ?_
          simp only [can_eq (dig N k) fl hfl (by rw [dig_len]; omega), Option.bind_some]
          have hc : (((if (!(RH (dig N k) fl).isEmpty) = true then (addI ((cnt N fl k : Nat) : Int) 1).bind (fun t5 => some t5) else some ((cnt N fl k : Nat) : Int))) : Option Int) = some ((cnt N fl (k + 1) : Nat) : Int) := by
            rw [cnt_succ]
            show (if canK N fl k = true then _ else _) = _
            split
            · rw [addI_ok (by omega)]; simp
            · simp
          rw [hc, Option.bind_some, subI_ok (by omega), Option.bind_some]
          have hz := nines0 (B := fun (s : Int × (List Int)) => match s with
                | (z9, z10) => ((if (decide (0 ≤ z9)) = true then (idx z10 z9).bind (fun x1 => some (x1 == 9)) else some false) : Option Bool).bind (fun b2 =>
                  (if b2 = true then (idx z10 z9).bind (fun _ => (subI z9 1).bind (fun t7 => some (Step.cont (t7, (z10.set (Int.toNat z9) 0))))) else some (Step.done (z9, z10))))) (fun _ => rfl) N [] (by omega)
          rw [List.append_nil, List.append_nil] at hz
          rw [hk', dig_last, hz, show 10 ^ N - 1 + 1 = 10 ^ N by omega]
          rfl
        | succ j ih =>
          intro k hk
          have hle := cnt_le N fl k
          obtain ⟨p, x, m, d1, d2, d3, d4⟩ := dig_next N k (by omega)
          have hxo := dig_ok N k (by omega) x (by rw [d1]; simp)
          rw [loopR_cont (((cnt N fl (k + 1) : Nat) : Int), dig N (k + 1))]
          · exact ih (k + 1) (by omega)
          · simp only [can_eq (dig N k) fl hfl (by rw [dig_len]; omega), Option.bind_some]
            have hc : (((if (!(RH (dig N k) fl).isEmpty) = true then (addI ((cnt N fl k : Nat) : Int) 1).bind (fun t5 => some t5) else some ((cnt N fl k : Nat) : Int))) : Option Int) = some ((cnt N fl (k + 1) : Nat) : Int) := by
              rw [cnt_succ]
              show (if canK N fl k = true then _ else _) = _
              split
              · rw [addI_ok (by omega)]; simp
              · simp
            rw [hc, Option.bind_some, subI_ok (by omega), Option.bind_some]
            have hz := nines1 (B := fun (s : Int × (List Int)) => match s with
                | (z9, z10) => ((if (decide (0 ≤ z9)) = true then (idx z10 z9).bind (fun x1 => some (x1 == 9)) else some false) : Option Bool).bind (fun b2 =>
                  (if b2 = true then (idx z10 z9).bind (fun _ => (subI z9 1).bind (fun t7 => some (Step.cont (t7, (z10.set (Int.toNat z9) 0))))) else some (Step.done (z9, z10))))) (fun _ => rfl) p x d2 (by omega) m [] (by omega)
            rw [List.append_nil, List.append_nil] at hz
            rw [show (N : Int) - 1 = ((p.length + m : Nat) : Int) by omega, d1, hz, d3]
            have hget : idx (p ++ x :: List.replicate m 0) (p.length : Int) = some x := by rw [idx_nat, List.getElem?_append_right (Nat.le_refl _), Nat.sub_self]; rfl
            have hset : (p ++ x :: List.replicate m 0).set p.length (x + 1) = p ++ (x + 1) :: List.replicate m 0 := by rw [List.set_append_right _ _ (Nat.le_refl _), Nat.sub_self]; rfl
            have hneg : decide ((p.length : Int) < 0) = false := decide_eq_false (by omega)
            simp only [Option.bind_some, hneg, Bool.false_eq_true, if_false, hget]
            rw [addI_ok (by omega)]
            simp only [Option.bind_some, Int.toNat_natCast, hset]
      have h := hloop (10 ^ N - 1) 0 (by omega)
      rw [show ((cnt N fl 0 : Nat) : Int) = 0 from rfl] at h
      erw [h]
      rfl
theorem cnt_all (N : Nat) (hN : 1 ≤ N ∧ N ≤ 4) : cnt N 8191 (10 ^ N) = 10 ^ N := by
  unfold cnt
  have : (List.range (10 ^ N)).countP (canK N 8191) = (List.range (10 ^ N)).length := by
    rw [List.countP_eq_length]
    intro k hk
    have hk := List.mem_range.1 hk
    have hv : vD (dig N k) = true := (vD_iff _).2 ⟨by rw [dig_len]; exact hN, dig_ok N k hk⟩
    have hm := hoistP_mem (dig N k) hv
    unfold canK
    cases hR : RH (dig N k) 8191 with
    | nil => rw [hR] at hm; simp at hm
    | cons x l => rfl
  rw [this, List.length_range]
theorem cnt_more (N fl m k : Nat) : cnt N fl k ≤ cnt N (fl ||| m) k := by
  unfold cnt
  refine List.countP_mono_left fun j _ h => ?_
  unfold canK at h ⊢
  have := RH_more (dig N j) fl m (by simpa using h)
  rw [this]; rfl
end Go.Fw
