/-
  The digits of a number, plain. No condition.
-/
import Derived.Test.YtecedifkjafneaaDoorLib
namespace Go.Fw
theorem digsOf_step (u : Nat) : digsOf u = if u < 10 then [(u : Int)] else digsOf (u / 10) ++ [((u % 10 : Nat) : Int)] := by
  unfold digsOf
  rw [Lib.decDigits]
  split
  · rename_i h
    simp only [List.map_cons, List.map_nil]
    rw [UInt8.toNat_ofNat']
    congr 1; omega
  · rename_i h
    simp only [List.map_append, List.map_cons, List.map_nil]
    rw [UInt8.toNat_ofNat']
    congr 2; omega
theorem digsOf_len (u : Nat) (h : u ≤ 9999) : 1 ≤ (digsOf u).length ∧ (digsOf u).length ≤ 4 := by
  have k1 : ∀ u, u < 10 → (digsOf u).length = 1 := fun u h => by rw [digsOf_step, if_pos h]; rfl
  have step : ∀ u, ¬ u < 10 → (digsOf u).length = (digsOf (u / 10)).length + 1 := fun u h => by rw [digsOf_step, if_neg h]; simp
  by_cases h1 : u < 10
  · rw [k1 u h1]; omega
  · rw [step u h1]
    by_cases h2 : u / 10 < 10
    · rw [k1 _ h2]; omega
    · rw [step _ h2]
      by_cases h3 : u / 10 / 10 < 10
      · rw [k1 _ h3]; omega
      · rw [step _ h3, k1 (u / 10 / 10 / 10) (by omega)]; omega
theorem digsOf_dig (u : Nat) : ∀ d ∈ digsOf u, 0 ≤ d ∧ d ≤ 9 := by
  intro d hd
  unfold digsOf at hd
  obtain ⟨b, hb, rfl⟩ := List.mem_map.1 hd
  have := dec_bytes u b hb
  omega
def numF (l : List Int) : Int := l.foldl (fun z d => 10 * z + d) 0
theorem numF_digs (u : Nat) : numF (digsOf u) = (u : Int) := by
  induction u using Nat.strongRecOn with
  | ind u ih =>
    rw [digsOf_step]
    by_cases h : u < 10
    · rw [if_pos h]; simp [numF]
    · rw [if_neg h]
      have := ih (u / 10) (by omega)
      unfold numF at this ⊢
      rw [List.foldl_append, this]
      simp only [List.foldl_cons, List.foldl_nil]
      omega
theorem num_loop : ∀ (l : List Int) (i z : Int), (∀ d ∈ l, 0 ≤ d ∧ d ≤ 9) → l.length ≤ 4 → (0 ≤ z ∧ z ≤ 99999) →
    rangeL (α := Int) (S := Int) (X := Int) (fun _ yk1 z2 => (mulI 10 z2).bind (fun t1 => (addI t1 yk1).bind (fun t2 => some (Step.cont t2)))) (fun z2 => z2) l i z = some (l.foldl (fun z d => 10 * z + d) z) := by
  have key : ∀ (l : List Int) (i z B : Int), (∀ d ∈ l, 0 ≤ d ∧ d ≤ 9) → (0 ≤ z ∧ (z + 1) * 10 ^ l.length ≤ 1000000000000) → rangeL (α := Int) (S := Int) (X := Int) (fun _ yk1 z2 => (mulI 10 z2).bind (fun t1 => (addI t1 yk1).bind (fun t2 => some (Step.cont t2)))) (fun z2 => z2) l i z = some (l.foldl (fun z d => 10 * z + d) z) := by
    intro l
    induction l with
    | nil => intro i z B _ _; rfl
    | cons d l ih =>
      intro i z B h hz
      have hd := h d (by simp)
      have hp : (1 : Int) ≤ 10 ^ l.length := by
        have := Nat.one_le_pow l.length 10 (by omega)
        exact_mod_cast this
      rw [List.length_cons, Int.pow_succ] at hz
      have hz2 : (z + 1) * 10 * 10 ^ l.length ≤ 1000000000000 := by
        have : (z + 1) * (10 ^ l.length * 10) = (z + 1) * 10 * 10 ^ l.length := by rw [Int.mul_comm (10 ^ l.length) 10, Int.mul_assoc]
        omega
      have hb : (z + 1) * 10 * 1 ≤ (z + 1) * 10 * 10 ^ l.length := Int.mul_le_mul_of_nonneg_left hp (by omega)
      rw [rangeL, mulI_ok (by omega), Option.bind_some, addI_ok (by omega), List.foldl_cons]
      simp only [Option.bind_some]
      refine ih (i + 1) (10 * z + d) B (fun e he => h e (by simp [he])) ⟨by omega, ?_⟩
      have : (10 * z + d + 1) * 10 ^ l.length ≤ (z + 1) * 10 * 10 ^ l.length := Int.mul_le_mul_of_nonneg_right (by omega) (by omega)
      omega
  intro l i z h hl hz
  refine key l i z 0 h ⟨hz.1, ?_⟩
  have h1 : (10 : Int) ^ l.length ≤ 10 ^ 4 := by
    have := Nat.pow_le_pow_right (n := 10) (by omega) hl
    exact_mod_cast this
  have h2 : (z + 1) * 10 ^ l.length ≤ 100000 * 10 ^ 4 := Int.mul_le_mul (by omega) h1 (by have : (0 : Int) ≤ 10 ^ l.length := Int.pow_nonneg (by omega); exact this) (by omega)
  omega
def isN (n : Int) : Bool := inB 0 9999 n
theorem isNumber_eq (n : Int) : flag_isNumber n = some (isN n) := rfl
theorem digitsOf_eq {n : Int} (h : isN n = true) : flag_digitsOf n = some (digsOf n.toNat) := by
  unfold isN inB at h
  simp only [Bool.and_eq_true, decide_eq_true_eq] at h
  unfold flag_digitsOf
  rw [if_pos (by omega)]
theorem rdigitsOf_eq {n : Int} (h : isN n = true) : noongunref07_digitsOf n = some (digsOf n.toNat) := by
  unfold isN inB at h
  simp only [Bool.and_eq_true, decide_eq_true_eq] at h
  have hl := digsOf_len n.toNat (by omega)
  unfold digsOf at hl
  rw [List.length_map] at hl
  unfold noongunref07_digitsOf strconv_Itoa
  rw [if_pos (by omega), Option.bind_some]
  have hb : bytesI ⟨(Lib.decDigits n.toNat).toArray⟩ = some (Lib.decDigits n.toNat) := by
    unfold bytesI
    rw [if_pos (by show (Lib.decDigits n.toNat).toArray.size ≤ _; simp; omega)]
    rfl
  rw [hb, Option.bind_some]
  have key : ∀ (l : List UInt8) (i : Int) (s : List Int), (∀ b ∈ l, 48 ≤ b.toNat ∧ b.toNat ≤ 57) → s.length + l.length ≤ 1000 → rangeL (α := UInt8) (S := (List Int)) (X := (List Int)) (fun _ yk1 z2 => (cvI .u8 ((yk1.toNat : Int) - 48)).bind (fun t3 => (cvI .i64 t3).bind (fun t4 => (appI z2 ([t4] : List Int)).bind (fun t5 => some (Step.cont t5))))) (fun z2 => z2) l i s = some (s ++ l.map fun b => (b.toNat : Int) - 48) := by
    intro l
    induction l with
    | nil => intro i s _ _; simp [rangeL]
    | cons b l ih =>
      intro i s hl hs
      rw [List.length_cons] at hs
      have hb := hl b (by simp)
      have hcv : ∀ c : Nat, c < 10 → cvI .u8 (c : Int) = some (c : Int) ∧ cvI .i64 (c : Int) = some (c : Int) := by decide
      have h9 := hcv (b.toNat - 48) (by omega)
      rw [show ((b.toNat - 48 : Nat) : Int) = (b.toNat : Int) - 48 by omega] at h9
      rw [rangeL, h9.1, Option.bind_some, h9.2, Option.bind_some, appI_ok (by simp; omega)]
      simp only [Option.bind_some]
      rw [ih _ _ (fun c hc => hl c (by simp [hc])) (by simp; omega)]
      simp
  rw [key _ 0 [] (dec_bytes _) (by simp; omega)]
  rfl
theorem vD_parts {l : List Int} (h : vD l = true) : (1 ≤ l.length ∧ l.length ≤ 4) ∧ ∀ d ∈ l, 0 ≤ d ∧ d ≤ 9 := by
  unfold vD inB at h
  simp only [Bool.and_eq_true, decide_eq_true_eq, List.all_eq_true] at h
  exact ⟨by omega, h.2⟩
theorem vD_mk {l : List Int} (h1 : 1 ≤ l.length ∧ l.length ≤ 4) (h2 : ∀ d ∈ l, 0 ≤ d ∧ d ≤ 9) : vD l = true := by
  unfold vD inB
  simp only [Bool.and_eq_true, decide_eq_true_eq, List.all_eq_true]
  exact ⟨by omega, h2⟩
end Go.Fw
