/-
  RateBuys: which purchase is better, as the code says it.
-/
import Derived.Test.YtohbkbimgfkblaaM
import Derived.Test.YtohbkbimgfkblaaBuysLib
import Derived.Test.YtohbkbimgfkblaaLibB
namespace Go.Fw
def cmpN (a b : Int) : Int := if a < b then -1 else if b < a then 1 else 0
theorem cmpN_eq (a b : Int) : cmp_Compare_int a b = some (cmpN a b) := by
  unfold cmp_Compare_int cmp_isNaN_int cmpN
  by_cases h : a < b
  · simp [h]
  · by_cases h2 : b < a <;> simp [h, h2]
def cmpL (x y : List Int) : Int := if ltL x y = true then -1 else if ltL y x = true then 1 else 0
theorem cmpL_cons (a b : Int) (x y : List Int) : cmpL (a :: x) (b :: y) = if cmpN a b ≠ 0 then cmpN a b else cmpL x y := by
  unfold cmpL cmpN
  rw [ltL, ltL]
  by_cases h : a < b
  · simp [h]
  · by_cases h2 : b < a
    · have : ¬ a = b := by omega
      simp [h, h2, this]
    · have : a = b := by omega
      simp [this]
theorem compare_from (x y : List Int) : ∀ (k i : Nat), i + k = x.length → ∃ c : Ctl Unit Int, rangeN (S := Unit) (X := Ctl (Unit) (Int)) (fun ik1 _ =>
    (idx x (ik1 : Int)).bind (fun x1 =>
    (if (decide (((y.length : Nat) : Int) ≤ (ik1 : Int))) = true then
      some (Step.done (Ctl.ret 1))
    else
      (idx y (ik1 : Int)).bind (fun x2 =>
      (cmp_Compare_int x1 x2).bind (fun t1 =>
      (if (t1 != 0) = true then
        some (Step.done (Ctl.ret t1))
      else
        some (Step.cont ()))))))) (fun _ => Ctl.next ()) k (i : Int) () = some c ∧ (match c with | .next _ => (if x.length < y.length then -1 else 0) | .ret r => r | .exit _ _ => 0) = cmpL (x.drop i) (y.drop i) ∧ (∀ j s, c ≠ .exit j s)
  | 0, i, hk => by
    refine ⟨.next (), rfl, ?_, fun j s e => by cases e⟩
    rw [List.drop_of_length_le (show x.length ≤ i by omega)]
    show (if _ then (-1 : Int) else 0) = _
    unfold cmpL
    by_cases h : x.length < y.length
    · rw [if_pos h, List.drop_eq_getElem_cons (show i < y.length by omega)]
      rfl
    · rw [if_neg h, List.drop_of_length_le (show y.length ≤ i by omega)]
      rfl
  | k + 1, i, hk => by
    have hx : i < x.length := by omega
    have e1 : x[i]? = some x[i] := List.getElem?_eq_getElem hx
    have d1 : x.drop i = x[i] :: x.drop (i + 1) := List.drop_eq_getElem_cons hx
    by_cases hy : y.length ≤ i
    · refine ⟨.ret 1, ?_, ?_, fun j s e => by cases e⟩
      · rw [rangeN, idx_at e1, Option.bind_some, if_pos (decide_eq_true (by omega))]; rfl
      · rw [List.drop_of_length_le hy, d1]
        rfl
    · have hy' : i < y.length := by omega
      have e2 : y[i]? = some y[i] := List.getElem?_eq_getElem hy'
      have d2 : y.drop i = y[i] :: y.drop (i + 1) := List.drop_eq_getElem_cons hy'
      rw [d1, d2, cmpL_cons]
      by_cases hne : cmpN x[i] y[i] = 0
      · obtain ⟨c, h1, h2, h3⟩ := compare_from x y k (i + 1) (by omega)
        refine ⟨c, ?_, ?_, h3⟩
        · rw [rangeN, idx_at e1, Option.bind_some, if_neg (by rw [decide_eq_true_eq]; omega), idx_at e2, Option.bind_some, cmpN_eq, Option.bind_some, hne, if_neg (by decide)]
          exact h1
        · rw [h2, if_neg (by simpa using hne)]
      · refine ⟨.ret (cmpN x[i] y[i]), ?_, ?_, fun j s e => by cases e⟩
        · rw [rangeN, idx_at e1, Option.bind_some, if_neg (by rw [decide_eq_true_eq]; omega), idx_at e2, Option.bind_some, cmpN_eq, Option.bind_some, if_pos (by simpa using hne)]
          rfl
        · rw [if_pos hne]
theorem compareL_eq (x y : List Int) : slices_Compare_int x y = some (cmpL x y) := by
  unfold slices_Compare_int
  rw [Int.toNat_natCast]
  obtain ⟨c, h1, h2, h3⟩ := compare_from x y x.length 0 (by omega)
  refine (congrArg (Option.bind · _) h1).trans ?_
  cases c with
  | next s =>
    dsimp only at h2
    dsimp only [Option.bind_some]
    rw [List.drop_zero, List.drop_zero] at h2
    rw [← h2]
    by_cases h : x.length < y.length
    · rw [if_pos (decide_eq_true (by omega)), if_pos h]
    · rw [if_neg (by rw [decide_eq_true_eq]; omega), if_neg h]
  | ret r => exact congrArg some h2
  | exit j s => exact absurd rfl (h3 j s)
theorem Or_three (p q r : Int) : cmp_Or_int [p, q, r] = some (if p ≠ 0 then p else if q ≠ 0 then q else r) := by
  unfold cmp_Or_int
  simp only [rangeL]
  by_cases h : p = 0
  · by_cases h2 : q = 0
    · by_cases h3 : r = 0 <;> simp [h, h2, h3]
    · simp [h, h2]
  · simp [h]
theorem better_eq (p q : GPurchase) : rate_purchase_better p q = some (betF ⟨p.list, p.sum⟩ ⟨q.list, q.sum⟩) := by
  unfold rate_purchase_better
  rw [cmpN_eq, Option.bind_some, cmpN_eq, Option.bind_some, compareL_eq, Option.bind_some, Or_three, Option.bind_some]
  congr 1
  unfold betF cmpN
  dsimp only
  by_cases h1 : q.list.length < p.list.length
  · simp [h1]
  · by_cases h2 : p.list.length < q.list.length
    · have : ¬ q.list.length = p.list.length := by omega
      simp [h1, h2, this]
    · have h3 : q.list.length = p.list.length := by omega
      by_cases h4 : p.sum < q.sum
      · simp [h3, h4]
      · by_cases h5 : q.sum < p.sum
        · have : ¬ p.sum = q.sum := by omega
          simp [h3, h4, h5, this]
        · have h6 : p.sum = q.sum := by omega
          simp only [h3, h6, Int.lt_irrefl, if_false, ne_eq, not_true_eq_false, decide_false, decide_true, Bool.false_or, Bool.true_and]
          unfold cmpL
          cases ltL p.list q.list with
          | true => simp
          | false => cases ltL q.list p.list <;> simp
theorem updF_self (p : Pu) : updF p p = p := by unfold updF; split <;> rfl
theorem containsT_eq (l : List GTrial) (f : GTrial → Option Bool) (p : GTrial → Bool) (h : ∀ x ∈ l, f x = some (p x)) : slices_ContainsFunc_Trial l f = some (l.any p) := by
  unfold slices_ContainsFunc_Trial slices_IndexFunc_Trial
  rw [index_loop p]
  · rw [← findIdx_any]
    cases l.findIdx? p with
    | none => rfl
    | some i => simp
  · intro i x hx
    simp only [idx_at hx, Option.bind_some, h x (List.mem_of_getElem? hx)]
    cases p x <;> rfl
theorem fits_out {a0 : List GTrial} {a1 : List Int} {a2 : Int} (h : fitsF a0 a1 a2 = true) :
    a0.length ≤ 16 ∧ a1.length = a0.length ∧ (∀ p ∈ a1, 0 ≤ p ∧ p ≤ 1000000) ∧ (∀ t ∈ a0, 0 ≤ t.Number ∧ t.Number ≤ 1000000000000) ∧ (0 ≤ a2 ∧ a2 ≤ 1000000000) := by
  unfold fitsF at h
  simp only [Bool.and_eq_true, decide_eq_true_eq, List.all_eq_true] at h
  obtain ⟨⟨⟨⟨⟨⟨_, h2⟩, h3⟩, h4⟩, h5⟩, h6⟩, h7⟩ := h
  exact ⟨h2, h3, h4, h5, h6, h7⟩
theorem head_eq (a0 : List GTrial) (a1 : List Int) (a2 : Int) : rate_Bought_head a0 a1 a2 = some (([] : List Int), if fitsF a0 a1 a2 = true then 0 else 7) := by
  have h1 : slices_ContainsFunc_int a1 (fun x0 => rate_Bought_c1 x0) = some (a1.any fun p => !inB 0 1000000 p) := containsFunc_eq _ _ _ fun _ _ => rfl
  have h2 : slices_ContainsFunc_Trial a0 (fun x0 => rate_Bought_c2 x0) = some (a0.any fun t => !inB 0 1000000000000 t.Number) := containsT_eq _ _ _ fun _ _ => rfl
  have h3 : (a1.any fun p => !inB 0 1000000 p) = !a1.all fun p => decide (0 ≤ p) && decide (p ≤ 1000000) := by rw [← not_any, Bool.not_not]; rfl
  have h4 : (a0.any fun t => !inB 0 1000000000000 t.Number) = !a0.all fun t => decide (0 ≤ t.Number) && decide (t.Number ≤ 1000000000000) := by rw [← not_any, Bool.not_not]; rfl
  unfold rate_Bought_head fitsF
  rw [h1, h2, h3, h4]
  simp only [within_eq, Option.bind_some, inB]
  generalize (a1.all fun p => decide (0 ≤ p) && decide (p ≤ 1000000)) = b1
  generalize (a0.all fun t => decide (0 ≤ t.Number) && decide (t.Number ≤ 1000000000000)) = b2
  have e1 : decide (1 ≤ ((a0.length : Nat) : Int)) = decide (1 ≤ a0.length) := by congr 1; apply propext; omega
  have e2 : decide (((a0.length : Nat) : Int) ≤ 16) = decide (a0.length ≤ 16) := by congr 1; apply propext; omega
  have e3 : ((((a1.length : Nat) : Int)) != (((a0.length : Nat) : Int))) = !decide (a1.length = a0.length) := by
    by_cases h : a1.length = a0.length
    · simp [h]
    · simp [h]; omega
  rw [e1, e2, e3]
  cases decide (1 ≤ a0.length) <;> cases decide (a0.length ≤ 16) <;> cases decide (a1.length = a0.length) <;> cases b1 <;> cases b2 <;> cases decide (0 ≤ a2) <;> cases decide (a2 ≤ 1000000000) <;> rfl
end Go.Fw
