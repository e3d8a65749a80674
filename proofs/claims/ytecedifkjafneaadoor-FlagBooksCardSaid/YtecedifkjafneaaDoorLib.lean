/-
  The flags, plain: what the functions and the document's answer compute, in common words. No condition.
-/
import Derived.Test.YtecedifkjafneaaDoorM
import Derived.Test.YtecedifkjafneaaDoorFwN
namespace Go.Fw
def inB (a b x : Int) : Bool := decide (a ≤ x) && decide (x ≤ b)
def vD (l : List Int) : Bool := inB 1 4 (l.length : Int) && l.all (inB 0 9)
theorem within_eq (a b c : Int) : flag_within a b c = some (inB b c a) := rfl
theorem indexFunc_eq (l : List Int) (f : Int → Option Bool) (p : Int → Bool) (h : ∀ x ∈ l, f x = some (p x)) : slices_ContainsFunc_int l f = some (l.any p) := by
  unfold slices_ContainsFunc_int slices_IndexFunc_int
  rw [index_loop p]
  · rw [← findIdx_any]
    cases l.findIdx? p with
    | none => rfl
    | some i => simp
  · intro i x hx
    simp only [idx_at hx, Option.bind_some, h x (List.mem_of_getElem? hx)]
    cases p x <;> rfl
theorem contains_eq (l : List Int) (x : Int) : slices_Contains_int l x = some (l.contains x) := by
  unfold slices_Contains_int slices_Index_int
  rw [index_loop (fun y => x == y)]
  · have : l.contains x = l.any (fun y => x == y) := by
      rw [List.contains_eq_any_beq]
    rw [this, ← findIdx_any]
    cases l.findIdx? (fun y => x == y) with
    | none => rfl
    | some i => simp
  · intro i y hy
    simp only [idx_at hy, Option.bind_some]
    cases (x == y) <;> rfl
theorem not_any {α : Type} (p : α → Bool) (l : List α) : (!l.any fun x => !p x) = l.all p := by
  induction l with
  | nil => rfl
  | cons x l ih => simp only [List.any_cons, List.all_cons, Bool.not_or, Bool.not_not, ih]
theorem listed_eq (l : List Int) (m : Int) : flag_listed l m = some (inB 1 4 (l.length : Int) && l.all (inB 0 m)) := by
  unfold flag_listed
  simp only [within_eq, Option.bind_some]
  rw [indexFunc_eq l (fun x0 => flag_listed_c1 x0 m) (fun x => !inB 0 m x) (fun x _ => by simp only [flag_listed_c1, within_eq, Option.bind_some])]
  simp only [Option.bind_some, not_any]
  cases inB 1 4 (l.length : Int) <;> simp
theorem ValidDigits_eq (l : List Int) : flag_ValidDigits l = some (vD l) := by
  unfold flag_ValidDigits
  rw [listed_eq]; rfl
theorem rValidDigits_eq (l : List Int) : noongunref07_ValidDigits l = some (vD l) := by
  unfold noongunref07_ValidDigits
  rw [rangeL_search (p := fun d => !inB 0 9 d) (y := Ctl.ret false)]
  · cases h : l.any (fun d => !inB 0 9 d) with
    | true =>
      have h2 := not_any (inB 0 9) l
      rw [h] at h2
      simp [vD, ← h2]
    | false =>
      have h2 := not_any (inB 0 9) l
      rw [h] at h2
      simp [vD, ← h2, inB]
  · intro i x s _
    have : ((decide (x < 0)) || (decide (9 < x))) = !inB 0 9 x := by
      unfold inB
      rw [Bool.eq_iff_iff]
      simp
    rw [this]
    cases inB 0 9 x <;> rfl

/-- Is the flag wrong behind those before it? -/
def badF (pre : List Int) (x : Int) : Bool := pre.contains x || decide (10 ≤ x) && decide ((pre.length : Int) ≤ x - 10)
def vH (h : List Int) : Bool := inB 1 4 (h.length : Int) && h.all (inB 0 12) && !anyPre badF [] h
theorem ValidHoist_eq (h : List Int) : flag_ValidHoist h = some (vH h) := by
  unfold flag_ValidHoist vH
  rw [listed_eq]
  simp only [Option.bind_some]
  cases hl : (inB 1 4 (h.length : Int) && h.all (inB 0 12)) with
  | false => simp
  | true =>
    simp only [Bool.not_true, Bool.false_eq_true, if_false, Bool.true_and]
    have hall : h.all (inB 0 12) = true := by simp only [Bool.and_eq_true] at hl; exact hl.2
    rw [rangeN_pre (fun pre x _ => some (if badF pre x = true then .done (Ctl.ret false) else .cont ()))]
    · rw [preL_search badF (Ctl.ret false) [] h (fun pre x _ => rfl)]
      cases anyPre badF [] h <;> rfl
    · intro i x s hx
      have hi : i < h.length := (List.getElem?_eq_some_iff.1 hx).1
      have hx2 := List.all_eq_true.1 hall x (List.mem_of_getElem? hx)
      simp only [inB, Bool.and_eq_true, decide_eq_true_eq] at hx2
      simp only [idx_at hx, Option.bind_some, cutI_take h i (by omega), contains_eq, flag_place]
      rw [subI_ok (by omega)]
      unfold badF
      have hlen : (h.take i).length = i := by rw [List.length_take]; omega
      rw [hlen]
      cases (h.take i).contains x
      · by_cases h1 : 10 ≤ x
        · by_cases h2 : (i : Int) ≤ x - 10 <;> simp [h1, h2]
        · simp [h1]
      · simp
theorem anyPre_or {p q : List Int → Int → Bool} (pre l : List Int) (h : ∀ pre x, x ∈ l → p pre x = q pre x) : anyPre p pre l = anyPre q pre l := by
  induction l generalizing pre with
  | nil => rfl
  | cons x l ih => rw [anyPre, anyPre, h pre x (by simp), ih _ fun pre y hy => h pre y (by simp [hy])]
theorem anyPre_all (p : List Int → Int → Bool) (q : Int → Bool) (pre l : List Int) : anyPre (fun pre x => !q x || p pre x) pre l = (!l.all q || anyPre p pre l) := by
  induction l generalizing pre with
  | nil => rfl
  | cons x l ih =>
    rw [anyPre, ih, List.all_cons, anyPre]
    cases q x <;> cases p pre x <;> cases l.all q <;> simp
theorem rValidHoist_eq (h : List Int) : noongunref07_ValidHoist h = some (vH h) := by
  unfold noongunref07_ValidHoist vH
  rw [rangeN_pre (fun pre x _ => some (if (!inB 0 12 x || badF pre x) = true then .done (Ctl.ret false) else .cont ()))]
  · rw [preL_search (fun pre x => !inB 0 12 x || badF pre x) (Ctl.ret false) [] h (fun pre x _ => rfl), anyPre_all]
    cases h.all (inB 0 12) <;> cases anyPre badF [] h <;> simp [inB]
  · intro i x s hx
    have hi : i < h.length := (List.getElem?_eq_some_iff.1 hx).1
    have hlen : (h.take i).length = i := by rw [List.length_take]; omega
    simp only [idx_at hx, Option.bind_some, cutI_take h i (by omega)]
    have hr : ((decide (x < 0)) || (decide (13 ≤ x))) = !inB 0 12 x := by
      unfold inB
      rw [Bool.eq_iff_iff]
      simp
      omega
    rw [hr]
    cases hb : inB 0 12 x with
    | false => simp
    | true =>
      simp only [inB, Bool.and_eq_true, decide_eq_true_eq] at hb
      rw [subI_ok (by omega)]
      simp only [Bool.not_true, Bool.false_eq_true, if_false, Option.bind_some, Bool.false_or]
      rw [rangeL_search (p := fun y => x == y) (y := Ctl.ret false) _ _ _ (fun i y s _ => by cases (x == y) <;> rfl)]
      unfold badF
      rw [hlen, List.contains_eq_any_beq]
      by_cases h1 : (i : Int) ≤ x - 10
      · have h2 : 10 ≤ x := by omega
        simp [h1, h2]
      · simp only [h1, decide_false, Bool.and_false, Bool.or_false, Bool.false_eq_true, if_false]
        cases (h.take i).any (fun y => x == y) <;> rfl

/-- What a hoist means, place by place. -/
def meansL (out : List Int) : List Int → List Int
  | [] => out
  | f :: h => meansL (out ++ [if 10 ≤ f then (idx out (f - 10)).getD 0 else f]) h
theorem means_loop (pre out h : List Int) (i : Int) (hv : anyPre badF pre h = false) (hp : pre.length = out.length) (hall : h.all (inB 0 12) = true) (hlen : out.length + h.length ≤ 1000) :
    rangeL (fun _ yk1 z2 => (((if (decide (10 ≤ yk1)) = true then (subI yk1 10).bind (fun t1 => (idx z2 t1).bind (fun x1 => some x1)) else some yk1) : Option Int).bind (fun s3 => (appI z2 ([s3] : List Int)).bind (fun t2 => some t2))).bind (fun s2 => some (Step.cont s2)))
      (fun z2 => z2) h i out = some (meansL out h) := by
  induction h generalizing out pre i with
  | nil => rfl
  | cons f h ih =>
    simp only [anyPre, Bool.or_eq_false_iff] at hv
    simp only [List.all_cons, Bool.and_eq_true] at hall
    simp only [List.length_cons] at hlen
    have hf := hall.1
    simp only [inB, Bool.and_eq_true, decide_eq_true_eq] at hf
    have hval : ((if (decide (10 ≤ f)) = true then (subI f 10).bind (fun t1 => (idx out t1).bind (fun x1 => some x1)) else some f) : Option Int) = some (if 10 ≤ f then (idx out (f - 10)).getD 0 else f) := by
      by_cases h1 : 10 ≤ f
      · have h2 := hv.1
        simp only [badF, Bool.or_eq_false_iff, h1, decide_true, Bool.true_and, decide_eq_false_iff_not, hp] at h2
        rw [if_pos (by simpa using h1), subI_ok (by omega), if_pos h1]
        simp only [Option.bind_some]
        rw [idx_int (by omega) (by omega)]
        rfl
      · rw [if_neg (by simpa using h1), if_neg h1]
    rw [rangeL, hval]
    simp only [Option.bind_some]
    rw [appI_ok (by simp; omega)]
    simp only [Option.bind_some]
    rw [ih (pre ++ [f]) _ _ hv.2 (by simp [hp]) hall.2 (by simp; omega)]
    rfl
theorem vH_parts {h : List Int} (hv : vH h = true) : 1 ≤ h.length ∧ h.length ≤ 4 ∧ h.all (inB 0 12) = true ∧ anyPre badF [] h = false := by
  simp only [vH, inB, Bool.and_eq_true, decide_eq_true_eq, Bool.not_eq_true'] at hv
  exact ⟨by omega, by omega, hv.1.2, hv.2⟩
theorem means_eq (h : List Int) (hv : vH h = true) : flag_means h = some (meansL [] h) := by
  obtain ⟨_, h2, h3, h4⟩ := vH_parts hv
  unfold flag_means
  simp only [flag_place]
  have := means_loop [] [] h 0 h4 rfl h3 (by simp; omega)
  simp only [Option.bind_assoc, Option.bind_some] at this ⊢
  rw [this]
  rfl
theorem rmeans_eq (h : List Int) (hv : vH h = true) : noongunref07_means h = some (meansL [] h) := by
  obtain ⟨_, h2, h3, h4⟩ := vH_parts hv
  unfold noongunref07_means
  rw [means_loop [] [] h 0 h4 rfl h3 (by simp; omega)]
  rfl
def meansR (h : List Int) : List Int × Int := if vH h = true then (meansL [] h, 0) else ([], 1)
theorem Means_eq (h : List Int) : flag_Means h = some (meansR h) := by
  unfold flag_Means meansR
  rw [ValidHoist_eq]
  simp only [Option.bind_some]
  cases hv : vH h with
  | false => simp
  | true => simp [means_eq h hv]
theorem same_eq (a b : List Int) : noongunref07_SameInts a b = some (decide (a = b)) := by
  unfold noongunref07_SameInts
  exact same_fun (fun x y => x != y) (fun x y => by rfl) a b
theorem clone_eq (l : List Int) (h : l.length ≤ 1099511627776) : slices_Clone_int l = some l := by
  unfold slices_Clone_int
  rw [appI_ok (by simpa using h)]
  rfl
theorem hoist_ex : flag_Hoist [1, 2, 1, 1] = some ([1, 2, 10, 12], 0) := by
  unfold flag_Hoist
  have h1 : flag_ValidDigits [1, 2, 1, 1] = some true := by rw [ValidDigits_eq]; rfl
  rw [h1]
  simp only [Option.bind_some, Bool.not_true, Bool.false_eq_true, if_false]
  have e : ∀ (f : Int → List Int → Option (Step (List Int) (List Int))) (g : List Int → List Int) (s0 s1 s2 s3 s4 : List Int), f 0 s0 = some (.cont s1) → f 1 s1 = some (.cont s2) → f 2 s2 = some (.cont s3) → f 3 s3 = some (.cont s4) →
      rangeN f g (Int.toNat ((([1, 2, 1, 1] : List Int).length : Nat) : Int)) 0 s0 = some (g s4) := by
    intro f g s0 s1 s2 s3 s4 h0 h1 h2 h3
    show rangeN f g 4 0 s0 = _
    simp only [rangeN, h0, Option.bind_some]
    rw [show (0 : Int) + 1 = 1 from rfl, h1]
    simp only [Option.bind_some]
    rw [show (1 : Int) + 1 = 2 from rfl, h2]
    simp only [Option.bind_some]
    rw [show (2 : Int) + 1 = 3 from rfl, h3]
    rfl
  rw [e _ _ [] [1] [1, 2] [1, 2, 10] [1, 2, 10, 12]]
  · rfl
  · rfl
  · rfl
  · rw [show idx ([1, 2, 1, 1] : List Int) 2 = some 1 from rfl]
    simp only [Option.bind_some]
    rw [show slices_Contains_int [1, 2] 1 = some true from rfl]
    simp only [Option.bind_some, if_true]
    rw [loopR_done (x := (10 : Int)) (by rfl)]
    rfl
  · rw [show idx ([1, 2, 1, 1] : List Int) 3 = some 1 from rfl]
    simp only [Option.bind_some]
    rw [show slices_Contains_int [1, 2, 10] 1 = some true from rfl]
    simp only [Option.bind_some, if_true]
    rw [loopR_cont (11 : Int) (by rfl), loopR_cont (12 : Int) (by rfl), loopR_done (x := (12 : Int)) (by rfl)]
    rfl
theorem awake_eq : noongunlaw07_awake = some true := by
  unfold noongunlaw07_awake
  rw [hoist_ex, Means_eq]
  rfl
end Go.Fw
