/-
  FlagTraps, plain: what is close, what is turned, and what is lost, are the same in both texts.
-/
import Derived.Test.YtecedifkjafneaaDoorM
import Derived.Test.YtecedifkjafneaaDoorFwN
namespace Go.Fw
def inB (a b x : Int) : Bool := decide (a ≤ x) && decide (x ≤ b)
def vD (l : List Int) : Bool := inB 1 4 (l.length : Int) && l.all (inB 0 9)
theorem within_eq (a b c : Int) : flag_within a b c = some (inB b c a) := rfl
theorem indexFunc_eq (l : List Int) (f : Int → Option Bool) (p : Int → Bool) (h : ∀ x ∈ l, f x = some (p x)) : slices_ContainsFunc_int l f = some (l.any p) := by
  unfold slices_ContainsFunc_int slices_IndexFunc_int
  rw [index_loop p]
  · rw [← findIdx_any]
    cases l.findIdx? p with
    | none => rfl
    | some i => simp
  · intro i x hx
    simp only [idx_at hx, Option.bind_some, h x (List.mem_of_getElem? hx)]
    cases p x <;> rfl
theorem contains_eq (l : List Int) (x : Int) : slices_Contains_int l x = some (l.contains x) := by
  unfold slices_Contains_int slices_Index_int
  rw [index_loop (fun y => x == y)]
  · have : l.contains x = l.any (fun y => x == y) := by
      rw [List.contains_eq_any_beq]
    rw [this, ← findIdx_any]
    cases l.findIdx? (fun y => x == y) with
    | none => rfl
    | some i => simp
  · intro i y hy
    simp only [idx_at hy, Option.bind_some]
    cases (x == y) <;> rfl
theorem not_any {α : Type} (p : α → Bool) (l : List α) : (!l.any fun x => !p x) = l.all p := by
  induction l with
  | nil => rfl
  | cons x l ih => simp only [List.any_cons, List.all_cons, Bool.not_or, Bool.not_not, ih]
theorem listed_eq (l : List Int) (m : Int) : flag_listed l m = some (inB 1 4 (l.length : Int) && l.all (inB 0 m)) := by
  unfold flag_listed
  simp only [within_eq, Option.bind_some]
  rw [indexFunc_eq l (fun x0 => flag_listed_c1 x0 m) (fun x => !inB 0 m x) (fun x _ => by simp only [flag_listed_c1, within_eq, Option.bind_some])]
  simp only [Option.bind_some, not_any]
  cases inB 1 4 (l.length : Int) <;> simp
theorem ValidDigits_eq (l : List Int) : flag_ValidDigits l = some (vD l) := by
  unfold flag_ValidDigits
  rw [listed_eq]; rfl
/-- Is the flag wrong behind those before it? -/
def badF (pre : List Int) (x : Int) : Bool := pre.contains x || decide (10 ≤ x) && decide ((pre.length : Int) ≤ x - 10)
def vH (h : List Int) : Bool := inB 1 4 (h.length : Int) && h.all (inB 0 12) && !anyPre badF [] h
theorem ValidHoist_eq (h : List Int) : flag_ValidHoist h = some (vH h) := by
  unfold flag_ValidHoist vH
  rw [listed_eq]
  simp only [Option.bind_some]
  cases hl : (inB 1 4 (h.length : Int) && h.all (inB 0 12)) with
  | false => simp
  | true =>
    simp only [Bool.not_true, Bool.false_eq_true, if_false, Bool.true_and]
    have hall : h.all (inB 0 12) = true := by simp only [Bool.and_eq_true] at hl; exact hl.2
    rw [rangeN_pre (fun pre x _ => some (if badF pre x = true then .done (Ctl.ret false) else .cont ()))]
    · rw [preL_search badF (Ctl.ret false) [] h (fun pre x _ => rfl)]
      cases anyPre badF [] h <;> rfl
    · intro i x s hx
      have hi : i < h.length := (List.getElem?_eq_some_iff.1 hx).1
      have hx2 := List.all_eq_true.1 hall x (List.mem_of_getElem? hx)
      simp only [inB, Bool.and_eq_true, decide_eq_true_eq] at hx2
      simp only [idx_at hx, Option.bind_some, cutI_take h i (by omega), contains_eq, flag_place]
      rw [subI_ok (by omega)]
      unfold badF
      have hlen : (h.take i).length = i := by rw [List.length_take]; omega
      rw [hlen]
      cases (h.take i).contains x
      · by_cases h1 : 10 ≤ x
        · by_cases h2 : (i : Int) ≤ x - 10 <;> simp [h1, h2]
        · simp [h1]
      · simp
theorem anyPre_or {p q : List Int → Int → Bool} (pre l : List Int) (h : ∀ pre x, x ∈ l → p pre x = q pre x) : anyPre p pre l = anyPre q pre l := by
  induction l generalizing pre with
  | nil => rfl
  | cons x l ih => rw [anyPre, anyPre, h pre x (by simp), ih _ fun pre y hy => h pre y (by simp [hy])]
theorem anyPre_all (p : List Int → Int → Bool) (q : Int → Bool) (pre l : List Int) : anyPre (fun pre x => !q x || p pre x) pre l = (!l.all q || anyPre p pre l) := by
  induction l generalizing pre with
  | nil => rfl
  | cons x l ih =>
    rw [anyPre, ih, List.all_cons, anyPre]
    cases q x <;> cases p pre x <;> cases l.all q <;> simp
theorem rValidHoist_eq (h : List Int) : noongunref07_ValidHoist h = some (vH h) := by
  unfold noongunref07_ValidHoist vH
  rw [rangeN_pre (fun pre x _ => some (if (!inB 0 12 x || badF pre x) = true then .done (Ctl.ret false) else .cont ()))]
  · rw [preL_search (fun pre x => !inB 0 12 x || badF pre x) (Ctl.ret false) [] h (fun pre x _ => rfl), anyPre_all]
    cases h.all (inB 0 12) <;> cases anyPre badF [] h <;> simp [inB]
  · intro i x s hx
    have hi : i < h.length := (List.getElem?_eq_some_iff.1 hx).1
    have hlen : (h.take i).length = i := by rw [List.length_take]; omega
    simp only [idx_at hx, Option.bind_some, cutI_take h i (by omega)]
    have hr : ((decide (x < 0)) || (decide (13 ≤ x))) = !inB 0 12 x := by
      unfold inB
      rw [Bool.eq_iff_iff]
      simp
      omega
    rw [hr]
    cases hb : inB 0 12 x with
    | false => simp
    | true =>
      simp only [inB, Bool.and_eq_true, decide_eq_true_eq] at hb
      rw [subI_ok (by omega)]
      simp only [Bool.not_true, Bool.false_eq_true, if_false, Option.bind_some, Bool.false_or]
      rw [rangeL_search (p := fun y => x == y) (y := Ctl.ret false) _ _ _ (fun i y s _ => by cases (x == y) <;> rfl)]
      unfold badF
      rw [hlen, List.contains_eq_any_beq]
      by_cases h1 : (i : Int) ≤ x - 10
      · have h2 : 10 ≤ x := by omega
        simp [h1, h2]
      · simp only [h1, decide_false, Bool.and_false, Bool.or_false, Bool.false_eq_true, if_false]
        cases (h.take i).any (fun y => x == y) <;> rfl

/-- What a hoist means, place by place. -/
def meansL (out : List Int) : List Int → List Int
  | [] => out
  | f :: h => meansL (out ++ [if 10 ≤ f then (idx out (f - 10)).getD 0 else f]) h
theorem means_loop (pre out h : List Int) (i : Int) (hv : anyPre badF pre h = false) (hp : pre.length = out.length) (hall : h.all (inB 0 12) = true) (hlen : out.length + h.length ≤ 1000) :
    rangeL (fun _ yk1 z2 => (((if (decide (10 ≤ yk1)) = true then (subI yk1 10).bind (fun t1 => (idx z2 t1).bind (fun x1 => some x1)) else some yk1) : Option Int).bind (fun s3 => (appI z2 ([s3] : List Int)).bind (fun t2 => some t2))).bind (fun s2 => some (Step.cont s2)))
      (fun z2 => z2) h i out = some (meansL out h) := by
  induction h generalizing out pre i with
  | nil => rfl
  | cons f h ih =>
    simp only [anyPre, Bool.or_eq_false_iff] at hv
    simp only [List.all_cons, Bool.and_eq_true] at hall
    simp only [List.length_cons] at hlen
    have hf := hall.1
    simp only [inB, Bool.and_eq_true, decide_eq_true_eq] at hf
    have hval : ((if (decide (10 ≤ f)) = true then (subI f 10).bind (fun t1 => (idx out t1).bind (fun x1 => some x1)) else some f) : Option Int) = some (if 10 ≤ f then (idx out (f - 10)).getD 0 else f) := by
      by_cases h1 : 10 ≤ f
      · have h2 := hv.1
        simp only [badF, Bool.or_eq_false_iff, h1, decide_true, Bool.true_and, decide_eq_false_iff_not, hp] at h2
        rw [if_pos (by simpa using h1), subI_ok (by omega), if_pos h1]
        simp only [Option.bind_some]
        rw [idx_int (by omega) (by omega)]
        rfl
      · rw [if_neg (by simpa using h1), if_neg h1]
    rw [rangeL, hval]
    simp only [Option.bind_some]
    rw [appI_ok (by simp; omega)]
    simp only [Option.bind_some]
    rw [ih (pre ++ [f]) _ _ hv.2 (by simp [hp]) hall.2 (by simp; omega)]
    rfl
theorem vH_parts {h : List Int} (hv : vH h = true) : 1 ≤ h.length ∧ h.length ≤ 4 ∧ h.all (inB 0 12) = true ∧ anyPre badF [] h = false := by
  simp only [vH, inB, Bool.and_eq_true, decide_eq_true_eq, Bool.not_eq_true'] at hv
  exact ⟨by omega, by omega, hv.1.2, hv.2⟩
theorem means_eq (h : List Int) (hv : vH h = true) : flag_means h = some (meansL [] h) := by
  obtain ⟨_, h2, h3, h4⟩ := vH_parts hv
  unfold flag_means
  simp only [flag_place]
  have := means_loop [] [] h 0 h4 rfl h3 (by simp; omega)
  simp only [Option.bind_assoc, Option.bind_some] at this ⊢
  rw [this]
  rfl
theorem rmeans_eq (h : List Int) (hv : vH h = true) : noongunref07_means h = some (meansL [] h) := by
  obtain ⟨_, h2, h3, h4⟩ := vH_parts hv
  unfold noongunref07_means
  rw [means_loop [] [] h 0 h4 rfl h3 (by simp; omega)]
  rfl
def meansR (h : List Int) : List Int × Int := if vH h = true then (meansL [] h, 0) else ([], 1)
theorem Means_eq (h : List Int) : flag_Means h = some (meansR h) := by
  unfold flag_Means meansR
  rw [ValidHoist_eq]
  simp only [Option.bind_some]
  cases hv : vH h with
  | false => simp
  | true => simp [means_eq h hv]
theorem same_eq (a b : List Int) : noongunref07_SameInts a b = some (decide (a = b)) := by
  unfold noongunref07_SameInts
  exact same_fun (fun x y => x != y) (fun x y => by rfl) a b
theorem clone_eq (l : List Int) (h : l.length ≤ 1099511627776) : slices_Clone_int l = some l := by
  unfold slices_Clone_int
  rw [appI_ok (by simpa using h)]
  rfl
theorem hoist_ex : flag_Hoist [1, 2, 1, 1] = some ([1, 2, 10, 12], 0) := by
  unfold flag_Hoist
  have h1 : flag_ValidDigits [1, 2, 1, 1] = some true := by rw [ValidDigits_eq]; rfl
  rw [h1]
  simp only [Option.bind_some, Bool.not_true, Bool.false_eq_true, if_false]
  have e : ∀ (f : Int → List Int → Option (Step (List Int) (List Int))) (g : List Int → List Int) (s0 s1 s2 s3 s4 : List Int), f 0 s0 = some (.cont s1) → f 1 s1 = some (.cont s2) → f 2 s2 = some (.cont s3) → f 3 s3 = some (.cont s4) →
      rangeN f g (Int.toNat ((([1, 2, 1, 1] : List Int).length : Nat) : Int)) 0 s0 = some (g s4) := by
    intro f g s0 s1 s2 s3 s4 h0 h1 h2 h3
    show rangeN f g 4 0 s0 = _
    simp only [rangeN, h0, Option.bind_some]
    rw [show (0 : Int) + 1 = 1 from rfl, h1]
    simp only [Option.bind_some]
    rw [show (1 : Int) + 1 = 2 from rfl, h2]
    simp only [Option.bind_some]
    rw [show (2 : Int) + 1 = 3 from rfl, h3]
    rfl
  rw [e _ _ [] [1] [1, 2] [1, 2, 10] [1, 2, 10, 12]]
  · rfl
  · rfl
  · rfl
  · rw [show idx ([1, 2, 1, 1] : List Int) 2 = some 1 from rfl]
    simp only [Option.bind_some]
    rw [show slices_Contains_int [1, 2] 1 = some true from rfl]
    simp only [Option.bind_some, if_true]
    rw [loopR_done (x := (10 : Int)) (by rfl)]
    rfl
  · rw [show idx ([1, 2, 1, 1] : List Int) 3 = some 1 from rfl]
    simp only [Option.bind_some]
    rw [show slices_Contains_int [1, 2, 10] 1 = some true from rfl]
    simp only [Option.bind_some, if_true]
    rw [loopR_cont (11 : Int) (by rfl), loopR_cont (12 : Int) (by rfl), loopR_done (x := (12 : Int)) (by rfl)]
    rfl
theorem awake_eq : noongunlaw07_awake = some true := by
  unfold noongunlaw07_awake
  rw [hoist_ex, Means_eq]
  rfl
end Go.Fw
namespace Go.Fw
theorem digsOf_step (u : Nat) : digsOf u = if u < 10 then [(u : Int)] else digsOf (u / 10) ++ [((u % 10 : Nat) : Int)] := by
  unfold digsOf
  rw [Lib.decDigits]
  split
  · rename_i h
    simp only [List.map_cons, List.map_nil]
    rw [UInt8.toNat_ofNat']
    congr 1; omega
  · rename_i h
    simp only [List.map_append, List.map_cons, List.map_nil]
    rw [UInt8.toNat_ofNat']
    congr 2; omega
theorem digsOf_len (u : Nat) (h : u ≤ 9999) : 1 ≤ (digsOf u).length ∧ (digsOf u).length ≤ 4 := by
  have k1 : ∀ u, u < 10 → (digsOf u).length = 1 := fun u h => by rw [digsOf_step, if_pos h]; rfl
  have step : ∀ u, ¬ u < 10 → (digsOf u).length = (digsOf (u / 10)).length + 1 := fun u h => by rw [digsOf_step, if_neg h]; simp
  by_cases h1 : u < 10
  · rw [k1 u h1]; omega
  · rw [step u h1]
    by_cases h2 : u / 10 < 10
    · rw [k1 _ h2]; omega
    · rw [step _ h2]
      by_cases h3 : u / 10 / 10 < 10
      · rw [k1 _ h3]; omega
      · rw [step _ h3, k1 (u / 10 / 10 / 10) (by omega)]; omega
theorem digsOf_dig (u : Nat) : ∀ d ∈ digsOf u, 0 ≤ d ∧ d ≤ 9 := by
  intro d hd
  unfold digsOf at hd
  obtain ⟨b, hb, rfl⟩ := List.mem_map.1 hd
  have := dec_bytes u b hb
  omega
def numF (l : List Int) : Int := l.foldl (fun z d => 10 * z + d) 0
theorem numF_digs (u : Nat) : numF (digsOf u) = (u : Int) := by
  induction u using Nat.strongRecOn with
  | ind u ih =>
    rw [digsOf_step]
    by_cases h : u < 10
    · rw [if_pos h]; simp [numF]
    · rw [if_neg h]
      have := ih (u / 10) (by omega)
      unfold numF at this ⊢
      rw [List.foldl_append, this]
      simp only [List.foldl_cons, List.foldl_nil]
      omega
theorem num_loop : ∀ (l : List Int) (i z : Int), (∀ d ∈ l, 0 ≤ d ∧ d ≤ 9) → l.length ≤ 4 → (0 ≤ z ∧ z ≤ 99999) →
    rangeL (α := Int) (S := Int) (X := Int) (fun _ yk1 z2 => (mulI 10 z2).bind (fun t1 => (addI t1 yk1).bind (fun t2 => some (Step.cont t2)))) (fun z2 => z2) l i z = some (l.foldl (fun z d => 10 * z + d) z) := by
  have key : ∀ (l : List Int) (i z B : Int), (∀ d ∈ l, 0 ≤ d ∧ d ≤ 9) → (0 ≤ z ∧ (z + 1) * 10 ^ l.length ≤ 1000000000000) → rangeL (α := Int) (S := Int) (X := Int) (fun _ yk1 z2 => (mulI 10 z2).bind (fun t1 => (addI t1 yk1).bind (fun t2 => some (Step.cont t2)))) (fun z2 => z2) l i z = some (l.foldl (fun z d => 10 * z + d) z) := by
    intro l
    induction l with
    | nil => intro i z B _ _; rfl
    | cons d l ih =>
      intro i z B h hz
      have hd := h d (by simp)
      have hp : (1 : Int) ≤ 10 ^ l.length := by
        have := Nat.one_le_pow l.length 10 (by omega)
        exact_mod_cast this
      rw [List.length_cons, Int.pow_succ] at hz
      have hz2 : (z + 1) * 10 * 10 ^ l.length ≤ 1000000000000 := by
        have : (z + 1) * (10 ^ l.length * 10) = (z + 1) * 10 * 10 ^ l.length := by rw [Int.mul_comm (10 ^ l.length) 10, Int.mul_assoc]
        omega
      have hb : (z + 1) * 10 * 1 ≤ (z + 1) * 10 * 10 ^ l.length := Int.mul_le_mul_of_nonneg_left hp (by omega)
      rw [rangeL, mulI_ok (by omega), Option.bind_some, addI_ok (by omega), List.foldl_cons]
      simp only [Option.bind_some]
      refine ih (i + 1) (10 * z + d) B (fun e he => h e (by simp [he])) ⟨by omega, ?_⟩
      have : (10 * z + d + 1) * 10 ^ l.length ≤ (z + 1) * 10 * 10 ^ l.length := Int.mul_le_mul_of_nonneg_right (by omega) (by omega)
      omega
  intro l i z h hl hz
  refine key l i z 0 h ⟨hz.1, ?_⟩
  have h1 : (10 : Int) ^ l.length ≤ 10 ^ 4 := by
    have := Nat.pow_le_pow_right (n := 10) (by omega) hl
    exact_mod_cast this
  have h2 : (z + 1) * 10 ^ l.length ≤ 100000 * 10 ^ 4 := Int.mul_le_mul (by omega) h1 (by have : (0 : Int) ≤ 10 ^ l.length := Int.pow_nonneg (by omega); exact this) (by omega)
  omega
def isN (n : Int) : Bool := inB 0 9999 n
theorem isNumber_eq (n : Int) : flag_isNumber n = some (isN n) := rfl
theorem digitsOf_eq {n : Int} (h : isN n = true) : flag_digitsOf n = some (digsOf n.toNat) := by
  unfold isN inB at h
  simp only [Bool.and_eq_true, decide_eq_true_eq] at h
  unfold flag_digitsOf
  rw [if_pos (by omega)]
theorem rdigitsOf_eq {n : Int} (h : isN n = true) : noongunref07_digitsOf n = some (digsOf n.toNat) := by
  unfold isN inB at h
  simp only [Bool.and_eq_true, decide_eq_true_eq] at h
  have hl := digsOf_len n.toNat (by omega)
  unfold digsOf at hl
  rw [List.length_map] at hl
  unfold noongunref07_digitsOf strconv_Itoa
  rw [if_pos (by omega), Option.bind_some]
  have hb : bytesI ⟨(Lib.decDigits n.toNat).toArray⟩ = some (Lib.decDigits n.toNat) := by
    unfold bytesI
    rw [if_pos (by show (Lib.decDigits n.toNat).toArray.size ≤ _; simp; omega)]
    rfl
  rw [hb, Option.bind_some]
  have key : ∀ (l : List UInt8) (i : Int) (s : List Int), (∀ b ∈ l, 48 ≤ b.toNat ∧ b.toNat ≤ 57) → s.length + l.length ≤ 1000 → rangeL (α := UInt8) (S := (List Int)) (X := (List Int)) (fun _ yk1 z2 => (cvI .u8 ((yk1.toNat : Int) - 48)).bind (fun t3 => (cvI .i64 t3).bind (fun t4 => (appI z2 ([t4] : List Int)).bind (fun t5 => some (Step.cont t5))))) (fun z2 => z2) l i s = some (s ++ l.map fun b => (b.toNat : Int) - 48) := by
    intro l
    induction l with
    | nil => intro i s _ _; simp [rangeL]
    | cons b l ih =>
      intro i s hl hs
      rw [List.length_cons] at hs
      have hb := hl b (by simp)
      have hcv : ∀ c : Nat, c < 10 → cvI .u8 (c : Int) = some (c : Int) ∧ cvI .i64 (c : Int) = some (c : Int) := by decide
      have h9 := hcv (b.toNat - 48) (by omega)
      rw [show ((b.toNat - 48 : Nat) : Int) = (b.toNat : Int) - 48 by omega] at h9
      rw [rangeL, h9.1, Option.bind_some, h9.2, Option.bind_some, appI_ok (by simp; omega)]
      simp only [Option.bind_some]
      rw [ih _ _ (fun c hc => hl c (by simp [hc])) (by simp; omega)]
      simp
  rw [key _ 0 [] (dec_bytes _) (by simp; omega)]
  rfl
theorem vD_parts {l : List Int} (h : vD l = true) : (1 ≤ l.length ∧ l.length ≤ 4) ∧ ∀ d ∈ l, 0 ≤ d ∧ d ≤ 9 := by
  unfold vD inB at h
  simp only [Bool.and_eq_true, decide_eq_true_eq, List.all_eq_true] at h
  exact ⟨by omega, h.2⟩
theorem vD_mk {l : List Int} (h1 : 1 ≤ l.length ∧ l.length ≤ 4) (h2 : ∀ d ∈ l, 0 ≤ d ∧ d ≤ 9) : vD l = true := by
  unfold vD inB
  simp only [Bool.and_eq_true, decide_eq_true_eq, List.all_eq_true]
  exact ⟨by omega, h2⟩
end Go.Fw
namespace Go.Fw
def goodB (b : UInt8) : Bool := decide (32 ≤ b.toNat) && decide (b.toNat ≤ 126)
def vText (s : ByteArray) : Bool := (bytes s).all goodB
theorem byte_get {s : ByteArray} {p : Nat} (h : p < s.size) : (s.get! p) = (bytes s)[p]'h := by
  show s.data[p]! = s.data.toList[p]
  rw [getElem!_pos s.data p h]
  rfl
theorem dec_small {s : ByteArray} {p : Nat} (h : p < s.size) (hb : ((bytes s)[p]'h).toNat < 128) : Utf8.decode s p = (((bytes s)[p]'h).toNat, 1) := by
  unfold Utf8.decode
  simp only [Nat.add_zero, byte_get h, hb, if_true]
theorem dec_big {s : ByteArray} {p : Nat} (h : p < s.size) (hb : ¬ ((bytes s)[p]'h).toNat < 128) : 128 ≤ (Utf8.decode s p).1 := by
  unfold Utf8.decode
  simp only [Nat.add_zero, byte_get h, hb, if_false, Utf8.runeError]
  repeat' split
  all_goals simp_all
  all_goals omega
theorem inB_iff' {a b x : Int} : inB a b x = true ↔ a ≤ x ∧ x ≤ b := by simp [inB]
theorem isN_le' {a : Int} (h : isN a = true) : 0 ≤ a ∧ a ≤ 9999 := inB_iff'.1 h
theorem find_congr {α : Type} {p q : α → Bool} : ∀ {l : List α}, (∀ x ∈ l, p x = q x) → l.find? p = l.find? q
  | [], _ => rfl
  | x :: l, h => by
    rw [List.find?_cons, List.find?_cons, h x (by simp), find_congr fun y hy => h y (by simp [hy])]
theorem runes_eq (s : ByteArray) : ∀ (n p : Nat), s.size + 1 ≤ n + p → ∃ k : Int, idxR (fun x0 => flag_ValidBook_c1 x0) true (runesL s n p) = some k ∧ decide (0 ≤ k) = !((bytes s).drop p).all goodB
  | 0, p, h => ⟨-1, rfl, by rw [List.drop_of_length_le (by rw [bytes_len]; omega)]; rfl⟩
  | n + 1, p, h => by
    by_cases hp : p < s.size
    · have hd : (bytes s).drop p = (bytes s)[p]'hp :: (bytes s).drop (p + 1) := List.drop_eq_getElem_cons (by rw [bytes_len]; exact hp)
      rw [runesL, if_pos hp, hd, List.all_cons, idxR]
      by_cases hb : ((bytes s)[p]'hp).toNat < 128
      · rw [dec_small hp hb]
        unfold flag_ValidBook_c1
        cases hg : goodB ((bytes s)[p]'hp) with
        | true =>
          have : ((decide (((((bytes s)[p]'hp).toNat : Nat) : Int) < 32)) || (decide (126 < ((((bytes s)[p]'hp).toNat : Nat) : Int)))) = false := by
            unfold goodB at hg
            simp only [Bool.and_eq_true, decide_eq_true_eq] at hg
            simp only [Bool.or_eq_false_iff, decide_eq_false_iff_not]
            omega
          simp only [this, Option.bind_some, Bool.true_and]
          exact runes_eq s n (p + 1) (by omega)
        | false =>
          have : ((decide (((((bytes s)[p]'hp).toNat : Nat) : Int) < 32)) || (decide (126 < ((((bytes s)[p]'hp).toNat : Nat) : Int)))) = true := by
            unfold goodB at hg
            simp only [Bool.and_eq_false_iff, decide_eq_false_iff_not] at hg
            simp only [Bool.or_eq_true, decide_eq_true_eq]
            omega
          simp only [this, Option.bind_some, Bool.false_and, Bool.not_false]
          exact ⟨(p : Int), by simp, by simp⟩
      · have hbig := dec_big hp hb
        have hg : goodB ((bytes s)[p]'hp) = false := by
          unfold goodB
          simp only [Bool.and_eq_false_iff, decide_eq_false_iff_not]
          omega
        unfold flag_ValidBook_c1
        have : ((decide (((Utf8.decode s p).1 : Int) < 32)) || (decide (126 < ((Utf8.decode s p).1 : Int)))) = true := by
          simp only [Bool.or_eq_true, decide_eq_true_eq]
          omega
        simp only [this, hg, Option.bind_some, Bool.false_and, Bool.not_false]
        exact ⟨(p : Int), by simp, by simp⟩
    · refine ⟨-1, ?_, by rw [List.drop_of_length_le (by rw [bytes_len]; omega)]; rfl⟩
      rw [runesL, if_neg hp]; rfl
theorem text_eq (s : ByteArray) (h : s.size ≤ 70000) : strings_ContainsFunc s (fun x0 => flag_ValidBook_c1 x0) = some (!vText s) := by
  unfold strings_ContainsFunc strings_IndexFunc strings_indexFunc
  rw [if_pos (by omega)]
  obtain ⟨k, h1, h2⟩ := runes_eq s (s.size + 1) 0 (by omega)
  rw [h1]
  simp only [Option.bind_some, h2, List.drop_zero]
  rfl
def vM (x : GMeaning) : Bool := isN x.Number && (inB 1 60 ((x.Text.size : Nat) : Int) && vText x.Text)
theorem meaning_eq (x : GMeaning) (h : x.Text.size ≤ 70000) : noongunref07_meaning x = some (vM x) := by
  unfold noongunref07_meaning
  have hi : inI ((x.Text.size : Nat) : Int) = true := by rw [inI_iff]; omega
  unfold chkI
  rw [if_pos hi, ← bytes_len x.Text, rangeN_pre (fun _ b _ => some (if (!goodB b) = true then .done (Ctl.ret false) else .cont ()))]
  · rw [preL_search (fun _ b => !goodB b) (Ctl.ret false) [] _ (fun _ _ _ => rfl)]
    have hany : ∀ (l pre : List UInt8), anyPre (fun _ b => !goodB b) pre l = !l.all goodB := by
      intro l
      induction l with
      | nil => intro pre; rfl
      | cons b l ih => intro pre; rw [anyPre, ih, List.all_cons, Bool.not_and]
    rw [hany]
    unfold vM vText isN inB
    rw [bytes_len]
    cases (bytes x.Text).all goodB <;> simp [Bool.and_assoc]
  · intro i b s hb
    simp only [idx_at hb, Option.bind_some]
    unfold goodB
    by_cases h1 : (b.toNat : Int) < 32
    · have : ¬ 32 ≤ b.toNat := by omega
      simp [h1, this]
    · have h3 : 32 ≤ b.toNat := by omega
      by_cases h2 : (126 : Int) < (b.toNat : Int)
      · have : ¬ b.toNat ≤ 126 := by omega
        simp [h1, h2, h3, this]
      · have : b.toNat ≤ 126 := by omega
        simp [h1, h2, h3, this]
def lateB (pre : List GMeaning) (x : GMeaning) : Bool := match pre.getLast? with | some y => decide (x.Number ≤ y.Number) | none => false
def badM (pre : List GMeaning) (x : GMeaning) : Bool := !vM x || lateB pre x
def vBk (l : List GMeaning) : Bool := !anyPre badM [] l && decide (((l.length : Nat) : Int) ≤ 200)
theorem late_eq {l : List GMeaning} (hl : l.length ≤ 1000) {i : Nat} {x : GMeaning} (hx : l[i]? = some x) : (((if (decide (0 < (i : Int))) = true then (subI (i : Int) 1).bind (fun t2 => (idx l t2).bind (fun x2 => some (decide (x.Number ≤ x2.Number)))) else some false)) : Option Bool) = some (lateB (l.take i) x) := by
  have hi := (List.getElem?_eq_some_iff.1 hx).1
  unfold lateB
  cases i with
  | zero => simp
  | succ i =>
    have hi2 : i < l.length := by omega
    have e1 : l[i]? = some l[i] := List.getElem?_eq_getElem hi2
    have hg : (l.take (i + 1)).getLast? = some l[i] := by
      rw [List.getLast?_eq_getElem?, List.length_take, List.getElem?_take]
      have : min (i + 1) l.length - 1 = i := by omega
      rw [if_pos (by omega), this, e1]
    have hs : subI ((i + 1 : Nat) : Int) 1 = some (i : Int) := by
      rw [subI_ok (by omega)]; congr 1; omega
    rw [hg, if_pos (decide_eq_true (by omega)), hs, Option.bind_some, idx_at e1]
    rfl
theorem ValidBook_eq (l : List GMeaning) (hl : l.length ≤ 1000) (ht : ∀ x ∈ l, x.Text.size ≤ 70000) : flag_ValidBook l = some (vBk l) := by
  unfold flag_ValidBook vBk
  rw [rangeN_pre (fun pre x _ => if x ∈ l then some (if badM pre x = true then .done (Ctl.ret false) else .cont ()) else none)]
  · rw [preL_search badM (Ctl.ret false) [] l (fun pre x hx => by rw [if_pos hx])]
    cases anyPre badM [] l <;> simp
  · intro i x s hx
    have hmem := List.mem_of_getElem? hx
    have hsz := ht x hmem
    rw [if_pos hmem, idx_at hx, Option.bind_some, isNumber_eq, Option.bind_some, text_eq _ hsz]
    have hlate := late_eq hl hx
    simp only [hlate, Option.bind_some, within_eq]
    unfold badM vM
    cases isN x.Number <;> cases lateB (l.take i) x <;> cases inB 1 60 ((x.Text.size : Nat) : Int) <;> cases vText x.Text <;> rfl
theorem rValidBook_eq (l : List GMeaning) (hl : l.length ≤ 1000) (ht : ∀ x ∈ l, x.Text.size ≤ 70000) : noongunref07_ValidBook l = some (vBk l) := by
  unfold noongunref07_ValidBook vBk
  rw [rangeN_pre (fun pre x _ => if x ∈ l then some (if badM pre x = true then .done (Ctl.ret false) else .cont ()) else none)]
  · rw [preL_search badM (Ctl.ret false) [] l (fun pre x hx => by rw [if_pos hx])]
    cases anyPre badM [] l <;> simp
  · intro i x s hx
    have hmem := List.mem_of_getElem? hx
    rw [if_pos hmem, idx_at hx, Option.bind_some, meaning_eq x (ht x hmem), Option.bind_some]
    have hlate := late_eq hl hx
    simp only [hlate, Option.bind_some]
    unfold badM
    cases vM x <;> cases lateB (l.take i) x <;> rfl
/-- In a valid book each meaning is valid, and the numbers rise. -/
theorem book_sorted : ∀ (l pre : List GMeaning), anyPre badM pre l = false → (∀ x ∈ l, vM x = true) ∧ l.Pairwise (fun x y => x.Number < y.Number) ∧ ∀ y, pre.getLast? = some y → ∀ x ∈ l, y.Number < x.Number
  | [], _, _ => ⟨by simp, List.Pairwise.nil, by simp⟩
  | x :: l, pre, h => by
    rw [anyPre, Bool.or_eq_false_iff] at h
    obtain ⟨h1, h2⟩ := h
    obtain ⟨g1, g2, g3⟩ := book_sorted l (pre ++ [x]) h2
    unfold badM at h1
    rw [Bool.or_eq_false_iff] at h1
    have hx := g3 x (by simp)
    refine ⟨fun y hy => ?_, List.pairwise_cons.2 ⟨hx, g2⟩, fun y hy z hz => ?_⟩
    · rcases List.mem_cons.1 hy with rfl | hy
      · simpa using h1.1
      · exact g1 y hy
    · have hyx : y.Number < x.Number := by
        have := h1.2
        unfold lateB at this
        rw [hy] at this
        simp only [decide_eq_false_iff_not] at this
        omega
      rcases List.mem_cons.1 hz with rfl | hz
      · exact hyx
      · have := hx z hz; omega
theorem vM_num {x : GMeaning} (h : vM x = true) : isN x.Number = true := by
  unfold vM at h
  rw [Bool.and_eq_true] at h
  exact h.1
theorem book_facts {l : List GMeaning} (h : vBk l = true) : (∀ x ∈ l, vM x = true) ∧ l.Pairwise (fun x y => x.Number < y.Number) := by
  unfold vBk at h
  rw [Bool.and_eq_true] at h
  obtain ⟨g1, g2, _⟩ := book_sorted l [] (by simpa using h.1)
  exact ⟨g1, g2⟩
end Go.Fw
namespace Go.Fw

/-! Bits. -/
theorem ofInt_nat (a : Nat) : BitVec.ofInt 64 (a : Int) = BitVec.ofNat 64 a := by
  apply BitVec.eq_of_toNat_eq
  simp
theorem bits_and (a b : Nat) (ha : a < 2 ^ 62) (hb : b < 2 ^ 62) : bits .and .i64 (a : Int) (b : Int) = ((a &&& b : Nat) : Int) := by
  unfold bits
  have hle : a &&& b ≤ a := Nat.and_le_left
  show IntKind.i64.wrap (((BitVec.ofInt 64 (a : Int) &&& BitVec.ofInt 64 (b : Int)).toNat : Nat) : Int) = _
  rw [ofInt_nat, ofInt_nat, BitVec.toNat_and, BitVec.toNat_ofNat, BitVec.toNat_ofNat, Nat.mod_eq_of_lt (by omega), Nat.mod_eq_of_lt (by omega), wrap_inI (by rw [inI_iff]; omega)]
theorem bits_or (a b : Nat) (ha : a < 2 ^ 62) (hb : b < 2 ^ 62) : bits .or .i64 (a : Int) (b : Int) = ((a ||| b : Nat) : Int) := by
  unfold bits
  have hle : a ||| b < 2 ^ 62 := Nat.or_lt_two_pow ha hb
  show IntKind.i64.wrap (((BitVec.ofInt 64 (a : Int) ||| BitVec.ofInt 64 (b : Int)).toNat : Nat) : Int) = _
  rw [ofInt_nat, ofInt_nat, BitVec.toNat_or, BitVec.toNat_ofNat, BitVec.toNat_ofNat, Nat.mod_eq_of_lt (by omega), Nat.mod_eq_of_lt (by omega), wrap_inI (by rw [inI_iff]; omega)]
def andNotN (a b : Nat) : Nat := (BitVec.ofNat 64 a &&& ~~~ BitVec.ofNat 64 b).toNat
theorem andNotN_bit (a b : Nat) (ha : a < 2 ^ 62) (i : Nat) : (andNotN a b).testBit i = (a.testBit i && !b.testBit i) := by
  unfold andNotN
  rw [BitVec.testBit_toNat, BitVec.getLsbD_and, BitVec.getLsbD_not, BitVec.getLsbD_ofNat, BitVec.getLsbD_ofNat]
  by_cases h : i < 64
  · simp [h]
  · have : a.testBit i = false := Nat.testBit_lt_two_pow (Nat.lt_of_lt_of_le ha (Nat.pow_le_pow_right (by decide) (by omega)))
    simp [h, this]
theorem andNotN_le (a b : Nat) : andNotN a b ≤ a := by
  unfold andNotN
  rw [BitVec.toNat_and, BitVec.toNat_ofNat]
  exact Nat.le_trans Nat.and_le_left (Nat.mod_le _ _)
theorem bits_andNot (a b : Nat) (ha : a < 2 ^ 62) : bits .andNot .i64 (a : Int) (b : Int) = ((andNotN a b : Nat) : Int) := by
  have hle := andNotN_le a b
  unfold bits
  show IntKind.i64.wrap (((BitVec.ofInt 64 (a : Int) &&& ~~~ BitVec.ofInt 64 (b : Int)).toNat : Nat) : Int) = _
  rw [ofInt_nat, ofInt_nat, show (BitVec.ofNat 64 a &&& ~~~ BitVec.ofNat 64 b).toNat = andNotN a b from rfl, wrap_inI (by rw [inI_iff]; omega)]
theorem bit_of (a f : Nat) (ha : a < 2 ^ 62) : (bits .and .i64 ((a : Int) / 2 ^ f) 1 == 0) = !a.testBit f := by
  have e : ((a : Int) / 2 ^ f) = ((a / 2 ^ f : Nat) : Int) := by push_cast; rfl
  have hle : a / 2 ^ f ≤ a := Nat.div_le_self _ _
  rw [e, show (1 : Int) = ((1 : Nat) : Int) from rfl, bits_and _ _ (by omega) (by decide), Nat.and_one_is_mod, Nat.testBit_eq_decide_div_mod_eq]
  rcases Nat.mod_two_eq_zero_or_one (a / 2 ^ f) with h | h <;> rw [h] <;> rfl
theorem bit_of1 (a f : Nat) (ha : a < 2 ^ 62) : (bits .and .i64 ((a : Int) / 2 ^ f) 1 == 1) = a.testBit f := by
  have e : ((a : Int) / 2 ^ f) = ((a / 2 ^ f : Nat) : Int) := by push_cast; rfl
  have hle : a / 2 ^ f ≤ a := Nat.div_le_self _ _
  rw [e, show (1 : Int) = ((1 : Nat) : Int) from rfl, bits_and _ _ (by omega) (by decide), Nat.and_one_is_mod, Nat.testBit_eq_decide_div_mod_eq]
  rcases Nat.mod_two_eq_zero_or_one (a / 2 ^ f) with h | h <;> rw [h] <;> rfl
theorem shr_of (a : Int) (f : Nat) (hf : f < 13) : shrI a (f : Int) = some (a / 2 ^ f) := by
  unfold shrI
  rw [if_pos (by omega), Int.toNat_natCast]
theorem shl_of (f : Nat) (hf : f < 13) : shlI 1 (f : Int) = some (((2 ^ f : Nat)) : Int) := by
  unfold shlI
  have : ∀ y : Nat, y < 13 → inI (1 * 2 ^ y) = true := by decide
  rw [if_pos ⟨by omega, by rw [Int.toNat_natCast]; exact this f hf⟩, Int.toNat_natCast, Int.one_mul]
  push_cast; rfl
theorem pow13 (f : Nat) (hf : f < 13) : 2 ^ f < 8192 := by
  have : 2 ^ f ≤ 2 ^ 12 := Nat.pow_le_pow_right (by decide) (by omega)
  have e : (2 : Nat) ^ 12 = 4096 := by decide
  omega

/-! Lists. -/
theorem flatMap_cg {α β : Type} {l : List α} {f g : α → List β} (h : ∀ x ∈ l, f x = g x) : l.flatMap f = l.flatMap g := by
  induction l with
  | nil => rfl
  | cons a l ih => rw [List.flatMap_cons, List.flatMap_cons, h a (by simp), ih fun x hx => h x (by simp [hx])]
theorem anyPre_snoc {α : Type} (p : List α → α → Bool) (pre l : List α) (x : α) : anyPre p pre (l ++ [x]) = (anyPre p pre l || p (pre ++ l) x) := by
  induction l generalizing pre with
  | nil => simp [anyPre]
  | cons a l ih => rw [List.cons_append, anyPre, anyPre, ih, List.append_assoc, List.singleton_append, Bool.or_assoc]
theorem anyPre_app {α : Type} (p : List α → α → Bool) (pre l m : List α) : anyPre p pre (l ++ m) = (anyPre p pre l || anyPre p (pre ++ l) m) := by
  induction l generalizing pre with
  | nil => simp [anyPre]
  | cons a l ih => rw [List.cons_append, anyPre, anyPre, ih, List.append_assoc, List.singleton_append, Bool.or_assoc]
theorem meansL_app (out a b : List Int) : meansL out (a ++ b) = meansL (meansL out a) b := by
  induction a generalizing out with
  | nil => rfl
  | cons f a ih => rw [List.cons_append, meansL, meansL, ih]
theorem meansL_len (out a : List Int) : (meansL out a).length = out.length + a.length := by
  induction a generalizing out with
  | nil => rfl
  | cons f a ih => rw [meansL, ih]; simp; omega
theorem meansL_pre (out a : List Int) : (meansL out a).take out.length = out := by
  induction a generalizing out with
  | nil => rw [meansL, List.take_length]
  | cons f a ih =>
    rw [meansL]
    have h := congrArg (fun l => l.take out.length) (ih (out ++ [if 10 ≤ f then (idx out (f - 10)).getD 0 else f]))
    simp only [List.take_take, List.length_append, List.length_cons, List.length_nil] at h
    rw [Nat.min_eq_left (by omega), List.take_append_of_le_length (Nat.le_refl _), List.take_length] at h
    exact h
/-- A count that only adds to a list. -/
theorem rangeN_flat {β : Type} {body : Int → List β → Option (Step (List β) (List β))} (g : Nat → List β) (M k : Nat) (s : List β) (hg : ∀ j, j < k → (g j).length ≤ 1)
    (hb : ∀ j s, j < k → s.length ≤ M + k → body (j : Int) s = some (.cont (s ++ g j))) (hs : s.length ≤ M) : rangeN body (fun z => z) k 0 s = some (s ++ (List.range k).flatMap g) := by
  obtain ⟨s', h1, h2, _⟩ := rangeN_inv (body := body) (fin := fun z => z) (fun j s' => s' = s ++ (List.range j).flatMap g ∧ s'.length ≤ M + j) k s (fun j s' hj ⟨h1, h2⟩ =>
    ⟨_, hb j s' hj (by omega), by rw [h1, List.range_succ, List.flatMap_append, List.append_assoc]; simp, by rw [List.length_append]; have := hg j hj; omega⟩) ⟨by simp, by omega⟩
  rw [h1, h2]
theorem rangeN_step {S X : Type} {body : Int → S → Option (Step S X)} {fin : S → X} (G : Nat → S) (k : Nat) (s : S) (h0 : G 0 = s) (hb : ∀ j, j < k → body (j : Int) (G j) = some (.cont (G (j + 1)))) :
    rangeN body fin k 0 s = some (fin (G k)) := by
  subst h0
  obtain ⟨s', h1, h2⟩ := rangeN_inv (body := body) (fin := fin) (fun j s' => s' = G j) k (G 0) (fun j s' hj h => ⟨_, by rw [h]; exact hb j hj, rfl⟩) rfl
  rw [h1, h2]
theorem rangeL_flat {α β : Type} {body : Int → α → List β → Option (Step (List β) (List β))} (g : α → List β) (M B : Nat) (l : List α) (s : List β) (hg : ∀ x ∈ l, (g x).length ≤ B)
    (hb : ∀ (j : Nat) x s, x ∈ l → s.length ≤ M + B * l.length → body (j : Int) x s = some (.cont (s ++ g x))) (hs : s.length ≤ M) : rangeL body (fun z => z) l 0 s = some (s ++ l.flatMap g) := by
  obtain ⟨s', h1, h2, _⟩ := rangeL_inv (body := body) (fin := fun z => z) (fun j s' => s' = s ++ (l.take j).flatMap g ∧ s'.length ≤ M + B * j) l s (fun j x s' hj ⟨h1, h2⟩ => by
    have hlt := (List.getElem?_eq_some_iff.1 hj).1
    have hx : x ∈ l := List.mem_of_getElem? hj
    have hmul : B * j ≤ B * l.length := Nat.mul_le_mul_left _ (by omega)
    refine ⟨_, hb j x s' hx (by omega), ?_, ?_⟩
    · rw [h1, List.take_add_one, hj, List.flatMap_append, List.append_assoc]; simp
    · rw [List.length_append, Nat.mul_succ]; have := hg x hx; omega) ⟨by simp, by omega⟩
  rw [h1, h2, List.take_length]

/-! The search, plain. -/
def goodF (d : List Int) (fl : Nat) (h : List Int) (f : Nat) : Bool := hoistsFit d h (f : Int) && (fl.testBit f && !h.contains (f : Int))
def hG (d : List Int) (fl : Nat) : Nat → List Int → List (List Int)
  | 0, h => [h]
  | n + 1, h => (List.range 13).flatMap fun f => if goodF d fl h f = true then hG d fl n (h ++ [(f : Int)]) else []
theorem hoistsG_eq (d : List Int) (fl : Nat) : ∀ (n : Nat) (h : List Int) (L : Nat), L < 8192 → (∀ f, f < 13 → L.testBit f = (fl.testBit f && !h.contains (f : Int))) → hoistsG d n h (L : Int) = hG d fl n h
  | 0, h, L, _, _ => rfl
  | n + 1, h, L, hL, hf => by
    rw [hoistsG, hG]
    refine flatMap_cg fun f hfm => ?_
    have hf13 : f < 13 := List.mem_range.1 hfm
    have hok : hoistsOk d h (L : Int) f = goodF d fl h f := by
      unfold hoistsOk goodF
      rw [bit_of L f (by omega), Bool.not_not, hf f hf13]
    rw [hok]
    have hp := pow13 f hf13
    split
    · rw [show ((2 : Int) ^ f) = ((2 ^ f : Nat) : Int) by push_cast; rfl, bits_andNot L (2 ^ f) (by omega)]
      have hle := andNotN_le L (2 ^ f)
      refine hoistsG_eq d fl n _ _ (by omega) fun g hg => ?_
      rw [andNotN_bit L (2 ^ f) (by omega), hf g hg, Nat.testBit_two_pow, List.contains_eq_any_beq, List.contains_eq_any_beq, List.any_append]
      by_cases e : f = g
      · subst e; simp
      · have e2 : ((g : Int) == (f : Int)) = false := by rw [beq_eq_false_iff_ne]; omega
        simp [e, e2]
    · rfl
def vP (h : List Int) : Prop := anyPre badF [] h = false ∧ h.all (inB 0 12) = true
def uses (fl : Nat) (h : List Int) : Prop := ∀ f ∈ h, fl.testBit f.toNat = true
theorem vH_iff (h : List Int) : vH h = true ↔ (1 ≤ h.length ∧ h.length ≤ 4) ∧ vP h := by
  unfold vH vP inB
  simp only [Bool.and_eq_true, decide_eq_true_eq, Bool.not_eq_true']
  constructor
  · rintro ⟨⟨⟨h1, h2⟩, h3⟩, h4⟩; exact ⟨⟨by omega, by omega⟩, h4, h3⟩
  · rintro ⟨⟨h1, h2⟩, h3, h4⟩; exact ⟨⟨⟨by omega, by omega⟩, h4⟩, h3⟩
theorem vD_iff (d : List Int) : vD d = true ↔ (1 ≤ d.length ∧ d.length ≤ 4) ∧ ∀ x ∈ d, 0 ≤ x ∧ x ≤ 9 := by
  unfold vD inB
  simp only [Bool.and_eq_true, decide_eq_true_eq, List.all_eq_true]
  constructor
  · rintro ⟨⟨h1, h2⟩, h3⟩; exact ⟨⟨by omega, by omega⟩, h3⟩
  · rintro ⟨⟨h1, h2⟩, h3⟩; exact ⟨⟨by omega, by omega⟩, h3⟩
/-- What the beginning of a hoist keeps. -/
def inv (d h : List Int) : Prop := vP h ∧ meansL [] h = d.take h.length
theorem vP_snoc (h : List Int) (f : Nat) (hf : f < 13) (hv : vP h) : vP (h ++ [(f : Int)]) ↔ badF h (f : Int) = false := by
  unfold vP
  rw [anyPre_snoc, hv.1, List.all_append, hv.2, Bool.false_or, List.nil_append]
  have : inB 0 12 (f : Int) = true := by simp [inB]; omega
  simp [this]
theorem ext_iff (d h : List Int) (f : Nat) (hf : f < 13) (hl : h.length < d.length) (hi : inv d h) :
    (hoistsFit d h (f : Int) && !h.contains (f : Int)) = true ↔ vP (h ++ [(f : Int)]) ∧ meansL [] (h ++ [(f : Int)]) = d.take (h.length + 1) := by
  obtain ⟨hv, hm⟩ := hi
  rw [vP_snoc h f hf hv, meansL_app, hm, List.take_add_one, List.getElem?_eq_getElem hl]
  have hml : (d.take h.length).length = h.length := by rw [List.length_take]; omega
  show _ ↔ _ ∧ d.take h.length ++ [_] = d.take h.length ++ [d[h.length]]
  rw [List.append_right_inj, List.singleton_inj]
  have hd : idx d (h.length : Int) = some d[h.length] := idx_at (List.getElem?_eq_getElem hl)
  unfold hoistsFit badF
  rw [hd]
  by_cases h10 : (10 : Int) ≤ (f : Int)
  · simp only [if_pos h10, decide_eq_true h10, Bool.true_and]
    by_cases hb : (f : Int) - 10 < (h.length : Int)
    · have hlt : f - 10 < h.length := by omega
      have e1 : idx d ((f : Int) - 10) = some (d[f - 10]'(by omega)) := by
        have : (f : Int) - 10 = ((f - 10 : Nat) : Int) := by omega
        rw [this, idx_nat, List.getElem?_eq_getElem (by omega)]
      have e2 : idx (d.take h.length) ((f : Int) - 10) = some (d[f - 10]'(by omega)) := by
        have : (f : Int) - 10 = ((f - 10 : Nat) : Int) := by omega
        rw [this, idx_nat, List.getElem?_take, if_pos hlt, List.getElem?_eq_getElem (by omega)]
      rw [e1, e2]
      have hb' : ¬ (h.length : Int) ≤ (f : Int) - 10 := by omega
      simp [hb, hb']
      exact And.comm
    · have hb' : (h.length : Int) ≤ (f : Int) - 10 := by omega
      simp [hb, hb']
  · simp only [if_neg h10, decide_eq_false h10, Bool.false_and, Bool.or_false]
    simp
    constructor
    · rintro ⟨h1, h2⟩; exact ⟨h2, h1.symm⟩
    · rintro ⟨h1, h2⟩; exact ⟨h2.symm, h1⟩
/-- What is found. -/
theorem mem_hG (d : List Int) (fl : Nat) : ∀ (n : Nat) (h x : List Int), h.length + n = d.length → inv d h → (x ∈ hG d fl n h ↔ ∃ t, x = h ++ t ∧ vP x ∧ meansL [] x = d ∧ uses fl t ∧ t.length = n)
  | 0, h, x, hn, hi => by
    rw [hG, List.mem_singleton]
    constructor
    · rintro rfl
      refine ⟨[], by simp, hi.1, ?_, fun _ hf => by simp at hf, rfl⟩
      rw [hi.2, List.take_of_length_le (by omega)]
    · rintro ⟨t, rfl, _, _, _, ht⟩
      rw [List.eq_nil_of_length_eq_zero ht, List.append_nil]
  | n + 1, h, x, hn, hi => by
    rw [hG, List.mem_flatMap]
    have key : ∀ f : Nat, f < 13 → ((hoistsFit d h (f : Int) && !h.contains (f : Int)) = true) → inv d (h ++ [(f : Int)]) := by
      intro f hf hg
      obtain ⟨h1, h2⟩ := (ext_iff d h f hf (by omega) hi).1 hg
      exact ⟨h1, by rw [h2, List.length_append]; rfl⟩
    constructor
    · rintro ⟨f, hf, hx⟩
      have hf13 : f < 13 := List.mem_range.1 hf
      split at hx
      · rename_i hg
        unfold goodF at hg
        simp only [Bool.and_eq_true] at hg
        have hi' := key f hf13 (by rw [Bool.and_eq_true]; exact ⟨hg.1, hg.2.2⟩)
        obtain ⟨t, rfl, h1, h2, h3, h4⟩ := (mem_hG d fl n (h ++ [(f : Int)]) x (by simp; omega) hi').1 hx
        refine ⟨(f : Int) :: t, by simp, h1, h2, fun g hgm => ?_, by simp [h4]⟩
        rcases List.mem_cons.1 hgm with rfl | hgm
        · exact hg.2.1
        · exact h3 g hgm
      · simp at hx
    · rintro ⟨t, rfl, h1, h2, h3, h4⟩
      match t, h4 with
      | g :: t, h4 =>
        have hall := h1.2
        simp only [List.all_append, List.all_cons, Bool.and_eq_true, inB, decide_eq_true_eq] at hall
        have hg0 : g = ((g.toNat : Nat) : Int) := by omega
        have hg13 : g.toNat < 13 := by omega
        rw [show h ++ g :: t = h ++ [g] ++ t by simp] at h1 h2 ⊢
        rw [hg0] at h1 h2 ⊢
        have hvp : vP (h ++ [((g.toNat : Nat) : Int)]) := by
          have := h1.1
          rw [anyPre_app, Bool.or_eq_false_iff] at this
          have h5 := h1.2
          rw [List.all_append, Bool.and_eq_true] at h5
          exact ⟨this.1, h5.1⟩
        have hmn : meansL [] (h ++ [((g.toNat : Nat) : Int)]) = d.take (h.length + 1) := by
          have := meansL_pre (meansL [] (h ++ [((g.toNat : Nat) : Int)])) t
          rw [← meansL_app, h2, meansL_len] at this
          simpa using this.symm
        have hext := (ext_iff d h g.toNat hg13 (by omega) hi).2 ⟨hvp, hmn⟩
        have hbit : fl.testBit g.toNat = true := h3 g (by simp)
        refine ⟨g.toNat, List.mem_range.2 hg13, ?_⟩
        rw [if_pos (by
          unfold goodF
          simp only [Bool.and_eq_true] at hext ⊢
          exact ⟨hext.1, hbit, hext.2⟩)]
        exact (mem_hG d fl n _ _ (by simp; simp at h4; omega) (key _ hg13 hext)).2 ⟨t, rfl, h1, h2, fun f hf => h3 f (by simp [hf]), by simpa using h4⟩
def RH (d : List Int) (fl : Nat) : List (List Int) := hG d fl d.length []
theorem mem_RH (d : List Int) (fl : Nat) (x : List Int) : x ∈ RH d fl ↔ vP x ∧ meansL [] x = d ∧ uses fl x := by
  unfold RH
  rw [mem_hG d fl d.length [] x (by simp) ⟨⟨rfl, rfl⟩, by simp [meansL]⟩]
  constructor
  · rintro ⟨t, rfl, h1, h2, h3, _⟩
    exact ⟨h1, h2, by simpa using h3⟩
  · rintro ⟨h1, h2, h3⟩
    refine ⟨x, by simp, h1, h2, h3, ?_⟩
    have := congrArg List.length h2
    rw [meansL_len] at this
    simpa using this
theorem hoists_eq (d : List Int) (fl : Nat) (hfl : fl < 8192) (hd : d.length ≤ 1000) : flag_hoists_c1 d (fl : Int) = some (RH d fl) := by
  unfold flag_hoists_c1 RH
  rw [if_pos hd, hoistsG_eq d fl d.length [] fl hfl (by intro f _; simp)]

/-! The document's search: level by level. -/
def stepH (d : List Int) (fl : Nat) (L : List (List Int)) : List (List Int) := L.flatMap fun h => (List.range 13).flatMap fun f => if goodF d fl h f = true then [h ++ [(f : Int)]] else []
def iterH (d : List Int) (fl : Nat) : Nat → List (List Int) → List (List Int)
  | 0, L => L
  | n + 1, L => iterH d fl n (stepH d fl L)
theorem iterH_flat (d : List Int) (fl : Nat) : ∀ (n : Nat) (L : List (List Int)), iterH d fl n L = L.flatMap (hG d fl n)
  | 0, L => by
    rw [iterH]
    induction L with
    | nil => rfl
    | cons a L ih => rw [List.flatMap_cons, ← ih, hG]; rfl
  | n + 1, L => by
    rw [iterH, iterH_flat d fl n, stepH, List.flatMap_assoc]
    refine flatMap_cg fun h _ => ?_
    rw [List.flatMap_assoc, hG]
    refine flatMap_cg fun f _ => ?_
    split <;> simp
theorem iterH_succ (d : List Int) (fl : Nat) : ∀ (n : Nat) (L : List (List Int)), iterH d fl (n + 1) L = stepH d fl (iterH d fl n L)
  | 0, _ => rfl
  | n + 1, L => by rw [iterH, iterH_succ d fl n, ← iterH]
theorem stepH_len (d : List Int) (fl : Nat) (L : List (List Int)) : (stepH d fl L).length ≤ 13 * L.length := by
  unfold stepH
  induction L with
  | nil => simp
  | cons a L ih =>
    rw [List.flatMap_cons, List.length_append, List.length_cons]
    have : ∀ k, ((List.range k).flatMap fun f => if goodF d fl a f = true then [a ++ [(f : Int)]] else []).length ≤ k := by
      intro k
      induction k with
      | zero => simp
      | succ k ih => rw [List.range_succ, List.flatMap_append, List.length_append]; simp only [List.flatMap_cons, List.flatMap_nil, List.append_nil]; split <;> simp only [List.length_cons, List.length_nil] <;> omega
    have := this 13
    omega
theorem rhoists_eq (d : List Int) (fl : Nat) (hfl : fl < 8192) (hd : vD d = true) : noongunref07_hoists d (fl : Int) = some (RH d fl) := by
  obtain ⟨⟨hd1, hd2⟩, hd3⟩ := (vD_iff d).1 hd
  unfold noongunref07_hoists
  have hlen : ∀ i, i ≤ 4 → (iterH d fl i [[]]).length ≤ 13 ^ i := by
    intro i hi
    induction i with
    | zero => simp [iterH]
    | succ i ih =>
      rw [iterH_succ]
      have h1 := stepH_len d fl (iterH d fl i [[]])
      have h2 := ih (by omega)
      rw [Nat.pow_succ]; omega
  have hinv : ∀ i, i ≤ d.length → ∀ h ∈ iterH d fl i [[]], h.length = i ∧ inv d h := by
    intro i
    induction i with
    | zero => intro _ h hh; rw [iterH, List.mem_singleton] at hh; subst hh; exact ⟨rfl, ⟨rfl, rfl⟩, by simp [meansL]⟩
    | succ i ih =>
      intro hi h hh
      rw [iterH_succ, stepH, List.mem_flatMap] at hh
      obtain ⟨h0, hh0, hh⟩ := hh
      obtain ⟨hl0, hi0⟩ := ih (by omega) h0 hh0
      rw [List.mem_flatMap] at hh
      obtain ⟨f, hf, hh⟩ := hh
      split at hh
      · rename_i hg
        rw [List.mem_singleton] at hh
        subst hh
        unfold goodF at hg
        simp only [Bool.and_eq_true] at hg
        obtain ⟨h1, h2⟩ := (ext_iff d h0 f (List.mem_range.1 hf) (by omega) hi0).1 (by rw [Bool.and_eq_true]; exact ⟨hg.1, hg.2.2⟩)
        exact ⟨by simp [hl0], h1, by rw [h2, List.length_append]; rfl⟩
      · simp at hh
  have hp4 : ∀ i, i ≤ 4 → 13 ^ i ≤ 28561 := fun i hi => Nat.le_trans (Nat.pow_le_pow_right (by decide) hi) (by decide)
  rw [Int.toNat_natCast, rangeN_step (fun i => if i = 0 then [] else iterH d fl i [[]]) d.length [] rfl]
  · have h0 : ¬ d.length = 0 := by omega
    simp only [Option.bind_some, if_neg h0, iterH_flat, RH, List.flatMap_cons, List.flatMap_nil, List.append_nil]
  · intro i hi
    have e3 : ((if ((i : Int) == 0) = true then some ([([] : List Int)] : List (List Int)) else some (if i = 0 then [] else iterH d fl i [[]])) : Option (List (List Int))) = some (iterH d fl i [[]]) := by
      cases i with
      | zero => rfl
      | succ i => rw [if_neg (by simp; omega), if_neg (by omega)]
    rw [e3]
    simp only [Option.bind_some]
    rw [rangeL_flat (fun h => (List.range 13).flatMap fun f => if goodF d fl h f = true then [h ++ [(f : Int)]] else []) 0 13]
    · simp only [Option.bind_some, List.nil_append]
      rw [if_neg (by omega), iterH_succ]; rfl
    · intro h _
      have := stepH_len d fl [h]
      simpa [stepH] using this
    · intro j h s hh hs
      obtain ⟨hl, hi'⟩ := hinv i (by omega) h hh
      have hL := hlen i (by omega)
      have h4 := hp4 i (by omega)
      rw [show Int.toNat 13 = 13 from rfl, rangeN_flat (fun f => if goodF d fl h f = true then [h ++ [(f : Int)]] else []) s.length 13]
      · simp only [Option.bind_some]
      · intro f _; split <;> simp
      · intro f z hf hz
        have a1 : appI ([] : List Int) h = some h := by rw [appI_ok (by simp; omega)]; rfl
        have a2 : appI h [(f : Int)] = some (h ++ [(f : Int)]) := appI_ok (by simp; omega)
        have a3 : addI (i : Int) 1 = some ((i + 1 : Nat) : Int) := by rw [addI_ok (by omega)]; rfl
        have a4 : cutI d 0 ((i + 1 : Nat) : Int) = some (d.take (i + 1)) := by unfold cutI; rw [if_pos (by omega), Int.toNat_natCast]; rfl
        have a5 : ∀ x : List Int, appI z [x] = some (z ++ [x]) := fun x => appI_ok (by simp; omega)
        simp only [a1, a2, Option.bind_some, shr_of _ f hf, bit_of1 fl f (by omega), rValidHoist_eq]
        have hg : goodF d fl h f = (fl.testBit f && (vH (h ++ [(f : Int)]) && decide (meansL [] (h ++ [(f : Int)]) = d.take (i + 1)))) := by
          rw [Bool.eq_iff_iff]
          unfold goodF
          have := ext_iff d h f hf (by omega) hi'
          rw [Bool.and_eq_true] at this
          simp only [Bool.and_eq_true, decide_eq_true_eq, vH_iff]
          rw [hl] at this
          constructor
          · rintro ⟨h1, h2, h3⟩
            obtain ⟨h5, h6⟩ := this.1 ⟨h1, h3⟩
            exact ⟨h2, ⟨⟨by simp, by simp; omega⟩, h5⟩, h6⟩
          · rintro ⟨h2, ⟨_, h5⟩, h6⟩
            obtain ⟨h1, h3⟩ := this.2 ⟨h5, h6⟩
            exact ⟨h1, h2, h3⟩
        cases hb : fl.testBit f with
        | false => simp [hg, hb]
        | true =>
          cases hv : vH (h ++ [(f : Int)]) with
          | false => simp [hg, hb, hv]
          | true =>
            simp only [if_true, rmeans_eq _ hv, a3, a4, same_eq, Option.bind_some]
            cases hd : decide (meansL [] (h ++ [(f : Int)]) = d.take (i + 1)) with
            | false => simp [hg, hb, hv, hd]
            | true => simp [hg, hb, hv, hd, a5]
      · exact Nat.le_refl _
    · simp
end Go.Fw
namespace Go.Fw
def disL (x y : List Int) : Nat := (x.zip y).countP fun p => p.1 != p.2
theorem dis_loop {x y : List Int} (hl : x.length = y.length) (h4 : x.length ≤ 4) : rangeN (S := Int) (X := Int) (fun ik1 z2 =>
      ((
        (idx x (ik1 : Int)).bind (fun x1 =>
        (idx y (ik1 : Int)).bind (fun x2 =>
        ((
          (if (x1 != x2) = true then
            (addI z2 1).bind (fun t3 =>
            some t3)
          else
            some z2)) : Option (Int)).bind (fun s3 =>
        some s3)))) : Option (Int)).bind (fun s2 =>
      some (Step.cont s2))) (fun z2 => z2) (Int.toNat ((x.length : Nat) : Int)) 0 0 = some ((disL x y : Nat) : Int) := by
  rw [Int.toNat_natCast]
  obtain ⟨s', h1, h2⟩ := rangeN_inv (S := Int) (X := Int) (body := fun ik1 z2 => ((
        (idx x (ik1 : Int)).bind (fun x1 =>
        (idx y (ik1 : Int)).bind (fun x2 =>
        ((
          (if (x1 != x2) = true then
            (addI z2 1).bind (fun t3 =>
            some t3)
          else
            some z2)) : Option (Int)).bind (fun s3 =>
        some s3)))) : Option (Int)).bind (fun s2 =>
      some (Step.cont s2))) (fin := fun z2 => z2) (fun j s => s = ((((x.zip y).take j).countP fun p => p.1 != p.2 : Nat) : Int)) x.length 0 (fun j s hj hs => by
    subst hs
    have e1 : x[j]? = some x[j] := List.getElem?_eq_getElem hj
    have e2 : y[j]? = some y[j] := List.getElem?_eq_getElem (by omega)
    have e3 : (x.zip y)[j]? = some (x[j], y[j]) := by
      rw [List.getElem?_eq_getElem (by rw [List.length_zip]; omega), List.getElem_zip]
    have hc : ((x.zip y).take j).countP (fun p => p.1 != p.2) ≤ 4 := Nat.le_trans List.countP_le_length (by rw [List.length_take, List.length_zip]; omega)
    refine ⟨_, ?_, rfl⟩
    rw [idx_at e1, Option.bind_some, idx_at e2, Option.bind_some, List.take_add_one, e3, List.countP_append]
    simp only [Option.toList_some, List.countP_singleton]
    by_cases h : x[j] = y[j]
    · simp [h]
    · have : (x[j] != y[j]) = true := by simpa using h
      rw [if_pos this, if_pos this, addI_ok (by omega)]
      rfl) rfl
  rw [h1, h2]
  unfold disL
  rw [List.take_of_length_le (by rw [List.length_zip]; omega)]
def distV (a b : Int) : Int := if (digsOf a.toNat).length ≠ (digsOf b.toNat).length then 4 else ((disL (digsOf a.toNat) (digsOf b.toNat) : Nat) : Int)
theorem isN_le {a : Int} (h : isN a = true) : 0 ≤ a ∧ a ≤ 9999 := by
  unfold isN inB at h
  simp only [Bool.and_eq_true, decide_eq_true_eq] at h
  exact h
theorem isSet_eq (a : Int) : flag_isSet a = some (inB 0 8191 a) := by unfold flag_isSet; rw [within_eq]; rfl
theorem rset_eq (a : Int) : noongunref07_set a = some (inB 0 8191 a) := by
  unfold noongunref07_set inB
  congr 1
  rw [Bool.eq_iff_iff]
  simp only [Bool.and_eq_true, decide_eq_true_eq]
  omega
theorem set_nat {a : Int} (h : inB 0 8191 a = true) : ∃ fl : Nat, a = (fl : Int) ∧ fl < 8192 := by
  unfold inB at h
  simp only [Bool.and_eq_true, decide_eq_true_eq] at h
  exact ⟨a.toNat, by omega, by omega⟩
theorem can_eq (d : List Int) (fl : Nat) (hfl : fl < 8192) (hd : d.length ≤ 1000) : flag_can d (fl : Int) = some (!(RH d fl).isEmpty) := by
  unfold flag_can
  rw [hoists_eq d fl hfl hd, Option.bind_some]
  cases RH d fl with
  | nil => rfl
  | cons a l => rfl
theorem distance_eq {a b : Int} (ha : isN a = true) (hb : isN b = true) : flag_distance a b = some (distV a b) := by
  have hla := digsOf_len a.toNat (by have := isN_le ha; omega)
  unfold flag_distance
  rw [digitsOf_eq ha, Option.bind_some, digitsOf_eq hb, Option.bind_some]
  unfold distV
  by_cases hl : (digsOf a.toNat).length = (digsOf b.toNat).length
  · rw [if_neg (by simp [hl]), if_neg (by simp [hl]), dis_loop hl hla.2]
    rfl
  · rw [if_pos (by simp; omega), if_pos hl]
theorem rdistance_eq {a b : Int} (ha : isN a = true) (hb : isN b = true) : noongunref07_distance a b = some (distV a b) := by
  have hla := digsOf_len a.toNat (by have := isN_le ha; omega)
  unfold noongunref07_distance
  rw [rdigitsOf_eq ha, Option.bind_some, rdigitsOf_eq hb, Option.bind_some]
  unfold distV
  by_cases hl : (digsOf a.toNat).length = (digsOf b.toNat).length
  · rw [if_neg (by simp [hl]), if_neg (by simp [hl]), dis_loop hl hla.2]
    rfl
  · rw [if_pos (by simp; omega), if_pos hl]
theorem turned_eq {l : List Int} (h : l.length ≤ 4) : flag_turned l = some l.reverse := by
  unfold flag_turned slices_Clone_int turnL
  rw [appI_ok (by simp; omega)]
  simp only [Option.bind_some, List.nil_append]
  rw [if_pos (show l.length ≤ 1099511627776 by omega)]
  rfl
theorem rturned_eq {l : List Int} (h : l.length ≤ 4) : noongunref07_turned l = some l.reverse := by
  unfold noongunref07_turned
  have key : ∀ (l : List Int) (i : Int) (s : List Int), s.length + l.length ≤ 1000 → rangeL (α := Int) (S := (List Int)) (X := (List Int)) (fun _ yk1 z2 => (appI ([yk1] : List Int) z2).bind (fun t1 => some (Step.cont t1))) (fun z2 => z2) l i s = some (l.reverse ++ s) := by
    intro l
    induction l with
    | nil => intro i s _; simp [rangeL]
    | cons d l ih =>
      intro i s hs
      rw [List.length_cons] at hs
      rw [rangeL, appI_ok (by simp; omega)]
      simp only [Option.bind_some]
      rw [ih _ _ (by simp; omega)]
      simp
  rw [key l 0 [] (by simp; omega)]
  simp
/-! Pairs. -/
def rowF (p : GMeaning → GMeaning → Bool) (x : GMeaning) (l : List GMeaning) : List GArr2 := (l.filter fun y => p x y).map fun y => GArr2.mk x.Number y.Number
def prF (p : GMeaning → GMeaning → Bool) : List GMeaning → List GArr2
  | [] => []
  | x :: l => rowF p x l ++ prF p l
theorem row_loop {p : GMeaning → GMeaning → Bool} {a0 : List GMeaning} {x : GMeaning} {F : Int → GMeaning → List GArr2 → Option (Step (List GArr2) (List GArr2))}
    (hF : ∀ i, ∀ y ∈ a0, ∀ z, z.length ≤ 2000000 → F i y z = some (.cont (z ++ if p x y = true then [GArr2.mk x.Number y.Number] else []))) :
    ∀ (l : List GMeaning) (i : Int) (z : List GArr2), (∀ y ∈ l, y ∈ a0) → z.length + l.length ≤ 2000000 → rangeL (α := GMeaning) (S := List GArr2) (X := List GArr2) F (fun z => z) l i z = some (z ++ rowF p x l)
  | [], _, z, _, _ => by simp [rangeL, rowF]
  | y :: l, i, z, h, hz => by
    rw [List.length_cons] at hz
    rw [rangeL, hF i y (h y (by simp)) z (by omega)]
    dsimp only [Option.bind_some]
    rw [row_loop hF l (i + 1) _ (fun w hw => h w (by simp [hw])) (by rw [List.length_append]; split <;> simp <;> omega)]
    unfold rowF
    rw [List.filter_cons]
    split <;> simp
theorem pairs_loop {p : GMeaning → GMeaning → Bool} {a0 : List GMeaning} (hl : a0.length ≤ 1000) {F : GMeaning → Int → GMeaning → List GArr2 → Option (Step (List GArr2) (List GArr2))}
    (hF : ∀ x ∈ a0, ∀ i, ∀ y ∈ a0, ∀ z, z.length ≤ 2000000 → F x i y z = some (.cont (z ++ if p x y = true then [GArr2.mk x.Number y.Number] else []))) :
    rangeN (S := (List GArr2)) (X := (List GArr2)) (fun ik1 z2 =>
      ((
        (idx a0 (ik1 : Int)).bind (fun x1 =>
        (addI (ik1 : Int) 1).bind (fun t1 =>
        (cutI a0 t1 ((a0.length : Nat) : Int)).bind (fun t2 =>
        ((
          rangeL (α := GMeaning) (S := (List GArr2)) (X := (List GArr2)) (F x1) (fun z5 => z5) t2 0 z2) : Option ((List GArr2))).bind (fun s3 =>
        some s3))))) : Option ((List GArr2))).bind (fun s2 =>
      some (Step.cont s2))) (fun z2 => z2) (Int.toNat ((a0.length : Nat) : Int)) 0 ([] : List GArr2) = some (prF p a0) := by
  rw [Int.toNat_natCast]
  obtain ⟨s', h1, h2, h3⟩ := rangeN_inv (S := List GArr2) (X := List GArr2) (body := fun ik1 z2 =>
      ((
        (idx a0 (ik1 : Int)).bind (fun x1 =>
        (addI (ik1 : Int) 1).bind (fun t1 =>
        (cutI a0 t1 ((a0.length : Nat) : Int)).bind (fun t2 =>
        ((
          rangeL (α := GMeaning) (S := (List GArr2)) (X := (List GArr2)) (F x1) (fun z5 => z5) t2 0 z2) : Option ((List GArr2))).bind (fun s3 =>
        some s3))))) : Option ((List GArr2))).bind (fun s2 =>
      some (Step.cont s2))) (fin := fun z2 => z2) (fun j s => s ++ prF p (a0.drop j) = prF p a0 ∧ s.length ≤ j * 1000) a0.length [] (fun j s hj hs => by
    obtain ⟨hs1, hs2⟩ := hs
    have e1 : a0[j]? = some a0[j] := List.getElem?_eq_getElem hj
    have hd : a0.drop j = a0[j] :: a0.drop (j + 1) := List.drop_eq_getElem_cons hj
    have hm : a0[j] ∈ a0 := List.getElem_mem hj
    have hjm : j * 1000 ≤ 1000 * 1000 := Nat.mul_le_mul (by omega) (Nat.le_refl _)
    have hc : cutI a0 ((j : Int) + 1) ((a0.length : Nat) : Int) = some (a0.drop (j + 1)) := by
      have h : ((j : Int) + 1) = ((j + 1 : Nat) : Int) := by omega
      rw [h]
      unfold cutI
      rw [if_pos (by omega)]
      simp
    have hr : (rowF p a0[j] (a0.drop (j + 1))).length ≤ 1000 := by
      unfold rowF
      rw [List.length_map]
      exact Nat.le_trans (List.length_filter_le _ _) (by rw [List.length_drop]; omega)
    refine ⟨s ++ rowF p a0[j] (a0.drop (j + 1)), ?_, ?_, ?_⟩
    · rw [idx_at e1, Option.bind_some, addI_ok (by omega), Option.bind_some, hc, Option.bind_some,
        row_loop (hF a0[j] hm) (a0.drop (j + 1)) 0 s (fun y hy => List.mem_of_mem_drop hy) (by rw [List.length_drop]; omega)]
      rfl
    · rw [List.append_assoc, ← hs1, hd]
      rfl
    · rw [List.length_append]; omega) ⟨by simp, by simp⟩
  rw [h1]
  rw [List.drop_of_length_le (Nat.le_refl _)] at h2
  congr 1
  simpa [prF] using h2
def nearP (d : Int) (x y : GMeaning) : Bool := decide (distV x.Number y.Number < d)
def trapP (x y : GMeaning) : Bool := decide ((digsOf x.Number.toNat).reverse = digsOf y.Number.toNat)
def closeS (l : List GMeaning) (d : Int) : List GArr2 × Int := if vBk l = true then (if inB 1 4 d = true then (prF (nearP d) l, 0) else ([], 7)) else ([], 1)
def trapsS (l : List GMeaning) : List GArr2 × Int := if vBk l = true then (prF trapP l, 0) else ([], 1)
theorem pairs_eq {l : List GMeaning} (hl : l.length ≤ 1000) {q : Int → Int → Option Bool} {p : GMeaning → GMeaning → Bool} (hq : ∀ x ∈ l, ∀ y ∈ l, q x.Number y.Number = some (p x y)) : flag_pairs l q = some (prF p l) := by
  unfold flag_pairs
  have h := pairs_loop (p := p) hl (F := fun x1 ik2 yk2 z5 =>
          ((
            (q x1.Number yk2.Number).bind (fun t3 =>
            ((
              (if t3 = true then
                (appI z5 ([(GArr2.mk x1.Number yk2.Number)] : List GArr2)).bind (fun t4 =>
                some t4)
              else
                some z5)) : Option ((List GArr2))).bind (fun s5 =>
            some s5))) : Option ((List GArr2))).bind (fun s4 =>
          some (Step.cont s4))) (fun x hx i y hy z hz => by
    rw [hq x hx y hy, Option.bind_some]
    cases p x y with
    | true => rw [if_pos rfl, if_pos rfl, appI_ok (by simp; omega)]; rfl
    | false => rw [if_neg (by decide), if_neg (by decide), List.append_nil]; rfl)
  exact (congrArg (Option.bind · _) h).trans rfl
theorem rclose_eq {l : List GMeaning} (hl : l.length ≤ 1000) (hn : ∀ x ∈ l, isN x.Number = true) (d : Int) : rangeN (S := (List GArr2)) (X := (List GArr2)) (fun ik1 z2 =>
        ((
          (idx l (ik1 : Int)).bind (fun x1 =>
          (addI (ik1 : Int) 1).bind (fun t2 =>
          (cutI l t2 ((l.length : Nat) : Int)).bind (fun t3 =>
          ((
            rangeL (α := GMeaning) (S := (List GArr2)) (X := (List GArr2)) (fun ik2 yk2 z5 =>
              ((
                (noongunref07_distance x1.Number yk2.Number).bind (fun t4 =>
                ((
                  (if (decide (t4 < d)) = true then
                    (appI z5 ([(GArr2.mk x1.Number yk2.Number)] : List GArr2)).bind (fun t5 =>
                    some t5)
                  else
                    some z5)) : Option ((List GArr2))).bind (fun s5 =>
                some s5))) : Option ((List GArr2))).bind (fun s4 =>
              some (Step.cont s4))) (fun z5 => z5) t3 0 z2) : Option ((List GArr2))).bind (fun s3 =>
          some s3))))) : Option ((List GArr2))).bind (fun s2 =>
        some (Step.cont s2))) (fun z2 => z2) (Int.toNat ((l.length : Nat) : Int)) 0 ([] : List GArr2) = some (prF (nearP d) l) :=
  pairs_loop (p := nearP d) hl (F := fun x1 ik2 yk2 z5 =>
              ((
                (noongunref07_distance x1.Number yk2.Number).bind (fun t4 =>
                ((
                  (if (decide (t4 < d)) = true then
                    (appI z5 ([(GArr2.mk x1.Number yk2.Number)] : List GArr2)).bind (fun t5 =>
                    some t5)
                  else
                    some z5)) : Option ((List GArr2))).bind (fun s5 =>
                some s5))) : Option ((List GArr2))).bind (fun s4 =>
              some (Step.cont s4))) (fun x hx i y hy z hz => by
    rw [rdistance_eq (hn x hx) (hn y hy), Option.bind_some]
    show ((if nearP d x y = true then _ else _ : Option (List GArr2)).bind _).bind _ = _
    cases nearP d x y with
    | true => rw [if_pos rfl, if_pos rfl, appI_ok (by simp; omega)]; rfl
    | false => rw [if_neg (by decide), if_neg (by decide), List.append_nil]; rfl)
theorem rtraps_eq {l : List GMeaning} (hl : l.length ≤ 1000) (hn : ∀ x ∈ l, isN x.Number = true) : rangeN (S := (List GArr2)) (X := (List GArr2)) (fun ik1 z2 =>
      ((
        (idx l (ik1 : Int)).bind (fun x1 =>
        (addI (ik1 : Int) 1).bind (fun t2 =>
        (cutI l t2 ((l.length : Nat) : Int)).bind (fun t3 =>
        ((
          rangeL (α := GMeaning) (S := (List GArr2)) (X := (List GArr2)) (fun ik2 yk2 z5 =>
            ((
              (noongunref07_digitsOf x1.Number).bind (fun t4 =>
              (noongunref07_turned t4).bind (fun t5 =>
              (noongunref07_digitsOf yk2.Number).bind (fun t6 =>
              (noongunref07_SameInts t5 t6).bind (fun t7 =>
              ((
                (if t7 = true then
                  (appI z5 ([(GArr2.mk x1.Number yk2.Number)] : List GArr2)).bind (fun t8 =>
                  some t8)
                else
                  some z5)) : Option ((List GArr2))).bind (fun s5 =>
              some s5)))))) : Option ((List GArr2))).bind (fun s4 =>
            some (Step.cont s4))) (fun z5 => z5) t3 0 z2) : Option ((List GArr2))).bind (fun s3 =>
        some s3))))) : Option ((List GArr2))).bind (fun s2 =>
      some (Step.cont s2))) (fun z2 => z2) (Int.toNat ((l.length : Nat) : Int)) 0 ([] : List GArr2) = some (prF trapP l) :=
  pairs_loop (p := trapP) hl (F := fun x1 ik2 yk2 z5 =>
            ((
              (noongunref07_digitsOf x1.Number).bind (fun t4 =>
              (noongunref07_turned t4).bind (fun t5 =>
              (noongunref07_digitsOf yk2.Number).bind (fun t6 =>
              (noongunref07_SameInts t5 t6).bind (fun t7 =>
              ((
                (if t7 = true then
                  (appI z5 ([(GArr2.mk x1.Number yk2.Number)] : List GArr2)).bind (fun t8 =>
                  some t8)
                else
                  some z5)) : Option ((List GArr2))).bind (fun s5 =>
              some s5)))))) : Option ((List GArr2))).bind (fun s4 =>
            some (Step.cont s4))) (fun x hx i y hy z hz => by
    have h4 := digsOf_len x.Number.toNat (by have := isN_le (hn x hx); omega)
    rw [rdigitsOf_eq (hn x hx), Option.bind_some, rturned_eq h4.2, Option.bind_some, rdigitsOf_eq (hn y hy), Option.bind_some, same_eq, Option.bind_some]
    show ((if trapP x y = true then _ else _ : Option (List GArr2)).bind _).bind _ = _
    cases trapP x y with
    | true => rw [if_pos rfl, if_pos rfl, appI_ok (by simp; omega)]; rfl
    | false => rw [if_neg (by decide), if_neg (by decide), List.append_nil]; rfl)
theorem book_nums {l : List GMeaning} (h : vBk l = true) : ∀ x ∈ l, isN x.Number = true := fun x hx => vM_num ((book_facts h).1 x hx)
theorem Close_eq (l : List GMeaning) (d : Int) (hl : l.length ≤ 1000) (ht : ∀ x ∈ l, x.Text.size ≤ 70000) : flag_Close l d = some (closeS l d) := by
  unfold flag_Close closeS
  rw [ValidBook_eq l hl ht, Option.bind_some]
  cases hv : vBk l with
  | false => rfl
  | true =>
    have hn := book_nums hv
    rw [if_neg (by decide), if_pos rfl, within_eq, Option.bind_some]
    cases hd : inB 1 4 d with
    | false => rfl
    | true =>
      rw [if_neg (by decide), if_pos rfl, pairs_eq (p := nearP d) hl fun x hx y hy => by
        show (flag_distance x.Number y.Number).bind _ = _
        rw [distance_eq (hn x hx) (hn y hy)]
        rfl]
      rfl
theorem rClose_eq (l : List GMeaning) (d : Int) (hl : l.length ≤ 1000) (ht : ∀ x ∈ l, x.Text.size ≤ 70000) : noongunref07_Close l d = some (closeS l d) := by
  unfold noongunref07_Close closeS
  rw [rValidBook_eq l hl ht, Option.bind_some]
  cases hv : vBk l with
  | false => rfl
  | true =>
    have hn := book_nums hv
    rw [if_neg (by decide), if_pos rfl]
    have hd : (decide (d < 1) || decide (4 < d)) = !inB 1 4 d := by
      unfold inB
      rw [Bool.eq_iff_iff]
      simp only [Bool.or_eq_true, decide_eq_true_eq, Bool.not_eq_true', Bool.and_eq_false_iff, decide_eq_false_iff_not]
      omega
    rw [hd]
    cases inB 1 4 d with
    | false => rfl
    | true =>
      rw [if_neg (by decide), if_pos rfl]
      exact (congrArg (Option.bind · _) (rclose_eq hl hn d)).trans rfl
theorem equal_eq (a b : List Int) : slices_Equal_int a b = some (decide (a = b)) := by
  unfold slices_Equal_int
  exact same_fun (fun x y => x != y) (fun x y => by cases h : decide (x = y) <;> simp_all) a b
theorem Traps_eq (l : List GMeaning) (hl : l.length ≤ 1000) (ht : ∀ x ∈ l, x.Text.size ≤ 70000) : flag_Traps l = some (trapsS l) := by
  unfold flag_Traps trapsS
  rw [ValidBook_eq l hl ht, Option.bind_some]
  cases hv : vBk l with
  | false => rfl
  | true =>
    have hn := book_nums hv
    rw [if_neg (by decide), if_pos rfl, pairs_eq (p := trapP) hl fun x hx y hy => by
        have h4 := digsOf_len x.Number.toNat (by have := isN_le (hn x hx); omega)
        show flag_Traps_c1 x.Number y.Number = _
        unfold flag_Traps_c1
        rw [digitsOf_eq (hn x hx), Option.bind_some, turned_eq h4.2, Option.bind_some, digitsOf_eq (hn y hy), Option.bind_some, equal_eq]
        rfl]
    rfl
theorem rTraps_eq (l : List GMeaning) (hl : l.length ≤ 1000) (ht : ∀ x ∈ l, x.Text.size ≤ 70000) : noongunref07_Traps l = some (trapsS l) := by
  unfold noongunref07_Traps trapsS
  rw [rValidBook_eq l hl ht, Option.bind_some]
  cases hv : vBk l with
  | false => rfl
  | true =>
    have hn := book_nums hv
    rw [if_neg (by decide), if_pos rfl]
    exact (congrArg (Option.bind · _) (rtraps_eq hl hn)).trans rfl
/-! What is lost. -/
def noneP (fl : Nat) (m : GMeaning) : Bool := (RH (digsOf m.Number.toNat) fl).isEmpty
def lostL (fl : Nat) (l : List GMeaning) : List Int := (l.filter (noneP fl)).map fun m => m.Number
def lostS (l : List GMeaning) (a : Int) : List Int × Int := if vBk l = true then (if inB 0 8191 a = true then (lostL a.toNat l, 0) else ([], 7)) else ([], 1)
theorem lost_loop {fl : Nat} {F : Int → GMeaning → List Int → Option (Step (List Int) (List Int))} {a0 : List GMeaning} (hF : ∀ i, ∀ m ∈ a0, ∀ z, z.length ≤ 2000 → F i m z = some (.cont (z ++ if noneP fl m = true then [m.Number] else []))) :
    ∀ (l : List GMeaning) (i : Int) (z : List Int), (∀ y ∈ l, y ∈ a0) → z.length + l.length ≤ 2000 → rangeL (α := GMeaning) (S := List Int) (X := List Int) F (fun z => z) l i z = some (z ++ lostL fl l)
  | [], _, z, _, _ => by simp [rangeL, lostL]
  | y :: l, i, z, h, hz => by
    rw [List.length_cons] at hz
    rw [rangeL, hF i y (h y (by simp)) z (by omega)]
    dsimp only [Option.bind_some]
    rw [lost_loop hF l (i + 1) _ (fun w hw => h w (by simp [hw])) (by rw [List.length_append]; split <;> simp <;> omega)]
    unfold lostL
    rw [List.filter_cons]
    split <;> simp
theorem sortInts_of {xs : List Int} (h : xs.Pairwise fun a b => a < b) : sortInts xs = xs := by
  obtain ⟨h1, h2⟩ := srtOf_facts cmpI int_swo xs
  have hl := h1.length_eq
  have h3 : (srtOf cmpI xs).Pairwise fun a b => Go.Proofs.ltOf cmpI b a = false := by
    rw [List.pairwise_iff_getElem]
    intro i j hi hj hij
    have := h2 i j (Nat.zero_le _) hij (by rw [← hl]; exact hj)
    have hi' : i < (srtOf cmpI xs).toArray.size := by rw [List.size_toArray]; exact hi
    have hj' : j < (srtOf cmpI xs).toArray.size := by rw [List.size_toArray]; exact hj
    rw [getElem!_pos _ i hi', getElem!_pos _ j hj'] at this
    exact this
  unfold sortInts
  refine List.Perm.eq_of_pairwise (le := fun a b => Go.Proofs.ltOf cmpI b a = false) (fun a b _ _ e1 e2 => ?_) h3 (h.imp fun {a b} hab => ?_) h1
  · rw [int_lt, decide_eq_false_iff_not] at e1 e2
    omega
  · rw [int_lt, decide_eq_false_iff_not]
    omega
theorem Lost_eq (l : List GMeaning) (a : Int) (hl : l.length ≤ 1000) (ht : ∀ x ∈ l, x.Text.size ≤ 70000) : flag_Lost l a = some (lostS l a) := by
  unfold flag_Lost lostS
  rw [ValidBook_eq l hl ht, Option.bind_some]
  cases hv : vBk l with
  | false => rfl
  | true =>
    have hn := book_nums hv
    rw [if_neg (by decide), if_pos rfl, isSet_eq, Option.bind_some]
    cases ha : inB 0 8191 a with
    | false => rfl
    | true =>
      obtain ⟨fl, rfl, hfl⟩ := set_nat ha
      rw [if_neg (by decide), if_pos rfl]
      have h := lost_loop (fl := fl) (a0 := l) (F := fun ik1 yk1 z2 =>
        ((
          (flag_digitsOf yk1.Number).bind (fun t3 =>
          (flag_can t3 (fl : Int)).bind (fun t4 =>
          ((
            (if (!t4) = true then
              (appI z2 ([yk1.Number] : List Int)).bind (fun t5 =>
              some t5)
            else
              some z2)) : Option ((List Int))).bind (fun s3 =>
          some s3)))) : Option ((List Int))).bind (fun s2 =>
        some (Step.cont s2))) (fun i m hm z hz => by
        have h4 := digsOf_len m.Number.toNat (by have := isN_le (hn m hm); omega)
        rw [digitsOf_eq (hn m hm), Option.bind_some, can_eq _ fl hfl (by omega), Option.bind_some, Bool.not_not]
        show ((if noneP fl m = true then _ else _ : Option (List Int)).bind _).bind _ = _
        cases noneP fl m with
        | true => rw [if_pos rfl, if_pos rfl, appI_ok (by simp; omega)]; rfl
        | false => rw [if_neg (by decide), if_neg (by decide), List.append_nil]; rfl) l 0 [] (fun _ h => h) (by simp; omega)
      refine (congrArg (Option.bind · _) h).trans ?_
      dsimp only [Option.bind_some]
      rw [List.nil_append]
      have hp : (lostL fl l).Pairwise fun a b => a < b := by
        unfold lostL
        rw [List.pairwise_map]
        exact (book_facts hv).2.filter _
      have hlen : (lostL fl l).length ≤ 1000 := by
        unfold lostL
        rw [List.length_map]
        exact Nat.le_trans (List.length_filter_le _ _) hl
      unfold srtI
      rw [if_pos (by omega), sortInts_of hp]
      rfl
theorem rLost_eq (l : List GMeaning) (a : Int) (hl : l.length ≤ 1000) (ht : ∀ x ∈ l, x.Text.size ≤ 70000) : noongunref07_Lost l a = some (lostS l a) := by
  unfold noongunref07_Lost lostS
  rw [rValidBook_eq l hl ht, Option.bind_some]
  cases hv : vBk l with
  | false => rfl
  | true =>
    have hn := book_nums hv
    rw [if_neg (by decide), if_pos rfl, rset_eq, Option.bind_some]
    cases ha : inB 0 8191 a with
    | false => rfl
    | true =>
      obtain ⟨fl, rfl, hfl⟩ := set_nat ha
      rw [if_neg (by decide), if_pos rfl]
      have h := lost_loop (fl := fl) (a0 := l) (F := fun ik1 yk1 z2 =>
        ((
          (noongunref07_digitsOf yk1.Number).bind (fun t3 =>
          (noongunref07_hoists t3 (fl : Int)).bind (fun t4 =>
          ((
            (if (((t4.length : Nat) : Int) == 0) = true then
              (appI z2 ([yk1.Number] : List Int)).bind (fun t5 =>
              some t5)
            else
              some z2)) : Option ((List Int))).bind (fun s3 =>
          some s3)))) : Option ((List Int))).bind (fun s2 =>
        some (Step.cont s2))) (fun i m hm z hz => by
        have h4 := digsOf_len m.Number.toNat (by have := isN_le (hn m hm); omega)
        rw [rdigitsOf_eq (hn m hm), Option.bind_some, rhoists_eq _ fl hfl (vD_mk h4 (digsOf_dig _)), Option.bind_some]
        have he : ((((RH (digsOf m.Number.toNat) fl).length : Nat) : Int) == 0) = noneP fl m := by
          unfold noneP
          cases RH (digsOf m.Number.toNat) fl with
          | nil => rfl
          | cons x xs => simp; omega
        rw [he]
        cases noneP fl m with
        | true => rw [if_pos rfl, if_pos rfl, appI_ok (by simp; omega)]; rfl
        | false => rw [if_neg (by decide), if_neg (by decide), List.append_nil]; rfl) l 0 [] (fun _ h => h) (by simp; omega)
      exact (congrArg (Option.bind · _) h).trans rfl
theorem rangeN_unit {X : Type} {body : Int → Unit → Option (Step Unit X)} {fin : Unit → X} : ∀ (k i : Nat), (∀ j, i ≤ j → j < i + k → body (j : Int) () = some (.cont ())) → rangeN body fin k (i : Int) () = some (fin ())
  | 0, _, _ => rfl
  | k + 1, i, h => by
    rw [rangeN, h i (Nat.le_refl _) (by omega), Option.bind_some]
    exact rangeN_unit k (i + 1) fun j h1 h2 => h j (by omega) (by omega)
theorem rsamePairs_self (l : List GArr2) : noongunref07_SamePairs l l = some true := by
  unfold noongunref07_SamePairs
  rw [bne_self_eq_false, if_neg (by decide), Int.toNat_natCast]
  refine Eq.trans (congrArg (Option.bind · _) (rangeN_unit l.length 0 fun j _ hj => ?_)) rfl
  rw [idx_at (List.getElem?_eq_getElem (by omega)), Option.bind_some, Option.bind_some, beq_self_eq_true, if_neg (by decide)]
def fitM (x : GMeaning) : Bool := !decide (100 < ((x.Text.size : Nat) : Int))
theorem fitB_eq (l : List GMeaning) : noongunlaw07_fit l = some (l.all fitM && (decide (((l.length : Nat) : Int) ≤ 40) || (decide (200 ≤ ((l.length : Nat) : Int)) && decide (((l.length : Nat) : Int) ≤ 203)))) := by
  unfold noongunlaw07_fit
  rw [rangeL_search (p := fun x => !fitM x) (y := Ctl.ret false)]
  · have := not_any fitM l
    cases hh : l.any (fun x => !fitM x) with
    | true => rw [hh] at this; simp [← this]
    | false => rw [hh] at this; simp [← this]
  · intro i x s _
    unfold fitM
    rw [Bool.not_not]
    cases decide (100 < ((x.Text.size : Nat) : Int)) <;> rfl
theorem law_noongunlaw07_FlagTraps (a0 : (List GMeaning)) (_ : ∀ a ∈ a0, okGMeaning a) (_ : a0.length ≤ maxLen) (a1 : Int) (_ : inI a1 = true) (a2 : Int) (_ : inI a2 = true) : noongunlaw07_FlagTraps a0 a1 a2 = some true := by
  unfold noongunlaw07_FlagTraps
  rw [fitB_eq, Option.bind_some]
  split
  · rw [awake_eq]; rfl
  · rename_i hg
    simp only [Bool.not_eq_true', Bool.not_eq_false, Bool.and_eq_true, Bool.or_eq_true, decide_eq_true_eq] at hg
    obtain ⟨hall, hlen⟩ := hg
    have hl : a0.length ≤ 1000 := by omega
    have hsz : ∀ x ∈ a0, x.Text.size ≤ 70000 := by
      intro x hx
      have := List.all_eq_true.1 hall x hx
      unfold fitM at this
      simp only [Bool.not_eq_true', decide_eq_false_iff_not] at this
      omega
    rw [Close_eq a0 a1 hl hsz, rClose_eq a0 a1 hl hsz, Traps_eq a0 hl hsz, rTraps_eq a0 hl hsz, Lost_eq a0 a2 hl hsz, rLost_eq a0 a2 hl hsz]
    simp only [Option.bind_some]
    generalize closeS a0 a1 = c
    generalize trapsS a0 = t
    generalize lostS a0 a2 = s
    obtain ⟨c1, c2⟩ := c
    obtain ⟨t1, t2⟩ := t
    obtain ⟨s1, s2⟩ := s
    simp only [rsamePairs_self, same_eq, Option.bind_some, beq_self_eq_true, Bool.and_self, if_true, decide_true, awake_eq]
end Go.Fw
