/-
  TopVerdictHoisted, plain: its model gives true for whatever comes in. No condition.
-/
import Derived.Test.YtnkncedhanainaaGreatDoorM
import Derived.Test.YtnkncedhanainaaGreatDoorFwN
namespace Go.Fw
def inB (a b x : Int) : Bool := decide (a ≤ x) && decide (x ≤ b)
def vD (l : List Int) : Bool := inB 1 4 (l.length : Int) && l.all (inB 0 9)
theorem within_eq (a b c : Int) : flag_within a b c = some (inB b c a) := rfl
theorem indexFunc_eq (l : List Int) (f : Int → Option Bool) (p : Int → Bool) (h : ∀ x ∈ l, f x = some (p x)) : slices_ContainsFunc_int l f = some (l.any p) := by
  unfold slices_ContainsFunc_int slices_IndexFunc_int
  rw [index_loop p]
  · rw [← findIdx_any]
    cases l.findIdx? p with
    | none => rfl
    | some i => simp
  · intro i x hx
    simp only [idx_at hx, Option.bind_some, h x (List.mem_of_getElem? hx)]
    cases p x <;> rfl
theorem contains_eq (l : List Int) (x : Int) : slices_Contains_int l x = some (l.contains x) := by
  unfold slices_Contains_int slices_Index_int
  rw [index_loop (fun y => x == y)]
  · have : l.contains x = l.any (fun y => x == y) := by
      rw [List.contains_eq_any_beq]
    rw [this, ← findIdx_any]
    cases l.findIdx? (fun y => x == y) with
    | none => rfl
    | some i => simp
  · intro i y hy
    simp only [idx_at hy, Option.bind_some]
    cases (x == y) <;> rfl
theorem not_any {α : Type} (p : α → Bool) (l : List α) : (!l.any fun x => !p x) = l.all p := by
  induction l with
  | nil => rfl
  | cons x l ih => simp only [List.any_cons, List.all_cons, Bool.not_or, Bool.not_not, ih]
theorem listed_eq (l : List Int) (m : Int) : flag_listed l m = some (inB 1 4 (l.length : Int) && l.all (inB 0 m)) := by
  unfold flag_listed
  simp only [within_eq, Option.bind_some]
  rw [indexFunc_eq l (fun x0 => flag_listed_c1 x0 m) (fun x => !inB 0 m x) (fun x _ => by simp only [flag_listed_c1, within_eq, Option.bind_some])]
  simp only [Option.bind_some, not_any]
  cases inB 1 4 (l.length : Int) <;> simp
theorem ValidDigits_eq (l : List Int) : flag_ValidDigits l = some (vD l) := by
  unfold flag_ValidDigits
  rw [listed_eq]; rfl
/-- Is the flag wrong behind those before it? -/
def badF (pre : List Int) (x : Int) : Bool := pre.contains x || decide (10 ≤ x) && decide ((pre.length : Int) ≤ x - 10)
def vH (h : List Int) : Bool := inB 1 4 (h.length : Int) && h.all (inB 0 12) && !anyPre badF [] h
theorem ValidHoist_eq (h : List Int) : flag_ValidHoist h = some (vH h) := by
  unfold flag_ValidHoist vH
  rw [listed_eq]
  simp only [Option.bind_some]
  cases hl : (inB 1 4 (h.length : Int) && h.all (inB 0 12)) with
  | false => simp
  | true =>
    simp only [Bool.not_true, Bool.false_eq_true, if_false, Bool.true_and]
    have hall : h.all (inB 0 12) = true := by simp only [Bool.and_eq_true] at hl; exact hl.2
    rw [rangeN_pre (fun pre x _ => some (if badF pre x = true then .done (Ctl.ret false) else .cont ()))]
    · rw [preL_search badF (Ctl.ret false) [] h (fun pre x _ => rfl)]
      cases anyPre badF [] h <;> rfl
    · intro i x s hx
      have hi : i < h.length := (List.getElem?_eq_some_iff.1 hx).1
      have hx2 := List.all_eq_true.1 hall x (List.mem_of_getElem? hx)
      simp only [inB, Bool.and_eq_true, decide_eq_true_eq] at hx2
      simp only [idx_at hx, Option.bind_some, cutI_take h i (by omega), contains_eq, flag_place]
      rw [subI_ok (by omega)]
      unfold badF
      have hlen : (h.take i).length = i := by rw [List.length_take]; omega
      rw [hlen]
      cases (h.take i).contains x
      · by_cases h1 : 10 ≤ x
        · by_cases h2 : (i : Int) ≤ x - 10 <;> simp [h1, h2]
        · simp [h1]
      · simp
theorem anyPre_or {p q : List Int → Int → Bool} (pre l : List Int) (h : ∀ pre x, x ∈ l → p pre x = q pre x) : anyPre p pre l = anyPre q pre l := by
  induction l generalizing pre with
  | nil => rfl
  | cons x l ih => rw [anyPre, anyPre, h pre x (by simp), ih _ fun pre y hy => h pre y (by simp [hy])]
theorem anyPre_all (p : List Int → Int → Bool) (q : Int → Bool) (pre l : List Int) : anyPre (fun pre x => !q x || p pre x) pre l = (!l.all q || anyPre p pre l) := by
  induction l generalizing pre with
  | nil => rfl
  | cons x l ih =>
    rw [anyPre, ih, List.all_cons, anyPre]
    cases q x <;> cases p pre x <;> cases l.all q <;> simp
/-- What a hoist means, place by place. -/
def meansL (out : List Int) : List Int → List Int
  | [] => out
  | f :: h => meansL (out ++ [if 10 ≤ f then (idx out (f - 10)).getD 0 else f]) h
theorem means_loop (pre out h : List Int) (i : Int) (hv : anyPre badF pre h = false) (hp : pre.length = out.length) (hall : h.all (inB 0 12) = true) (hlen : out.length + h.length ≤ 1000) :
    rangeL (fun _ yk1 z2 => (((if (decide (10 ≤ yk1)) = true then (subI yk1 10).bind (fun t1 => (idx z2 t1).bind (fun x1 => some x1)) else some yk1) : Option Int).bind (fun s3 => (appI z2 ([s3] : List Int)).bind (fun t2 => some t2))).bind (fun s2 => some (Step.cont s2)))
      (fun z2 => z2) h i out = some (meansL out h) := by
  induction h generalizing out pre i with
  | nil => rfl
  | cons f h ih =>
    simp only [anyPre, Bool.or_eq_false_iff] at hv
    simp only [List.all_cons, Bool.and_eq_true] at hall
    simp only [List.length_cons] at hlen
    have hf := hall.1
    simp only [inB, Bool.and_eq_true, decide_eq_true_eq] at hf
    have hval : ((if (decide (10 ≤ f)) = true then (subI f 10).bind (fun t1 => (idx out t1).bind (fun x1 => some x1)) else some f) : Option Int) = some (if 10 ≤ f then (idx out (f - 10)).getD 0 else f) := by
      by_cases h1 : 10 ≤ f
      · have h2 := hv.1
        simp only [badF, Bool.or_eq_false_iff, h1, decide_true, Bool.true_and, decide_eq_false_iff_not, hp] at h2
        rw [if_pos (by simpa using h1), subI_ok (by omega), if_pos h1]
        simp only [Option.bind_some]
        rw [idx_int (by omega) (by omega)]
        rfl
      · rw [if_neg (by simpa using h1), if_neg h1]
    rw [rangeL, hval]
    simp only [Option.bind_some]
    rw [appI_ok (by simp; omega)]
    simp only [Option.bind_some]
    rw [ih (pre ++ [f]) _ _ hv.2 (by simp [hp]) hall.2 (by simp; omega)]
    rfl
theorem vH_parts {h : List Int} (hv : vH h = true) : 1 ≤ h.length ∧ h.length ≤ 4 ∧ h.all (inB 0 12) = true ∧ anyPre badF [] h = false := by
  simp only [vH, inB, Bool.and_eq_true, decide_eq_true_eq, Bool.not_eq_true'] at hv
  exact ⟨by omega, by omega, hv.1.2, hv.2⟩
theorem means_eq (h : List Int) (hv : vH h = true) : flag_means h = some (meansL [] h) := by
  obtain ⟨_, h2, h3, h4⟩ := vH_parts hv
  unfold flag_means
  simp only [flag_place]
  have := means_loop [] [] h 0 h4 rfl h3 (by simp; omega)
  simp only [Option.bind_assoc, Option.bind_some] at this ⊢
  rw [this]
  rfl
def meansR (h : List Int) : List Int × Int := if vH h = true then (meansL [] h, 0) else ([], 1)
theorem clone_eq (l : List Int) (h : l.length ≤ 1099511627776) : slices_Clone_int l = some l := by
  unfold slices_Clone_int
  rw [appI_ok (by simpa using h)]
  rfl
theorem hoist_ex : flag_Hoist [1, 2, 1, 1] = some ([1, 2, 10, 12], 0) := by
  unfold flag_Hoist
  have h1 : flag_ValidDigits [1, 2, 1, 1] = some true := by rw [ValidDigits_eq]; rfl
  rw [h1]
  simp only [Option.bind_some, Bool.not_true, Bool.false_eq_true, if_false]
  have e : ∀ (f : Int → List Int → Option (Step (List Int) (List Int))) (g : List Int → List Int) (s0 s1 s2 s3 s4 : List Int), f 0 s0 = some (.cont s1) → f 1 s1 = some (.cont s2) → f 2 s2 = some (.cont s3) → f 3 s3 = some (.cont s4) →
      rangeN f g (Int.toNat ((([1, 2, 1, 1] : List Int).length : Nat) : Int)) 0 s0 = some (g s4) := by
    intro f g s0 s1 s2 s3 s4 h0 h1 h2 h3
    show rangeN f g 4 0 s0 = _
    simp only [rangeN, h0, Option.bind_some]
    rw [show (0 : Int) + 1 = 1 from rfl, h1]
    simp only [Option.bind_some]
    rw [show (1 : Int) + 1 = 2 from rfl, h2]
    simp only [Option.bind_some]
    rw [show (2 : Int) + 1 = 3 from rfl, h3]
    rfl
  rw [e _ _ [] [1] [1, 2] [1, 2, 10] [1, 2, 10, 12]]
  · rfl
  · rfl
  · rfl
  · rw [show idx ([1, 2, 1, 1] : List Int) 2 = some 1 from rfl]
    simp only [Option.bind_some]
    rw [show slices_Contains_int [1, 2] 1 = some true from rfl]
    simp only [Option.bind_some, if_true]
    rw [loopR_done (x := (10 : Int)) (by rfl)]
    rfl
  · rw [show idx ([1, 2, 1, 1] : List Int) 3 = some 1 from rfl]
    simp only [Option.bind_some]
    rw [show slices_Contains_int [1, 2, 10] 1 = some true from rfl]
    simp only [Option.bind_some, if_true]
    rw [loopR_cont (11 : Int) (by rfl), loopR_cont (12 : Int) (by rfl), loopR_done (x := (12 : Int)) (by rfl)]
    rfl
end Go.Fw
namespace Go.Fw
theorem digsOf_step (u : Nat) : digsOf u = if u < 10 then [(u : Int)] else digsOf (u / 10) ++ [((u % 10 : Nat) : Int)] := by
  unfold digsOf
  rw [Lib.decDigits]
  split
  · rename_i h
    simp only [List.map_cons, List.map_nil]
    rw [UInt8.toNat_ofNat']
    congr 1; omega
  · rename_i h
    simp only [List.map_append, List.map_cons, List.map_nil]
    rw [UInt8.toNat_ofNat']
    congr 2; omega
theorem digsOf_len (u : Nat) (h : u ≤ 9999) : 1 ≤ (digsOf u).length ∧ (digsOf u).length ≤ 4 := by
  have k1 : ∀ u, u < 10 → (digsOf u).length = 1 := fun u h => by rw [digsOf_step, if_pos h]; rfl
  have step : ∀ u, ¬ u < 10 → (digsOf u).length = (digsOf (u / 10)).length + 1 := fun u h => by rw [digsOf_step, if_neg h]; simp
  by_cases h1 : u < 10
  · rw [k1 u h1]; omega
  · rw [step u h1]
    by_cases h2 : u / 10 < 10
    · rw [k1 _ h2]; omega
    · rw [step _ h2]
      by_cases h3 : u / 10 / 10 < 10
      · rw [k1 _ h3]; omega
      · rw [step _ h3, k1 (u / 10 / 10 / 10) (by omega)]; omega
theorem digsOf_dig (u : Nat) : ∀ d ∈ digsOf u, 0 ≤ d ∧ d ≤ 9 := by
  intro d hd
  unfold digsOf at hd
  obtain ⟨b, hb, rfl⟩ := List.mem_map.1 hd
  have := dec_bytes u b hb
  omega
def numF (l : List Int) : Int := l.foldl (fun z d => 10 * z + d) 0
theorem numF_digs (u : Nat) : numF (digsOf u) = (u : Int) := by
  induction u using Nat.strongRecOn with
  | ind u ih =>
    rw [digsOf_step]
    by_cases h : u < 10
    · rw [if_pos h]; simp [numF]
    · rw [if_neg h]
      have := ih (u / 10) (by omega)
      unfold numF at this ⊢
      rw [List.foldl_append, this]
      simp only [List.foldl_cons, List.foldl_nil]
      omega
theorem num_loop : ∀ (l : List Int) (i z : Int), (∀ d ∈ l, 0 ≤ d ∧ d ≤ 9) → l.length ≤ 4 → (0 ≤ z ∧ z ≤ 99999) →
    rangeL (α := Int) (S := Int) (X := Int) (fun _ yk1 z2 => (mulI 10 z2).bind (fun t1 => (addI t1 yk1).bind (fun t2 => some (Step.cont t2)))) (fun z2 => z2) l i z = some (l.foldl (fun z d => 10 * z + d) z) := by
  have key : ∀ (l : List Int) (i z B : Int), (∀ d ∈ l, 0 ≤ d ∧ d ≤ 9) → (0 ≤ z ∧ (z + 1) * 10 ^ l.length ≤ 1000000000000) → rangeL (α := Int) (S := Int) (X := Int) (fun _ yk1 z2 => (mulI 10 z2).bind (fun t1 => (addI t1 yk1).bind (fun t2 => some (Step.cont t2)))) (fun z2 => z2) l i z = some (l.foldl (fun z d => 10 * z + d) z) := by
    intro l
    induction l with
    | nil => intro i z B _ _; rfl
    | cons d l ih =>
      intro i z B h hz
      have hd := h d (by simp)
      have hp : (1 : Int) ≤ 10 ^ l.length := by
        have := Nat.one_le_pow l.length 10 (by omega)
        exact_mod_cast this
      rw [List.length_cons, Int.pow_succ] at hz
      have hz2 : (z + 1) * 10 * 10 ^ l.length ≤ 1000000000000 := by
        have : (z + 1) * (10 ^ l.length * 10) = (z + 1) * 10 * 10 ^ l.length := by rw [Int.mul_comm (10 ^ l.length) 10, Int.mul_assoc]
        omega
      have hb : (z + 1) * 10 * 1 ≤ (z + 1) * 10 * 10 ^ l.length := Int.mul_le_mul_of_nonneg_left hp (by omega)
      rw [rangeL, mulI_ok (by omega), Option.bind_some, addI_ok (by omega), List.foldl_cons]
      simp only [Option.bind_some]
      refine ih (i + 1) (10 * z + d) B (fun e he => h e (by simp [he])) ⟨by omega, ?_⟩
      have : (10 * z + d + 1) * 10 ^ l.length ≤ (z + 1) * 10 * 10 ^ l.length := Int.mul_le_mul_of_nonneg_right (by omega) (by omega)
      omega
  intro l i z h hl hz
  refine key l i z 0 h ⟨hz.1, ?_⟩
  have h1 : (10 : Int) ^ l.length ≤ 10 ^ 4 := by
    have := Nat.pow_le_pow_right (n := 10) (by omega) hl
    exact_mod_cast this
  have h2 : (z + 1) * 10 ^ l.length ≤ 100000 * 10 ^ 4 := Int.mul_le_mul (by omega) h1 (by have : (0 : Int) ≤ 10 ^ l.length := Int.pow_nonneg (by omega); exact this) (by omega)
  omega
def isN (n : Int) : Bool := inB 0 9999 n
theorem isNumber_eq (n : Int) : flag_isNumber n = some (isN n) := rfl
theorem digitsOf_eq {n : Int} (h : isN n = true) : flag_digitsOf n = some (digsOf n.toNat) := by
  unfold isN inB at h
  simp only [Bool.and_eq_true, decide_eq_true_eq] at h
  unfold flag_digitsOf
  rw [if_pos (by omega)]
theorem vD_parts {l : List Int} (h : vD l = true) : (1 ≤ l.length ∧ l.length ≤ 4) ∧ ∀ d ∈ l, 0 ≤ d ∧ d ≤ 9 := by
  unfold vD inB at h
  simp only [Bool.and_eq_true, decide_eq_true_eq, List.all_eq_true] at h
  exact ⟨by omega, h.2⟩
theorem vD_mk {l : List Int} (h1 : 1 ≤ l.length ∧ l.length ≤ 4) (h2 : ∀ d ∈ l, 0 ≤ d ∧ d ≤ 9) : vD l = true := by
  unfold vD inB
  simp only [Bool.and_eq_true, decide_eq_true_eq, List.all_eq_true]
  exact ⟨by omega, h2⟩
end Go.Fw
namespace Go.Fw
def goodB (b : UInt8) : Bool := decide (32 ≤ b.toNat) && decide (b.toNat ≤ 126)
def vText (s : ByteArray) : Bool := (bytes s).all goodB
theorem byte_get {s : ByteArray} {p : Nat} (h : p < s.size) : (s.get! p) = (bytes s)[p]'h := by
  show s.data[p]! = s.data.toList[p]
  rw [getElem!_pos s.data p h]
  rfl
theorem dec_small {s : ByteArray} {p : Nat} (h : p < s.size) (hb : ((bytes s)[p]'h).toNat < 128) : Utf8.decode s p = (((bytes s)[p]'h).toNat, 1) := by
  unfold Utf8.decode
  simp only [Nat.add_zero, byte_get h, hb, if_true]
theorem dec_big {s : ByteArray} {p : Nat} (h : p < s.size) (hb : ¬ ((bytes s)[p]'h).toNat < 128) : 128 ≤ (Utf8.decode s p).1 := by
  unfold Utf8.decode
  simp only [Nat.add_zero, byte_get h, hb, if_false, Utf8.runeError]
  repeat' split
  all_goals simp_all
  all_goals omega
theorem inB_iff' {a b x : Int} : inB a b x = true ↔ a ≤ x ∧ x ≤ b := by simp [inB]
theorem isN_le' {a : Int} (h : isN a = true) : 0 ≤ a ∧ a ≤ 9999 := inB_iff'.1 h
theorem find_congr {α : Type} {p q : α → Bool} : ∀ {l : List α}, (∀ x ∈ l, p x = q x) → l.find? p = l.find? q
  | [], _ => rfl
  | x :: l, h => by
    rw [List.find?_cons, List.find?_cons, h x (by simp), find_congr fun y hy => h y (by simp [hy])]
theorem runes_eq (s : ByteArray) : ∀ (n p : Nat), s.size + 1 ≤ n + p → ∃ k : Int, idxR (fun x0 => flag_ValidBook_c1 x0) true (runesL s n p) = some k ∧ decide (0 ≤ k) = !((bytes s).drop p).all goodB
  | 0, p, h => ⟨-1, rfl, by rw [List.drop_of_length_le (by rw [bytes_len]; omega)]; rfl⟩
  | n + 1, p, h => by
    by_cases hp : p < s.size
    · have hd : (bytes s).drop p = (bytes s)[p]'hp :: (bytes s).drop (p + 1) := List.drop_eq_getElem_cons (by rw [bytes_len]; exact hp)
      rw [runesL, if_pos hp, hd, List.all_cons, idxR]
      by_cases hb : ((bytes s)[p]'hp).toNat < 128
      · rw [dec_small hp hb]
        unfold flag_ValidBook_c1
        cases hg : goodB ((bytes s)[p]'hp) with
        | true =>
          have : ((decide (((((bytes s)[p]'hp).toNat : Nat) : Int) < 32)) || (decide (126 < ((((bytes s)[p]'hp).toNat : Nat) : Int)))) = false := by
            unfold goodB at hg
            simp only [Bool.and_eq_true, decide_eq_true_eq] at hg
            simp only [Bool.or_eq_false_iff, decide_eq_false_iff_not]
            omega
          simp only [this, Option.bind_some, Bool.true_and]
          exact runes_eq s n (p + 1) (by omega)
        | false =>
          have : ((decide (((((bytes s)[p]'hp).toNat : Nat) : Int) < 32)) || (decide (126 < ((((bytes s)[p]'hp).toNat : Nat) : Int)))) = true := by
            unfold goodB at hg
            simp only [Bool.and_eq_false_iff, decide_eq_false_iff_not] at hg
            simp only [Bool.or_eq_true, decide_eq_true_eq]
            omega
          simp only [this, Option.bind_some, Bool.false_and, Bool.not_false]
          exact ⟨(p : Int), by simp, by simp⟩
      · have hbig := dec_big hp hb
        have hg : goodB ((bytes s)[p]'hp) = false := by
          unfold goodB
          simp only [Bool.and_eq_false_iff, decide_eq_false_iff_not]
          omega
        unfold flag_ValidBook_c1
        have : ((decide (((Utf8.decode s p).1 : Int) < 32)) || (decide (126 < ((Utf8.decode s p).1 : Int)))) = true := by
          simp only [Bool.or_eq_true, decide_eq_true_eq]
          omega
        simp only [this, hg, Option.bind_some, Bool.false_and, Bool.not_false]
        exact ⟨(p : Int), by simp, by simp⟩
    · refine ⟨-1, ?_, by rw [List.drop_of_length_le (by rw [bytes_len]; omega)]; rfl⟩
      rw [runesL, if_neg hp]; rfl
theorem text_eq (s : ByteArray) (h : s.size ≤ 70000) : strings_ContainsFunc s (fun x0 => flag_ValidBook_c1 x0) = some (!vText s) := by
  unfold strings_ContainsFunc strings_IndexFunc strings_indexFunc
  rw [if_pos (by omega)]
  obtain ⟨k, h1, h2⟩ := runes_eq s (s.size + 1) 0 (by omega)
  rw [h1]
  simp only [Option.bind_some, h2, List.drop_zero]
  rfl
def vM (x : GMeaning) : Bool := isN x.Number && (inB 1 60 ((x.Text.size : Nat) : Int) && vText x.Text)
def lateB (pre : List GMeaning) (x : GMeaning) : Bool := match pre.getLast? with | some y => decide (x.Number ≤ y.Number) | none => false
def badM (pre : List GMeaning) (x : GMeaning) : Bool := !vM x || lateB pre x
def vBk (l : List GMeaning) : Bool := !anyPre badM [] l && decide (((l.length : Nat) : Int) ≤ 200)
theorem late_eq {l : List GMeaning} (hl : l.length ≤ 1000) {i : Nat} {x : GMeaning} (hx : l[i]? = some x) : (((if (decide (0 < (i : Int))) = true then (subI (i : Int) 1).bind (fun t2 => (idx l t2).bind (fun x2 => some (decide (x.Number ≤ x2.Number)))) else some false)) : Option Bool) = some (lateB (l.take i) x) := by
  have hi := (List.getElem?_eq_some_iff.1 hx).1
  unfold lateB
  cases i with
  | zero => simp
  | succ i =>
    have hi2 : i < l.length := by omega
    have e1 : l[i]? = some l[i] := List.getElem?_eq_getElem hi2
    have hg : (l.take (i + 1)).getLast? = some l[i] := by
      rw [List.getLast?_eq_getElem?, List.length_take, List.getElem?_take]
      have : min (i + 1) l.length - 1 = i := by omega
      rw [if_pos (by omega), this, e1]
    have hs : subI ((i + 1 : Nat) : Int) 1 = some (i : Int) := by
      rw [subI_ok (by omega)]; congr 1; omega
    rw [hg, if_pos (decide_eq_true (by omega)), hs, Option.bind_some, idx_at e1]
    rfl
theorem ValidBook_eq (l : List GMeaning) (hl : l.length ≤ 1000) (ht : ∀ x ∈ l, x.Text.size ≤ 70000) : flag_ValidBook l = some (vBk l) := by
  unfold flag_ValidBook vBk
  rw [rangeN_pre (fun pre x _ => if x ∈ l then some (if badM pre x = true then .done (Ctl.ret false) else .cont ()) else none)]
  · rw [preL_search badM (Ctl.ret false) [] l (fun pre x hx => by rw [if_pos hx])]
    cases anyPre badM [] l <;> simp
  · intro i x s hx
    have hmem := List.mem_of_getElem? hx
    have hsz := ht x hmem
    rw [if_pos hmem, idx_at hx, Option.bind_some, isNumber_eq, Option.bind_some, text_eq _ hsz]
    have hlate := late_eq hl hx
    simp only [hlate, Option.bind_some, within_eq]
    unfold badM vM
    cases isN x.Number <;> cases lateB (l.take i) x <;> cases inB 1 60 ((x.Text.size : Nat) : Int) <;> cases vText x.Text <;> rfl
/-- In a valid book each meaning is valid, and the numbers rise. -/
theorem book_sorted : ∀ (l pre : List GMeaning), anyPre badM pre l = false → (∀ x ∈ l, vM x = true) ∧ l.Pairwise (fun x y => x.Number < y.Number) ∧ ∀ y, pre.getLast? = some y → ∀ x ∈ l, y.Number < x.Number
  | [], _, _ => ⟨by simp, List.Pairwise.nil, by simp⟩
  | x :: l, pre, h => by
    rw [anyPre, Bool.or_eq_false_iff] at h
    obtain ⟨h1, h2⟩ := h
    obtain ⟨g1, g2, g3⟩ := book_sorted l (pre ++ [x]) h2
    unfold badM at h1
    rw [Bool.or_eq_false_iff] at h1
    have hx := g3 x (by simp)
    refine ⟨fun y hy => ?_, List.pairwise_cons.2 ⟨hx, g2⟩, fun y hy z hz => ?_⟩
    · rcases List.mem_cons.1 hy with rfl | hy
      · simpa using h1.1
      · exact g1 y hy
    · have hyx : y.Number < x.Number := by
        have := h1.2
        unfold lateB at this
        rw [hy] at this
        simp only [decide_eq_false_iff_not] at this
        omega
      rcases List.mem_cons.1 hz with rfl | hz
      · exact hyx
      · have := hx z hz; omega
theorem vM_num {x : GMeaning} (h : vM x = true) : isN x.Number = true := by
  unfold vM at h
  rw [Bool.and_eq_true] at h
  exact h.1
theorem book_facts {l : List GMeaning} (h : vBk l = true) : (∀ x ∈ l, vM x = true) ∧ l.Pairwise (fun x y => x.Number < y.Number) := by
  unfold vBk at h
  rw [Bool.and_eq_true] at h
  obtain ⟨g1, g2, _⟩ := book_sorted l [] (by simpa using h.1)
  exact ⟨g1, g2⟩
end Go.Fw
namespace Go.Fw

/-! Bits. -/
theorem ofInt_nat (a : Nat) : BitVec.ofInt 64 (a : Int) = BitVec.ofNat 64 a := by
  apply BitVec.eq_of_toNat_eq
  simp
theorem bits_and (a b : Nat) (ha : a < 2 ^ 62) (hb : b < 2 ^ 62) : bits .and .i64 (a : Int) (b : Int) = ((a &&& b : Nat) : Int) := by
  unfold bits
  have hle : a &&& b ≤ a := Nat.and_le_left
  show IntKind.i64.wrap (((BitVec.ofInt 64 (a : Int) &&& BitVec.ofInt 64 (b : Int)).toNat : Nat) : Int) = _
  rw [ofInt_nat, ofInt_nat, BitVec.toNat_and, BitVec.toNat_ofNat, BitVec.toNat_ofNat, Nat.mod_eq_of_lt (by omega), Nat.mod_eq_of_lt (by omega), wrap_inI (by rw [inI_iff]; omega)]
theorem bits_or (a b : Nat) (ha : a < 2 ^ 62) (hb : b < 2 ^ 62) : bits .or .i64 (a : Int) (b : Int) = ((a ||| b : Nat) : Int) := by
  unfold bits
  have hle : a ||| b < 2 ^ 62 := Nat.or_lt_two_pow ha hb
  show IntKind.i64.wrap (((BitVec.ofInt 64 (a : Int) ||| BitVec.ofInt 64 (b : Int)).toNat : Nat) : Int) = _
  rw [ofInt_nat, ofInt_nat, BitVec.toNat_or, BitVec.toNat_ofNat, BitVec.toNat_ofNat, Nat.mod_eq_of_lt (by omega), Nat.mod_eq_of_lt (by omega), wrap_inI (by rw [inI_iff]; omega)]
def andNotN (a b : Nat) : Nat := (BitVec.ofNat 64 a &&& ~~~ BitVec.ofNat 64 b).toNat
theorem andNotN_bit (a b : Nat) (ha : a < 2 ^ 62) (i : Nat) : (andNotN a b).testBit i = (a.testBit i && !b.testBit i) := by
  unfold andNotN
  rw [BitVec.testBit_toNat, BitVec.getLsbD_and, BitVec.getLsbD_not, BitVec.getLsbD_ofNat, BitVec.getLsbD_ofNat]
  by_cases h : i < 64
  · simp [h]
  · have : a.testBit i = false := Nat.testBit_lt_two_pow (Nat.lt_of_lt_of_le ha (Nat.pow_le_pow_right (by decide) (by omega)))
    simp [h, this]
theorem andNotN_le (a b : Nat) : andNotN a b ≤ a := by
  unfold andNotN
  rw [BitVec.toNat_and, BitVec.toNat_ofNat]
  exact Nat.le_trans Nat.and_le_left (Nat.mod_le _ _)
theorem bits_andNot (a b : Nat) (ha : a < 2 ^ 62) : bits .andNot .i64 (a : Int) (b : Int) = ((andNotN a b : Nat) : Int) := by
  have hle := andNotN_le a b
  unfold bits
  show IntKind.i64.wrap (((BitVec.ofInt 64 (a : Int) &&& ~~~ BitVec.ofInt 64 (b : Int)).toNat : Nat) : Int) = _
  rw [ofInt_nat, ofInt_nat, show (BitVec.ofNat 64 a &&& ~~~ BitVec.ofNat 64 b).toNat = andNotN a b from rfl, wrap_inI (by rw [inI_iff]; omega)]
theorem bit_of (a f : Nat) (ha : a < 2 ^ 62) : (bits .and .i64 ((a : Int) / 2 ^ f) 1 == 0) = !a.testBit f := by
  have e : ((a : Int) / 2 ^ f) = ((a / 2 ^ f : Nat) : Int) := by push_cast; rfl
  have hle : a / 2 ^ f ≤ a := Nat.div_le_self _ _
  rw [e, show (1 : Int) = ((1 : Nat) : Int) from rfl, bits_and _ _ (by omega) (by decide), Nat.and_one_is_mod, Nat.testBit_eq_decide_div_mod_eq]
  rcases Nat.mod_two_eq_zero_or_one (a / 2 ^ f) with h | h <;> rw [h] <;> rfl
theorem bit_of1 (a f : Nat) (ha : a < 2 ^ 62) : (bits .and .i64 ((a : Int) / 2 ^ f) 1 == 1) = a.testBit f := by
  have e : ((a : Int) / 2 ^ f) = ((a / 2 ^ f : Nat) : Int) := by push_cast; rfl
  have hle : a / 2 ^ f ≤ a := Nat.div_le_self _ _
  rw [e, show (1 : Int) = ((1 : Nat) : Int) from rfl, bits_and _ _ (by omega) (by decide), Nat.and_one_is_mod, Nat.testBit_eq_decide_div_mod_eq]
  rcases Nat.mod_two_eq_zero_or_one (a / 2 ^ f) with h | h <;> rw [h] <;> rfl
theorem shr_of (a : Int) (f : Nat) (hf : f < 13) : shrI a (f : Int) = some (a / 2 ^ f) := by
  unfold shrI
  rw [if_pos (by omega), Int.toNat_natCast]
theorem shl_of (f : Nat) (hf : f < 13) : shlI 1 (f : Int) = some (((2 ^ f : Nat)) : Int) := by
  unfold shlI
  have : ∀ y : Nat, y < 13 → inI (1 * 2 ^ y) = true := by decide
  rw [if_pos ⟨by omega, by rw [Int.toNat_natCast]; exact this f hf⟩, Int.toNat_natCast, Int.one_mul]
  push_cast; rfl
theorem pow13 (f : Nat) (hf : f < 13) : 2 ^ f < 8192 := by
  have : 2 ^ f ≤ 2 ^ 12 := Nat.pow_le_pow_right (by decide) (by omega)
  have e : (2 : Nat) ^ 12 = 4096 := by decide
  omega

/-! Lists. -/
theorem flatMap_cg {α β : Type} {l : List α} {f g : α → List β} (h : ∀ x ∈ l, f x = g x) : l.flatMap f = l.flatMap g := by
  induction l with
  | nil => rfl
  | cons a l ih => rw [List.flatMap_cons, List.flatMap_cons, h a (by simp), ih fun x hx => h x (by simp [hx])]
theorem anyPre_snoc {α : Type} (p : List α → α → Bool) (pre l : List α) (x : α) : anyPre p pre (l ++ [x]) = (anyPre p pre l || p (pre ++ l) x) := by
  induction l generalizing pre with
  | nil => simp [anyPre]
  | cons a l ih => rw [List.cons_append, anyPre, anyPre, ih, List.append_assoc, List.singleton_append, Bool.or_assoc]
theorem anyPre_app {α : Type} (p : List α → α → Bool) (pre l m : List α) : anyPre p pre (l ++ m) = (anyPre p pre l || anyPre p (pre ++ l) m) := by
  induction l generalizing pre with
  | nil => simp [anyPre]
  | cons a l ih => rw [List.cons_append, anyPre, anyPre, ih, List.append_assoc, List.singleton_append, Bool.or_assoc]
theorem meansL_app (out a b : List Int) : meansL out (a ++ b) = meansL (meansL out a) b := by
  induction a generalizing out with
  | nil => rfl
  | cons f a ih => rw [List.cons_append, meansL, meansL, ih]
theorem meansL_len (out a : List Int) : (meansL out a).length = out.length + a.length := by
  induction a generalizing out with
  | nil => rfl
  | cons f a ih => rw [meansL, ih]; simp; omega
theorem meansL_pre (out a : List Int) : (meansL out a).take out.length = out := by
  induction a generalizing out with
  | nil => rw [meansL, List.take_length]
  | cons f a ih =>
    rw [meansL]
    have h := congrArg (fun l => l.take out.length) (ih (out ++ [if 10 ≤ f then (idx out (f - 10)).getD 0 else f]))
    simp only [List.take_take, List.length_append, List.length_cons, List.length_nil] at h
    rw [Nat.min_eq_left (by omega), List.take_append_of_le_length (Nat.le_refl _), List.take_length] at h
    exact h
/-- A count that only adds to a list. -/
theorem rangeN_flat {β : Type} {body : Int → List β → Option (Step (List β) (List β))} (g : Nat → List β) (M k : Nat) (s : List β) (hg : ∀ j, j < k → (g j).length ≤ 1)
    (hb : ∀ j s, j < k → s.length ≤ M + k → body (j : Int) s = some (.cont (s ++ g j))) (hs : s.length ≤ M) : rangeN body (fun z => z) k 0 s = some (s ++ (List.range k).flatMap g) := by
  obtain ⟨s', h1, h2, _⟩ := rangeN_inv (body := body) (fin := fun z => z) (fun j s' => s' = s ++ (List.range j).flatMap g ∧ s'.length ≤ M + j) k s (fun j s' hj ⟨h1, h2⟩ =>
    ⟨_, hb j s' hj (by omega), by rw [h1, List.range_succ, List.flatMap_append, List.append_assoc]; simp, by rw [List.length_append]; have := hg j hj; omega⟩) ⟨by simp, by omega⟩
  rw [h1, h2]
theorem rangeN_step {S X : Type} {body : Int → S → Option (Step S X)} {fin : S → X} (G : Nat → S) (k : Nat) (s : S) (h0 : G 0 = s) (hb : ∀ j, j < k → body (j : Int) (G j) = some (.cont (G (j + 1)))) :
    rangeN body fin k 0 s = some (fin (G k)) := by
  subst h0
  obtain ⟨s', h1, h2⟩ := rangeN_inv (body := body) (fin := fin) (fun j s' => s' = G j) k (G 0) (fun j s' hj h => ⟨_, by rw [h]; exact hb j hj, rfl⟩) rfl
  rw [h1, h2]
theorem rangeL_flat {α β : Type} {body : Int → α → List β → Option (Step (List β) (List β))} (g : α → List β) (M B : Nat) (l : List α) (s : List β) (hg : ∀ x ∈ l, (g x).length ≤ B)
    (hb : ∀ (j : Nat) x s, x ∈ l → s.length ≤ M + B * l.length → body (j : Int) x s = some (.cont (s ++ g x))) (hs : s.length ≤ M) : rangeL body (fun z => z) l 0 s = some (s ++ l.flatMap g) := by
  obtain ⟨s', h1, h2, _⟩ := rangeL_inv (body := body) (fin := fun z => z) (fun j s' => s' = s ++ (l.take j).flatMap g ∧ s'.length ≤ M + B * j) l s (fun j x s' hj ⟨h1, h2⟩ => by
    have hlt := (List.getElem?_eq_some_iff.1 hj).1
    have hx : x ∈ l := List.mem_of_getElem? hj
    have hmul : B * j ≤ B * l.length := Nat.mul_le_mul_left _ (by omega)
    refine ⟨_, hb j x s' hx (by omega), ?_, ?_⟩
    · rw [h1, List.take_add_one, hj, List.flatMap_append, List.append_assoc]; simp
    · rw [List.length_append, Nat.mul_succ]; have := hg x hx; omega) ⟨by simp, by omega⟩
  rw [h1, h2, List.take_length]

/-! The search, plain. -/
def goodF (d : List Int) (fl : Nat) (h : List Int) (f : Nat) : Bool := hoistsFit d h (f : Int) && (fl.testBit f && !h.contains (f : Int))
def hG (d : List Int) (fl : Nat) : Nat → List Int → List (List Int)
  | 0, h => [h]
  | n + 1, h => (List.range 13).flatMap fun f => if goodF d fl h f = true then hG d fl n (h ++ [(f : Int)]) else []
theorem hoistsG_eq (d : List Int) (fl : Nat) : ∀ (n : Nat) (h : List Int) (L : Nat), L < 8192 → (∀ f, f < 13 → L.testBit f = (fl.testBit f && !h.contains (f : Int))) → hoistsG d n h (L : Int) = hG d fl n h
  | 0, h, L, _, _ => rfl
  | n + 1, h, L, hL, hf => by
    rw [hoistsG, hG]
    refine flatMap_cg fun f hfm => ?_
    have hf13 : f < 13 := List.mem_range.1 hfm
    have hok : hoistsOk d h (L : Int) f = goodF d fl h f := by
      unfold hoistsOk goodF
      rw [bit_of L f (by omega), Bool.not_not, hf f hf13]
    rw [hok]
    have hp := pow13 f hf13
    split
    · rw [show ((2 : Int) ^ f) = ((2 ^ f : Nat) : Int) by push_cast; rfl, bits_andNot L (2 ^ f) (by omega)]
      have hle := andNotN_le L (2 ^ f)
      refine hoistsG_eq d fl n _ _ (by omega) fun g hg => ?_
      rw [andNotN_bit L (2 ^ f) (by omega), hf g hg, Nat.testBit_two_pow, List.contains_eq_any_beq, List.contains_eq_any_beq, List.any_append]
      by_cases e : f = g
      · subst e; simp
      · have e2 : ((g : Int) == (f : Int)) = false := by rw [beq_eq_false_iff_ne]; omega
        simp [e, e2]
    · rfl
def vP (h : List Int) : Prop := anyPre badF [] h = false ∧ h.all (inB 0 12) = true
def uses (fl : Nat) (h : List Int) : Prop := ∀ f ∈ h, fl.testBit f.toNat = true
theorem vH_iff (h : List Int) : vH h = true ↔ (1 ≤ h.length ∧ h.length ≤ 4) ∧ vP h := by
  unfold vH vP inB
  simp only [Bool.and_eq_true, decide_eq_true_eq, Bool.not_eq_true']
  constructor
  · rintro ⟨⟨⟨h1, h2⟩, h3⟩, h4⟩; exact ⟨⟨by omega, by omega⟩, h4, h3⟩
  · rintro ⟨⟨h1, h2⟩, h3, h4⟩; exact ⟨⟨⟨by omega, by omega⟩, h4⟩, h3⟩
theorem vD_iff (d : List Int) : vD d = true ↔ (1 ≤ d.length ∧ d.length ≤ 4) ∧ ∀ x ∈ d, 0 ≤ x ∧ x ≤ 9 := by
  unfold vD inB
  simp only [Bool.and_eq_true, decide_eq_true_eq, List.all_eq_true]
  constructor
  · rintro ⟨⟨h1, h2⟩, h3⟩; exact ⟨⟨by omega, by omega⟩, h3⟩
  · rintro ⟨⟨h1, h2⟩, h3⟩; exact ⟨⟨by omega, by omega⟩, h3⟩
/-- What the beginning of a hoist keeps. -/
def inv (d h : List Int) : Prop := vP h ∧ meansL [] h = d.take h.length
theorem vP_snoc (h : List Int) (f : Nat) (hf : f < 13) (hv : vP h) : vP (h ++ [(f : Int)]) ↔ badF h (f : Int) = false := by
  unfold vP
  rw [anyPre_snoc, hv.1, List.all_append, hv.2, Bool.false_or, List.nil_append]
  have : inB 0 12 (f : Int) = true := by simp [inB]; omega
  simp [this]
theorem ext_iff (d h : List Int) (f : Nat) (hf : f < 13) (hl : h.length < d.length) (hi : inv d h) :
    (hoistsFit d h (f : Int) && !h.contains (f : Int)) = true ↔ vP (h ++ [(f : Int)]) ∧ meansL [] (h ++ [(f : Int)]) = d.take (h.length + 1) := by
  obtain ⟨hv, hm⟩ := hi
  rw [vP_snoc h f hf hv, meansL_app, hm, List.take_add_one, List.getElem?_eq_getElem hl]
  have hml : (d.take h.length).length = h.length := by rw [List.length_take]; omega
  show _ ↔ _ ∧ d.take h.length ++ [_] = d.take h.length ++ [d[h.length]]
  rw [List.append_right_inj, List.singleton_inj]
  have hd : idx d (h.length : Int) = some d[h.length] := idx_at (List.getElem?_eq_getElem hl)
  unfold hoistsFit badF
  rw [hd]
  by_cases h10 : (10 : Int) ≤ (f : Int)
  · simp only [if_pos h10, decide_eq_true h10, Bool.true_and]
    by_cases hb : (f : Int) - 10 < (h.length : Int)
    · have hlt : f - 10 < h.length := by omega
      have e1 : idx d ((f : Int) - 10) = some (d[f - 10]'(by omega)) := by
        have : (f : Int) - 10 = ((f - 10 : Nat) : Int) := by omega
        rw [this, idx_nat, List.getElem?_eq_getElem (by omega)]
      have e2 : idx (d.take h.length) ((f : Int) - 10) = some (d[f - 10]'(by omega)) := by
        have : (f : Int) - 10 = ((f - 10 : Nat) : Int) := by omega
        rw [this, idx_nat, List.getElem?_take, if_pos hlt, List.getElem?_eq_getElem (by omega)]
      rw [e1, e2]
      have hb' : ¬ (h.length : Int) ≤ (f : Int) - 10 := by omega
      simp [hb, hb']
      exact And.comm
    · have hb' : (h.length : Int) ≤ (f : Int) - 10 := by omega
      simp [hb, hb']
  · simp only [if_neg h10, decide_eq_false h10, Bool.false_and, Bool.or_false]
    simp
    constructor
    · rintro ⟨h1, h2⟩; exact ⟨h2, h1.symm⟩
    · rintro ⟨h1, h2⟩; exact ⟨h2.symm, h1⟩
/-- What is found. -/
theorem mem_hG (d : List Int) (fl : Nat) : ∀ (n : Nat) (h x : List Int), h.length + n = d.length → inv d h → (x ∈ hG d fl n h ↔ ∃ t, x = h ++ t ∧ vP x ∧ meansL [] x = d ∧ uses fl t ∧ t.length = n)
  | 0, h, x, hn, hi => by
    rw [hG, List.mem_singleton]
    constructor
    · rintro rfl
      refine ⟨[], by simp, hi.1, ?_, fun _ hf => by simp at hf, rfl⟩
      rw [hi.2, List.take_of_length_le (by omega)]
    · rintro ⟨t, rfl, _, _, _, ht⟩
      rw [List.eq_nil_of_length_eq_zero ht, List.append_nil]
  | n + 1, h, x, hn, hi => by
    rw [hG, List.mem_flatMap]
    have key : ∀ f : Nat, f < 13 → ((hoistsFit d h (f : Int) && !h.contains (f : Int)) = true) → inv d (h ++ [(f : Int)]) := by
      intro f hf hg
      obtain ⟨h1, h2⟩ := (ext_iff d h f hf (by omega) hi).1 hg
      exact ⟨h1, by rw [h2, List.length_append]; rfl⟩
    constructor
    · rintro ⟨f, hf, hx⟩
      have hf13 : f < 13 := List.mem_range.1 hf
      split at hx
      · rename_i hg
        unfold goodF at hg
        simp only [Bool.and_eq_true] at hg
        have hi' := key f hf13 (by rw [Bool.and_eq_true]; exact ⟨hg.1, hg.2.2⟩)
        obtain ⟨t, rfl, h1, h2, h3, h4⟩ := (mem_hG d fl n (h ++ [(f : Int)]) x (by simp; omega) hi').1 hx
        refine ⟨(f : Int) :: t, by simp, h1, h2, fun g hgm => ?_, by simp [h4]⟩
        rcases List.mem_cons.1 hgm with rfl | hgm
        · exact hg.2.1
        · exact h3 g hgm
      · simp at hx
    · rintro ⟨t, rfl, h1, h2, h3, h4⟩
      match t, h4 with
      | g :: t, h4 =>
        have hall := h1.2
        simp only [List.all_append, List.all_cons, Bool.and_eq_true, inB, decide_eq_true_eq] at hall
        have hg0 : g = ((g.toNat : Nat) : Int) := by omega
        have hg13 : g.toNat < 13 := by omega
        rw [show h ++ g :: t = h ++ [g] ++ t by simp] at h1 h2 ⊢
        rw [hg0] at h1 h2 ⊢
        have hvp : vP (h ++ [((g.toNat : Nat) : Int)]) := by
          have := h1.1
          rw [anyPre_app, Bool.or_eq_false_iff] at this
          have h5 := h1.2
          rw [List.all_append, Bool.and_eq_true] at h5
          exact ⟨this.1, h5.1⟩
        have hmn : meansL [] (h ++ [((g.toNat : Nat) : Int)]) = d.take (h.length + 1) := by
          have := meansL_pre (meansL [] (h ++ [((g.toNat : Nat) : Int)])) t
          rw [← meansL_app, h2, meansL_len] at this
          simpa using this.symm
        have hext := (ext_iff d h g.toNat hg13 (by omega) hi).2 ⟨hvp, hmn⟩
        have hbit : fl.testBit g.toNat = true := h3 g (by simp)
        refine ⟨g.toNat, List.mem_range.2 hg13, ?_⟩
        rw [if_pos (by
          unfold goodF
          simp only [Bool.and_eq_true] at hext ⊢
          exact ⟨hext.1, hbit, hext.2⟩)]
        exact (mem_hG d fl n _ _ (by simp; simp at h4; omega) (key _ hg13 hext)).2 ⟨t, rfl, h1, h2, fun f hf => h3 f (by simp [hf]), by simpa using h4⟩
def RH (d : List Int) (fl : Nat) : List (List Int) := hG d fl d.length []
theorem mem_RH (d : List Int) (fl : Nat) (x : List Int) : x ∈ RH d fl ↔ vP x ∧ meansL [] x = d ∧ uses fl x := by
  unfold RH
  rw [mem_hG d fl d.length [] x (by simp) ⟨⟨rfl, rfl⟩, by simp [meansL]⟩]
  constructor
  · rintro ⟨t, rfl, h1, h2, h3, _⟩
    exact ⟨h1, h2, by simpa using h3⟩
  · rintro ⟨h1, h2, h3⟩
    refine ⟨x, by simp, h1, h2, h3, ?_⟩
    have := congrArg List.length h2
    rw [meansL_len] at this
    simpa using this
theorem hoists_eq (d : List Int) (fl : Nat) (hfl : fl < 8192) (hd : d.length ≤ 1000) : flag_hoists_c1 d (fl : Int) = some (RH d fl) := by
  unfold flag_hoists_c1 RH
  rw [if_pos hd, hoistsG_eq d fl d.length [] fl hfl (by intro f _; simp)]

/-! The document's search: level by level. -/
def stepH (d : List Int) (fl : Nat) (L : List (List Int)) : List (List Int) := L.flatMap fun h => (List.range 13).flatMap fun f => if goodF d fl h f = true then [h ++ [(f : Int)]] else []
def iterH (d : List Int) (fl : Nat) : Nat → List (List Int) → List (List Int)
  | 0, L => L
  | n + 1, L => iterH d fl n (stepH d fl L)
theorem iterH_flat (d : List Int) (fl : Nat) : ∀ (n : Nat) (L : List (List Int)), iterH d fl n L = L.flatMap (hG d fl n)
  | 0, L => by
    rw [iterH]
    induction L with
    | nil => rfl
    | cons a L ih => rw [List.flatMap_cons, ← ih, hG]; rfl
  | n + 1, L => by
    rw [iterH, iterH_flat d fl n, stepH, List.flatMap_assoc]
    refine flatMap_cg fun h _ => ?_
    rw [List.flatMap_assoc, hG]
    refine flatMap_cg fun f _ => ?_
    split <;> simp
theorem iterH_succ (d : List Int) (fl : Nat) : ∀ (n : Nat) (L : List (List Int)), iterH d fl (n + 1) L = stepH d fl (iterH d fl n L)
  | 0, _ => rfl
  | n + 1, L => by rw [iterH, iterH_succ d fl n, ← iterH]
theorem stepH_len (d : List Int) (fl : Nat) (L : List (List Int)) : (stepH d fl L).length ≤ 13 * L.length := by
  unfold stepH
  induction L with
  | nil => simp
  | cons a L ih =>
    rw [List.flatMap_cons, List.length_append, List.length_cons]
    have : ∀ k, ((List.range k).flatMap fun f => if goodF d fl a f = true then [a ++ [(f : Int)]] else []).length ≤ k := by
      intro k
      induction k with
      | zero => simp
      | succ k ih => rw [List.range_succ, List.flatMap_append, List.length_append]; simp only [List.flatMap_cons, List.flatMap_nil, List.append_nil]; split <;> simp only [List.length_cons, List.length_nil] <;> omega
    have := this 13
    omega
end Go.Fw
namespace Go.Fw
theorem meansL_ok : ∀ (h out pre : List Int), pre.length = out.length → anyPre badF pre h = false → h.all (inB 0 12) = true → (∀ x ∈ out, 0 ≤ x ∧ x ≤ 9) → ∀ x ∈ meansL out h, 0 ≤ x ∧ x ≤ 9
  | [], _, _, _, _, _, ho => ho
  | f :: h, out, pre, hl, hv, ha, ho => by
    rw [anyPre, Bool.or_eq_false_iff] at hv
    rw [List.all_cons, Bool.and_eq_true] at ha
    rw [meansL]
    refine meansL_ok h _ (pre ++ [f]) (by simp [hl]) hv.2 ha.2 fun x hx => ?_
    rcases List.mem_append.1 hx with hx | hx
    · exact ho x hx
    · obtain rfl := List.mem_singleton.1 hx
      have hf := ha.1
      simp only [inB, Bool.and_eq_true, decide_eq_true_eq] at hf
      by_cases h10 : 10 ≤ f
      · rw [if_pos h10]
        have hb := hv.1
        unfold badF at hb
        rw [Bool.or_eq_false_iff, Bool.and_eq_false_iff] at hb
        have h2 : ¬ ((pre.length : Int) ≤ f - 10) := by
          rcases hb.2 with h | h
          · simp at h; omega
          · simpa using h
        rw [idx_int (by omega) (by omega)]
        exact ho _ (List.getElem_mem _)
      · rw [if_neg h10]; omega
theorem isSet_eq (a : Int) : flag_isSet a = some (inB 0 8191 a) := by unfold flag_isSet; rw [within_eq]; rfl
def ask (d : List Int) (a : Int) : Int := if vD d = true then (if inB 0 8191 a = true then 0 else 7) else 1
theorem asked_eq (d : List Int) (a : Int) : flag_asked d a = some (ask d a) := by
  unfold flag_asked ask
  rw [ValidDigits_eq]
  simp only [Option.bind_some, isSet_eq]
  cases vD d <;> cases inB 0 8191 a <;> rfl
theorem set_nat {a : Int} (h : inB 0 8191 a = true) : ∃ fl : Nat, a = (fl : Int) ∧ fl < 8192 := by
  unfold inB at h
  simp only [Bool.and_eq_true, decide_eq_true_eq] at h
  exact ⟨a.toNat, by omega, by omega⟩
theorem vD_len {d : List Int} (h : vD d = true) : d.length ≤ 4 ∧ 1 ≤ d.length := by
  have := ((vD_iff d).1 h).1; omega
theorem RH_len (d : List Int) (fl : Nat) (hd : d.length ≤ 4) : (RH d fl).length ≤ 28561 := by
  have e : RH d fl = iterH d fl d.length [[]] := by
    rw [iterH_flat]; simp only [RH, List.flatMap_cons, List.flatMap_nil, List.append_nil]
  have hlen : ∀ i, (iterH d fl i [[]]).length ≤ 13 ^ i := by
    intro i
    induction i with
    | zero => simp [iterH]
    | succ i ih =>
      rw [iterH_succ]
      have h1 := stepH_len d fl (iterH d fl i [[]])
      rw [Nat.pow_succ]; omega
  rw [e]
  exact Nat.le_trans (hlen _) (Nat.le_trans (Nat.pow_le_pow_right (by decide) hd) (by decide))
theorem RH_row (d : List Int) (fl : Nat) {x : List Int} (h : x ∈ RH d fl) : x.length = d.length := by
  have := congrArg List.length ((mem_RH d fl x).1 h).2.1
  rw [meansL_len] at this
  simpa using this
theorem can_eq (d : List Int) (fl : Nat) (hfl : fl < 8192) (hd : d.length ≤ 1000) : flag_can d (fl : Int) = some (!(RH d fl).isEmpty) := by
  unfold flag_can
  rw [hoists_eq d fl hfl hd, Option.bind_some]
  cases RH d fl with
  | nil => rfl
  | cons a l => rfl
def withR (d : List Int) (a : Int) : List Int × Int := if ask d a = 0 then (match RH d a.toNat with | [] => ([], 10) | h :: _ => (h, 0)) else ([], ask d a)
theorem ask_zero {d : List Int} {a : Int} (h : ask d a = 0) : vD d = true ∧ inB 0 8191 a = true := by
  unfold ask at h
  split at h
  · split at h
    · exact ⟨by assumption, by assumption⟩
    · cases h
  · cases h
theorem With_eq (d : List Int) (a : Int) : flag_With d a = some (withR d a) := by
  unfold flag_With withR
  rw [asked_eq, Option.bind_some]
  by_cases h : ask d a = 0
  · obtain ⟨h1, h2⟩ := ask_zero h
    obtain ⟨fl, rfl, hfl⟩ := set_nat h2
    have hl := vD_len h1
    rw [if_neg (by simp [h]), if_pos h, hoists_eq d fl hfl (by omega), Option.bind_some, Int.toNat_natCast]
    cases hR : RH d fl with
    | nil => rfl
    | cons x l =>
      have hx := RH_row d fl (x := x) (by rw [hR]; simp)
      simp only [rangeL]
      rw [clone_eq x (by omega)]
      rfl
  · rw [if_pos (by simp [h]), if_neg h]
def ofNum (l : List GMeaning) (n : Int) : Option GMeaning := l.find? fun x => decide (x.Number = n)
theorem texts_eq {l : List GMeaning} (hp : l.Pairwise (fun x y => x.Number < y.Number)) (n : Int) : ∃ kv, flag_texts l = some kv ∧ mget kv n = (ofNum l n).map (·.Text) := by
  unfold flag_texts
  rw [rangeL_fold (fun (m : List (Int × ByteArray)) (x : GMeaning) => mput m x.Number x.Text) l 0 [] (fun i x s _ => rfl)]
  refine ⟨_, rfl, ?_⟩
  have key : ∀ (l : List GMeaning) (m : List (Int × ByteArray)), l.Pairwise (fun x y => x.Number < y.Number) → mget (l.foldl (fun (m : List (Int × ByteArray)) (x : GMeaning) => mput m x.Number x.Text) m) n = ((ofNum l n).map (·.Text)).or (mget m n) := by
    intro l
    induction l with
    | nil => intro m _; simp [ofNum]
    | cons x l ih =>
      intro m hp
      obtain ⟨h1, h2⟩ := List.pairwise_cons.1 hp
      rw [List.foldl_cons, ih _ h2, mget_put]
      unfold ofNum
      rw [List.find?_cons]
      by_cases hn : x.Number = n
      · have hno : l.find? (fun x => decide (x.Number = n)) = none := by
          rw [List.find?_eq_none]
          intro y hy
          have := h1 y hy
          simp; omega
        simp [hn, hno]
      · simp [hn]
  rw [key l [] hp]
  cases ofNum l n <;> simp [mget]
def lookS (l : List GMeaning) (h : List Int) : ByteArray × Int := if (vBk l && vH h) = true then (match l.find? (fun x => decide (digsOf x.Number.toNat = meansL [] h)) with | some x => (x.Text, 0) | none => (bs [], 8)) else (bs [], 1)
theorem means_digits {h : List Int} (hv : vH h = true) : vD (meansL [] h) = true := by
  obtain ⟨h1, h2, h3, h4⟩ := vH_parts hv
  refine vD_mk ?_ (meansL_ok h [] [] rfl h4 h3 (by simp))
  rw [meansL_len]; simp; omega
theorem Equal_eq (a b : List Int) : slices_Equal_int a b = some (decide (a = b)) := by
  unfold slices_Equal_int
  exact same_fun (fun x y => x != y) (fun x y => by rfl) a b
theorem numF_nonneg {l : List Int} (h : ∀ d ∈ l, 0 ≤ d ∧ d ≤ 9) : 0 ≤ numF l := by
  have key : ∀ (l : List Int) (z : Int), (∀ d ∈ l, 0 ≤ d ∧ d ≤ 9) → 0 ≤ z → 0 ≤ l.foldl (fun z d => 10 * z + d) z := by
    intro l
    induction l with
    | nil => intro z _ hz; exact hz
    | cons d l ih => intro z h hz; rw [List.foldl_cons]; exact ih _ (fun e he => h e (by simp [he])) (by have := h d (by simp); omega)
  exact key l 0 h (by omega)
theorem numF_le {l : List Int} (hl : l.length ≤ 4) (h : ∀ d ∈ l, 0 ≤ d ∧ d ≤ 9) : numF l ≤ 9999 := by
  unfold numF
  match l, hl, h with
  | [], _, _ => simp
  | [a], _, h => have := h a (by simp); simp; omega
  | [a, b], _, h => have := h a (by simp); have := h b (by simp); simp; omega
  | [a, b, c], _, h => have := h a (by simp); have := h b (by simp); have := h c (by simp); simp; omega
  | [a, b, c, d], _, h => have := h a (by simp); have := h b (by simp); have := h c (by simp); have := h d (by simp); simp; omega
  | _ :: _ :: _ :: _ :: _ :: _, hl, _ => simp at hl
theorem Look_eq (l : List GMeaning) (h : List Int) (hl : l.length ≤ 1000) (ht : ∀ x ∈ l, x.Text.size ≤ 1000) : flag_Look l h = some (lookS l h) := by
  unfold flag_Look lookS
  rw [ValidBook_eq l hl (fun x hx => by have := ht x hx; omega), Option.bind_some]
  cases hb : vBk l with
  | false => simp
  | true =>
    rw [ValidHoist_eq]
    cases hv : vH h with
    | false => simp
    | true =>
      obtain ⟨hd1, hd2⟩ := vD_parts (means_digits hv)
      obtain ⟨hm, hp⟩ := book_facts hb
      obtain ⟨kv, k1, k2⟩ := texts_eq hp (numF (meansL [] h))
      have hnum : flag_number (meansL [] h) = some (numF (meansL [] h)) := by
        unfold flag_number
        rw [num_loop _ 0 0 hd2 hd1.2 (by omega)]
        rfl
      have h0 := numF_nonneg hd2
      have h9 := numF_le hd1.2 hd2
      have hN : isN (numF (meansL [] h)) = true := by unfold isN; exact inB_iff'.2 ⟨h0, h9⟩
      simp only [Bool.not_true, Bool.false_eq_true, if_false, Option.bind_some, Bool.and_self, if_true, means_eq h hv, k1, hnum, k2, digitsOf_eq hN, Equal_eq]
      have hfind : l.find? (fun x => decide (digsOf x.Number.toNat = meansL [] h)) = if meansL [] h = digsOf (numF (meansL [] h)).toNat then ofNum l (numF (meansL [] h)) else none := by
        have hx : ∀ x ∈ l, decide (digsOf x.Number.toNat = meansL [] h) = (decide (meansL [] h = digsOf (numF (meansL [] h)).toNat) && decide (x.Number = numF (meansL [] h))) := by
          intro x hx
          have hxn := isN_le' (vM_num (hm x hx))
          have hxd := numF_digs x.Number.toNat
          rw [Bool.eq_iff_iff]
          simp only [decide_eq_true_eq, Bool.and_eq_true]
          constructor
          · intro e
            rw [e] at hxd
            have e2 : x.Number = numF (meansL [] h) := by omega
            exact ⟨by rw [← e2, e], e2⟩
          · rintro ⟨e1, e2⟩
            rw [e2]; exact e1.symm
        split
        · rename_i he
          unfold ofNum
          refine find_congr fun x hx' => ?_
          rw [hx x hx', decide_eq_true he, Bool.true_and]
        · rename_i he
          rw [List.find?_eq_none]
          intro x hx'
          rw [hx x hx', decide_eq_false he]
          simp
      rw [hfind]
      by_cases he : meansL [] h = digsOf (numF (meansL [] h)).toNat
      · rw [if_pos he]
        cases ofNum l (numF (meansL [] h)) with
        | none => simp
        | some x => simp [← he]
      · rw [if_neg he]
        cases ofNum l (numF (meansL [] h)) <;> simp [he]
theorem isN_le {a : Int} (h : isN a = true) : 0 ≤ a ∧ a ≤ 9999 := by
  unfold isN inB at h
  simp only [Bool.and_eq_true, decide_eq_true_eq] at h
  exact h
theorem book_nums {l : List GMeaning} (h : vBk l = true) : ∀ x ∈ l, isN x.Number = true := fun x hx => vM_num ((book_facts h).1 x hx)
def noneP (fl : Nat) (m : GMeaning) : Bool := (RH (digsOf m.Number.toNat) fl).isEmpty
def lostL (fl : Nat) (l : List GMeaning) : List Int := (l.filter (noneP fl)).map fun m => m.Number
def lostS (l : List GMeaning) (a : Int) : List Int × Int := if vBk l = true then (if inB 0 8191 a = true then (lostL a.toNat l, 0) else ([], 7)) else ([], 1)
theorem lost_loop {fl : Nat} {F : Int → GMeaning → List Int → Option (Step (List Int) (List Int))} {a0 : List GMeaning} (hF : ∀ i, ∀ m ∈ a0, ∀ z, z.length ≤ 2000 → F i m z = some (.cont (z ++ if noneP fl m = true then [m.Number] else []))) :
    ∀ (l : List GMeaning) (i : Int) (z : List Int), (∀ y ∈ l, y ∈ a0) → z.length + l.length ≤ 2000 → rangeL (α := GMeaning) (S := List Int) (X := List Int) F (fun z => z) l i z = some (z ++ lostL fl l)
  | [], _, z, _, _ => by simp [rangeL, lostL]
  | y :: l, i, z, h, hz => by
    rw [List.length_cons] at hz
    rw [rangeL, hF i y (h y (by simp)) z (by omega)]
    dsimp only [Option.bind_some]
    rw [lost_loop hF l (i + 1) _ (fun w hw => h w (by simp [hw])) (by rw [List.length_append]; split <;> simp <;> omega)]
    unfold lostL
    rw [List.filter_cons]
    split <;> simp
theorem sortInts_of {xs : List Int} (h : xs.Pairwise fun a b => a < b) : sortInts xs = xs := by
  obtain ⟨h1, h2⟩ := srtOf_facts cmpI int_swo xs
  have hl := h1.length_eq
  have h3 : (srtOf cmpI xs).Pairwise fun a b => Go.Proofs.ltOf cmpI b a = false := by
    rw [List.pairwise_iff_getElem]
    intro i j hi hj hij
    have := h2 i j (Nat.zero_le _) hij (by rw [← hl]; exact hj)
    have hi' : i < (srtOf cmpI xs).toArray.size := by rw [List.size_toArray]; exact hi
    have hj' : j < (srtOf cmpI xs).toArray.size := by rw [List.size_toArray]; exact hj
    rw [getElem!_pos _ i hi', getElem!_pos _ j hj'] at this
    exact this
  unfold sortInts
  refine List.Perm.eq_of_pairwise (le := fun a b => Go.Proofs.ltOf cmpI b a = false) (fun a b _ _ e1 e2 => ?_) h3 (h.imp fun {a b} hab => ?_) h1
  · rw [int_lt, decide_eq_false_iff_not] at e1 e2
    omega
  · rw [int_lt, decide_eq_false_iff_not]
    omega
theorem Lost_eq (l : List GMeaning) (a : Int) (hl : l.length ≤ 1000) (ht : ∀ x ∈ l, x.Text.size ≤ 70000) : flag_Lost l a = some (lostS l a) := by
  unfold flag_Lost lostS
  rw [ValidBook_eq l hl ht, Option.bind_some]
  cases hv : vBk l with
  | false => rfl
  | true =>
    have hn := book_nums hv
    rw [if_neg (by decide), if_pos rfl, isSet_eq, Option.bind_some]
    cases ha : inB 0 8191 a with
    | false => rfl
    | true =>
      obtain ⟨fl, rfl, hfl⟩ := set_nat ha
      rw [if_neg (by decide), if_pos rfl]
      have h := lost_loop (fl := fl) (a0 := l) (F := fun ik1 yk1 z2 =>
        ((
          (flag_digitsOf yk1.Number).bind (fun t3 =>
          (flag_can t3 (fl : Int)).bind (fun t4 =>
          ((
            (if (!t4) = true then
              (appI z2 ([yk1.Number] : List Int)).bind (fun t5 =>
              some t5)
            else
              some z2)) : Option ((List Int))).bind (fun s3 =>
          some s3)))) : Option ((List Int))).bind (fun s2 =>
        some (Step.cont s2))) (fun i m hm z hz => by
        have h4 := digsOf_len m.Number.toNat (by have := isN_le (hn m hm); omega)
        rw [digitsOf_eq (hn m hm), Option.bind_some, can_eq _ fl hfl (by omega), Option.bind_some, Bool.not_not]
        show ((if noneP fl m = true then _ else _ : Option (List Int)).bind _).bind _ = _
        cases noneP fl m with
        | true => rw [if_pos rfl, if_pos rfl, appI_ok (by simp; omega)]; rfl
        | false => rw [if_neg (by decide), if_neg (by decide), List.append_nil]; rfl) l 0 [] (fun _ h => h) (by simp; omega)
      refine (congrArg (Option.bind · _) h).trans ?_
      dsimp only [Option.bind_some]
      rw [List.nil_append]
      have hp : (lostL fl l).Pairwise fun a b => a < b := by
        unfold lostL
        rw [List.pairwise_map]
        exact (book_facts hv).2.filter _
      have hlen : (lostL fl l).length ≤ 1000 := by
        unfold lostL
        rw [List.length_map]
        exact Nat.le_trans (List.length_filter_le _ _) hl
      unfold srtI
      rw [if_pos (by omega), sortInts_of hp]
      rfl
def digitsS (n : Int) : List Int × Int := if isN n = true then (digsOf n.toNat, 0) else ([], 7)
theorem Digits_eq (n : Int) : flag_Digits n = some (digitsS n) := by
  unfold flag_Digits digitsS
  rw [isNumber_eq, Option.bind_some]
  cases h : isN n with
  | false => simp
  | true => simp [digitsOf_eq h]
end Go.Fw
namespace Go.Fw
theorem bwithin_eq (a b c : Int) : ball_within a b c = some (inB b c a) := rfl
theorem bthen {c : Bool} {x : Option Bool} {b : Bool} (h : c = true → x = some b) : (if c = true then x.bind (fun t => some t) else some false) = some (c && b) := by
  cases c with
  | false => rfl
  | true => rw [if_pos rfl, h rfl]; rfl
def okM (x : GMast) : Bool := ((((((((inB 0 86399999 x.Noon && decide (1000 ≤ x.Full)) && decide (x.Full < x.Half)) && decide (x.Half ≤ 3600000)) && decide (x.Half ≤ x.Noon)) && inB 0 1000 x.Late) && inB x.Half 7200000 x.Again) && decide (x.Noon + x.Again < 86400000)) && inB 0 1000 x.Wind)
theorem ValidMast_eq (x : GMast) : ball_ValidMast x = some (okM x) := by
  unfold ball_ValidMast okM
  rw [bwithin_eq, Option.bind_some, bthen (fun _ => bwithin_eq _ _ _), Option.bind_some, bthen (fun _ => bwithin_eq _ _ _), Option.bind_some]
  have h : ∀ c : Bool, (c = true → inB 0 86399999 x.Noon = true ∧ inB x.Half 7200000 x.Again = true ∧ decide (1000 ≤ x.Full) = true ∧ decide (x.Full < x.Half) = true) →
      (if c = true then (addI x.Noon x.Again).bind (fun t4 => some (decide (t4 < 86400000))) else some false) = some (c && decide (x.Noon + x.Again < 86400000)) := by
    intro c hc
    cases c with
    | false => rfl
    | true =>
      obtain ⟨h1, h2, h3, h4⟩ := hc rfl
      simp only [inB, Bool.and_eq_true, decide_eq_true_eq] at h1 h2 h3 h4
      rw [if_pos rfl, addI_ok (by omega)]; rfl
  rw [h _ (fun hc => by simp only [Bool.and_eq_true] at hc; exact ⟨hc.1.1.1.1.1.1, hc.2, hc.1.1.1.1.1.2, hc.1.1.1.1.2⟩), Option.bind_some, bthen (fun _ => bwithin_eq _ _ _)]
  rfl
structure MastF (x : GMast) : Prop where
  noon : 0 ≤ x.Noon ∧ x.Noon ≤ 86399999
  full : 1000 ≤ x.Full ∧ x.Full < x.Half
  half : x.Half ≤ 3600000 ∧ x.Half ≤ x.Noon
  late : 0 ≤ x.Late ∧ x.Late ≤ 1000
  again : x.Half ≤ x.Again ∧ x.Again ≤ 7200000
  day : x.Noon + x.Again < 86400000
theorem okM_facts {x : GMast} (h : okM x = true) : MastF x := by
  unfold okM inB at h
  simp only [Bool.and_eq_true, decide_eq_true_eq] at h
  obtain ⟨⟨⟨⟨⟨⟨⟨⟨h1, h2⟩, h3⟩, h4⟩, h5⟩, h6⟩, h7⟩, h8⟩, h9⟩ := h
  exact ⟨h1, ⟨h2, h3⟩, ⟨h4, h5⟩, h6, h7, h8⟩
def fineE (e : GEvent) : Bool := ((inB 0 86399999 e.At && inB 1 6 e.Kind) && inB 0 1000 e.N) && ((e.Kind == 1) || (e.N == 0))
theorem fine_eq (e : GEvent) : ball_fine e = some (fineE e) := by
  unfold ball_fine fineE
  rw [bwithin_eq, Option.bind_some, bthen (fun _ => bwithin_eq _ _ _), Option.bind_some, bthen (fun _ => bwithin_eq _ _ _)]
  rfl
def hoistT (x : GMast) (at_ : Int) : Bool := inB (x.Noon - x.Half) (x.Noon - x.Full - 1) at_ || inB (x.Noon + x.Again - x.Half) (x.Noon + x.Again - x.Full - 1) at_
theorem hoist1_eq {x : GMast} (hx : MastF x) {n : Int} (h : 0 ≤ n ∧ n ≤ 100000000) (at_ : Int) : ball_hoisting_c1 n at_ x = some (inB (n - x.Half) (n - x.Full - 1) at_) := by
  have := hx.full; have := hx.half
  unfold ball_hoisting_c1
  rw [subI_ok (by omega), Option.bind_some, subI_ok (by omega), Option.bind_some, subI_ok (by omega), Option.bind_some, bwithin_eq]
  rfl
theorem hoisting_eq {x : GMast} (hx : MastF x) (at_ : Int) : ball_hoisting x at_ = some (hoistT x at_) := by
  have h1 := hx.noon; have h2 := hx.day; have h3 := hx.again; have h4 := hx.full
  unfold ball_hoisting hoistT
  rw [hoist1_eq hx (by omega), Option.bind_some]
  cases inB (x.Noon - x.Half) (x.Noon - x.Full - 1) at_ with
  | true => rfl
  | false => rw [if_neg (by decide), addI_ok (by omega), Option.bind_some, hoist1_eq hx (by omega)]; rfl
def allowE (x : GMast) (s : GBall) (e : GEvent) : Bool :=
  if e.Kind = 1 then true else if e.Kind = 2 then (s.Place == 0) && decide (s.Wind ≤ x.Wind) && hoistT x e.At
  else if e.Kind = 3 then (s.Place == 1) && inB (x.Noon - x.Full) (x.Noon + x.Again) e.At else if e.Kind = 4 ∨ e.Kind = 5 then s.Place == 2 else !s.Flag
def doE (s : GBall) (e : GEvent) : GBall :=
  if e.Kind = 1 then ⟨s.Place, max s.Wind e.N, s.Flag, e.At⟩ else if e.Kind = 2 then ⟨1, s.Wind, s.Flag, e.At⟩ else if e.Kind = 3 then ⟨2, s.Wind, s.Flag, e.At⟩
  else if e.Kind = 4 then ⟨0, s.Wind, s.Flag, e.At⟩ else if e.Kind = 5 then ⟨3, s.Wind, s.Flag, e.At⟩ else ⟨0, s.Wind, true, e.At⟩
def nextS (x : GMast) (s : GBall) (e : GEvent) : GBall × Int :=
  if (!fineE e || decide (e.At < s.At)) = true then (⟨0, 0, false, 0⟩, 7) else if allowE x s e = true then (doE s e, 0) else (⟨0, 0, false, 0⟩, 9)
theorem next_eq {x : GMast} (hx : MastF x) (s : GBall) (e : GEvent) : ball_next x s e = some (nextS x s e) := by
  unfold ball_next nextS
  rw [fine_eq, Option.bind_some]
  by_cases hf : (!fineE e || decide (e.At < s.At)) = true
  · rw [if_pos hf, if_pos hf]
  · rw [if_neg hf, if_neg hf]
    have hfin : fineE e = true := by
      cases h : fineE e with
      | true => rfl
      | false => rw [h] at hf; exact (hf rfl).elim
    have hk : 1 ≤ e.Kind ∧ e.Kind ≤ 6 := by
      unfold fineE inB at hfin
      simp only [Bool.and_eq_true, decide_eq_true_eq] at hfin
      exact hfin.1.1.2
    have h3 : ball_rules_c3 x s e.At = some ((s.Place == 0) && decide (s.Wind ≤ x.Wind) && hoistT x e.At) := by
      unfold ball_rules_c3
      rw [bthen (fun _ => hoisting_eq hx _)]; rfl
    have h5 : ball_rules_c5 x s e.At = some ((s.Place == 1) && inB (x.Noon - x.Full) (x.Noon + x.Again) e.At) := by
      have h1 := hx.noon; have h2 := hx.day; have h3 := hx.again; have h4 := hx.full; have h6 := hx.half
      unfold ball_rules_c5
      rw [subI_ok (by omega), Option.bind_some, addI_ok (by omega), Option.bind_some, bthen (fun _ => bwithin_eq _ _ _)]; rfl
    have key : ∀ (b : Bool) (t : GBall) (o : Option GBall), o = some t → ((some b).bind fun t4 => if (!t4) = true then some ((⟨0, 0, false, 0⟩, 9) : GBall × Int) else o.bind fun t5 => some (GBall.mk t5.Place t5.Wind t5.Flag e.At, 0)) =
        some (if b = true then (GBall.mk t.Place t.Wind t.Flag e.At, 0) else (⟨0, 0, false, 0⟩, 9)) := by
      rintro b t _ rfl
      cases b <;> rfl
    unfold allowE doE
    obtain hk | hk | hk | hk | hk | hk : e.Kind = 1 ∨ e.Kind = 2 ∨ e.Kind = 3 ∨ e.Kind = 4 ∨ e.Kind = 5 ∨ e.Kind = 6 := by omega
    · simp only [hk]; exact key true ⟨s.Place, max s.Wind e.N, s.Flag, s.At⟩ _ rfl
    · simp only [hk, h3]; exact key _ ⟨1, s.Wind, s.Flag, s.At⟩ _ rfl
    · simp only [hk, h5]; exact key _ ⟨2, s.Wind, s.Flag, s.At⟩ _ rfl
    · simp only [hk]; exact key (s.Place == 2) ⟨0, s.Wind, s.Flag, s.At⟩ _ rfl
    · simp only [hk]; exact key (s.Place == 2) ⟨3, s.Wind, s.Flag, s.At⟩ _ rfl
    · simp only [hk]; exact key (!s.Flag) ⟨0, s.Wind, true, s.At⟩ _ rfl
def statesL (x : GMast) : GBall → List GEvent → List (GBall × Int)
  | _, [] => []
  | s, e :: es => if (nextS x s e).2 = 0 then nextS x s e :: statesL x (nextS x s e).1 es else [nextS x s e]
theorem statesF_eq {x : GMast} (hx : MastF x) : ∀ (l : List GEvent) (s : GBall), ball_statesF x s l = some (statesL x s l)
  | [], _ => rfl
  | e :: es, s => by
    rw [ball_statesF, next_eq hx, Option.bind_some, statesL]
    by_cases h : (nextS x s e).2 = 0
    · rw [if_pos h, if_pos h, statesF_eq hx es]; rfl
    · rw [if_neg h, if_neg h]
def endS (x : GMast) : GBall → Int → List GEvent → GBall × Int × Int
  | s, n, [] => (s, n, 0)
  | s, n, e :: es => if (nextS x s e).2 = 0 then endS x (nextS x s e).1 (n + 1) es else (⟨0, 0, false, 0⟩, n, (nextS x s e).2)
def runS (x : GMast) (l : List GEvent) : GBall × Int × Int :=
  if okM x = true then (if decide (100 < ((l.length : Nat) : Int)) = true then (⟨0, 0, false, 0⟩, 0, 7) else endS x ⟨0, 0, false, 0⟩ 0 l) else (⟨0, 0, false, 0⟩, 0, 1)
theorem Run_eq (x : GMast) (l : List GEvent) : ball_Run x l = some (runS x l) := by
  unfold ball_Run runS
  rw [ValidMast_eq, Option.bind_some]
  cases hx : okM x with
  | false => rfl
  | true =>
    rw [if_neg (by decide), if_pos rfl]
    by_cases hl : decide (100 < ((l.length : Nat) : Int)) = true
    · rw [if_pos hl, if_pos hl]
    · rw [if_neg hl, if_neg hl]
      unfold ball_states_c1
      rw [statesF_eq (okM_facts hx), Option.bind_some]
      have key : ∀ (l : List GEvent) (s : GBall) (i n : Int), 0 ≤ n → n + (l.length : Int) ≤ 1000 → ((rangeL (α := (GBall × Int)) (S := Int × Int × Bool × Int × Int) (X := Ctl (Int × Int × Bool × Int × Int) (GBall × Int × Int)) (fun _ x1 s =>
      match s with
        | (z6, z7, z8, z9, z10) =>
          (if (x1.2 != 0) = true then
            some (Step.done (Ctl.ret ((GBall.mk 0 0 false 0), z10, x1.2)))
          else
            (addI z10 1).bind (fun t2 =>
            some (Step.cont (x1.1.Place, x1.1.Wind, x1.1.Flag, x1.1.At, t2))))) (fun s => match s with | (z6, z7, z8, z9, z10) => Ctl.next (z6, z7, z8, z9, z10)) (statesL x s l) i (s.Place, s.Wind, s.Flag, s.At, n)) : Option (Ctl (Int × Int × Bool × Int × Int) (GBall × Int × Int))).bind (fun o => match o with
      | .next (s1, s2, s3, s4, s5) =>
        some ((GBall.mk s1 s2 s3 s4), s5, 0)
      | .ret r => some r
      | .exit _ _ => none) = some (endS x s n l) := by
        intro l
        induction l with
        | nil => intro s i n _ _; rfl
        | cons e es ih =>
          intro s i n hn hlen
          rw [List.length_cons] at hlen
          rw [statesL, endS]
          by_cases h : (nextS x s e).2 = 0
          · rw [if_pos h, if_pos h, rangeL]
            have : ((nextS x s e).2 != 0) = false := by simp [h]
            simp only [this, Bool.false_eq_true, if_false]
            rw [addI_ok (by omega), Option.bind_some, Option.bind_some]
            exact ih _ _ _ (by omega) (by omega)
          · rw [if_neg h, if_neg h, rangeL]
            have : ((nextS x s e).2 != 0) = true := by simp [h]
            simp only [this, if_true, Option.bind_some]
      simp only [decide_eq_true_eq] at hl
      exact key l ⟨0, 0, false, 0⟩ 0 0 (by omega) (by omega)
/-! The verdict. -/
def dropI (l : List GEvent) : Int := match l.findIdx? (fun e => e.Kind == 4) with | some i => (i : Int) | none => -1
def flaggedL (l : List GEvent) : Bool := l.any fun e => e.Kind == 6
theorem indexE_eq (l : List GEvent) (p : GEvent → Bool) (f : GEvent → Option Bool) (h : ∀ e, f e = some (p e)) : slices_IndexFunc_Event l f = some (match l.findIdx? p with | some i => (i : Int) | none => -1) := by
  unfold slices_IndexFunc_Event
  rw [index_loop p]
  · cases l.findIdx? p <;> rfl
  · intro i x hx
    simp only [idx_at hx, Option.bind_some, h x]
    cases p x <;> rfl
theorem flagged_eq (l : List GEvent) : ball_verdict_c1 l = some (flaggedL l) := by
  unfold ball_verdict_c1 slices_ContainsFunc_Event flaggedL
  rw [indexE_eq l (fun e => e.Kind == 6) (fun x0 => ball_verdict_c1_c1 x0) (fun _ => rfl), ← findIdx_any]
  cases l.findIdx? (fun e => e.Kind == 6) with
  | none => rfl
  | some i => simp
def inTime (x : GMast) (at_ noon : Int) : Bool := inB (noon - x.Late) (noon + x.Late) at_
theorem inTime_eq {x : GMast} (hx : MastF x) {n : Int} (h : 0 ≤ n ∧ n ≤ 100000000) (at_ : Int) : ball_verdict_c2 at_ n x = some (inTime x at_ n) := by
  have := hx.late
  unfold ball_verdict_c2 inTime
  rw [subI_ok (by omega), Option.bind_some, addI_ok (by omega), Option.bind_some, bwithin_eq]; rfl
def verdS (x : GMast) (l : List GEvent) : Int :=
  match l.findIdx? (fun e => e.Kind == 4) with
  | none => if flaggedL l = true then 4 else 5
  | some i => match l[i]? with
    | none => 2
    | some e => if inTime x e.At x.Noon = true then 0 else if (decide (x.Noon + x.Again - x.Half ≤ e.At) && (flaggedL (l.take i) && inTime x e.At (x.Noon + x.Again))) = true then 3 else if flaggedL (l.drop i) = true then 1 else 2
theorem verdict_eq {x : GMast} (hx : MastF x) {l : List GEvent} (hl : l.length ≤ 1000) : ball_verdict x l = some (verdS x l, dropI l) := by
  have h1 := hx.noon; have h2 := hx.day; have h3 := hx.again; have h4 := hx.full; have h5 := hx.half
  unfold ball_verdict verdS dropI
  rw [indexE_eq l (fun e => e.Kind == 4) (fun x0 => ball_verdict_c3 x0) (fun _ => rfl), Option.bind_some, flagged_eq]
  cases hf : l.findIdx? (fun e => e.Kind == 4) with
  | none =>
    dsimp only
    cases flaggedL l <;> rfl
  | some i =>
    dsimp only
    have hi : i < l.length := by
      have := List.findIdx?_eq_some_iff_findIdx_eq.1 hf
      exact this.1
    have hge : l[i]? = some l[i] := List.getElem?_eq_getElem hi
    have hneg : decide ((i : Int) < 0) = false := by simp
    rw [hneg]
    simp only [Bool.false_eq_true, if_false, Option.bind_some]
    rw [hge, idx_at hge]
    simp only [Option.bind_some]
    rw [inTime_eq hx (by omega), Option.bind_some, addI_ok (by omega)]
    cases inTime x l[i].At x.Noon with
    | true => rfl
    | false =>
      simp only [Bool.false_eq_true, if_false, Option.bind_some]
      have e2 : cutI l (i : Int) ((l.length : Nat) : Int) = some (l.drop i) := by
        unfold cutI
        rw [if_pos ⟨by omega, by omega, by omega⟩, Int.toNat_natCast, Int.toNat_natCast, List.take_of_length_le (Nat.le_refl _)]
      rw [subI_ok (by omega), Option.bind_some, cutI_take l i (by omega), e2]
      simp only [Option.bind_some, flagged_eq]
      rw [inTime_eq hx (by omega)]
      simp only [Option.bind_some]
      cases decide (x.Noon + x.Again - x.Half ≤ l[i].At) <;> cases flaggedL (l.take i) <;> cases inTime x l[i].At (x.Noon + x.Again) <;> cases flaggedL (l.drop i) <;> rfl
def verdictR (x : GMast) (l : List GEvent) : Int × Int := if (runS x l).2.2 = 0 then (verdS x l, 0) else (0, (runS x l).2.2)
theorem runS_zero {x : GMast} {l : List GEvent} (h : (runS x l).2.2 = 0) : okM x = true ∧ l.length ≤ 100 := by
  unfold runS at h
  split at h
  · rename_i hx
    split at h
    · cases h
    · rename_i hl
      simp only [decide_eq_true_eq] at hl
      exact ⟨hx, by omega⟩
  · cases h
theorem Verdict_eq (x : GMast) (l : List GEvent) : ball_Verdict x l = some (verdictR x l) := by
  unfold ball_Verdict verdictR
  rw [Run_eq, Option.bind_some]
  by_cases h : (runS x l).2.2 = 0
  · obtain ⟨h1, h2⟩ := runS_zero h
    have : ((runS x l).2.2 != 0) = false := by simp [h]
    simp only [this, Bool.false_eq_true, if_false]
    rw [verdict_eq (okM_facts h1) (by omega), if_pos h]; rfl
  · have : ((runS x l).2.2 != 0) = true := by simp [h]
    simp only [this, if_true]
    rw [if_neg h]
theorem verdS_range (x : GMast) (l : List GEvent) : 0 ≤ verdS x l ∧ verdS x l ≤ 5 := by
  unfold verdS
  repeat' split
  all_goals omega

end Go.Fw
namespace Go.Fw
theorem hoist1_ex : flag_Hoist [1, 1, 1, 1] = some ([1, 10, 11, 12], 0) := by
  unfold flag_Hoist
  have h1 : flag_ValidDigits [1, 1, 1, 1] = some true := by rw [ValidDigits_eq]; rfl
  rw [h1]
  simp only [Option.bind_some, Bool.not_true, Bool.false_eq_true, if_false]
  have e : ∀ (f : Int → List Int → Option (Step (List Int) (List Int))) (g : List Int → List Int) (s0 s1 s2 s3 s4 : List Int), f 0 s0 = some (.cont s1) → f 1 s1 = some (.cont s2) → f 2 s2 = some (.cont s3) → f 3 s3 = some (.cont s4) →
      rangeN f g (Int.toNat ((([1, 1, 1, 1] : List Int).length : Nat) : Int)) 0 s0 = some (g s4) := by
    intro f g s0 s1 s2 s3 s4 h0 h1 h2 h3
    show rangeN f g 4 0 s0 = _
    simp only [rangeN, h0, Option.bind_some]
    rw [show (0 : Int) + 1 = 1 from rfl, h1]
    simp only [Option.bind_some]
    rw [show (1 : Int) + 1 = 2 from rfl, h2]
    simp only [Option.bind_some]
    rw [show (2 : Int) + 1 = 3 from rfl, h3]
    rfl
  rw [e _ _ [] [1] [1, 10] [1, 10, 11] [1, 10, 11, 12]]
  · rfl
  · rfl
  · rw [show idx ([1, 1, 1, 1] : List Int) 1 = some 1 from rfl]
    simp only [Option.bind_some]
    rw [show slices_Contains_int [1] 1 = some true from rfl]
    simp only [Option.bind_some, if_true]
    rw [loopR_done (x := (10 : Int)) (by rfl)]
    rfl
  · rw [show idx ([1, 1, 1, 1] : List Int) 2 = some 1 from rfl]
    simp only [Option.bind_some]
    rw [show slices_Contains_int [1, 10] 1 = some true from rfl]
    simp only [Option.bind_some, if_true]
    rw [loopR_cont (11 : Int) (by rfl), loopR_done (x := (11 : Int)) (by rfl)]
    rfl
  · rw [show idx ([1, 1, 1, 1] : List Int) 3 = some 1 from rfl]
    simp only [Option.bind_some]
    rw [show slices_Contains_int [1, 10, 11] 1 = some true from rfl]
    simp only [Option.bind_some, if_true]
    rw [loopR_cont (11 : Int) (by rfl), loopR_cont (12 : Int) (by rfl), loopR_done (x := (12 : Int)) (by rfl)]
    rfl
theorem trial1_ex : (rate_Trial (GBox.mk (bs [97]) ([0, 7, 14, 21, 28, 35, 42, 49, 57, 65, 73, 81, 89, 97, 105] : List Int))).map (fun p => (p.1.Number, p.2)) = some (21, 0) := by decide +kernel
theorem awake9_eq : noonguntop_awake9 = some true := by
  unfold noonguntop_awake9
  obtain ⟨⟨t, e⟩, h1, h2⟩ := Option.map_eq_some_iff.1 trial1_ex
  obtain ⟨h3, h4⟩ := Prod.mk.inj h2
  dsimp only at h3 h4
  subst h4
  rw [h1, Option.bind_some]
  dsimp only
  rw [hoist1_ex, Option.bind_some]
  dsimp only
  rw [h3, show noongunref06_SameInts [1, 10, 11, 12] [1, 10, 11, 12] = some true by decide +kernel]
  decide +kernel
def bookV : List GMeaning := [⟨1010, bs [103, 111, 111, 100]⟩, ⟨1011, bs [119, 114, 111, 110, 103]⟩, ⟨1012, bs [102, 97, 108, 115, 101]⟩, ⟨1013, bs [97, 103, 97, 105, 110]⟩, ⟨1014, bs [116, 111, 108, 100]⟩, ⟨1015, bs [115, 105, 108, 101, 110, 116]⟩]
theorem bookV_eq : (rangeN (S := (List GMeaning)) (X := (List GMeaning)) (fun ik1 z2 =>
            (addI 1010 (ik1 : Int)).bind (fun t5 =>
            (ball_Word (ik1 : Int)).bind (fun t6 =>
            (appI z2 ([(GMeaning.mk t5 t6)] : List GMeaning)).bind (fun t7 =>
            some (Step.cont t7))))) (fun z2 => z2) (Int.toNat 6) 0 ([] : List GMeaning)) = some bookV := by decide +kernel
theorem bookV_ok : vBk bookV = true := by decide +kernel
theorem bookV_len : bookV.length ≤ 1000 ∧ ∀ x ∈ bookV, x.Text.size ≤ 1000 := by decide +kernel
theorem bookV_find : ∀ k : Fin 6, ((bookV.find? fun x => decide (digsOf x.Number.toNat = digsOf (1010 + k.1))).map (·.Text)) = ball_Word ((k.1 : Nat) : Int) ∧ (ball_Word ((k.1 : Nat) : Int)).isSome = true ∧ (bookV.any fun m => m.Number == 1010 + ((k.1 : Nat) : Int)) = true := by decide +kernel
theorem torn_loop (n : Int) : ∀ (l : List Int) (i : Int) (b : Bool), rangeL (α := Int) (S := Bool) (X := Bool) (fun _ yk2 z5 =>
      (if z5 = true then some true else some (yk2 == n)).bind fun b5 => some (Step.cont b5)) (fun z5 => z5) l i b = some (b || l.contains n)
  | [], _, b => by simp [rangeL]
  | y :: l, i, b => by
    rw [rangeL]
    cases b with
    | true =>
      simp only [if_true, Option.bind_some]
      rw [torn_loop n l]
      simp
    | false =>
      simp only [Bool.false_eq_true, if_false, Option.bind_some]
      rw [torn_loop n l, List.contains_cons, Bool.false_or]
      by_cases h : y = n
      · simp [h]
      · have : (y == n) = false := by simpa using h
        have h2 : (n == y) = false := by simpa using fun e => h e.symm
        rw [this, h2]
theorem law_noonguntop_TopVerdictHoisted (a0 : GMast) (ok0 : okGMast a0) (a1 : (List GEvent)) (ok1 : ∀ a ∈ a1, okGEvent a) (len1 : a1.length ≤ maxLen) (a2 : Int) (ok2 : inI a2 = true) : noonguntop_TopVerdictHoisted a0 a1 a2 = some true := by
  unfold noonguntop_TopVerdictHoisted
  rw [awake9_eq]
  by_cases hl : decide (60 < ((a1.length : Nat) : Int)) = true
  · rw [if_pos hl]; rfl
  rw [if_neg hl, Verdict_eq, Option.bind_some]
  unfold verdictR
  by_cases hr : (runS a0 a1).2.2 = 0
  case neg =>
    rw [if_neg hr]
    dsimp only
    rw [if_pos (by simp [hr]), if_pos (by decide)]
    rfl
  rw [if_pos hr]
  dsimp only
  rw [if_neg (by decide), bookV_eq, Option.bind_some]
  obtain ⟨v0, v5⟩ := verdS_range a0 a1
  generalize verdS a0 a1 = v at v0 v5
  obtain ⟨k, rfl⟩ : ∃ k : Nat, v = (k : Int) := ⟨v.toNat, by omega⟩
  have hk : k < 6 := by omega
  obtain ⟨hf, hw, hm⟩ := bookV_find ⟨k, hk⟩
  dsimp only at hf hw hm
  have hn : addI 1010 (k : Int) = some (1010 + (k : Int)) := addI_ok (by omega)
  have hN : isN (1010 + (k : Int)) = true := by unfold isN inB; simp only [Bool.and_eq_true, decide_eq_true_eq]; omega
  have ht : (1010 + (k : Int)).toNat = 1010 + k := by omega
  rw [hn, Option.bind_some, Digits_eq, Option.bind_some]
  unfold digitsS
  rw [if_pos hN]
  dsimp only
  rw [if_neg (by decide), ValidBook_eq bookV bookV_len.1 (fun x hx => by have := bookV_len.2 x hx; omega), bookV_ok, Option.bind_some, Option.bind_some]
  rw [if_neg (by decide), Lost_eq bookV a2 bookV_len.1 (fun x hx => by have := bookV_len.2 x hx; omega), Option.bind_some, With_eq]
  unfold lostS withR ask
  have hd := digsOf_len (1010 + k) (by omega)
  have hvD : vD (digsOf (1010 + (k : Int)).toNat) = true := by rw [ht]; exact vD_mk hd (digsOf_dig _)
  rw [if_pos bookV_ok, hvD]
  cases hs : inB 0 8191 a2 with
  | false =>
    simp only [Bool.false_eq_true, if_false, if_true, Option.bind_some]
    rfl
  | true =>
    obtain ⟨fl, rfl, hfl⟩ := set_nat hs
    simp only [if_true, Option.bind_some, Int.toNat_natCast, ht]
    rw [if_neg (by decide), torn_loop]
    rw [Bool.false_or, Option.bind_some]
    cases hR : RH (digsOf (1010 + k)) fl with
    | nil =>
      have : (lostL fl bookV).contains (1010 + (k : Int)) = true := by
        rw [List.contains_iff_mem]
        obtain ⟨m, hm1, hm2⟩ := List.any_eq_true.1 hm
        have hm2 := eq_of_beq hm2
        unfold lostL
        refine List.mem_map.2 ⟨m, List.mem_filter.2 ⟨hm1, ?_⟩, hm2⟩
        unfold noneP
        rw [hm2, ht, hR]; rfl
      rw [this, if_pos rfl]
      rfl
    | cons h t =>
      have : (lostL fl bookV).contains (1010 + (k : Int)) = false := by
        rw [← Bool.not_eq_true, List.contains_iff_mem]
        intro hc
        unfold lostL at hc
        obtain ⟨m, hm1, hm2⟩ := List.mem_map.1 hc
        have := (List.mem_filter.1 hm1).2
        unfold noneP at this
        rw [hm2, ht, hR] at this
        cases this
      rw [this, if_neg (by decide)]
      have hin : h ∈ RH (digsOf (1010 + k)) fl := by rw [hR]; simp
      obtain ⟨p1, p2, _⟩ := (mem_RH _ _ _).1 hin
      have hlen := RH_row _ _ hin
      have hvH : vH h = true := (vH_iff h).2 ⟨by omega, p1⟩
      dsimp only
      rw [Look_eq bookV h bookV_len.1 bookV_len.2, Option.bind_some]
      unfold lookS
      rw [bookV_ok, hvH, if_pos (show (true && true) = true from rfl), p2]
      cases hq : bookV.find? (fun x => decide (digsOf x.Number.toNat = digsOf (1010 + k))) with
      | none =>
        rw [hq] at hf
        rw [← hf] at hw
        cases hw
      | some x =>
        rw [hq] at hf
        rw [← hf]
        simp
end Go.Fw
