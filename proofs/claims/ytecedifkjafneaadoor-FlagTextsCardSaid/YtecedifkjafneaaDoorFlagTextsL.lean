/-
  FlagTexts, plain: both texts read the same books, and read back what was written.
-/
import Derived.Test.YtecedifkjafneaaDoorM
import Derived.Test.YtecedifkjafneaaDoorFwN
import Derived.Test.YtecedifkjafneaaDoorFwZ
import Derived.Lib.SplitLaws
import Derived.Lib.CountLaws
import Derived.Lib.ItoaLen
import Derived.Lib.AtoiTie
namespace Go.Fw
def inB (a b x : Int) : Bool := decide (a ≤ x) && decide (x ≤ b)
def vD (l : List Int) : Bool := inB 1 4 (l.length : Int) && l.all (inB 0 9)
theorem within_eq (a b c : Int) : flag_within a b c = some (inB b c a) := rfl
theorem indexFunc_eq (l : List Int) (f : Int → Option Bool) (p : Int → Bool) (h : ∀ x ∈ l, f x = some (p x)) : slices_ContainsFunc_int l f = some (l.any p) := by
  unfold slices_ContainsFunc_int slices_IndexFunc_int
  rw [index_loop p]
  · rw [← findIdx_any]
    cases l.findIdx? p with
    | none => rfl
    | some i => simp
  · intro i x hx
    simp only [idx_at hx, Option.bind_some, h x (List.mem_of_getElem? hx)]
    cases p x <;> rfl
theorem contains_eq (l : List Int) (x : Int) : slices_Contains_int l x = some (l.contains x) := by
  unfold slices_Contains_int slices_Index_int
  rw [index_loop (fun y => x == y)]
  · have : l.contains x = l.any (fun y => x == y) := by
      rw [List.contains_eq_any_beq]
    rw [this, ← findIdx_any]
    cases l.findIdx? (fun y => x == y) with
    | none => rfl
    | some i => simp
  · intro i y hy
    simp only [idx_at hy, Option.bind_some]
    cases (x == y) <;> rfl
theorem not_any {α : Type} (p : α → Bool) (l : List α) : (!l.any fun x => !p x) = l.all p := by
  induction l with
  | nil => rfl
  | cons x l ih => simp only [List.any_cons, List.all_cons, Bool.not_or, Bool.not_not, ih]
theorem listed_eq (l : List Int) (m : Int) : flag_listed l m = some (inB 1 4 (l.length : Int) && l.all (inB 0 m)) := by
  unfold flag_listed
  simp only [within_eq, Option.bind_some]
  rw [indexFunc_eq l (fun x0 => flag_listed_c1 x0 m) (fun x => !inB 0 m x) (fun x _ => by simp only [flag_listed_c1, within_eq, Option.bind_some])]
  simp only [Option.bind_some, not_any]
  cases inB 1 4 (l.length : Int) <;> simp
theorem ValidDigits_eq (l : List Int) : flag_ValidDigits l = some (vD l) := by
  unfold flag_ValidDigits
  rw [listed_eq]; rfl
/-- Is the flag wrong behind those before it? -/
def badF (pre : List Int) (x : Int) : Bool := pre.contains x || decide (10 ≤ x) && decide ((pre.length : Int) ≤ x - 10)
def vH (h : List Int) : Bool := inB 1 4 (h.length : Int) && h.all (inB 0 12) && !anyPre badF [] h
theorem ValidHoist_eq (h : List Int) : flag_ValidHoist h = some (vH h) := by
  unfold flag_ValidHoist vH
  rw [listed_eq]
  simp only [Option.bind_some]
  cases hl : (inB 1 4 (h.length : Int) && h.all (inB 0 12)) with
  | false => simp
  | true =>
    simp only [Bool.not_true, Bool.false_eq_true, if_false, Bool.true_and]
    have hall : h.all (inB 0 12) = true := by simp only [Bool.and_eq_true] at hl; exact hl.2
    rw [rangeN_pre (fun pre x _ => some (if badF pre x = true then .done (Ctl.ret false) else .cont ()))]
    · rw [preL_search badF (Ctl.ret false) [] h (fun pre x _ => rfl)]
      cases anyPre badF [] h <;> rfl
    · intro i x s hx
      have hi : i < h.length := (List.getElem?_eq_some_iff.1 hx).1
      have hx2 := List.all_eq_true.1 hall x (List.mem_of_getElem? hx)
      simp only [inB, Bool.and_eq_true, decide_eq_true_eq] at hx2
      simp only [idx_at hx, Option.bind_some, cutI_take h i (by omega), contains_eq, flag_place]
      rw [subI_ok (by omega)]
      unfold badF
      have hlen : (h.take i).length = i := by rw [List.length_take]; omega
      rw [hlen]
      cases (h.take i).contains x
      · by_cases h1 : 10 ≤ x
        · by_cases h2 : (i : Int) ≤ x - 10 <;> simp [h1, h2]
        · simp [h1]
      · simp
theorem anyPre_or {p q : List Int → Int → Bool} (pre l : List Int) (h : ∀ pre x, x ∈ l → p pre x = q pre x) : anyPre p pre l = anyPre q pre l := by
  induction l generalizing pre with
  | nil => rfl
  | cons x l ih => rw [anyPre, anyPre, h pre x (by simp), ih _ fun pre y hy => h pre y (by simp [hy])]
theorem anyPre_all (p : List Int → Int → Bool) (q : Int → Bool) (pre l : List Int) : anyPre (fun pre x => !q x || p pre x) pre l = (!l.all q || anyPre p pre l) := by
  induction l generalizing pre with
  | nil => rfl
  | cons x l ih =>
    rw [anyPre, ih, List.all_cons, anyPre]
    cases q x <;> cases p pre x <;> cases l.all q <;> simp
/-- What a hoist means, place by place. -/
def meansL (out : List Int) : List Int → List Int
  | [] => out
  | f :: h => meansL (out ++ [if 10 ≤ f then (idx out (f - 10)).getD 0 else f]) h
theorem means_loop (pre out h : List Int) (i : Int) (hv : anyPre badF pre h = false) (hp : pre.length = out.length) (hall : h.all (inB 0 12) = true) (hlen : out.length + h.length ≤ 1000) :
    rangeL (fun _ yk1 z2 => (((if (decide (10 ≤ yk1)) = true then (subI yk1 10).bind (fun t1 => (idx z2 t1).bind (fun x1 => some x1)) else some yk1) : Option Int).bind (fun s3 => (appI z2 ([s3] : List Int)).bind (fun t2 => some t2))).bind (fun s2 => some (Step.cont s2)))
      (fun z2 => z2) h i out = some (meansL out h) := by
  induction h generalizing out pre i with
  | nil => rfl
  | cons f h ih =>
    simp only [anyPre, Bool.or_eq_false_iff] at hv
    simp only [List.all_cons, Bool.and_eq_true] at hall
    simp only [List.length_cons] at hlen
    have hf := hall.1
    simp only [inB, Bool.and_eq_true, decide_eq_true_eq] at hf
    have hval : ((if (decide (10 ≤ f)) = true then (subI f 10).bind (fun t1 => (idx out t1).bind (fun x1 => some x1)) else some f) : Option Int) = some (if 10 ≤ f then (idx out (f - 10)).getD 0 else f) := by
      by_cases h1 : 10 ≤ f
      · have h2 := hv.1
        simp only [badF, Bool.or_eq_false_iff, h1, decide_true, Bool.true_and, decide_eq_false_iff_not, hp] at h2
        rw [if_pos (by simpa using h1), subI_ok (by omega), if_pos h1]
        simp only [Option.bind_some]
        rw [idx_int (by omega) (by omega)]
        rfl
      · rw [if_neg (by simpa using h1), if_neg h1]
    rw [rangeL, hval]
    simp only [Option.bind_some]
    rw [appI_ok (by simp; omega)]
    simp only [Option.bind_some]
    rw [ih (pre ++ [f]) _ _ hv.2 (by simp [hp]) hall.2 (by simp; omega)]
    rfl
theorem vH_parts {h : List Int} (hv : vH h = true) : 1 ≤ h.length ∧ h.length ≤ 4 ∧ h.all (inB 0 12) = true ∧ anyPre badF [] h = false := by
  simp only [vH, inB, Bool.and_eq_true, decide_eq_true_eq, Bool.not_eq_true'] at hv
  exact ⟨by omega, by omega, hv.1.2, hv.2⟩
theorem means_eq (h : List Int) (hv : vH h = true) : flag_means h = some (meansL [] h) := by
  obtain ⟨_, h2, h3, h4⟩ := vH_parts hv
  unfold flag_means
  simp only [flag_place]
  have := means_loop [] [] h 0 h4 rfl h3 (by simp; omega)
  simp only [Option.bind_assoc, Option.bind_some] at this ⊢
  rw [this]
  rfl
def meansR (h : List Int) : List Int × Int := if vH h = true then (meansL [] h, 0) else ([], 1)
theorem Means_eq (h : List Int) : flag_Means h = some (meansR h) := by
  unfold flag_Means meansR
  rw [ValidHoist_eq]
  simp only [Option.bind_some]
  cases hv : vH h with
  | false => simp
  | true => simp [means_eq h hv]
theorem same_eq (a b : List Int) : noongunref07_SameInts a b = some (decide (a = b)) := by
  unfold noongunref07_SameInts
  exact same_fun (fun x y => x != y) (fun x y => by rfl) a b
theorem hoist_ex : flag_Hoist [1, 2, 1, 1] = some ([1, 2, 10, 12], 0) := by
  unfold flag_Hoist
  have h1 : flag_ValidDigits [1, 2, 1, 1] = some true := by rw [ValidDigits_eq]; rfl
  rw [h1]
  simp only [Option.bind_some, Bool.not_true, Bool.false_eq_true, if_false]
  have e : ∀ (f : Int → List Int → Option (Step (List Int) (List Int))) (g : List Int → List Int) (s0 s1 s2 s3 s4 : List Int), f 0 s0 = some (.cont s1) → f 1 s1 = some (.cont s2) → f 2 s2 = some (.cont s3) → f 3 s3 = some (.cont s4) →
      rangeN f g (Int.toNat ((([1, 2, 1, 1] : List Int).length : Nat) : Int)) 0 s0 = some (g s4) := by
    intro f g s0 s1 s2 s3 s4 h0 h1 h2 h3
    show rangeN f g 4 0 s0 = _
    simp only [rangeN, h0, Option.bind_some]
    rw [show (0 : Int) + 1 = 1 from rfl, h1]
    simp only [Option.bind_some]
    rw [show (1 : Int) + 1 = 2 from rfl, h2]
    simp only [Option.bind_some]
    rw [show (2 : Int) + 1 = 3 from rfl, h3]
    rfl
  rw [e _ _ [] [1] [1, 2] [1, 2, 10] [1, 2, 10, 12]]
  · rfl
  · rfl
  · rfl
  · rw [show idx ([1, 2, 1, 1] : List Int) 2 = some 1 from rfl]
    simp only [Option.bind_some]
    rw [show slices_Contains_int [1, 2] 1 = some true from rfl]
    simp only [Option.bind_some, if_true]
    rw [loopR_done (x := (10 : Int)) (by rfl)]
    rfl
  · rw [show idx ([1, 2, 1, 1] : List Int) 3 = some 1 from rfl]
    simp only [Option.bind_some]
    rw [show slices_Contains_int [1, 2, 10] 1 = some true from rfl]
    simp only [Option.bind_some, if_true]
    rw [loopR_cont (11 : Int) (by rfl), loopR_cont (12 : Int) (by rfl), loopR_done (x := (12 : Int)) (by rfl)]
    rfl
theorem awake_eq : noongunlaw07_awake = some true := by
  unfold noongunlaw07_awake
  rw [hoist_ex, Means_eq]
  rfl
end Go.Fw
namespace Go.Fw
def isN (n : Int) : Bool := inB 0 9999 n
theorem isNumber_eq (n : Int) : flag_isNumber n = some (isN n) := rfl
def goodB (b : UInt8) : Bool := decide (32 ≤ b.toNat) && decide (b.toNat ≤ 126)
def vText (s : ByteArray) : Bool := (bytes s).all goodB
theorem byte_get {s : ByteArray} {p : Nat} (h : p < s.size) : (s.get! p) = (bytes s)[p]'h := by
  show s.data[p]! = s.data.toList[p]
  rw [getElem!_pos s.data p h]
  rfl
theorem dec_small {s : ByteArray} {p : Nat} (h : p < s.size) (hb : ((bytes s)[p]'h).toNat < 128) : Utf8.decode s p = (((bytes s)[p]'h).toNat, 1) := by
  unfold Utf8.decode
  simp only [Nat.add_zero, byte_get h, hb, if_true]
theorem dec_big {s : ByteArray} {p : Nat} (h : p < s.size) (hb : ¬ ((bytes s)[p]'h).toNat < 128) : 128 ≤ (Utf8.decode s p).1 := by
  unfold Utf8.decode
  simp only [Nat.add_zero, byte_get h, hb, if_false, Utf8.runeError]
  repeat' split
  all_goals simp_all
  all_goals omega
theorem inB_iff' {a b x : Int} : inB a b x = true ↔ a ≤ x ∧ x ≤ b := by simp [inB]
theorem isN_le' {a : Int} (h : isN a = true) : 0 ≤ a ∧ a ≤ 9999 := inB_iff'.1 h
theorem find_congr {α : Type} {p q : α → Bool} : ∀ {l : List α}, (∀ x ∈ l, p x = q x) → l.find? p = l.find? q
  | [], _ => rfl
  | x :: l, h => by
    rw [List.find?_cons, List.find?_cons, h x (by simp), find_congr fun y hy => h y (by simp [hy])]
theorem runes_eq (s : ByteArray) : ∀ (n p : Nat), s.size + 1 ≤ n + p → ∃ k : Int, idxR (fun x0 => flag_ValidBook_c1 x0) true (runesL s n p) = some k ∧ decide (0 ≤ k) = !((bytes s).drop p).all goodB
  | 0, p, h => ⟨-1, rfl, by rw [List.drop_of_length_le (by rw [bytes_len]; omega)]; rfl⟩
  | n + 1, p, h => by
    by_cases hp : p < s.size
    · have hd : (bytes s).drop p = (bytes s)[p]'hp :: (bytes s).drop (p + 1) := List.drop_eq_getElem_cons (by rw [bytes_len]; exact hp)
      rw [runesL, if_pos hp, hd, List.all_cons, idxR]
      by_cases hb : ((bytes s)[p]'hp).toNat < 128
      · rw [dec_small hp hb]
        unfold flag_ValidBook_c1
        cases hg : goodB ((bytes s)[p]'hp) with
        | true =>
          have : ((decide (((((bytes s)[p]'hp).toNat : Nat) : Int) < 32)) || (decide (126 < ((((bytes s)[p]'hp).toNat : Nat) : Int)))) = false := by
            unfold goodB at hg
            simp only [Bool.and_eq_true, decide_eq_true_eq] at hg
            simp only [Bool.or_eq_false_iff, decide_eq_false_iff_not]
            omega
          simp only [this, Option.bind_some, Bool.true_and]
          exact runes_eq s n (p + 1) (by omega)
        | false =>
          have : ((decide (((((bytes s)[p]'hp).toNat : Nat) : Int) < 32)) || (decide (126 < ((((bytes s)[p]'hp).toNat : Nat) : Int)))) = true := by
            unfold goodB at hg
            simp only [Bool.and_eq_false_iff, decide_eq_false_iff_not] at hg
            simp only [Bool.or_eq_true, decide_eq_true_eq]
            omega
          simp only [this, Option.bind_some, Bool.false_and, Bool.not_false]
          exact ⟨(p : Int), by simp, by simp⟩
      · have hbig := dec_big hp hb
        have hg : goodB ((bytes s)[p]'hp) = false := by
          unfold goodB
          simp only [Bool.and_eq_false_iff, decide_eq_false_iff_not]
          omega
        unfold flag_ValidBook_c1
        have : ((decide (((Utf8.decode s p).1 : Int) < 32)) || (decide (126 < ((Utf8.decode s p).1 : Int)))) = true := by
          simp only [Bool.or_eq_true, decide_eq_true_eq]
          omega
        simp only [this, hg, Option.bind_some, Bool.false_and, Bool.not_false]
        exact ⟨(p : Int), by simp, by simp⟩
    · refine ⟨-1, ?_, by rw [List.drop_of_length_le (by rw [bytes_len]; omega)]; rfl⟩
      rw [runesL, if_neg hp]; rfl
theorem text_eq (s : ByteArray) (h : s.size ≤ 70000) : strings_ContainsFunc s (fun x0 => flag_ValidBook_c1 x0) = some (!vText s) := by
  unfold strings_ContainsFunc strings_IndexFunc strings_indexFunc
  rw [if_pos (by omega)]
  obtain ⟨k, h1, h2⟩ := runes_eq s (s.size + 1) 0 (by omega)
  rw [h1]
  simp only [Option.bind_some, h2, List.drop_zero]
  rfl
def vM (x : GMeaning) : Bool := isN x.Number && (inB 1 60 ((x.Text.size : Nat) : Int) && vText x.Text)
theorem meaning_eq (x : GMeaning) (h : x.Text.size ≤ 70000) : noongunref07_meaning x = some (vM x) := by
  unfold noongunref07_meaning
  have hi : inI ((x.Text.size : Nat) : Int) = true := by rw [inI_iff]; omega
  unfold chkI
  rw [if_pos hi, ← bytes_len x.Text, rangeN_pre (fun _ b _ => some (if (!goodB b) = true then .done (Ctl.ret false) else .cont ()))]
  · rw [preL_search (fun _ b => !goodB b) (Ctl.ret false) [] _ (fun _ _ _ => rfl)]
    have hany : ∀ (l pre : List UInt8), anyPre (fun _ b => !goodB b) pre l = !l.all goodB := by
      intro l
      induction l with
      | nil => intro pre; rfl
      | cons b l ih => intro pre; rw [anyPre, ih, List.all_cons, Bool.not_and]
    rw [hany]
    unfold vM vText isN inB
    rw [bytes_len]
    cases (bytes x.Text).all goodB <;> simp [Bool.and_assoc]
  · intro i b s hb
    simp only [idx_at hb, Option.bind_some]
    unfold goodB
    by_cases h1 : (b.toNat : Int) < 32
    · have : ¬ 32 ≤ b.toNat := by omega
      simp [h1, this]
    · have h3 : 32 ≤ b.toNat := by omega
      by_cases h2 : (126 : Int) < (b.toNat : Int)
      · have : ¬ b.toNat ≤ 126 := by omega
        simp [h1, h2, h3, this]
      · have : b.toNat ≤ 126 := by omega
        simp [h1, h2, h3, this]
def lateB (pre : List GMeaning) (x : GMeaning) : Bool := match pre.getLast? with | some y => decide (x.Number ≤ y.Number) | none => false
def badM (pre : List GMeaning) (x : GMeaning) : Bool := !vM x || lateB pre x
def vBk (l : List GMeaning) : Bool := !anyPre badM [] l && decide (((l.length : Nat) : Int) ≤ 200)
theorem late_eq {l : List GMeaning} (hl : l.length ≤ 1000) {i : Nat} {x : GMeaning} (hx : l[i]? = some x) : (((if (decide (0 < (i : Int))) = true then (subI (i : Int) 1).bind (fun t2 => (idx l t2).bind (fun x2 => some (decide (x.Number ≤ x2.Number)))) else some false)) : Option Bool) = some (lateB (l.take i) x) := by
  have hi := (List.getElem?_eq_some_iff.1 hx).1
  unfold lateB
  cases i with
  | zero => simp
  | succ i =>
    have hi2 : i < l.length := by omega
    have e1 : l[i]? = some l[i] := List.getElem?_eq_getElem hi2
    have hg : (l.take (i + 1)).getLast? = some l[i] := by
      rw [List.getLast?_eq_getElem?, List.length_take, List.getElem?_take]
      have : min (i + 1) l.length - 1 = i := by omega
      rw [if_pos (by omega), this, e1]
    have hs : subI ((i + 1 : Nat) : Int) 1 = some (i : Int) := by
      rw [subI_ok (by omega)]; congr 1; omega
    rw [hg, if_pos (decide_eq_true (by omega)), hs, Option.bind_some, idx_at e1]
    rfl
theorem ValidBook_eq (l : List GMeaning) (hl : l.length ≤ 1000) (ht : ∀ x ∈ l, x.Text.size ≤ 70000) : flag_ValidBook l = some (vBk l) := by
  unfold flag_ValidBook vBk
  rw [rangeN_pre (fun pre x _ => if x ∈ l then some (if badM pre x = true then .done (Ctl.ret false) else .cont ()) else none)]
  · rw [preL_search badM (Ctl.ret false) [] l (fun pre x hx => by rw [if_pos hx])]
    cases anyPre badM [] l <;> simp
  · intro i x s hx
    have hmem := List.mem_of_getElem? hx
    have hsz := ht x hmem
    rw [if_pos hmem, idx_at hx, Option.bind_some, isNumber_eq, Option.bind_some, text_eq _ hsz]
    have hlate := late_eq hl hx
    simp only [hlate, Option.bind_some, within_eq]
    unfold badM vM
    cases isN x.Number <;> cases lateB (l.take i) x <;> cases inB 1 60 ((x.Text.size : Nat) : Int) <;> cases vText x.Text <;> rfl
theorem rValidBook_eq (l : List GMeaning) (hl : l.length ≤ 1000) (ht : ∀ x ∈ l, x.Text.size ≤ 70000) : noongunref07_ValidBook l = some (vBk l) := by
  unfold noongunref07_ValidBook vBk
  rw [rangeN_pre (fun pre x _ => if x ∈ l then some (if badM pre x = true then .done (Ctl.ret false) else .cont ()) else none)]
  · rw [preL_search badM (Ctl.ret false) [] l (fun pre x hx => by rw [if_pos hx])]
    cases anyPre badM [] l <;> simp
  · intro i x s hx
    have hmem := List.mem_of_getElem? hx
    rw [if_pos hmem, idx_at hx, Option.bind_some, meaning_eq x (ht x hmem), Option.bind_some]
    have hlate := late_eq hl hx
    simp only [hlate, Option.bind_some]
    unfold badM
    cases vM x <;> cases lateB (l.take i) x <;> rfl
/-- In a valid book each meaning is valid, and the numbers rise. -/
theorem book_sorted : ∀ (l pre : List GMeaning), anyPre badM pre l = false → (∀ x ∈ l, vM x = true) ∧ l.Pairwise (fun x y => x.Number < y.Number) ∧ ∀ y, pre.getLast? = some y → ∀ x ∈ l, y.Number < x.Number
  | [], _, _ => ⟨by simp, List.Pairwise.nil, by simp⟩
  | x :: l, pre, h => by
    rw [anyPre, Bool.or_eq_false_iff] at h
    obtain ⟨h1, h2⟩ := h
    obtain ⟨g1, g2, g3⟩ := book_sorted l (pre ++ [x]) h2
    unfold badM at h1
    rw [Bool.or_eq_false_iff] at h1
    have hx := g3 x (by simp)
    refine ⟨fun y hy => ?_, List.pairwise_cons.2 ⟨hx, g2⟩, fun y hy z hz => ?_⟩
    · rcases List.mem_cons.1 hy with rfl | hy
      · simpa using h1.1
      · exact g1 y hy
    · have hyx : y.Number < x.Number := by
        have := h1.2
        unfold lateB at this
        rw [hy] at this
        simp only [decide_eq_false_iff_not] at this
        omega
      rcases List.mem_cons.1 hz with rfl | hz
      · exact hyx
      · have := hx z hz; omega
theorem vM_num {x : GMeaning} (h : vM x = true) : isN x.Number = true := by
  unfold vM at h
  rw [Bool.and_eq_true] at h
  exact h.1
theorem book_facts {l : List GMeaning} (h : vBk l = true) : (∀ x ∈ l, vM x = true) ∧ l.Pairwise (fun x y => x.Number < y.Number) := by
  unfold vBk at h
  rw [Bool.and_eq_true] at h
  obtain ⟨g1, g2, _⟩ := book_sorted l [] (by simpa using h.1)
  exact ⟨g1, g2⟩
end Go.Fw
namespace Go.Fw
open Go
theorem bytes_bs (l : List UInt8) : bytes (bs l) = l := rfl
theorem bs_bytes (s : ByteArray) : bs (bytes s) = s := rfl
theorem bs_app (a b : List UInt8) : bs a ++ bs b = bs (a ++ b) := by
  refine ByteArray.ext ?_
  show (bs a ++ bs b).data = _
  rw [ByteArray.data_append]
  simp [bs]
theorem bs_size (l : List UInt8) : (bs l).size = l.length := rfl
theorem bs_inj {a b : List UInt8} (h : bs a = bs b) : a = b := congrArg bytes h
theorem indexByte_app {c : UInt8} : ∀ {a : List UInt8} (r : List UInt8), c ∉ a → Lib.indexByte (a ++ c :: r) c = (a.length : Int)
  | [], r, _ => by rw [List.nil_append, Lib.indexByte, if_pos (beq_self_eq_true c)]; rfl
  | b :: a, r, h => by
    have hb : (b == c) = false := by rw [beq_eq_false_iff_ne]; exact fun e => h (e ▸ List.mem_cons_self ..)
    have ih := indexByte_app (a := a) r fun hm => h (List.mem_cons_of_mem _ hm)
    rw [List.cons_append, Lib.indexByte, hb, if_neg (by decide), ih, List.length_cons]
    have : ((a.length : Int) == -1) = false := by rw [beq_eq_false_iff_ne]; omega
    rw [this, if_neg (by decide)]
    omega
theorem indexByte_not {c : UInt8} : ∀ {a : List UInt8}, c ∉ a → Lib.indexByte a c = -1
  | [], _ => rfl
  | b :: a, h => by
    have hb : (b == c) = false := by rw [beq_eq_false_iff_ne]; exact fun e => h (e ▸ List.mem_cons_self ..)
    rw [Lib.indexByte, hb, if_neg (by decide), indexByte_not fun hm => h (List.mem_cons_of_mem _ hm)]
    rfl
theorem cut_found {c : UInt8} {a : List UInt8} (r : List UInt8) (h : c ∉ a) : Lib.cut (a ++ c :: r) [c] = (a, r, true) := by
  unfold Lib.cut
  rw [Lib.index_one, indexByte_app r h, if_pos (by omega)]
  simp
theorem cut_none {c : UInt8} {a : List UInt8} (h : c ∉ a) : Lib.cut a [c] = (a, [], false) := by
  unfold Lib.cut
  rw [Lib.index_one, indexByte_not h, if_neg (by omega)]
theorem cut_cases (c : UInt8) (l : List UInt8) : (c ∉ l ∧ Lib.cut l [c] = (l, [], false)) ∨ ∃ a r, l = a ++ c :: r ∧ c ∉ a ∧ Lib.cut l [c] = (a, r, true) := by
  by_cases h : c ∈ l
  · obtain ⟨a, r, rfl, ha⟩ := List.eq_append_cons_of_mem h
    exact .inr ⟨a, r, rfl, ha, cut_found r ha⟩
  · exact .inl ⟨h, cut_none h⟩
def splitW (s sep : ByteArray) : List ByteArray := Lib.splitB sep 0 (Lib.countB s sep) s
theorem indexB_one (l : List UInt8) (c : UInt8) : Lib.indexB (bs l) (bs [c]) = Lib.indexByte l c := by
  show Lib.index l [c] = _
  exact Lib.index_one l c
theorem extract_left (a r : List UInt8) : (bs (a ++ r)).extract 0 (a.length + 0) = bs a := by
  refine ByteArray.ext ?_
  simp [bs]
theorem extract_right (a r : List UInt8) (c : UInt8) : (bs (a ++ c :: r)).extract (a.length + 1) (bs (a ++ c :: r)).size = bs r := by
  refine ByteArray.ext ?_
  apply Array.ext'
  have hs : (bs (a ++ c :: r)).size = a.length + 1 + r.length := by rw [bs_size, List.length_append, List.length_cons]; omega
  rw [hs]
  simp only [bs, ByteArray.data_extract, Array.toList_extract]
  rw [List.extract_eq_take_drop]
  rw [show a ++ c :: r = (a ++ [c]) ++ r by simp, List.drop_append_of_le_length (by simp), List.drop_of_length_le (by simp)]
  simp
theorem split_found {c : UInt8} {a : List UInt8} (r : List UInt8) (h : c ∉ a) : splitW (bs (a ++ c :: r)) (bs [c]) = bs a :: splitW (bs r) (bs [c]) := by
  have hi : Lib.indexB (bs (a ++ c :: r)) (bs [c]) = (a.length : Nat) := by rw [indexB_one, indexByte_app r h]
  have h1 := Lib.countB_hit (bs (a ++ c :: r)) (bs [c]) a.length (Nat.le_refl 1) hi
  have hs : (bs [c]).size = 1 := rfl
  rw [hs, extract_right] at h1
  unfold splitW
  rw [h1, Nat.add_comm, Lib.splitB_hit _ _ _ _ a.length hi, hs, extract_right, extract_left]
theorem split_none {c : UInt8} {a : List UInt8} (h : c ∉ a) : splitW (bs a) (bs [c]) = [bs a] := by
  have hi : Lib.indexB (bs a) (bs [c]) = -1 := by rw [indexB_one, indexByte_not h]
  unfold splitW
  exact Lib.splitB_miss _ _ _ _ hi
/-! Numbers. -/
theorem digit_range {d : Nat} (h : d < 10) : (UInt8.ofNat (48 + d)).toNat = 48 + d := by
  rw [UInt8.toNat_ofNat']
  omega
theorem decDigits_digit : ∀ (u : Nat), ∀ b ∈ Lib.decDigits u, 48 ≤ b.toNat ∧ b.toNat ≤ 57
  | u, b, hb => by
    rw [Lib.decDigits] at hb
    split at hb
    · rename_i h
      rw [List.mem_singleton.1 hb, digit_range h]
      omega
    · rename_i h
      rcases List.mem_append.1 hb with hb | hb
      · exact decDigits_digit (u / 10) b hb
      · rw [List.mem_singleton.1 hb, digit_range (Nat.mod_lt _ (by omega))]
        omega
termination_by u => u
decreasing_by omega
theorem decFrom_app (l1 : List UInt8) : ∀ (acc : Nat) (l2 : List UInt8), Lib.decFrom acc (l1 ++ l2) = (Lib.decFrom acc l1).bind fun n => Lib.decFrom n l2 := by
  induction l1 with
  | nil => intro acc l2; rfl
  | cons b l ih =>
    intro acc l2
    rw [List.cons_append, Lib.decFrom, Lib.decFrom]
    cases Lib.digitVal b with
    | none => rfl
    | some d => exact ih _ _
theorem digitVal_digit {d : Nat} (h : d < 10) : Lib.digitVal (UInt8.ofNat (48 + d)) = some d := by
  unfold Lib.digitVal
  rw [digit_range h, if_pos (by omega)]
  congr 1
  omega
theorem decFrom_digits : ∀ (u : Nat), Lib.decFrom 0 (Lib.decDigits u) = some u
  | u => by
    rw [Lib.decDigits]
    split
    · rename_i h
      rw [Lib.decFrom, digitVal_digit h]
      dsimp only
      rw [Lib.decFrom, Nat.zero_mul, Nat.zero_add]
    · rename_i h
      rw [decFrom_app, decFrom_digits (u / 10), Option.bind_some, Lib.decFrom, digitVal_digit (Nat.mod_lt _ (by omega))]
      dsimp only
      rw [Lib.decFrom]
      congr 1
      omega
termination_by u => u
decreasing_by omega
theorem decDigits_ne (u : Nat) : Lib.decDigits u ≠ [] := by
  rw [Lib.decDigits]
  split
  · simp
  · simp
theorem nDigits_le : ∀ (k u : Nat), u < 10 ^ (k + 1) → Lib.nDigits u ≤ k + 1
  | 0, u, h => by rw [Lib.nDigits_small (by omega)]; exact Nat.le_refl _
  | k + 1, u, h => by
    by_cases h10 : u < 10
    · rw [Lib.nDigits_small h10]; omega
    · rw [Lib.nDigits_big h10]
      have := nDigits_le k (u / 10) (by rw [Nat.pow_succ] at h; omega)
      omega
theorem decNat_digits (u : Nat) : Lib.decNat (Lib.decDigits u) = some u := by
  unfold Lib.decNat
  have : (Lib.decDigits u).isEmpty = false := by
    cases h : Lib.decDigits u with
    | nil => exact absurd h (decDigits_ne u)
    | cons a l => rfl
  rw [this, if_neg (by decide), decFrom_digits]
theorem atoi_itoa (n : Int) : Lib.atoi (Lib.itoa n) = some n := by
  unfold Lib.itoa
  split
  · rename_i h
    rw [Lib.atoi, if_pos (by decide), decNat_digits]
    simp only [Option.map_some, Option.some.injEq]
    omega
  · rename_i h
    obtain ⟨b, l, hbl⟩ := List.exists_cons_of_ne_nil (decDigits_ne n.toNat)
    have hb := decDigits_digit n.toNat b (by rw [hbl]; exact List.mem_cons_self ..)
    have h45 : (b == 45) = false := by rw [beq_eq_false_iff_ne]; rintro rfl; exact absurd hb.1 (by decide)
    have h43 : (b == 43) = false := by rw [beq_eq_false_iff_ne]; rintro rfl; exact absurd hb.1 (by decide)
    have hd := decNat_digits n.toNat
    rw [hbl] at hd ⊢
    rw [Lib.atoi, h45, h43, if_neg (by decide), if_neg (by decide), hd]
    simp only [Option.map_some, Option.some.injEq]
    omega
theorem itoa_len {n : Int} (h : -1000000000000000 ≤ n ∧ n ≤ 1000000000000000) : (Lib.itoa n).length ≤ 17 := by
  unfold Lib.itoa
  split
  · have := nDigits_le 15 n.natAbs (by have : (10 : Nat) ^ 16 = 10000000000000000 := by decide
                                       omega)
    rw [List.length_cons, Lib.decDigits_length]
    omega
  · have := nDigits_le 15 n.toNat (by have : (10 : Nat) ^ 16 = 10000000000000000 := by decide
                                      omega)
    rw [Lib.decDigits_length]
    omega
theorem atoiAll_itoa {n : Int} (h : -1000000000000000 ≤ n ∧ n ≤ 1000000000000000) : Lib.atoiAll (Lib.itoa n) = .ok n := by
  rw [Lib.atoiAll_short _ (by have := itoa_len h; omega), atoi_itoa]
  rfl
theorem atoiV_itoa {n : Int} (h : -1000000000000000 ≤ n ∧ n ≤ 1000000000000000) : atoiV (bs (Lib.itoa n)) = n := by
  unfold atoiV
  have : (bs (Lib.itoa n)).data.toList = Lib.itoa n := rfl
  rw [this, atoiAll_itoa h]
theorem itoa_bytes {n : Int} {b : UInt8} (hb : b ∈ Lib.itoa n) : b.toNat = 45 ∨ (48 ≤ b.toNat ∧ b.toNat ≤ 57) := by
  unfold Lib.itoa at hb
  split at hb
  · rcases List.mem_cons.1 hb with rfl | hb
    · exact .inl rfl
    · exact .inr (decDigits_digit _ b hb)
  · exact .inr (decDigits_digit _ b hb)
theorem itoa_not (n : Int) (c : UInt8) (h : c.toNat < 45) : c ∉ Lib.itoa n := fun hm => by
  have := itoa_bytes hm
  omega
theorem itoa_ne (n : Int) : Lib.itoa n ≠ [] := by
  unfold Lib.itoa
  split
  · simp
  · exact decDigits_ne _
theorem prefix_line {c : UInt8} {a l r : List UInt8} (ha : c ∉ a) (hl : c ∉ l) : Lib.hasPrefix (a ++ c :: r) (l ++ [c]) = decide (a = l) := by
  unfold Lib.hasPrefix
  rw [Bool.eq_iff_iff, List.isPrefixOf_iff_prefix, decide_eq_true_eq]
  constructor
  · rintro ⟨t, ht⟩
    rw [List.append_assoc, List.singleton_append] at ht
    have h1 := cut_found t hl
    rw [ht, cut_found r ha] at h1
    exact congrArg Prod.fst h1
  · rintro rfl
    exact ⟨r, by simp⟩
theorem prefix_noline {c : UInt8} {a l : List UInt8} (ha : c ∉ a) : Lib.hasPrefix a (l ++ [c]) = false := by
  unfold Lib.hasPrefix
  rw [Bool.eq_false_iff, Ne, List.isPrefixOf_iff_prefix]
  rintro ⟨t, ht⟩
  exact ha (ht ▸ by simp)
theorem rangeN_unit {X : Type} {body : Int → Unit → Option (Step Unit X)} {fin : Unit → X} : ∀ (k i : Nat), (∀ j, i ≤ j → j < i + k → body (j : Int) () = some (.cont ())) → rangeN body fin k (i : Int) () = some (fin ())
  | 0, _, _ => rfl
  | k + 1, i, h => by
    rw [rangeN, h i (Nat.le_refl _) (by omega), Option.bind_some]
    exact rangeN_unit k (i + 1) fun j h1 h2 => h j (by omega) (by omega)
end Go.Fw
namespace Go.Fw
theorem itoa_eq (a : Int) (h0 : -9223372036854775808 ≤ a) (h1 : a ≤ 9223372036854775807) : strconv_Itoa a = some (bs (Lib.itoa a)) := if_pos ⟨h0, h1⟩
theorem cat_eq {a b : ByteArray} (h : a.size + b.size ≤ 1099511627776) : catI a b = some (a ++ b) := if_pos h
theorem itoa_size (a : Int) (h0 : -9223372036854775808 ≤ a) (h1 : a ≤ 9223372036854775807) : (bs (Lib.itoa a)).size ≤ 21 := Lib.itoa_length_le a h0 h1
theorem bs1 (c : UInt8) : (bs [c]).size = 1 := rfl
theorem atoiV_in (s : ByteArray) : -9223372036854775808 ≤ atoiV s ∧ atoiV s ≤ 9223372036854775807 := by
  unfold atoiV
  cases h : Lib.atoiAll s.data.toList with
  | ok v => exact Lib.atoiAll_bounds h
  | range =>
    show -9223372036854775808 ≤ Lib.atoiSat _ ∧ Lib.atoiSat _ ≤ 9223372036854775807
    unfold Lib.atoiSat
    split <;> decide
  | _ =>
    show -9223372036854775808 ≤ (0 : Int) ∧ (0 : Int) ≤ 9223372036854775807
    decide
theorem atoi_ok {w : ByteArray} (h : w.size ≤ 65536) : atoiI w = some (atoiV w) := if_pos (by omega)
def lineL (m : GMeaning) : List UInt8 := Lib.itoa m.Number ++ 32 :: bytes m.Text
theorem lineL_len {m : GMeaning} (h0 : -9223372036854775808 ≤ m.Number) (h1 : m.Number ≤ 9223372036854775807) : (lineL m).length ≤ m.Text.size + 22 := by
  have := itoa_size m.Number h0 h1
  rw [bs_size] at this
  unfold lineL
  rw [List.length_append, List.length_cons, bytes_len]
  omega
theorem vM_le {m : GMeaning} (h : vM m = true) : (0 ≤ m.Number ∧ m.Number ≤ 9999) ∧ 1 ≤ m.Text.size ∧ m.Text.size ≤ 60 ∧ vText m.Text = true := by
  unfold vM at h
  rw [Bool.and_eq_true, Bool.and_eq_true] at h
  have h1 := isN_le' h.1
  have h2 := inB_iff'.1 h.2.1
  exact ⟨h1, by omega, by omega, h.2.2⟩
theorem line_not {m : GMeaning} (h : vM m = true) : (10 : UInt8) ∉ lineL m := by
  unfold lineL
  intro hm
  rcases List.mem_append.1 hm with hm | hm
  · exact itoa_not _ _ (by decide) hm
  · rcases List.mem_cons.1 hm with hm | hm
    · exact absurd hm (by decide)
    · have hv := (vM_le h).2.2.2
      unfold vText at hv
      have := List.all_eq_true.1 hv _ hm
      exact absurd this (by decide)
theorem words_eq {m : GMeaning} (h0 : -9223372036854775808 ≤ m.Number) (h1 : m.Number ≤ 9223372036854775807) (hs : m.Text.size ≤ 70000) : ((strconv_Itoa m.Number).bind fun t1 => (catI t1 (bs [32])).bind fun t2 => catI t2 m.Text) = some (bs (lineL m)) := by
  have h3 := itoa_size m.Number h0 h1
  rw [itoa_eq _ h0 h1, Option.bind_some, cat_eq (by rw [bs1]; omega), Option.bind_some, cat_eq (by rw [ByteArray.size_append, bs1]; omega)]
  have : m.Text = bs (bytes m.Text) := rfl
  rw [this, bs_app, bs_app]
  unfold lineL
  congr 2
  simp
theorem vBk_len {l : List GMeaning} (h : vBk l = true) : l.length ≤ 200 := by
  unfold vBk at h
  rw [Bool.and_eq_true, decide_eq_true_eq] at h
  omega
theorem anyPre_left {α : Type} (p : List α → α → Bool) : ∀ (a b pre : List α), anyPre p pre (a ++ b) = false → anyPre p pre a = false
  | [], _, _, _ => rfl
  | x :: a, b, pre, h => by
    rw [List.cons_append, anyPre, Bool.or_eq_false_iff] at h
    rw [anyPre, h.1, anyPre_left p a b _ h.2]
    rfl
theorem vBk_left {a b : List GMeaning} (h : vBk (a ++ b) = true) : vBk a = true := by
  have hl := vBk_len h
  unfold vBk at h ⊢
  rw [Bool.and_eq_true, Bool.not_eq_true'] at h
  rw [anyPre_left badM a b [] h.1, decide_eq_true (by rw [List.length_append] at hl; omega)]
  rfl
theorem vBk_nil : vBk [] = true := rfl
theorem vBk_one (m : GMeaning) : vBk [m] = vM m := by
  unfold vBk
  rw [anyPre, anyPre]
  unfold badM lateB
  simp
theorem vBk_last {l : List GMeaning} {m : GMeaning} (h : vBk (l ++ [m]) = true) : vM m = true := (book_facts h).1 m (by simp)
theorem vBk_size {l : List GMeaning} (h : vBk l = true) : ∀ x ∈ l, x.Text.size ≤ 60 := fun x hx => (vM_le ((book_facts h).1 x hx)).2.2.1
/-! The text of a book. -/
def textV (l : List GMeaning) (z : List UInt8) : List UInt8 := l.foldl (fun z m => z ++ (lineL m ++ [10])) z
theorem text_size : ∀ (l : List GMeaning) (z : List UInt8), (∀ m ∈ l, vM m = true) → (textV l z).length ≤ z.length + 90 * l.length
  | [], z, _ => by simp [textV]
  | m :: l, z, h => by
    have hb := vM_le (h m (by simp))
    have h1 := lineL_len (m := m) (by omega) (by omega)
    have h2 := text_size l (z ++ (lineL m ++ [10])) fun x hx => h x (by simp [hx])
    rw [List.length_append, List.length_append, List.length_singleton] at h2
    show (textV l (z ++ (lineL m ++ [10]))).length ≤ _
    rw [List.length_cons]
    omega
theorem textV_app : ∀ (l : List GMeaning) (z : List UInt8), textV l z = z ++ textV l []
  | [], z => by simp [textV]
  | m :: l, z => by
    show textV l (z ++ (lineL m ++ [10])) = z ++ textV l ([] ++ (lineL m ++ [10]))
    rw [textV_app l (z ++ (lineL m ++ [10])), textV_app l ([] ++ (lineL m ++ [10]))]
    simp
def textOf (l : List GMeaning) : ByteArray := if vBk l = true then bs (textV l []) else bs []
theorem textOf_one (m : GMeaning) : textOf [m] = if vM m = true then bs (lineL m ++ [10]) else bs [] := by
  unfold textOf
  rw [vBk_one]
  rfl
theorem lineN_eq {m : GMeaning} (h : vM m = true) : flag_lineN m = some (bs (lineL m ++ [10])) := by
  have hb := vM_le h
  have hl := lineL_len (m := m) (by omega) (by omega)
  have hw := words_eq (m := m) (by omega) (by omega) (by omega)
  unfold flag_lineN
  obtain ⟨t1, e1, hw⟩ := bind_some hw
  obtain ⟨t2, e2, e3⟩ := bind_some hw
  rw [e1, Option.bind_some, e2, Option.bind_some, e3, Option.bind_some, cat_eq (by rw [bs_size, bs1]; omega), bs_app]
  rfl
theorem text_loop : ∀ (l : List GMeaning) (i : Int) (z : List UInt8), (∀ m ∈ l, vM m = true) → z.length + 90 * l.length ≤ 1000000 →
    rangeL (α := GMeaning) (S := List UInt8) (X := List UInt8) (fun _ y z => (flag_lineN y).bind fun s => (addL z s).bind fun z2 => some (Step.cont z2)) (fun z => z) l i z = some (textV l z)
  | [], _, _, _, _ => rfl
  | m :: l, i, z, h, hz => by
    have hb := vM_le (h m (by simp))
    have h1 := lineL_len (m := m) (by omega) (by omega)
    rw [List.length_cons] at hz
    rw [rangeL, lineN_eq (h m (by simp)), Option.bind_some, addL, if_pos (by rw [bs_size, List.length_append, List.length_singleton]; omega), Option.bind_some, Option.bind_some]
    exact text_loop l (i + 1) (z ++ (lineL m ++ [10])) (fun x hx => h x (by simp [hx])) (by rw [List.length_append, List.length_append, List.length_singleton]; omega)
theorem Format_eq (l : List GMeaning) (hl : l.length ≤ 1000) (ht : ∀ x ∈ l, x.Text.size ≤ 70000) : flag_Format l = some (textOf l) := by
  unfold flag_Format textOf
  rw [ValidBook_eq l hl ht, Option.bind_some]
  cases hv : vBk l with
  | false => rfl
  | true =>
    have hn := vBk_len hv
    rw [if_neg (by simp), text_loop l 0 [] (book_facts hv).1 (by simp; omega)]
    rfl
theorem rtext_loop : ∀ (l : List GMeaning) (i : Int) (z : List UInt8), (∀ m ∈ l, vM m = true) → z.length + 90 * l.length ≤ 1000000 →
    rangeL (α := GMeaning) (S := ByteArray) (X := ByteArray) (fun ik1 yk1 z2 =>
      (strconv_Itoa yk1.Number).bind (fun t2 =>
      (catI t2 (bs [32])).bind (fun t3 =>
      (catI t3 yk1.Text).bind (fun t4 =>
      (catI t4 (bs [10])).bind (fun t5 =>
      (catI z2 t5).bind (fun t6 =>
      some (Step.cont t6))))))) (fun z2 => z2) l i (bs z) = some (bs (textV l z))
  | [], _, _, _, _ => rfl
  | m :: l, i, z, h, hz => by
    have hb := vM_le (h m (by simp))
    have h1 := lineL_len (m := m) (by omega) (by omega)
    have hw := words_eq (m := m) (by omega) (by omega) (by omega)
    rw [List.length_cons] at hz
    obtain ⟨t1, e1, hw⟩ := bind_some hw
    obtain ⟨t2, e2, e3⟩ := bind_some hw
    rw [rangeL, e1, Option.bind_some, e2, Option.bind_some, e3, Option.bind_some, cat_eq (by rw [bs_size, bs1]; omega), bs_app, Option.bind_some, cat_eq (by rw [bs_size, bs_size, List.length_append, List.length_singleton]; omega), bs_app, Option.bind_some]
    exact rtext_loop l (i + 1) (z ++ (lineL m ++ [10])) (fun x hx => h x (by simp [hx])) (by rw [List.length_append, List.length_append, List.length_singleton]; omega)
theorem rFormat_eq (l : List GMeaning) (hl : l.length ≤ 1000) (ht : ∀ x ∈ l, x.Text.size ≤ 70000) : noongunref07_Format l = some (textOf l) := by
  unfold noongunref07_Format textOf
  rw [rValidBook_eq l hl ht, Option.bind_some]
  cases hv : vBk l with
  | false => rfl
  | true =>
    have hn := vBk_len hv
    rw [if_neg (by simp), rtext_loop l 0 [] (book_facts hv).1 (by simp; omega)]
    rfl
/-! Reading. -/
def mOf (a : List UInt8) : GMeaning := GMeaning.mk (atoiV (bs (Lib.cut a [32]).1)) (bs (Lib.cut a [32]).2.1)
abbrev Res := Ctl (List GMeaning) (List GMeaning × Int × Int)
abbrev Pst := ByteArray × Int × List GMeaning
def errP (l : List GMeaning) : Res := .ret ([], (l.length : Int), 2)
def goodL (s : List UInt8) (l : List GMeaning) : Prop := (Lib.cut s [10]).2.2 = true ∧ vBk (l ++ [mOf (Lib.cut s [10]).1]) = true ∧ lineL (mOf (Lib.cut s [10]).1) = (Lib.cut s [10]).1
instance (s : List UInt8) (l : List GMeaning) : Decidable (goodL s l) := by unfold goodL; exact inferInstance
/-- One round of both. -/
def stepF (s : List UInt8) (l : List GMeaning) : Step Pst Res :=
  if s = [] then .done (.next l) else if goodL s l then .cont (bs (Lib.cut s [10]).2.1, (l.length : Int) + 1, l ++ [mOf (Lib.cut s [10]).1]) else .done (errP l)
def parseF : Nat → List UInt8 → List GMeaning → Res
  | 0, _, l => .next l
  | k + 1, s, l => if s = [] then .next l else if goodL s l then parseF k (Lib.cut s [10]).2.1 (l ++ [mOf (Lib.cut s [10]).1]) else errP l
theorem parse_loop {body : Pst → Option (Step Pst Res)} (hb : ∀ s l, s.length ≤ 65536 → vBk l = true → body (bs s, (l.length : Int), l) = some (stepF s l)) : ∀ (k : Nat) (s : List UInt8) (l : List GMeaning), s.length ≤ k → s.length ≤ 65536 → vBk l = true →
    loopR body (bs s, (l.length : Int), l) = some (parseF k s l)
  | 0, s, l, hk, h1, h2 => by
    have h := hb s l h1 h2
    obtain rfl : s = [] := List.eq_nil_of_length_eq_zero (by omega)
    unfold stepF at h
    rw [if_pos rfl] at h
    exact loopR_done h
  | k + 1, s, l, hk, h1, h2 => by
    have h := hb s l h1 h2
    unfold stepF at h
    rw [parseF]
    by_cases h0 : s = []
    · rw [if_pos h0] at h ⊢
      exact loopR_done h
    · rw [if_neg h0] at h ⊢
      by_cases hc : goodL s l
      · rw [if_pos hc] at h ⊢
        unfold goodL at hc
        rcases cut_cases 10 s with ⟨_, e⟩ | ⟨a, r, e1, _, e⟩
        · rw [e] at hc; cases hc.1
        · rw [e] at h hc ⊢
          dsimp only at h hc ⊢
          have hl : s.length = a.length + 1 + r.length := by rw [e1, List.length_append, List.length_cons]; omega
          have := parse_loop hb k r (l ++ [mOf a]) (by omega) (by omega) hc.2.1
          rw [List.length_append, List.length_singleton] at this
          exact (loopR_cont _ h).trans this
      · rw [if_neg hc] at h ⊢
        exact loopR_done h
theorem cutV_eq (c : UInt8) {s : List UInt8} (h : s.length ≤ 65536) : strings_Cut (bs s) (bs [c]) = some (bs (Lib.cut s [c]).1, bs (Lib.cut s [c]).2.1, (Lib.cut s [c]).2.2) := by
  unfold strings_Cut cutSI
  rw [if_pos (by rw [bs_size]; omega)]
  rfl
theorem cut_le (c : UInt8) (s : List UInt8) : (Lib.cut s [c]).1.length ≤ s.length ∧ (Lib.cut s [c]).2.1.length ≤ s.length := by
  rcases cut_cases c s with ⟨_, e⟩ | ⟨a, r, e1, _, e⟩
  · rw [e]; exact ⟨Nat.le_refl _, Nat.zero_le _⟩
  · rw [e, e1, List.length_append, List.length_cons]; exact ⟨by show a.length ≤ _; omega, by show r.length ≤ _; omega⟩
theorem bs_ne {s : List UInt8} (h : s ≠ []) : bs s ≠ bs [] := fun e => h (bs_inj e)
def finR : Res → Option (List GMeaning × Int × Int)
  | .next l => some (l, 0, 0)
  | .ret r => some r
  | .exit _ _ => none
theorem parseF_some : ∀ (k : Nat) (s : List UInt8) (l : List GMeaning), ∃ r, finR (parseF k s l) = some r
  | 0, _, l => ⟨_, rfl⟩
  | k + 1, s, l => by
    rw [parseF]
    split
    · exact ⟨_, rfl⟩
    · split
      · exact parseF_some k _ _
      · exact ⟨_, rfl⟩
theorem bind_if {β : Type} {b : Bool} {x y : Option Bool} {f : Bool → Option β} : ((if b = true then x else y) : Option Bool).bind f = if b = true then x.bind f else y.bind f := by cases b <;> rfl
theorem last_step (b : Bool) (n : Int) (r : ByteArray) (l : List GMeaning) (e : Res) (hn : inI (n + 1) = true) : ((((some b : Option Bool).bind fun t => some (!t)).bind fun b3 => if b3 = true then some (Step.done e) else (addI n 1).bind fun t => some (Step.cont (r, t, l))) : Option (Step Pst Res)) = if b = true then some (Step.cont (r, n + 1, l)) else some (Step.done e) := by
  cases b with
  | false => rfl
  | true =>
    have h : addI n 1 = some (n + 1) := if_pos hn
    simp only [Option.bind_some, Bool.not_true, Bool.false_eq_true, if_false, if_true, h]
theorem sParse_eq (s : List UInt8) : flag_Parse (bs s) = if 65536 < s.length then some ([], 0, 3) else finR (parseF s.length s []) := by
  unfold flag_Parse
  rw [bs_size]
  by_cases hs : 65536 < s.length
  · rw [if_pos (decide_eq_true (by omega)), if_pos hs]
  · rw [if_neg (by rw [decide_eq_true_eq]; omega), if_neg hs]
    have hloop := parse_loop (body := fun (s : ByteArray × Int × (List GMeaning)) => match s with
      | (z4, z5, z6) =>
        (if (!(decide (z4 = (bs [])))) = true then
          (strings_Cut z4 (bs [10])).bind (fun o => match o with
            | (t1, t2, t3) =>
              (strings_Cut t1 (bs [32])).bind (fun o => match o with
                | (t4, t5, t6) =>
                  (atoiI t4).bind (fun t7 =>
                  (appI z6 ([(GMeaning.mk t7 t5)] : List GMeaning)).bind (fun t8 =>
                  (flag_Format ([(GMeaning.mk t7 t5)] : List GMeaning)).bind (fun t9 =>
                  ((if (decide (t9 = (bs []))) = true then
                    some true
                  else
                    (strings_HasPrefix z4 t9).bind (fun t10 =>
                    some (!t10))) : Option Bool).bind (fun b2 =>
                  ((if b2 = true then
                    some true
                  else
                    (flag_ValidBook t8).bind (fun t11 =>
                    some (!t11))) : Option Bool).bind (fun b3 =>
                  (if b3 = true then
                    some (Step.done (Ctl.ret (([] : List GMeaning), z5, 2)))
                  else
                    (addI z5 1).bind (fun t12 =>
                    some (Step.cont (t2, t12, t8)))))))))))
        else
          some (Step.done (Ctl.next z6)))) (fun s l h1 h2 => by
      dsimp only
      unfold stepF
      by_cases h0 : s = []
      · subst h0
        rw [if_pos rfl]
        rfl
      · rw [if_neg h0, decide_eq_false (bs_ne h0), if_pos (by decide), cutV_eq 10 h1]
        dsimp only [Option.bind_some]
        have hc := cut_le 10 s
        rw [cutV_eq 32 (by omega)]
        dsimp only [Option.bind_some]
        have hd := cut_le 32 (Lib.cut s [10]).1
        have hn := vBk_len h2
        have hz := vBk_size h2
        have hm : GMeaning.mk (atoiV (bs (Lib.cut (Lib.cut s [10]).1 [32]).1)) (bs (Lib.cut (Lib.cut s [10]).1 [32]).2.1) = mOf (Lib.cut s [10]).1 := rfl
        have hmz : (mOf (Lib.cut s [10]).1).Text.size ≤ 70000 := by show (bs (Lib.cut (Lib.cut s [10]).1 [32]).2.1).size ≤ 70000; rw [bs_size]; omega
        rw [atoi_ok (by rw [bs_size]; omega), Option.bind_some, hm]
        have hg : goodL s l ↔ (Lib.cut s [10]).2.2 = true ∧ vBk (l ++ [mOf (Lib.cut s [10]).1]) = true ∧ lineL (mOf (Lib.cut s [10]).1) = (Lib.cut s [10]).1 := Iff.rfl
        generalize mOf (Lib.cut s [10]).1 = m at hmz hg ⊢
        rw [appI_ok (by simp; omega), Option.bind_some, Format_eq [m] (by simp) (by simpa using hmz), Option.bind_some, textOf_one,
          ValidBook_eq (l ++ [m]) (by rw [List.length_append, List.length_singleton]; omega) (fun x hx => by
            rcases List.mem_append.1 hx with hx | hx
            · have := hz x hx; omega
            · rw [List.mem_singleton.1 hx]; exact hmz)]
        by_cases hv : vM m = true
        · rw [if_pos hv, decide_eq_false (bs_ne (by simp)), if_neg (by decide)]
          unfold strings_HasPrefix
          rw [Option.bind_some, Option.bind_some, bytes_bs, bytes_bs]
          rcases cut_cases 10 s with ⟨hn, e⟩ | ⟨a, r, e1, hn, e⟩
          · rw [prefix_noline hn, if_neg (fun h : goodL s l => by have := (hg.1 h).1; rw [e] at this; cases this)]
            rfl
          · rw [e] at hg ⊢
            dsimp only at hg ⊢
            have hp : Lib.hasPrefix s (lineL m ++ [10]) = decide (a = lineL m) := by rw [e1]; exact prefix_line hn (line_not hv)
            rw [hp]
            by_cases hx : lineL m = a
            · rw [decide_eq_true hx.symm, if_neg (by decide)]
              refine (last_step (vBk (l ++ [m])) _ _ _ _ (by rw [inI_iff]; omega)).trans ?_
              by_cases hb : vBk (l ++ [m]) = true
              · rw [if_pos hb, if_pos (hg.2 ⟨rfl, hb, hx⟩)]
              · rw [if_neg hb, if_neg (fun h : goodL s l => hb (hg.1 h).2.1)]
                rfl
            · rw [decide_eq_false (fun e => hx (Eq.symm e)), if_neg (fun h : goodL s l => hx (hg.1 h).2.2)]
              rfl
        · rw [if_neg hv, if_neg (fun h : goodL s l => hv (vBk_last (hg.1 h).2.1))]
          rfl) s.length s [] (Nat.le_refl _) (by omega) vBk_nil
    rw [List.length_nil] at hloop
    refine Eq.trans (congrArg (Option.bind · _) hloop) ?_
    cases parseF s.length s [] <;> rfl
theorem refParse_eq (s : List UInt8) : noongunref07_Parse (bs s) = if 65536 < s.length then some ([], 0, 3) else finR (parseF s.length s []) := by
  unfold noongunref07_Parse
  rw [bs_size]
  by_cases hs : 65536 < s.length
  · rw [if_pos (decide_eq_true (by omega)), if_pos hs]
  · rw [if_neg (by rw [decide_eq_true_eq]; omega), if_neg hs]
    have hloop := parse_loop (body := fun (s : ByteArray × Int × (List GMeaning)) => match s with
      | (z4, z5, z6) =>
        (if (!(decide (z4 = (bs [])))) = true then
          (strings_Cut z4 (bs [10])).bind (fun o => match o with
            | (t1, t2, t3) =>
              (strings_Cut t1 (bs [32])).bind (fun o => match o with
                | (t4, t5, t6) =>
                  (atoiI t4).bind (fun t7 =>
                  (appI z6 ([(GMeaning.mk t7 t5)] : List GMeaning)).bind (fun t8 =>
                  ((if (!t3) = true then
                    some true
                  else
                    (strconv_Itoa t7).bind (fun t9 =>
                    (catI t9 (bs [32])).bind (fun t10 =>
                    (catI t10 t5).bind (fun t11 =>
                    some (!(decide (t11 = t1))))))) : Option Bool).bind (fun b2 =>
                  ((if b2 = true then
                    some true
                  else
                    (noongunref07_ValidBook t8).bind (fun t12 =>
                    some (!t12))) : Option Bool).bind (fun b3 =>
                  (if b3 = true then
                    some (Step.done (Ctl.ret (([] : List GMeaning), z5, 2)))
                  else
                    (addI z5 1).bind (fun t13 =>
                    some (Step.cont (t2, t13, t8))))))))))
        else
          some (Step.done (Ctl.next z6)))) (fun s l h1 h2 => by
      dsimp only
      unfold stepF
      by_cases h0 : s = []
      · subst h0
        rw [if_pos rfl]
        rfl
      · rw [if_neg h0, decide_eq_false (bs_ne h0), if_pos (by decide), cutV_eq 10 h1]
        dsimp only [Option.bind_some]
        have hc := cut_le 10 s
        rw [cutV_eq 32 (by omega)]
        dsimp only [Option.bind_some]
        have hd := cut_le 32 (Lib.cut s [10]).1
        have hn := vBk_len h2
        have hz := vBk_size h2
        have hin := atoiV_in (bs (Lib.cut (Lib.cut s [10]).1 [32]).1)
        have hmz : (bs (Lib.cut (Lib.cut s [10]).1 [32]).2.1).size ≤ 70000 := by rw [bs_size]; omega
        have hw := words_eq (m := mOf (Lib.cut s [10]).1) hin.1 hin.2 hmz
        rw [atoi_ok (by rw [bs_size]; omega), Option.bind_some, appI_ok (by simp; omega), Option.bind_some,
          rValidBook_eq (l ++ [_]) (by rw [List.length_append, List.length_singleton]; omega) (fun x hx => by
            rcases List.mem_append.1 hx with hx | hx
            · have := hz x hx; omega
            · rw [List.mem_singleton.1 hx]; exact hmz)]
        obtain ⟨t1, e1, hw⟩ := bind_some hw
        obtain ⟨t2, e2, e3⟩ := bind_some hw
        have e1' : strconv_Itoa (atoiV (bs (Lib.cut (Lib.cut s [10]).1 [32]).1)) = some t1 := e1
        have e3' : catI t2 (bs (Lib.cut (Lib.cut s [10]).1 [32]).2.1) = some (bs (lineL (mOf (Lib.cut s [10]).1))) := e3
        rw [e1', Option.bind_some, e2, Option.bind_some, e3', Option.bind_some]
        have hm : GMeaning.mk (atoiV (bs (Lib.cut (Lib.cut s [10]).1 [32]).1)) (bs (Lib.cut (Lib.cut s [10]).1 [32]).2.1) = mOf (Lib.cut s [10]).1 := rfl
        rw [hm]
        have hg : goodL s l ↔ (Lib.cut s [10]).2.2 = true ∧ vBk (l ++ [mOf (Lib.cut s [10]).1]) = true ∧ lineL (mOf (Lib.cut s [10]).1) = (Lib.cut s [10]).1 := Iff.rfl
        generalize mOf (Lib.cut s [10]).1 = m at hg ⊢
        generalize (Lib.cut s [10]).1 = a at hg ⊢
        cases h5 : (Lib.cut s [10]).2.2 with
        | false =>
          rw [if_neg (fun h : goodL s l => by have := (hg.1 h).1; rw [h5] at this; cases this)]
          rfl
        | true =>
          by_cases hx : lineL m = a
          · rw [hx, decide_eq_true rfl]
            refine (last_step (vBk (l ++ [m])) _ _ _ _ (by rw [inI_iff]; omega)).trans ?_
            by_cases hb : vBk (l ++ [m]) = true
            · rw [if_pos hb, if_pos (hg.2 ⟨h5, hb, hx⟩)]
            · rw [if_neg hb, if_neg (fun h : goodL s l => hb (hg.1 h).2.1)]
              rfl
          · rw [decide_eq_false (fun e => hx (bs_inj e)), if_neg (fun h : goodL s l => hx (hg.1 h).2.2)]
            rfl) s.length s [] (Nat.le_refl _) (by omega) vBk_nil
    rw [List.length_nil] at hloop
    refine Eq.trans (congrArg (Option.bind · _) hloop) ?_
    cases parseF s.length s [] <;> rfl
/-- What is written is read back. -/
theorem mOf_line {m : GMeaning} (h : vM m = true) : mOf (lineL m) = m := by
  have hb := vM_le h
  unfold mOf lineL
  rw [cut_found _ (itoa_not _ _ (by decide))]
  dsimp only
  rw [atoiV_itoa (by omega), bs_bytes]
theorem parseF_text : ∀ (l acc : List GMeaning) (k : Nat), vBk (acc ++ l) = true → (textV l []).length ≤ k → parseF k (textV l []) acc = .next (acc ++ l)
  | [], acc, k, _, _ => by
    cases k <;> simp [parseF, textV]
  | m :: l, acc, k, h, hk => by
    have hv := (book_facts h).1 m (by simp)
    have ht : textV (m :: l) [] = lineL m ++ 10 :: textV l [] := by
      show textV l ([] ++ (lineL m ++ [10])) = _
      rw [textV_app]
      simp
    have h' : vBk ((acc ++ [m]) ++ l) = true := by simpa using h
    rw [ht] at hk ⊢
    rw [List.length_append, List.length_cons] at hk
    cases k with
    | zero => omega
    | succ k =>
      have hg : goodL (lineL m ++ 10 :: textV l []) acc := by
        unfold goodL
        rw [cut_found _ (line_not hv)]
        dsimp only
        rw [mOf_line hv]
        exact ⟨rfl, vBk_left h', rfl⟩
      rw [parseF, if_neg (by simp), if_pos hg, cut_found _ (line_not hv)]
      dsimp only
      rw [mOf_line hv, parseF_text l (acc ++ [m]) k h' (by omega)]
      simp
theorem rsame_self (l : List GMeaning) : noongunref07_SameBook l l = some true := by
  unfold noongunref07_SameBook
  rw [bne_self_eq_false, if_neg (by decide), Int.toNat_natCast]
  refine Eq.trans (congrArg (Option.bind · _) (rangeN_unit l.length 0 fun j _ hj => ?_)) rfl
  rw [idx_at (List.getElem?_eq_getElem (by omega)), Option.bind_some, Option.bind_some, beq_self_eq_true, if_neg (by decide)]
def fitM (x : GMeaning) : Bool := !decide (100 < ((x.Text.size : Nat) : Int))
theorem fitB_eq (l : List GMeaning) : noongunlaw07_fit l = some (l.all fitM && (decide (((l.length : Nat) : Int) ≤ 40) || (decide (200 ≤ ((l.length : Nat) : Int)) && decide (((l.length : Nat) : Int) ≤ 203)))) := by
  unfold noongunlaw07_fit
  rw [rangeL_search (p := fun x => !fitM x) (y := Ctl.ret false)]
  · have := not_any fitM l
    cases hh : l.any (fun x => !fitM x) with
    | true => rw [hh] at this; simp [← this]
    | false => rw [hh] at this; simp [← this]
  · intro i x s _
    unfold fitM
    rw [Bool.not_not]
    cases decide (100 < ((x.Text.size : Nat) : Int)) <;> rfl
theorem law_noongunlaw07_FlagTexts (a0 : (List GMeaning)) (_ : ∀ a ∈ a0, okGMeaning a) (_ : a0.length ≤ maxLen) (a1 : ByteArray) (_ : a1.size ≤ maxLen) : noongunlaw07_FlagTexts a0 a1 = some true := by
  unfold noongunlaw07_FlagTexts
  rw [fitB_eq, Option.bind_some]
  split
  · rw [awake_eq]; rfl
  · rename_i hg
    simp only [Bool.or_eq_true, Bool.not_eq_true', not_or, Bool.not_eq_false, Bool.and_eq_true, decide_eq_true_eq] at hg
    obtain ⟨⟨hall, hlen⟩, _⟩ := hg
    have hl : a0.length ≤ 1000 := by omega
    have hsz : ∀ x ∈ a0, x.Text.size ≤ 70000 := by
      intro x hx
      have := List.all_eq_true.1 hall x hx
      unfold fitM at this
      simp only [Bool.not_eq_true', decide_eq_false_iff_not] at this
      omega
    have hs := sParse_eq (bytes a1)
    have hr := refParse_eq (bytes a1)
    rw [bs_bytes] at hs hr
    obtain ⟨⟨p1, p2, p3⟩, hp⟩ : ∃ r, (if 65536 < (bytes a1).length then some ([], 0, 3) else finR (parseF (bytes a1).length (bytes a1) [])) = some r := by
      split
      · exact ⟨_, rfl⟩
      · exact parseF_some _ _ _
    rw [hp] at hs hr
    rw [hs]
    dsimp only [Option.bind_some]
    rw [hr]
    dsimp only [Option.bind_some]
    rw [rsame_self]
    simp only [bne_self_eq_false, Bool.not_true, Bool.or_self, Bool.false_eq_true, if_false, Format_eq a0 hl hsz, rFormat_eq a0 hl hsz, Option.bind_some, ValidBook_eq a0 hl hsz, awake_eq, decide_true]
    cases hv : vBk a0 with
    | false => rfl
    | true =>
      have hn := vBk_len hv
      have ht : textOf a0 = bs (textV a0 []) := by unfold textOf; rw [if_pos hv]
      have hz := text_size a0 [] (book_facts hv).1
      rw [List.length_nil] at hz
      have hz2 : ¬ 65536 < (textV a0 []).length := by omega
      rw [ht, sParse_eq, if_neg hz2, parseF_text a0 [] _ (by simpa using hv) (Nat.le_refl _), List.nil_append]
      simp [finR, rsame_self]
end Go.Fw
