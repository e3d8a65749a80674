/-
  The chronometers, plain: what the functions and the document's answer compute, in common words. No condition.
-/
import Derived.Test.YtohbkbimgfkblaaM
import Derived.Test.YtohbkbimgfkblaaFwN
namespace Go.Fw
def inB (a b x : Int) : Bool := decide (a ≤ x) && decide (x ≤ b)
theorem inB_iff {a b x : Int} : inB a b x = true ↔ a ≤ x ∧ x ≤ b := by simp [inB]
theorem within_eq (a b c : Int) : rate_within a b c = some (inB b c a) := rfl
theorem mk_eta (a : GBox) : GBox.mk a.Name a.Errors = a := rfl
theorem far_eq (x : Int) : rate_far x = some (!inB (-86400000) 86400000 x) := rfl
theorem containsFunc_eq (l : List Int) (f : Int → Option Bool) (p : Int → Bool) (h : ∀ x ∈ l, f x = some (p x)) : slices_ContainsFunc_int l f = some (l.any p) := by
  unfold slices_ContainsFunc_int slices_IndexFunc_int
  rw [index_loop p]
  · rw [← findIdx_any]
    cases l.findIdx? p with
    | none => rfl
    | some i => simp
  · intro i x hx
    simp only [idx_at hx, Option.bind_some, h x (List.mem_of_getElem? hx)]
    cases p x <;> rfl
theorem not_any {α : Type} (p : α → Bool) (l : List α) : (!l.any fun x => !p x) = l.all p := by
  induction l with
  | nil => rfl
  | cons x l ih => simp only [List.any_cons, List.all_cons, Bool.not_or, Bool.not_not, ih]

/-! Names. -/
def badC (first : Bool) (x : UInt8) : Bool := !inB 97 122 (x.toNat : Int) && (first || ((x.toNat : Int) != 95 && !inB 48 57 (x.toNat : Int)))
def nameB (b : ByteArray) : Bool := !anyPre (fun pre x => badC pre.isEmpty x) [] (bytes b) && inB 1 16 ((b.size : Nat) : Int)
theorem cv_byte (x : UInt8) : cvI .i64 (x.toNat : Int) = some (x.toNat : Int) := by
  unfold cvI
  rw [if_pos]
  exact wrap_of_inI (by rw [inI_iff]; have := x.toNat_lt; omega)
theorem take_empty {α : Type} {l : List α} {i : Nat} {x : α} (h : l[i]? = some x) : (l.take i).isEmpty = ((i : Int) == 0) := by
  have hi := (List.getElem?_eq_some_iff.1 h).1
  cases i with
  | zero => rfl
  | succ i =>
    have h1 : (((i + 1 : Nat) : Int) == 0) = false := by rw [beq_eq_false_iff_ne]; omega
    rw [h1]
    cases l with
    | nil => simp at hi
    | cons y l => rfl
theorem name_eq (b : ByteArray) (h : b.size ≤ 1000) : rate_name b = some (nameB b) := by
  unfold rate_name nameB
  have hb : bytesI b = some (bytes b) := by unfold bytesI; rw [if_pos (by omega)]
  rw [hb, Option.bind_some, rangeN_pre (fun pre x _ => some (if badC pre.isEmpty x = true then .done (Ctl.ret false) else .cont ()))]
  · rw [preL_search (fun pre x => badC pre.isEmpty x) (Ctl.ret false) [] _ (fun _ _ _ => rfl)]
    cases anyPre (fun pre x => badC pre.isEmpty x) [] (bytes b) <;> simp [within_eq]
  · intro i x s hx
    have e1 : (decide ((97 : Int) ≤ (x.toNat : Int)) && decide ((x.toNat : Int) ≤ 122)) = inB 97 122 (x.toNat : Int) := rfl
    simp only [idx_at hx, Option.bind_some, within_eq, cv_byte, badC, take_empty hx, e1]
    cases inB 97 122 (x.toNat : Int) <;> cases ((i : Int) == 0) <;> cases ((x.toNat : Int) != 95) <;> cases inB 48 57 (x.toNat : Int) <;> rfl
def vBox (a : GBox) : Bool := nameB a.Name && inB 2 400 ((a.Errors.length : Nat) : Int) && a.Errors.all (inB (-86400000) 86400000)
theorem ValidBox_eq (a : GBox) (h : a.Name.size ≤ 1000) : rate_ValidBox a = some (vBox a) := by
  unfold rate_ValidBox vBox
  rw [containsFunc_eq a.Errors (fun x0 => rate_far x0) (fun x => !inB (-86400000) 86400000 x) (fun x _ => far_eq x)]
  simp only [name_eq _ h, Option.bind_some, within_eq, not_any]
  cases nameB a.Name <;> cases inB 2 400 ((a.Errors.length : Nat) : Int) <;> simp
theorem vB_errors {a : GBox} (h : vBox a = true) : ∀ x ∈ a.Errors, -86400000 ≤ x ∧ x ≤ 86400000 := by
  simp only [vBox, Bool.and_eq_true, List.all_eq_true] at h
  exact fun x hx => inB_iff.1 (h.2 x hx)
theorem vB_len {a : GBox} (h : vBox a = true) : 2 ≤ a.Errors.length ∧ a.Errors.length ≤ 400 := by
  simp only [vBox, Bool.and_eq_true] at h
  have := inB_iff.1 h.1.2
  omega

/-! Differences. -/
def dl (k : Nat) (xs : List Int) : List Int := (List.range ((xs.length - 1) / k)).map fun j => xs.getD ((j + 1) * k) 0 - xs.getD (j * k) 0
theorem dl_mem {k : Nat} {xs : List Int} {B : Int} (hk : 0 < k) (hx : ∀ x ∈ xs, -B ≤ x ∧ x ≤ B) : ∀ d ∈ dl k xs, -(2 * B) ≤ d ∧ d ≤ 2 * B := by
  intro d hd
  unfold dl at hd
  obtain ⟨j, hj, rfl⟩ := List.mem_map.1 hd
  have hj := List.mem_range.1 hj
  have h1 : (j + 1) * k ≤ xs.length - 1 := (Nat.le_div_iff_mul_le hk).1 hj
  have h2 : j * k ≤ (j + 1) * k := Nat.mul_le_mul_right k (Nat.le_succ j)
  have h3 : 1 ≤ (j + 1) * k := Nat.mul_pos (Nat.succ_pos j) hk
  have g : ∀ i, i < xs.length → -B ≤ xs.getD i 0 ∧ xs.getD i 0 ≤ B := by
    intro i hi
    rw [List.getD_eq_getElem?_getD, List.getElem?_eq_getElem hi]
    exact hx _ (List.getElem_mem hi)
  have := g ((j + 1) * k) (by omega)
  have := g (j * k) (by omega)
  omega
theorem diffs_eq (k : Nat) (xs : List Int) (B : Int) (hk : 0 < k) (hk2 : k ≤ 1000) (hB : B ≤ 1000000000000) (hx : ∀ x ∈ xs, -B ≤ x ∧ x ≤ B) (hl : xs.length ≤ 1000000) : rate_differences_c1 (k : Int) xs = some (dl k xs) := by
  have key : ∀ (n j : Nat), (xs.length - 1) / k - j < n → j ≤ (xs.length - 1) / k → diffsFrom (k : Int) xs n (((j + 1) * k : Nat) : Int) =
      some ((List.range' j ((xs.length - 1) / k - j)).map fun j => xs.getD ((j + 1) * k) 0 - xs.getD (j * k) 0) := by
    intro n
    induction n with
    | zero => intro j h; omega
    | succ n ih =>
      intro j h hj
      rw [diffsFrom]
      by_cases hjm : j < (xs.length - 1) / k
      · have h1 : (j + 1) * k ≤ xs.length - 1 := (Nat.le_div_iff_mul_le hk).1 hjm
        have h3 : 1 ≤ (j + 1) * k := Nat.mul_pos (Nat.succ_pos j) hk
        have hs : (j + 1) * k = j * k + k := Nat.succ_mul j k
        have hs2 : (j + 1 + 1) * k = (j + 1) * k + k := Nat.succ_mul (j + 1) k
        have hlt : (j + 1) * k < xs.length := by omega
        have hlt2 : j * k < xs.length := by omega
        have e1 : xs[(j + 1) * k]? = some xs[(j + 1) * k] := List.getElem?_eq_getElem hlt
        have e2 : xs[j * k]? = some xs[j * k] := List.getElem?_eq_getElem hlt2
        have b1 := hx _ (List.getElem_mem hlt)
        have b2 := hx _ (List.getElem_mem hlt2)
        rw [if_pos (by omega), idx_at e1, Option.bind_some, subI_ok (by omega), Option.bind_some, show (((j + 1) * k : Nat) : Int) - (k : Int) = ((j * k : Nat) : Int) by omega, idx_at e2, Option.bind_some, subI_ok (by omega), Option.bind_some,
          addI_ok (by omega), Option.bind_some, show (((j + 1) * k : Nat) : Int) + (k : Int) = (((j + 1 + 1) * k : Nat) : Int) by omega, ih (j + 1) (by omega) (by omega), Option.bind_some,
          show (xs.length - 1) / k - j = ((xs.length - 1) / k - (j + 1)) + 1 by omega, List.range'_succ, List.map_cons, List.getD_eq_getElem?_getD, e1, List.getD_eq_getElem?_getD, e2]
        rfl
      · have hnl : ¬ (j + 1) ≤ (xs.length - 1) / k := by omega
        rw [Nat.le_div_iff_mul_le hk] at hnl
        have h3 : 1 ≤ (j + 1) * k := Nat.mul_pos (Nat.succ_pos j) hk
        rw [if_neg (by omega), show (xs.length - 1) / k - j = 0 by omega]
        rfl
  unfold rate_differences_c1
  have := key (xs.length + 1) 0 (by have := Nat.div_le_self (xs.length - 1) k; omega) (Nat.zero_le _)
  rw [show (((0 + 1) * k : Nat) : Int) = (k : Int) by omega] at this
  rw [this, Nat.sub_zero, ← List.range_eq_range']
  rfl
theorem dl_len (k : Nat) (xs : List Int) : (dl k xs).length = (xs.length - 1) / k := by simp [dl]
theorem collect_eq (xs : List Int) (h : xs.length ≤ 1099511627776) : slices_Collect_int xs = some xs := by
  unfold slices_Collect_int slices_AppendSeq_int
  rw [rangeL_app (fun x : Int => ([x] : List Int)) xs 0 [] (by rw [flatMap_one, List.map_id']; simpa using h), flatMap_one, List.map_id']
  rfl
def weeklyS (a : GBox) : List Int × Int := if vBox a = true then (if (dl 7 a.Errors).length = 0 then ([], 8) else (dl 7 a.Errors, 0)) else ([], 1)
theorem Weekly_eq (a : GBox) (h : a.Name.size ≤ 1000) : rate_Weekly a = some (weeklyS a) := by
  unfold rate_Weekly weeklyS
  simp only [mk_eta, ValidBox_eq _ h, Option.bind_some]
  cases hv : vBox a with
  | false => simp
  | true =>
    have hl := vB_len hv
    have hd := diffs_eq 7 a.Errors 86400000 (by omega) (by omega) (by omega) (vB_errors hv) (by omega)
    simp only [Bool.not_true, Bool.false_eq_true, if_false, if_true]
    rw [show ((7 : Nat) : Int) = 7 from rfl] at hd
    rw [hd, Option.bind_some, collect_eq _ (by rw [dl_len]; have := Nat.div_le_self (a.Errors.length - 1) 7; omega), Option.bind_some]
    by_cases h0 : (dl 7 a.Errors).length = 0
    · simp [h0]
    · have : (((dl 7 a.Errors).length : Nat) : Int) ≠ 0 := by omega
      simp [h0]
def dailyS (a : GBox) : List Int × Int := if vBox a = true then (dl 1 a.Errors, 0) else ([], 1)
theorem loS_step (t : List Int) : ∀ (a b : Int), t.foldl (fun (s : Int × Int × Bool) x => if s.2.2 = true then (x, x, false) else (min s.1 x, max s.2.1 x, false)) (a, b, false) = (t.foldl min a, t.foldl max b, false) := by
  induction t with
  | nil => intro a b; rfl
  | cons x t ih => intro a b; simp only [List.foldl_cons, Bool.false_eq_true, if_false]; exact ih _ _
def loS : List Int → Int
  | [] => 0
  | x :: t => t.foldl min x
def hiS : List Int → Int
  | [] => 0
  | x :: t => t.foldl max x
theorem ends_eq (l : List Int) (h : l ≠ []) : rate_ends_int l = some (loS l, hiS l) := by
  cases l with
  | nil => exact absurd rfl h
  | cons x t =>
    unfold rate_ends_int
    rw [rangeL_fold (fun (s : Int × Int × Bool) x => if s.2.2 = true then (x, x, false) else (min s.1 x, max s.2.1 x, false))]
    · have := loS_step t x x
      simp only [List.foldl_cons, if_true, Option.bind_some, loS, hiS] at this ⊢
      rw [this]
    · rintro i y ⟨a, b, c⟩ _
      cases c
      · rfl
      · simp
def leapS (w : List Int) : Int := (dl 1 w).foldl (fun z x => max (max z x) (-x)) 0
def trialS (a : GBox) : GTrial × Int := if vBox a = true then (if (dl 7 a.Errors).length < 2 then (⟨ByteArray.empty, 0, 0, 0, 0⟩, 8) else (⟨a.Name, loS (dl 7 a.Errors), hiS (dl 7 a.Errors), leapS (dl 7 a.Errors), hiS (dl 7 a.Errors) - loS (dl 7 a.Errors) + 2 * leapS (dl 7 a.Errors)⟩, 0)) else (⟨ByteArray.empty, 0, 0, 0, 0⟩, 1)
theorem foldmin_bd {B : Int} : ∀ (t : List Int) (x : Int), -B ≤ x ∧ x ≤ B → (∀ y ∈ t, -B ≤ y ∧ y ≤ B) → -B ≤ t.foldl min x ∧ t.foldl min x ≤ B
  | [], _, h, _ => h
  | y :: t, x, h, ht => foldmin_bd t (min x y) (by have := ht y (by simp); omega) fun z hz => ht z (by simp [hz])
theorem foldmax_bd {B : Int} : ∀ (t : List Int) (x : Int), -B ≤ x ∧ x ≤ B → (∀ y ∈ t, -B ≤ y ∧ y ≤ B) → -B ≤ t.foldl max x ∧ t.foldl max x ≤ B
  | [], _, h, _ => h
  | y :: t, x, h, ht => foldmax_bd t (max x y) (by have := ht y (by simp); omega) fun z hz => ht z (by simp [hz])
theorem loS_bd {B : Int} (hB : 0 ≤ B) (l : List Int) (h : ∀ y ∈ l, -B ≤ y ∧ y ≤ B) : -B ≤ loS l ∧ loS l ≤ B := by
  cases l with
  | nil => simp only [loS]; omega
  | cons x t => exact foldmin_bd t x (h x (by simp)) fun y hy => h y (by simp [hy])
theorem hiS_bd {B : Int} (hB : 0 ≤ B) (l : List Int) (h : ∀ y ∈ l, -B ≤ y ∧ y ≤ B) : -B ≤ hiS l ∧ hiS l ≤ B := by
  cases l with
  | nil => simp only [hiS]; omega
  | cons x t => exact foldmax_bd t x (h x (by simp)) fun y hy => h y (by simp [hy])
theorem leap_bd {B : Int} : ∀ (t : List Int) (x : Int), 0 ≤ x ∧ x ≤ B → (∀ y ∈ t, -B ≤ y ∧ y ≤ B) → 0 ≤ t.foldl (fun z x => max (max z x) (-x)) x ∧ t.foldl (fun z x => max (max z x) (-x)) x ≤ B
  | [], _, h, _ => h
  | y :: t, x, h, ht => leap_bd t (max (max x y) (-y)) (by have := ht y (by simp); omega) fun z hz => ht z (by simp [hz])
theorem leapS_bd {B : Int} (hB : 0 ≤ B) (w : List Int) (h : ∀ y ∈ w, -B ≤ y ∧ y ≤ B) : 0 ≤ leapS w ∧ leapS w ≤ 2 * B :=
  leap_bd (dl 1 w) 0 (by omega) (dl_mem (by omega) h)
theorem dl7_bd {a : GBox} (h : vBox a = true) : ∀ y ∈ dl 7 a.Errors, -172800000 ≤ y ∧ y ≤ 172800000 := dl_mem (B := 86400000) (by omega) (vB_errors h)
theorem Trial_eq (a : GBox) (h : a.Name.size ≤ 1000) : rate_Trial a = some (trialS a) := by
  unfold rate_Trial trialS
  simp only [mk_eta, Weekly_eq _ h, Option.bind_some, weeklyS]
  cases hv : vBox a with
  | false => simp
  | true =>
    simp only [if_true]
    by_cases h0 : (dl 7 a.Errors).length = 0
    · simp [h0]
    · simp only [h0, if_false]
      by_cases h2 : (dl 7 a.Errors).length < 2
      · have h2' : (((dl 7 a.Errors).length : Nat) : Int) < 2 := by omega
        simp only [bne_self_eq_false, Bool.false_eq_true, if_false, decide_eq_true_eq, h2', h2, if_true]
      · have h2' : ¬ (((dl 7 a.Errors).length : Nat) : Int) < 2 := by omega
        have hb := dl7_bd hv
        have hl := vB_len hv
        have hdl : (dl 7 a.Errors).length ≤ 400 := by rw [dl_len]; have := Nat.div_le_self (a.Errors.length - 1) 7; omega
        have hd := diffs_eq 1 (dl 7 a.Errors) 172800000 (by omega) (by omega) (by omega) hb (by omega)
        rw [show ((1 : Nat) : Int) = 1 from rfl] at hd
        have hb2 : ∀ y ∈ dl 1 (dl 7 a.Errors), -345600000 ≤ y ∧ y ≤ 345600000 := dl_mem (B := 172800000) (by omega) hb
        have hlo := loS_bd (B := 172800000) (by omega) _ hb
        have hhi := hiS_bd (B := 172800000) (by omega) _ hb
        have hle := leapS_bd (B := 172800000) (by omega) _ hb
        simp only [bne_self_eq_false, Bool.false_eq_true, if_false, decide_eq_true_eq, h2', h2, slices_Values_int_c1, Option.bind_some, ends_eq _ (show dl 7 a.Errors ≠ [] from fun e => h0 (by rw [e]; rfl)), hd]
        rw [rangeL_fold (fun z x => max (max z x) (-x)) _ 0 0 (fun i x s hx => by
          have := hb2 x hx
          rw [negW_ok (by omega)]), Option.bind_some]
        show (subI _ _).bind _ = _
        rw [subI_ok (by omega), Option.bind_some]
        show (mulI 2 (leapS _)).bind _ = _
        rw [mulI_ok (by omega), Option.bind_some, addI_ok (by omega)]
        rfl
theorem awake_eq : noongunlaw06_awake = some true := by decide +kernel
def fitB (a : GBox) : Bool := !(decide (100 < ((a.Name.size : Nat) : Int)) || (decide (60 < ((a.Errors.length : Nat) : Int)) && decide (((a.Errors.length : Nat) : Int) < 399)) || decide (410 < ((a.Errors.length : Nat) : Int)))
theorem fit_len {a : GBox} (h : fitB a = true) : a.Errors.length ≤ 410 := by
  simp only [fitB, Bool.not_eq_true', Bool.or_eq_false_iff, decide_eq_false_iff_not] at h
  omega
end Go.Fw
