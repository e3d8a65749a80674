/-
  RateTrials, plain: trials, their ranking and who passes are the same in both texts.
-/
import Derived.Test.YtohbkbimgfkblaaM
import Derived.Test.YtohbkbimgfkblaaFwN
namespace Go.Fw
def inB (a b x : Int) : Bool := decide (a ≤ x) && decide (x ≤ b)
theorem inB_iff {a b x : Int} : inB a b x = true ↔ a ≤ x ∧ x ≤ b := by simp [inB]
theorem within_eq (a b c : Int) : rate_within a b c = some (inB b c a) := rfl
theorem mk_eta (a : GBox) : GBox.mk a.Name a.Errors = a := rfl
theorem far_eq (x : Int) : rate_far x = some (!inB (-86400000) 86400000 x) := rfl
theorem containsFunc_eq (l : List Int) (f : Int → Option Bool) (p : Int → Bool) (h : ∀ x ∈ l, f x = some (p x)) : slices_ContainsFunc_int l f = some (l.any p) := by
  unfold slices_ContainsFunc_int slices_IndexFunc_int
  rw [index_loop p]
  · rw [← findIdx_any]
    cases l.findIdx? p with
    | none => rfl
    | some i => simp
  · intro i x hx
    simp only [idx_at hx, Option.bind_some, h x (List.mem_of_getElem? hx)]
    cases p x <;> rfl
theorem not_any {α : Type} (p : α → Bool) (l : List α) : (!l.any fun x => !p x) = l.all p := by
  induction l with
  | nil => rfl
  | cons x l ih => simp only [List.any_cons, List.all_cons, Bool.not_or, Bool.not_not, ih]

/-! Names. -/
def badC (first : Bool) (x : UInt8) : Bool := !inB 97 122 (x.toNat : Int) && (first || ((x.toNat : Int) != 95 && !inB 48 57 (x.toNat : Int)))
def nameB (b : ByteArray) : Bool := !anyPre (fun pre x => badC pre.isEmpty x) [] (bytes b) && inB 1 16 ((b.size : Nat) : Int)
theorem cv_byte (x : UInt8) : cvI .i64 (x.toNat : Int) = some (x.toNat : Int) := by
  unfold cvI
  rw [if_pos]
  exact wrap_of_inI (by rw [inI_iff]; have := x.toNat_lt; omega)
theorem take_empty {α : Type} {l : List α} {i : Nat} {x : α} (h : l[i]? = some x) : (l.take i).isEmpty = ((i : Int) == 0) := by
  have hi := (List.getElem?_eq_some_iff.1 h).1
  cases i with
  | zero => rfl
  | succ i =>
    have h1 : (((i + 1 : Nat) : Int) == 0) = false := by rw [beq_eq_false_iff_ne]; omega
    rw [h1]
    cases l with
    | nil => simp at hi
    | cons y l => rfl
theorem name_eq (b : ByteArray) (h : b.size ≤ 1000) : rate_name b = some (nameB b) := by
  unfold rate_name nameB
  have hb : bytesI b = some (bytes b) := by unfold bytesI; rw [if_pos (by omega)]
  rw [hb, Option.bind_some, rangeN_pre (fun pre x _ => some (if badC pre.isEmpty x = true then .done (Ctl.ret false) else .cont ()))]
  · rw [preL_search (fun pre x => badC pre.isEmpty x) (Ctl.ret false) [] _ (fun _ _ _ => rfl)]
    cases anyPre (fun pre x => badC pre.isEmpty x) [] (bytes b) <;> simp [within_eq]
  · intro i x s hx
    have e1 : (decide ((97 : Int) ≤ (x.toNat : Int)) && decide ((x.toNat : Int) ≤ 122)) = inB 97 122 (x.toNat : Int) := rfl
    simp only [idx_at hx, Option.bind_some, within_eq, cv_byte, badC, take_empty hx, e1]
    cases inB 97 122 (x.toNat : Int) <;> cases ((i : Int) == 0) <;> cases ((x.toNat : Int) != 95) <;> cases inB 48 57 (x.toNat : Int) <;> rfl
theorem rname_eq (b : ByteArray) (h : b.size ≤ 1000) : noongunref06_Name b = some (nameB b) := by
  unfold noongunref06_Name nameB
  have hi : inI ((b.size : Nat) : Int) = true := by rw [inI_iff]; omega
  unfold chkI
  rw [if_pos hi, ← bytes_len b, rangeN_pre (fun pre x _ => some (if badC pre.isEmpty x = true then .done (Ctl.ret false) else .cont ()))]
  · rw [preL_search (fun pre x => badC pre.isEmpty x) (Ctl.ret false) [] _ (fun _ _ _ => rfl)]
    cases anyPre (fun pre x => badC pre.isEmpty x) [] (bytes b) <;> simp [inB]
  · intro i x s hx
    have e1 : (decide ((x.toNat : Int) < 97) || decide (122 < (x.toNat : Int))) = !inB 97 122 (x.toNat : Int) := by
      rw [Bool.eq_iff_iff]; simp [inB]
    have e2 : (decide ((x.toNat : Int) < 48) || decide (57 < (x.toNat : Int))) = !inB 48 57 (x.toNat : Int) := by
      rw [Bool.eq_iff_iff]; simp [inB]
    simp only [idx_at hx, Option.bind_some, badC, take_empty hx, e1, e2]
    cases inB 97 122 (x.toNat : Int) <;> cases ((i : Int) == 0) <;> cases ((x.toNat : Int) != 95) <;> cases inB 48 57 (x.toNat : Int) <;> rfl

/-! Boxes. -/
def vBox (a : GBox) : Bool := nameB a.Name && inB 2 400 ((a.Errors.length : Nat) : Int) && a.Errors.all (inB (-86400000) 86400000)
theorem ValidBox_eq (a : GBox) (h : a.Name.size ≤ 1000) : rate_ValidBox a = some (vBox a) := by
  unfold rate_ValidBox vBox
  rw [containsFunc_eq a.Errors (fun x0 => rate_far x0) (fun x => !inB (-86400000) 86400000 x) (fun x _ => far_eq x)]
  simp only [name_eq _ h, Option.bind_some, within_eq, not_any]
  cases nameB a.Name <;> cases inB 2 400 ((a.Errors.length : Nat) : Int) <;> simp
theorem rValidBox_eq (a : GBox) (h : a.Name.size ≤ 1000) : noongunref06_ValidBox a = some (vBox a) := by
  unfold noongunref06_ValidBox vBox
  rw [rangeL_search (p := fun x => !inB (-86400000) 86400000 x) (y := Ctl.ret false)]
  · have h2 := not_any (inB (-86400000) 86400000) a.Errors
    cases hh : a.Errors.any (fun x => !inB (-86400000) 86400000 x) with
    | true => rw [hh] at h2; simp [← h2]
    | false =>
      rw [hh] at h2
      simp [← h2, rname_eq _ h, inB, Bool.and_assoc]
  · intro i x s _
    have : ((decide (x < (-86400000))) || (decide (86400000 < x))) = !inB (-86400000) 86400000 x := by
      rw [Bool.eq_iff_iff]; simp [inB]
    rw [this]
    cases inB (-86400000) 86400000 x <;> rfl
theorem vB_errors {a : GBox} (h : vBox a = true) : ∀ x ∈ a.Errors, -86400000 ≤ x ∧ x ≤ 86400000 := by
  simp only [vBox, Bool.and_eq_true, List.all_eq_true] at h
  exact fun x hx => inB_iff.1 (h.2 x hx)
theorem vB_len {a : GBox} (h : vBox a = true) : 2 ≤ a.Errors.length ∧ a.Errors.length ≤ 400 := by
  simp only [vBox, Bool.and_eq_true] at h
  have := inB_iff.1 h.1.2
  omega

/-! Differences. -/
def dl (k : Nat) (xs : List Int) : List Int := (List.range ((xs.length - 1) / k)).map fun j => xs.getD ((j + 1) * k) 0 - xs.getD (j * k) 0
theorem dl_mem {k : Nat} {xs : List Int} {B : Int} (hk : 0 < k) (hx : ∀ x ∈ xs, -B ≤ x ∧ x ≤ B) : ∀ d ∈ dl k xs, -(2 * B) ≤ d ∧ d ≤ 2 * B := by
  intro d hd
  unfold dl at hd
  obtain ⟨j, hj, rfl⟩ := List.mem_map.1 hd
  have hj := List.mem_range.1 hj
  have h1 : (j + 1) * k ≤ xs.length - 1 := (Nat.le_div_iff_mul_le hk).1 hj
  have h2 : j * k ≤ (j + 1) * k := Nat.mul_le_mul_right k (Nat.le_succ j)
  have h3 : 1 ≤ (j + 1) * k := Nat.mul_pos (Nat.succ_pos j) hk
  have g : ∀ i, i < xs.length → -B ≤ xs.getD i 0 ∧ xs.getD i 0 ≤ B := by
    intro i hi
    rw [List.getD_eq_getElem?_getD, List.getElem?_eq_getElem hi]
    exact hx _ (List.getElem_mem hi)
  have := g ((j + 1) * k) (by omega)
  have := g (j * k) (by omega)
  omega
theorem diffs_eq (k : Nat) (xs : List Int) (B : Int) (hk : 0 < k) (hk2 : k ≤ 1000) (hB : B ≤ 1000000000000) (hx : ∀ x ∈ xs, -B ≤ x ∧ x ≤ B) (hl : xs.length ≤ 1000000) : rate_differences_c1 (k : Int) xs = some (dl k xs) := by
  have key : ∀ (n j : Nat), (xs.length - 1) / k - j < n → j ≤ (xs.length - 1) / k → diffsFrom (k : Int) xs n (((j + 1) * k : Nat) : Int) =
      some ((List.range' j ((xs.length - 1) / k - j)).map fun j => xs.getD ((j + 1) * k) 0 - xs.getD (j * k) 0) := by
    intro n
    induction n with
    | zero => intro j h; omega
    | succ n ih =>
      intro j h hj
      rw [diffsFrom]
      by_cases hjm : j < (xs.length - 1) / k
      · have h1 : (j + 1) * k ≤ xs.length - 1 := (Nat.le_div_iff_mul_le hk).1 hjm
        have h3 : 1 ≤ (j + 1) * k := Nat.mul_pos (Nat.succ_pos j) hk
        have hs : (j + 1) * k = j * k + k := Nat.succ_mul j k
        have hs2 : (j + 1 + 1) * k = (j + 1) * k + k := Nat.succ_mul (j + 1) k
        have hlt : (j + 1) * k < xs.length := by omega
        have hlt2 : j * k < xs.length := by omega
        have e1 : xs[(j + 1) * k]? = some xs[(j + 1) * k] := List.getElem?_eq_getElem hlt
        have e2 : xs[j * k]? = some xs[j * k] := List.getElem?_eq_getElem hlt2
        have b1 := hx _ (List.getElem_mem hlt)
        have b2 := hx _ (List.getElem_mem hlt2)
        rw [if_pos (by omega), idx_at e1, Option.bind_some, subI_ok (by omega), Option.bind_some, show (((j + 1) * k : Nat) : Int) - (k : Int) = ((j * k : Nat) : Int) by omega, idx_at e2, Option.bind_some, subI_ok (by omega), Option.bind_some,
          addI_ok (by omega), Option.bind_some, show (((j + 1) * k : Nat) : Int) + (k : Int) = (((j + 1 + 1) * k : Nat) : Int) by omega, ih (j + 1) (by omega) (by omega), Option.bind_some,
          show (xs.length - 1) / k - j = ((xs.length - 1) / k - (j + 1)) + 1 by omega, List.range'_succ, List.map_cons, List.getD_eq_getElem?_getD, e1, List.getD_eq_getElem?_getD, e2]
        rfl
      · have hnl : ¬ (j + 1) ≤ (xs.length - 1) / k := by omega
        rw [Nat.le_div_iff_mul_le hk] at hnl
        have h3 : 1 ≤ (j + 1) * k := Nat.mul_pos (Nat.succ_pos j) hk
        rw [if_neg (by omega), show (xs.length - 1) / k - j = 0 by omega]
        rfl
  unfold rate_differences_c1
  have := key (xs.length + 1) 0 (by have := Nat.div_le_self (xs.length - 1) k; omega) (Nat.zero_le _)
  rw [show (((0 + 1) * k : Nat) : Int) = (k : Int) by omega] at this
  rw [this, Nat.sub_zero, ← List.range_eq_range']
  rfl
theorem dl_len (k : Nat) (xs : List Int) : (dl k xs).length = (xs.length - 1) / k := by simp [dl]
theorem collect_eq (xs : List Int) (h : xs.length ≤ 1099511627776) : slices_Collect_int xs = some xs := by
  unfold slices_Collect_int slices_AppendSeq_int
  rw [rangeL_app (fun x : Int => ([x] : List Int)) xs 0 [] (by rw [flatMap_one, List.map_id']; simpa using h), flatMap_one, List.map_id']
  rfl
def weeklyS (a : GBox) : List Int × Int := if vBox a = true then (if (dl 7 a.Errors).length = 0 then ([], 8) else (dl 7 a.Errors, 0)) else ([], 1)
theorem Weekly_eq (a : GBox) (h : a.Name.size ≤ 1000) : rate_Weekly a = some (weeklyS a) := by
  unfold rate_Weekly weeklyS
  simp only [mk_eta, ValidBox_eq _ h, Option.bind_some]
  cases hv : vBox a with
  | false => simp
  | true =>
    have hl := vB_len hv
    have hd := diffs_eq 7 a.Errors 86400000 (by omega) (by omega) (by omega) (vB_errors hv) (by omega)
    simp only [Bool.not_true, Bool.false_eq_true, if_false, if_true]
    rw [show ((7 : Nat) : Int) = 7 from rfl] at hd
    rw [hd, Option.bind_some, collect_eq _ (by rw [dl_len]; have := Nat.div_le_self (a.Errors.length - 1) 7; omega), Option.bind_some]
    by_cases h0 : (dl 7 a.Errors).length = 0
    · simp [h0]
    · have : (((dl 7 a.Errors).length : Nat) : Int) ≠ 0 := by omega
      simp [h0]
def dailyS (a : GBox) : List Int × Int := if vBox a = true then (dl 1 a.Errors, 0) else ([], 1)
theorem loS_step (t : List Int) : ∀ (a b : Int), t.foldl (fun (s : Int × Int × Bool) x => if s.2.2 = true then (x, x, false) else (min s.1 x, max s.2.1 x, false)) (a, b, false) = (t.foldl min a, t.foldl max b, false) := by
  induction t with
  | nil => intro a b; rfl
  | cons x t ih => intro a b; simp only [List.foldl_cons, Bool.false_eq_true, if_false]; exact ih _ _
def loS : List Int → Int
  | [] => 0
  | x :: t => t.foldl min x
def hiS : List Int → Int
  | [] => 0
  | x :: t => t.foldl max x
theorem ends_eq (l : List Int) (h : l ≠ []) : rate_ends_int l = some (loS l, hiS l) := by
  cases l with
  | nil => exact absurd rfl h
  | cons x t =>
    unfold rate_ends_int
    rw [rangeL_fold (fun (s : Int × Int × Bool) x => if s.2.2 = true then (x, x, false) else (min s.1 x, max s.2.1 x, false))]
    · have := loS_step t x x
      simp only [List.foldl_cons, if_true, Option.bind_some, loS, hiS] at this ⊢
      rw [this]
    · rintro i y ⟨a, b, c⟩ _
      cases c
      · rfl
      · simp
def leapS (w : List Int) : Int := (dl 1 w).foldl (fun z x => max (max z x) (-x)) 0
def trialS (a : GBox) : GTrial × Int := if vBox a = true then (if (dl 7 a.Errors).length < 2 then (⟨ByteArray.empty, 0, 0, 0, 0⟩, 8) else (⟨a.Name, loS (dl 7 a.Errors), hiS (dl 7 a.Errors), leapS (dl 7 a.Errors), hiS (dl 7 a.Errors) - loS (dl 7 a.Errors) + 2 * leapS (dl 7 a.Errors)⟩, 0)) else (⟨ByteArray.empty, 0, 0, 0, 0⟩, 1)
theorem foldmin_bd {B : Int} : ∀ (t : List Int) (x : Int), -B ≤ x ∧ x ≤ B → (∀ y ∈ t, -B ≤ y ∧ y ≤ B) → -B ≤ t.foldl min x ∧ t.foldl min x ≤ B
  | [], _, h, _ => h
  | y :: t, x, h, ht => foldmin_bd t (min x y) (by have := ht y (by simp); omega) fun z hz => ht z (by simp [hz])
theorem foldmax_bd {B : Int} : ∀ (t : List Int) (x : Int), -B ≤ x ∧ x ≤ B → (∀ y ∈ t, -B ≤ y ∧ y ≤ B) → -B ≤ t.foldl max x ∧ t.foldl max x ≤ B
  | [], _, h, _ => h
  | y :: t, x, h, ht => foldmax_bd t (max x y) (by have := ht y (by simp); omega) fun z hz => ht z (by simp [hz])
theorem loS_bd {B : Int} (hB : 0 ≤ B) (l : List Int) (h : ∀ y ∈ l, -B ≤ y ∧ y ≤ B) : -B ≤ loS l ∧ loS l ≤ B := by
  cases l with
  | nil => simp only [loS]; omega
  | cons x t => exact foldmin_bd t x (h x (by simp)) fun y hy => h y (by simp [hy])
theorem hiS_bd {B : Int} (hB : 0 ≤ B) (l : List Int) (h : ∀ y ∈ l, -B ≤ y ∧ y ≤ B) : -B ≤ hiS l ∧ hiS l ≤ B := by
  cases l with
  | nil => simp only [hiS]; omega
  | cons x t => exact foldmax_bd t x (h x (by simp)) fun y hy => h y (by simp [hy])
theorem leap_bd {B : Int} : ∀ (t : List Int) (x : Int), 0 ≤ x ∧ x ≤ B → (∀ y ∈ t, -B ≤ y ∧ y ≤ B) → 0 ≤ t.foldl (fun z x => max (max z x) (-x)) x ∧ t.foldl (fun z x => max (max z x) (-x)) x ≤ B
  | [], _, h, _ => h
  | y :: t, x, h, ht => leap_bd t (max (max x y) (-y)) (by have := ht y (by simp); omega) fun z hz => ht z (by simp [hz])
theorem leapS_bd {B : Int} (hB : 0 ≤ B) (w : List Int) (h : ∀ y ∈ w, -B ≤ y ∧ y ≤ B) : 0 ≤ leapS w ∧ leapS w ≤ 2 * B :=
  leap_bd (dl 1 w) 0 (by omega) (dl_mem (by omega) h)
theorem dl7_bd {a : GBox} (h : vBox a = true) : ∀ y ∈ dl 7 a.Errors, -172800000 ≤ y ∧ y ≤ 172800000 := dl_mem (B := 86400000) (by omega) (vB_errors h)
theorem Trial_eq (a : GBox) (h : a.Name.size ≤ 1000) : rate_Trial a = some (trialS a) := by
  unfold rate_Trial trialS
  simp only [mk_eta, Weekly_eq _ h, Option.bind_some, weeklyS]
  cases hv : vBox a with
  | false => simp
  | true =>
    simp only [if_true]
    by_cases h0 : (dl 7 a.Errors).length = 0
    · simp [h0]
    · simp only [h0, if_false]
      by_cases h2 : (dl 7 a.Errors).length < 2
      · have h2' : (((dl 7 a.Errors).length : Nat) : Int) < 2 := by omega
        simp only [bne_self_eq_false, Bool.false_eq_true, if_false, decide_eq_true_eq, h2', h2, if_true]
      · have h2' : ¬ (((dl 7 a.Errors).length : Nat) : Int) < 2 := by omega
        have hb := dl7_bd hv
        have hl := vB_len hv
        have hdl : (dl 7 a.Errors).length ≤ 400 := by rw [dl_len]; have := Nat.div_le_self (a.Errors.length - 1) 7; omega
        have hd := diffs_eq 1 (dl 7 a.Errors) 172800000 (by omega) (by omega) (by omega) hb (by omega)
        rw [show ((1 : Nat) : Int) = 1 from rfl] at hd
        have hb2 : ∀ y ∈ dl 1 (dl 7 a.Errors), -345600000 ≤ y ∧ y ≤ 345600000 := dl_mem (B := 172800000) (by omega) hb
        have hlo := loS_bd (B := 172800000) (by omega) _ hb
        have hhi := hiS_bd (B := 172800000) (by omega) _ hb
        have hle := leapS_bd (B := 172800000) (by omega) _ hb
        simp only [bne_self_eq_false, Bool.false_eq_true, if_false, decide_eq_true_eq, h2', h2, slices_Values_int_c1, Option.bind_some, ends_eq _ (show dl 7 a.Errors ≠ [] from fun e => h0 (by rw [e]; rfl)), hd]
        rw [rangeL_fold (fun z x => max (max z x) (-x)) _ 0 0 (fun i x s hx => by
          have := hb2 x hx
          rw [negW_ok (by omega)]), Option.bind_some]
        show (subI _ _).bind _ = _
        rw [subI_ok (by omega), Option.bind_some]
        show (mulI 2 (leapS _)).bind _ = _
        rw [mulI_ok (by omega), Option.bind_some, addI_ok (by omega)]
        rfl
theorem awake_eq : noongunlaw06_awake = some true := by decide +kernel
def fitB (a : GBox) : Bool := !(decide (100 < ((a.Name.size : Nat) : Int)) || (decide (60 < ((a.Errors.length : Nat) : Int)) && decide (((a.Errors.length : Nat) : Int) < 399)) || decide (410 < ((a.Errors.length : Nat) : Int)))
theorem fit_one (a : GBox) : noongunlaw06_fit [a] = some (fitB a) := by
  unfold noongunlaw06_fit fitB
  rw [rangeL_search (p := fun a : GBox => (((decide (100 < ((a.Name.size : Nat) : Int))) || ((decide (60 < ((a.Errors.length : Nat) : Int))) && (decide (((a.Errors.length : Nat) : Int) < 399)))) || (decide (410 < ((a.Errors.length : Nat) : Int))))) (y := Ctl.ret false)]
  · simp only [List.any_cons, List.any_nil, Bool.or_false]
    cases (((decide (100 < ((a.Name.size : Nat) : Int))) || ((decide (60 < ((a.Errors.length : Nat) : Int))) && (decide (((a.Errors.length : Nat) : Int) < 399)))) || (decide (410 < ((a.Errors.length : Nat) : Int)))) <;> rfl
  · intro i x s _
    cases (((decide (100 < ((x.Name.size : Nat) : Int))) || ((decide (60 < ((x.Errors.length : Nat) : Int))) && (decide (((x.Errors.length : Nat) : Int) < 399)))) || (decide (410 < ((x.Errors.length : Nat) : Int)))) <;> rfl
theorem fit_len {a : GBox} (h : fitB a = true) : a.Errors.length ≤ 410 := by
  simp only [fitB, Bool.not_eq_true', Bool.or_eq_false_iff, decide_eq_false_iff_not] at h
  omega
end Go.Fw
namespace Go.Fw
theorem Least_eq (l : List Int) (h : l ≠ []) : noongunref06_Least l = some (loS l) := by
  cases l with
  | nil => exact absurd rfl h
  | cons x t =>
    unfold noongunref06_Least
    have : idx (x :: t) 0 = some x := rfl
    rw [this, Option.bind_some, rangeL_fold min _ 0 x (fun _ _ _ _ => rfl)]
    simp [loS]
theorem Greatest_eq (l : List Int) (h : l ≠ []) : noongunref06_Greatest l = some (hiS l) := by
  cases l with
  | nil => exact absurd rfl h
  | cons x t =>
    unfold noongunref06_Greatest
    have : idx (x :: t) 0 = some x := rfl
    rw [this, Option.bind_some, rangeL_fold max _ 0 x (fun _ _ _ _ => rfl)]
    simp [hiS]
theorem dl1_get (xs : List Int) (j : Nat) (h : j + 1 < xs.length) : (dl 1 xs)[j]? = some (xs[j + 1] - xs[j]) := by
  have e1 : xs[j + 1]? = some xs[j + 1] := List.getElem?_eq_getElem h
  have e2 : xs[j]? = some xs[j] := List.getElem?_eq_getElem (by omega)
  unfold dl
  rw [List.getElem?_map, List.getElem?_range (by rw [Nat.div_one]; omega)]
  simp [List.getD_eq_getElem?_getD, e1, e2]
theorem dl1_len (xs : List Int) : (dl 1 xs).length = xs.length - 1 := by rw [dl_len, Nat.div_one]
theorem abs_nat (x : Int) (h : -1000000000 ≤ x ∧ x ≤ 1000000000) : noongunref06_Abs x = some ((x.natAbs : Nat) : Int) := by
  unfold noongunref06_Abs
  by_cases h0 : x < 0
  · rw [if_pos (decide_eq_true h0), negW_ok (by omega)]
    congr 1; omega
  · rw [if_neg (by simpa using h0)]
    congr 1; omega
end Go.Fw
namespace Go.Fw
def badBx (pre : List GBox) (x : GBox) : Bool := !vBox x || pre.any fun y => decide (y.Name = x.Name)
def vBs (l : List GBox) : Bool := !anyPre badBx [] l && (decide (1 ≤ l.length) && decide (l.length ≤ 16))
theorem vbs_loop : ∀ (l pre : List GBox) (z : List (ByteArray × Bool)) (i : Int), (∀ x ∈ l, x.Name.size ≤ 1000) → (∀ n, (mget z n).getD false = pre.any (fun y => decide (y.Name = n))) →
    rangeL (α := GBox) (S := (List (ByteArray × Bool))) (X := Ctl (Unit) (Bool)) (fun _ yk1 z2 => (rate_ValidBox (GBox.mk yk1.Name yk1.Errors)).bind (fun t1 => (if ((!t1) || ((mget z2 yk1.Name).getD false)) = true then some (Step.done (Ctl.ret false)) else some (Step.cont (mput z2 yk1.Name true))))) (fun _ => Ctl.next ()) l i z = some (if anyPre badBx pre l = true then Ctl.ret false else Ctl.next ())
  | [], pre, z, i, _, _ => by simp [rangeL, anyPre]
  | x :: l, pre, z, i, h, hz => by
    rw [rangeL, anyPre, mk_eta, ValidBox_eq x (h x (by simp)), hz x.Name]
    have e : (!vBox x || pre.any fun y => decide (y.Name = x.Name)) = badBx pre x := rfl
    simp only [Option.bind_some, e]
    cases hb : badBx pre x with
    | true => simp
    | false =>
      simp only [Bool.false_eq_true, if_false, Option.bind_some, Bool.false_or]
      refine vbs_loop l (pre ++ [x]) _ (i + 1) (fun y hy => h y (by simp [hy])) fun n => ?_
      rw [mget_put, List.any_append]
      by_cases hn : x.Name = n
      · simp [hn]
      · rw [if_neg hn, hz n]; simp [hn]
theorem ValidBoxes_eq (l : List GBox) (h : ∀ x ∈ l, x.Name.size ≤ 1000) : rate_ValidBoxes l = some (vBs l) := by
  unfold rate_ValidBoxes vBs
  rw [vbs_loop l [] [] 0 h (fun n => by simp [mget])]
  cases anyPre badBx [] l with
  | true => simp
  | false =>
    simp only [Bool.false_eq_true, if_false, Option.bind_some, within_eq, Bool.not_false, Bool.true_and]
    congr 1
    rw [Bool.eq_iff_iff, inB_iff]
    simp only [Bool.and_eq_true, decide_eq_true_eq]
    omega
theorem rseveral_eq (l : List GBox) (h : ∀ x ∈ l, x.Name.size ≤ 1000) : noongunref06_several l = some (!anyPre badBx [] l && decide (l.length ≤ 16)) := by
  unfold noongunref06_several
  rw [rangeN_pre (fun pre x _ => if x.Name.size ≤ 1000 then some (if badBx pre x = true then .done (Ctl.ret false) else .cont ()) else none)]
  · rw [preL_search badBx (Ctl.ret false) [] l (fun pre x hx => by rw [if_pos (h x hx)])]
    cases anyPre badBx [] l with
    | true => simp
    | false =>
      simp only [Bool.false_eq_true, if_false, Option.bind_some, Bool.not_false, Bool.true_and]
      congr 1
      rw [Bool.eq_iff_iff]
      simp only [decide_eq_true_eq]
      omega
  · intro i x s hx
    have hmem := List.mem_of_getElem? hx
    have hi := (List.getElem?_eq_some_iff.1 hx).1
    rw [if_pos (h x hmem), idx_at hx, Option.bind_some, mk_eta, rValidBox_eq x (h x hmem), Option.bind_some]
    unfold badBx
    cases vBox x with
    | false => simp
    | true =>
      rw [if_neg (by simp), cutI_take _ _ (by omega), Option.bind_some]
      rw [rangeL_search (p := fun y => decide (y.Name = x.Name)) (y := Ctl.ret false)]
      · cases (l.take i).any (fun y => decide (y.Name = x.Name)) <;> simp
      · intro j y t _
        have : decide (x.Name = y.Name) = decide (y.Name = x.Name) := by rw [decide_eq_decide]; exact eq_comm
        rw [this]
        cases decide (y.Name = x.Name) <;> rfl
theorem rValidBoxes_eq (l : List GBox) (h : ∀ x ∈ l, x.Name.size ≤ 1000) : noongunref06_ValidBoxes l = some (vBs l) := by
  unfold noongunref06_ValidBoxes vBs
  rw [rseveral_eq l h]
  by_cases h1 : 1 ≤ l.length
  · have : decide ((1 : Int) ≤ ((l.length : Nat) : Int)) = true := decide_eq_true (by omega)
    simp [this, h1]
  · have : decide ((1 : Int) ≤ ((l.length : Nat) : Int)) = false := decide_eq_false (by omega)
    simp [this, h1]
theorem anyPre_all {l : List GBox} : ∀ {pre : List GBox}, anyPre badBx pre l = false → ∀ x ∈ l, vBox x = true := by
  induction l with
  | nil => intro _ _ x hx; simp at hx
  | cons y l ih =>
    intro pre h x hx
    rw [anyPre, Bool.or_eq_false_iff] at h
    rcases List.mem_cons.1 hx with rfl | hx
    · have := h.1
      unfold badBx at this
      rw [Bool.or_eq_false_iff] at this
      simpa using this.1
    · exact ih h.2 x hx
theorem vBs_box {l : List GBox} (h : vBs l = true) : ∀ x ∈ l, vBox x = true := by
  unfold vBs at h
  rw [Bool.and_eq_true] at h
  exact anyPre_all (by simpa using h.1)
def fitBx (x : GBox) : Bool := !(((decide (100 < ((x.Name.size : Nat) : Int))) || ((decide (60 < ((x.Errors.length : Nat) : Int))) && (decide (((x.Errors.length : Nat) : Int) < 399)))) || (decide (410 < ((x.Errors.length : Nat) : Int))))
theorem fits_eq (l : List GBox) : noongunlaw06_fit l = some (l.all fitBx && decide (((l.length : Nat) : Int) ≤ 20)) := by
  unfold noongunlaw06_fit
  rw [rangeL_search (p := fun x => !fitBx x) (y := Ctl.ret false)]
  · have := not_any fitBx l
    cases hh : l.any (fun x => !fitBx x) with
    | true => rw [hh] at this; simp [← this]
    | false => rw [hh] at this; simp [← this]
  · intro i x s _
    unfold fitBx
    rw [Bool.not_not]
    cases (((decide (100 < ((x.Name.size : Nat) : Int))) || ((decide (60 < ((x.Errors.length : Nat) : Int))) && (decide (((x.Errors.length : Nat) : Int) < 399)))) || (decide (410 < ((x.Errors.length : Nat) : Int)))) <;> rfl
theorem fits_name {l : List GBox} (h : l.all fitBx = true) : ∀ x ∈ l, x.Name.size ≤ 1000 := by
  intro x hx
  have := List.all_eq_true.1 h x hx
  unfold fitBx at this
  simp only [Bool.not_eq_true', Bool.or_eq_false_iff, decide_eq_false_iff_not] at this
  omega
end Go.Fw
namespace Go.Fw
theorem dlk_get (k : Nat) (hk : 0 < k) (xs : List Int) (j : Nat) (h : (j + 1) * k < xs.length) : (dl k xs)[j]? = some (xs.getD ((j + 1) * k) 0 - xs.getD (j * k) 0) := by
  unfold dl
  have hj : j < (xs.length - 1) / k := by
    have : j + 1 ≤ (xs.length - 1) / k := (Nat.le_div_iff_mul_le hk).2 (by omega)
    omega
  rw [List.getElem?_map, List.getElem?_range hj]
  rfl
theorem ratesk_eq (a : GBox) (k : Nat) (hk : 0 < k) (hk2 : k ≤ 7) (hx : ∀ x ∈ a.Errors, -86400000 ≤ x ∧ x ≤ 86400000) (hl : 2 ≤ a.Errors.length) (hl2 : a.Errors.length ≤ 1000) : noongunref06_rates a (k : Int) = some (dl k a.Errors) := by
  unfold noongunref06_rates
  have hM := Nat.div_le_self (a.Errors.length - 1) k
  obtain ⟨x, h1, rfl⟩ := loopR_inv (S := Int × List Int) (X := List Int) (body := fun (s : Int × (List Int)) => match s with
    | (z3, z4) =>
      (if (decide (z3 < ((a.Errors.length : Nat) : Int))) = true then
        (idx a.Errors z3).bind (fun x1 =>
        (subI z3 (k : Int)).bind (fun t1 =>
        (idx a.Errors t1).bind (fun x2 =>
        (subI x1 x2).bind (fun t2 =>
        (appI z4 ([t2] : List Int)).bind (fun t3 =>
        (addI z3 (k : Int)).bind (fun t4 =>
        some (Step.cont (t4, t3))))))))
      else
        some (Step.done z4))) (fun s => a.Errors.length - s.1.toNat) (fun s => ∃ j : Nat, s = ((((j + 1) * k : Nat) : Int), (dl k a.Errors).take j) ∧ j ≤ (a.Errors.length - 1) / k) (fun x => x = dl k a.Errors) (by
      rintro _ ⟨j, rfl, hj⟩
      have hs : (j + 1) * k = j * k + k := Nat.succ_mul j k
      have hs2 : (j + 1 + 1) * k = (j + 1) * k + k := Nat.succ_mul (j + 1) k
      by_cases hlt : (j + 1) * k < a.Errors.length
      · right
        have hj1 : j + 1 ≤ (a.Errors.length - 1) / k := (Nat.le_div_iff_mul_le hk).2 (by omega)
        have e1 : a.Errors[(j + 1) * k]? = some a.Errors[(j + 1) * k] := List.getElem?_eq_getElem hlt
        have hlt2 : j * k < a.Errors.length := by omega
        have e2 : a.Errors[j * k]? = some a.Errors[j * k] := List.getElem?_eq_getElem hlt2
        have b1 := hx _ (List.getElem_mem hlt)
        have b2 := hx _ (List.getElem_mem hlt2)
        have hd : decide (((((j + 1) * k : Nat) : Int)) < ((a.Errors.length : Nat) : Int)) = true := decide_eq_true (by omega)
        have hg := dlk_get k hk a.Errors j hlt
        rw [List.getD_eq_getElem?_getD, e1, List.getD_eq_getElem?_getD, e2] at hg
        refine ⟨((((j + 1 + 1) * k : Nat) : Int), (dl k a.Errors).take (j + 1)), ?_, ⟨j + 1, rfl, hj1⟩, by
          show a.Errors.length - ((((j + 1 + 1) * k : Nat) : Int)).toNat < a.Errors.length - ((((j + 1) * k : Nat) : Int)).toNat; omega⟩
        show (if _ = true then _ else _) = _
        rw [if_pos hd, idx_at e1, Option.bind_some, subI_ok (by omega), Option.bind_some, show ((((j + 1) * k : Nat) : Int)) - (k : Int) = ((j * k : Nat) : Int) by omega, idx_at e2, Option.bind_some, subI_ok (by omega), Option.bind_some,
          appI_ok (by rw [List.length_take]; simp only [List.length_singleton]; omega), Option.bind_some, addI_ok (by omega), Option.bind_some, List.take_add_one, hg,
          show ((((j + 1) * k : Nat) : Int)) + (k : Int) = (((j + 1 + 1) * k : Nat) : Int) by omega]
        rfl
      · left
        have hd : ¬ decide (((((j + 1) * k : Nat) : Int)) < ((a.Errors.length : Nat) : Int)) = true := by simp only [decide_eq_true_eq]; omega
        have hj2 : (a.Errors.length - 1) / k ≤ j := by
          by_cases h : j + 1 ≤ (a.Errors.length - 1) / k
          · have := (Nat.le_div_iff_mul_le hk).1 h; omega
          · omega
        refine ⟨_, ?_, rfl⟩
        show (if _ = true then _ else _) = _
        rw [if_neg hd, List.take_of_length_le (by rw [dl_len]; exact hj2)]) ((k : Int), ([] : List Int)) ⟨0, by simp, Nat.zero_le _⟩
  rw [h1]; rfl
theorem rleap_eq {w : List Int} {B : Int} (hB : B ≤ 400000000) (hx : ∀ x ∈ w, -B ≤ x ∧ x ≤ B) (h1 : 1 ≤ w.length) (h2 : w.length ≤ 100000) : loopR (S := Int × Int) (X := Int) (fun (s : Int × Int) => match s with
        | (z3, z4) =>
          (if (decide (z3 < ((w.length : Nat) : Int))) = true then
            (idx w z3).bind (fun x1 =>
            (subI z3 1).bind (fun t5 =>
            (idx w t5).bind (fun x2 =>
            (subI x1 x2).bind (fun t6 =>
            (noongunref06_Abs t6).bind (fun t7 =>
            (addI z3 1).bind (fun t8 =>
            some (Step.cont (t8, (max z4 t7)))))))))
          else
            some (Step.done z4))) (1, 0) = some (leapS w) := by
  obtain ⟨x, e1, rfl⟩ := loopR_inv (S := Int × Int) (X := Int) (body := fun (s : Int × Int) => match s with
        | (z3, z4) =>
          (if (decide (z3 < ((w.length : Nat) : Int))) = true then
            (idx w z3).bind (fun x1 =>
            (subI z3 1).bind (fun t5 =>
            (idx w t5).bind (fun x2 =>
            (subI x1 x2).bind (fun t6 =>
            (noongunref06_Abs t6).bind (fun t7 =>
            (addI z3 1).bind (fun t8 =>
            some (Step.cont (t8, (max z4 t7)))))))))
          else
            some (Step.done z4))) (fun s => w.length - s.1.toNat) (fun s => ∃ j : Nat, s = (((j + 1 : Nat) : Int), ((dl 1 w).take j).foldl (fun z x => max (max z x) (-x)) 0) ∧ j + 1 ≤ w.length) (fun x => x = leapS w) (by
      rintro _ ⟨j, rfl, hj⟩
      by_cases hlt : j + 1 < w.length
      · right
        have g1 : w[j + 1]? = some w[j + 1] := List.getElem?_eq_getElem hlt
        have g2 : w[j]? = some w[j] := List.getElem?_eq_getElem (by omega)
        have b1 := hx _ (List.getElem_mem hlt)
        have b2 := hx _ (List.getElem_mem (show j < w.length by omega))
        refine ⟨(((j + 1 + 1 : Nat) : Int), ((dl 1 w).take (j + 1)).foldl (fun z x => max (max z x) (-x)) 0), ?_, ⟨j + 1, rfl, by omega⟩, by show w.length - (((j + 1 + 1 : Nat) : Int)).toNat < w.length - (((j + 1 : Nat) : Int)).toNat; omega⟩
        have hd : decide ((((j + 1 : Nat) : Int)) < ((w.length : Nat) : Int)) = true := decide_eq_true (by omega)
        show (if _ = true then _ else _) = _
        rw [if_pos hd, idx_at g1, Option.bind_some, subI_ok (by omega), Option.bind_some, show (((j + 1 : Nat) : Int)) - 1 = ((j : Nat) : Int) by omega, idx_at g2, Option.bind_some, subI_ok (by omega), Option.bind_some,
          abs_nat _ (by omega), Option.bind_some, addI_ok (by omega), Option.bind_some, List.take_add_one, dl1_get _ _ hlt, List.foldl_append]
        generalize ((dl 1 w).take j).foldl (fun z x => max (max z x) (-x)) 0 = z
        show some (Step.cont (((j + 1 : Nat) : Int) + 1, max z (((w[j + 1] - w[j]).natAbs : Nat) : Int))) = some (Step.cont (((j + 1 + 1 : Nat) : Int), max (max z (w[j + 1] - w[j])) (-(w[j + 1] - w[j]))))
        congr 3
        omega
      · left
        have hd : ¬ decide ((((j + 1 : Nat) : Int)) < ((w.length : Nat) : Int)) = true := by simp only [decide_eq_true_eq]; omega
        refine ⟨_, ?_, rfl⟩
        show (if _ = true then _ else _) = _
        rw [if_neg hd, List.take_of_length_le (by rw [dl1_len]; omega)]
        rfl) ((1 : Int), (0 : Int)) ⟨0, rfl, h1⟩
  exact e1
theorem rTrial_eq (a : GBox) (h : a.Name.size ≤ 1000) : noongunref06_Trial a = some (trialS a) := by
  unfold noongunref06_Trial trialS
  rw [mk_eta, rValidBox_eq a h, Option.bind_some]
  cases hv : vBox a with
  | false => rfl
  | true =>
    have hl := vB_len hv
    have hd := dl7_bd hv
    have hr := ratesk_eq a 7 (by omega) (by omega) (vB_errors hv) hl.1 (by omega)
    have hr7 : noongunref06_rates a 7 = some (dl 7 a.Errors) := hr
    rw [if_neg (by decide), if_pos rfl, hr7, Option.bind_some]
    have hlen := dl_len 7 a.Errors
    generalize dl 7 a.Errors = w at hd hlen
    by_cases h2 : w.length < 2
    · rw [if_pos (decide_eq_true (by omega)), if_pos h2]
    · have hne : w ≠ [] := by rintro rfl; simp at h2
      have l1 := loS_bd (by omega) w hd
      have l2 := hiS_bd (by omega) w hd
      have l3 := leapS_bd (by omega) w hd
      rw [if_neg (by rw [decide_eq_true_eq]; omega), if_neg h2, Least_eq _ hne, Option.bind_some, Greatest_eq _ hne, Option.bind_some, rleap_eq (B := 172800000) (by omega) hd (by omega) (by omega), Option.bind_some, subI_ok (by omega), Option.bind_some, mulI_ok (by omega), Option.bind_some, addI_ok (by omega)]
      rfl
theorem trialS_name {a : GBox} (h : (trialS a).2 = 0) : (trialS a).1.Name = a.Name := by
  unfold trialS at h ⊢
  split
  · rename_i h1
    rw [if_pos h1] at h
    split
    · rename_i h2
      rw [if_pos h2] at h
      cases h
    · rfl
  · rename_i h1
    rw [if_neg h1] at h
    cases h
/-! The ranking. -/
abbrev ltT : GTrial → GTrial → Bool := Go.Proofs.ltOf trialC
def posN (z : List GTrial) (t : GTrial) : Nat → Nat
  | 0 => 0
  | k + 1 => match z[k]? with
    | none => 0
    | some x => if ltT t x = true then posN z t k else k + 1
def insT (z : List GTrial) (t : GTrial) : List GTrial := z.take (posN z t z.length) ++ [t] ++ z.drop (posN z t z.length)
theorem posN_le (z : List GTrial) (t : GTrial) : ∀ k, posN z t k ≤ k
  | 0 => Nat.le_refl _
  | k + 1 => by
    rw [posN]
    split
    · omega
    · split
      · have := posN_le z t k; omega
      · exact Nat.le_refl _
theorem posN_spec (z : List GTrial) (t : GTrial) : ∀ k, k ≤ z.length → (∀ j x, posN z t k ≤ j → j < k → z[j]? = some x → ltT t x = true) ∧ (∀ x, 1 ≤ posN z t k → z[posN z t k - 1]? = some x → ltT t x = false)
  | 0, _ => ⟨fun j x _ h => by omega, fun x h => by simp [posN] at h⟩
  | k + 1, hk => by
    have hz : z[k]? = some z[k] := List.getElem?_eq_getElem (by omega)
    rw [posN, hz]
    dsimp only
    by_cases hl : ltT t z[k] = true
    · rw [if_pos hl]
      obtain ⟨h1, h2⟩ := posN_spec z t k (by omega)
      refine ⟨fun j x hj hjk hx => ?_, h2⟩
      rcases Nat.lt_or_ge j k with h | h
      · exact h1 j x hj h hx
      · obtain rfl : j = k := by omega
        rw [hz] at hx
        cases hx
        exact hl
    · rw [if_neg hl]
      refine ⟨fun j x hj hjk => by omega, fun x _ hx => ?_⟩
      rw [Nat.add_sub_cancel, hz] at hx
      cases hx
      simpa using hl
theorem insT_perm (z : List GTrial) (t : GTrial) : (insT z t).Perm (t :: z) := by
  unfold insT
  have h : z.take (posN z t z.length) ++ z.drop (posN z t z.length) = z := List.take_append_drop ..
  rw [List.append_assoc]
  refine (List.perm_middle).trans ?_
  show (t :: (z.take (posN z t z.length) ++ z.drop (posN z t z.length))).Perm (t :: z)
  rw [h]
theorem insT_len (z : List GTrial) (t : GTrial) : (insT z t).length = z.length + 1 := by rw [(insT_perm z t).length_eq, List.length_cons]
theorem insT_sorted {z : List GTrial} {t : GTrial} (h : z.Pairwise fun a b => ltT b a = false) : (insT z t).Pairwise fun a b => ltT b a = false := by
  have hle := posN_le z t z.length
  obtain ⟨s1, s2⟩ := posN_spec z t z.length (Nat.le_refl _)
  unfold insT
  generalize posN z t z.length = p at hle s1 s2
  have hsplit : (z.take p ++ z.drop p).Pairwise fun a b => ltT b a = false := by rw [List.take_append_drop]; exact h
  obtain ⟨p1, p2, p3⟩ := List.pairwise_append.1 hsplit
  have hbef : ∀ a ∈ z.take p, ltT t a = false := by
    intro a ha
    obtain ⟨i, hi, rfl⟩ := List.getElem_of_mem ha
    rw [List.length_take] at hi
    rw [List.getElem_take]
    have hp1 : z[p - 1]? = some (z[p - 1]'(by omega)) := List.getElem?_eq_getElem (by omega)
    have hlast := s2 _ (by omega) hp1
    by_cases hip : i = p - 1
    · subst hip; exact hlast
    · have := List.pairwise_iff_getElem.1 h i (p - 1) (by omega) (by omega) (by omega)
      exact trial_swo.ntrans _ _ _ hlast this
  have haft : ∀ b ∈ z.drop p, ltT b t = false := by
    intro b hb
    obtain ⟨i, hi, rfl⟩ := List.getElem_of_mem hb
    rw [List.length_drop] at hi
    rw [List.getElem_drop]
    have := s1 (p + i) _ (by omega) (by omega) (List.getElem?_eq_getElem (by omega))
    cases hc : ltT z[p + i] t with
    | false => rfl
    | true =>
      have h2 := trial_swo.trans _ _ _ this hc
      rw [trial_swo.irrefl] at h2
      cases h2
  rw [List.append_assoc]
  refine List.pairwise_append.2 ⟨p1, List.pairwise_cons.2 ⟨haft, p2⟩, fun a ha b hb => ?_⟩
  rcases List.mem_cons.1 hb with rfl | hb
  · exact hbef a ha
  · exact p3 a ha b hb
theorem ins_fold : ∀ (ts z : List GTrial), (z.Pairwise fun a b => ltT b a = false) → (ts.foldl insT z).Perm (z ++ ts) ∧ (ts.foldl insT z).Pairwise fun a b => ltT b a = false
  | [], z, h => by simpa using h
  | t :: ts, z, h => by
    obtain ⟨h1, h2⟩ := ins_fold ts (insT z t) (insT_sorted h)
    refine ⟨h1.trans ?_, h2⟩
    have := (insT_perm z t).append_right ts
    exact this.trans (List.perm_middle.symm)
theorem sortTrials_facts (xs : List GTrial) : (sortTrials xs).Perm xs ∧ (sortTrials xs).Pairwise fun a b => ltT b a = false := by
  obtain ⟨h1, h2⟩ := srtOf_facts trialC trial_swo xs
  refine ⟨h1, ?_⟩
  have hl := h1.length_eq
  unfold sortTrials
  rw [List.pairwise_iff_getElem]
  intro i j hi hj hij
  have := h2 i j (Nat.zero_le _) hij (by rw [← hl]; exact hj)
  have hi' : i < (srtOf trialC xs).toArray.size := by rw [List.size_toArray]; exact hi
  have hj' : j < (srtOf trialC xs).toArray.size := by rw [List.size_toArray]; exact hj
  rw [getElem!_pos _ i hi', getElem!_pos _ j hj'] at this
  exact this
theorem inj_names {xs : List GTrial} (hn : (xs.map fun t => t.Name).Nodup) {a b : GTrial} (ha : a ∈ xs) (hb : b ∈ xs) (h : a.Name = b.Name) : a = b := by
  induction xs with
  | nil => cases ha
  | cons x xs ih =>
    rw [List.map_cons, List.nodup_cons] at hn
    rcases List.mem_cons.1 ha with rfl | ha'
    · rcases List.mem_cons.1 hb with rfl | hb'
      · rfl
      · exact (hn.1 (List.mem_map.2 ⟨b, hb', h.symm⟩)).elim
    · rcases List.mem_cons.1 hb with rfl | hb'
      · exact (hn.1 (List.mem_map.2 ⟨a, ha', h⟩)).elim
      · exact ih hn.2 ha' hb'
theorem rank_same {ts : List GTrial} (hn : (ts.map fun t => t.Name).Nodup) : sortTrials ts = ts.foldl insT [] := by
  obtain ⟨h1, h2⟩ := sortTrials_facts ts
  obtain ⟨h3, h4⟩ := ins_fold ts [] .nil
  rw [List.nil_append] at h3
  refine List.Perm.eq_of_pairwise (le := fun a b => ltT b a = false) (fun a b ha hb e1 e2 => ?_) h2 h4 (h1.trans h3.symm)
  have ha' := h1.mem_iff.1 ha
  have hb' := h3.mem_iff.1 hb
  refine inj_names hn ha' hb' ?_
  unfold ltT at e1 e2
  rw [trial_lt] at e1 e2
  simp only [Bool.or_eq_false_iff, decide_eq_false_iff_not, Bool.and_eq_false_iff] at e1 e2
  have hN : a.Number = b.Number := by omega
  have q1 := e1.2.resolve_left (by simp [hN])
  have q2 := e2.2.resolve_left (by simp [hN])
  have := bl_total _ _ q2 q1
  exact ByteArray.ext (Array.ext' (by simpa [ByteArray.toList_eq] using this))
theorem sameTrials_eq (a b : List GTrial) : noongunref06_SameTrials a b = some (decide (a = b)) := by
  unfold noongunref06_SameTrials
  exact same_fun (fun x y => !(x == y)) (fun x y => by cases h : decide (x = y) <;> simp_all) a b
theorem sameTexts_eq (a b : List ByteArray) : noongunref06_SameTexts a b = some (decide (a = b)) := by
  unfold noongunref06_SameTexts
  exact same_fun (fun x y => !(decide (x = y))) (fun _ _ => rfl) a b
/-- The first error. -/
def firstE : List GBox → Option Int
  | [] => none
  | b :: l => if (trialS b).2 ≠ 0 then some (trialS b).2 else firstE l
def tsL (l : List GBox) : List GTrial := l.map fun b => (trialS b).1
theorem firstE_ok : ∀ {l : List GBox}, firstE l = none → ∀ b ∈ l, (trialS b).2 = 0
  | [], _, b, hb => by cases hb
  | c :: l, h, b, hb => by
    rw [firstE] at h
    split at h
    · cases h
    · rename_i hc
      rcases List.mem_cons.1 hb with rfl | hb
      · simpa using hc
      · exact firstE_ok h b hb
theorem names_tsL {l : List GBox} (h : firstE l = none) : (tsL l).map (fun t => t.Name) = l.map fun b => b.Name := by
  unfold tsL
  rw [List.map_map]
  exact List.map_congr_left fun b hb => trialS_name (firstE_ok h b hb)
theorem anyPre_names : ∀ {l pre : List GBox}, anyPre badBx pre l = false → (l.map fun b => b.Name).Nodup ∧ ∀ b ∈ l, ∀ y ∈ pre, y.Name ≠ b.Name
  | [], _, _ => ⟨List.nodup_nil, fun b hb => by cases hb⟩
  | c :: l, pre, h => by
    rw [anyPre, Bool.or_eq_false_iff] at h
    obtain ⟨h1, h2⟩ := anyPre_names h.2
    have hc := h.1
    unfold badBx at hc
    rw [Bool.or_eq_false_iff] at hc
    refine ⟨List.nodup_cons.2 ⟨fun hm => ?_, h1⟩, fun b hb y hy e => ?_⟩
    · obtain ⟨b, hb, e⟩ := List.mem_map.1 hm
      exact h2 b hb c (by simp) e.symm
    · rcases List.mem_cons.1 hb with rfl | hb
      · have : pre.any (fun y => decide (y.Name = b.Name)) = true := List.any_eq_true.2 ⟨y, hy, decide_eq_true e⟩
        rw [this] at hc
        cases hc.2
      · exact h2 b hb y (by simp [hy]) e
theorem code_loop : ∀ (l : List GBox) (i : Int) (z : List GTrial), (∀ b ∈ l, b.Name.size ≤ 1000) → z.length + l.length ≤ 1000 →
    rangeL (α := GBox) (S := (List GTrial)) (X := Ctl ((List GTrial)) ((List GTrial) × Int)) (fun ik1 yk1 z2 =>
      (rate_Trial (GBox.mk yk1.Name yk1.Errors)).bind (fun o => match o with
        | (t2, t3) =>
          (if (t3 != 0) = true then
            some (Step.done (Ctl.ret (([] : List GTrial), t3)))
          else
            (appI z2 ([t2] : List GTrial)).bind (fun t4 =>
            some (Step.cont t4))))) (fun z2 => Ctl.next z2) l i z = some (match firstE l with | some e => Ctl.ret ([], e) | none => Ctl.next (z ++ tsL l))
  | [], i, z, _, _ => by simp [rangeL, firstE, tsL]
  | b :: l, i, z, h, hz => by
    rw [List.length_cons] at hz
    rw [rangeL, mk_eta, Trial_eq b (h b (by simp)), firstE]
    dsimp only [Option.bind_some]
    by_cases he : (trialS b).2 = 0
    · rw [if_neg (by simp [he]), if_neg (by simp [he]), appI_ok (by simp; omega)]
      dsimp only [Option.bind_some]
      rw [code_loop l (i + 1) _ (fun x hx => h x (by simp [hx])) (by simp; omega)]
      cases firstE l with
      | some e => rfl
      | none => simp [tsL]
    · rw [if_pos (by simp [he]), if_pos he]
      rfl
theorem pos_loop {z : List GTrial} {t : GTrial} (hz : z.length ≤ 1000) : ∀ k, k ≤ z.length → loopR (S := Int) (X := Int) (fun (z5 : Int) =>
                  ((if (decide (0 < z5)) = true then
                    (subI z5 1).bind (fun t4 =>
                    (idx z t4).bind (fun x1 =>
                    ((if (decide (t.Number < x1.Number)) = true then
                      some true
                    else
                      (subI z5 1).bind (fun t5 =>
                      (idx z t5).bind (fun x2 =>
                      ((if (t.Number == x2.Number) = true then
                        (subI z5 1).bind (fun t6 =>
                        (idx z t6).bind (fun x3 =>
                        some (Op.bytesLess t.Name.toList x3.Name.toList)))
                      else
                        some false) : Option Bool).bind (fun b5 =>
                      some b5)))) : Option Bool).bind (fun b4 =>
                    some b4)))
                  else
                    some false) : Option Bool).bind (fun b3 =>
                  (if b3 = true then
                    (subI z5 1).bind (fun t7 =>
                    some (Step.cont t7))
                  else
                    some (Step.done z5)))) (k : Int) = some (posN z t k : Int)
  | 0, _ => loopR_done rfl
  | k + 1, hk => by
    have hg : z[k]? = some z[k] := List.getElem?_eq_getElem (by omega)
    have hsub : subI (((k + 1 : Nat) : Int)) 1 = some ((k : Nat) : Int) := by rw [subI_ok (by omega)]; congr 1; omega
    have hi : idx z ((k : Nat) : Int) = some z[k] := idx_at hg
    have hlt : ltT t z[k] = (decide (t.Number < z[k].Number) || (decide (t.Number = z[k].Number) && Op.bytesLess t.Name.toList z[k].Name.toList)) := trial_lt _ _
    rw [posN, hg]
    dsimp only
    by_cases hl : ltT t z[k] = true
    · rw [if_pos hl]
      refine (loopR_cont ((k : Nat) : Int) ?_).trans (pos_loop hz k (by omega))
      rw [if_pos (decide_eq_true (by omega)), hsub]
      simp only [Option.bind_some, hi]
      rw [hlt] at hl
      by_cases h1 : t.Number < z[k].Number
      · simp [h1]
      · by_cases h2 : t.Number = z[k].Number
        · simp [h2] at hl
          simp [h2, hl]
        · simp [h1, h2] at hl
    · rw [if_neg hl]
      refine loopR_done ?_
      rw [if_pos (decide_eq_true (by omega)), hsub]
      simp only [Option.bind_some, hi]
      rw [hlt] at hl
      by_cases h1 : t.Number < z[k].Number
      · simp [h1] at hl
      · by_cases h2 : t.Number = z[k].Number
        · simp [h2] at hl
          simp [h2, hl]
        · simp [h1, h2]
theorem ref_loop : ∀ (l : List GBox) (i : Int) (z : List GTrial), (∀ b ∈ l, b.Name.size ≤ 1000) → z.length + l.length ≤ 1000 →
    rangeL (α := GBox) (S := (List GTrial)) (X := Ctl ((List GTrial)) ((List GTrial) × Int)) (fun ik1 yk1 z2 =>
      ((
        (noongunref06_Trial (GBox.mk yk1.Name yk1.Errors)).bind (fun o => match o with
          | (t2, t3) =>
            (if (t3 != 0) = true then
              some (Ctl.ret (([] : List GTrial), t3))
            else
              ((
                loopR (S := Int) (X := Int) (fun (z5 : Int) =>
                  ((if (decide (0 < z5)) = true then
                    (subI z5 1).bind (fun t4 =>
                    (idx z2 t4).bind (fun x1 =>
                    ((if (decide (t2.Number < x1.Number)) = true then
                      some true
                    else
                      (subI z5 1).bind (fun t5 =>
                      (idx z2 t5).bind (fun x2 =>
                      ((if (t2.Number == x2.Number) = true then
                        (subI z5 1).bind (fun t6 =>
                        (idx z2 t6).bind (fun x3 =>
                        some (Op.bytesLess t2.Name.toList x3.Name.toList)))
                      else
                        some false) : Option Bool).bind (fun b5 =>
                      some b5)))) : Option Bool).bind (fun b4 =>
                    some b4)))
                  else
                    some false) : Option Bool).bind (fun b3 =>
                  (if b3 = true then
                    (subI z5 1).bind (fun t7 =>
                    some (Step.cont t7))
                  else
                    some (Step.done z5)))) ((z2.length : Nat) : Int)) : Option (Int)).bind (fun s3 =>
              (cutI z2 0 s3).bind (fun t8 =>
              (appI ([] : List GTrial) t8).bind (fun t9 =>
              (appI t9 ([t2] : List GTrial)).bind (fun t10 =>
              (cutI z2 s3 ((z2.length : Nat) : Int)).bind (fun t11 =>
              (appI t10 t11).bind (fun t12 =>
              some (Ctl.next t12)))))))))) : Option (Ctl ((List GTrial)) ((List GTrial) × Int))).bind (fun o => match o with
        | .next s2 =>
          some (Step.cont s2)
        | .ret r => some (Step.done (Ctl.ret r))
        | .exit _ _ => none)) (fun z2 => Ctl.next z2) l i z = some (match firstE l with | some e => Ctl.ret ([], e) | none => Ctl.next ((tsL l).foldl insT z))
  | [], i, z, _, _ => by simp [rangeL, firstE, tsL]
  | b :: l, i, z, h, hz => by
    rw [List.length_cons] at hz
    rw [rangeL, mk_eta, rTrial_eq b (h b (by simp)), firstE]
    dsimp only [Option.bind_some]
    by_cases he : (trialS b).2 = 0
    · rw [if_neg (by simp [he]), if_neg (by simp [he]), pos_loop (by omega) z.length (Nat.le_refl _), Option.bind_some]
      have hp := posN_le z (trialS b).1 z.length
      have c1 : cutI z 0 (posN z (trialS b).1 z.length : Int) = some (z.take (posN z (trialS b).1 z.length)) := by
        unfold cutI; rw [if_pos (by omega), Int.toNat_natCast]; rfl
      have c2 : cutI z (posN z (trialS b).1 z.length : Int) ((z.length : Nat) : Int) = some (z.drop (posN z (trialS b).1 z.length)) := by
        unfold cutI; rw [if_pos (by omega), Int.toNat_natCast, Int.toNat_natCast, List.take_length]
      rw [c1, Option.bind_some, appI_ok (by simp; omega), Option.bind_some, List.nil_append, appI_ok (by simp; omega), Option.bind_some, c2, Option.bind_some, appI_ok (by simp; omega)]
      dsimp only [Option.bind_some]
      have hins : z.take (posN z (trialS b).1 z.length) ++ [(trialS b).1] ++ z.drop (posN z (trialS b).1 z.length) = insT z (trialS b).1 := rfl
      rw [hins, ref_loop l (i + 1) _ (fun x hx => h x (by simp [hx])) (by rw [insT_len]; omega)]
      cases firstE l <;> rfl
    · rw [if_pos (by simp [he]), if_pos he]
      rfl
/-- What is ranked. -/
noncomputable def rankF (l : List GBox) : List GTrial × Int := if vBs l = true then (match firstE l with | some e => ([], e) | none => (sortTrials (tsL l), 0)) else ([], 1)
theorem vBs_len {l : List GBox} (h : vBs l = true) : l.length ≤ 16 := by
  unfold vBs at h
  simp only [Bool.and_eq_true, decide_eq_true_eq] at h
  exact h.2.2
theorem tsL_len (l : List GBox) : (tsL l).length = l.length := List.length_map ..
theorem Ranked_eq (l : List GBox) (h : ∀ b ∈ l, b.Name.size ≤ 1000) : rate_Ranked l = some (rankF l) := by
  unfold rate_Ranked rankF
  rw [ValidBoxes_eq l h, Option.bind_some]
  cases hv : vBs l with
  | false => rfl
  | true =>
    have hl := vBs_len hv
    rw [if_neg (by decide), if_pos rfl, code_loop l 0 [] h (by simp; omega), Option.bind_some]
    cases firstE l with
    | some e => rfl
    | none =>
      dsimp only
      rw [List.nil_append]
      unfold srtI
      rw [if_pos (by rw [tsL_len]; omega)]
      rfl
theorem rRanked_eq (l : List GBox) (h : ∀ b ∈ l, b.Name.size ≤ 1000) : noongunref06_Ranked l = some (rankF l) := by
  unfold noongunref06_Ranked rankF
  rw [rValidBoxes_eq l h, Option.bind_some]
  cases hv : vBs l with
  | false => rfl
  | true =>
    have hl := vBs_len hv
    rw [if_neg (by decide), if_pos rfl]
    refine (congrArg (Option.bind · _) (ref_loop l 0 [] h (by simp; omega))).trans ?_
    dsimp only [Option.bind_some]
    cases hf : firstE l with
    | some e => rfl
    | none =>
      dsimp only
      have hn : ((tsL l).map fun t => t.Name).Nodup := by
        rw [names_tsL hf]
        unfold vBs at hv
        simp only [Bool.and_eq_true, Bool.not_eq_true'] at hv
        exact (anyPre_names hv.1).1
      rw [rank_same hn]
theorem pass_loop (most : Int) : ∀ (l : List GTrial) (i : Int) (z : List ByteArray), z.length + l.length ≤ 1000 →
    rangeL (α := GTrial) (S := (List ByteArray)) (X := (List ByteArray)) (fun ik1 yk1 z2 =>
            ((
              ((
                (if (decide (yk1.Number ≤ most)) = true then
                  (appI z2 ([yk1.Name] : List ByteArray)).bind (fun t4 =>
                  some t4)
                else
                  some z2)) : Option ((List ByteArray))).bind (fun s3 =>
              some s3)) : Option ((List ByteArray))).bind (fun s2 =>
            some (Step.cont s2))) (fun z2 => z2) l i z = some (z ++ (l.filter fun t => decide (t.Number ≤ most)).map fun t => t.Name)
  | [], i, z, _ => by simp [rangeL]
  | t :: l, i, z, hz => by
    rw [List.length_cons] at hz
    rw [rangeL, List.filter_cons]
    by_cases h : t.Number ≤ most
    · rw [decide_eq_true h, if_pos rfl, if_pos rfl, appI_ok (by simp; omega)]
      dsimp only [Option.bind_some]
      rw [pass_loop most l (i + 1) _ (by simp; omega)]
      simp
    · rw [decide_eq_false h, if_neg (by decide), if_neg (by decide)]
      dsimp only [Option.bind_some]
      rw [pass_loop most l (i + 1) _ (by omega)]
theorem rankF_len (l : List GBox) : (rankF l).1.length ≤ 16 := by
  unfold rankF
  split
  · rename_i hv
    have hl := vBs_len hv
    split
    · simp
    · show (sortTrials (tsL l)).length ≤ 16
      rw [(sortTrials_facts (tsL l)).1.length_eq, tsL_len]
      exact hl
  · simp
theorem rankF_err {l : List GBox} (h : (rankF l).2 ≠ 0) : (rankF l).1 = [] := by
  unfold rankF at h ⊢
  split
  · rename_i hv
    rw [if_pos hv] at h
    split
    · rfl
    · rename_i hf
      rw [hf] at h
      exact absurd rfl h
  · rfl
noncomputable def passF (l : List GBox) (most : Int) : List ByteArray × Int :=
  if vBs l = true then (if most < 0 then ([], 7) else (((rankF l).1.filter fun t => decide (t.Number ≤ most)).map fun t => t.Name, (rankF l).2)) else ([], 1)
theorem Passed_eq (l : List GBox) (most : Int) (h : ∀ b ∈ l, b.Name.size ≤ 1000) : rate_Passed l most = some (passF l most) := by
  unfold rate_Passed passF
  rw [ValidBoxes_eq l h, Option.bind_some]
  cases hv : vBs l with
  | false => rfl
  | true =>
    rw [if_neg (by decide), if_pos rfl]
    by_cases hm : most < 0
    · rw [if_pos (decide_eq_true hm), if_pos hm]
    · rw [if_neg (by simpa using hm), if_neg hm, Ranked_eq l h]
      have hl := rankF_len l
      generalize rankF l = r at hl ⊢
      obtain ⟨r1, r2⟩ := r
      dsimp only [Option.bind_some] at hl ⊢
      rw [pass_loop most r1 0 [] (by simp; omega)]
      rfl
theorem rPassed_eq (l : List GBox) (most : Int) (h : ∀ b ∈ l, b.Name.size ≤ 1000) : noongunref06_Passed l most = some (passF l most) := by
  unfold noongunref06_Passed passF
  rw [rValidBoxes_eq l h, Option.bind_some]
  cases hv : vBs l with
  | false => rfl
  | true =>
    rw [if_neg (by decide), if_pos rfl]
    by_cases hm : most < 0
    · rw [if_pos (decide_eq_true hm), if_pos hm]
    · rw [if_neg (by simpa using hm), if_neg hm, rRanked_eq l h]
      have hl := rankF_len l
      have he := rankF_err (l := l)
      generalize rankF l = r at hl he ⊢
      obtain ⟨r1, r2⟩ := r
      dsimp only [Option.bind_some] at hl he ⊢
      by_cases h0 : r2 = 0
      · subst h0
        rw [if_neg (by decide), pass_loop most r1 0 [] (by simp; omega)]
        rfl
      · rw [if_pos (by simpa using h0), he h0]
        rfl
theorem law_noongunlaw06_RateTrials (a0 : (List GBox)) (_ : ∀ a ∈ a0, okGBox a) (_ : a0.length ≤ maxLen) (a1 : Int) (_ : inI a1 = true) : noongunlaw06_RateTrials a0 a1 = some true := by
  unfold noongunlaw06_RateTrials
  rw [fits_eq, Option.bind_some]
  cases hf : (a0.all fitBx && decide (((a0.length : Nat) : Int) ≤ 20)) with
  | false => rw [if_pos (by decide), awake_eq]; rfl
  | true =>
    rw [Bool.and_eq_true] at hf
    have hn := fits_name hf.1
    rw [if_neg (by decide), ValidBoxes_eq a0 hn, Option.bind_some, rValidBoxes_eq a0 hn, Option.bind_some, bne_self_eq_false, if_neg (by decide)]
    have hloop : ∀ (l : List GBox) (i : Int), (∀ b ∈ l, b.Name.size ≤ 1000) → rangeL (α := GBox) (S := Unit) (X := Ctl (Unit) (Bool)) (fun ik1 yk1 _ =>
        (rate_Trial (GBox.mk yk1.Name yk1.Errors)).bind (fun o => match o with
          | (t5, t6) =>
            (noongunref06_Trial (GBox.mk yk1.Name yk1.Errors)).bind (fun o => match o with
              | (t7, t8) =>
                (if ((!(t5 == t7)) || (t6 != t8)) = true then
                  some (Step.done (Ctl.ret false))
                else
                  some (Step.cont ()))))) (fun _ => Ctl.next ()) l i () = some (Ctl.next ()) := by
      intro l
      induction l with
      | nil => intro i _; rfl
      | cons b l ih =>
        intro i h
        rw [rangeL, mk_eta, Trial_eq b (h b (by simp)), rTrial_eq b (h b (by simp))]
        obtain ⟨t, e⟩ := trialS b
        dsimp only [Option.bind_some]
        rw [beq_self_eq_true, bne_self_eq_false, if_neg (by decide)]
        dsimp only [Option.bind_some]
        exact ih (i + 1) fun x hx => h x (by simp [hx])
    refine Eq.trans (congrArg (Option.bind · _) (hloop a0 0 hn)) ?_
    dsimp only [Option.bind_some]
    rw [Ranked_eq a0 hn, rRanked_eq a0 hn, Passed_eq a0 a1 hn, rPassed_eq a0 a1 hn]
    obtain ⟨r1, r2⟩ := rankF a0
    obtain ⟨p1, p2⟩ := passF a0 a1
    simp [sameTrials_eq, sameTexts_eq, awake_eq]
end Go.Fw
