/-
  RateOdd, plain: its model gives true for whatever comes in. No condition.
-/
import Derived.Test.YtohbkbimgfkblaaBoxesLib
namespace Go.Fw
def difs (x y : List Int) : List Int := List.zipWith (fun a b => a - b) x y
theorem difs_bd {x y : List Int} (hx : ∀ a ∈ x, -86400000 ≤ a ∧ a ≤ 86400000) (hy : ∀ a ∈ y, -86400000 ≤ a ∧ a ≤ 86400000) : ∀ d ∈ difs x y, -172800000 ≤ d ∧ d ≤ 172800000 := by
  intro d hd
  obtain ⟨i, hi, e⟩ := List.getElem_of_mem hd
  unfold difs at hi e
  rw [List.length_zipWith] at hi
  rw [List.getElem_zipWith] at e
  have := hx x[i] (List.getElem_mem (by omega))
  have := hy y[i] (List.getElem_mem (by omega))
  omega
theorem difs_loop {x y : List Int} (hl : x.length = y.length) (hx : ∀ a ∈ x, -86400000 ≤ a ∧ a ≤ 86400000) (hy : ∀ a ∈ y, -86400000 ≤ a ∧ a ≤ 86400000) (hlen : x.length ≤ 1000) :
    rangeN (S := (List Int)) (X := (List Int)) (fun ik1 z2 => (idx x (ik1 : Int)).bind (fun x1 => (idx y (ik1 : Int)).bind (fun x2 => (subI x1 x2).bind (fun t1 => (appI z2 ([t1] : List Int)).bind (fun t2 => some (Step.cont t2)))))) (fun z2 => z2) (Int.toNat ((x.length : Nat) : Int)) 0 ([] : List Int) = some (difs x y) := by
  rw [Int.toNat_natCast]
  obtain ⟨s', h1, h2⟩ := rangeN_inv (S := (List Int)) (X := (List Int)) (body := fun ik1 z2 => (idx x (ik1 : Int)).bind (fun x1 => (idx y (ik1 : Int)).bind (fun x2 => (subI x1 x2).bind (fun t1 => (appI z2 ([t1] : List Int)).bind (fun t2 => some (Step.cont t2)))))) (fin := fun z2 => z2) (fun j s => s = (difs x y).take j) x.length [] (fun j s hj hs => by
    subst hs
    have e1 : x[j]? = some x[j] := List.getElem?_eq_getElem hj
    have e2 : y[j]? = some y[j] := List.getElem?_eq_getElem (by omega)
    have b1 := hx x[j] (List.getElem_mem hj)
    have b2 := hy y[j] (List.getElem_mem (by omega))
    have e3 : (difs x y)[j]? = some (x[j] - y[j]) := by unfold difs; rw [List.getElem?_zipWith, e1, e2]
    refine ⟨(difs x y).take j ++ [x[j] - y[j]], ?_, by rw [List.take_add_one, e3]; rfl⟩
    rw [idx_at e1, Option.bind_some, idx_at e2, Option.bind_some, subI_ok (by omega), Option.bind_some, appI_ok (by simp; omega)]
    rfl) rfl
  rw [h1, h2, List.take_of_length_le]
  unfold difs
  rw [List.length_zipWith]; omega
def playS (a b : GBox) : Int := hiS (difs a.Errors b.Errors) - loS (difs a.Errors b.Errors)
theorem difs_ne {a b : GBox} (ha : vBox a = true) (hl : a.Errors.length = b.Errors.length) : difs a.Errors b.Errors ≠ [] := by
  have := vB_len ha
  intro h
  have h2 : (difs a.Errors b.Errors).length = 0 := by rw [h]; rfl
  unfold difs at h2
  rw [List.length_zipWith] at h2
  omega
theorem play_eq {a b : GBox} (ha : vBox a = true) (hb : vBox b = true) (hl : a.Errors.length = b.Errors.length) : rate_play a b = some (playS a b) := by
  have hd := difs_bd (vB_errors ha) (vB_errors hb)
  have h1 := loS_bd (by omega) _ hd
  have h2 := hiS_bd (by omega) _ hd
  unfold rate_play
  rw [difs_loop hl (vB_errors ha) (vB_errors hb) (by have := vB_len ha; omega), Option.bind_some]
  show (rate_ends_int (difs a.Errors b.Errors)).bind _ = _
  rw [ends_eq _ (difs_ne ha hl), Option.bind_some]
  show (subI (hiS _) (loS _)).bind _ = _
  rw [subI_ok (by omega)]
  rfl
theorem rplay_eq {a b : GBox} (ha : vBox a = true) (hb : vBox b = true) (hl : a.Errors.length = b.Errors.length) : noongunref06_play a b = some (playS a b) := by
  have hd := difs_bd (vB_errors ha) (vB_errors hb)
  have h1 := loS_bd (by omega) _ hd
  have h2 := hiS_bd (by omega) _ hd
  unfold noongunref06_play
  rw [difs_loop hl (vB_errors ha) (vB_errors hb) (by have := vB_len ha; omega), Option.bind_some, Greatest_eq _ (difs_ne ha hl), Option.bind_some, Least_eq _ (difs_ne ha hl), Option.bind_some, subI_ok (by omega)]
  rfl
def oddOf (p q r : Int) : Int × Int := if p < q ∧ p < r then (0, 0) else if q < r ∧ q < p then (1, 0) else if r < p ∧ r < q then (2, 0) else (0, 8)
theorem tail_rate (p q r : Int) : (slices_Values_int_c1 ([p, q, r] : List Int)).bind (fun xs1 =>
    (rate_ends_int xs1).bind (fun o => match o with
      | (t6, _) => (slices_Index_int ([p, q, r] : List Int) t6).bind (fun t8 => (addI t8 1).bind (fun t9 => (cutI ([p, q, r] : List Int) t9 ((([p, q, r] : List Int).length : Nat) : Int)).bind (fun t10 => (slices_Contains_int t10 t6).bind (fun t11 => ((if t11 = true then some (0, 8) else some (t8, 0)) : Option (Int × Int)))))))) = some (oddOf p q r) := by
  have hvs : slices_Values_int_c1 [p, q, r] = some [p, q, r] := rfl
  rw [hvs, Option.bind_some, ends_eq _ (by simp), Option.bind_some]
  have hm : loS [p, q, r] = min (min p q) r := rfl
  obtain ⟨m, hm2⟩ : ∃ m, m = loS [p, q, r] := ⟨_, rfl⟩
  rw [← hm2]
  rw [hm] at hm2
  have t3 : Int.toNat ((([p, q, r] : List Int).length : Nat) : Int) = 3 := rfl
  have i0 : idx ([p, q, r] : List Int) 0 = some p := rfl
  have i1 : idx ([p, q, r] : List Int) (0 + 1) = some q := rfl
  have i2 : idx ([p, q, r] : List Int) (0 + 1 + 1) = some r := rfl
  have a0 : addI 0 1 = some 1 := rfl
  have a1 : addI (0 + 1) 1 = some 2 := rfl
  have a2 : addI (0 + 1 + 1) 1 = some 3 := rfl
  have c1 : cutI ([p, q, r] : List Int) 1 ((([p, q, r] : List Int).length : Nat) : Int) = some [q, r] := rfl
  have c2 : cutI ([p, q, r] : List Int) 2 ((([p, q, r] : List Int).length : Nat) : Int) = some [r] := rfl
  have c3 : cutI ([p, q, r] : List Int) 3 ((([p, q, r] : List Int).length : Nat) : Int) = some [] := rfl
  have k2 : ∀ x y z : Int, slices_Contains_int [x, y] z = some (decide (z = x) || decide (z = y)) := by
    intro x y z
    have t : Int.toNat ((([x, y] : List Int).length : Nat) : Int) = 2 := rfl
    have j0 : idx ([x, y] : List Int) 0 = some x := rfl
    have j1 : idx ([x, y] : List Int) (0 + 1) = some y := rfl
    unfold slices_Contains_int slices_Index_int
    rw [t]
    simp only [rangeN, j0, j1, Option.bind_some]
    by_cases h1 : z = x
    · simp [h1]
    · by_cases h2 : z = y
      · subst h2; simp [h1]
      · simp [h1, h2]
  have k1 : ∀ x z : Int, slices_Contains_int [x] z = some (decide (z = x)) := by
    intro x z
    have t : Int.toNat ((([x] : List Int).length : Nat) : Int) = 1 := rfl
    have j0 : idx ([x] : List Int) 0 = some x := rfl
    unfold slices_Contains_int slices_Index_int
    rw [t]
    simp only [rangeN, j0, Option.bind_some]
    by_cases h1 : z = x
    · simp [h1]
    · simp [h1]
  have k0 : ∀ z : Int, slices_Contains_int [] z = some false := fun z => rfl
  have hI : slices_Index_int [p, q, r] m = some (if m = p then 0 else if m = q then 0 + 1 else if m = r then 0 + 1 + 1 else -1) := by
    unfold slices_Index_int
    rw [t3]
    simp only [rangeN, i0, i1, i2, Option.bind_some]
    by_cases h1 : m = p
    · simp [h1]
    · by_cases h2 : m = q
      · subst h2; simp [h1]
      · by_cases h3 : m = r
        · subst h3; simp [h1, h2]
        · simp [h1, h2, h3]
  simp only [hI, Option.bind_some]
  unfold oddOf
  by_cases h1 : m = p
  · rw [if_pos h1, a0, Option.bind_some, c1, Option.bind_some, k2, Option.bind_some]
    by_cases h2 : p < q ∧ p < r
    · rw [if_pos h2, if_neg (by simp; omega)]
    · rw [if_neg h2, if_neg (show ¬ (q < r ∧ q < p) by omega), if_neg (show ¬ (r < p ∧ r < q) by omega), if_pos (by simp; omega)]
  · rw [if_neg h1, if_neg (show ¬ (p < q ∧ p < r) by omega)]
    by_cases h3 : m = q
    · rw [if_pos h3, a1, Option.bind_some, c2, Option.bind_some, k1, Option.bind_some]
      by_cases h2 : q < r ∧ q < p
      · rw [if_pos h2, if_neg (by simp; omega)]; rfl
      · rw [if_neg h2, if_neg (show ¬ (r < p ∧ r < q) by omega), if_pos (by simp; omega)]
    · rw [if_neg h3, if_pos (show m = r by omega), a2, Option.bind_some, c3, Option.bind_some, k0, Option.bind_some, if_neg (show ¬ (q < r ∧ q < p) by omega), if_pos (show r < p ∧ r < q by omega)]
      rfl
theorem tail_ref (p q r : Int) : ((rangeN (S := Unit) (X := Ctl (Unit) (Int × Int)) (fun ik1 _ =>
        (idx ([p, q, r] : List Int) (ik1 : Int)).bind (fun x11 => (addI (ik1 : Int) 1).bind (fun t5 => (remI t5 3).bind (fun t6 => (idx ([p, q, r] : List Int) t6).bind (fun x12 =>
        ((if (decide (x11 < x12)) = true then (addI (ik1 : Int) 2).bind (fun t7 => (remI t7 3).bind (fun t8 => (idx ([p, q, r] : List Int) t8).bind (fun x13 => some (decide (x11 < x13))))) else some false) : Option Bool).bind (fun b3 =>
        (if b3 = true then some (Step.done (Ctl.ret ((ik1 : Int), 0))) else some (Step.cont ())))))))) (fun _ => Ctl.next ()) (Int.toNat ((([p, q, r] : List Int).length : Nat) : Int)) 0 ()) : Option (Ctl (Unit) (Int × Int))).bind (fun o => match o with
      | .next _ => some (0, 8)
      | .ret r => some r
      | .exit _ _ => none) = some (oddOf p q r) := by
  have t3 : Int.toNat ((([p, q, r] : List Int).length : Nat) : Int) = 3 := rfl
  have i0 : idx ([p, q, r] : List Int) 0 = some p := rfl
  have i1 : idx ([p, q, r] : List Int) (0 + 1) = some q := rfl
  have i2 : idx ([p, q, r] : List Int) (0 + 1 + 1) = some r := rfl
  have j1 : idx ([p, q, r] : List Int) 1 = some q := rfl
  have j2 : idx ([p, q, r] : List Int) 2 = some r := rfl
  have a01 : addI 0 1 = some 1 := rfl
  have a02 : addI 0 2 = some 2 := rfl
  have a11 : addI (0 + 1) 1 = some 2 := rfl
  have a12 : addI (0 + 1) 2 = some 3 := rfl
  have a21 : addI (0 + 1 + 1) 1 = some 3 := rfl
  have a22 : addI (0 + 1 + 1) 2 = some 4 := rfl
  have r1 : remI 1 3 = some 1 := rfl
  have r2 : remI 2 3 = some 2 := rfl
  have r3 : remI 3 3 = some 0 := rfl
  have r4 : remI 4 3 = some 1 := rfl
  rw [t3]
  simp only [rangeN, i0, i1, i2, j1, j2, a01, a02, a11, a12, a21, a22, r1, r2, r3, r4, Option.bind_some]
  unfold oddOf
  by_cases h1 : p < q
  · by_cases h2 : p < r
    · simp [h1, h2]
    · have e1 : ¬ q < p := by omega
      by_cases h3 : r < p
      · have e2 : r < q := by omega
        have e3 : ¬ q < r := by omega
        simp [h1, h2, e1, h3, e2, e3]
      · have e4 : q < r ∨ ¬ q < r := by omega
        rcases e4 with e4 | e4 <;> simp [h1, h2, e1, h3, e4]
  · by_cases h2 : q < r
    · by_cases h3 : q < p
      · simp [h1, h2, h3]
      · have e1 : ¬ r < p := by omega
        simp [h1, h2, h3, e1]
    · by_cases h4 : r < p
      · by_cases h5 : r < q
        · simp [h1, h2, h4, h5]
        · simp [h1, h2, h4, h5]
      · simp [h1, h2, h4]
def oddS (l : List GBox) : Int × Int := if vBs l = true then (match l with
  | [a, b, c] => if a.Errors.length = b.Errors.length ∧ a.Errors.length = c.Errors.length then oddOf (playS b c) (playS a c) (playS a b) else (0, 7)
  | _ => (0, 7)) else (0, 1)
theorem three {α : Type} (l : List α) : (∃ a b c, l = [a, b, c]) ∨ l.length ≠ 3 := by
  match l with
  | [] => exact .inr (by simp)
  | [_] => exact .inr (by simp)
  | [_, _] => exact .inr (by simp)
  | [a, b, c] => exact .inl ⟨a, b, c, rfl⟩
  | _ :: _ :: _ :: _ :: _ => exact .inr (by simp)
theorem oddS_ne {l : List GBox} (hv : vBs l = true) (h : l.length ≠ 3) : oddS l = (0, 7) := by
  unfold oddS
  rw [if_pos hv]
  match l, h with
  | [], _ => rfl
  | [_], _ => rfl
  | [_, _], _ => rfl
  | [_, _, _], h => exact absurd rfl h
  | _ :: _ :: _ :: _ :: _, _ => rfl
theorem Odd_eq (l : List GBox) (h : ∀ x ∈ l, x.Name.size ≤ 1000) : rate_Odd l = some (oddS l) := by
  unfold rate_Odd
  rw [ValidBoxes_eq l h, Option.bind_some]
  cases hv : vBs l with
  | false => unfold oddS; rw [hv]; rfl
  | true =>
    simp only [Bool.not_true, Bool.false_eq_true, if_false]
    rcases three l with ⟨a, b, c, rfl⟩ | hne
    · have va := vBs_box hv a (by simp)
      have vb := vBs_box hv b (by simp)
      have vc := vBs_box hv c (by simp)
      have l3 : ((([a, b, c].length : Nat) : Int) != 3) = false := rfl
      have i0 : idx [a, b, c] 0 = some a := rfl
      have i1 : idx [a, b, c] 1 = some b := rfl
      have i2 : idx [a, b, c] 2 = some c := rfl
      have i1' : idx [a, b, c] (0 + 1) = some b := rfl
      have i2' : idx [a, b, c] (0 + 1 + 1) = some c := rfl
      have hc : ∀ x, rate_Odd_c1 x [a, b, c] = some (((x.Errors.length : Nat) : Int) != ((a.Errors.length : Nat) : Int)) := fun x => rfl
      have t3 : Int.toNat ((([a, b, c].length : Nat)) : Int) = 3 := rfl
      have hcf : slices_ContainsFunc_Box [a, b, c] (fun x0 => rate_Odd_c1 x0 [a, b, c]) = some (!decide (a.Errors.length = b.Errors.length ∧ a.Errors.length = c.Errors.length)) := by
        unfold slices_ContainsFunc_Box slices_IndexFunc_Box
        rw [t3]
        simp only [rangeN, i0, i1', i2', hc, mk_eta, Option.bind_some, bne_self_eq_false, Bool.false_eq_true, if_false]
        by_cases h1 : a.Errors.length = b.Errors.length
        · by_cases h2 : a.Errors.length = c.Errors.length
          · simp [h1.symm, h2.symm]
          · have e1 : ((((b.Errors.length : Nat) : Int)) != ((a.Errors.length : Nat) : Int)) = false := by simp [h1]
            have e2 : ((((c.Errors.length : Nat) : Int)) != ((a.Errors.length : Nat) : Int)) = true := by simp; omega
            simp [e1, e2, h2]
        · have e1 : ((((b.Errors.length : Nat) : Int)) != ((a.Errors.length : Nat) : Int)) = true := by simp; omega
          simp [e1, h1]
      simp only [l3, hcf, Bool.false_eq_true, if_false, Option.bind_some]
      unfold oddS
      rw [if_pos hv]
      simp only
      by_cases hs : a.Errors.length = b.Errors.length ∧ a.Errors.length = c.Errors.length
      · rw [if_pos hs, if_neg (by rw [decide_eq_true hs]; simp)]
        simp only [i0, i1, i2, mk_eta, Option.bind_some, play_eq vb vc (hs.1.symm.trans hs.2), play_eq va vc hs.2, play_eq va vb hs.1]
        exact tail_rate _ _ _
      · rw [if_neg hs, if_pos (by rw [decide_eq_false hs]; rfl)]
    · rw [oddS_ne hv hne]
      have l3 : (((l.length : Nat) : Int) != 3) = true := by simp; omega
      simp [l3]
theorem rOdd_eq (l : List GBox) (h : ∀ x ∈ l, x.Name.size ≤ 1000) : noongunref06_Odd l = some (oddS l) := by
  unfold noongunref06_Odd
  rw [rValidBoxes_eq l h, Option.bind_some]
  cases hv : vBs l with
  | false => unfold oddS; rw [hv]; rfl
  | true =>
    simp only [Bool.not_true, Bool.false_eq_true, if_false]
    rcases three l with ⟨a, b, c, rfl⟩ | hne
    · have va := vBs_box hv a (by simp)
      have vb := vBs_box hv b (by simp)
      have vc := vBs_box hv c (by simp)
      have l3 : ((([a, b, c].length : Nat) : Int) != 3) = false := rfl
      have i0 : idx [a, b, c] 0 = some a := rfl
      have i1 : idx [a, b, c] 1 = some b := rfl
      have i2 : idx [a, b, c] 2 = some c := rfl
      simp only [l3, i0, i1, i2, Bool.false_eq_true, if_false, Option.bind_some]
      unfold oddS
      rw [if_pos hv]
      simp only
      by_cases h1 : a.Errors.length = b.Errors.length
      · have e1 : ((((a.Errors.length : Nat) : Int)) != ((b.Errors.length : Nat) : Int)) = false := by simp [h1]
        by_cases h2 : a.Errors.length = c.Errors.length
        · have e2 : ((((a.Errors.length : Nat) : Int)) != ((c.Errors.length : Nat) : Int)) = false := by simp [h2]
          simp only [e1, e2, Bool.false_eq_true, if_false]
          rw [if_pos ⟨h1, h2⟩]
          simp only [mk_eta, Option.bind_some, rplay_eq vb vc (h1.symm.trans h2), rplay_eq va vc h2, rplay_eq va vb h1]
          exact tail_ref _ _ _
        · have e2 : ((((a.Errors.length : Nat) : Int)) != ((c.Errors.length : Nat) : Int)) = true := by simp; omega
          simp only [e1, e2, Bool.false_eq_true, if_false]
          rw [if_neg (by simp [h2])]
          rfl
      · have e1 : ((((a.Errors.length : Nat) : Int)) != ((b.Errors.length : Nat) : Int)) = true := by simp; omega
        simp only [e1, if_true, Option.bind_some]
        rw [if_neg (by simp [h1])]
    · rw [oddS_ne hv hne]
      have l3 : (((l.length : Nat) : Int) != 3) = true := by simp; omega
      simp [l3]
theorem Arc_eq (x : Int) : ∃ r, rate_Arc x = some r ∧ noongunref06_Arc x = some r := by
  unfold rate_Arc noongunref06_Arc
  rw [within_eq]
  by_cases h : -1000000000000 ≤ x ∧ x ≤ 1000000000000
  · have e1 : inB (-1000000000000) 1000000000000 x = true := inB_iff.2 h
    have e2 : (decide (x < -1000000000000) || decide (1000000000000 < x)) = false := by rw [Bool.or_eq_false_iff]; simp; omega
    obtain ⟨m, hm⟩ : ∃ m, m = max x (negW x) := ⟨_, rfl⟩
    rw [negW_ok (by omega)] at hm
    have hmb : 0 ≤ m ∧ m ≤ 1000000000000 := by omega
    have ha : noongunref06_Abs x = some m := by
      unfold noongunref06_Abs
      by_cases h0 : x < 0
      · rw [if_pos (decide_eq_true h0), negW_ok (by omega)]; congr 1; omega
      · rw [if_neg (by simpa using h0)]; congr 1; omega
    rw [e2, ha, negW_ok (by omega), ← hm]
    simp only [Option.bind_some, e1, Bool.not_true, Bool.false_eq_true, if_false]
    have hq : -9223372036854775808 ≤ (15 * m).tdiv 1000 ∧ (15 * m).tdiv 1000 ≤ 9223372036854775807 := by
      rw [Int.tdiv_eq_ediv_of_nonneg (by omega)]; omega
    rw [mulI_ok (by omega), Option.bind_some, quoI_ok (by omega) hq, Option.bind_some, remI_ok (by omega), Option.bind_some]
    exact ⟨_, rfl, rfl⟩
  · have e1 : inB (-1000000000000) 1000000000000 x = false := by rw [Bool.eq_false_iff, ne_eq, inB_iff]; exact h
    have e2 : (decide (x < -1000000000000) || decide (1000000000000 < x)) = true := by rw [Bool.or_eq_true]; simp; omega
    rw [e2]
    simp only [Option.bind_some, e1, Bool.not_false, if_true]
    exact ⟨_, rfl, rfl⟩
theorem days_loop (d x : Int) (hd : 0 ≤ d ∧ d ≤ 2000000) : ∀ (k : Nat) (i : Int), 0 ≤ i → i + k ≤ 401 → ∃ o, rangeN (S := Unit) (X := Ctl (Unit) (Int × Int)) (fun ik1 _ => (mulI (ik1 : Int) d).bind (fun t6 => (if (decide (x < t6)) = true then some (Step.done (Ctl.ret ((ik1 : Int), 0))) else some (Step.cont ())))) (fun _ => Ctl.next ()) k i () = some o ∧ (o = .next () ∨ ∃ r, o = .ret r)
  | 0, i, _, _ => ⟨_, rfl, .inl rfl⟩
  | k + 1, i, h1, h2 => by
    have hm1 : 0 ≤ i * d := Int.mul_nonneg h1 hd.1
    have hm2 : i * d ≤ 401 * 2000000 := Int.mul_le_mul (by omega) hd.2 hd.1 (by omega)
    rw [rangeN, mulI_ok (by omega), Option.bind_some]
    by_cases h : x < i * d
    · exact ⟨.ret (i, 0), by simp [h], .inr ⟨_, rfl⟩⟩
    · obtain ⟨o, h3, h4⟩ := days_loop d x hd k (i + 1) (by omega) (by omega)
      refine ⟨o, ?_, h4⟩
      simp only [h, decide_false, Bool.false_eq_true, if_false, Option.bind_some]
      exact h3
theorem Days_eq (s : GSpan) (x : Int) : ∃ r, rate_Days s x = some r ∧ noongunref06_Days s x = some r := by
  unfold rate_Days noongunref06_Days span_ValidSpan
  simp only [within_eq, Option.bind_some]
  by_cases h : (-1000000000000 ≤ s.Lo ∧ s.Lo ≤ s.Hi) ∧ s.Hi ≤ 1000000000000
  · have e1 : ((decide ((-1000000000000) ≤ s.Lo) && decide (s.Lo ≤ s.Hi)) && decide (s.Hi ≤ 1000000000000)) = true := by simp only [Bool.and_eq_true, decide_eq_true_eq]; exact h
    have e2 : (((decide (s.Hi < s.Lo)) || (decide (s.Lo < (-1000000000000)))) || (decide (1000000000000 < s.Hi))) = false := by simp only [Bool.or_eq_false_iff, decide_eq_false_iff_not]; omega
    simp only [e1, e2, Bool.not_true, Bool.false_eq_true, if_false]
    by_cases h2 : (-1000000 ≤ s.Lo ∧ s.Hi ≤ 1000000) ∧ 0 ≤ x ∧ x ≤ 1000000000
    · have f1 : inB (-1000000) 1000000 s.Lo = true := inB_iff.2 (by omega)
      have f2 : inB (-1000000) 1000000 s.Hi = true := inB_iff.2 (by omega)
      have f3 : inB 0 1000000000 x = true := inB_iff.2 (by omega)
      have f4 : ((((decide (s.Lo < (-1000000))) || (decide (1000000 < s.Hi))) || (decide (x < 0))) || (decide (1000000000 < x))) = false := by simp only [Bool.or_eq_false_iff, decide_eq_false_iff_not]; omega
      have hsub : subI s.Hi s.Lo = some (s.Hi - s.Lo) := subI_ok (by omega)
      simp only [f1, f2, f3, f4, Bool.not_true, Bool.false_eq_true, if_false, Option.bind_some, hsub]
      obtain ⟨o, h3, h4⟩ := days_loop (s.Hi - s.Lo) x (by omega) (Int.toNat 401) 0 (by omega) (by decide)
      rw [h3]
      rcases h4 with rfl | ⟨r, rfl⟩
      · exact ⟨_, rfl, rfl⟩
      · exact ⟨_, rfl, rfl⟩
    · have f4 : ((((decide (s.Lo < (-1000000))) || (decide (1000000 < s.Hi))) || (decide (x < 0))) || (decide (1000000000 < x))) = true := by simp only [Bool.or_eq_true, decide_eq_true_eq]; omega
      rw [f4]
      have f5 : (inB (-1000000) 1000000 s.Lo && inB (-1000000) 1000000 s.Hi && inB 0 1000000000 x) = false := by
        rw [Bool.eq_false_iff]
        simp only [ne_eq, Bool.and_eq_true, inB_iff]
        omega
      refine ⟨(0, 7), ?_, rfl⟩
      cases g1 : inB (-1000000) 1000000 s.Lo with
      | false => simp
      | true =>
        cases g2 : inB (-1000000) 1000000 s.Hi with
        | false => simp
        | true =>
          cases g3 : inB 0 1000000000 x with
          | false => simp
          | true => rw [g1, g2, g3] at f5; simp at f5
  · have e1 : ((decide ((-1000000000000) ≤ s.Lo) && decide (s.Lo ≤ s.Hi)) && decide (s.Hi ≤ 1000000000000)) = false := by rw [Bool.eq_false_iff]; simp only [ne_eq, Bool.and_eq_true, decide_eq_true_eq]; exact h
    have e2 : (((decide (s.Hi < s.Lo)) || (decide (s.Lo < (-1000000000000)))) || (decide (1000000000000 < s.Hi))) = true := by simp only [Bool.or_eq_true, decide_eq_true_eq]; omega
    rw [e1, e2]
    exact ⟨_, rfl, rfl⟩
theorem law_noongunlaw06_RateOdd (a0 : (List GBox)) (_ : ∀ a ∈ a0, okGBox a) (_ : a0.length ≤ maxLen) (a1 : Int) (_ : inI a1 = true) (a2 : GSpan) (_ : okGSpan a2) (a3 : Int) (_ : inI a3 = true) : noongunlaw06_RateOdd a0 a1 a2 a3 = some true := by
  unfold noongunlaw06_RateOdd
  rw [fits_eq, Option.bind_some]
  cases hf : (a0.all fitBx && decide (((a0.length : Nat) : Int) ≤ 20)) with
  | false => simp [awake_eq]
  | true =>
    rw [Bool.and_eq_true] at hf
    have hn := fits_name hf.1
    obtain ⟨r1, p1, p2⟩ := Arc_eq a1
    obtain ⟨r2, q1, q2⟩ := Days_eq a2 a3
    simp [Odd_eq a0 hn, rOdd_eq a0 hn, p1, p2, q1, q2, awake_eq]
end Go.Fw
