/-
  RateShifted's plain law: the model returns true. No program in it.
-/
import Derived.Test.YtohbkbimgfkblaaLib
namespace Go.Fw
/-- The box's errors, shifted: all by a, and by d more a day. -/
def shiftL (l : List Int) (a d : Int) : List Int := l.mapIdx fun i x => x + a + d * (i : Int)
theorem shift_loop (l : List Int) (a d : Int) (hl : l.length ≤ 1000) (hx : ∀ x ∈ l, -86400000 ≤ x ∧ x ≤ 86400000) (ha : -86400000 ≤ a ∧ a ≤ 86400000) (hd : -1000000 ≤ d ∧ d ≤ 1000000) (body : Int → List Int → Option (Step (List Int) (List Int)))
    (hb : ∀ i z, body i z = (idx l i).bind fun x => (addI x a).bind fun t => (mulI d i).bind fun u => (addI t u).bind fun s => (appI z [s]).bind fun r => some (.cont r)) :
    rangeN body (fun z => z) (Int.toNat ((l.length : Nat) : Int)) 0 [] = some (shiftL l a d) := by
  obtain ⟨s, h1, h2⟩ := rangeN_inv (body := body) (fin := fun z => z) (fun i z => z = (shiftL l a d).take i) l.length [] (fun i z hi hz => by
    subst hz
    have e : l[i]? = some l[i] := List.getElem?_eq_getElem hi
    have hxi := hx _ (List.getElem_mem hi)
    have hdi : -1000000000 ≤ d * (i : Int) ∧ d * (i : Int) ≤ 1000000000 := by
      have h0 : (0 : Int) ≤ (i : Int) := by omega
      have h1 : (i : Int) ≤ 1000 := by omega
      have h3 : d * (i : Int) ≤ 1000000 * (i : Int) := Int.mul_le_mul_of_nonneg_right hd.2 h0
      have h4 : -1000000 * (i : Int) ≤ d * (i : Int) := Int.mul_le_mul_of_nonneg_right hd.1 h0
      omega
    have hlen : (shiftL l a d).length = l.length := by simp [shiftL]
    have hsi : (shiftL l a d)[i]? = some (l[i] + a + d * (i : Int)) := by simp [shiftL, List.getElem?_mapIdx, e]
    refine ⟨_, ?_, rfl⟩
    rw [hb, idx_at e, Option.bind_some, addI_ok (by omega), Option.bind_some, mulI_ok (by omega), Option.bind_some, addI_ok (by omega), Option.bind_some, appI_ok (by rw [List.length_take]; simp; omega), Option.bind_some]
    rw [List.take_add_one, hsi]; rfl) rfl
  rw [Int.toNat_natCast, h1, h2, List.take_of_length_le (by simp [shiftL])]
theorem shiftL_len (l : List Int) (a d : Int) : (shiftL l a d).length = l.length := by simp [shiftL]
theorem shiftL_getD (l : List Int) (a d : Int) (i : Nat) (h : i < l.length) : (shiftL l a d).getD i 0 = l.getD i 0 + a + d * (i : Int) := by
  have e : l[i]? = some l[i] := List.getElem?_eq_getElem h
  rw [List.getD_eq_getElem?_getD, List.getD_eq_getElem?_getD, e]
  simp [shiftL, List.getElem?_mapIdx, e]
theorem dl_shift (k : Nat) (hk : 0 < k) (l : List Int) (a d : Int) : dl k (shiftL l a d) = (dl k l).map (· + d * (k : Int)) := by
  unfold dl
  rw [shiftL_len, List.map_map]
  refine List.map_congr_left fun j hj => ?_
  have hj := List.mem_range.1 hj
  have h1 : (j + 1) * k ≤ l.length - 1 := (Nat.le_div_iff_mul_le hk).1 hj
  have h3 : 1 ≤ (j + 1) * k := Nat.mul_pos (Nat.succ_pos j) hk
  have hs : (j + 1) * k = j * k + k := Nat.succ_mul j k
  rw [shiftL_getD _ _ _ _ (by omega), shiftL_getD _ _ _ _ (by omega)]
  show _ = l.getD ((j + 1) * k) 0 - l.getD (j * k) 0 + d * (k : Int)
  rw [hs]
  have : d * ((j * k + k : Nat) : Int) = d * ((j * k : Nat) : Int) + d * (k : Int) := by rw [← Int.mul_add]; congr 1
  omega
theorem dl_const (w : List Int) (c : Int) : dl 1 (w.map (· + c)) = dl 1 w := by
  unfold dl
  rw [List.length_map]
  refine List.map_congr_left fun j hj => ?_
  have hj := List.mem_range.1 hj
  have g : ∀ i, i < w.length → (w.map (· + c)).getD i 0 = w.getD i 0 + c := by
    intro i hi
    have e : w[i]? = some w[i] := List.getElem?_eq_getElem hi
    rw [List.getD_eq_getElem?_getD, List.getD_eq_getElem?_getD, List.getElem?_map, e]; rfl
  rw [Nat.div_one] at hj
  rw [g _ (by omega), g _ (by omega)]
  omega
theorem fold_addmin (c : Int) : ∀ (t : List Int) (x : Int), (t.map (· + c)).foldl min (x + c) = t.foldl min x + c
  | [], _ => rfl
  | y :: t, x => by
    simp only [List.map_cons, List.foldl_cons]
    rw [show min (x + c) (y + c) = min x y + c by omega]
    exact fold_addmin c t _
theorem fold_addmax (c : Int) : ∀ (t : List Int) (x : Int), (t.map (· + c)).foldl max (x + c) = t.foldl max x + c
  | [], _ => rfl
  | y :: t, x => by
    simp only [List.map_cons, List.foldl_cons]
    rw [show max (x + c) (y + c) = max x y + c by omega]
    exact fold_addmax c t _
theorem loS_add (w : List Int) (c : Int) (h : w ≠ []) : loS (w.map (· + c)) = loS w + c := by
  cases w with
  | nil => exact absurd rfl h
  | cons x t => exact fold_addmin c t x
theorem hiS_add (w : List Int) (c : Int) (h : w ≠ []) : hiS (w.map (· + c)) = hiS w + c := by
  cases w with
  | nil => exact absurd rfl h
  | cons x t => exact fold_addmax c t x
theorem sameInts_eq (a b : List Int) : noongunref06_SameInts a b = some (decide (a = b)) := by
  unfold noongunref06_SameInts
  exact same_fun (fun x y => x != y) (fun x y => by cases h : decide (x = y) <;> simp_all) a b
theorem sameBox_eq (a b : GBox) : noongunref06_SameBox a b = some (decide (a = b)) := by
  unfold noongunref06_SameBox
  rw [sameInts_eq]
  obtain ⟨n, e⟩ := a
  obtain ⟨n', e'⟩ := b
  by_cases h : n = n' <;> by_cases h2 : e = e' <;> simp [h, h2]
def zeroBox : GBox := ⟨ByteArray.empty, []⟩
def badShift (a d : Int) : Bool := !inB (-86400000) 86400000 a || !inB (-1000000) 1000000 d
def shiftS (b : GBox) (a d : Int) : GBox × Int := if vBox b = true then (if badShift a d = true then (zeroBox, 7) else if vBox ⟨b.Name, shiftL b.Errors a d⟩ = true then (⟨b.Name, shiftL b.Errors a d⟩, 0) else (zeroBox, 4)) else (zeroBox, 1)
theorem Shifted_eq (b : GBox) (a d : Int) (h : b.Name.size ≤ 1000) : rate_Shifted b a d = some (shiftS b a d) := by
  unfold rate_Shifted shiftS
  simp only [mk_eta, ValidBox_eq _ h, Option.bind_some, far_eq, within_eq]
  cases hv : vBox b with
  | false => rfl
  | true =>
    have hl := vB_len hv
    have hbs : (if (!inB (-86400000) 86400000 a) = true then some true else some (!inB (-1000000) 1000000 d)) = some (badShift a d) := by
      unfold badShift
      cases inB (-86400000) 86400000 a <;> rfl
    simp only [Bool.not_true, Bool.false_eq_true, if_false, if_true]
    rw [hbs, Option.bind_some]
    cases hb : badShift a d with
    | true => rfl
    | false =>
      simp only [badShift, Bool.or_eq_false_iff, Bool.not_eq_false', inB_iff] at hb
      rw [if_neg (by simp), if_neg (by simp), shift_loop b.Errors a d (by omega) (vB_errors hv) hb.1 hb.2 _ (fun _ _ => rfl), Option.bind_some]
      unfold rate_told
      rw [ValidBox_eq ⟨b.Name, shiftL b.Errors a d⟩ h, Option.bind_some]
      cases vBox ⟨b.Name, shiftL b.Errors a d⟩ <;> rfl
theorem rShifted_eq (b : GBox) (a d : Int) (h : b.Name.size ≤ 1000) : noongunref06_Shifted b a d = some (shiftS b a d) := by
  unfold noongunref06_Shifted shiftS
  simp only [mk_eta, rValidBox_eq _ h, Option.bind_some]
  cases hv : vBox b with
  | false => rfl
  | true =>
    have hl := vB_len hv
    have hbs : ((((decide (a < (-86400000))) || (decide (86400000 < a))) || (decide (d < (-1000000)))) || (decide (1000000 < d))) = badShift a d := by
      unfold badShift inB
      rw [Bool.eq_iff_iff]; simp; omega
    simp only [Bool.not_true, Bool.false_eq_true, if_false, if_true]
    rw [hbs]
    cases hb : badShift a d with
    | true => rfl
    | false =>
      simp only [badShift, Bool.or_eq_false_iff, Bool.not_eq_false', inB_iff] at hb
      rw [if_neg (by simp), if_neg (by simp), shift_loop b.Errors a d (by omega) (vB_errors hv) hb.1 hb.2 _ (fun _ _ => rfl), Option.bind_some, rValidBox_eq ⟨b.Name, shiftL b.Errors a d⟩ h, Option.bind_some]
      cases vBox ⟨b.Name, shiftL b.Errors a d⟩ <;> rfl
theorem law_noongunlaw06_RateShifted (a0 : GBox) (_ok0 : okGBox a0) (a1 : Int) (_ok1 : inI a1 = true) (a2 : Int) (_ok2 : inI a2 = true) : noongunlaw06_RateShifted a0 a1 a2 = some true := by
  unfold noongunlaw06_RateShifted
  simp only [mk_eta, fit_one, Option.bind_some, awake_eq]
  cases hf : fitB a0 with
  | false => rfl
  | true =>
    have hn : a0.Name.size ≤ 1000 := by
      simp only [fitB, Bool.not_eq_true', Bool.or_eq_false_iff, decide_eq_false_iff_not] at hf
      omega
    simp only [Bool.not_true, Bool.false_eq_true, if_false]
    rw [Shifted_eq _ _ _ hn, Option.bind_some, rShifted_eq _ _ _ hn, Option.bind_some]
    unfold shiftS
    cases hv : vBox a0 with
    | false => simp [sameBox_eq]
    | true =>
      cases hb : badShift a1 a2 with
      | true => simp [sameBox_eq]
      | false =>
        cases hv2 : vBox ⟨a0.Name, shiftL a0.Errors a1 a2⟩ with
        | false => simp [sameBox_eq]
        | true =>
          simp only [badShift, Bool.or_eq_false_iff, Bool.not_eq_false', inB_iff] at hb
          simp only [if_true, Bool.false_eq_true, if_false, sameBox_eq, decide_true, Option.bind_some, Bool.not_true, bne_self_eq_false, Bool.or_false]
          rw [Trial_eq a0 hn, Option.bind_some, Trial_eq ⟨a0.Name, shiftL a0.Errors a1 a2⟩ hn, Option.bind_some]
          unfold trialS
          rw [hv, hv2]
          simp only [if_true]
          have hdl : dl 7 (shiftL a0.Errors a1 a2) = (dl 7 a0.Errors).map (· + a2 * 7) := dl_shift 7 (by omega) _ _ _
          rw [hdl, List.length_map]
          by_cases h2 : (dl 7 a0.Errors).length < 2
          · simp only [h2, if_true]; rfl
          · have hne : dl 7 a0.Errors ≠ [] := fun e => h2 (by rw [e]; simp)
            have hlb := loS_bd (B := 172800000) (by omega) _ (dl7_bd hv)
            have hhb := hiS_bd (B := 172800000) (by omega) _ (dl7_bd hv)
            have hlp : leapS ((dl 7 a0.Errors).map (· + a2 * 7)) = leapS (dl 7 a0.Errors) := by unfold leapS; rw [dl_const]
            simp only [h2, if_false, loS_add _ _ hne, hiS_add _ _ hne, hlp]
            rw [mulI_ok (by omega)]
            simp only [Option.bind_some]
            rw [addI_ok (by omega), addI_ok (by omega)]
            have e1 : hiS (dl 7 a0.Errors) + a2 * 7 - (loS (dl 7 a0.Errors) + a2 * 7) + 2 * leapS (dl 7 a0.Errors) = hiS (dl 7 a0.Errors) - loS (dl 7 a0.Errors) + 2 * leapS (dl 7 a0.Errors) := by omega
            have e2 : a2 * 7 = 7 * a2 := by omega
            rw [e1, e2]
            simp
end Go.Fw
