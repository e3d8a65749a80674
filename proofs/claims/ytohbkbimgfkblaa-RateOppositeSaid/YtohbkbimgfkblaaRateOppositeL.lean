/-
  RateOpposite's plain law: the model returns true. No program in it.
-/
import Derived.Test.YtohbkbimgfkblaaLib
namespace Go.Fw
theorem inB_negW (x : Int) (hx : inI x = true) : inB (-86400000) 86400000 (negW x) = inB (-86400000) 86400000 x := by
  rw [inI_iff] at hx
  by_cases h : x = -9223372036854775808
  · subst h; rw [negW_min]
  · rw [negW_ok (by omega), Bool.eq_iff_iff, inB_iff, inB_iff]; omega
theorem getD_neg (l : List Int) (i : Nat) : (l.map (fun x => -x)).getD i 0 = -(l.getD i 0) := by
  rw [List.getD_eq_getElem?_getD, List.getD_eq_getElem?_getD, List.getElem?_map]
  cases l[i]? <;> simp
theorem dl_neg (k : Nat) (l : List Int) : dl k (l.map fun x => -x) = (dl k l).map fun x => -x := by
  unfold dl
  rw [List.length_map, List.map_map]
  refine List.map_congr_left fun j _ => ?_
  simp only [getD_neg, Function.comp]
  omega
theorem fold_negmin : ∀ (t : List Int) (x : Int), (t.map fun x => -x).foldl min (-x) = -(t.foldl max x)
  | [], _ => rfl
  | y :: t, x => by
    simp only [List.map_cons, List.foldl_cons]
    rw [show min (-x) (-y) = -(max x y) by omega]
    exact fold_negmin t _
theorem fold_negmax : ∀ (t : List Int) (x : Int), (t.map fun x => -x).foldl max (-x) = -(t.foldl min x)
  | [], _ => rfl
  | y :: t, x => by
    simp only [List.map_cons, List.foldl_cons]
    rw [show max (-x) (-y) = -(min x y) by omega]
    exact fold_negmax t _
theorem loS_neg (l : List Int) : loS (l.map fun x => -x) = -(hiS l) := by
  cases l with
  | nil => rfl
  | cons x t => exact fold_negmin t x
theorem hiS_neg (l : List Int) : hiS (l.map fun x => -x) = -(loS l) := by
  cases l with
  | nil => rfl
  | cons x t => exact fold_negmax t x
theorem fold_leap : ∀ (t : List Int) (x : Int), (t.map fun x => -x).foldl (fun z x => max (max z x) (-x)) x = t.foldl (fun z x => max (max z x) (-x)) x
  | [], _ => rfl
  | y :: t, x => by
    simp only [List.map_cons, List.foldl_cons]
    rw [show max (max x (-y)) (- -y) = max (max x y) (-y) by omega]
    exact fold_leap t _
theorem leapS_neg (l : List Int) : leapS (l.map fun x => -x) = leapS l := by
  unfold leapS
  rw [dl_neg]
  exact fold_leap _ 0
theorem law_noongunlaw06_RateOpposite (a0 : GBox) (ok0 : okGBox a0) : noongunlaw06_RateOpposite a0 = some true := by
  unfold noongunlaw06_RateOpposite
  simp only [mk_eta, fit_one, Option.bind_some, awake_eq]
  cases hf : fitB a0 with
  | false => rfl
  | true =>
    have hlen := fit_len hf
    have hn : a0.Name.size ≤ 1000 := by
      simp only [fitB, Bool.not_eq_true', Bool.or_eq_false_iff, decide_eq_false_iff_not] at hf
      omega
    simp only [Bool.not_true, Bool.false_eq_true, if_false]
    rw [rangeL_app (fun x : Int => ([negW x] : List Int)) a0.Errors 0 [] (by rw [flatMap_one, List.length_map]; simp; omega), flatMap_one, List.nil_append, Option.bind_some]
    have hv : vBox ⟨a0.Name, a0.Errors.map negW⟩ = vBox a0 := by
      unfold vBox
      simp only [List.length_map, List.all_map]
      congr 1
      rw [Bool.eq_iff_iff, List.all_eq_true, List.all_eq_true]
      exact ⟨fun h x hx => by rw [← inB_negW x (ok0.2.2 x hx)]; exact h x hx, fun h x hx => by show inB _ _ (negW x) = true; rw [inB_negW x (ok0.2.2 x hx)]; exact h x hx⟩
    rw [Trial_eq a0 hn, Option.bind_some, Trial_eq ⟨a0.Name, a0.Errors.map negW⟩ hn, Option.bind_some, ValidBox_eq a0 hn, Option.bind_some]
    unfold trialS
    rw [hv]
    cases hvb : vBox a0 with
    | false => rfl
    | true =>
      have hm : a0.Errors.map negW = a0.Errors.map fun x => -x := List.map_congr_left fun x hx => negW_ok (by have := vB_errors hvb x hx; omega)
      rw [hm, dl_neg, List.length_map, loS_neg, hiS_neg, leapS_neg]
      simp only [if_true, Bool.not_true, Bool.false_eq_true, if_false]
      by_cases h2 : (dl 7 a0.Errors).length < 2
      · simp only [h2, if_true]; rfl
      · have hb := dl7_bd hvb
        have hlo := loS_bd (B := 172800000) (by omega) _ hb
        have hhi := hiS_bd (B := 172800000) (by omega) _ hb
        simp only [h2, if_false]
        rw [negW_ok (by omega), negW_ok (by omega)]
        have e1 : hiS (dl 7 a0.Errors) - loS (dl 7 a0.Errors) + 2 * leapS (dl 7 a0.Errors) = -(loS (dl 7 a0.Errors)) - -(hiS (dl 7 a0.Errors)) + 2 * leapS (dl 7 a0.Errors) := by omega
        rw [← e1]
        simp
end Go.Fw
