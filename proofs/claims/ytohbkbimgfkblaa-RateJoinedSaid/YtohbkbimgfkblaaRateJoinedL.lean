/-
  RateJoined's plain law: the model returns true. No program in it.
-/
import Derived.Test.YtohbkbimgfkblaaRatesLib
namespace Go.Fw
/-- The errors of a, and those of b behind its first, moved so that b's first would be a's last. -/
def joinC (a b : List Int) : Int := a.getD (a.length - 1) 0 - b.getD 0 0
def joinL (a b : List Int) : List Int := a ++ (b.drop 1).map (· + joinC a b)
theorem joinL_get (a b : List Int) (ha : 1 ≤ a.length) (j : Nat) (hj : j < b.length) : (joinL a b).getD (a.length - 1 + j) 0 = b.getD j 0 + joinC a b := by
  unfold joinL
  cases j with
  | zero =>
    rw [List.getD_eq_getElem?_getD, Nat.add_zero, List.getElem?_append_left (by omega), ← List.getD_eq_getElem?_getD]
    unfold joinC; omega
  | succ j =>
    have e : b[j + 1]? = some b[j + 1] := List.getElem?_eq_getElem hj
    rw [List.getD_eq_getElem?_getD, List.getElem?_append_right (by omega), show a.length - 1 + (j + 1) - a.length = j by omega, List.getElem?_map, List.getElem?_drop, Nat.add_comm 1 j, e, List.getD_eq_getElem?_getD, e]
    rfl
theorem joinL_get0 (a b : List Int) (j : Nat) (hj : j < a.length) : (joinL a b).getD j 0 = a.getD j 0 := by
  unfold joinL
  rw [List.getD_eq_getElem?_getD, List.getElem?_append_left hj, ← List.getD_eq_getElem?_getD]
theorem joinL_len (a b : List Int) : (joinL a b).length = a.length + (b.length - 1) := by simp [joinL]
theorem dl_join (a b : List Int) (ha : 1 ≤ a.length) : dl 1 (joinL a b) = dl 1 a ++ dl 1 b := by
  unfold dl
  simp only [Nat.div_one, joinL_len, Nat.mul_one]
  rw [show a.length + (b.length - 1) - 1 = (a.length - 1) + (b.length - 1) by omega, List.range_add, List.map_append, List.map_map]
  congr 1
  · refine List.map_congr_left fun j hj => ?_
    have := List.mem_range.1 hj
    rw [joinL_get0 _ _ _ (by omega), joinL_get0 _ _ _ (by omega)]
  · refine List.map_congr_left fun j hj => ?_
    have := List.mem_range.1 hj
    show (joinL a b).getD (a.length - 1 + j + 1) 0 - (joinL a b).getD (a.length - 1 + j) 0 = _
    rw [Nat.add_assoc, joinL_get a b ha (j + 1) (by omega), joinL_get a b ha j (by omega)]
    omega
def joinedS (a b : GBox) : GBox × Int := if (vBox a && vBox b) = true then (if vBox ⟨a.Name, joinL a.Errors b.Errors⟩ = true then (⟨a.Name, joinL a.Errors b.Errors⟩, 0) else (zeroBox, 4)) else (zeroBox, 1)
theorem both {p q : Bool} : (if (!p) = true then some true else some (!q)) = some (!(p && q)) := by cases p <;> rfl
theorem Joined_eq (a b : GBox) (ha : a.Name.size ≤ 1000) (hb : b.Name.size ≤ 1000) : rate_Joined a b = some (joinedS a b) := by
  unfold rate_Joined joinedS
  simp only [mk_eta, ValidBox_eq _ ha, ValidBox_eq _ hb, Option.bind_some, both]
  cases hv : (vBox a && vBox b) with
  | false => rfl
  | true =>
    simp only [Bool.and_eq_true] at hv
    have la := vB_len hv.1
    have lb := vB_len hv.2
    have e1 : a.Errors[a.Errors.length - 1]? = some a.Errors[a.Errors.length - 1] := List.getElem?_eq_getElem (by omega)
    have e2 : b.Errors[0]? = some b.Errors[0] := List.getElem?_eq_getElem (by omega)
    have b1 := vB_errors hv.1 _ (List.getElem_mem (show a.Errors.length - 1 < a.Errors.length by omega))
    have b2 := vB_errors hv.2 _ (List.getElem_mem (show 0 < b.Errors.length by omega))
    have hc : joinC a.Errors b.Errors = a.Errors[a.Errors.length - 1] - b.Errors[0] := by unfold joinC; rw [List.getD_eq_getElem?_getD, e1, List.getD_eq_getElem?_getD, e2]; rfl
    have hcut : cutI b.Errors 1 ((b.Errors.length : Nat) : Int) = some (b.Errors.drop 1) := by
      unfold cutI
      rw [if_pos (by omega), Int.toNat_natCast, List.take_length]; rfl
    have i0 : idx b.Errors 0 = some b.Errors[0] := idx_at (i := 0) e2
    simp only [Bool.not_true, Bool.false_eq_true, if_false, if_true]
    unfold slices_Clone_int
    rw [appI_ok (by simp; omega)]
    simp only [Option.bind_some, List.nil_append]
    rw [subI_ok (by omega), Option.bind_some, show ((a.Errors.length : Nat) : Int) - 1 = ((a.Errors.length - 1 : Nat) : Int) by omega, idx_at e1, Option.bind_some, i0, Option.bind_some, subI_ok (by omega), Option.bind_some, hcut, Option.bind_some, ← hc]
    rw [rangeL_congr (body' := fun _ x z => (appI z [x + joinC a.Errors b.Errors]).bind fun t => some (Step.cont t)) (fin' := fun z => z) (fun _ => rfl) (b.Errors.drop 1) 0 a.Errors (fun i x s hx => by
      have := vB_errors hv.2 x (List.mem_of_mem_drop hx)
      rw [addI_ok (by omega), Option.bind_some]), rangeL_app (fun x : Int => ([x + joinC a.Errors b.Errors] : List Int)) _ 0 a.Errors (by rw [flatMap_one, List.length_map, List.length_drop]; omega), flatMap_one, Option.bind_some]
    unfold rate_told
    rw [ValidBox_eq ⟨a.Name, a.Errors ++ (b.Errors.drop 1).map fun x => x + joinC a.Errors b.Errors⟩ ha, Option.bind_some]
    show _ = some (if vBox ⟨a.Name, a.Errors ++ (b.Errors.drop 1).map fun x => x + joinC a.Errors b.Errors⟩ = true then (_, _) else (_, _))
    cases vBox ⟨a.Name, a.Errors ++ (b.Errors.drop 1).map fun x => x + joinC a.Errors b.Errors⟩ <;> rfl
theorem rJoined_eq (a b : GBox) (ha : a.Name.size ≤ 1000) (hb : b.Name.size ≤ 1000) : noongunref06_Joined a b = some (joinedS a b) := by
  unfold noongunref06_Joined joinedS
  simp only [mk_eta, rValidBox_eq _ ha, rValidBox_eq _ hb, Option.bind_some, both]
  cases hv : (vBox a && vBox b) with
  | false => rfl
  | true =>
    simp only [Bool.and_eq_true] at hv
    have la := vB_len hv.1
    have lb := vB_len hv.2
    have hbnd : ∀ (l : List Int), (∀ x ∈ l, -86400000 ≤ x ∧ x ≤ 86400000) → ∀ i, -86400000 ≤ l.getD i 0 ∧ l.getD i 0 ≤ 86400000 := by
      intro l hl i
      rw [List.getD_eq_getElem?_getD]
      cases h : l[i]? with
      | none => simp only [Option.getD_none]; omega
      | some x => exact hl x (List.mem_of_getElem? h)
    simp only [Bool.not_true, Bool.false_eq_true, if_false, if_true]
    rw [appI_ok (by simp; omega), Option.bind_some, List.nil_append, rates_eq b (vB_errors hv.2) lb.1 (by omega), Option.bind_some]
    obtain ⟨s, h1, h2⟩ := rangeL_inv (S := List Int) (X := List Int) (fin := fun z2 => z2) (body := fun _ yk1 z2 =>
      (subI ((z2.length : Nat) : Int) 1).bind (fun t5 =>
      (idx z2 t5).bind (fun x1 =>
      (addI x1 yk1).bind (fun t6 =>
      (appI z2 ([t6] : List Int)).bind (fun t7 =>
      some (Step.cont t7)))))) (fun j z => z = (joinL a.Errors b.Errors).take (a.Errors.length + j)) (dl 1 b.Errors) a.Errors (by
        rintro j y z hy rfl
        have hj : j + 1 < b.Errors.length := by
          have := (List.getElem?_eq_some_iff.1 hy).1
          rw [dl1_len] at this; omega
        rw [dl1_get _ _ hj] at hy
        obtain rfl := Option.some.inj hy
        have hjl := joinL_len a.Errors b.Errors
        have hlen : ((joinL a.Errors b.Errors).take (a.Errors.length + j)).length = a.Errors.length + j := by rw [List.length_take]; omega
        have g1 := joinL_get a.Errors b.Errors (by omega) j (by omega)
        have g2 := joinL_get a.Errors b.Errors (by omega) (j + 1) hj
        have q1 : (joinL a.Errors b.Errors)[a.Errors.length - 1 + j]? = some (b.Errors.getD j 0 + joinC a.Errors b.Errors) := by
          rw [List.getD_eq_getElem?_getD, List.getElem?_eq_getElem (by omega)] at g1
          rw [List.getElem?_eq_getElem (by omega)]; exact congrArg some g1
        have q2 : (joinL a.Errors b.Errors)[a.Errors.length + j]? = some (b.Errors.getD (j + 1) 0 + joinC a.Errors b.Errors) := by
          rw [List.getD_eq_getElem?_getD, List.getElem?_eq_getElem (by omega)] at g2
          rw [List.getElem?_eq_getElem (by omega)]
          have : a.Errors.length - 1 + (j + 1) = a.Errors.length + j := by omega
          simp only [this] at g2
          exact congrArg some g2
        have q3 : ((joinL a.Errors b.Errors).take (a.Errors.length + j))[a.Errors.length - 1 + j]? = some (b.Errors.getD j 0 + joinC a.Errors b.Errors) := by rw [List.getElem?_take, if_pos (by omega), q1]
        have c1 := hbnd b.Errors (vB_errors hv.2) j
        have c2 := hbnd b.Errors (vB_errors hv.2) (j + 1)
        have c3 := hbnd a.Errors (vB_errors hv.1) (a.Errors.length - 1)
        have c4 := hbnd b.Errors (vB_errors hv.2) 0
        have hc : joinC a.Errors b.Errors = a.Errors.getD (a.Errors.length - 1) 0 - b.Errors.getD 0 0 := rfl
        have d1 : b.Errors[j + 1] = b.Errors.getD (j + 1) 0 := by rw [List.getD_eq_getElem?_getD, List.getElem?_eq_getElem hj]; rfl
        have d2 : b.Errors[j] = b.Errors.getD j 0 := by rw [List.getD_eq_getElem?_getD, List.getElem?_eq_getElem (show j < b.Errors.length by omega)]; rfl
        refine ⟨_, ?_, rfl⟩
        rw [hlen, subI_ok (by omega), Option.bind_some, show ((a.Errors.length + j : Nat) : Int) - 1 = ((a.Errors.length - 1 + j : Nat) : Int) by omega, idx_at q3, Option.bind_some, d1, d2, addI_ok (by omega), Option.bind_some,
          appI_ok (by rw [hlen]; simp only [List.length_singleton]; omega), Option.bind_some, show a.Errors.length + (j + 1) = a.Errors.length + j + 1 by omega, List.take_add_one, q2,
          show b.Errors.getD j 0 + joinC a.Errors b.Errors + (b.Errors.getD (j + 1) 0 - b.Errors.getD j 0) = b.Errors.getD (j + 1) 0 + joinC a.Errors b.Errors by omega]
        rfl) (by rw [Nat.add_zero]; unfold joinL; rw [List.take_left])
    rw [List.take_of_length_le (by rw [joinL_len, dl1_len]; omega)] at h2
    subst h2
    rw [h1, Option.bind_some, rValidBox_eq ⟨a.Name, joinL a.Errors b.Errors⟩ ha, Option.bind_some]
    cases vBox ⟨a.Name, joinL a.Errors b.Errors⟩ <;> rfl
theorem law_noongunlaw06_RateJoined (a0 : GBox) (_ok0 : okGBox a0) (a1 : GBox) (_ok1 : okGBox a1) : noongunlaw06_RateJoined a0 a1 = some true := by
  unfold noongunlaw06_RateJoined
  simp only [mk_eta, fit_two, Option.bind_some, awake_eq]
  cases hf : (fitB a0 && fitB a1) with
  | false => rfl
  | true =>
    simp only [Bool.and_eq_true] at hf
    have hn : ∀ a : GBox, fitB a = true → a.Name.size ≤ 1000 := by
      intro a h
      simp only [fitB, Bool.not_eq_true', Bool.or_eq_false_iff, decide_eq_false_iff_not] at h
      omega
    have n0 := hn _ hf.1
    have n1 := hn _ hf.2
    simp only [Bool.not_true, Bool.false_eq_true, if_false]
    rw [Joined_eq _ _ n0 n1, Option.bind_some, rJoined_eq _ _ n0 n1, Option.bind_some]
    unfold joinedS
    cases hv : (vBox a0 && vBox a1) with
    | false => simp [sameBox_eq]
    | true =>
      cases hv2 : vBox ⟨a0.Name, joinL a0.Errors a1.Errors⟩ with
      | false => simp [sameBox_eq]
      | true =>
        simp only [Bool.and_eq_true] at hv
        have la := vB_len hv.1
        have lb := vB_len hv.2
        simp only [if_true, sameBox_eq, decide_true, Option.bind_some, Bool.not_true, bne_self_eq_false, Bool.or_false, Bool.false_eq_true, if_false]
        rw [Daily_eq a0 n0, Option.bind_some, Daily_eq a1 n1, Option.bind_some, Daily_eq ⟨a0.Name, joinL a0.Errors a1.Errors⟩ n0, Option.bind_some]
        unfold dailyS
        rw [hv.1, hv.2, hv2]
        simp only [if_true, beq_self_eq_true, Bool.and_self]
        rw [appI_ok (by rw [dl1_len]; simp only [List.length_nil]; omega), Option.bind_some, List.nil_append, appI_ok (by rw [dl1_len, dl1_len]; omega), Option.bind_some, sameInts_eq, dl_join _ _ (by omega)]
        simp
end Go.Fw
