/-
  The document's rates, plain. No condition.
-/
import Derived.Test.YtohbkbimgfkblaaAheadLib
namespace Go.Fw
theorem dl1_get (xs : List Int) (j : Nat) (h : j + 1 < xs.length) : (dl 1 xs)[j]? = some (xs[j + 1] - xs[j]) := by
  have e1 : xs[j + 1]? = some xs[j + 1] := List.getElem?_eq_getElem h
  have e2 : xs[j]? = some xs[j] := List.getElem?_eq_getElem (by omega)
  unfold dl
  rw [List.getElem?_map, List.getElem?_range (by rw [Nat.div_one]; omega)]
  simp [List.getD_eq_getElem?_getD, e1, e2]
theorem dl1_len (xs : List Int) : (dl 1 xs).length = xs.length - 1 := by rw [dl_len, Nat.div_one]
theorem rates_eq (a : GBox) (hx : ∀ x ∈ a.Errors, -86400000 ≤ x ∧ x ≤ 86400000) (hl : 2 ≤ a.Errors.length) (hl2 : a.Errors.length ≤ 1000) : noongunref06_rates a 1 = some (dl 1 a.Errors) := by
  unfold noongunref06_rates
  obtain ⟨x, h1, rfl⟩ := loopR_inv (S := Int × List Int) (X := List Int) (body := fun (s : Int × (List Int)) => match s with
    | (z3, z4) =>
      (if (decide (z3 < ((a.Errors.length : Nat) : Int))) = true then
        (idx a.Errors z3).bind (fun x1 =>
        (subI z3 1).bind (fun t1 =>
        (idx a.Errors t1).bind (fun x2 =>
        (subI x1 x2).bind (fun t2 =>
        (appI z4 ([t2] : List Int)).bind (fun t3 =>
        (addI z3 1).bind (fun t4 =>
        some (Step.cont (t4, t3))))))))
      else
        some (Step.done z4))) (fun s => a.Errors.length - s.1.toNat) (fun s => ∃ j : Nat, s = (((j + 1 : Nat) : Int), (dl 1 a.Errors).take j) ∧ j + 1 ≤ a.Errors.length) (fun x => x = dl 1 a.Errors) (by
      rintro _ ⟨j, rfl, hj⟩
      by_cases hlt : j + 1 < a.Errors.length
      · right
        have e1 : a.Errors[j + 1]? = some a.Errors[j + 1] := List.getElem?_eq_getElem hlt
        have e2 : a.Errors[j]? = some a.Errors[j] := List.getElem?_eq_getElem (by omega)
        have b1 := hx _ (List.getElem_mem hlt)
        have b2 := hx _ (List.getElem_mem (show j < a.Errors.length by omega))
        refine ⟨(((j + 1 + 1 : Nat) : Int), (dl 1 a.Errors).take (j + 1)), ?_, ⟨j + 1, rfl, by omega⟩, by show a.Errors.length - (((j + 1 + 1 : Nat) : Int)).toNat < a.Errors.length - (((j + 1 : Nat) : Int)).toNat; omega⟩
        have hd : decide ((((j + 1 : Nat) : Int)) < ((a.Errors.length : Nat) : Int)) = true := decide_eq_true (by omega)
        show (if _ = true then _ else _) = _
        rw [if_pos hd, idx_at e1, Option.bind_some, subI_ok (by omega), Option.bind_some, show (((j + 1 : Nat) : Int)) - 1 = ((j : Nat) : Int) by omega, idx_at e2, Option.bind_some, subI_ok (by omega), Option.bind_some,
          appI_ok (by rw [List.length_take]; simp only [List.length_singleton]; omega), Option.bind_some, addI_ok (by omega), Option.bind_some, List.take_add_one, dl1_get _ _ hlt]
        rfl
      · left
        have hd : ¬ decide ((((j + 1 : Nat) : Int)) < ((a.Errors.length : Nat) : Int)) = true := by simp only [decide_eq_true_eq]; omega
        refine ⟨_, ?_, rfl⟩
        show (if _ = true then _ else _) = _
        rw [if_neg hd, List.take_of_length_le (by rw [dl1_len]; omega)]) ((1 : Int), ([] : List Int)) ⟨0, rfl, by omega⟩
  rw [h1]; rfl
theorem sameInts_eq (a b : List Int) : noongunref06_SameInts a b = some (decide (a = b)) := by
  unfold noongunref06_SameInts
  exact same_fun (fun x y => x != y) (fun x y => by cases h : decide (x = y) <;> simp_all) a b
theorem sameBox_eq (a b : GBox) : noongunref06_SameBox a b = some (decide (a = b)) := by
  unfold noongunref06_SameBox
  rw [sameInts_eq]
  obtain ⟨n, e⟩ := a
  obtain ⟨n', e'⟩ := b
  by_cases h : n = n' <;> by_cases h2 : e = e' <;> simp [h, h2]
def zeroBox : GBox := ⟨ByteArray.empty, []⟩
theorem fit_two (a b : GBox) : noongunlaw06_fit [a, b] = some (fitB a && fitB b) := by
  unfold noongunlaw06_fit fitB
  rw [rangeL_search (p := fun a : GBox => (((decide (100 < ((a.Name.size : Nat) : Int))) || ((decide (60 < ((a.Errors.length : Nat) : Int))) && (decide (((a.Errors.length : Nat) : Int) < 399)))) || (decide (410 < ((a.Errors.length : Nat) : Int))))) (y := Ctl.ret false)]
  · simp only [List.any_cons, List.any_nil, Bool.or_false]
    cases (((decide (100 < ((a.Name.size : Nat) : Int))) || ((decide (60 < ((a.Errors.length : Nat) : Int))) && (decide (((a.Errors.length : Nat) : Int) < 399)))) || (decide (410 < ((a.Errors.length : Nat) : Int)))) <;>
      cases (((decide (100 < ((b.Name.size : Nat) : Int))) || ((decide (60 < ((b.Errors.length : Nat) : Int))) && (decide (((b.Errors.length : Nat) : Int) < 399)))) || (decide (410 < ((b.Errors.length : Nat) : Int)))) <;> rfl
  · intro i x s _
    cases (((decide (100 < ((x.Name.size : Nat) : Int))) || ((decide (60 < ((x.Errors.length : Nat) : Int))) && (decide (((x.Errors.length : Nat) : Int) < 399)))) || (decide (410 < ((x.Errors.length : Nat) : Int)))) <;> rfl
end Go.Fw
