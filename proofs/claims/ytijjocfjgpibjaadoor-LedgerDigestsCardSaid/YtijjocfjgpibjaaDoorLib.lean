/-
  The ledger, plain: what its functions and the document's answer compute, in common words. No condition.
-/
import Derived.Test.YtijjocfjgpibjaaDoorM
import Derived.Test.YtijjocfjgpibjaaDoorFwN
namespace Go.Fw

def dayB (d : Int) : Bool := decide (0 ≤ d) && decide (d ≤ 182985)
def vE (e : GEntry) : Bool := dayB e.Day && (decide (-86400000 ≤ e.Error) && decide (e.Error ≤ 86400000))
def vL (l : List GEntry) : Bool := l.all vE && decide ((l.length : Int) ≤ 1000)

theorem within_eq (a b c : Int) : ledger_within a b c = some (decide (b ≤ a) && decide (a ≤ c)) := rfl
theorem isDay_eq (d : Int) : ledger_isDay d = some (dayB d) := rfl
theorem rday_eq (d : Int) : noongunref09_day d = some (dayB d) := rfl
theorem fine_eq (e : GEntry) : ledger_fine e = some (vE e) := by
  unfold ledger_fine vE dayB
  simp only [within_eq, Option.bind_some]
  cases h : (decide (0 ≤ e.Day) && decide (e.Day ≤ 182985)) <;> simp
theorem rvalid_eq (e : GEntry) : noongunref09_valid e = some (vE e) := by
  unfold noongunref09_valid vE
  simp only [rday_eq, Option.bind_some, Bool.and_assoc]
theorem rValid_eq (l : List GEntry) : noongunref09_Valid l = some (vL l) := by
  unfold noongunref09_Valid
  rw [rangeL_search (p := fun e => !vE e) (y := Ctl.ret false)]
  · cases h : l.any (fun e => !vE e) with
    | true =>
      have : l.all vE = false := by
        rw [List.any_eq_true] at h
        obtain ⟨x, hx, hv⟩ := h
        exact List.all_eq_false.2 ⟨x, hx, by simpa using hv⟩
      simp [vL, this]
    | false =>
      have : l.all vE = true := by
        rw [List.any_eq_false] at h
        exact List.all_eq_true.2 fun x hx => by simpa using h x hx
      simp [vL, this]
  · intro i x s _
    simp only [rvalid_eq, Option.bind_some]
    cases vE x <;> rfl
theorem contains_eq (l : List GEntry) (f : GEntry → Option Bool) (p : GEntry → Bool) (h : ∀ e ∈ l, f e = some (p e)) : slices_ContainsFunc_Entry l f = some (l.any p) := by
  unfold slices_ContainsFunc_Entry slices_IndexFunc_Entry
  rw [rangeN_list (B := fun i x _ => some (if p x = true then .done (Ctl.ret i) else .cont ()))]
  · have key : ∀ (L : List GEntry) (i : Int), 0 ≤ i → ∃ o, rangeL (S := Unit) (X := Ctl Unit Int) (fun i x _ => some (if p x = true then .done (Ctl.ret i) else .cont ())) (fun _ => Ctl.next ()) L i () = some o ∧
        ((L.any p = true ∧ ∃ j, 0 ≤ j ∧ o = .ret j) ∨ (L.any p = false ∧ o = .next ())) := by
      intro L
      induction L with
      | nil => intro i _; exact ⟨_, rfl, .inr ⟨rfl, rfl⟩⟩
      | cons x L ih =>
        intro i hi
        rw [rangeL, Option.bind_some]
        cases hp : p x with
        | true => exact ⟨_, rfl, .inl ⟨by simp [hp], i, hi, rfl⟩⟩
        | false =>
          obtain ⟨o, h1, h2⟩ := ih (i + 1) (by omega)
          refine ⟨o, h1, ?_⟩
          simpa [hp] using h2
    obtain ⟨o, h1, ⟨h2, j, h3, rfl⟩ | ⟨h2, rfl⟩⟩ := key l 0 (by omega)
    · rw [h1, h2]
      simp only [Option.bind_some]
      simp [h3]
    · rw [h1, h2]
      simp
  · intro i x s hx
    simp only [idx_at hx, Option.bind_some, h x (List.mem_of_getElem? hx)]
    cases p x <;> rfl
theorem Valid_eq (l : List GEntry) : ledger_Valid l = some (vL l) := by
  unfold ledger_Valid
  rw [contains_eq l _ (fun e => !vE e) (fun e _ => by simp only [ledger_Valid_c1, fine_eq, Option.bind_some])]
  simp only [Option.bind_some]
  have : (!l.any fun e => !vE e) = l.all vE := by
    induction l with
    | nil => rfl
    | cons x l ih => simp only [List.any_cons, List.all_cons, Bool.not_or, Bool.not_not, ih]
  rw [this, vL]
  by_cases h : (l.length : Int) ≤ 1000 <;> simp [h]
theorem awake_eq : noongunlaw09_awake = some true := by rfl

end Go.Fw
