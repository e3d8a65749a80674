/-
  The ledger, plain: what its functions and the document's answer compute, in common words. No condition.
-/
import Derived.Test.YtijjocfjgpibjaaM
import Derived.Test.YtijjocfjgpibjaaFwN
namespace Go.Fw

def dayB (d : Int) : Bool := decide (0 ≤ d) && decide (d ≤ 182985)
def vE (e : GEntry) : Bool := dayB e.Day && (decide (-86400000 ≤ e.Error) && decide (e.Error ≤ 86400000))
def vL (l : List GEntry) : Bool := l.all vE && decide ((l.length : Int) ≤ 1000)
def lastE (l : List GEntry) (d : Int) (f : Bool) : Option Int := l.foldl (fun acc e => if e.Day = d ∧ e.Found = f then some e.Error else acc) none

theorem within_eq (a b c : Int) : ledger_within a b c = some (decide (b ≤ a) && decide (a ≤ c)) := rfl
theorem isDay_eq (d : Int) : ledger_isDay d = some (dayB d) := rfl
theorem rday_eq (d : Int) : noongunref09_day d = some (dayB d) := rfl
theorem fine_eq (e : GEntry) : ledger_fine e = some (vE e) := by
  unfold ledger_fine vE dayB
  simp only [within_eq, Option.bind_some]
  cases h : (decide (0 ≤ e.Day) && decide (e.Day ≤ 182985)) <;> simp
theorem rvalid_eq (e : GEntry) : noongunref09_valid e = some (vE e) := by
  unfold noongunref09_valid vE
  simp only [rday_eq, Option.bind_some, Bool.and_assoc]
theorem rValid_eq (l : List GEntry) : noongunref09_Valid l = some (vL l) := by
  unfold noongunref09_Valid
  rw [rangeL_search (p := fun e => !vE e) (y := Ctl.ret false)]
  · cases h : l.any (fun e => !vE e) with
    | true =>
      have : l.all vE = false := by
        rw [List.any_eq_true] at h
        obtain ⟨x, hx, hv⟩ := h
        exact List.all_eq_false.2 ⟨x, hx, by simpa using hv⟩
      simp [vL, this]
    | false =>
      have : l.all vE = true := by
        rw [List.any_eq_false] at h
        exact List.all_eq_true.2 fun x hx => by simpa using h x hx
      simp [vL, this]
  · intro i x s _
    simp only [rvalid_eq, Option.bind_some]
    cases vE x <;> rfl
theorem contains_eq (l : List GEntry) (f : GEntry → Option Bool) (p : GEntry → Bool) (h : ∀ e ∈ l, f e = some (p e)) : slices_ContainsFunc_Entry l f = some (l.any p) := by
  unfold slices_ContainsFunc_Entry slices_IndexFunc_Entry
  rw [rangeN_list (B := fun i x _ => some (if p x = true then .done (Ctl.ret i) else .cont ()))]
  · have key : ∀ (L : List GEntry) (i : Int), 0 ≤ i → ∃ o, rangeL (S := Unit) (X := Ctl Unit Int) (fun i x _ => some (if p x = true then .done (Ctl.ret i) else .cont ())) (fun _ => Ctl.next ()) L i () = some o ∧
        ((L.any p = true ∧ ∃ j, 0 ≤ j ∧ o = .ret j) ∨ (L.any p = false ∧ o = .next ())) := by
      intro L
      induction L with
      | nil => intro i _; exact ⟨_, rfl, .inr ⟨rfl, rfl⟩⟩
      | cons x L ih =>
        intro i hi
        rw [rangeL, Option.bind_some]
        cases hp : p x with
        | true => exact ⟨_, rfl, .inl ⟨by simp [hp], i, hi, rfl⟩⟩
        | false =>
          obtain ⟨o, h1, h2⟩ := ih (i + 1) (by omega)
          refine ⟨o, h1, ?_⟩
          simpa [hp] using h2
    obtain ⟨o, h1, ⟨h2, j, h3, rfl⟩ | ⟨h2, rfl⟩⟩ := key l 0 (by omega)
    · rw [h1, h2]
      simp only [Option.bind_some]
      simp [h3]
    · rw [h1, h2]
      simp
  · intro i x s hx
    simp only [idx_at hx, Option.bind_some, h x (List.mem_of_getElem? hx)]
    cases p x <;> rfl
theorem Valid_eq (l : List GEntry) : ledger_Valid l = some (vL l) := by
  unfold ledger_Valid
  rw [contains_eq l _ (fun e => !vE e) (fun e _ => by simp only [ledger_Valid_c1, fine_eq, Option.bind_some])]
  simp only [Option.bind_some]
  have : (!l.any fun e => !vE e) = l.all vE := by
    induction l with
    | nil => rfl
    | cons x l ih => simp only [List.any_cons, List.all_cons, Bool.not_or, Bool.not_not, ih]
  rw [this, vL]
  by_cases h : (l.length : Int) ≤ 1000 <;> simp [h]
theorem asked_eq (l : List GEntry) (d : Int) : noongunref09_asked l d = some (if vL l = true then if dayB d = true then 0 else 7 else 1) := by
  unfold noongunref09_asked
  simp only [rValid_eq, rday_eq, Option.bind_some]
  cases vL l <;> cases dayB d <;> rfl
theorem page_eq (l : List GEntry) : ∃ pg, ledger_pageOf l = some pg ∧ ∀ d f, mget pg (GKey.mk d f) = lastE l d f := by
  unfold ledger_pageOf
  simp only [ledger_of, Option.bind_some]
  rw [rangeL_fold (fun m (e : GEntry) => mput m (GKey.mk e.Day e.Found) e.Error) l 0 [] (fun i x s _ => rfl)]
  refine ⟨_, rfl, fun d f => ?_⟩
  have key : ∀ (L : List GEntry) (m : List (GKey × Int)) (acc : Option Int), mget m (GKey.mk d f) = acc →
      mget (L.foldl (fun m (e : GEntry) => mput m (GKey.mk e.Day e.Found) e.Error) m) (GKey.mk d f) = L.foldl (fun acc e => if e.Day = d ∧ e.Found = f then some e.Error else acc) acc := by
    intro L
    induction L with
    | nil => intro m acc h; exact h
    | cons x L ih =>
      intro m acc h
      rw [List.foldl_cons, List.foldl_cons]
      refine ih _ _ ?_
      rw [mget_put, h]
      simp only [GKey.mk.injEq]
  exact key l [] none rfl
theorem rlast_eq (l : List GEntry) (d : Int) (f : Bool) (hl : l.length ≤ maxLen) : noongunref09_last l d f = some ((lastE l d f).getD 0, (lastE l d f).isSome) := by
  unfold noongunref09_last
  rw [subI_ok (by unfold maxLen at hl; omega), Option.bind_some]
  rw [loopR_down (fun n => match lastE (l.take n) d f with | some e => .ret (e, true) | none => .next ()) l.length]
  · rw [List.take_length]
    cases lastE l d f <;> rfl
  · rfl
  · intro n hn
    have hx : l[n]? = some l[n] := List.getElem?_eq_getElem (by omega)
    have hsub : subI (n : Int) 1 = some ((n : Int) - 1) := subI_ok (by unfold maxLen at hl; omega)
    have hlast : lastE (l.take (n + 1)) d f = if l[n].Day = d ∧ l[n].Found = f then some l[n].Error else lastE (l.take n) d f := by
      rw [List.take_succ_eq_append_getElem (by omega)]; unfold lastE; rw [List.foldl_append]; rfl
    rw [hlast]
    simp only [idx_at hx, Option.bind_some, hsub]
    by_cases hd : l[n].Day = d
    · by_cases hf : l[n].Found = f
      · left; simp [hd, hf]
      · right; simp [hd, hf]
    · right; simp [hd]
theorem lastE_bound {l : List GEntry} (h : vL l = true) (d : Int) (f : Bool) : -86400000 ≤ (lastE l d f).getD 0 ∧ (lastE l d f).getD 0 ≤ 86400000 := by
  have h2 : l.all vE = true := by simp only [vL, Bool.and_eq_true] at h; exact h.1
  have key : ∀ (L : List GEntry) (acc : Option Int), L.all vE = true → (-86400000 ≤ acc.getD 0 ∧ acc.getD 0 ≤ 86400000) →
      -86400000 ≤ (L.foldl (fun acc e => if e.Day = d ∧ e.Found = f then some e.Error else acc) acc).getD 0 ∧ (L.foldl (fun acc e => if e.Day = d ∧ e.Found = f then some e.Error else acc) acc).getD 0 ≤ 86400000 := by
    intro L
    induction L with
    | nil => intro acc _ h; exact h
    | cons x L ih =>
      intro acc hL ha
      simp only [List.all_cons, Bool.and_eq_true, vE, decide_eq_true_eq] at hL
      rw [List.foldl_cons]
      refine ih _ hL.2 ?_
      split
      · exact hL.1.2
      · exact ha
  exact key l none h2 (by simp)

def toldR (l : List GEntry) (d : Int) (r : Int × Bool) : Int × Int := if vL l = true then if dayB d = true then if r.2 = true then (r.1, 0) else (0, 8) else (0, 7) else (0, 1)
theorem told_eq (l : List GEntry) (d : Int) (g : List (GKey × Int) → Option (Int × Bool)) (r : Int × Bool) (h : vL l = true → ∀ pg, (∀ d f, mget pg (GKey.mk d f) = lastE l d f) → g pg = some r) : ledger_told l d g = some (toldR l d r) := by
  obtain ⟨pg, h1, h2⟩ := page_eq l
  unfold ledger_told toldR
  simp only [Valid_eq, isDay_eq, h1, Option.bind_some]
  cases hv : vL l with
  | false => simp
  | true =>
    cases hd : dayB d with
    | false => simp
    | true =>
      rw [h hv pg h2]
      obtain ⟨a, b⟩ := r
      cases b <;> simp
theorem Said_eq (l : List GEntry) (d : Int) : ledger_Said l d = some (toldR l d ((lastE l d false).getD 0, (lastE l d false).isSome)) := by
  unfold ledger_Said
  rw [told_eq l d _ ((lastE l d false).getD 0, (lastE l d false).isSome) (fun _ pg h => by simp only [ledger_Said_c1, h])]
  rfl
theorem Found_eq (l : List GEntry) (d : Int) : ledger_Found l d = some (toldR l d ((lastE l d true).getD 0, (lastE l d true).isSome)) := by
  unfold ledger_Found
  rw [told_eq l d _ ((lastE l d true).getD 0, (lastE l d true).isSome) (fun _ pg h => by simp only [ledger_Found_c1, h])]
  rfl
theorem Off_eq (l : List GEntry) (d : Int) : ledger_Off l d = some (toldR l d ((lastE l d true).getD 0 - (lastE l d false).getD 0, (lastE l d false).isSome && (lastE l d true).isSome)) := by
  unfold ledger_Off
  rw [told_eq l d _ ((lastE l d true).getD 0 - (lastE l d false).getD 0, (lastE l d false).isSome && (lastE l d true).isSome) (fun hv pg h => by
    have h1 := lastE_bound hv d true
    have h2 := lastE_bound hv d false
    simp only [ledger_Off_c1, ledger_page_off, h, subI_ok (a := (lastE l d true).getD 0) (b := (lastE l d false).getD 0) (by omega), Option.bind_some])]
  rfl
theorem rtold (l : List GEntry) (d : Int) (g : Option (Int × Bool)) (r : Int × Bool) (h : vL l = true → g = some r) :
    (noongunref09_asked l d).bind (fun t1 => if (t1 != 0) = true then some (0, t1) else g.bind (fun o => match o with | (t2, t3) => if (!t3) = true then some (0, 8) else some (t2, 0))) = some (toldR l d r) := by
  rw [asked_eq, Option.bind_some, toldR]
  cases hv : vL l with
  | false => simp
  | true =>
    cases hd : dayB d with
    | false => simp
    | true =>
      rw [h hv]
      obtain ⟨a, b⟩ := r
      cases b <;> simp
theorem rSaid_eq (l : List GEntry) (d : Int) (hl : l.length ≤ maxLen) : noongunref09_Said l d = some (toldR l d ((lastE l d false).getD 0, (lastE l d false).isSome)) :=
  rtold l d _ _ fun _ => rlast_eq l d false hl
theorem rFound_eq (l : List GEntry) (d : Int) (hl : l.length ≤ maxLen) : noongunref09_Found l d = some (toldR l d ((lastE l d true).getD 0, (lastE l d true).isSome)) :=
  rtold l d _ _ fun _ => rlast_eq l d true hl
theorem rOff_eq (l : List GEntry) (d : Int) (hl : l.length ≤ maxLen) : noongunref09_Off l d = some (toldR l d ((lastE l d true).getD 0 - (lastE l d false).getD 0, (lastE l d false).isSome && (lastE l d true).isSome)) :=
  rtold l d _ _ fun hv => by
    have h1 := lastE_bound hv d true
    have h2 := lastE_bound hv d false
    unfold noongunref09_off
    rw [rlast_eq l d false hl, rlast_eq l d true hl]
    simp only [Option.bind_some]
    rw [subI_ok (by omega)]
    rfl
theorem awake_eq : noongunlaw09_awake = some true := by rfl

end Go.Fw
