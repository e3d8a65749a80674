/-
  LedgerRated, the plain law: what the code computes answers true, for entries and days within their types' ranges.
-/
import Derived.Test.YtijjocfjgpibjaaLib
namespace Go.Fw
def offB (l : List GEntry) (d : Int) : Bool := (lastE l d false).isSome && (lastE l d true).isSome
def offV (l : List GEntry) (d : Int) : Int := (lastE l d true).getD 0 - (lastE l d false).getD 0
def ratedR (l : List GEntry) (a b : Int) : Int × Int :=
  if vL l = true then if (dayB a && dayB b && decide (a < b)) = true then if (offB l a && offB l b) = true then (offV l b - offV l a, 0) else (0, 8) else (0, 7) else (0, 1)
theorem offV_bound {l : List GEntry} (h : vL l = true) (d : Int) : -172800000 ≤ offV l d ∧ offV l d ≤ 172800000 := by
  have h1 := lastE_bound h d true
  have h2 := lastE_bound h d false
  unfold offV; omega
theorem page_off_eq {l : List GEntry} (hv : vL l = true) (pg : List (GKey × Int)) (h : ∀ d f, mget pg (GKey.mk d f) = lastE l d f) (d : Int) : ledger_page_off pg d = some (offV l d, offB l d) := by
  have h1 := offV_bound hv d
  unfold offV at h1
  simp only [ledger_page_off, h, subI_ok (a := (lastE l d true).getD 0) (b := (lastE l d false).getD 0) (by omega), Option.bind_some]
  rfl
theorem roff_eq {l : List GEntry} (hv : vL l = true) (hl : l.length ≤ maxLen) (d : Int) : noongunref09_off l d = some (offV l d, offB l d) := by
  have h1 := offV_bound hv d
  unfold offV at h1
  unfold noongunref09_off
  rw [rlast_eq l d false hl, rlast_eq l d true hl]
  simp only [Option.bind_some]
  rw [subI_ok (by omega)]
  rfl
theorem Rated_eq (l : List GEntry) (a b : Int) : ledger_Rated l a b = some (ratedR l a b) := by
  obtain ⟨pg, h1, h2⟩ := page_eq l
  unfold ledger_Rated ratedR
  simp only [Valid_eq, isDay_eq, h1, Option.bind_some]
  cases hv : vL l with
  | false => simp
  | true =>
    have ba := offV_bound hv a
    have bb := offV_bound hv b
    simp only [page_off_eq hv pg h2, Option.bind_some, subI_ok (a := offV l b) (b := offV l a) (by omega)]
    cases dayB a <;> cases dayB b <;> simp
    by_cases hab : b ≤ a
    · simp [hab, Int.not_lt.2 hab]
    · simp only [hab, Int.not_le.1 hab, if_false, if_true]
      cases offB l a <;> cases offB l b <;> simp
theorem rRated_eq (l : List GEntry) (a b : Int) (hl : l.length ≤ maxLen) : noongunref09_Rated l a b = some (ratedR l a b) := by
  unfold noongunref09_Rated ratedR
  simp only [rValid_eq, rday_eq, Option.bind_some]
  cases hv : vL l with
  | false => simp
  | true =>
    have ba := offV_bound hv a
    have bb := offV_bound hv b
    simp only [roff_eq hv hl, Option.bind_some, subI_ok (a := offV l b) (b := offV l a) (by omega)]
    cases dayB a <;> cases dayB b <;> simp
    by_cases hab : b ≤ a
    · simp [hab, Int.not_lt.2 hab]
    · simp only [hab, Int.not_le.1 hab, if_false, if_true]
      cases offB l a <;> cases offB l b <;> simp
theorem ratedR_zero {l : List GEntry} {a b : Int} (h : (ratedR l a b).2 = 0) : vL l = true ∧ dayB a = true ∧ dayB b = true ∧ a < b ∧ offB l a = true ∧ offB l b = true ∧ (ratedR l a b).1 = offV l b - offV l a := by
  revert h
  unfold ratedR
  cases vL l <;> simp
  cases dayB a <;> simp
  cases dayB b <;> simp
  by_cases hab : a < b <;> simp [hab]
  cases offB l a <;> simp
  cases offB l b <;> simp
theorem ratedR_mk {l : List GEntry} {a b : Int} (h : vL l = true ∧ dayB a = true ∧ dayB b = true ∧ a < b ∧ offB l a = true ∧ offB l b = true) : ratedR l a b = (offV l b - offV l a, 0) := by
  obtain ⟨h1, h2, h3, h4, h5, h6⟩ := h
  simp [ratedR, h1, h2, h3, h4, h5, h6]
theorem law_noongunlaw09_LedgerRated (a0 : (List GEntry)) (_ : ∀ a ∈ a0, okGEntry a) (len0 : a0.length ≤ maxLen) (a1 : Int) (_ : inI a1 = true) (a2 : Int) (_ : inI a2 = true) (a3 : Int) (_ : inI a3 = true) :
    noongunlaw09_LedgerRated a0 a1 a2 a3 = some true := by
  unfold noongunlaw09_LedgerRated noongunlaw09_small
  simp only [Rated_eq, rRated_eq _ _ _ len0, awake_eq, Option.bind_some, bne_self_eq_false, Bool.or_self]
  split
  · rfl
  · simp only [Bool.false_eq_true, if_false]
    by_cases h1 : (ratedR a0 a1 a2).2 = 0
    · by_cases h2 : (ratedR a0 a2 a3).2 = 0
      · obtain ⟨p1, p2, p3, p4, p5, p6, p7⟩ := ratedR_zero h1
        obtain ⟨_, q2, q3, q4, q5, q6, q7⟩ := ratedR_zero h2
        have b1 := offV_bound p1 a1
        have b2 := offV_bound p1 a2
        have b3 := offV_bound p1 a3
        rw [ratedR_mk ⟨p1, p2, q3, by omega, p5, q6⟩, ratedR_mk ⟨p1, p2, p3, p4, p5, p6⟩, ratedR_mk ⟨p1, q2, q3, q4, q5, q6⟩]
        simp [addI_ok (a := offV a0 a2 - offV a0 a1) (b := offV a0 a3 - offV a0 a2) (by omega)]
        omega
      · simp [h2]
    · simp [h1]
end Go.Fw
