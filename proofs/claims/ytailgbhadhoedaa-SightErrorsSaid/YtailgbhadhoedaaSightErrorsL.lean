/-
  SightErrors, plain: the code's least costs and the document's table answer alike.
-/
import Derived.Test.YtailgbhadhoedaaRefBet
namespace Go.Fw
open Go.Gr
theorem sError_eq (x : GNet) (a t : Int) : sight_Error x a t = some (betweenF x a 0 t) := by
  unfold sight_Error
  rw [eta]
  exact (bindS (Between_eq _ _ _ _)).trans rfl
theorem rError_eq (x : GNet) (h8 : vNet x = true → x.Sights.length ≤ 8) (a t : Int) : noongunref02_Error x a t = some (betweenF x a 0 t) := by
  unfold noongunref02_Error
  rw [eta]
  exact (bindS (refBetween_eq _ h8 _ _ _)).trans rfl
theorem code_zero {x : GNet} {a b t : Int} (h : (betweenF x a b t).2 ≠ 0) : (betweenF x a b t).1 = ⟨0, 0⟩ := by
  unfold betweenF at h ⊢
  split
  · split
    · split
      · split
        · cases h1 : leastO (ENx x) (spot b t) (spot a t) with
          | none => rfl
          | some hi =>
            cases h2 : leastO (ENx x) (spot a t) (spot b t) with
            | none => rfl
            | some lo =>
              exfalso
              apply h
              rw [if_pos (by assumption), if_pos (by assumption), if_pos (by assumption), if_pos (by assumption), h1, h2]
        · rfl
      · rfl
    · rfl
  · rfl
theorem width_in (x : GNet) (a b t : Int) : ∃ w, subI (betweenF x a b t).1.Hi (betweenF x a b t).1.Lo = some w ∧ -700000000000000000 ≤ w ∧ w ≤ 700000000000000000 := by
  by_cases h : (betweenF x a b t).2 = 0
  · obtain ⟨hi, lo, e, ok⟩ := betweenF_ok h
    have := ok.bhi; have := ok.blo
    rw [e]
    exact ⟨_, subI_ok (by dsimp only; omega), by dsimp only; omega, by dsimp only; omega⟩
  · rw [code_zero h]
    exact ⟨0, rfl, by decide, by decide⟩
theorem law_noongunlaw02_SightErrors (a0 : GNet) (_ : okGNet a0) (a1 : GArr2) (_ : okGArr2 a1) (a2 : Int) (_ : inI a2 = true) : noongunlaw02_SightErrors a0 a1 a2 = some true := by
  unfold noongunlaw02_SightErrors
  obtain ⟨L, hL⟩ : ∃ L, noongunlaw02_Light (GNet.mk a0.Rates a0.Sights) = some L := ⟨_, rfl⟩
  rw [hL, Option.bind_some, awake_eq, eta]
  cases L with
  | false => rfl
  | true =>
    have h8 := light_8 hL
    rw [if_neg (by decide)]
    unfold sight_Width noongunref02_Width
    rw [eta]
    obtain ⟨w, hw, _⟩ := width_in a0 a1.x0 0 a2
    refine (bindS (sError_eq _ _ _)).trans ?_
    have hr := rError_eq a0 h8 a1.x0 a2
    have hs := sError_eq a0 a1.x0 a2
    generalize betweenF a0 a1.x0 0 a2 = r at hr hs hw
    obtain ⟨r1, r2⟩ := r
    refine (bindS hr).trans ?_
    dsimp only
    rw [if_neg (by simp)]
    refine (bindS (Between_eq _ _ _ _)).trans ?_
    have hr2 := refBetween_eq a0 h8 a1.x0 a1.x1 a2
    generalize betweenF a0 a1.x0 a1.x1 a2 = q at hr2
    obtain ⟨q1, q2⟩ := q
    refine (bindS hr2).trans ?_
    dsimp only
    rw [hs, hr]
    simp only [Option.bind_some]
    dsimp only at hw
    rw [hw]
    simp
end Go.Fw
