/-
  SightOrders, plain: the other way round the bounds change sides, and over a third clock they are no closer.
-/
import Derived.Test.YtailgbhadhoedaaBetLib
namespace Go.Fw
open Go.Gr
theorem betweenF_code (x : GNet) (a b t : Int) : (betweenF x b a t).2 = (betweenF x a b t).2 := by
  unfold betweenF
  rw [show [b, a].all (inCl x) = [a, b].all (inCl x) by simp [Bool.and_comm]]
  split
  · split
    · split
      · split
        · cases leastO (ENx x) (spot b t) (spot a t) <;> cases leastO (ENx x) (spot a t) (spot b t) <;> rfl
        · rfl
      · rfl
    · rfl
  · rfl
theorem neg_small {c : Int} (h : -300000000000000000 ≤ c ∧ c ≤ 300000000000000000) : negI c = some (-c) := if_pos (inI_iff.2 (by omega))
theorem law_noongunlaw02_SightOrders (a0 : GNet) (_ : okGNet a0) (a1 : GArr3) (_ : okGArr3 a1) (a2 : Int) (_ : inI a2 = true) : noongunlaw02_SightOrders a0 a1 a2 = some true := by
  unfold noongunlaw02_SightOrders
  obtain ⟨L, hL⟩ : ∃ L, noongunlaw02_Light (GNet.mk a0.Rates a0.Sights) = some L := ⟨_, rfl⟩
  rw [hL, Option.bind_some, awake_eq, eta]
  cases L with
  | false => rfl
  | true =>
    rw [if_neg (by decide)]
    simp only [Between_eq, Option.bind_some]
    have hcode := betweenF_code a0 a1.x0 a1.x1 a2
    by_cases h0 : (betweenF a0 a1.x0 a1.x1 a2).2 = 0
    · obtain ⟨hi, lo, e1, ok⟩ := betweenF_ok h0
      have e2 := ok.swap.eq
      rw [e1, e2]
      dsimp only
      rw [if_neg (by decide), neg_small ok.bhi, Option.bind_some, neg_small (by have := ok.blo; omega), Option.bind_some, Int.neg_neg, if_neg (by simp)]
      by_cases h1 : (betweenF a0 a1.x0 a1.x2 a2).2 = 0
      · by_cases h2 : (betweenF a0 a1.x2 a1.x1 a2).2 = 0
        · obtain ⟨hi1, lo1, e3, ok1⟩ := betweenF_ok h1
          obtain ⟨hi2, lo2, e4, ok2⟩ := betweenF_ok h2
          rw [e3, e4]
          dsimp only
          have := ok1.bhi; have := ok1.blo; have := ok2.bhi; have := ok2.blo
          rw [if_neg (by decide), addI_ok (by omega), Option.bind_some, addI_ok (by omega), Option.bind_some]
          have t1 := least_tri ok.up ok2.up.1 ok1.up.1
          have t2 := least_tri ok.down ok1.down.1 ok2.down.1
          unfold noongunlaw02_inside
          dsimp only
          rw [decide_eq_true (show -lo1 + -lo2 ≤ -lo by omega), decide_eq_true (show hi ≤ hi1 + hi2 by omega)]
          rfl
        · have : (((betweenF a0 a1.x0 a1.x2 a2).2 != 0) || ((betweenF a0 a1.x2 a1.x1 a2).2 != 0)) = true := by simp [h2]
          generalize betweenF a0 a1.x0 a1.x2 a2 = r1 at this
          generalize betweenF a0 a1.x2 a1.x1 a2 = r2 at this
          obtain ⟨s1, c1⟩ := r1
          obtain ⟨s2, c2⟩ := r2
          dsimp only at this ⊢
          rw [if_pos this]
          rfl
      · have : (((betweenF a0 a1.x0 a1.x2 a2).2 != 0) || ((betweenF a0 a1.x2 a1.x1 a2).2 != 0)) = true := by simp [h1]
        generalize betweenF a0 a1.x0 a1.x2 a2 = r1 at this
        generalize betweenF a0 a1.x2 a1.x1 a2 = r2 at this
        obtain ⟨s1, c1⟩ := r1
        obtain ⟨s2, c2⟩ := r2
        dsimp only at this ⊢
        rw [if_pos this]
        rfl
    · generalize betweenF a0 a1.x0 a1.x1 a2 = r1 at hcode h0
      generalize betweenF a0 a1.x1 a1.x0 a2 = r2 at hcode
      obtain ⟨s1, c1⟩ := r1
      obtain ⟨s2, c2⟩ := r2
      dsimp only at hcode h0 ⊢
      subst hcode
      simp [h0]
end Go.Fw
