/-
  SightNarrows, plain: a further sight makes no bounds wider.
-/
import Derived.Test.YtailgbhadhoedaaBetLib
namespace Go.Fw
open Go.Gr
theorem Added_spec (x : GNet) (s : GSight) : ∃ y e, sight_Added x s = some (y, e) ∧ (e = 0 → vNet x = true ∧ vNet y = true ∧ y = ⟨x.Rates, x.Sights ++ [s]⟩) := by
  unfold sight_Added
  rw [eta, valid_eq, Option.bind_some]
  cases hx : vNet x with
  | false => exact ⟨_, _, rfl, fun h => by cases h⟩
  | true =>
    obtain ⟨h1, h2, h3, h4, h5, h6⟩ := vNet_iff.1 hx
    rw [if_neg (by decide), validSight_eq s (by omega)]
    cases hs : vSight ((x.Rates.length : Nat) : Int) s with
    | false => exact ⟨_, _, rfl, fun h => by cases h⟩
    | true =>
      refine ⟨if x.Sights.length = 30 then ⟨[], []⟩ else ⟨x.Rates, x.Sights ++ [s]⟩, if x.Sights.length = 30 then 4 else 0, ?_, fun h => ?_⟩
      · rw [Option.bind_some, Option.bind_some, if_neg (by decide)]
        by_cases hl : x.Sights.length = 30
        · rw [if_pos (by rw [hl]; decide), if_pos hl, if_pos hl]
        · rw [if_neg (by rw [beq_iff_eq]; omega), if_neg hl, if_neg hl]
          unfold slices_Clone_int slices_Clone_Sight appI
          rw [if_pos (by simp only [List.length_nil]; omega), Option.bind_some, Option.bind_some, if_pos (by simp only [List.length_nil]; omega), Option.bind_some, Option.bind_some, if_pos (by simp; omega), Option.bind_some]
          rfl
      · by_cases hl : x.Sights.length = 30
        · rw [if_pos hl] at h; cases h
        · rw [if_neg hl]
          refine ⟨rfl, vNet_iff.2 ⟨h1, h2, h3, by simp; omega, h5, fun s' hs' => ?_⟩, rfl⟩
          rcases List.mem_append.1 hs' with h | h
          · exact h6 s' h
          · rw [List.mem_singleton.1 h]; exact hs
theorem law_noongunlaw02_SightNarrows (a0 : GNet) (_ : okGNet a0) (a1 : GSight) (_ : okGSight a1) (a2 : GArr3) (_ : okGArr3 a2) : noongunlaw02_SightNarrows a0 a1 a2 = some true := by
  unfold noongunlaw02_SightNarrows
  obtain ⟨L, hL⟩ : ∃ L, noongunlaw02_Light (GNet.mk a0.Rates a0.Sights) = some L := ⟨_, rfl⟩
  rw [hL, Option.bind_some, awake_eq, eta]
  cases L with
  | false => rfl
  | true =>
    rw [if_neg (by decide)]
    obtain ⟨y, e, h1, h2⟩ := Added_spec a0 a1
    refine (bindS h1).trans ?_
    refine (bindS (Between_eq _ _ _ _)).trans ?_
    by_cases hc : e = 0 ∧ (betweenF a0 a2.x0 a2.x1 a2.x2).2 = 0
    · obtain ⟨rfl, h0⟩ := hc
      obtain ⟨_, hy, e1⟩ := h2 rfl
      obtain ⟨hi, lo, e2, ok⟩ := betweenF_ok h0
      rw [e2]
      dsimp only
      refine (if_neg (by decide)).trans ?_
      rw [eta]
      refine (bindS (Between_eq _ _ _ _)).trans ?_
      have hr : rateF y = rateF a0 := by rw [e1]; rfl
      have hd : Dom (ENx a0) (ENx y) := Dom.sub fun p q c h => by
        rcases h with h | ⟨s, hs, h⟩
        · exact .inl (by rw [hr]; exact h)
        · exact .inr ⟨s, by rw [e1]; exact List.mem_append_left _ hs, h⟩
      have hcl : ∀ c, inCl y c = inCl a0 c := fun c => by rw [e1]; rfl
      have ga := spot_good (x := y) (c := a2.x0) (t := a2.x2) (inCl_iff.1 ((hcl _).trans ok.ca)) ok.time
      have gb := spot_good (x := y) (c := a2.x1) (t := a2.x2) (inCl_iff.1 ((hcl _).trans ok.cb)) ok.time
      by_cases hn : NoNeg (ENx y)
      · obtain ⟨d1, q1, q2⟩ := hd.way ok.up.1
        obtain ⟨d2, q3, q4⟩ := hd.way ok.down.1
        rcases least_or hy hn gb ga with ⟨c1, l1, b1⟩ | ⟨_, l1⟩
        · rcases least_or hy hn ga gb with ⟨c2, l2, b2⟩ | ⟨_, l2⟩
          · have ok' : BetOk y a2.x0 a2.x1 a2.x2 c1 c2 := ⟨hy, (hcl _).trans ok.ca, (hcl _).trans ok.cb, ok.time, hn, l1, l2, b1, b2⟩
            rw [ok'.eq]
            dsimp only
            refine (if_neg (by decide)).trans ?_
            have := l1.2 _ q2
            have := l2.2 _ q4
            unfold noongunlaw02_inside
            dsimp only
            rw [decide_eq_true (show -lo ≤ -c2 by omega), decide_eq_true (show c1 ≤ hi by omega)]
            rfl
          · exact absurd q4 (l2 _)
        · exact absurd q2 (l1 _)
      · have : betweenF y a2.x0 a2.x1 a2.x2 = (⟨0, 0⟩, 9) := by
          unfold betweenF
          rw [if_pos hy, if_pos (by simp [hcl, ok.ca, ok.cb]), if_pos ok.time, if_neg hn]
        rw [this]
        rfl
    · generalize betweenF a0 a2.x0 a2.x1 a2.x2 = r at hc
      obtain ⟨s, c⟩ := r
      dsimp only at hc ⊢
      refine (if_pos ?_).trans rfl
      by_cases he : e = 0
      · simp [he]; exact fun h => hc ⟨he, h⟩
      · simp [he]
end Go.Fw
