/-
  FlagHoists, plain: its model gives true for whatever comes in. No condition.
-/
import Derived.Test.YtecedifkjafneaaHoistLib2
namespace Go.Fw
theorem law_noongunlaw07_FlagHoists (a0 : (List Int)) (_ : ∀ a ∈ a0, (fun a => inI a = true) a) (_ : a0.length ≤ maxLen) (a1 : Int) (_ : inI a1 = true) (a2 : (List Int)) (_ : ∀ a ∈ a2, (fun a => inI a = true) a) (_ : a2.length ≤ maxLen) : noongunlaw07_FlagHoists a0 a1 a2 = some true := by
  unfold noongunlaw07_FlagHoists
  split
  · rw [awake_eq]; rfl
  · simp only [Hoists_eq, rHoists_eq, With_eq, rWith_eq, Missed_eq, rMissed_eq, Option.bind_some, sameHoists_refl, bne_self_eq_false, Bool.not_true, Bool.or_false, Bool.false_eq_true, if_false, same_eq, decide_true]
    unfold hoistsR
    by_cases h : ask a0 a1 = 0
    · rw [if_pos h]
      obtain ⟨h1, h2⟩ := ask_zero h
      obtain ⟨fl, rfl, hfl⟩ := set_nat h2
      simp only [bne_self_eq_false, Bool.false_eq_true, if_false, ValidHoist_eq, Option.bind_some, Int.toNat_natCast]
      cases hv : vH a2 with
      | false => simp [awake_eq]
      | true =>
        simp only [Bool.not_true, Bool.false_eq_true, if_false]
        rw [rangeL_fold (fun s x => s || decide (x = a2))]
        · obtain ⟨S, hS1, hS2, hS3⟩ := Flags_eq a2 hv
          simp only [Option.bind_some, Means_eq, meansR, hv, if_true, hS1, uses_bits a2 S fl hS2 hS3]
          have hfold : ∀ (l : List (List Int)) (b : Bool), l.foldl (fun s x => s || decide (x = a2)) b = (b || decide (a2 ∈ l)) := by
            intro l
            induction l with
            | nil => intro b; simp
            | cons y l ih =>
              intro b
              rw [List.foldl_cons, ih, Bool.or_assoc]
              congr 1
              rw [Bool.eq_iff_iff]
              simp only [Bool.or_eq_true, decide_eq_true_eq, List.mem_cons]
              exact ⟨fun h => h.imp Eq.symm id, fun h => h.imp Eq.symm id⟩
          have hmem : decide (a2 ∈ RH a0 fl) = (decide (meansL [] a2 = a0) && a2.all fun f => fl.testBit f.toNat) := by
            rw [Bool.eq_iff_iff]
            simp only [Bool.and_eq_true, decide_eq_true_eq, mem_RH, List.all_eq_true, uses]
            have := ((vH_iff a2).1 hv).2
            exact ⟨fun h => h.2, fun h => ⟨this, h⟩⟩
          rw [hfold, Bool.false_or, hmem]
          simp [awake_eq]
        · intro i x s _
          cases s with
          | true => simp
          | false => simp
    · rw [if_neg h]
      simp [h, awake_eq]
end Go.Fw
