/-
  RateHolds' plain law: the model returns true. No program in it.
-/
import Derived.Test.YtohbkbimgfkblaaAheadLib
namespace Go.Fw
theorem holds_num {A lo hi z x i : Int} (h0 : 0 ≤ i) (h1 : i ≤ 19) (hA : -86400000 ≤ A ∧ A ≤ 86400000) (hlo : -172800000 ≤ lo ∧ lo ≤ 172800000) (hhi : -172800000 ≤ hi ∧ hi ≤ 172800000) (hle : lo ≤ hi) (hz : A + i * lo ≤ z ∧ z ≤ A + i * hi) :
    (-9223372036854775808 ≤ z + max lo (min hi x) ∧ z + max lo (min hi x) ≤ 9223372036854775807) ∧ A + (i + 1) * lo ≤ z + max lo (min hi x) ∧ z + max lo (min hi x) ≤ A + (i + 1) * hi ∧ spanB ⟨A + (i + 1) * lo, A + (i + 1) * hi⟩ = true := by
  have b1 := mul_bd h0 (by omega) hlo
  have b2 := mul_bd h0 (by omega) hhi
  have m1 : (i + 1) * lo = i * lo + lo := by rw [Int.add_mul, Int.one_mul]
  have m2 : (i + 1) * hi = i * hi + hi := by rw [Int.add_mul, Int.one_mul]
  rw [m1, m2]
  generalize i * lo = p at *
  generalize i * hi = q at *
  refine ⟨by omega, by omega, by omega, ?_⟩
  simp only [spanB, Bool.and_eq_true, decide_eq_true_eq]
  omega
theorem ahead_ok {a : GBox} {n d A : Int} (hv : vBox a = true) (hA : lastS a = A) (h1 : ¬ n < 1) (h2 : ¬ (((dl 1 a.Errors).length : Nat) : Int) < n) (h3 : 1 ≤ d) (h4 : d ≤ 400)
    (hs : spanB ⟨A + d * loS (lastN n (dl 1 a.Errors)), A + d * hiS (lastN n (dl 1 a.Errors))⟩ = true) : aheadS a n d = (⟨A + d * loS (lastN n (dl 1 a.Errors)), A + d * hiS (lastN n (dl 1 a.Errors))⟩, 0) := by
  unfold aheadS
  have hw : inB 1 400 d = true := by rw [inB_iff]; omega
  rw [if_pos hv, hw, decide_eq_false h1, if_neg (by simp), if_neg h2, hA, if_pos hs]
theorem holds_if {L H z : Int} (h1 : L ≤ z) (h2 : z ≤ H) : (if ((((⟨L, H⟩, 0) : GSpan × Int).2 != 0 || decide (z < (((⟨L, H⟩, 0) : GSpan × Int).1.Lo))) || decide ((((⟨L, H⟩, 0) : GSpan × Int).1.Hi) < z)) = true then some (Step.done (S := Int) (X := Ctl Unit Bool) (Ctl.ret false)) else some (Step.cont z)) = some (Step.cont z) := by
  rw [if_neg]
  simp only [bne_self_eq_false, Bool.false_or, Bool.or_eq_true, decide_eq_true_eq]
  omega
theorem law_noongunlaw06_RateHolds (a0 : GBox) (_ok0 : okGBox a0) (a1 : Int) (_ok1 : inI a1 = true) (a2 : (List Int)) (_ok2 : ∀ a ∈ a2, (fun a => inI a = true) a) (_len2 : a2.length ≤ maxLen) : noongunlaw06_RateHolds a0 a1 a2 = some true := by
  unfold noongunlaw06_RateHolds
  simp only [mk_eta, fit_one, Option.bind_some, awake_eq]
  by_cases hc : ((!fitB a0 || decide (20 < ((a2.length : Nat) : Int))) || decide (a1 < 1)) = true
  · rw [if_pos hc]
  · rw [if_neg hc]
    simp only [Bool.or_eq_true, Bool.not_eq_true', decide_eq_true_eq, not_or, Bool.not_eq_false] at hc
    obtain ⟨⟨hf, h20⟩, h1⟩ := hc
    have hn : a0.Name.size ≤ 1000 := by
      simp only [fitB, Bool.not_eq_true', Bool.or_eq_false_iff, decide_eq_false_iff_not] at hf
      omega
    rw [Daily_eq _ hn, Option.bind_some]
    unfold dailyS
    cases hv : vBox a0 with
    | false => rfl
    | true =>
      simp only [if_true]
      have hl := vB_len hv
      have hdl : (dl 1 a0.Errors).length = a0.Errors.length - 1 := by rw [dl_len, Nat.div_one]
      by_cases hlt : (((dl 1 a0.Errors).length : Nat) : Int) < a1
      · simp only [hlt, decide_true, Bool.or_true, if_true]
      · have hbd : ∀ y ∈ dl 1 a0.Errors, -172800000 ≤ y ∧ y ≤ 172800000 := dl_mem (B := 86400000) (by omega) (vB_errors hv)
        have hcut := lastN_eq (dl 1 a0.Errors) a1 (by omega) (by omega)
        have hlast : ∀ y ∈ lastN a1 (dl 1 a0.Errors), -172800000 ≤ y ∧ y ≤ 172800000 := fun y hy => hbd y (List.mem_of_mem_drop hy)
        have hne := lastN_ne (dl 1 a0.Errors) a1 (by omega) (by omega)
        have hlo := loS_bd (B := 172800000) (by omega) _ hlast
        have hhi := hiS_bd (B := 172800000) (by omega) _ hlast
        have hle := lo_le_hi _ hne
        have el : a0.Errors[a0.Errors.length - 1]? = some a0.Errors[a0.Errors.length - 1] := List.getElem?_eq_getElem (by omega)
        have hE := vB_errors hv _ (List.getElem_mem (show a0.Errors.length - 1 < a0.Errors.length by omega))
        simp only [hlt, bne_self_eq_false, decide_false, Bool.or_false, Bool.false_eq_true, if_false]
        rw [subI_ok (by omega), Option.bind_some, hcut, Option.bind_some, Least_eq _ hne, Option.bind_some, Option.bind_some, hcut, Option.bind_some, Greatest_eq _ hne, Option.bind_some, subI_ok (by omega), Option.bind_some,
          show ((a0.Errors.length : Nat) : Int) - 1 = ((a0.Errors.length - 1 : Nat) : Int) by omega, idx_at el, Option.bind_some]
        obtain ⟨s, e1, _⟩ := rangeN_inv (S := Int) (X := Ctl Unit Bool) (fin := fun _ => Ctl.next ())
          (body := fun ik1 z2 => (idx a2 ik1).bind fun x2 => (addI z2 (max (loS (lastN a1 (dl 1 a0.Errors))) (min (hiS (lastN a1 (dl 1 a0.Errors))) x2))).bind fun t13 => (addI ik1 1).bind fun t14 => (rate_Ahead a0 a1 t14).bind fun o =>
              if (((o.2 != 0) || (decide (t13 < o.1.Lo))) || (decide (o.1.Hi < t13))) = true then some (Step.done (Ctl.ret false)) else some (Step.cont t13))
          (fun i z => a0.Errors[a0.Errors.length - 1] + (i : Int) * loS (lastN a1 (dl 1 a0.Errors)) ≤ z ∧ z ≤ a0.Errors[a0.Errors.length - 1] + (i : Int) * hiS (lastN a1 (dl 1 a0.Errors))) a2.length a0.Errors[a0.Errors.length - 1] (fun i z hi hz => by
            have e : a2[i]? = some a2[i] := List.getElem?_eq_getElem hi
            obtain ⟨n1, n2, n3, n4⟩ := holds_num (x := a2[i]) (i := (i : Int)) (by omega) (by omega) hE hlo hhi hle hz
            refine ⟨z + max (loS (lastN a1 (dl 1 a0.Errors))) (min (hiS (lastN a1 (dl 1 a0.Errors))) a2[i]), ?_, n2, n3⟩
            have hlS : lastS a0 = a0.Errors[a0.Errors.length - 1] := by unfold lastS; rw [List.getD_eq_getElem?_getD, el]; rfl
            have hA := ahead_ok (d := (i : Int) + 1) hv hlS h1 hlt (by omega) (by omega) n4
            rw [idx_at e, Option.bind_some, addI_ok n1, Option.bind_some, addI_ok (by omega), Option.bind_some, Ahead_eq a0 a1 _ hn, Option.bind_some, hA]
            exact holds_if n2 n3) (by simp)
        rw [Int.toNat_natCast]
        have e2 := congrArg (fun o => Option.bind o (fun o : Ctl Unit Bool => match o with | .next _ => some true | .ret r => some r | .exit _ _ => none)) e1
        refine Eq.trans ?_ e2
        rfl
end Go.Fw
