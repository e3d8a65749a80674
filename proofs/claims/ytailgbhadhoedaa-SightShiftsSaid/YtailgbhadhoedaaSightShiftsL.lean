/-
  SightShifts, plain: a clock's error that is greater shifts its own bounds and no other's.
-/
import Derived.Test.YtailgbhadhoedaaBetLib
namespace Go.Fw
open Go.Gr
theorem rangeL_build {α β X : Type} (p : α → Bool) (g : α → β) (y : X) {body : Int → α → List β → Option (Step (List β) X)} {fin : List β → X} : ∀ (l : List α) (i : Int) (acc : List β), acc.length + l.length ≤ 1000 →
    (∀ i x s, x ∈ l → s.length ≤ 999 → body i x s = some (if p x = true then .cont (s ++ [g x]) else .done y)) → rangeL body fin l i acc = some (if l.all p = true then fin (acc ++ l.map g) else y)
  | [], i, acc, _, _ => by rw [rangeL]; simp
  | x :: l, i, acc, hl, h => by
    rw [List.length_cons] at hl
    rw [rangeL, h i x acc (List.mem_cons_self ..) (by omega), Option.bind_some]
    cases hp : p x with
    | false => simp [hp]
    | true =>
      rw [if_pos rfl]
      have := rangeL_build p g y (fin := fin) l (i + 1) (acc ++ [g x]) (by simp; omega) fun i x s hx => h i x s (List.mem_cons_of_mem _ hx)
      rw [List.all_cons, hp, Bool.true_and, List.map_cons, show acc ++ g x :: l.map g = (acc ++ [g x]) ++ l.map g by simp]
      exact this
def shiftS (c d : Int) (s : GSight) : GSight := if c = s.A then ⟨s.At, s.A, s.B, s.Lo + d, s.Hi + d⟩ else if c = s.B then ⟨s.At, s.A, s.B, s.Lo - d, s.Hi - d⟩ else s
theorem Shifted_spec (x : GNet) (c d : Int) : ∃ y e, sight_Shifted x c d = some (y, e) ∧ (e = 0 → vNet x = true ∧ vNet y = true ∧ c ≠ 0 ∧ (-86400000 ≤ d ∧ d ≤ 86400000) ∧ y = ⟨x.Rates, x.Sights.map (shiftS c d)⟩) := by
  unfold sight_Shifted
  rw [eta, valid_eq, Option.bind_some]
  cases hx : vNet x with
  | false => exact ⟨_, _, rfl, fun h => by cases h⟩
  | true =>
    obtain ⟨h1, h2, h3, h4, h5, h6⟩ := vNet_iff.1 hx
    rw [if_neg (by decide), sub1 (by omega), Option.bind_some, within_and, Option.bind_some]
    by_cases hc : 1 ≤ c ∧ c ≤ (x.Rates.length : Int) - 1
    · rw [decide_eq_true hc.1, decide_eq_true hc.2, if_neg (by decide), within_and, Option.bind_some]
      by_cases hd : -86400000 ≤ d ∧ d ≤ 86400000
      · rw [decide_eq_true hd.1, decide_eq_true hd.2, if_neg (by decide)]
        unfold slices_Clone_int
        have e1 : appI ([] : List Int) x.Rates = some x.Rates := by unfold appI; rw [if_pos (by simp only [List.length_nil]; omega)]; rfl
        rw [e1, Option.bind_some, Option.bind_some]
        rw [rangeL_build (fun s => vSight (x.Rates.length : Int) (shiftS c d s)) (shiftS c d) (Ctl.ret (GNet.mk [] [], 4))]
        · rw [Option.bind_some]
          by_cases ha : (x.Sights.all fun s => vSight (x.Rates.length : Int) (shiftS c d s)) = true
          · rw [if_pos ha]
            refine ⟨_, _, rfl, fun _ => ⟨rfl, vNet_iff.2 ⟨h1, h2, h3, by simpa using h4, h5, fun s hs => ?_⟩, by omega, hd, rfl⟩⟩
            obtain ⟨s', hs', rfl⟩ := List.mem_map.1 hs
            exact List.all_eq_true.1 ha s' hs'
          · rw [if_neg ha]
            exact ⟨_, _, rfl, fun h => by cases h⟩
        · simp only [List.length_nil]; omega
        · intro i s acc hs hacc
          obtain ⟨_, _, _, _, _, _, _, l1, l2, l3⟩ := vSight_iff.1 (h6 s hs)
          have hv : ∀ lo hi, sight_validSight (GSight.mk s.At s.A s.B lo hi) ((x.Rates.length : Nat) : Int) = some (vSight (x.Rates.length : Int) ⟨s.At, s.A, s.B, lo, hi⟩) := fun lo hi => validSight_eq _ (by omega)
          have happ : ∀ z : GSight, appI acc [z] = some (acc ++ [z]) := fun z => by unfold appI; rw [if_pos (by simp; omega)]
          unfold shiftS
          by_cases hA : c = s.A
          · rw [if_pos (beq_iff_eq.2 hA), if_pos hA, addI_ok (by omega), Option.bind_some, addI_ok (by omega)]
            simp only [Option.bind_some, hv, happ]
            cases vSight (x.Rates.length : Int) ⟨s.At, s.A, s.B, s.Lo + d, s.Hi + d⟩ <;> rfl
          · rw [if_neg (by simpa using hA), if_neg hA]
            by_cases hB : c = s.B
            · rw [if_pos (beq_iff_eq.2 hB), if_pos hB, subI_ok (by omega), Option.bind_some, subI_ok (by omega)]
              simp only [Option.bind_some, hv, happ]
              cases vSight (x.Rates.length : Int) ⟨s.At, s.A, s.B, s.Lo - d, s.Hi - d⟩ <;> rfl
            · rw [if_neg (by simpa using hB), if_neg hB]
              simp only [Option.bind_some, hv, happ]
              cases vSight (x.Rates.length : Int) ⟨s.At, s.A, s.B, s.Lo, s.Hi⟩ <;> rfl
      · have : (decide (-86400000 ≤ d) && decide (d ≤ 86400000)) = false := by rw [Bool.and_eq_false_iff, decide_eq_false_iff_not, decide_eq_false_iff_not]; omega
        rw [this, if_pos (by decide)]
        exact ⟨_, _, rfl, fun h => by cases h⟩
    · have : (decide (1 ≤ c) && decide (c ≤ (x.Rates.length : Int) - 1)) = false := by rw [Bool.and_eq_false_iff, decide_eq_false_iff_not, decide_eq_false_iff_not]; omega
      rw [this, if_pos (by decide)]
      exact ⟨_, _, rfl, fun h => by cases h⟩
def dl (c d : Int) (k : Int) : Int := if k = c then d else 0
theorem shiftS_lo {c d : Int} {s : GSight} (h : s.A ≠ s.B) : (shiftS c d s).At = s.At ∧ (shiftS c d s).A = s.A ∧ (shiftS c d s).B = s.B ∧ (shiftS c d s).Lo = s.Lo + dl c d s.A - dl c d s.B ∧ (shiftS c d s).Hi = s.Hi + dl c d s.A - dl c d s.B := by
  unfold shiftS dl
  by_cases hA : c = s.A
  · rw [if_pos hA, if_pos hA.symm, if_neg (by omega)]
    exact ⟨rfl, rfl, rfl, by show s.Lo + d = _; omega, by show s.Hi + d = _; omega⟩
  · rw [if_neg hA, if_neg (show ¬ s.A = c from fun h => hA h.symm)]
    by_cases hB : c = s.B
    · rw [if_pos hB, if_pos hB.symm]
      exact ⟨rfl, rfl, rfl, by show s.Lo - d = _; omega, by show s.Hi - d = _; omega⟩
    · rw [if_neg hB, if_neg (show ¬ s.B = c from fun h => hB h.symm)]
      exact ⟨rfl, rfl, rfl, by omega, by omega⟩
theorem shift_steps {x y : GNet} {c d : Int} (hx : vNet x = true) (hy : y = ⟨x.Rates, x.Sights.map (shiftS c d)⟩) :
    (∀ p q w, ENx x p q w → ENx y p q (w + dl c d q.clock - dl c d p.clock)) ∧ ∀ p q w, ENx y p q w → ENx x p q (w - dl c d q.clock + dl c d p.clock) := by
  have h6 := (vNet_iff.1 hx).2.2.2.2.2
  have hr : rateF y = rateF x := by rw [hy]; rfl
  constructor
  · rintro p q w (⟨h1, h2⟩ | ⟨s, hs, h⟩)
    · exact .inl ⟨h1, by rw [hr, h1]; rw [h1] at h2; omega⟩
    · obtain ⟨_, _, _, _, _, _, hne, _⟩ := vSight_iff.1 (h6 s hs)
      obtain ⟨e1, e2, e3, e4, e5⟩ := shiftS_lo (c := c) (d := d) hne
      refine .inr ⟨shiftS c d s, by rw [hy]; exact List.mem_map.2 ⟨s, hs, rfl⟩, ?_⟩
      rw [e1, e2, e3, e4, e5]
      rcases h with ⟨rfl, rfl, rfl⟩ | ⟨rfl, rfl, rfl⟩
      · exact .inl ⟨rfl, rfl, rfl⟩
      · exact .inr ⟨rfl, rfl, by unfold spot; dsimp only; omega⟩
  · rintro p q w (⟨h1, h2⟩ | ⟨s', hs', h⟩)
    · exact .inl ⟨h1, by rw [hr] at h2; rw [h1] at h2 ⊢; omega⟩
    · rw [hy] at hs'
      obtain ⟨s, hs, rfl⟩ := List.mem_map.1 hs'
      obtain ⟨_, _, _, _, _, _, hne, _⟩ := vSight_iff.1 (h6 s hs)
      obtain ⟨e1, e2, e3, e4, e5⟩ := shiftS_lo (c := c) (d := d) hne
      rw [e1, e2, e3, e4, e5] at h
      refine .inr ⟨s, hs, ?_⟩
      rcases h with ⟨rfl, rfl, rfl⟩ | ⟨rfl, rfl, rfl⟩
      · exact .inl ⟨rfl, rfl, by unfold spot; dsimp only; omega⟩
      · exact .inr ⟨rfl, rfl, by unfold spot; dsimp only; omega⟩
theorem between_shift {x y : GNet} {c d : Int} (hx : vNet x = true) (hyv : vNet y = true) (hc : c ≠ 0) (hy : y = ⟨x.Rates, x.Sights.map (shiftS c d)⟩) (k t : Int) :
    betweenF y k 0 t = if (betweenF x k 0 t).2 = 0 then (⟨(betweenF x k 0 t).1.Lo + dl c d k, (betweenF x k 0 t).1.Hi + dl c d k⟩, 0) else betweenF x k 0 t := by
  obtain ⟨s1, s2⟩ := shift_steps hx hy
  have hl : ∀ p q w, Least (ENx x) p q w ↔ Least (ENx y) p q (w + dl c d q.clock - dl c d p.clock) := fun p q w => shift_least (fun p : GPoint => dl c d p.clock) s1 s2 w
  have hn : NoNeg (ENx y) ↔ NoNeg (ENx x) := ⟨fun h => shift_noNeg (E := ENx y) (E' := ENx x) (fun p : GPoint => -dl c d p.clock) (fun p q w e => by
    have := s1 p q w e
    rw [show w - -dl c d q.clock + -dl c d p.clock = w + dl c d q.clock - dl c d p.clock by omega]
    exact this) h, shift_noNeg (fun p : GPoint => dl c d p.clock) s2⟩
  have hlo : ∀ p q, leastO (ENx y) p q = (leastO (ENx x) p q).map fun w => w + dl c d q.clock - dl c d p.clock := by
    intro p q
    cases h : leastO (ENx x) p q with
    | some w => exact leastO_some.2 ((hl p q w).1 (leastO_some.1 h))
    | none =>
      rw [leastO_none_iff] at h
      show _ = none
      rw [leastO_none_iff]
      rintro ⟨w, hw⟩
      refine h ⟨w - dl c d q.clock + dl c d p.clock, (hl p q _).2 ?_⟩
      rw [show w - dl c d q.clock + dl c d p.clock + dl c d q.clock - dl c d p.clock = w by omega]
      exact hw
  have hcl : ∀ a, inCl y a = inCl x a := fun a => by rw [hy]; rfl
  have h0 : dl c d 0 = 0 := if_neg (fun h => hc h.symm)
  have hall : [k, 0].all (inCl y) = [k, 0].all (inCl x) := by rw [show inCl y = inCl x from funext hcl]
  by_cases g1 : [k, 0].all (inCl x) = true
  · by_cases g2 : 0 ≤ t ∧ t ≤ 1000000000000
    · by_cases g3 : NoNeg (ENx x)
      · cases l1 : leastO (ENx x) (spot 0 t) (spot k t) with
        | none =>
          have e1 : betweenF x k 0 t = (⟨0, 0⟩, 8) := by unfold betweenF; rw [if_pos hx, if_pos g1, if_pos g2, if_pos g3, l1]
          have e2 : betweenF y k 0 t = (⟨0, 0⟩, 8) := by unfold betweenF; rw [if_pos hyv, if_pos (hall.trans g1), if_pos g2, if_pos (hn.2 g3), hlo, l1]; rfl
          rw [e1, e2]; rfl
        | some hi =>
          cases l2 : leastO (ENx x) (spot k t) (spot 0 t) with
          | none =>
            have e1 : betweenF x k 0 t = (⟨0, 0⟩, 8) := by unfold betweenF; rw [if_pos hx, if_pos g1, if_pos g2, if_pos g3, l1, l2]
            have e2 : betweenF y k 0 t = (⟨0, 0⟩, 8) := by unfold betweenF; rw [if_pos hyv, if_pos (hall.trans g1), if_pos g2, if_pos (hn.2 g3), hlo, hlo, l1, l2]; rfl
            rw [e1, e2]; rfl
          | some lo =>
            have e1 : betweenF x k 0 t = (⟨-lo, hi⟩, 0) := by unfold betweenF; rw [if_pos hx, if_pos g1, if_pos g2, if_pos g3, l1, l2]
            have e2 : betweenF y k 0 t = (⟨-(lo + dl c d 0 - dl c d k), hi + dl c d k - dl c d 0⟩, 0) := by unfold betweenF; rw [if_pos hyv, if_pos (hall.trans g1), if_pos g2, if_pos (hn.2 g3), hlo, hlo, l1, l2]; rfl
            rw [e1, e2, if_pos rfl, h0, show -(lo + 0 - dl c d k) = -lo + dl c d k by omega, Int.sub_zero]
      · have e1 : betweenF x k 0 t = (⟨0, 0⟩, 9) := by unfold betweenF; rw [if_pos hx, if_pos g1, if_pos g2, if_neg g3]
        have e2 : betweenF y k 0 t = (⟨0, 0⟩, 9) := by unfold betweenF; rw [if_pos hyv, if_pos (hall.trans g1), if_pos g2, if_neg (fun h => g3 (hn.1 h))]
        rw [e1, e2]; rfl
    · have e1 : betweenF x k 0 t = (⟨0, 0⟩, 7) := by unfold betweenF; rw [if_pos hx, if_pos g1, if_neg g2]
      have e2 : betweenF y k 0 t = (⟨0, 0⟩, 7) := by unfold betweenF; rw [if_pos hyv, if_pos (hall.trans g1), if_neg g2]
      rw [e1, e2]; rfl
  · have e1 : betweenF x k 0 t = (⟨0, 0⟩, 5) := by unfold betweenF; rw [if_pos hx, if_neg g1]
    have e2 : betweenF y k 0 t = (⟨0, 0⟩, 5) := by unfold betweenF; rw [if_pos hyv, if_neg (by rw [hall]; exact g1)]
    rw [e1, e2]; rfl
theorem Error_eq (x : GNet) (a t : Int) : sight_Error x a t = some (betweenF x a 0 t) := by
  unfold sight_Error
  rw [eta]
  exact (bindS (Between_eq _ _ _ _)).trans rfl
theorem law_noongunlaw02_SightShifts (a0 : GNet) (_ : okGNet a0) (a1 : GArr2) (_ : okGArr2 a1) (a2 : GArr2) (_ : okGArr2 a2) : noongunlaw02_SightShifts a0 a1 a2 = some true := by
  unfold noongunlaw02_SightShifts
  obtain ⟨L, hL⟩ : ∃ L, noongunlaw02_Light (GNet.mk a0.Rates a0.Sights) = some L := ⟨_, rfl⟩
  rw [hL, Option.bind_some, awake_eq, eta]
  cases L with
  | false => rfl
  | true =>
    rw [if_neg (by decide)]
    obtain ⟨y, e, h1, h2⟩ := Shifted_spec a0 a1.x0 a2.x0
    refine (bindS h1).trans ?_
    dsimp only
    by_cases he : e = 0
    · subst he
      obtain ⟨hx, hyv, hc, hd, hy⟩ := h2 rfl
      refine (if_neg (by decide)).trans ?_
      refine (bindS (Error_eq _ _ _)).trans ?_
      rw [eta]
      have b1 := between_shift hx hyv hc hy a1.x0 a2.x1
      have b2 := between_shift hx hyv hc hy a1.x1 a2.x1
      rw [show dl a1.x0 a2.x0 a1.x0 = a2.x0 from if_pos rfl] at b1
      have tail : ((sight_Error a0 a1.x1 a2.x1).bind (fun o => match o with
        | (t12, t13) =>
          (sight_Error y a1.x1 a2.x1).bind (fun o => match o with
            | (t14, t15) =>
              ((if ((a1.x1 == a1.x0) || ((t12 == t14) && (t13 == t15))) = true then
                (some true).bind (fun t16 =>
                some t16)
              else
                some false) : Option Bool).bind (fun b9 =>
              some b9)))) = some true := by
        refine (bindS (Error_eq _ _ _)).trans ?_
        have hcond : ((a1.x1 == a1.x0) || (((betweenF a0 a1.x1 0 a2.x1).1 == (betweenF y a1.x1 0 a2.x1).1) && ((betweenF a0 a1.x1 0 a2.x1).2 == (betweenF y a1.x1 0 a2.x1).2))) = true := by
          by_cases hk : a1.x1 = a1.x0
          · simp [hk]
          · rw [show dl a1.x0 a2.x0 a1.x1 = 0 from if_neg hk] at b2
            by_cases g : (betweenF a0 a1.x1 0 a2.x1).2 = 0
            · rw [if_pos g] at b2
              rw [b2]
              simp [g]
            · rw [if_neg g] at b2
              rw [b2]
              simp
        generalize betweenF a0 a1.x1 0 a2.x1 = r1 at hcond
        obtain ⟨s1, c1⟩ := r1
        refine (bindS (Error_eq _ _ _)).trans ?_
        generalize betweenF y a1.x1 0 a2.x1 = r2 at hcond
        obtain ⟨s2, c2⟩ := r2
        dsimp only at hcond ⊢
        rw [if_pos hcond]
        rfl
      by_cases g : (betweenF a0 a1.x0 0 a2.x1).2 = 0
      · obtain ⟨hi, lo, e1, ok⟩ := betweenF_ok g
        rw [e1, if_pos rfl] at b1
        rw [e1]
        dsimp only
        refine (bindS (Error_eq _ _ _)).trans ?_
        rw [b1]
        dsimp only
        have := ok.bhi; have := ok.blo
        rw [if_neg (by decide), if_pos (by decide), addI_ok (by omega), Option.bind_some, addI_ok (by omega), Option.bind_some, Option.bind_some, Option.bind_some, if_neg (by simp)]
        exact tail
      · rw [if_neg g] at b1
        generalize betweenF a0 a1.x0 0 a2.x1 = r1 at b1 g
        obtain ⟨s1, c1⟩ := r1
        dsimp only at g ⊢
        refine (bindS (Error_eq _ _ _)).trans ?_
        rw [b1]
        dsimp only
        rw [if_neg (by simp), if_neg (by simpa using g), Option.bind_some, Option.bind_some, if_neg (by decide)]
        exact tail
    · refine (if_pos (by simpa using he)).trans rfl
end Go.Fw
