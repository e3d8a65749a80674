/-
  SightBest, plain: the narrowest bounds, the last sight, the clocks that are joined.
-/
import Derived.Test.YtailgbhadhoedaaRefBet
namespace Go.Fw
open Go.Gr
theorem sError_eq (x : GNet) (a t : Int) : sight_Error x a t = some (betweenF x a 0 t) := by
  unfold sight_Error
  rw [eta]
  exact (bindS (Between_eq _ _ _ _)).trans rfl
theorem rError_eq (x : GNet) (h8 : vNet x = true → x.Sights.length ≤ 8) (a t : Int) : noongunref02_Error x a t = some (betweenF x a 0 t) := by
  unfold noongunref02_Error
  rw [eta]
  exact (bindS (refBetween_eq _ h8 _ _ _)).trans rfl
/-- What holds of a net that answers. -/
structure Calm (x : GNet) (t : Int) : Prop where
  valid : vNet x = true
  time : 0 ≤ t ∧ t ≤ 1000000000000
  noNeg : NoNeg (ENx x)
theorem between_spec {x : GNet} {t : Int} (h : Calm x t) {a b : Int} (ha : inCl x a = true) (hb : inCl x b = true) :
    ∃ sp k, sight_between x a b t = some (sp, k) ∧ (∃ w, subI sp.Hi sp.Lo = some w) ∧ (k = true → betweenF x a b t = (sp, 0)) ∧ (k = false → (betweenF x a b t).2 = 8) := by
  have e0 : betweenF x a b t = match leastO (ENx x) (spot b t) (spot a t), leastO (ENx x) (spot a t) (spot b t) with
    | some hi, some lo => (⟨-lo, hi⟩, 0)
    | _, _ => (⟨0, 0⟩, 8) := by
    unfold betweenF
    rw [if_pos h.valid, if_pos (by simp [ha, hb]), if_pos h.time, if_pos h.noNeg]
    rfl
  unfold sight_between
  by_cases hab : a = b
  · subst hab
    rw [if_pos (beq_self_eq_true a)]
    refine ⟨⟨0, 0⟩, true, rfl, ⟨0, rfl⟩, fun _ => ?_, fun h => by cases h⟩
    rw [e0, spot_self h.noNeg]
    rfl
  · rw [if_neg (by simpa using hab), pointOf_eq, Option.bind_some, pointOf_eq, Option.bind_some]
    obtain ⟨ks', st', g1, g⟩ := graph_spec h.valid (more := [spot a t, spot b t]) (fun r hr => by
      rcases List.mem_cons.1 hr with rfl | hr
      · exact spot_good (inCl_iff.1 ha) h.time
      · rw [List.mem_singleton.1 hr]
        exact spot_good (inCl_iff.1 hb) h.time) (by simp)
    have ma := g.sub (spot a t) (by simp)
    have mb := g.sub (spot b t) (by simp)
    obtain ⟨c1, k1, e1, b1, r1⟩ := g.leastG h.valid h.noNeg mb ma
    obtain ⟨c2, k2, e2, b2, r2⟩ := g.leastG h.valid h.noNeg ma mb
    refine ⟨⟨-c2, c1⟩, k1 && k2, (bindS g1).trans ((bindS e1).trans ((bindS e2).trans ?_)), ⟨_, subI_ok (by dsimp only; omega)⟩, ?_, ?_⟩
    · dsimp only
      unfold negI
      rw [if_pos (inI_iff.2 (by omega))]
      rfl
    · intro hk
      rw [Bool.and_eq_true] at hk
      obtain ⟨rfl, rfl⟩ := hk
      rcases r1 with ⟨_, r1⟩ | ⟨r1, _⟩
      · rcases r2 with ⟨_, r2⟩ | ⟨r2, _⟩
        · rw [e0, r1, r2]
        · cases r2
      · cases r1
    · intro hk
      rw [e0]
      rcases r1 with ⟨rfl, r1⟩ | ⟨_, r1, _⟩
      · rcases r2 with ⟨rfl, r2⟩ | ⟨_, r2, _⟩
        · cases hk
        · rw [r1, r2]
      · rw [r1]
noncomputable def widF (x : GNet) (t c : Int) : Int := (betweenF x c 0 t).1.Hi - (betweenF x c 0 t).1.Lo
noncomputable def stepB (x : GNet) (t c : Int) (s : Int × Int) : Int × Int := if (betweenF x c 0 t).2 = 0 ∧ (s.1 = 0 ∨ widF x t c < s.2) then (c, widF x t c) else s
noncomputable def foldB (x : GNet) (t : Int) : Nat → Int × Int
  | 0 => (0, 0)
  | j + 1 => if j = 0 then foldB x t j else stepB x t (j : Int) (foldB x t j)
theorem foldB_succ (x : GNet) (t : Int) (j : Nat) (h : 1 ≤ j) : foldB x t (j + 1) = stepB x t (j : Int) (foldB x t j) := by
  rw [foldB, if_neg (by omega)]
theorem best_fin {x : GNet} {t : Int} (h : Calm x t) : ∃ s, rangeN (S := Int × Int) (X := Int) (fun ik1 s =>
        match s with
        | (z3, z4) =>
            ((
              (sight_between (GNet.mk x.Rates x.Sights) (ik1 : Int) 0 t).bind (fun o => match o with
                | (t3, t4) =>
                  (subI t3.Hi t3.Lo).bind (fun t5 =>
                  ((
                    (if (((decide (0 < (ik1 : Int))) && t4) && ((z3 == 0) || (decide (t5 < z4)))) = true then
                      some ((ik1 : Int), t5)
                    else
                      some (z3, z4))) : Option (Int × Int)).bind (fun o => match o with
                    | (s4, s5) =>
                      some (s4, s5))))) : Option (Int × Int)).bind (fun o => match o with
              | (s2, s3) =>
                some (Step.cont (s2, s3)))) (fun s => match s with | (z3, _) => z3) (Int.toNat ((x.Rates.length : Nat) : Int)) 0 (0, 0) = some s ∧ s = (foldB x t x.Rates.length).1 := by
  have hv := vNet_iff.1 h.valid
  rw [Int.toNat_natCast]
  obtain ⟨s, h1, h2⟩ := rangeN_inv (S := Int × Int) (X := Int) (body := fun ik1 s =>
        match s with
        | (z3, z4) =>
            ((
              (sight_between (GNet.mk x.Rates x.Sights) (ik1 : Int) 0 t).bind (fun o => match o with
                | (t3, t4) =>
                  (subI t3.Hi t3.Lo).bind (fun t5 =>
                  ((
                    (if (((decide (0 < (ik1 : Int))) && t4) && ((z3 == 0) || (decide (t5 < z4)))) = true then
                      some ((ik1 : Int), t5)
                    else
                      some (z3, z4))) : Option (Int × Int)).bind (fun o => match o with
                    | (s4, s5) =>
                      some (s4, s5))))) : Option (Int × Int)).bind (fun o => match o with
              | (s2, s3) =>
                some (Step.cont (s2, s3)))) (fin := fun s => match s with | (z3, _) => z3) (fun j s => s = foldB x t j) x.Rates.length (0, 0) (fun j s hj hs => by
      subst hs
      refine ⟨foldB x t (j + 1), ?_, rfl⟩
      have hfj : foldB x t (j + 1) = if j = 0 then foldB x t j else stepB x t (j : Int) (foldB x t j) := rfl
      generalize foldB x t j = F at hfj ⊢
      obtain ⟨z3, z4⟩ := F
      dsimp only
      have c0 : inCl x 0 = true := inCl_iff.2 ⟨by omega, by omega⟩
      have cj : inCl x (j : Int) = true := inCl_iff.2 ⟨by omega, by omega⟩
      obtain ⟨sp, k, e1, ⟨w, e2⟩, e3, e4⟩ := between_spec h cj c0
      have hw : w = sp.Hi - sp.Lo := by
        unfold subI at e2
        split at e2
        · exact (Option.some.inj e2).symm
        · cases e2
      rw [eta, e1, Option.bind_some]
      dsimp only
      rw [e2, Option.bind_some]
      rcases Nat.eq_zero_or_pos j with rfl | hpos
      · rw [if_neg (by simp)]
        rw [hfj, if_pos rfl]
        rfl
      · rw [if_neg (by omega)] at hfj
        rw [hfj, decide_eq_true (show (0 : Int) < (j : Int) by omega)]
        unfold stepB widF
        cases k with
        | true =>
          rw [e3 rfl]
          dsimp only
          rw [← hw]
          by_cases hc : z3 = 0 ∨ w < z4
          · rw [if_pos (by simpa using hc), if_pos ⟨rfl, hc⟩]
            rfl
          · rw [if_neg (by simpa using hc), if_neg (fun h => hc h.2)]
            rfl
        | false =>
          rw [if_neg (by simp), if_neg (fun h => by rw [e4 rfl] at h; exact absurd h.1 (by decide))]
          rfl) rfl
  exact ⟨_, h1, by rw [h2]⟩
theorem best_ref {x : GNet} {t : Int} (h8 : vNet x = true → x.Sights.length ≤ 8) (h : Calm x t) : ∀ (d j : Nat), j + d = x.Rates.length → 1 ≤ j →
    loopR (S := Int × Int × Int) (X := Ctl (Int) (Int × Int)) (fun (s : Int × Int × Int) => match s with
      | (z4, z5, z6) =>
        (if (decide (z6 < ((x.Rates.length : Nat) : Int))) = true then
          ((
            (noongunref02_Width (GNet.mk x.Rates x.Sights) z6 t).bind (fun o => match o with
              | (t2, t3) =>
                (if (t3 == 9) = true then
                  some (Ctl.ret (0, t3))
                else
                  ((
                    (if ((t3 == 0) && ((z4 == 0) || (decide (t2 < z5)))) = true then
                      some (z6, t2)
                    else
                      some (z4, z5))) : Option (Int × Int)).bind (fun o => match o with
                    | (s4, s5) =>
                      some (Ctl.next (s4, s5)))))) : Option (Ctl (Int × Int) (Int × Int))).bind (fun o => match o with
            | .next (s2, s3) =>
              (addI z6 1).bind (fun t4 =>
              some (Step.cont (s2, s3, t4)))
            | .ret r => some (Step.done (Ctl.ret r))
            | .exit _ _ => none)
        else
          some (Step.done (Ctl.next z4)))) ((foldB x t j).1, (foldB x t j).2, (j : Int)) = some (Ctl.next (foldB x t x.Rates.length).1) := by
  have hv := vNet_iff.1 h.valid
  intro d
  induction d with
  | zero =>
    intro j hj _
    rw [show x.Rates.length = j by omega]
    refine loopR_done ?_
    dsimp only
    rw [if_neg (by simp)]
  | succ d ih =>
    intro j hj h1
    refine (loopR_cont _ ?_).trans (ih (j + 1) (by omega) (by omega))
    dsimp only
    rw [if_pos (by rw [decide_eq_true_eq]; omega)]
    have c0 : inCl x 0 = true := inCl_iff.2 ⟨by omega, by omega⟩
    have cj : inCl x (j : Int) = true := inCl_iff.2 ⟨by omega, by omega⟩
    obtain ⟨sp, k, _, _, e3, e4⟩ := between_spec h cj c0
    have hw9 : noongunref02_Width (GNet.mk x.Rates x.Sights) (j : Int) t = some (widF x t (j : Int), (betweenF x (j : Int) 0 t).2) := by
      unfold noongunref02_Width
      rw [eta]
      refine (bindS (rError_eq x h8 _ _)).trans ?_
      unfold widF
      by_cases hz : (betweenF x (j : Int) 0 t).2 = 0
      · obtain ⟨hi, lo, e, ok⟩ := betweenF_ok hz
        have := ok.bhi; have := ok.blo
        rw [e]
        dsimp only
        rw [subI_ok (by omega)]
        rfl
      · have hz1 : (betweenF x (j : Int) 0 t).1 = ⟨0, 0⟩ := by
          cases k with
          | true => rw [e3 rfl] at hz; exact absurd rfl hz
          | false =>
            unfold betweenF at hz ⊢
            rw [if_pos h.valid, if_pos (by simp [cj, c0]), if_pos h.time, if_pos h.noNeg] at hz ⊢
            cases l1 : leastO (ENx x) (spot 0 t) (spot (j : Int) t) with
            | none => rfl
            | some hi =>
              cases l2 : leastO (ENx x) (spot (j : Int) t) (spot 0 t) with
              | none => rfl
              | some lo => rw [l1, l2] at hz; exact absurd rfl hz
        generalize betweenF x (j : Int) 0 t = r at hz1
        obtain ⟨r1, r2⟩ := r
        dsimp only at hz1
        subst hz1
        rfl
    have h9 : ((betweenF x (j : Int) 0 t).2 == 9) = false := by
      cases k with
      | true => rw [e3 rfl]; rfl
      | false => rw [e4 rfl]; rfl
    rw [hw9, Option.bind_some]
    dsimp only
    rw [h9, if_neg (by decide), foldB_succ x t j h1]
    unfold stepB
    by_cases hc : (betweenF x (j : Int) 0 t).2 = 0 ∧ ((foldB x t j).1 = 0 ∨ widF x t (j : Int) < (foldB x t j).2)
    · rw [if_pos hc, if_pos (by simpa using hc), addI_ok (by omega)]
      rfl
    · rw [if_neg hc, if_neg (by simpa using hc), addI_ok (by omega)]
      rfl
theorem Best_same (x : GNet) (h8 : vNet x = true → x.Sights.length ≤ 8) (t : Int) : ∃ r, sight_Best x t = some r ∧ noongunref02_Best x t = some r := by
  unfold sight_Best noongunref02_Best
  rw [eta, asked_eq, Option.bind_some]
  cases hx : vNet x with
  | false =>
    refine ⟨(0, 1), (bindS (sError_eq x 0 t)).trans ?_, rfl⟩
    have : betweenF x 0 0 t = (⟨0, 0⟩, 1) := by unfold betweenF; rw [if_neg (by rw [hx]; decide)]
    rw [this]; rfl
  | true =>
    have hv := vNet_iff.1 hx
    have c0 : inCl x 0 = true := inCl_iff.2 ⟨by omega, by omega⟩
    have c1 : inCl x 1 = true := inCl_iff.2 ⟨by omega, by omega⟩
    have hall : ([] : List Int).all (inCl x) = true := rfl
    rw [if_pos rfl, if_pos hall]
    by_cases ht : 0 ≤ t ∧ t ≤ 1000000000000
    · rw [if_pos ht, if_neg (by decide)]
      by_cases hn : NoNeg (ENx x)
      · have hc : Calm x t := ⟨hx, ht, hn⟩
        have e0 : betweenF x 0 0 t = (⟨-0, 0⟩, 0) := by
          unfold betweenF
          rw [if_pos hx, if_pos (by simp [c0]), if_pos ht, if_pos hn, spot_self hn]
        obtain ⟨s, q1, q2⟩ := best_fin hc
        refine ⟨if (s == 0) = true then (0, 8) else (s, 0), ?_, ?_⟩
        · refine (bindS (sError_eq x 0 t)).trans ?_
          rw [e0]
          dsimp only
          rw [if_neg (by decide)]
          refine (bindS q1).trans ?_
          split <;> rfl
        · refine (bindS (best_ref h8 hc (x.Rates.length - 1) 1 (by omega) (Nat.le_refl _))).trans ?_
          rw [← q2]
          dsimp only
          split <;> rfl
      · have e0 : ∀ c, inCl x c = true → betweenF x c 0 t = (⟨0, 0⟩, 9) := fun c hc => by
          unfold betweenF
          rw [if_pos hx, if_pos (by simp [c0, hc]), if_pos ht, if_neg hn]
        refine ⟨(0, 9), (bindS (sError_eq x 0 t)).trans (by rw [e0 0 c0]; rfl), ?_⟩
        refine (bindS (a := Ctl.ret (0, 9)) (loopR_done ?_)).trans rfl
        dsimp only
        rw [if_pos (by rw [decide_eq_true_eq]; omega)]
        have hw9 : noongunref02_Width x 1 t = some (0, 9) := by
          unfold noongunref02_Width
          rw [eta]
          refine (bindS (rError_eq x h8 _ _)).trans ?_
          rw [e0 1 c1]
          rfl
        rw [hw9]
        rfl
    · rw [if_neg ht, if_pos (by decide)]
      refine ⟨(0, 7), (bindS (sError_eq x 0 t)).trans ?_, rfl⟩
      have : betweenF x 0 0 t = (⟨0, 0⟩, 7) := by unfold betweenF; rw [if_pos hx, if_pos (by simp [c0]), if_neg ht]
      rw [this]; rfl
theorem Last_same (x : GNet) (c : Int) : ∃ r, sight_Last x c = some r ∧ noongunref02_Last x c = some r := by
  unfold sight_Last noongunref02_Last
  rw [eta, clock_eq, refValid_eq, Option.bind_some, Option.bind_some]
  cases hx : vNet x with
  | false => exact ⟨_, rfl, rfl⟩
  | true =>
    have hall : [c].all (inCl x) = inCl x c := by simp
    have hl := rangeL_fold (α := GSight) (S := Int) (X := Int) (body := fun ik1 yk1 z2 =>
      ((
        ((
          (if ((yk1.A == c) || (yk1.B == c)) = true then
            some (max z2 yk1.At)
          else
            some z2)) : Option (Int)).bind (fun s3 =>
        some s3)) : Option (Int)).bind (fun s2 =>
      some (Step.cont s2))) (fin := fun z2 => z2) (fun z (y : GSight) => if ((y.A == c) || (y.B == c)) = true then max z y.At else z) x.Sights 0 (-1) (fun i y z _ => by
        cases ((y.A == c) || (y.B == c)) <;> rfl)
    generalize List.foldl _ _ _ = r at hl
    have hnamed : noongunref02_named x c = some (inCl x c) := rfl
    rw [hnamed, Option.bind_some, if_pos rfl, hall]
    cases hc : inCl x c with
    | false => exact ⟨(0, 5), rfl, rfl⟩
    | true =>
      refine ⟨if r < 0 then (0, 8) else (r, 0), ?_, ?_⟩
      · rw [if_pos rfl]
        refine (if_neg (by decide)).trans ((bindS hl).trans ?_)
        by_cases hr : r < 0
        · rw [if_pos (decide_eq_true hr), if_pos hr]
        · rw [if_neg (by simpa using hr), if_neg hr]
      · refine (if_neg (by decide)).trans ((if_neg (by decide)).trans ((bindS hl).trans ?_))
        by_cases hr : r < 0
        · rw [if_pos (decide_eq_true hr), if_pos hr]
        · rw [if_neg (by simpa using hr), if_neg hr]
theorem same_refl (l : List Int) : noongunref01_SameInts l l = some true := by
  unfold noongunref01_SameInts
  rw [if_neg (by simp), Int.toNat_natCast]
  obtain ⟨u, h1, _⟩ := rangeN_inv (S := Unit) (X := Ctl Unit Bool) (body := fun ik1 _ =>
      (idx l (ik1 : Int)).bind (fun x1 =>
      (idx l (ik1 : Int)).bind (fun x2 =>
      (if (x1 != x2) = true then
        some (Step.done (Ctl.ret false))
      else
        some (Step.cont ()))))) (fin := fun _ => Ctl.next ()) (fun _ _ => True) l.length () (fun j s hj _ => by
      obtain ⟨v, hv⟩ := idx_ok (l := l) (i := (j : Int)) (by omega) (by omega)
      refine ⟨(), ?_, trivial⟩
      rw [hv, Option.bind_some, Option.bind_some, if_neg (by simp)]) trivial
  rw [h1]
  rfl
theorem set_same {α : Type} {z : List α} {i : Int} {v : α} (h : idx z i = some v) : z.set (Int.toNat i) v = z := by
  obtain ⟨_, _, h⟩ := idx_some h
  apply List.ext_getElem?
  intro j
  rw [List.getElem?_set]
  split
  · rename_i hj
    subst hj
    split
    · exact h.symm
    · rename_i hl
      rw [List.getElem?_eq_none (by omega)] at h
      cases h
  · rfl
theorem Joined_eq (x : GNet) : noongunref02_Joined x = sight_Joined x := by
  unfold noongunref02_Joined sight_Joined
  rw [eta, valid_eq, refValid_eq, Option.bind_some, Option.bind_some]
  cases hx : vNet x with
  | false => rfl
  | true =>
    rw [if_neg (by decide), if_neg (by decide)]
    congr 1
    funext t2
    congr 1
    funext x1
    congr 1
    refine rangeN_congr (fun _ => rfl) _ _ _ fun j z _ _ => ?_
    refine congrArg (fun o => Option.bind (Option.bind o _) _) (rangeL_congr (fun _ => rfl) _ _ _ fun i s z _ => ?_)
    cases hA : idx z s.A with
    | none => rfl
    | some a =>
      cases a with
      | true =>
        simp only [Option.bind_some, if_true]
        cases idx (z.set (Int.toNat s.A) true) s.B <;> rfl
      | false =>
        cases hB : idx z s.B with
        | none => rfl
        | some b =>
          cases b with
          | true =>
            simp only [Option.bind_some, if_true, Bool.false_eq_true, if_false]
            cases idx (z.set (Int.toNat s.A) true) s.B <;> rfl
          | false =>
            simp only [Option.bind_some, Bool.false_eq_true, if_false, set_same hA, hB, set_same hB]
theorem Joined_total (x : GNet) : ∃ r, sight_Joined x = some r ∧ True := by
  unfold sight_Joined
  rw [eta, valid_eq, Option.bind_some]
  cases hx : vNet x with
  | false => exact ⟨_, rfl, trivial⟩
  | true =>
    have hv := vNet_iff.1 hx
    rw [if_neg (by decide)]
    have m2 : makI (false : Bool) ((x.Rates.length : Nat) : Int) = some (List.replicate x.Rates.length false) := by unfold makI; rw [if_pos (by omega)]; simp
    rw [m2, Option.bind_some]
    obtain ⟨v, h0⟩ := idx_ok (l := List.replicate x.Rates.length false) (i := 0) (Int.le_refl _) (by simp; omega)
    rw [h0, Option.bind_some, Int.toNat_natCast]
    refine bind_inv (I := fun z => z.length = x.Rates.length) (rangeN_inv (fun _ (z : List Bool) => z.length = x.Rates.length) _ _ (fun j z hj hz => ?_) (by simp)) fun s1 hs1 => ?_
    · have hin := rangeL_inv (α := GSight) (S := (List Bool)) (X := (List Bool)) (body := fun _ yk2 z5 =>
            (idx z5 yk2.A).bind (fun x2 =>
            ((if x2 = true then
              some true
            else
              (idx z5 yk2.B).bind (fun x3 =>
              some x3)) : Option Bool).bind (fun b4 =>
            (idx z5 yk2.A).bind (fun _ =>
            (idx (z5.set (Int.toNat yk2.A) b4) yk2.B).bind (fun _ =>
            some (Step.cont ((z5.set (Int.toNat yk2.A) b4).set (Int.toNat yk2.B) b4))))))) (fin := fun z5 => z5) (fun _ z => z.length = x.Rates.length) x.Sights z (fun i s z hs hz => by
              obtain ⟨_, _, a1, a2, b1, b2, _⟩ := vSight_iff.1 (hv.2.2.2.2.2 s (List.mem_of_getElem? hs))
              obtain ⟨va, e1⟩ := idx_ok (l := z) a1 (by omega)
              obtain ⟨vb, e2⟩ := idx_ok (l := z) b1 (by omega)
              rw [e1, Option.bind_some, e2]
              have e3 : ((if va = true then some true else (some vb).bind fun x3 => some x3) : Option Bool) = some (va || vb) := by cases va <;> rfl
              rw [e3, Option.bind_some, Option.bind_some]
              obtain ⟨vc, e4⟩ := idx_ok (l := z.set (Int.toNat s.A) (va || vb)) b1 (by simp; omega)
              rw [e4]
              exact ⟨_, rfl, by simp [hz]⟩) hz
      obtain ⟨z', h1, h2⟩ := hin
      exact ⟨z', congrArg (fun o => Option.bind (Option.bind o _) _) h1, h2⟩
    · refine bind_inv (I := fun _ => True) ?_ fun r _ => ⟨_, rfl, trivial⟩
      rw [Int.toNat_natCast]
      have hin := rangeN_inv (S := (List Int)) (X := (List Int)) (body := fun ik3 z8 =>
      ((
        (idx s1 (ik3 : Int)).bind (fun x6 =>
        ((
          (if (x6 && (decide (0 < (ik3 : Int)))) = true then
            (appI z8 ([(ik3 : Int)] : List Int)).bind (fun t3 =>
            some t3)
          else
            some z8)) : Option ((List Int))).bind (fun s6 =>
        some s6))) : Option ((List Int))).bind (fun s5 =>
      some (Step.cont s5))) (fin := fun z8 => z8) (fun k z => z.length ≤ k) s1.length [] (fun j z hj hz => by
        obtain ⟨v, e1⟩ := idx_ok (l := s1) (i := (j : Int)) (by omega) (by omega)
        rw [e1, Option.bind_some, app_ok (by omega)]
        by_cases hc : (v && decide (0 < (j : Int))) = true
        · rw [if_pos hc]
          exact ⟨_, rfl, by simp; omega⟩
        · rw [if_neg hc]
          exact ⟨_, rfl, by omega⟩) (Nat.le_refl _)
      obtain ⟨z', h1, _⟩ := hin
      exact ⟨z', h1, trivial⟩
theorem law_noongunlaw02_SightBest (a0 : GNet) (_ : okGNet a0) (a1 : Int) (_ : inI a1 = true) (a2 : Int) (_ : inI a2 = true) : noongunlaw02_SightBest a0 a1 a2 = some true := by
  unfold noongunlaw02_SightBest
  obtain ⟨L, hL⟩ : ∃ L, noongunlaw02_Light (GNet.mk a0.Rates a0.Sights) = some L := ⟨_, rfl⟩
  rw [hL, Option.bind_some, awake_eq, eta]
  cases L with
  | false => rfl
  | true =>
    have h8 := light_8 hL
    rw [if_neg (by decide)]
    obtain ⟨⟨r1, r2⟩, e1, e2⟩ := Best_same a0 h8 a2
    obtain ⟨⟨q1, q2⟩, e3, e4⟩ := Last_same a0 a1
    obtain ⟨⟨j1, j2⟩, e5, _⟩ := Joined_total a0
    refine (bindS e1).trans ((bindS e2).trans ((bindS e3).trans ((bindS e4).trans ((bindS e5).trans ((bindS ((Joined_eq a0).trans e5)).trans ?_)))))
    simp [same_refl]
end Go.Fw
