/-
  SightTrue, plain: errors that fit all sights and rates are a potential: no circle is below 0, and the bounds hold them.
-/
import Derived.Test.YtailgbhadhoedaaBetLib
import Derived.Test.YtailgbhadhoedaaRefVal
namespace Go.Fw
open Go.Gr
theorem rangeN_hunt {X : Type} (y : X) (p : Nat → Bool) {body : Int → Unit → Option (Step Unit X)} {fin : Unit → X} : ∀ (k i : Nat), (∀ j, i ≤ j → j < i + k → body (j : Int) () = some (if p j = true then .done y else .cont ())) →
    rangeN body fin k (i : Int) () = some y ∨ (rangeN body fin k (i : Int) () = some (fin ()) ∧ ∀ j, i ≤ j → j < i + k → p j = false)
  | 0, i, _ => .inr ⟨rfl, fun j h1 h2 => by omega⟩
  | k + 1, i, h => by
    rw [rangeN, h i (Nat.le_refl _) (by omega), Option.bind_some]
    cases hp : p i with
    | true => exact .inl rfl
    | false =>
      rcases rangeN_hunt y p (body := body) (fin := fin) k (i + 1) (fun j h1 h2 => h j (by omega) (by omega)) with h' | ⟨h', h2⟩
      · exact .inl h'
      · refine .inr ⟨h', fun j j1 j2 => ?_⟩
        rcases Nat.eq_or_lt_of_le j1 with rfl | j1
        · exact hp
        · exact h2 j (by omega) (by omega)
def tE (t : GTrue) (c : Int) : Int := (idx t.Errors c).getD 0
def tR (t : GTrue) (c : Int) : Int := (idx t.Rates c).getD 0
def isV (t : GTrue) (c at_ : Int) : Int := tE t c + tR t c * at_ / 1000000000
theorem floor_eq (n : Int) : (if n.tmod 1000000000 < 0 then n.tdiv 1000000000 - 1 else n.tdiv 1000000000) = n / 1000000000 := by
  have h1 := Int.mul_tdiv_add_tmod n 1000000000
  have h2 := Int.tmod_lt_of_pos n (show (0 : Int) < 1000000000 by decide)
  have h3 : -1000000000 < n.tmod 1000000000 := by
    have := Int.tmod_lt_of_pos (-n) (show (0 : Int) < 1000000000 by decide)
    rw [Int.neg_tmod] at this
    omega
  by_cases h0 : 0 ≤ n
  · have h4 := Int.tmod_nonneg 1000000000 h0
    rw [if_neg (by omega)]
    omega
  · have h4 : n.tmod 1000000000 ≤ 0 := by
      have := Int.tmod_nonneg 1000000000 (show 0 ≤ -n by omega)
      rw [Int.neg_tmod] at this
      omega
    split <;> omega
theorem is_eq {t : GTrue} {c a : Int} (h1 : 0 ≤ c ∧ c < (t.Rates.length : Int)) (h2 : t.Errors.length = t.Rates.length) (hr : -1000000 ≤ tR t c ∧ tR t c ≤ 1000000) (he : -86400000 ≤ tE t c ∧ tE t c ≤ 86400000) (ha : 0 ≤ a ∧ a ≤ 1000000000000) : noongunlaw02_is t c a = some (isV t c a) := by
  obtain ⟨r, k1⟩ := idx_ok (l := t.Rates) h1.1 h1.2
  obtain ⟨e, k2⟩ := idx_ok (l := t.Errors) h1.1 (by rw [h2]; exact h1.2)
  unfold isV
  unfold tR tE at *
  rw [k1] at hr ⊢
  rw [k2] at he ⊢
  simp only [Option.getD_some] at hr he ⊢
  have hb1 : r * a ≤ 1000000 * 1000000000000 := by
    rcases Int.le_total 0 r with h | h
    · exact Int.mul_le_mul hr.2 ha.2 ha.1 (by decide)
    · have := Int.mul_nonpos_of_nonpos_of_nonneg h ha.1; omega
  have hb2 : -(1000000 * 1000000000000) ≤ r * a := by
    rcases Int.le_total 0 r with h | h
    · have := Int.mul_nonneg h ha.1; omega
    · have := Int.mul_le_mul (show -r ≤ 1000000 by omega) ha.2 ha.1 (by decide)
      rw [Int.neg_mul] at this; omega
  have hf := floor_eq (r * a)
  have hm := Int.mul_tdiv_add_tmod (r * a) 1000000000
  have hq : -1000000000 ≤ (r * a).tdiv 1000000000 ∧ (r * a).tdiv 1000000000 ≤ 1000000001 := by
    split at hf <;> omega
  unfold noongunlaw02_is mulI quoI remI
  rw [k1, Option.bind_some, if_pos (inI_iff.2 (by omega)), Option.bind_some, if_neg (by decide), if_pos (inI_iff.2 (by omega)), Option.bind_some, if_neg (by decide), Option.bind_some]
  have hs : ((if (decide ((r * a).tmod 1000000000 < 0)) = true then (subI ((r * a).tdiv 1000000000) 1).bind (fun t4 => some t4) else some ((r * a).tdiv 1000000000)) : Option Int) = some (r * a / 1000000000) := by
    rw [← hf]
    by_cases h : (r * a).tmod 1000000000 < 0
    · rw [if_pos (decide_eq_true h), if_pos h, subI_ok (by omega)]; rfl
    · rw [if_neg (by simpa using h), if_neg h]
  rw [hs, Option.bind_some, k2, Option.bind_some, addI_ok (by omega)]
  rfl
theorem isV_small {t : GTrue} {c a : Int} (hr : -1000000 ≤ tR t c ∧ tR t c ≤ 1000000) (he : -86400000 ≤ tE t c ∧ tE t c ≤ 86400000) (ha : 0 ≤ a ∧ a ≤ 1000000000000) : -2000000000 ≤ isV t c a ∧ isV t c a ≤ 2000000000 := by
  have hb1 : tR t c * a ≤ 1000000 * 1000000000000 := by
    rcases Int.le_total 0 (tR t c) with h | h
    · exact Int.mul_le_mul hr.2 ha.2 ha.1 (by decide)
    · have := Int.mul_nonpos_of_nonpos_of_nonneg h ha.1; omega
  have hb2 : -(1000000 * 1000000000000) ≤ tR t c * a := by
    rcases Int.le_total 0 (tR t c) with h | h
    · have := Int.mul_nonneg h ha.1; omega
    · have := Int.mul_le_mul (show -tR t c ≤ 1000000 by omega) ha.2 ha.1 (by decide)
      rw [Int.neg_mul] at this; omega
  unfold isV
  omega
theorem fit_carry {r R a b : Int} (h : -R ≤ r ∧ r ≤ R) : r * b / 1000000000 ≤ r * a / 1000000000 + carryV R (a - b) := by
  have hw : r * b ≤ r * a + R * absI (a - b) := by
    have h0 : r * b - r * a = r * (b - a) := by rw [Int.mul_sub]
    have h1 : r * (b - a) ≤ R * absI (a - b) := by
      rcases Int.le_total 0 (b - a) with hd | hd
      · have e : absI (a - b) = b - a := by unfold absI; omega
        rw [e]
        exact Int.mul_le_mul_of_nonneg_right h.2 hd
      · have e : absI (a - b) = -(b - a) := by unfold absI; omega
        rw [e]
        have := Int.mul_le_mul_of_nonneg_right (show -r ≤ R by omega) (show 0 ≤ -(b - a) by omega)
        rw [Int.neg_mul_neg] at this
        exact this
    omega
  have hp : 0 ≤ R * absI (a - b) := Int.mul_nonneg (by omega) (absI_nonneg _)
  unfold carryV
  omega
theorem Error_eq' (x : GNet) (a t : Int) : sight_Error x a t = some (betweenF x a 0 t) := by
  unfold sight_Error
  rw [eta]
  exact (bindS (Between_eq _ _ _ _)).trans rfl
/-- What is true fits the net. -/
structure Fits (x : GNet) (t : GTrue) : Prop where
  el : t.Errors.length = x.Rates.length
  rl : t.Rates.length = x.Rates.length
  zr : tR t 0 = 0
  ze : tE t 0 = 0
  rb : ∀ c, -rateF x c ≤ tR t c ∧ tR t c ≤ rateF x c
  sights : ∀ s ∈ x.Sights, s.Lo ≤ isV t s.A s.At - isV t s.B s.At ∧ isV t s.A s.At - isV t s.B s.At ≤ s.Hi
theorem isV_zero {x : GNet} {t : GTrue} (h : Fits x t) (a : Int) : isV t 0 a = 0 := by unfold isV; rw [h.zr, h.ze, Int.zero_mul]; rfl
theorem isV_spot {x : GNet} {t : GTrue} (h : Fits x t) (c a : Int) : isV t (spot c a).clock (spot c a).at_ = isV t c a := by
  unfold spot
  by_cases hc : c = 0
  · subst hc
    dsimp only
    rw [isV_zero h, isV_zero h]
  · dsimp only
    rw [if_neg hc]
theorem Fits.steps {x : GNet} {t : GTrue} (h : Fits x t) : ∀ p q c, ENx x p q c → isV t q.clock q.at_ ≤ isV t p.clock p.at_ + c := by
  refine fits_noNeg (fun p => isV t p.clock p.at_) (fun p q hpq => ?_) fun s hs => ?_
  · have := fit_carry (a := p.at_) (b := q.at_) (h.rb p.clock)
    unfold isV
    rw [← hpq]
    omega
  · rw [isV_spot h, isV_spot h]
    exact h.sights s hs
theorem law_noongunlaw02_SightTrue (a0 : GNet) (_ : okGNet a0) (a1 : GTrue) (_ : okGTrue a1) (a2 : Int) (_ : inI a2 = true) : noongunlaw02_SightTrue a0 a1 a2 = some true := by
  unfold noongunlaw02_SightTrue
  obtain ⟨L, hL⟩ : ∃ L, noongunlaw02_Light (GNet.mk a0.Rates a0.Sights) = some L := ⟨_, rfl⟩
  rw [hL, Option.bind_some, awake_eq, eta, refValid_eq]
  have hb : ((if (!L) = true then some true else (some (vNet a0)).bind fun t2 => some (!t2)) : Option Bool) = some (!L || !vNet a0) := by cases L <;> rfl
  rw [hb, Option.bind_some]
  by_cases hc : (((((!L || !vNet a0) || (decide (a2 < 0))) || (decide (1000000000000 < a2))) || (((a1.Errors.length : Nat) : Int) != ((a0.Rates.length : Nat) : Int))) || (((a1.Rates.length : Nat) : Int) != ((a0.Rates.length : Nat) : Int))) = true
  · rw [if_pos hc]; rfl
  · rw [if_neg hc]
    simp only [Bool.or_eq_true, not_or, Bool.not_eq_true', bne_iff_ne, ne_eq, decide_eq_true_eq, Decidable.not_not, Bool.not_eq_false] at hc
    obtain ⟨⟨⟨⟨⟨_, hx⟩, t1⟩, t2⟩, el⟩, rl⟩ := hc
    have ht : 0 ≤ a2 ∧ a2 ≤ 1000000000000 := by omega
    have hel : a1.Errors.length = a0.Rates.length := by omega
    have hrl : a1.Rates.length = a0.Rates.length := by omega
    obtain ⟨n1, n2, n3, n4, n5, n6⟩ := vNet_iff.1 hx
    have hfirst := rangeN_hunt (X := Ctl Unit Bool) (Ctl.ret true) (fun j => (((((j : Int) == 0) && ((tR a1 (j : Int) != 0) || (tE a1 (j : Int) != 0))) || decide (tR a1 (j : Int) < -rateF a0 (j : Int))) || decide (rateF a0 (j : Int) < tR a1 (j : Int))) || decide (tE a1 (j : Int) < -86400000) || decide (86400000 < tE a1 (j : Int))) (body := fun ik1 _ =>
      (idx a1.Rates (ik1 : Int)).bind (fun x1 =>
      ((if ((ik1 : Int) == 0) = true then
        ((if (x1 != 0) = true then
          some true
        else
          (idx a1.Errors (ik1 : Int)).bind (fun x2 =>
          some (x2 != 0))) : Option Bool).bind (fun b5 =>
        some b5)
      else
        some false) : Option Bool).bind (fun b4 =>
      ((if b4 = true then
        some true
      else
        (idx a0.Rates (ik1 : Int)).bind (fun x3 =>
        (negI x3).bind (fun t4 =>
        some (decide (x1 < t4))))) : Option Bool).bind (fun b6 =>
      ((if b6 = true then
        some true
      else
        (idx a0.Rates (ik1 : Int)).bind (fun x4 =>
        some (decide (x4 < x1)))) : Option Bool).bind (fun b7 =>
      ((if b7 = true then
        some true
      else
        (idx a1.Errors (ik1 : Int)).bind (fun x5 =>
        some (decide (x5 < (-86400000))))) : Option Bool).bind (fun b8 =>
      ((if b8 = true then
        some true
      else
        (idx a1.Errors (ik1 : Int)).bind (fun x6 =>
        some (decide (86400000 < x6)))) : Option Bool).bind (fun b9 =>
      (if b9 = true then
        (some true).bind (fun t5 =>
        some (Step.done (Ctl.ret t5)))
      else
        some (Step.cont ()))))))))) (fin := fun _ => Ctl.next ()) a1.Rates.length 0 (fun j _ hj => by
        obtain ⟨r, k1⟩ := idx_ok (l := a1.Rates) (i := (j : Int)) (by omega) (by omega)
        obtain ⟨e, k2⟩ := idx_ok (l := a1.Errors) (i := (j : Int)) (by omega) (by omega)
        obtain ⟨R, k3⟩ := idx_ok (l := a0.Rates) (i := (j : Int)) (by omega) (by omega)
        have hR : rateF a0 (j : Int) = R := by unfold rateF; rw [k3]; rfl
        have hr : tR a1 (j : Int) = r := by unfold tR; rw [k1]; rfl
        have he : tE a1 (j : Int) = e := by unfold tE; rw [k2]; rfl
        have hRb := rateF_in hx (j : Int)
        have hneg : negI R = some (-R) := if_pos (inI_iff.2 (by omega))
        rw [hR, hr, he]
        simp only [k1, k2, k3, hneg, Option.bind_some, orI _ _ _ (fun _ => rfl), andI _ _ _ rfl]
        generalize (((((j : Int) == 0) && ((r != 0) || (e != 0))) || decide (r < -R)) || decide (R < r) || decide (e < -86400000) || decide (86400000 < e)) = b
        cases b <;> rfl)
    rw [show (rangeN (S := Unit) (X := Ctl Unit Bool) _ _ (Int.toNat ((a1.Rates.length : Nat) : Int)) 0 ()) = rangeN (S := Unit) (X := Ctl Unit Bool) _ _ a1.Rates.length ((0 : Nat) : Int) () from rfl]
    rcases hfirst with hf | ⟨hf, hall⟩
    · rw [hf]; rfl
    · rw [hf, Option.bind_some]
      dsimp only
      have hfact : ∀ c : Int, 0 ≤ c → c < (a0.Rates.length : Int) → (c = 0 → tR a1 c = 0 ∧ tE a1 c = 0) ∧ (-rateF a0 c ≤ tR a1 c ∧ tR a1 c ≤ rateF a0 c) ∧ (-86400000 ≤ tE a1 c ∧ tE a1 c ≤ 86400000) := by
        intro c c0 c1
        have h := hall c.toNat (by omega) (by omega)
        rw [show ((c.toNat : Nat) : Int) = c by omega] at h
        simp only [Bool.or_eq_false_iff, decide_eq_false_iff_not] at h
        obtain ⟨⟨⟨⟨h1, h2⟩, h3⟩, h4⟩, h5⟩ := h
        refine ⟨fun hc => ?_, by omega, by omega⟩
        subst hc
        simpa using h1
      have hrb : ∀ c, -rateF a0 c ≤ tR a1 c ∧ tR a1 c ≤ rateF a0 c := by
        intro c
        by_cases hc : 0 ≤ c ∧ c < (a0.Rates.length : Int)
        · exact (hfact c hc.1 hc.2).2.1
        · have := (rateF_in hx c).1
          have h0 : tR a1 c = 0 := by
            unfold tR idx
            split
            · rw [List.getElem?_eq_none (by omega)]; rfl
            · rfl
          omega
      have hrin : ∀ c, -1000000 ≤ tR a1 c ∧ tR a1 c ≤ 1000000 := fun c => by
        have := hrb c
        have := rateF_in hx c
        omega
      have his : ∀ c a, 0 ≤ c → c < (a0.Rates.length : Int) → 0 ≤ a ∧ a ≤ 1000000000000 → noongunlaw02_is (GTrue.mk a1.Errors a1.Rates) c a = some (isV a1 c a) ∧ -2000000000 ≤ isV a1 c a ∧ isV a1 c a ≤ 2000000000 := fun c a c0 c1 ha =>
        ⟨is_eq (t := a1) ⟨c0, by omega⟩ (by omega) (hrin c) (hfact c c0 c1).2.2 ha, isV_small (hrin c) (hfact c c0 c1).2.2 ha⟩
      refine (bindS (rangeL_search (fun s => decide (isV a1 s.A s.At - isV a1 s.B s.At < s.Lo) || decide (s.Hi < isV a1 s.A s.At - isV a1 s.B s.At)) (Ctl.ret true) a0.Sights 0 () fun i s u hs => ?_)).trans ?_
      · obtain ⟨v1, v2, v3, v4, v5, v6, _⟩ := vSight_iff.1 (n6 s hs)
        obtain ⟨k1, k2⟩ := his s.A s.At v3 v4 ⟨v1, v2⟩
        obtain ⟨k3, k4⟩ := his s.B s.At v5 v6 ⟨v1, v2⟩
        rw [k1, Option.bind_some, k3, Option.bind_some, subI_ok (by omega), Option.bind_some]
        cases (decide (isV a1 s.A s.At - isV a1 s.B s.At < s.Lo) || decide (s.Hi < isV a1 s.A s.At - isV a1 s.B s.At)) <;> rfl
      · cases hany : a0.Sights.any (fun s => decide (isV a1 s.A s.At - isV a1 s.B s.At < s.Lo) || decide (s.Hi < isV a1 s.A s.At - isV a1 s.B s.At)) with
        | true => rfl
        | false =>
          have hsi : ∀ s ∈ a0.Sights, s.Lo ≤ isV a1 s.A s.At - isV a1 s.B s.At ∧ isV a1 s.A s.At - isV a1 s.B s.At ≤ s.Hi := fun s hs => by
            have := List.any_eq_false.1 hany s hs
            simp only [Bool.or_eq_true, decide_eq_true_eq, not_or] at this
            omega
          have h0 := (hfact 0 (Int.le_refl _) (by omega)).1 rfl
          have hfits : Fits a0 a1 := ⟨hel, hrl, h0.1, h0.2, hrb, hsi⟩
          have hnn : NoNeg (ENx a0) := noNeg_of_potential _ hfits.steps
          refine (bindS (Consistent_eq a0)).trans ?_
          have hcons : consF a0 = (true, 0) := by unfold consF; rw [if_pos hx]; simp [hnn]
          rw [hcons]
          dsimp only
          refine (if_neg (by decide)).trans ?_
          obtain ⟨u, hu, _⟩ := rangeN_inv (S := Unit) (X := Ctl Unit Bool) (body := fun ik3 _ =>
            (sight_Error a0 (ik3 : Int) a2).bind (fun o => match o with
              | (t12, t13) =>
                ((if ((t13 != 0) && (t13 != 8)) = true then
                  some true
                else
                  ((if (t13 == 0) = true then
                    (noongunlaw02_is (GTrue.mk a1.Errors a1.Rates) (ik3 : Int) a2).bind (fun t14 =>
                    ((if (decide (t14 < t12.Lo)) = true then
                      some true
                    else
                      (noongunlaw02_is (GTrue.mk a1.Errors a1.Rates) (ik3 : Int) a2).bind (fun t15 =>
                      some (decide (t12.Hi < t15)))) : Option Bool).bind (fun b14 =>
                    some b14))
                  else
                    some false) : Option Bool).bind (fun b13 =>
                  some b13)) : Option Bool).bind (fun b12 =>
                (if b12 = true then
                  some (Step.done (Ctl.ret false))
                else
                  some (Step.cont ()))))) (fin := fun _ => Ctl.next ()) (fun _ _ => True) a0.Rates.length () (fun j s hj _ => by
              refine ⟨(), (bindS (Error_eq' a0 (j : Int) a2)).trans ?_, trivial⟩
              by_cases hz : (betweenF a0 (j : Int) 0 a2).2 = 0
              · obtain ⟨hi, lo, e1, ok⟩ := betweenF_ok hz
                rw [e1]
                dsimp only
                obtain ⟨k1, k2⟩ := his (j : Int) a2 (by omega) (by omega) ht
                have p1 := Wy.potential (fun p : GPoint => isV a1 p.clock p.at_) hfits.steps ok.up.1
                have p2 := Wy.potential (fun p : GPoint => isV a1 p.clock p.at_) hfits.steps ok.down.1
                rw [isV_spot hfits, isV_spot hfits, isV_zero hfits] at p1 p2
                rw [if_neg (by decide), if_pos (by decide), k1, Option.bind_some, if_neg (by rw [decide_eq_true_eq]; omega), Option.bind_some, decide_eq_false (show ¬ hi < isV a1 (j : Int) a2 by omega)]
                rfl
              · have h8 : (betweenF a0 (j : Int) 0 a2).2 = 8 := by
                  have hc1 : inCl a0 (j : Int) = true := inCl_iff.2 ⟨by omega, by omega⟩
                  have hc2 : inCl a0 0 = true := inCl_iff.2 ⟨by omega, by omega⟩
                  unfold betweenF at hz ⊢
                  rw [if_pos hx, if_pos (by simp [hc1, hc2]), if_pos ht, if_pos hnn] at hz ⊢
                  cases l1 : leastO (ENx a0) (spot 0 a2) (spot (j : Int) a2) with
                  | none => rfl
                  | some hi =>
                    cases l2 : leastO (ENx a0) (spot (j : Int) a2) (spot 0 a2) with
                    | none => rfl
                    | some lo => rw [l1, l2] at hz; exact absurd rfl hz
                generalize betweenF a0 (j : Int) 0 a2 = r at h8
                obtain ⟨r1, r2⟩ := r
                dsimp only at h8
                subst h8
                rfl) trivial
          refine (bindS (a := Ctl.next ()) ?_).trans rfl
          rw [Int.toNat_natCast]
          exact hu
end Go.Fw
