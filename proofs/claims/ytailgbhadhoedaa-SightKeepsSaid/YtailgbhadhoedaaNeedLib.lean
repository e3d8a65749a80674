/-
  Sights that say nothing more than others, plain: what is implied, tight and needed keeps all bounds. No program in it.
-/
import Derived.Test.YtailgbhadhoedaaBetLib
import Derived.Test.YtailgbhadhoedaaChgLib
namespace Go.Fw
open Go.Gr
/-- What holds of a net that answers. -/
structure Calm (x : GNet) (t : Int) : Prop where
  valid : vNet x = true
  time : 0 ≤ t ∧ t ≤ 1000000000000
  noNeg : NoNeg (ENx x)
theorem between_spec {x : GNet} {t : Int} (h : Calm x t) {a b : Int} (ha : inCl x a = true) (hb : inCl x b = true) :
    ∃ sp k, sight_between x a b t = some (sp, k) ∧ (∃ w, subI sp.Hi sp.Lo = some w) ∧ (k = true → betweenF x a b t = (sp, 0)) ∧ (k = false → (betweenF x a b t).2 = 8) := by
  have e0 : betweenF x a b t = match leastO (ENx x) (spot b t) (spot a t), leastO (ENx x) (spot a t) (spot b t) with
    | some hi, some lo => (⟨-lo, hi⟩, 0)
    | _, _ => (⟨0, 0⟩, 8) := by
    unfold betweenF
    rw [if_pos h.valid, if_pos (by simp [ha, hb]), if_pos h.time, if_pos h.noNeg]
    rfl
  unfold sight_between
  by_cases hab : a = b
  · subst hab
    rw [if_pos (beq_self_eq_true a)]
    refine ⟨⟨0, 0⟩, true, rfl, ⟨0, rfl⟩, fun _ => ?_, fun h => by cases h⟩
    rw [e0, spot_self h.noNeg]
    rfl
  · rw [if_neg (by simpa using hab), pointOf_eq, Option.bind_some, pointOf_eq, Option.bind_some]
    obtain ⟨ks', st', g1, g⟩ := graph_spec h.valid (more := [spot a t, spot b t]) (fun r hr => by
      rcases List.mem_cons.1 hr with rfl | hr
      · exact spot_good (inCl_iff.1 ha) h.time
      · rw [List.mem_singleton.1 hr]
        exact spot_good (inCl_iff.1 hb) h.time) (by simp)
    have ma := g.sub (spot a t) (by simp)
    have mb := g.sub (spot b t) (by simp)
    obtain ⟨c1, k1, e1, b1, r1⟩ := g.leastG h.valid h.noNeg mb ma
    obtain ⟨c2, k2, e2, b2, r2⟩ := g.leastG h.valid h.noNeg ma mb
    refine ⟨⟨-c2, c1⟩, k1 && k2, (bindS g1).trans ((bindS e1).trans ((bindS e2).trans ?_)), ⟨_, subI_ok (by dsimp only; omega)⟩, ?_, ?_⟩
    · dsimp only
      unfold negI
      rw [if_pos (inI_iff.2 (by omega))]
      rfl
    · intro hk
      rw [Bool.and_eq_true] at hk
      obtain ⟨rfl, rfl⟩ := hk
      rcases r1 with ⟨_, r1⟩ | ⟨r1, _⟩
      · rcases r2 with ⟨_, r2⟩ | ⟨r2, _⟩
        · rw [e0, r1, r2]
        · cases r2
      · cases r1
    · intro hk
      rw [e0]
      rcases r1 with ⟨rfl, r1⟩ | ⟨_, r1, _⟩
      · rcases r2 with ⟨rfl, r2⟩ | ⟨_, r2, _⟩
        · cases hk
        · rw [r1, r2]
      · rw [r1]
theorem betweenF_congr {x y : GNet} (hx : vNet x = true) (hy : vNet y = true) (hr : y.Rates = x.Rates) (h : Dom (ENx x) (ENx y)) (k : Dom (ENx y) (ENx x)) (a b t : Int) : betweenF y a b t = betweenF x a b t := by
  have hn : NoNeg (ENx y) ↔ NoNeg (ENx x) := ⟨h.noNeg, k.noNeg⟩
  have hc : ∀ c, inCl y c = inCl x c := fun c => by unfold inCl; rw [hr]
  unfold betweenF
  rw [if_pos hx, if_pos hy, funext hc, k.leastO h, k.leastO h]
  by_cases h0 : NoNeg (ENx x)
  · rw [if_pos h0, if_pos (hn.2 h0)]
  · rw [if_neg h0, if_neg fun h1 => h0 (hn.1 h1)]
theorem vNet_sub {x y : GNet} (hx : vNet x = true) (hr : y.Rates = x.Rates) (hl : y.Sights.length ≤ 30) (hs : ∀ s ∈ y.Sights, vSight (x.Rates.length : Int) s = true) : vNet y = true := by
  obtain ⟨h1, h2, h3, h4, h5, h6⟩ := vNet_iff.1 hx
  exact vNet_iff.2 ⟨by rw [hr]; exact h1, by rw [hr]; exact h2, by rw [hr]; exact h3, hl, by rw [hr]; exact h5, by rw [hr]; exact hs⟩
theorem dom_sub {x y : GNet} (hr : y.Rates = x.Rates) (hs : ∀ s ∈ y.Sights, s ∈ x.Sights) : Dom (ENx y) (ENx x) := Dom.sub fun p q c h => by
  have hf : rateF y = rateF x := by unfold rateF; rw [hr]
  rcases h with h | ⟨s, h1, h2⟩
  · exact .inl (by rw [← hf]; exact h)
  · exact .inr ⟨s, hs s h1, h2⟩
theorem wo_valid {x : GNet} (hx : vNet x = true) (i : Nat) : vNet (woNet x i) = true := by
  refine vNet_sub hx rfl ?_ fun s hs => (vNet_iff.1 hx).2.2.2.2.2 s (List.mem_of_mem_eraseIdx hs)
  have := (vNet_iff.1 hx).2.2.2.1
  have := List.length_eraseIdx_le x.Sights i
  show (x.Sights.eraseIdx i).length ≤ 30
  omega
theorem wo_dom (x : GNet) (i : Nat) : Dom (ENx (woNet x i)) (ENx x) := dom_sub rfl fun _ hs => List.mem_of_mem_eraseIdx hs
theorem sight_in {x : GNet} (hx : vNet x = true) {s : GSight} (hs : s ∈ x.Sights) : inCl x s.A = true ∧ inCl x s.B = true ∧ 0 ≤ s.At ∧ s.At ≤ 1000000000000 := by
  obtain ⟨h1, h2, h3, h4, h5, h6, _⟩ := vSight_iff.1 ((vNet_iff.1 hx).2.2.2.2.2 s hs)
  exact ⟨inCl_iff.2 ⟨h3, h4⟩, inCl_iff.2 ⟨h5, h6⟩, h1, h2⟩
/-- Whether a sight is implied by the others. -/
noncomputable def impF (x : GNet) (i : Nat) : Bool := match x.Sights[i]? with
  | none => false
  | some s => decide ((betweenF (woNet x i) s.A s.B s.At).2 = 0) && decide (s.Lo ≤ (betweenF (woNet x i) s.A s.B s.At).1.Lo) && decide ((betweenF (woNet x i) s.A s.B s.At).1.Hi ≤ s.Hi)
theorem sImplied_eq {x : GNet} (hx : vNet x = true) (hn : NoNeg (ENx x)) {i : Nat} (hi : i < x.Sights.length) : sight_implied x (i : Int) = some (impF x i) := by
  obtain ⟨s, hs⟩ : ∃ s, x.Sights[i]? = some s := ⟨_, List.getElem?_eq_getElem hi⟩
  have hl := (vNet_iff.1 hx)
  obtain ⟨ca, cb, t1, t2⟩ := sight_in hx (List.mem_of_getElem? hs)
  have hcalm : Calm (woNet x i) s.At := ⟨wo_valid hx i, ⟨t1, t2⟩, (wo_dom x i).noNeg hn⟩
  obtain ⟨sp, k, e1, _, e3, e4⟩ := between_spec hcalm (a := s.A) (b := s.B) ca cb
  unfold sight_implied
  rw [idx_at hs, Option.bind_some, eta, sWithout_eq (by omega) (by omega) hi, Option.bind_some]
  refine (bindS e1).trans ?_
  unfold impF
  rw [hs]
  dsimp only
  cases k with
  | true =>
    rw [e3 rfl]
    rfl
  | false =>
    have := e4 rfl
    rw [this]
    rfl
/-- A sight bounds its own clocks. -/
theorem sight_bet {x : GNet} (hx : vNet x = true) (hn : NoNeg (ENx x)) {s : GSight} (hs : s ∈ x.Sights) : ∃ hi lo, BetOk x s.A s.B s.At hi lo ∧ hi ≤ s.Hi ∧ lo ≤ -s.Lo := by
  obtain ⟨ca, cb, t1, t2⟩ := sight_in hx hs
  have ga := spot_good (inCl_iff.1 ca) ⟨t1, t2⟩
  have gb := spot_good (inCl_iff.1 cb) ⟨t1, t2⟩
  have w1 : Wy (ENx x) (spot s.B s.At) (spot s.A s.At) s.Hi := Wy.one (.inr ⟨s, hs, .inl ⟨rfl, rfl, rfl⟩⟩)
  have w2 : Wy (ENx x) (spot s.A s.At) (spot s.B s.At) (-s.Lo) := Wy.one (.inr ⟨s, hs, .inr ⟨rfl, rfl, rfl⟩⟩)
  rcases least_or hx hn gb ga with ⟨hi, l1, b1⟩ | ⟨_, l1⟩
  · rcases least_or hx hn ga gb with ⟨lo, l2, b2⟩ | ⟨_, l2⟩
    · exact ⟨hi, lo, ⟨hx, ca, cb, ⟨t1, t2⟩, hn, l1, l2, b1, b2⟩, l1.2 _ w1, l2.2 _ w2⟩
    · exact absurd w2 (l2 _)
  · exact absurd w1 (l1 _)
theorem imp_dom {x : GNet} {i : Nat} (h : impF x i = true) : Dom (ENx x) (ENx (woNet x i)) := by
  intro p q c hE
  unfold impF at h
  cases hs : x.Sights[i]? with
  | none => rw [hs] at h; cases h
  | some s =>
    rw [hs] at h
    simp only [Bool.and_eq_true, decide_eq_true_eq] at h
    obtain ⟨⟨h0, h1⟩, h2⟩ := h
    obtain ⟨hi, lo, e, ok⟩ := betweenF_ok h0
    rw [e] at h1 h2
    dsimp only at h1 h2
    rcases hE with hE | ⟨s', hs', hE⟩
    · exact ⟨c, Int.le_refl _, Wy.one (.inl hE)⟩
    · by_cases hm : s' ∈ (woNet x i).Sights
      · exact ⟨c, Int.le_refl _, Wy.one (.inr ⟨s', hm, hE⟩)⟩
      · have : s' = s := by
          obtain ⟨j, hj⟩ := List.getElem?_of_mem hs'
          by_cases hji : j = i
          · subst hji
            rw [hs] at hj
            exact (Option.some.inj hj).symm
          · exact absurd (List.mem_eraseIdx_iff_getElem?.2 ⟨j, hji, hj⟩) hm
        subst this
        rcases hE with ⟨rfl, rfl, rfl⟩ | ⟨rfl, rfl, rfl⟩
        · exact ⟨hi, h2, ok.up.1⟩
        · exact ⟨lo, by omega, ok.down.1⟩
/-- The sights gone through from the last one on. -/
noncomputable def runN : Nat → GNet → List Int → List Int × GNet
  | 0, rest, out => (out, rest)
  | k + 1, rest, out => if impF rest k = true then runN k (woNet rest k) out else runN k rest ((k : Int) :: out)
def upI (k : Nat) : List Int := (List.range k).map fun i : Nat => (i : Int)
theorem upI_succ (k : Nat) : upI (k + 1) = upI k ++ [(k : Int)] := by unfold upI; rw [List.range_succ, List.map_append]; rfl
theorem upI_len (k : Nat) : (upI k).length = k := by unfold upI; rw [List.length_map, List.length_range]
theorem consF_noNeg {x : GNet} (hx : vNet x = true) : (consF x).1 = true ↔ NoNeg (ENx x) := by
  unfold consF
  rw [if_pos hx]
  simp
theorem agrees_eq (x : GNet) : sight_agrees x = some (if vNet x = true then (if (consF x).1 = true then 0 else 9) else 1) := by
  unfold sight_agrees
  rw [eta]
  refine (bindS (Consistent_eq x)).trans ?_
  unfold consF
  cases vNet x with
  | false => rfl
  | true =>
    rw [if_pos rfl, if_pos rfl]
    by_cases hn : NoNeg (ENx x) <;> simp [hn]
/-- The net with the bounds of its clocks. -/
noncomputable def tgtS (x : GNet) (s : GSight) : GSight := ⟨s.At, s.A, s.B, (betweenF x s.A s.B s.At).1.Lo, (betweenF x s.A s.B s.At).1.Hi⟩
noncomputable def tightF (x : GNet) : GNet := ⟨x.Rates, x.Sights.map (tgtS x)⟩
theorem rangeL_map {α β X : Type} (g : α → β) {body : Int → α → List β → Option (Step (List β) X)} {fin : List β → X} : ∀ (l : List α) (i : Int) (acc : List β), acc.length + l.length ≤ 1000 →
    (∀ i x s, x ∈ l → s.length ≤ 999 → body i x s = some (.cont (s ++ [g x]))) → rangeL body fin l i acc = some (fin (acc ++ l.map g))
  | [], i, acc, _, _ => by rw [rangeL, List.map_nil, List.append_nil]
  | x :: l, i, acc, hl, h => by
    rw [List.length_cons] at hl
    rw [rangeL, h i x acc (List.mem_cons_self ..) (by omega), Option.bind_some, List.map_cons, show acc ++ g x :: l.map g = (acc ++ [g x]) ++ l.map g by simp]
    exact rangeL_map g l (i + 1) (acc ++ [g x]) (by simp; omega) fun i x s hx => h i x s (List.mem_cons_of_mem _ hx)
theorem sTight_eq (x : GNet) : sight_Tight x = some (if vNet x = true then (if (consF x).1 = true then (tightF x, 0) else (⟨[], []⟩, 9)) else (⟨[], []⟩, 1)) := by
  unfold sight_Tight
  rw [eta, agrees_eq, Option.bind_some]
  cases hx : vNet x with
  | false => rfl
  | true =>
    rw [if_pos rfl, if_pos rfl]
    cases hc : (consF x).1 with
    | false => rfl
    | true =>
      have hn := (consF_noNeg hx).1 hc
      have hl := vNet_iff.1 hx
      rw [if_pos rfl, if_neg (by decide), cloneI_eq (by omega), Option.bind_some]
      refine (bindS (rangeL_map (tgtS x) x.Sights 0 [] (by simp only [List.length_nil]; omega) fun i s acc hs hacc => ?_)).trans rfl
      obtain ⟨ca, cb, t1, t2⟩ := sight_in hx hs
      obtain ⟨sp, k, e1, _, e3, e4⟩ := between_spec (x := x) (t := s.At) ⟨hx, ⟨t1, t2⟩, hn⟩ (a := s.A) (b := s.B) ca cb
      obtain ⟨hi, lo, ok, _, _⟩ := sight_bet hx hn hs
      refine (bindS e1).trans ?_
      cases k with
      | false =>
        have := e4 rfl
        rw [ok.eq] at this
        cases this
      | true =>
        have hb := e3 rfl
        dsimp only
        rw [app1 (by omega), Option.bind_some]
        unfold tgtS
        rw [hb]
theorem sNeeded_run {body : Int × List Int × List Int × List GSight → Option (Step (Int × List Int × List Int × List GSight) (List Int))}
    (hstep : ∀ (k : Nat) (rest : GNet) (out : List Int), vNet rest = true → NoNeg (ENx rest) → k < rest.Sights.length → body ((k : Int), upI (k + 1) ++ out, rest.Rates, rest.Sights) = some (.cont (if impF rest k = true then ((k : Int) - 1, upI k ++ out, (woNet rest k).Rates, (woNet rest k).Sights) else ((k : Int) - 1, upI (k + 1) ++ out, rest.Rates, rest.Sights))))
    (hend : ∀ out r s, body ((0 : Int) - 1, upI 0 ++ out, r, s) = some (.done out)) : ∀ (k : Nat) (rest : GNet) (out : List Int), vNet rest = true → NoNeg (ENx rest) → k ≤ rest.Sights.length →
    loopR body ((k : Int) - 1, upI k ++ out, rest.Rates, rest.Sights) = some (runN k rest out).1
  | 0, rest, out, _, _, _ => loopR_done (hend out _ _)
  | k + 1, rest, out, hx, hn, hk => by
    rw [show ((k + 1 : Nat) : Int) - 1 = (k : Int) by omega]
    have h := hstep k rest out hx hn hk
    rw [runN]
    by_cases hi : impF rest k = true
    · rw [if_pos hi] at h ⊢
      refine (loopR_cont _ h).trans (sNeeded_run hstep hend k (woNet rest k) out (wo_valid hx k) ((wo_dom rest k).noNeg hn) ?_)
      show k ≤ (rest.Sights.eraseIdx k).length
      rw [List.length_eraseIdx]
      split <;> omega
    · rw [if_neg hi] at h ⊢
      have e : upI (k + 1) ++ out = upI k ++ ((k : Int) :: out) := by rw [upI_succ, List.append_assoc]; rfl
      rw [e] at h ⊢
      exact (loopR_cont _ h).trans (sNeeded_run hstep hend k rest ((k : Int) :: out) hx hn (by omega))
theorem upI_loop : ∀ (k i : Nat) (acc : List Int), acc = upI i → i + k ≤ 1000 → rangeN (S := (List Int)) (X := (List Int)) (fun ik1 z2 =>
      (appI z2 ([(ik1 : Int)] : List Int)).bind (fun t2 =>
      some (Step.cont t2))) (fun z2 => z2) k (i : Int) acc = some (upI (i + k))
  | 0, i, acc, h, _ => by rw [h]; rfl
  | k + 1, i, acc, h, hl => by
    subst h
    rw [rangeN, app1 (by rw [upI_len]; omega), Option.bind_some, Option.bind_some, show i + (k + 1) = (i + 1) + k by omega]
    exact upI_loop k (i + 1) _ (upI_succ i).symm (by omega)
theorem upI_del (k : Nat) (out : List Int) : delI (upI (k + 1) ++ out) (k : Int) ((k : Int) + 1) = some (upI k ++ out) := by
  have hl := upI_len (k + 1)
  unfold delI
  rw [if_pos (by rw [List.length_append, hl]; omega), Int.toNat_natCast, show ((k : Int) + 1).toNat = k + 1 by omega, List.drop_append_of_le_length (by omega), List.drop_of_length_le (by omega), upI_succ, List.append_assoc, List.take_append_of_le_length (by rw [upI_len]; omega), List.take_of_length_le (by rw [upI_len]; omega)]
  rfl
theorem sNeeded_eq (x : GNet) : sight_Needed x = some (if vNet x = true then (if (consF x).1 = true then ((runN x.Sights.length x []).1, 0) else ([], 9)) else ([], 1)) := by
  unfold sight_Needed
  rw [eta, agrees_eq, Option.bind_some]
  cases hx : vNet x with
  | false => rfl
  | true =>
    rw [if_pos rfl, if_pos rfl]
    cases hc : (consF x).1 with
    | false => rfl
    | true =>
      have hn := (consF_noNeg hx).1 hc
      have hl := vNet_iff.1 hx
      rw [if_pos rfl, if_neg (by decide), Int.toNat_natCast]
      refine (bindS (upI_loop x.Sights.length 0 [] rfl (by omega))).trans ?_
      rw [Nat.zero_add, subI_ok (by omega), Option.bind_some]
      refine (bindS ?_).trans rfl
      have := sNeeded_run (body := fun (s : Int × (List Int) × (List Int) × (List GSight)) => match s with
      | (z8, z9, z10, z11) =>
        (if (decide (0 ≤ z8)) = true then
          ((
            (sight_implied (GNet.mk z10 z11) z8).bind (fun t4 =>
            ((
              (if t4 = true then
                (sight_without (GNet.mk z10 z11) z8).bind (fun t5 =>
                (addI z8 1).bind (fun t6 =>
                (delI z9 z8 t6).bind (fun t7 =>
                some (t7, t5.Rates, t5.Sights))))
              else
                some (z9, z10, z11))) : Option ((List Int) × (List Int) × (List GSight))).bind (fun o => match o with
              | (s6, s7, s8) =>
                some (s6, s7, s8)))) : Option ((List Int) × (List Int) × (List GSight))).bind (fun o => match o with
            | (s3, s4, s5) =>
              (subI z8 1).bind (fun t8 =>
              some (Step.cont (t8, s3, s4, s5))))
        else
          some (Step.done z9))) (fun k rest out hx hn hk => by
        have hl := vNet_iff.1 hx
        dsimp only
        rw [if_pos (decide_eq_true (Int.natCast_nonneg k)), eta, sImplied_eq hx hn hk, Option.bind_some]
        cases impF rest k with
        | false =>
          rw [if_neg (by decide), if_neg (by decide)]
          dsimp only [Option.bind_some]
          rw [subI_ok (by omega)]
          rfl
        | true =>
          rw [if_pos rfl, if_pos rfl, sWithout_eq (by omega) (by omega) hk, Option.bind_some, addI_ok (by omega), Option.bind_some, upI_del, Option.bind_some]
          dsimp only [Option.bind_some]
          rw [subI_ok (by omega)]
          rfl) (fun out r s => rfl) x.Sights.length x [] hx hn (Nat.le_refl _)
      rw [List.append_nil] at this
      exact this
end Go.Fw
