/-
  What the code answers of a net: by its steps alone. No program in it.
-/
import Derived.Test.YtailgbhadhoedaaSemLib
namespace Go.Fw
open Go.Gr
/-- A least cost is there and small, or there is no way. -/
theorem least_or {x : GNet} (hx : vNet x = true) (hn : NoNeg (ENx x)) {p q : GPoint} (hp : Good x p) (hq : Good x q) :
    (∃ c, Least (ENx x) p q c ∧ -300000000000000000 ≤ c ∧ c ≤ 300000000000000000) ∨ (leastO (ENx x) p q = none ∧ ∀ c, ¬ Wy (ENx x) p q c) := by
  obtain ⟨ks, st, _, h⟩ := graph_spec hx (more := [p, q]) (fun r hr => by rcases List.mem_cons.1 hr with rfl | hr; exact hp; rw [List.mem_singleton.1 hr]; exact hq) (by simp)
  obtain ⟨c, k, _, hb, ⟨_, h2⟩ | ⟨_, h2⟩⟩ := h.leastG hx hn (h.sub p (by simp)) (h.sub q (by simp))
  · exact .inl ⟨c, leastO_some.1 h2, hb⟩
  · exact .inr h2
open Classical in
noncomputable def consF (x : GNet) : Bool × Int := if vNet x = true then (decide (NoNeg (ENx x)), 0) else (false, 1)
theorem eta (x : GNet) : GNet.mk x.Rates x.Sights = x := rfl
theorem Consistent_eq (x : GNet) : sight_Consistent x = some (consF x) := by
  unfold sight_Consistent consF
  rw [eta, valid_eq, Option.bind_some]
  cases hx : vNet x with
  | false => rfl
  | true =>
    obtain ⟨ks, st, h1, h⟩ := graph_spec hx (more := []) (fun r hr => by cases hr) (by simp)
    rw [if_neg (by decide), if_pos rfl]
    refine (bindS h1).trans ?_
    rcases h.circle hx with ⟨h2, h3⟩ | ⟨s, path, h2, _, _, h3⟩
    · refine (bindS h2).trans ?_
      simp [h3]
    · refine (bindS h2).trans ?_
      simp [h3]
def inCl (x : GNet) (c : Int) : Bool := decide (0 ≤ c) && decide (c < (x.Rates.length : Int))
theorem inCl_iff {x : GNet} {c : Int} : inCl x c = true ↔ 0 ≤ c ∧ c < (x.Rates.length : Int) := by
  unfold inCl
  rw [Bool.and_eq_true, decide_eq_true_eq, decide_eq_true_eq]
theorem clock_eq (x : GNet) (l : List Int) : sight_clock x l = some (if vNet x = true then (if l.all (inCl x) = true then 0 else 5) else 1) := by
  unfold sight_clock
  rw [eta, valid_eq, Option.bind_some]
  cases hx : vNet x with
  | false => rfl
  | true =>
    obtain ⟨h1, h2, _⟩ := vNet_iff.1 hx
    have hc : slices_ContainsFunc_int l (fun x0 => sight_clock_c1 x0 x) = some (!l.all (inCl x)) := by
      rw [← any_not]
      refine containsInt_eq _ _ _ fun c _ => ?_
      unfold sight_clock_c1
      rw [sub1 (by omega), Option.bind_some, within_and, Option.bind_some, Option.some.injEq]
      congr 1
      rw [Bool.eq_iff_iff, inCl_iff, Bool.and_eq_true, decide_eq_true_eq, decide_eq_true_eq]
      omega
    rw [if_neg (by decide), if_pos rfl, hc, Option.bind_some]
    cases l.all (inCl x) <;> rfl
open Classical in
noncomputable def betweenF (x : GNet) (a b t : Int) : GSpan × Int :=
  if vNet x = true then if [a, b].all (inCl x) = true then if 0 ≤ t ∧ t ≤ 1000000000000 then if NoNeg (ENx x) then
    match leastO (ENx x) (spot b t) (spot a t), leastO (ENx x) (spot a t) (spot b t) with
    | some hi, some lo => (⟨-lo, hi⟩, 0)
    | _, _ => (⟨0, 0⟩, 8)
  else (⟨0, 0⟩, 9) else (⟨0, 0⟩, 7) else (⟨0, 0⟩, 5) else (⟨0, 0⟩, 1)
theorem spot_self {x : GNet} (hn : NoNeg (ENx x)) (p : GPoint) : leastO (ENx x) p p = some 0 := leastO_some.2 ⟨.nil p, fun d hd => hn p d hd⟩
theorem Between_eq (x : GNet) (a b t : Int) : sight_Between x a b t = some (betweenF x a b t) := by
  unfold sight_Between betweenF
  rw [eta, clock_eq, Option.bind_some]
  cases hx : vNet x with
  | false => rfl
  | true =>
    rw [if_pos rfl, if_pos rfl]
    by_cases hc : [a, b].all (inCl x) = true
    · rw [if_pos hc, if_pos hc, if_neg (by decide), within_and, Option.bind_some]
      by_cases ht : 0 ≤ t ∧ t ≤ 1000000000000
      · rw [if_pos ht, decide_eq_true ht.1, decide_eq_true ht.2, if_neg (by decide)]
        have ha : inCl x a = true := List.all_eq_true.1 hc a (by simp)
        have hb : inCl x b = true := List.all_eq_true.1 hc b (by simp)
        obtain ⟨ks, st, h1, h⟩ := graph_spec hx (more := []) (fun r hr => by cases hr) (by simp)
        refine (bindS h1).trans ?_
        rcases h.circle hx with ⟨h2, h3⟩ | ⟨s, path, h2, _, _, h3⟩
        · refine (bindS h2).trans ?_
          rw [if_pos h3]
          dsimp only
          refine (if_neg (by decide)).trans ?_
          unfold sight_between
          by_cases hab : a = b
          · subst hab
            rw [if_pos (beq_self_eq_true a), spot_self h3]
            rfl
          · rw [if_neg (by simpa using hab), pointOf_eq, Option.bind_some, pointOf_eq, Option.bind_some]
            obtain ⟨ks', st', g1, g⟩ := graph_spec hx (more := [spot a t, spot b t]) (fun r hr => by
              rcases List.mem_cons.1 hr with rfl | hr
              · exact spot_good (inCl_iff.1 ha) ht
              · rw [List.mem_singleton.1 hr]
                exact spot_good (inCl_iff.1 hb) ht) (by simp)
            have ma := g.sub (spot a t) (by simp)
            have mb := g.sub (spot b t) (by simp)
            obtain ⟨c1, k1, e1, b1, r1⟩ := g.leastG hx h3 mb ma
            obtain ⟨c2, k2, e2, b2, r2⟩ := g.leastG hx h3 ma mb
            have hbet : ((sight_graphOf (GNet.mk x.Rates x.Sights) ([spot a t, spot b t] : List GPoint)).bind (fun o => match o with
              | (t3, t4) =>
                (leastG t3 t4 (spot b t) (spot a t)).bind (fun o => match o with
                  | (t5, t6) =>
                    (leastG t3 t4 (spot a t) (spot b t)).bind (fun o => match o with
                      | (t7, t8) =>
                        (negI t7).bind (fun t9 =>
                        some ((GSpan.mk t9 t5), (t6 && t8))))))) = some (⟨-c2, c1⟩, k1 && k2) := by
              refine (bindS g1).trans ((bindS e1).trans ((bindS e2).trans ?_))
              dsimp only
              unfold negI
              rw [if_pos (inI_iff.2 (by omega))]
              rfl
            refine (bindS hbet).trans ?_
            rcases r1 with ⟨rfl, r1⟩ | ⟨rfl, r1, _⟩
            · rcases r2 with ⟨rfl, r2⟩ | ⟨rfl, r2, _⟩
              · rw [r1, r2]; rfl
              · rw [r1, r2]; rfl
            · rw [r1]; rfl
        · refine (bindS h2).trans ?_
          rw [if_neg h3]
          rfl
      · have : (decide (0 ≤ t) && decide (t ≤ 1000000000000)) = false := by rw [Bool.and_eq_false_iff, decide_eq_false_iff_not, decide_eq_false_iff_not]; omega
        rw [if_neg ht, this, if_pos (by decide)]
    · rw [if_neg hc, if_neg hc]
      rfl
/-- What it says when it answers. -/
structure BetOk (x : GNet) (a b t hi lo : Int) : Prop where
  valid : vNet x = true
  ca : inCl x a = true
  cb : inCl x b = true
  time : 0 ≤ t ∧ t ≤ 1000000000000
  noNeg : NoNeg (ENx x)
  up : Least (ENx x) (spot b t) (spot a t) hi
  down : Least (ENx x) (spot a t) (spot b t) lo
  bhi : -300000000000000000 ≤ hi ∧ hi ≤ 300000000000000000
  blo : -300000000000000000 ≤ lo ∧ lo ≤ 300000000000000000
theorem least_small {x : GNet} (hx : vNet x = true) (hn : NoNeg (ENx x)) {p q : GPoint} (hp : Good x p) (hq : Good x q) {c : Int} (h : Least (ENx x) p q c) : -300000000000000000 ≤ c ∧ c ≤ 300000000000000000 := by
  rcases least_or hx hn hp hq with ⟨d, h1, h2⟩ | ⟨_, h1⟩
  · rw [h.uniq h1]; exact h2
  · exact absurd h.1 (h1 c)
theorem betweenF_ok {x : GNet} {a b t : Int} (h : (betweenF x a b t).2 = 0) : ∃ hi lo, betweenF x a b t = (⟨-lo, hi⟩, 0) ∧ BetOk x a b t hi lo := by
  unfold betweenF at h ⊢
  cases hx : vNet x with
  | false => rw [hx] at h; simp at h
  | true =>
    rw [hx, if_pos rfl] at h
    rw [if_pos rfl]
    by_cases hc : [a, b].all (inCl x) = true
    · rw [if_pos hc] at h ⊢
      by_cases ht : 0 ≤ t ∧ t ≤ 1000000000000
      · rw [if_pos ht] at h ⊢
        by_cases hn : NoNeg (ENx x)
        · rw [if_pos hn] at h ⊢
          have ha : inCl x a = true := List.all_eq_true.1 hc a (by simp)
          have hb : inCl x b = true := List.all_eq_true.1 hc b (by simp)
          cases h1 : leastO (ENx x) (spot b t) (spot a t) with
          | none => rw [h1] at h; simp at h
          | some hi =>
            cases h2 : leastO (ENx x) (spot a t) (spot b t) with
            | none => rw [h1, h2] at h; simp at h
            | some lo =>
              have l1 := leastO_some.1 h1
              have l2 := leastO_some.1 h2
              exact ⟨hi, lo, rfl, hx, ha, hb, ht, hn, l1, l2, least_small hx hn (spot_good (inCl_iff.1 hb) ht) (spot_good (inCl_iff.1 ha) ht) l1, least_small hx hn (spot_good (inCl_iff.1 ha) ht) (spot_good (inCl_iff.1 hb) ht) l2⟩
        · rw [if_neg hn] at h; simp at h
      · rw [if_neg ht] at h; simp at h
    · rw [if_neg hc] at h; simp at h
theorem BetOk.eq {x : GNet} {a b t hi lo : Int} (h : BetOk x a b t hi lo) : betweenF x a b t = (⟨-lo, hi⟩, 0) := by
  unfold betweenF
  rw [if_pos h.valid, if_pos (by simp [h.ca, h.cb]), if_pos h.time, if_pos h.noNeg, leastO_some.2 h.up, leastO_some.2 h.down]
theorem BetOk.swap {x : GNet} {a b t hi lo : Int} (h : BetOk x a b t hi lo) : BetOk x b a t lo hi := ⟨h.valid, h.cb, h.ca, h.time, h.noNeg, h.down, h.up, h.blo, h.bhi⟩
end Go.Fw
