/-
  What the document answers of a net: the same. No program in it.
-/
import Derived.Test.YtailgbhadhoedaaRefDiag
namespace Go.Fw
open Go.Gr
theorem asked_eq (x : GNet) (t : Int) (l : List Int) : noongunref02_asked x t l = some (if vNet x = true then (if l.all (inCl x) = true then (if 0 ≤ t ∧ t ≤ 1000000000000 then 0 else 7) else 5) else 1) := by
  unfold noongunref02_asked
  rw [eta, refValid_eq, Option.bind_some]
  cases hx : vNet x with
  | false => rfl
  | true =>
    rw [if_neg (by decide), if_pos rfl]
    refine (bindS (rangeL_search (fun c => !inCl x c) (Ctl.ret 5) l 0 () fun i c u _ => ?_)).trans ?_
    · unfold noongunref02_named
      rw [Option.bind_some]
      show (if (!inCl x c) = true then _ else _) = _
      cases inCl x c <;> rfl
    · rw [any_not]
      cases hc : l.all (inCl x) with
      | false => rfl
      | true =>
        rw [if_neg (by decide), if_pos rfl]
        show (noongunref02_within t 0 1000000000000).bind _ = _
        rw [refWithin_and, Option.bind_some]
        by_cases ht : 0 ≤ t ∧ t ≤ 1000000000000
        · rw [decide_eq_true ht.1, decide_eq_true ht.2, if_pos ht]; rfl
        · have : (decide (0 ≤ t) && decide (t ≤ 1000000000000)) = false := by rw [Bool.and_eq_false_iff, decide_eq_false_iff_not, decide_eq_false_iff_not]; omega
          rw [this, if_neg ht]; rfl
theorem bindId {o : Option (GSpan × Int)} {a : GSpan × Int} (h : o = some a) : (o.bind fun o => match o with | (t4, t5) => some (t4, t5)) = some a := by rw [h]; rfl
theorem refBetween_eq (x : GNet) (h8 : vNet x = true → x.Sights.length ≤ 8) (a b t : Int) : noongunref02_Between x a b t = some (betweenF x a b t) := by
  unfold noongunref02_Between betweenF
  rw [eta, asked_eq, Option.bind_some]
  cases hx : vNet x with
  | false => rfl
  | true =>
    rw [if_pos rfl, if_pos rfl]
    by_cases hc : [a, b].all (inCl x) = true
    · rw [if_pos hc, if_pos hc]
      by_cases ht : 0 ≤ t ∧ t ≤ 1000000000000
      · rw [if_pos ht, if_pos ht, if_neg (by decide)]
        have ha : inCl x a = true := List.all_eq_true.1 hc a (by simp)
        have hb : inCl x b = true := List.all_eq_true.1 hc b (by simp)
        have ga := spot_good (inCl_iff.1 ha) ht
        have gb := spot_good (inCl_iff.1 hb) ht
        obtain ⟨⟨ks, z⟩, h1, h⟩ := ways_spec hx (h8 hx) (more := [spot a t, spot b t]) (fun r hr => by
          rcases List.mem_cons.1 hr with rfl | hr
          · exact ga
          · rw [List.mem_singleton.1 hr]; exact gb) (by simp)
        have ma := h.sub (spot a t) (by simp)
        have mb := h.sub (spot b t) (by simp)
        dsimp only at ma mb
        rw [spot_eq, Option.bind_some, spot_eq, Option.bind_some]
        refine bindId ?_
        unfold noongunref02_between
        obtain ⟨bb, h2, h3⟩ := diag_eq h.shape
        have h4 := h3.trans h.diag
        have ia := List.idxOf_lt_length_iff.2 ma
        have ib := List.idxOf_lt_length_iff.2 mb
        obtain ⟨ra, e1, e2, e3⟩ := h.shape.row ia
        obtain ⟨rb, f1, f2, f3⟩ := h.shape.row ib
        have c1 := h.shape.cell f2 f3 ia
        have c2 := h.shape.cell e2 e3 ib
        dsimp only at e1 f1 c1 c2
        cases bb with
        | false =>
          have hn : ¬ NoNeg (ENx x) := fun hn => by cases h4.2 hn
          rw [if_neg hn]
          exact (bindS h1).trans ((bindS h2).trans rfl)
        | true =>
          have hn := h4.1 rfl
          rw [if_pos hn]
          obtain ⟨l1, l2⟩ := h.least hn _ mb _ ma
          obtain ⟨l3, l4⟩ := h.least hn _ ma _ mb
          dsimp only at l1 l2 l3 l4
          refine ((bindS h1).trans ((bindS h2).trans ?_)).trans (?_ : (if ((tb z (ks.idxOf (spot b t)) (ks.idxOf (spot a t)) == 1152921504606846976) || (tb z (ks.idxOf (spot a t)) (ks.idxOf (spot b t)) == 1152921504606846976)) = true then some (GSpan.mk 0 0, 8) else (negI (tb z (ks.idxOf (spot a t)) (ks.idxOf (spot b t)))).bind (fun t8 => some (GSpan.mk t8 (tb z (ks.idxOf (spot b t)) (ks.idxOf (spot a t))), 0)) : Option (GSpan × Int)) = _)
          · rw [if_neg (by decide)]
            simp only [index_eq, if_pos ma, if_pos mb, Option.bind_some, e1, f1, c1, c2]
          · by_cases g1 : tb z (ks.idxOf (spot b t)) (ks.idxOf (spot a t)) < NN
            · have L1 := l1 g1
              by_cases g2 : tb z (ks.idxOf (spot a t)) (ks.idxOf (spot b t)) < NN
              · have L2 := l3 g2
                have s1 := least_small hx hn gb ga L1
                have s2 := least_small hx hn ga gb L2
                rw [leastO_some.2 L1, leastO_some.2 L2]
                generalize tb z (ks.idxOf (spot b t)) (ks.idxOf (spot a t)) = u at s1
                generalize tb z (ks.idxOf (spot a t)) (ks.idxOf (spot b t)) = v at s2
                have n1 : (u == 1152921504606846976) = false := by rw [beq_eq_false_iff_ne]; omega
                have n2 : (v == 1152921504606846976) = false := by rw [beq_eq_false_iff_ne]; omega
                rw [n1, n2, if_neg (by decide)]
                unfold negI
                rw [if_pos (inI_iff.2 (by omega))]
                rfl
              · obtain ⟨n2, w2⟩ := l4 g2
                rw [leastO_some.2 L1, leastO_none w2, n2, if_pos (by simp)]
            · obtain ⟨n1, w1⟩ := l2 g1
              rw [leastO_none w1, n1, if_pos (by simp)]
      · rw [if_neg ht, if_neg ht]; rfl
    · rw [if_neg hc, if_neg hc]; rfl
end Go.Fw
