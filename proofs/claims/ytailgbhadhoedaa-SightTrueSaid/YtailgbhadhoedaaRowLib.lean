/-
  The graph of a net, plain: what it is. No program in it.
-/
import Derived.Test.YtailgbhadhoedaaGraphLib
import Derived.Test.YtailgbhadhoedaaCarryLib
namespace Go.Fw
open Go.Gr
theorem edge_ok {x : GNet} (hx : vNet x = true) {p q : GPoint} {i j : Int} (hp : Good x p) (hq : Good x q) : edgeOf x (p, i) (q, j) = some ⟨i, j, carryV (rateF x p.clock) (p.at_ - q.at_), -1⟩ := by
  obtain ⟨p1, p2, p3, p4⟩ := hp
  obtain ⟨_, _, q3, q4⟩ := hq
  have hi := idx_int p1 p2
  have hr : rateF x p.clock = x.Rates[p.clock.toNat]'(by omega) := by unfold rateF; rw [hi]; rfl
  have hb := rateF_in hx p.clock
  unfold edgeOf
  rw [subI_ok (by dsimp only; omega), Option.bind_some, carry_eq hi (by rw [← hr]; exact hb) (by dsimp only; omega), ← hr]
  rfl
theorem pairB_iff {a b : Pn} : pairB a b = true ↔ a.1.clock = b.1.clock ∧ a.2 ≠ b.2 := by
  unfold pairB
  simp only [Bool.and_eq_true, beq_iff_eq, bne_iff_ne]
/-- What the graph of a net is. -/
structure GSpec (x : GNet) (more ks : List GPoint) (st : List GEdge) : Prop where
  nodup : ks.Nodup
  sub : ∀ p ∈ more, p ∈ ks
  good : ∀ p ∈ ks, Good x p
  len : ks.length ≤ 122
  slen : st.length ≤ 20000
  covers : Covers x.Sights (· ∈ ks)
  keys : (st.map edgeKey).Nodup
  desc : ∀ e ∈ st, ∃ p ∈ ks, ∃ q ∈ ks, e.from_ = (ks.idxOf p : Nat) ∧ e.to = (ks.idxOf q : Nat) ∧ ((∃ (j : Nat) (s : GSight), e.number = (j : Int) ∧ x.Sights[j / 2]? = some s ∧ stp s (j % 2 == 0) = (p, q, e.cost)) ∨ (p ≠ q ∧ p.clock = q.clock ∧ e.cost = carryV (rateF x p.clock) (p.at_ - q.at_) ∧ e.number = -1))
  sights : ∀ p q c, StepS x.Sights p q c → ∃ e ∈ st, e.from_ = (ks.idxOf p : Nat) ∧ e.to = (ks.idxOf q : Nat) ∧ e.cost = c
  carries : ∀ p ∈ ks, ∀ q ∈ ks, p ≠ q → p.clock = q.clock → ∃ e ∈ st, e.from_ = (ks.idxOf p : Nat) ∧ e.to = (ks.idxOf q : Nat) ∧ e.cost = carryV (rateF x p.clock) (p.at_ - q.at_)
theorem idx_inj {ks : List GPoint} {p q : GPoint} (hp : p ∈ ks) (hq : q ∈ ks) (h : ks.idxOf p = ks.idxOf q) : p = q := by
  have h1 := List.getElem_idxOf (List.idxOf_lt_length_iff.2 hp)
  have h2 := List.getElem_idxOf (List.idxOf_lt_length_iff.2 hq)
  rw [← h1, ← h2]
  congr 1
theorem rowOf_len (g : Pn → Pn → GEdge) (a : Pn) (l : List Pn) : (rowOf g a l).length ≤ l.length := by
  unfold rowOf
  rw [List.length_map]
  exact List.length_filter_le ..
theorem rows_len (g : Pn → Pn → GEdge) (l : List Pn) : ∀ (m : List Pn), (m.flatMap fun a => rowOf g a l).length ≤ m.length * l.length
  | [] => by simp
  | a :: m => by
    have h1 := rows_len g l m
    have h2 := rowOf_len g a l
    rw [List.flatMap_cons, List.length_append, List.length_cons, Nat.succ_mul]
    omega
theorem graph_spec {x : GNet} (hx : vNet x = true) {more : List GPoint} (hm : ∀ p ∈ more, Good x p) (hl : more.length ≤ 2) : ∃ ks st, sight_graphOf x more = some (kvF 0 ks, st) ∧ GSpec x more ks st := by
  have hv := vNet_iff.1 hx
  obtain ⟨ks0, a1, a2, a3, a4, a5, a6⟩ := more_loop more [] 0 List.nodup_nil
  have h0 : Stand x more ks0 [] 0 := ⟨a2, a3, fun p hp => (a5 p hp).elim (fun h => by cases h) (hm p), by simpa using a6, rfl, fun j e he => by simp at he⟩
  obtain ⟨ks, st, b1, b2⟩ := sight_loop hx h0
  have hrow : sight_row x (kvF 0 ks) = some ((kvF 0 ks).flatMap fun a => rowOf (sight_rowG x) a (kvF 0 ks)) := by
    unfold sight_row
    rw [if_pos]
    rw [List.all_eq_true]
    intro a ha
    rw [List.all_eq_true]
    intro b hb
    have := edge_ok hx (i := a.2) (j := b.2) (b2.good _ (kvF_mem ks 0 a ha).1) (b2.good _ (kvF_mem ks 0 b hb).1)
    rw [show edgeOf x a b = _ from this]
    simp
  have hg : ∀ a ∈ kvF 0 ks, ∀ b ∈ kvF 0 ks, sight_rowG x a b = ⟨a.2, b.2, carryV (rateF x a.1.clock) (a.1.at_ - b.1.at_), -1⟩ := by
    intro a ha b hb
    have := edge_ok hx (i := a.2) (j := b.2) (b2.good _ (kvF_mem ks 0 a ha).1) (b2.good _ (kvF_mem ks 0 b hb).1)
    unfold sight_rowG
    rw [show edgeOf x a b = _ from this]
    rfl
  have hlen : ks.length ≤ 122 := by have := b2.len; omega
  have hrl := rows_len (sight_rowG x) (kvF 0 ks) (kvF 0 ks)
  rw [kvF_len] at hrl
  have hsq : ks.length * ks.length ≤ 122 * 122 := Nat.mul_le_mul hlen hlen
  have hmem : ∀ e, e ∈ ((kvF 0 ks).flatMap fun a => rowOf (sight_rowG x) a (kvF 0 ks)) ↔ ∃ a ∈ kvF 0 ks, ∃ b ∈ kvF 0 ks, pairB a b = true ∧ e = ⟨a.2, b.2, carryV (rateF x a.1.clock) (a.1.at_ - b.1.at_), -1⟩ := by
    intro e
    simp only [List.mem_flatMap, rowOf, List.mem_map, List.mem_filter]
    constructor
    · rintro ⟨a, ha, b, ⟨hb, h1⟩, rfl⟩
      exact ⟨a, ha, b, hb, h1, hg a ha b hb⟩
    · rintro ⟨a, ha, b, hb, h1, rfl⟩
      exact ⟨a, ha, b, ⟨hb, h1⟩, hg a ha b hb⟩
  refine ⟨ks, st ++ ((kvF 0 ks).flatMap fun a => rowOf (sight_rowG x) a (kvF 0 ks)), ?_, b2.nodup, b2.sub, b2.good, hlen, ?_, fun s hs => ?_, ?_, fun e he => ?_, fun p q c h => ?_, fun p hp q hq hne hc => ?_⟩
  · unfold sight_graphOf
    rw [show (rangeL (α := GPoint) (S := (List (GPoint × Int))) (X := (List (GPoint × Int))) (fun ik1 yk1 z2 => some (Step.cont (sight_num z2 yk1).2)) (fun z2 => z2) more 0 ([] : List (GPoint × Int))) = some (kvF 0 ks0) from a1, Option.bind_some]
    have e1 : mulI 2 ((x.Sights.length : Nat) : Int) = some (2 * ((x.Sights.length : Nat) : Int)) := if_pos (inI_iff.2 (by omega))
    rw [e1, Option.bind_some]
    unfold chkI
    rw [if_pos (inI_iff.2 (by omega)), show Int.toNat (2 * ((x.Sights.length : Nat) : Int)) = 2 * x.Sights.length by omega]
    refine (congrArg (fun o => Option.bind o _) b1).trans ?_
    rw [Option.bind_some]
    dsimp only
    rw [hrow, Option.bind_some]
    unfold appI
    rw [if_pos (by have := b2.slen; omega)]
    rfl
  · have := b2.slen
    rw [List.length_append]
    omega
  · obtain ⟨i, hi⟩ := List.getElem?_of_mem hs
    have hi' := (List.getElem?_eq_some_iff.1 hi).1
    obtain ⟨s', h1, h2, h3, _⟩ := b2.desc (2 * i) _ (List.getElem?_eq_getElem (by rw [b2.slen]; omega))
    rw [show 2 * i / 2 = i by omega, hi] at h1
    cases h1
    rw [show 2 * i % 2 = 0 by omega] at h2 h3
    exact ⟨h3, h2⟩
  · rw [List.map_append, List.nodup_append]
    refine ⟨?_, ?_, ?_⟩
    · unfold List.Nodup
      rw [List.pairwise_map, List.pairwise_iff_getElem]
      intro i j hi hj hij he
      obtain ⟨_, _, _, _, e1⟩ := b2.desc i _ (List.getElem?_eq_getElem hi)
      obtain ⟨_, _, _, _, e2⟩ := b2.desc j _ (List.getElem?_eq_getElem hj)
      have n1 : st[i].number = (i : Int) := by rw [e1]
      have n2 : st[j].number = (j : Int) := by rw [e2]
      unfold edgeKey at he
      simp only [Prod.mk.injEq] at he
      omega
    · unfold List.Nodup
      rw [List.pairwise_map, List.pairwise_flatMap]
      refine ⟨fun a ha => ?_, ?_⟩
      · unfold rowOf
        rw [List.pairwise_map]
        refine List.Pairwise.imp_of_mem (R := fun b c => b.2 < c.2) (fun {b c} hb hc hlt he => ?_) ((kvF_lt ks 0).filter _)
        rw [hg a ha b (List.mem_filter.1 hb).1, hg a ha c (List.mem_filter.1 hc).1] at he
        simp only [edgeKey, Prod.mk.injEq] at he
        omega
      · refine List.Pairwise.imp_of_mem (R := fun b c => b.2 < c.2) (fun {b c} hb hc hlt => ?_) (kvF_lt ks 0)
        intro e he e' he' hk
        simp only [rowOf, List.mem_map, List.mem_filter] at he he'
        obtain ⟨b', ⟨hb', _⟩, rfl⟩ := he
        obtain ⟨c', ⟨hc', _⟩, rfl⟩ := he'
        rw [hg b hb b' hb', hg c hc c' hc'] at hk
        simp only [edgeKey, Prod.mk.injEq] at hk
        omega
    · intro a ha b hb hab
      subst hab
      obtain ⟨e, he, rfl⟩ := List.mem_map.1 ha
      obtain ⟨e', he', hk⟩ := List.mem_map.1 hb
      obtain ⟨j, hj⟩ := List.getElem?_of_mem he
      obtain ⟨_, _, _, _, e1⟩ := b2.desc j _ hj
      obtain ⟨_, _, _, _, _, e2⟩ := (hmem e').1 he'
      rw [e1, e2] at hk
      simp only [edgeKey, Prod.mk.injEq] at hk
      omega
  · rcases List.mem_append.1 he with he | he
    · obtain ⟨j, hj⟩ := List.getElem?_of_mem he
      obtain ⟨s, h1, h2, h3, e1⟩ := b2.desc j _ hj
      refine ⟨_, h2, _, h3, by rw [e1], by rw [e1], .inl ⟨j, s, by rw [e1], h1, ?_⟩⟩
      rw [e1]
    · obtain ⟨a, ha, b, hb, hp, rfl⟩ := (hmem e).1 he
      obtain ⟨h1, h2⟩ := (kvF_idx ks 0 b2.nodup a).1 ha
      obtain ⟨h3, h4⟩ := (kvF_idx ks 0 b2.nodup b).1 hb
      obtain ⟨p1, p2⟩ := pairB_iff.1 hp
      rw [Nat.zero_add] at h2 h4
      exact ⟨a.1, h1, b.1, h3, h2, h4, .inr ⟨fun e => p2 (by rw [h2, h4, e]), p1, rfl, rfl⟩⟩
  · obtain ⟨s, hs, hc⟩ := h
    obtain ⟨i, hi⟩ := List.getElem?_of_mem hs
    have hi' := (List.getElem?_eq_some_iff.1 hi).1
    rcases hc with ⟨rfl, rfl, rfl⟩ | ⟨rfl, rfl, rfl⟩
    · obtain ⟨s', h1, _, _, h4⟩ := b2.desc (2 * i) _ (List.getElem?_eq_getElem (by rw [b2.slen]; omega))
      rw [show 2 * i / 2 = i by omega, hi] at h1
      cases h1
      rw [show 2 * i % 2 = 0 by omega] at h4
      exact ⟨_, List.mem_append_left _ (List.getElem_mem _), by rw [h4]; rfl, by rw [h4]; rfl, by rw [h4]; rfl⟩
    · obtain ⟨s', h1, _, _, h4⟩ := b2.desc (2 * i + 1) _ (List.getElem?_eq_getElem (by rw [b2.slen]; omega))
      rw [show (2 * i + 1) / 2 = i by omega, hi] at h1
      cases h1
      rw [show (2 * i + 1) % 2 = 1 by omega] at h4
      exact ⟨_, List.mem_append_left _ (List.getElem_mem _), by rw [h4]; rfl, by rw [h4]; rfl, by rw [h4]; rfl⟩
  · refine ⟨⟨(ks.idxOf p : Nat), (ks.idxOf q : Nat), carryV (rateF x p.clock) (p.at_ - q.at_), -1⟩, List.mem_append_right _ ((hmem _).2 ⟨(p, ((ks.idxOf p : Nat) : Int)), (kvF_idx ks 0 b2.nodup _).2 ⟨hp, by simp⟩, (q, ((ks.idxOf q : Nat) : Int)), (kvF_idx ks 0 b2.nodup _).2 ⟨hq, by simp⟩, pairB_iff.2 ⟨hc, fun e => hne (idx_inj hp hq (by dsimp only at e; omega))⟩, rfl⟩), rfl, rfl, rfl⟩
end Go.Fw
