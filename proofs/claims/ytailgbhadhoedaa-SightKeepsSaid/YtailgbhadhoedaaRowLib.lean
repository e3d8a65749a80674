import Derived.Test.YtailgbhadhoedaaValLib
import Derived.Test.YtailgbhadhoedaaSemCore
import Derived.Test.YtailgbhadhoedaaCarryLib
/-
  The graph of a net, plain: its points are numbered in the order in which they come, its steps are the sights' and the carries. No program in it.
-/
namespace Go.Fw
open Go.Gr
def kvF : Nat → List GPoint → List (GPoint × Int)
  | _, [] => []
  | i, p :: l => (p, (i : Int)) :: kvF (i + 1) l
theorem kvF_len : ∀ (l : List GPoint) (i : Nat), (kvF i l).length = l.length
  | [], _ => rfl
  | _ :: l, i => congrArg (· + 1) (kvF_len l (i + 1))
theorem kvF_get : ∀ (l : List GPoint) (i : Nat) (p : GPoint), mget (kvF i l) p = if p ∈ l then some ((i + l.idxOf p : Nat) : Int) else none
  | [], _, _ => rfl
  | q :: l, i, p => by
    have ih := kvF_get l (i + 1) p
    unfold mget at ih ⊢
    rw [kvF, List.find?_cons]
    by_cases h : q = p
    · subst h
      simp
    · have h1 : ((q, (i : Int)).1 == p) = false := by simpa using h
      have h2 : (q == p) = false := by simpa using h
      rw [h1]
      dsimp only
      rw [ih, List.idxOf_cons, h2]
      by_cases hm : p ∈ l
      · rw [if_pos hm, if_pos (List.mem_cons_of_mem _ hm)]
        simp only [cond_false]
        congr 2
        omega
      · rw [if_neg hm, if_neg (by simp [hm, Ne.symm h])]
theorem kvF_app : ∀ (l : List GPoint) (i : Nat) (p : GPoint), kvF i (l ++ [p]) = kvF i l ++ [(p, ((i + l.length : Nat) : Int))]
  | [], _, _ => rfl
  | q :: l, i, p => by
    rw [List.cons_append, kvF, kvF_app l (i + 1) p, kvF, List.cons_append, List.length_cons]
    congr 4
    omega
theorem kvF_mem : ∀ (l : List GPoint) (i : Nat) (a : GPoint × Int), a ∈ kvF i l → a.1 ∈ l ∧ (i : Int) ≤ a.2
  | [], _, _, h => by cases h
  | q :: l, i, a, h => by
    rcases List.mem_cons.1 h with rfl | h
    · exact ⟨List.mem_cons_self .., Int.le_refl _⟩
    · obtain ⟨h1, h2⟩ := kvF_mem l (i + 1) a h
      exact ⟨List.mem_cons_of_mem _ h1, by omega⟩
theorem kvF_lt : ∀ (l : List GPoint) (i : Nat), (kvF i l).Pairwise fun a b => a.2 < b.2
  | [], _ => .nil
  | q :: l, i => .cons (fun b hb => by have := (kvF_mem l (i + 1) b hb).2; show (i : Int) < b.2; omega) (kvF_lt l (i + 1))
theorem kvF_idx : ∀ (l : List GPoint) (i : Nat), l.Nodup → ∀ a, a ∈ kvF i l ↔ a.1 ∈ l ∧ a.2 = ((i + l.idxOf a.1 : Nat) : Int)
  | [], _, _, a => by simp [kvF]
  | q :: l, i, hn, a => by
    obtain ⟨h1, h2⟩ := List.nodup_cons.1 hn
    have ih := kvF_idx l (i + 1) h2 a
    obtain ⟨p, n⟩ := a
    rw [kvF, List.mem_cons, ih, List.mem_cons, List.idxOf_cons]
    by_cases h : q = p
    · subst h
      simp [h1]
    · have h3 : (q == p) = false := by simpa using h
      rw [h3]
      simp only [Prod.mk.injEq, Ne.symm h, false_and, false_or, cond_false]
      constructor
      · rintro ⟨k1, k2⟩; exact ⟨k1, by omega⟩
      · rintro ⟨k1, k2⟩; exact ⟨k1, by omega⟩
def addK (l : List GPoint) (p : GPoint) : List GPoint := if p ∈ l then l else l ++ [p]
theorem addK_mem (l : List GPoint) (p : GPoint) : p ∈ addK l p := by unfold addK; split <;> simp [*]
theorem addK_sub {l : List GPoint} {p q : GPoint} (h : q ∈ l) : q ∈ addK l p := by unfold addK; split <;> simp [h]
theorem addK_or {l : List GPoint} {p q : GPoint} (h : q ∈ addK l p) : q ∈ l ∨ q = p := by
  unfold addK at h
  split at h
  · exact .inl h
  · simpa using h
theorem addK_idx {l : List GPoint} {p q : GPoint} (h : q ∈ l) : (addK l p).idxOf q = l.idxOf q := by
  unfold addK
  split
  · rfl
  · rw [List.idxOf_append, if_pos h]
theorem addK_nodup {l : List GPoint} {p : GPoint} (h : l.Nodup) : (addK l p).Nodup := by
  unfold addK
  split
  · exact h
  · rename_i hp
    rw [List.nodup_append]
    exact ⟨h, by simp, fun a ha b hb => by rw [List.mem_singleton.1 hb]; exact fun e => hp (e ▸ ha)⟩
theorem addK_len (l : List GPoint) (p : GPoint) : (addK l p).length ≤ l.length + 1 := by
  unfold addK
  split
  · omega
  · simp
theorem num_eq (l : List GPoint) (p : GPoint) : sight_num (kvF 0 l) p = ((((addK l p).idxOf p : Nat) : Int), kvF 0 (addK l p)) := by
  unfold sight_num
  rw [kvF_get]
  by_cases h : p ∈ l
  · rw [if_pos h]
    unfold addK
    rw [if_pos h]
    simp
  · rw [if_neg h]
    unfold addK mput
    rw [if_neg h, kvF_app, if_neg, kvF_len, List.idxOf_append, if_neg h]
    · simp
    · intro ha
      obtain ⟨a, h1, h2⟩ := List.any_eq_true.1 ha
      have := (kvF_mem l 0 a h1).1
      rw [eq_of_beq h2] at this
      exact h this
def rateF (x : GNet) (c : Int) : Int := (idx x.Rates c).getD 0
def Good (x : GNet) (p : GPoint) : Prop := 0 ≤ p.clock ∧ p.clock < (x.Rates.length : Int) ∧ 0 ≤ p.at_ ∧ p.at_ ≤ 1000000000000
theorem rateF_in {x : GNet} (hx : vNet x = true) (c : Int) : 0 ≤ rateF x c ∧ rateF x c ≤ 1000000 := by
  unfold rateF
  cases h : idx x.Rates c with
  | none => simp
  | some r =>
    obtain ⟨_, _, h2⟩ := idx_some h
    have := (vNet_iff.1 hx).2.2.2.2.1 r (List.mem_of_getElem? h2)
    simpa using this
theorem spot_good {x : GNet} {c t : Int} (hc : 0 ≤ c ∧ c < (x.Rates.length : Int)) (ht : 0 ≤ t ∧ t ≤ 1000000000000) : Good x (spot c t) := by
  unfold Good spot
  dsimp only
  split <;> omega
theorem pointOf_eq (c t : Int) : sight_pointOf c t = some (spot c t) := by
  unfold sight_pointOf spot
  by_cases h : c = 0
  · subst h; rfl
  · have : (c == 0) = false := by simpa using h
    rw [this, if_neg h]; rfl
def stp (s : GSight) (b : Bool) : GPoint × GPoint × Int := if b = true then (spot s.B s.At, spot s.A s.At, s.Hi) else (spot s.A s.At, spot s.B s.At, -s.Lo)
theorem taken_eq {x : GNet} {k : Nat} {s : GSight} (hs : x.Sights[k / 2]? = some s) (hk : k ≤ 1000) (hl : -86400000 ≤ s.Lo ∧ s.Lo ≤ 86400000) : sight_taken x (k : Int) = some (stp s (k % 2 == 0)) := by
  have h1 : (k : Int).tdiv 2 = ((k / 2 : Nat) : Int) := by rw [Int.tdiv_eq_ediv_of_nonneg (by omega)]; omega
  have h2 : (k : Int).tmod 2 = ((k % 2 : Nat) : Int) := by rw [Int.tmod_eq_emod_of_nonneg (by omega)]; omega
  unfold sight_taken quoI remI negI
  rw [if_neg (by decide), h1, if_pos (inI_iff.2 (by omega)), Option.bind_some, idx_at hs, Option.bind_some, if_neg (by decide), h2, Option.bind_some]
  simp only [pointOf_eq, Option.bind_some]
  rw [if_pos (inI_iff.2 (by omega)), Option.bind_some]
  unfold stp
  rcases (by omega : k % 2 = 0 ∨ k % 2 = 1) with h | h <;> rw [h] <;> rfl
theorem stp_stepS {S : List GSight} {s : GSight} (h : s ∈ S) (b : Bool) : StepS S (stp s b).1 (stp s b).2.1 (stp s b).2.2 := by
  cases b
  · exact ⟨s, h, .inr ⟨rfl, rfl, rfl⟩⟩
  · exact ⟨s, h, .inl ⟨rfl, rfl, rfl⟩⟩
end Go.Fw
/-
  The graph of a net, plain: its steps. No program in it.
-/
namespace Go.Fw
open Go.Gr
/-- What stands after some sights' steps. -/
structure Stand (x : GNet) (more ks : List GPoint) (st : List GEdge) (k : Nat) : Prop where
  nodup : ks.Nodup
  sub : ∀ p ∈ more, p ∈ ks
  good : ∀ p ∈ ks, Good x p
  len : ks.length ≤ more.length + 2 * k
  slen : st.length = k
  desc : ∀ (j : Nat) e, st[j]? = some e → ∃ s, x.Sights[j / 2]? = some s ∧ (stp s (j % 2 == 0)).1 ∈ ks ∧ (stp s (j % 2 == 0)).2.1 ∈ ks ∧ e = ⟨(ks.idxOf (stp s (j % 2 == 0)).1 : Nat), (ks.idxOf (stp s (j % 2 == 0)).2.1 : Nat), (stp s (j % 2 == 0)).2.2, (j : Int)⟩
theorem more_loop : ∀ (more ks : List GPoint) (i : Int), ks.Nodup → ∃ ks', rangeL (α := GPoint) (S := List (GPoint × Int)) (X := List (GPoint × Int)) (fun _ y z => some (Step.cont (sight_num z y).2)) (fun z => z) more i (kvF 0 ks) = some (kvF 0 ks') ∧ ks'.Nodup ∧ (∀ p ∈ more, p ∈ ks') ∧ (∀ p ∈ ks, p ∈ ks') ∧ (∀ p ∈ ks', p ∈ ks ∨ p ∈ more) ∧ ks'.length ≤ ks.length + more.length
  | [], ks, _, h => ⟨ks, rfl, h, by simp, fun _ h => h, fun _ h => .inl h, by simp⟩
  | p :: more, ks, i, h => by
    obtain ⟨ks', h1, h2, h3, h4, h5, h6⟩ := more_loop more (addK ks p) (i + 1) (addK_nodup h)
    refine ⟨ks', ?_, h2, fun q hq => ?_, fun q hq => h4 q (addK_sub hq), fun q hq => ?_, ?_⟩
    · rw [rangeL, num_eq]
      exact h1
    · rcases List.mem_cons.1 hq with rfl | hq
      · exact h4 _ (addK_mem ks _)
      · exact h3 q hq
    · rcases h5 q hq with h | h
      · rcases addK_or h with h | h
        · exact .inl h
        · exact .inr (h ▸ List.mem_cons_self ..)
      · exact .inr (List.mem_cons_of_mem _ h)
    · have := addK_len ks p
      rw [List.length_cons]
      omega
theorem stp_good {x : GNet} {s : GSight} (h : vSight (x.Rates.length : Int) s = true) (b : Bool) : Good x (stp s b).1 ∧ Good x (stp s b).2.1 := by
  obtain ⟨h1, h2, h3, h4, h5, h6, _⟩ := vSight_iff.1 h
  have ga := spot_good (x := x) (c := s.A) (t := s.At) ⟨h3, h4⟩ ⟨h1, h2⟩
  have gb := spot_good (x := x) (c := s.B) (t := s.At) ⟨h5, h6⟩ ⟨h1, h2⟩
  cases b
  · exact ⟨ga, gb⟩
  · exact ⟨gb, ga⟩
theorem idx_app {ks : List GPoint} {f t p : GPoint} (h : p ∈ ks) : (addK (addK ks f) t).idxOf p = ks.idxOf p := by rw [addK_idx (addK_sub h), addK_idx h]
theorem sight_loop {x : GNet} (hx : vNet x = true) {more ks0 : List GPoint} (h0 : Stand x more ks0 [] 0) :
    ∃ ks st, rangeN (S := (List (GPoint × Int)) × (List GEdge)) (X := (List (GPoint × Int)) × (List GEdge)) (fun ik2 s =>
      match s with
        | (z8, z9) =>
          (sight_taken (GNet.mk x.Rates x.Sights) (ik2 : Int)).bind (fun o => match o with
            | (t2, t3, t4) =>
              (appI z9 ([(GEdge.mk (sight_num z8 t2).1 (sight_num (sight_num z8 t2).2 t3).1 t4 (ik2 : Int))] : List GEdge)).bind (fun t5 =>
              some (Step.cont ((sight_num (sight_num z8 t2).2 t3).2, t5))))) (fun s => match s with | (z8, z9) => (z8, z9)) (2 * x.Sights.length) 0 (kvF 0 ks0, ([] : List GEdge)) = some (kvF 0 ks, st) ∧ Stand x more ks st (2 * x.Sights.length) := by
  have hv := vNet_iff.1 hx
  obtain ⟨⟨kv, st⟩, h1, ks, h2, h3⟩ := rangeN_inv (S := (List (GPoint × Int)) × (List GEdge)) (X := (List (GPoint × Int)) × (List GEdge)) (body := fun ik2 s =>
      match s with
        | (z8, z9) =>
          (sight_taken (GNet.mk x.Rates x.Sights) (ik2 : Int)).bind (fun o => match o with
            | (t2, t3, t4) =>
              (appI z9 ([(GEdge.mk (sight_num z8 t2).1 (sight_num (sight_num z8 t2).2 t3).1 t4 (ik2 : Int))] : List GEdge)).bind (fun t5 =>
              some (Step.cont ((sight_num (sight_num z8 t2).2 t3).2, t5))))) (fin := fun s => match s with | (z8, z9) => (z8, z9)) (fun k s => ∃ ks, s.1 = kvF 0 ks ∧ Stand x more ks s.2 k) (2 * x.Sights.length) (kvF 0 ks0, []) (fun k s hk hI => by
    obtain ⟨z8, z9⟩ := s
    obtain ⟨ks, e, hs⟩ := hI
    dsimp only at e hs
    subst e
    obtain ⟨s, hs'⟩ : ∃ s, x.Sights[k / 2]? = some s := ⟨_, List.getElem?_eq_getElem (by omega)⟩
    have hvs := hv.2.2.2.2.2 s (List.mem_of_getElem? hs')
    obtain ⟨_, _, _, _, _, _, _, l1, l2, l3⟩ := vSight_iff.1 hvs
    dsimp only
    rw [show GNet.mk x.Rates x.Sights = x from rfl, taken_eq hs' (by omega) ⟨l1, by omega⟩, Option.bind_some]
    have hg := stp_good hvs (k % 2 == 0)
    generalize hb : (k % 2 == 0) = b at hg
    obtain ⟨f, t, c, hst⟩ : ∃ f t c, stp s b = (f, t, c) := ⟨_, _, _, rfl⟩
    rw [hst] at hg ⊢
    dsimp only at hg ⊢
    rw [num_eq, num_eq]
    dsimp only
    unfold appI
    rw [if_pos (by rw [hs.slen]; simp; omega), Option.bind_some]
    refine ⟨_, rfl, addK (addK ks f) t, rfl, addK_nodup (addK_nodup hs.nodup), fun p hp => addK_sub (addK_sub (hs.sub p hp)), fun p hp => ?_, ?_, by simp [hs.slen], fun j e he => ?_⟩
    · rcases addK_or hp with hp | rfl
      · rcases addK_or hp with hp | rfl
        · exact hs.good p hp
        · exact hg.1
      · exact hg.2
    · have a1 := addK_len (addK ks f) t
      have a2 := addK_len ks f
      have := hs.len
      omega
    · rw [List.getElem?_append] at he
      split at he
      · obtain ⟨s1, q1, q2, q3, q4⟩ := hs.desc j e he
        refine ⟨s1, q1, addK_sub (addK_sub q2), addK_sub (addK_sub q3), ?_⟩
        rw [idx_app q2, idx_app q3]
        exact q4
      · rename_i hj
        have hj2 : j = k := by
          have := (List.getElem?_eq_some_iff.1 he).1
          simp at this
          have := hs.slen
          omega
        subst hj2
        rw [hs.slen, Nat.sub_self] at he
        cases he
        refine ⟨s, hs', ?_⟩
        rw [hb, hst]
        exact ⟨addK_sub (addK_mem ks f), addK_mem _ t, by rw [addK_idx (addK_mem ks f)]⟩) ⟨ks0, rfl, h0⟩
  exact ⟨ks, st, by rw [h1]; exact congrArg (fun z => some (z, st)) h2, h3⟩
end Go.Fw
/-
  The graph of a net, plain: what it is. No program in it.
-/
namespace Go.Fw
open Go.Gr
theorem edge_ok {x : GNet} (hx : vNet x = true) {p q : GPoint} {i j : Int} (hp : Good x p) (hq : Good x q) : edgeOf x (p, i) (q, j) = some ⟨i, j, carryV (rateF x p.clock) (p.at_ - q.at_), -1⟩ := by
  obtain ⟨p1, p2, p3, p4⟩ := hp
  obtain ⟨_, _, q3, q4⟩ := hq
  have hi := idx_int p1 p2
  have hr : rateF x p.clock = x.Rates[p.clock.toNat]'(by omega) := by unfold rateF; rw [hi]; rfl
  have hb := rateF_in hx p.clock
  unfold edgeOf
  rw [subI_ok (by dsimp only; omega), Option.bind_some, carry_eq hi (by rw [← hr]; exact hb) (by dsimp only; omega), ← hr]
  rfl
theorem pairB_iff {a b : Pn} : pairB a b = true ↔ a.1.clock = b.1.clock ∧ a.2 ≠ b.2 := by
  unfold pairB
  simp only [Bool.and_eq_true, beq_iff_eq, bne_iff_ne]
/-- What the graph of a net is. -/
structure GSpec (x : GNet) (more ks : List GPoint) (st : List GEdge) : Prop where
  nodup : ks.Nodup
  sub : ∀ p ∈ more, p ∈ ks
  good : ∀ p ∈ ks, Good x p
  len : ks.length ≤ 122
  slen : st.length ≤ 20000
  covers : Covers x.Sights (· ∈ ks)
  keys : (st.map edgeKey).Nodup
  desc : ∀ e ∈ st, ∃ p ∈ ks, ∃ q ∈ ks, e.from_ = (ks.idxOf p : Nat) ∧ e.to = (ks.idxOf q : Nat) ∧ ((∃ (j : Nat) (s : GSight), e.number = (j : Int) ∧ x.Sights[j / 2]? = some s ∧ stp s (j % 2 == 0) = (p, q, e.cost)) ∨ (p ≠ q ∧ p.clock = q.clock ∧ e.cost = carryV (rateF x p.clock) (p.at_ - q.at_) ∧ e.number = -1))
  sights : ∀ p q c, StepS x.Sights p q c → ∃ e ∈ st, e.from_ = (ks.idxOf p : Nat) ∧ e.to = (ks.idxOf q : Nat) ∧ e.cost = c
  carries : ∀ p ∈ ks, ∀ q ∈ ks, p ≠ q → p.clock = q.clock → ∃ e ∈ st, e.from_ = (ks.idxOf p : Nat) ∧ e.to = (ks.idxOf q : Nat) ∧ e.cost = carryV (rateF x p.clock) (p.at_ - q.at_)
theorem idx_inj {ks : List GPoint} {p q : GPoint} (hp : p ∈ ks) (hq : q ∈ ks) (h : ks.idxOf p = ks.idxOf q) : p = q := by
  have h1 := List.getElem_idxOf (List.idxOf_lt_length_iff.2 hp)
  have h2 := List.getElem_idxOf (List.idxOf_lt_length_iff.2 hq)
  rw [← h1, ← h2]
  congr 1
theorem rowOf_len (g : Pn → Pn → GEdge) (a : Pn) (l : List Pn) : (rowOf g a l).length ≤ l.length := by
  unfold rowOf
  rw [List.length_map]
  exact List.length_filter_le ..
theorem rows_len (g : Pn → Pn → GEdge) (l : List Pn) : ∀ (m : List Pn), (m.flatMap fun a => rowOf g a l).length ≤ m.length * l.length
  | [] => by simp
  | a :: m => by
    have h1 := rows_len g l m
    have h2 := rowOf_len g a l
    rw [List.flatMap_cons, List.length_append, List.length_cons, Nat.succ_mul]
    omega
theorem graph_spec {x : GNet} (hx : vNet x = true) {more : List GPoint} (hm : ∀ p ∈ more, Good x p) (hl : more.length ≤ 2) : ∃ ks st, sight_graphOf x more = some (kvF 0 ks, st) ∧ GSpec x more ks st := by
  have hv := vNet_iff.1 hx
  obtain ⟨ks0, a1, a2, a3, a4, a5, a6⟩ := more_loop more [] 0 List.nodup_nil
  have h0 : Stand x more ks0 [] 0 := ⟨a2, a3, fun p hp => (a5 p hp).elim (fun h => by cases h) (hm p), by simpa using a6, rfl, fun j e he => by simp at he⟩
  obtain ⟨ks, st, b1, b2⟩ := sight_loop hx h0
  have hrow : sight_row x (kvF 0 ks) = some ((kvF 0 ks).flatMap fun a => rowOf (sight_rowG x) a (kvF 0 ks)) := by
    unfold sight_row
    rw [if_pos]
    rw [List.all_eq_true]
    intro a ha
    rw [List.all_eq_true]
    intro b hb
    have := edge_ok hx (i := a.2) (j := b.2) (b2.good _ (kvF_mem ks 0 a ha).1) (b2.good _ (kvF_mem ks 0 b hb).1)
    rw [show edgeOf x a b = _ from this]
    simp
  have hg : ∀ a ∈ kvF 0 ks, ∀ b ∈ kvF 0 ks, sight_rowG x a b = ⟨a.2, b.2, carryV (rateF x a.1.clock) (a.1.at_ - b.1.at_), -1⟩ := by
    intro a ha b hb
    have := edge_ok hx (i := a.2) (j := b.2) (b2.good _ (kvF_mem ks 0 a ha).1) (b2.good _ (kvF_mem ks 0 b hb).1)
    unfold sight_rowG
    rw [show edgeOf x a b = _ from this]
    rfl
  have hlen : ks.length ≤ 122 := by have := b2.len; omega
  have hrl := rows_len (sight_rowG x) (kvF 0 ks) (kvF 0 ks)
  rw [kvF_len] at hrl
  have hsq : ks.length * ks.length ≤ 122 * 122 := Nat.mul_le_mul hlen hlen
  have hmem : ∀ e, e ∈ ((kvF 0 ks).flatMap fun a => rowOf (sight_rowG x) a (kvF 0 ks)) ↔ ∃ a ∈ kvF 0 ks, ∃ b ∈ kvF 0 ks, pairB a b = true ∧ e = ⟨a.2, b.2, carryV (rateF x a.1.clock) (a.1.at_ - b.1.at_), -1⟩ := by
    intro e
    simp only [List.mem_flatMap, rowOf, List.mem_map, List.mem_filter]
    constructor
    · rintro ⟨a, ha, b, ⟨hb, h1⟩, rfl⟩
      exact ⟨a, ha, b, hb, h1, hg a ha b hb⟩
    · rintro ⟨a, ha, b, hb, h1, rfl⟩
      exact ⟨a, ha, b, ⟨hb, h1⟩, hg a ha b hb⟩
  refine ⟨ks, st ++ ((kvF 0 ks).flatMap fun a => rowOf (sight_rowG x) a (kvF 0 ks)), ?_, b2.nodup, b2.sub, b2.good, hlen, ?_, fun s hs => ?_, ?_, fun e he => ?_, fun p q c h => ?_, fun p hp q hq hne hc => ?_⟩
  · unfold sight_graphOf
    rw [show (rangeL (α := GPoint) (S := (List (GPoint × Int))) (X := (List (GPoint × Int))) (fun ik1 yk1 z2 => some (Step.cont (sight_num z2 yk1).2)) (fun z2 => z2) more 0 ([] : List (GPoint × Int))) = some (kvF 0 ks0) from a1, Option.bind_some]
    have e1 : mulI 2 ((x.Sights.length : Nat) : Int) = some (2 * ((x.Sights.length : Nat) : Int)) := if_pos (inI_iff.2 (by omega))
    rw [e1, Option.bind_some]
    unfold chkI
    rw [if_pos (inI_iff.2 (by omega)), show Int.toNat (2 * ((x.Sights.length : Nat) : Int)) = 2 * x.Sights.length by omega]
    refine (congrArg (fun o => Option.bind o _) b1).trans ?_
    rw [Option.bind_some]
    dsimp only
    rw [hrow, Option.bind_some]
    unfold appI
    rw [if_pos (by have := b2.slen; omega)]
    rfl
  · have := b2.slen
    rw [List.length_append]
    omega
  · obtain ⟨i, hi⟩ := List.getElem?_of_mem hs
    have hi' := (List.getElem?_eq_some_iff.1 hi).1
    obtain ⟨s', h1, h2, h3, _⟩ := b2.desc (2 * i) _ (List.getElem?_eq_getElem (by rw [b2.slen]; omega))
    rw [show 2 * i / 2 = i by omega, hi] at h1
    cases h1
    rw [show 2 * i % 2 = 0 by omega] at h2 h3
    exact ⟨h3, h2⟩
  · rw [List.map_append, List.nodup_append]
    refine ⟨?_, ?_, ?_⟩
    · unfold List.Nodup
      rw [List.pairwise_map, List.pairwise_iff_getElem]
      intro i j hi hj hij he
      obtain ⟨_, _, _, _, e1⟩ := b2.desc i _ (List.getElem?_eq_getElem hi)
      obtain ⟨_, _, _, _, e2⟩ := b2.desc j _ (List.getElem?_eq_getElem hj)
      have n1 : st[i].number = (i : Int) := by rw [e1]
      have n2 : st[j].number = (j : Int) := by rw [e2]
      unfold edgeKey at he
      simp only [Prod.mk.injEq] at he
      omega
    · unfold List.Nodup
      rw [List.pairwise_map, List.pairwise_flatMap]
      refine ⟨fun a ha => ?_, ?_⟩
      · unfold rowOf
        rw [List.pairwise_map]
        refine List.Pairwise.imp_of_mem (R := fun b c => b.2 < c.2) (fun {b c} hb hc hlt he => ?_) ((kvF_lt ks 0).filter _)
        rw [hg a ha b (List.mem_filter.1 hb).1, hg a ha c (List.mem_filter.1 hc).1] at he
        simp only [edgeKey, Prod.mk.injEq] at he
        omega
      · refine List.Pairwise.imp_of_mem (R := fun b c => b.2 < c.2) (fun {b c} hb hc hlt => ?_) (kvF_lt ks 0)
        intro e he e' he' hk
        simp only [rowOf, List.mem_map, List.mem_filter] at he he'
        obtain ⟨b', ⟨hb', _⟩, rfl⟩ := he
        obtain ⟨c', ⟨hc', _⟩, rfl⟩ := he'
        rw [hg b hb b' hb', hg c hc c' hc'] at hk
        simp only [edgeKey, Prod.mk.injEq] at hk
        omega
    · intro a ha b hb hab
      subst hab
      obtain ⟨e, he, rfl⟩ := List.mem_map.1 ha
      obtain ⟨e', he', hk⟩ := List.mem_map.1 hb
      obtain ⟨j, hj⟩ := List.getElem?_of_mem he
      obtain ⟨_, _, _, _, e1⟩ := b2.desc j _ hj
      obtain ⟨_, _, _, _, _, e2⟩ := (hmem e').1 he'
      rw [e1, e2] at hk
      simp only [edgeKey, Prod.mk.injEq] at hk
      omega
  · rcases List.mem_append.1 he with he | he
    · obtain ⟨j, hj⟩ := List.getElem?_of_mem he
      obtain ⟨s, h1, h2, h3, e1⟩ := b2.desc j _ hj
      refine ⟨_, h2, _, h3, by rw [e1], by rw [e1], .inl ⟨j, s, by rw [e1], h1, ?_⟩⟩
      rw [e1]
    · obtain ⟨a, ha, b, hb, hp, rfl⟩ := (hmem e).1 he
      obtain ⟨h1, h2⟩ := (kvF_idx ks 0 b2.nodup a).1 ha
      obtain ⟨h3, h4⟩ := (kvF_idx ks 0 b2.nodup b).1 hb
      obtain ⟨p1, p2⟩ := pairB_iff.1 hp
      rw [Nat.zero_add] at h2 h4
      exact ⟨a.1, h1, b.1, h3, h2, h4, .inr ⟨fun e => p2 (by rw [h2, h4, e]), p1, rfl, rfl⟩⟩
  · obtain ⟨s, hs, hc⟩ := h
    obtain ⟨i, hi⟩ := List.getElem?_of_mem hs
    have hi' := (List.getElem?_eq_some_iff.1 hi).1
    rcases hc with ⟨rfl, rfl, rfl⟩ | ⟨rfl, rfl, rfl⟩
    · obtain ⟨s', h1, _, _, h4⟩ := b2.desc (2 * i) _ (List.getElem?_eq_getElem (by rw [b2.slen]; omega))
      rw [show 2 * i / 2 = i by omega, hi] at h1
      cases h1
      rw [show 2 * i % 2 = 0 by omega] at h4
      exact ⟨_, List.mem_append_left _ (List.getElem_mem _), by rw [h4]; rfl, by rw [h4]; rfl, by rw [h4]; rfl⟩
    · obtain ⟨s', h1, _, _, h4⟩ := b2.desc (2 * i + 1) _ (List.getElem?_eq_getElem (by rw [b2.slen]; omega))
      rw [show (2 * i + 1) / 2 = i by omega, hi] at h1
      cases h1
      rw [show (2 * i + 1) % 2 = 1 by omega] at h4
      exact ⟨_, List.mem_append_left _ (List.getElem_mem _), by rw [h4]; rfl, by rw [h4]; rfl, by rw [h4]; rfl⟩
  · refine ⟨⟨(ks.idxOf p : Nat), (ks.idxOf q : Nat), carryV (rateF x p.clock) (p.at_ - q.at_), -1⟩, List.mem_append_right _ ((hmem _).2 ⟨(p, ((ks.idxOf p : Nat) : Int)), (kvF_idx ks 0 b2.nodup _).2 ⟨hp, by simp⟩, (q, ((ks.idxOf q : Nat) : Int)), (kvF_idx ks 0 b2.nodup _).2 ⟨hq, by simp⟩, pairB_iff.2 ⟨hc, fun e => hne (idx_inj hp hq (by dsimp only at e; omega))⟩, rfl⟩), rfl, rfl, rfl⟩
end Go.Fw
