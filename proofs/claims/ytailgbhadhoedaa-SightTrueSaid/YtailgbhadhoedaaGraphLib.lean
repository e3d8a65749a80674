/-
  The graph of a net, plain: its steps. No program in it.
-/
import Derived.Test.YtailgbhadhoedaaNumLib
namespace Go.Fw
open Go.Gr
/-- What stands after some sights' steps. -/
structure Stand (x : GNet) (more ks : List GPoint) (st : List GEdge) (k : Nat) : Prop where
  nodup : ks.Nodup
  sub : ∀ p ∈ more, p ∈ ks
  good : ∀ p ∈ ks, Good x p
  len : ks.length ≤ more.length + 2 * k
  slen : st.length = k
  desc : ∀ (j : Nat) e, st[j]? = some e → ∃ s, x.Sights[j / 2]? = some s ∧ (stp s (j % 2 == 0)).1 ∈ ks ∧ (stp s (j % 2 == 0)).2.1 ∈ ks ∧ e = ⟨(ks.idxOf (stp s (j % 2 == 0)).1 : Nat), (ks.idxOf (stp s (j % 2 == 0)).2.1 : Nat), (stp s (j % 2 == 0)).2.2, (j : Int)⟩
theorem more_loop : ∀ (more ks : List GPoint) (i : Int), ks.Nodup → ∃ ks', rangeL (α := GPoint) (S := List (GPoint × Int)) (X := List (GPoint × Int)) (fun _ y z => some (Step.cont (sight_num z y).2)) (fun z => z) more i (kvF 0 ks) = some (kvF 0 ks') ∧ ks'.Nodup ∧ (∀ p ∈ more, p ∈ ks') ∧ (∀ p ∈ ks, p ∈ ks') ∧ (∀ p ∈ ks', p ∈ ks ∨ p ∈ more) ∧ ks'.length ≤ ks.length + more.length
  | [], ks, _, h => ⟨ks, rfl, h, by simp, fun _ h => h, fun _ h => .inl h, by simp⟩
  | p :: more, ks, i, h => by
    obtain ⟨ks', h1, h2, h3, h4, h5, h6⟩ := more_loop more (addK ks p) (i + 1) (addK_nodup h)
    refine ⟨ks', ?_, h2, fun q hq => ?_, fun q hq => h4 q (addK_sub hq), fun q hq => ?_, ?_⟩
    · rw [rangeL, num_eq]
      exact h1
    · rcases List.mem_cons.1 hq with rfl | hq
      · exact h4 _ (addK_mem ks _)
      · exact h3 q hq
    · rcases h5 q hq with h | h
      · rcases addK_or h with h | h
        · exact .inl h
        · exact .inr (h ▸ List.mem_cons_self ..)
      · exact .inr (List.mem_cons_of_mem _ h)
    · have := addK_len ks p
      rw [List.length_cons]
      omega
theorem stp_good {x : GNet} {s : GSight} (h : vSight (x.Rates.length : Int) s = true) (b : Bool) : Good x (stp s b).1 ∧ Good x (stp s b).2.1 := by
  obtain ⟨h1, h2, h3, h4, h5, h6, _⟩ := vSight_iff.1 h
  have ga := spot_good (x := x) (c := s.A) (t := s.At) ⟨h3, h4⟩ ⟨h1, h2⟩
  have gb := spot_good (x := x) (c := s.B) (t := s.At) ⟨h5, h6⟩ ⟨h1, h2⟩
  cases b
  · exact ⟨ga, gb⟩
  · exact ⟨gb, ga⟩
theorem idx_app {ks : List GPoint} {f t p : GPoint} (h : p ∈ ks) : (addK (addK ks f) t).idxOf p = ks.idxOf p := by rw [addK_idx (addK_sub h), addK_idx h]
theorem sight_loop {x : GNet} (hx : vNet x = true) {more ks0 : List GPoint} (h0 : Stand x more ks0 [] 0) :
    ∃ ks st, rangeN (S := (List (GPoint × Int)) × (List GEdge)) (X := (List (GPoint × Int)) × (List GEdge)) (fun ik2 s =>
      match s with
        | (z8, z9) =>
          (sight_taken (GNet.mk x.Rates x.Sights) (ik2 : Int)).bind (fun o => match o with
            | (t2, t3, t4) =>
              (appI z9 ([(GEdge.mk (sight_num z8 t2).1 (sight_num (sight_num z8 t2).2 t3).1 t4 (ik2 : Int))] : List GEdge)).bind (fun t5 =>
              some (Step.cont ((sight_num (sight_num z8 t2).2 t3).2, t5))))) (fun s => match s with | (z8, z9) => (z8, z9)) (2 * x.Sights.length) 0 (kvF 0 ks0, ([] : List GEdge)) = some (kvF 0 ks, st) ∧ Stand x more ks st (2 * x.Sights.length) := by
  have hv := vNet_iff.1 hx
  obtain ⟨⟨kv, st⟩, h1, ks, h2, h3⟩ := rangeN_inv (S := (List (GPoint × Int)) × (List GEdge)) (X := (List (GPoint × Int)) × (List GEdge)) (body := fun ik2 s =>
      match s with
        | (z8, z9) =>
          (sight_taken (GNet.mk x.Rates x.Sights) (ik2 : Int)).bind (fun o => match o with
            | (t2, t3, t4) =>
              (appI z9 ([(GEdge.mk (sight_num z8 t2).1 (sight_num (sight_num z8 t2).2 t3).1 t4 (ik2 : Int))] : List GEdge)).bind (fun t5 =>
              some (Step.cont ((sight_num (sight_num z8 t2).2 t3).2, t5))))) (fin := fun s => match s with | (z8, z9) => (z8, z9)) (fun k s => ∃ ks, s.1 = kvF 0 ks ∧ Stand x more ks s.2 k) (2 * x.Sights.length) (kvF 0 ks0, []) (fun k s hk hI => by
    obtain ⟨z8, z9⟩ := s
    obtain ⟨ks, e, hs⟩ := hI
    dsimp only at e hs
    subst e
    obtain ⟨s, hs'⟩ : ∃ s, x.Sights[k / 2]? = some s := ⟨_, List.getElem?_eq_getElem (by omega)⟩
    have hvs := hv.2.2.2.2.2 s (List.mem_of_getElem? hs')
    obtain ⟨_, _, _, _, _, _, _, l1, l2, l3⟩ := vSight_iff.1 hvs
    dsimp only
    rw [show GNet.mk x.Rates x.Sights = x from rfl, taken_eq hs' (by omega) ⟨l1, by omega⟩, Option.bind_some]
    have hg := stp_good hvs (k % 2 == 0)
    generalize hb : (k % 2 == 0) = b at hg
    obtain ⟨f, t, c, hst⟩ : ∃ f t c, stp s b = (f, t, c) := ⟨_, _, _, rfl⟩
    rw [hst] at hg ⊢
    dsimp only at hg ⊢
    rw [num_eq, num_eq]
    dsimp only
    unfold appI
    rw [if_pos (by rw [hs.slen]; simp; omega), Option.bind_some]
    refine ⟨_, rfl, addK (addK ks f) t, rfl, addK_nodup (addK_nodup hs.nodup), fun p hp => addK_sub (addK_sub (hs.sub p hp)), fun p hp => ?_, ?_, by simp [hs.slen], fun j e he => ?_⟩
    · rcases addK_or hp with hp | rfl
      · rcases addK_or hp with hp | rfl
        · exact hs.good p hp
        · exact hg.1
      · exact hg.2
    · have a1 := addK_len (addK ks f) t
      have a2 := addK_len ks f
      have := hs.len
      omega
    · rw [List.getElem?_append] at he
      split at he
      · obtain ⟨s1, q1, q2, q3, q4⟩ := hs.desc j e he
        refine ⟨s1, q1, addK_sub (addK_sub q2), addK_sub (addK_sub q3), ?_⟩
        rw [idx_app q2, idx_app q3]
        exact q4
      · rename_i hj
        have hj2 : j = k := by
          have := (List.getElem?_eq_some_iff.1 he).1
          simp at this
          have := hs.slen
          omega
        subst hj2
        rw [hs.slen, Nat.sub_self] at he
        cases he
        refine ⟨s, hs', ?_⟩
        rw [hb, hst]
        exact ⟨addK_sub (addK_mem ks f), addK_mem _ t, by rw [addK_idx (addK_mem ks f)]⟩) ⟨ks0, rfl, h0⟩
  exact ⟨ks, st, by rw [h1]; exact congrArg (fun z => some (z, st)) h2, h3⟩
end Go.Fw
