/-
  The example of the document, worked out: its net contradicts itself, its first sight alone bounds the clock. No program in it.
-/
import Derived.Test.YtailgbhadhoedaaM2
namespace Go.Fw
open Go.Gr
theorem sortEdges_eq {st st' : List GEdge} (h : st'.Perm st) (hs : st'.Pairwise fun a b => Go.Proofs.ltOf edgeC b a = false) (hn : (st.map edgeKey).Nodup) : sortEdges st = st' := by
  have p1 := (srtOf_facts edgeC edge_swo st).1
  refine List.Perm.eq_of_pairwise (le := fun a b => Go.Proofs.ltOf edgeC b a = false) (fun a b ha hb h1 h2 => ?_) (sorted_pairwise st) hs (p1.trans h.symm)
  have ha' : a ∈ st := p1.mem_iff.1 ha
  have hb' : b ∈ st := h.mem_iff.1 hb
  refine inj_of_nodup_map hn ha' hb' ?_
  have n1 : ¬ _ := fun h => by rw [(edge_lt b a).2 h] at h1; cases h1
  have n2 : ¬ _ := fun h => by rw [(edge_lt a b).2 h] at h2; cases h2
  unfold edgeKey
  have e1 : a.from_ = b.from_ := by omega
  have e2 : a.to = b.to := by omega
  have e3 : a.number = b.number := by omega
  rw [e1, e2, e3]
theorem bindS {α β : Type} {o : Option α} {f : α → Option β} {a : α} (h : o = some a) : o.bind f = f a := by rw [h]; rfl
def twoN : GNet := ⟨[0, 10000], [⟨0, 1, 0, 100, 100⟩, ⟨1000000, 1, 0, 150, 160⟩]⟩
def oneS : List GSight := [⟨0, 1, 0, 100, 100⟩]
def kvT : List (GPoint × Int) := [(⟨0, 0⟩, 0), (⟨1, 0⟩, 1), (⟨1, 1000000⟩, 2)]
def stT : List GEdge := [⟨0, 1, 100, 0⟩, ⟨1, 0, -100, 1⟩, ⟨0, 2, 160, 2⟩, ⟨2, 0, -150, 3⟩, ⟨1, 2, 10, -1⟩, ⟨2, 1, 10, -1⟩]
def soT : List GEdge := [⟨0, 1, 100, 0⟩, ⟨0, 2, 160, 2⟩, ⟨1, 0, -100, 1⟩, ⟨1, 2, 10, -1⟩, ⟨2, 0, -150, 3⟩, ⟨2, 1, 10, -1⟩]
def kvO : List (GPoint × Int) := [(⟨0, 0⟩, 0), (⟨1, 0⟩, 1)]
def stO : List GEdge := [⟨0, 1, 100, 0⟩, ⟨1, 0, -100, 1⟩]
def kvP : List (GPoint × Int) := [(⟨1, 1000000⟩, 0), (⟨0, 0⟩, 1), (⟨1, 0⟩, 2)]
def stP : List GEdge := [⟨1, 2, 100, 0⟩, ⟨2, 1, -100, 1⟩, ⟨0, 2, 10, -1⟩, ⟨2, 0, 10, -1⟩]
theorem two_eq : noongunlaw02_two = some twoN := rfl
theorem twoN_graph : sight_graphOf twoN [] = some (kvT, stT) := by decide
theorem oneN_graph : sight_graphOf ⟨[0, 10000], oneS⟩ [] = some (kvO, stO) := by decide
theorem oneN_graph2 : sight_graphOf ⟨[0, 10000], oneS⟩ [⟨1, 1000000⟩, ⟨0, 0⟩] = some (kvP, stP) := by decide
theorem sorted_to {kv : List (GPoint × Int)} {st so : List GEdge} (h : so.Perm st) (hs : so.Pairwise fun a b => Go.Proofs.ltOf edgeC b a = false) (hn : (st.map edgeKey).Nodup) (hl : st.length ≤ 1000) : sight_graph_sorted kv st = some so := by
  unfold sight_graph_sorted slices_Clone_step appI srtI
  rw [List.nil_append, if_pos (by simp only [List.length_nil]; omega), Option.bind_some, Option.bind_some, if_pos (by omega), sortEdges_eq h hs hn]
  rfl
theorem twoN_circle : circleG kvT stT = some (false, [0, 3]) := by
  unfold circleG
  rw [if_pos (by decide)]
  unfold sight_graph_circle
  rw [sorted_to (so := soT) (by decide) (by decide) (by decide) (by decide)]
  refine (bindS (a := [0, 0, 0]) (by decide)).trans ?_
  refine (bindS (a := [⟨0, 0, 0, 0⟩, ⟨0, 0, 0, 0⟩, ⟨0, 0, 0, 0⟩]) (by decide)).trans ?_
  refine (bindS (a := soT) rfl).trans ?_
  refine (bindS (a := 4) (by decide)).trans ?_
  refine (bindS (a := ([⟨2, 0, -150, 3⟩, ⟨0, 1, 100, 0⟩, ⟨1, 2, 10, -1⟩], 0)) (by decide)).trans ?_
  refine (if_neg (by decide)).trans ?_
  refine (bindS (a := 0) (by decide)).trans ?_
  refine (bindS (a := [3, 0]) ?_).trans (by decide)
  exact (loopR_cont (2, [3]) rfl).trans ((loopR_cont (1, [3]) rfl).trans (loopR_done rfl))
theorem oneN_circle : circleG kvO stO = some (true, []) := by
  unfold circleG
  rw [if_pos (by decide)]
  unfold sight_graph_circle
  rw [sorted_to (so := stO) (by decide) (by decide) (by decide) (by decide)]
  decide
theorem twoN_consistent : sight_Consistent twoN = some (false, 0) := by
  unfold sight_Consistent
  rw [show sight_Valid twoN = some true by decide, Option.bind_some, twoN_graph]
  refine (if_neg (by decide)).trans ?_
  exact (bindS (a := (kvT, stT)) rfl).trans ((bindS twoN_circle).trans rfl)
theorem oneN_noNeg : NoNeg (edgeE stP) := noNeg_of_potential (fun i => if i = 2 then 100 else if i = 1 then 0 else 100) fun p q c ⟨s, hs, h1, h2, h3⟩ => by
  subst h1; subst h2; subst h3
  exact (by decide : ∀ s ∈ stP, (if edgeP.to s = 2 then (100 : Int) else if edgeP.to s = 1 then 0 else 100) ≤ (if edgeP.fr s = 2 then 100 else if edgeP.fr s = 1 then 0 else 100) + edgeP.co s) s hs
theorem oneN_least : leastG kvP stP ⟨0, 0⟩ ⟨1, 1000000⟩ = some (110, true) ∧ leastG kvP stP ⟨1, 1000000⟩ ⟨0, 0⟩ = some (-90, true) := by
  unfold leastG
  rw [if_pos ⟨by decide, oneN_noNeg, ⟨1, by decide⟩, ⟨0, by decide⟩⟩, if_pos ⟨by decide, oneN_noNeg, ⟨0, by decide⟩, ⟨1, by decide⟩⟩]
  exact ⟨by decide, by decide⟩
theorem oneN_error : sight_Error ⟨[0, 10000], oneS⟩ 1 1000000 = some (⟨90, 110⟩, 0) := by
  unfold sight_Error sight_Between
  rw [show sight_clock ⟨[0, 10000], oneS⟩ [1, 0] = some 0 by decide, Option.bind_some]
  refine (bindS (a := (⟨90, 110⟩, 0)) ?_).trans rfl
  refine (if_neg (by decide)).trans ?_
  refine (bindS (a := true) (by decide)).trans ?_
  refine (if_neg (by decide)).trans ?_
  refine (bindS oneN_graph).trans ?_
  refine (bindS oneN_circle).trans ?_
  refine (if_neg (by decide)).trans ?_
  refine (bindS (a := (⟨90, 110⟩, true)) ?_).trans rfl
  unfold sight_between
  refine (if_neg (by decide)).trans ?_
  refine (bindS (a := ⟨1, 1000000⟩) (by decide)).trans ?_
  refine (bindS (a := ⟨0, 0⟩) (by decide)).trans ?_
  refine (bindS oneN_graph2).trans ?_
  refine (bindS oneN_least.1).trans ?_
  refine (bindS oneN_least.2).trans ?_
  decide
theorem awake_eq : noongunlaw02_awake = some true := by
  unfold noongunlaw02_awake
  refine (bindS two_eq).trans ?_
  refine (bindS twoN_consistent).trans ?_
  refine (bindS (a := oneS) (by decide)).trans ?_
  refine (bindS oneN_error).trans ?_
  decide
end Go.Fw
