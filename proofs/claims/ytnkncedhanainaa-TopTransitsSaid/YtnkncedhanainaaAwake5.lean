/-
  The example of the first top laws, worked out: a sight of the sky is the clock's error, and a fraction in lowest terms. No program in it.
-/
import Derived.Test.YtnkncedhanainaaM2
namespace Go.Fw
open Go.Gr
theorem sortEdges_eq {st st' : List GEdge} (h : st'.Perm st) (hs : st'.Pairwise fun a b => Go.Proofs.ltOf edgeC b a = false) (hn : (st.map edgeKey).Nodup) : sortEdges st = st' := by
  have p1 := (srtOf_facts edgeC edge_swo st).1
  refine List.Perm.eq_of_pairwise (le := fun a b => Go.Proofs.ltOf edgeC b a = false) (fun a b ha hb h1 h2 => ?_) (sorted_pairwise st) hs (p1.trans h.symm)
  have ha' : a ∈ st := p1.mem_iff.1 ha
  have hb' : b ∈ st := h.mem_iff.1 hb
  refine inj_of_nodup_map hn ha' hb' ?_
  have n1 : ¬ _ := fun h => by rw [(edge_lt b a).2 h] at h1; cases h1
  have n2 : ¬ _ := fun h => by rw [(edge_lt a b).2 h] at h2; cases h2
  unfold edgeKey
  have e1 : a.from_ = b.from_ := by omega
  have e2 : a.to = b.to := by omega
  have e3 : a.number = b.number := by omega
  rw [e1, e2, e3]
theorem bindS {α β : Type} {o : Option α} {f : α → Option β} {a : α} (h : o = some a) : o.bind f = f a := by rw [h]; rfl
theorem sorted_to {kv : List (GPoint × Int)} {st so : List GEdge} (h : so.Perm st) (hs : so.Pairwise fun a b => Go.Proofs.ltOf edgeC b a = false) (hn : (st.map edgeKey).Nodup) (hl : st.length ≤ 1000) : sight_graph_sorted kv st = some so := by
  unfold sight_graph_sorted slices_Clone_step appI srtI
  rw [List.nil_append, if_pos (by simp only [List.length_nil]; omega), Option.bind_some, Option.bind_some, if_pos (by omega), sortEdges_eq h hs hn]
  rfl
def netA : GNet := ⟨[0, 1000], [⟨5, 1, 0, -3, 4⟩]⟩
def kvA : List (GPoint × Int) := [(⟨0, 0⟩, 0), (⟨1, 5⟩, 1)]
def stA : List GEdge := [⟨0, 1, 4, 0⟩, ⟨1, 0, 3, 1⟩]
def kvB : List (GPoint × Int) := [(⟨1, 5⟩, 0), (⟨0, 0⟩, 1)]
def stB : List GEdge := [⟨1, 0, 4, 0⟩, ⟨0, 1, 3, 1⟩]
theorem netA_graph : sight_graphOf netA [] = some (kvA, stA) := by decide
theorem netA_graph2 : sight_graphOf netA [⟨1, 5⟩, ⟨0, 0⟩] = some (kvB, stB) := by decide
theorem netA_circle : circleG kvA stA = some (true, []) := by
  unfold circleG
  rw [if_pos (by decide)]
  unfold sight_graph_circle
  rw [sorted_to (so := stA) (by decide) (by decide) (by decide) (by decide)]
  decide
theorem netA_noNeg : NoNeg (edgeE stB) := noNeg_of_potential (fun i => if i = 0 then 0 else 0) fun p q c ⟨s, hs, h1, h2, h3⟩ => by
  subst h1; subst h2; subst h3
  exact (by decide : ∀ s ∈ stB, (if edgeP.to s = 0 then (0 : Int) else 0) ≤ (if edgeP.fr s = 0 then 0 else 0) + edgeP.co s) s hs
theorem netA_least : leastG kvB stB ⟨0, 0⟩ ⟨1, 5⟩ = some (4, true) ∧ leastG kvB stB ⟨1, 5⟩ ⟨0, 0⟩ = some (3, true) := by
  unfold leastG
  rw [if_pos ⟨by decide, netA_noNeg, ⟨1, by decide⟩, ⟨0, by decide⟩⟩, if_pos ⟨by decide, netA_noNeg, ⟨0, by decide⟩, ⟨1, by decide⟩⟩]
  exact ⟨by decide, by decide⟩
theorem netA_error : sight_Error netA 1 5 = some (⟨-3, 4⟩, 0) := by
  unfold sight_Error sight_Between
  rw [show sight_clock netA [1, 0] = some 0 by decide, Option.bind_some]
  refine (bindS (a := (⟨-3, 4⟩, 0)) ?_).trans rfl
  refine (if_neg (by decide)).trans ?_
  refine (bindS (a := true) (by decide)).trans ?_
  refine (if_neg (by decide)).trans ?_
  refine (bindS netA_graph).trans ?_
  refine (bindS netA_circle).trans ?_
  refine (if_neg (by decide)).trans ?_
  refine (bindS (a := (⟨-3, 4⟩, true)) ?_).trans rfl
  unfold sight_between
  refine (if_neg (by decide)).trans ?_
  refine (bindS (a := ⟨1, 5⟩) (by decide)).trans ?_
  refine (bindS (a := ⟨0, 0⟩) (by decide)).trans ?_
  refine (bindS netA_graph2).trans ?_
  refine (bindS netA_least.1).trans ?_
  refine (bindS netA_least.2).trans ?_
  decide
theorem gcd_step {z3 z4 : Int} (h : z4 ≠ 0) : (fun (s : Int × Int) => match s with
    | (z3, z4) => (if (z4 != 0) = true then (remI z3 z4).bind (fun t1 => some (Step.cont (X := Int) (z4, t1))) else some (Step.done z3)) : Int × Int → Option (Step (Int × Int) Int)) (z3, z4) = some (Step.cont (z4, z3.tmod z4)) := by
  have h1 : (z4 != 0) = true := by simpa using h
  show (if (z4 != 0) = true then _ else _) = _
  rw [if_pos h1, remI_ok h]
  rfl
theorem make_eq : span_Make 6 (-4) = some (⟨-3, 2⟩, 0) := by
  have d1 : span_divisor 6 (-4) = some 2 := by
    unfold span_divisor
    refine (bindS (a := 2) ?_).trans (by decide)
    exact (loopR_cont (-4, 2) (gcd_step (by decide))).trans ((loopR_cont (2, 0) (gcd_step (by decide))).trans (loopR_done rfl))
  have d2 : span_divisor (-3) 2 = some 1 := by
    unfold span_divisor
    refine (bindS (a := -1) ?_).trans (by decide)
    refine (loopR_cont (2, -1) (gcd_step (by decide))).trans ((loopR_cont (-1, 0) (gcd_step (by decide))).trans ?_)
    exact loopR_done rfl
  unfold span_Make
  refine (if_neg (by decide)).trans ?_
  refine (bindS (a := (⟨-3, 2⟩, 0)) ?_).trans rfl
  unfold span_lowest
  refine (bindS (a := ⟨-3, 2⟩) ?_).trans ?_
  · unfold span_quotient_reduce
    refine (bindS d1).trans (by decide)
  · refine (bindS (a := true) ?_).trans rfl
    unfold span_ValidRatio
    refine (bindS (a := true) ?_).trans rfl
    refine (if_pos (by decide)).trans ?_
    exact (bindS d2).trans rfl
theorem awake_eq : noonguntop_awake5 = some true := by
  unfold noonguntop_awake5
  refine (bindS netA_error).trans ?_
  refine (bindS make_eq).trans ?_
  decide
end Go.Fw
