/-
  The order of the steps, plain: sorted, steps of different keys come out in one order, in whatever order they went in. No condition.
-/
import Derived.Test.YtnkncedhanainaaSgLeast
namespace Go.Fw
open Go.Gr
def edgeKey (e : GEdge) : Int × Int × Int := (e.from_, e.to, e.number)
theorem inj_of_nodup_map {α β : Type} {f : α → β} {a b : α} : ∀ {l : List α}, (l.map f).Nodup → a ∈ l → b ∈ l → f a = f b → a = b
  | [], _, ha, _, _ => by cases ha
  | x :: l, hn, ha, hb, he => by
    rw [List.map_cons, List.nodup_cons] at hn
    rcases List.mem_cons.1 ha with h1 | ha <;> rcases List.mem_cons.1 hb with h2 | hb
    · rw [h1, h2]
    · rw [h1] at he; exact absurd (List.mem_map.2 ⟨b, hb, he.symm⟩) hn.1
    · rw [h2] at he; exact absurd (List.mem_map.2 ⟨a, ha, he⟩) hn.1
    · exact inj_of_nodup_map hn.2 ha hb he
theorem sorted_pairwise (xs : List GEdge) : (sortEdges xs).Pairwise fun a b => Go.Proofs.ltOf edgeC b a = false := by
  obtain ⟨h1, h2⟩ := srtOf_facts edgeC edge_swo xs
  have hl := h1.length_eq
  rw [List.pairwise_iff_getElem]
  intro i j hi hj hij
  have := h2 i j (Nat.zero_le _) hij (by rw [← hl]; exact hj)
  have hi' : i < (srtOf edgeC xs).toArray.size := by rw [List.size_toArray]; exact hi
  have hj' : j < (srtOf edgeC xs).toArray.size := by rw [List.size_toArray]; exact hj
  rw [getElem!_pos _ i hi', getElem!_pos _ j hj'] at this
  exact this
theorem sort_perm {st st' : List GEdge} (h : st'.Perm st) (hn : (st.map edgeKey).Nodup) : sortEdges st' = sortEdges st := by
  have p1 := (srtOf_facts edgeC edge_swo st).1
  have p2 := (srtOf_facts edgeC edge_swo st').1
  refine List.Perm.eq_of_pairwise (le := fun a b => Go.Proofs.ltOf edgeC b a = false) (fun a b ha hb h1 h2 => ?_) (sorted_pairwise st') (sorted_pairwise st) (p2.trans (h.trans p1.symm))
  have ha' : a ∈ st := h.mem_iff.1 (p2.mem_iff.1 ha)
  have hb' : b ∈ st := p1.mem_iff.1 hb
  refine inj_of_nodup_map hn ha' hb' ?_
  have n1 : ¬ _ := fun h => by rw [(edge_lt b a).2 h] at h1; cases h1
  have n2 : ¬ _ := fun h => by rw [(edge_lt a b).2 h] at h2; cases h2
  unfold edgeKey
  have e1 : a.from_ = b.from_ := by omega
  have e2 : a.to = b.to := by omega
  have e3 : a.number = b.number := by omega
  rw [e1, e2, e3]
/-- The circle, where the steps' keys differ. -/
noncomputable def circleG (kv : List (GPoint × Int)) (st : List GEdge) : Option (Bool × List Int) := if (st.map edgeKey).Nodup then sight_graph_circle kv st else none
theorem sorted_perm {kv : List (GPoint × Int)} {st st' : List GEdge} (h : st'.Perm st) (hn : (st.map edgeKey).Nodup) : sight_graph_sorted kv st' = sight_graph_sorted kv st := by
  unfold sight_graph_sorted slices_Clone_step appI srtI
  simp only [List.nil_append, List.length_nil, h.length_eq]
  split
  · simp only [Option.bind_some, h.length_eq, sort_perm h hn]
  · rfl
theorem circle_perm {kv : List (GPoint × Int)} {st st' : List GEdge} {r : Bool × List Int} (h : st'.Perm st) (hm : circleG kv st = some r) : sight_graph_circle kv st' = some r := by
  unfold circleG at hm
  split at hm
  case isFalse => cases hm
  rename_i hn
  rw [← hm]
  unfold sight_graph_circle
  rw [sorted_perm h hn]
end Go.Fw
