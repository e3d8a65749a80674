/-
  The circle that the code finds, plain: what it answers. No program in it.
-/
import Derived.Test.YtailgbhadhoedaaCircLib2
namespace Go.Fw
open Go.Gr
theorem sumC_app (a b : List GEdge) : sumC edgeP (a ++ b) = sumC edgeP a + sumC edgeP b := by
  induction a with
  | nil => rw [List.nil_append, sumC_nil, Int.zero_add]
  | cons e a ih => rw [List.cons_append, sumC_cons, sumC_cons, ih, Int.add_assoc]
theorem sumC_rev (a : List GEdge) : sumC edgeP a.reverse = sumC edgeP a := by
  induction a with
  | nil => rfl
  | cons e a ih => rw [List.reverse_cons, sumC_app, sumC_cons, sumC_cons, ih, sumC_nil]; omega
theorem sumC_nonneg : ∀ (l : List GEdge), (∀ e ∈ l, 0 ≤ e.cost) → 0 ≤ sumC edgeP l
  | [], _ => Int.le_refl _
  | e :: l, h => by
    have h1 := sumC_nonneg l fun e he => h e (List.mem_cons_of_mem _ he)
    have h2 := h e (List.mem_cons_self ..)
    rw [sumC_cons]
    show 0 ≤ e.cost + _
    omega
theorem rep_idx {α : Type} {n : Nat} {a y : α} {i : Int} (hy : idx (List.replicate n a) i = some y) : y = a := by
  obtain ⟨_, _, h⟩ := idx_some hy
  rw [List.getElem?_replicate] at h
  split at h
  · exact (Option.some.inj h).symm
  · cases h
def numsOf (l : List GEdge) : List Int := (l.filter fun e => decide (0 ≤ e.number)).map fun e => e.number
/-- A circle of steps below 0. -/
structure Bad (st path : List GEdge) (s : Int) : Prop where
  way : PathL s path s
  mem : ∀ e ∈ path, e ∈ st
  neg : sumC edgeP path < 0
  len : path.length ≤ 1000
theorem Bad.not {st path : List GEdge} {s : Int} (h : Bad st path s) : ¬ NoNeg (edgeE st) := fun hn => by
  have := hn _ _ (PathL.way h.way h.mem)
  have := h.neg
  omega
theorem circle_spec {kv : List (GPoint × Int)} {st : List GEdge} (ho : okSteps kv.length st = true) (hlen : st.length ≤ 20000) (hkeys : (st.map edgeKey).Nodup) (hneg : ∀ e ∈ st, e.number < 0 → 0 ≤ e.cost) :
    (circleG kv st = some (true, []) ∧ NoNeg (edgeE st)) ∨ ∃ s path, circleG kv st = some (false, numsOf path) ∧ numsOf path ≠ [] ∧ Bad st path s := by
  obtain ⟨h1, _, h3⟩ := okSteps_iff.1 ho
  have pm := (srtOf_facts edgeC edge_swo st).1
  have hst : ∀ e ∈ sortEdges st, okE kv.length e := fun e he => h3 e (pm.mem_iff.1 he)
  have hsl : (sortEdges st).length ≤ 20000 := by rw [show (sortEdges st).length = st.length from pm.length_eq]; exact hlen
  have hso : sight_graph_sorted kv st = some (sortEdges st) := by
    unfold sight_graph_sorted slices_Clone_step appI srtI
    rw [List.nil_append, if_pos (by simp only [List.length_nil]; omega), Option.bind_some, Option.bind_some, if_pos (by omega)]
    rfl
  have m1 : makI (0 : Int) ((kv.length : Nat) : Int) = some (List.replicate kv.length 0) := by unfold makI; rw [if_pos (by omega)]; simp
  have m2 : makI (GEdge.mk 0 0 0 0) ((kv.length : Nat) : Int) = some (List.replicate kv.length ⟨0, 0, 0, 0⟩) := by unfold makI; rw [if_pos (by omega)]; simp
  have h0 : COk kv.length 0 (List.replicate kv.length (0 : Int)) (List.replicate kv.length (⟨0, 0, 0, 0⟩ : GEdge)) (fun _ => none) :=
    ⟨by simp, by simp, fun i x hx => by have := rep_idx hx; omega, fun i e he => by cases he⟩
  obtain ⟨low, c, b, by_, rd, q1, ⟨hok, ⟨T, tm, hk⟩, hlast⟩⟩ := prounds hst hsl _ _ h0 (kv.length + 1) (by omega)
  unfold circleG
  rw [if_pos hkeys]
  have hround : ∀ f : List GEdge × Int → Option (Bool × List Int), ((chkI (((kv.length : Nat) : Int) + 1) (rangeN (S := (List Int) × (List GEdge) × Int) (X := (List GEdge) × Int) (fun ik1 s =>
      match s with
        | (z4, z5, z6) =>
          (sight_push z6 (sortEdges st) z4 z5).bind (fun o => match o with
            | (t5, t6, t7) =>
              some (Step.cont (t5, t6, t7)))) (fun s => match s with | (z4, z5, z6) => (z5, z6)) (Int.toNat (((kv.length : Nat) : Int) + 1)) 0 (List.replicate kv.length (0 : Int), List.replicate kv.length (⟨0, 0, 0, 0⟩ : GEdge), (-1)))).bind f) = f (b, low) := by
    intro f
    refine bindS ?_
    unfold chkI
    rw [if_pos (inI_iff.2 (by omega)), show Int.toNat (((kv.length : Nat) : Int) + 1) = kv.length + 1 by omega]
    refine (rangeN_congr (body' := fun _ s => (rangeL (α := GEdge) (S := Cz) (X := Cz) (fun _ e z => (pbody e z).bind fun z => some (Step.cont z)) (fun z => z) (sortEdges st) 0 (-1, s.1, s.2.1)).bind fun z => some (Step.cont (z.2.1, z.2.2, z.1))) (fin' := fun s => (s.2.1, s.2.2)) (fun _ => rfl) _ _ _ fun j s _ _ => ?_).trans q1
    obtain ⟨z4, z5, z6⟩ := s
    dsimp only
    rw [push_eq]
    generalize rangeL (α := GEdge) (S := Cz) (X := Cz) _ _ (sortEdges st) 0 (-1, z4, z5) = o
    cases o <;> rfl
  unfold sight_graph_circle
  rw [m1, Option.bind_some, m2, Option.bind_some, hso, Option.bind_some, addI_ok (by omega), Option.bind_some, hround]
  dsimp only
  rcases hlast (by omega) with ⟨rfl, hsat⟩ | ⟨hr, hrd⟩
  · refine .inl ⟨rfl, ?_⟩
    rw [← stepE_perm pm]
    refine noNeg_of_potential (fun i => (idx c i).getD 0) fun u v w ⟨e, he, e1, e2, e3⟩ => ?_
    subst e1; subst e2; subst e3
    have hf := (hst e he).1
    obtain ⟨a, ha⟩ := idx_ok (l := c) hf.1 (by rw [hok.l1]; exact hf.2)
    obtain ⟨b', hb', hle⟩ := hsat e he a ha
    have hb2 : idx c e.to = some b' := hb'
    show (idx c e.to).getD 0 ≤ (idx c e.from_).getD 0 + e.cost
    rw [hb2, ha]
    exact hle
  · right
    rw [if_neg (by rw [decide_eq_true_eq]; omega)]
    let ed : Int → GEdge := fun v => (by_ v).getD ⟨0, 0, 0, 0⟩
    let nx : Int → Int := fun v => (ed v).from_
    have hed : ∀ v s, by_ v = some s → ed v = s := fun v s h => by show (by_ v).getD _ = s; rw [h]; rfl
    have hk1 : ∀ k, k ≤ kv.length → kv.length + 1 ≤ rd (itr nx low k) + k ∧ 0 ≤ itr nx low k ∧ itr nx low k < (kv.length : Int) := by
      intro k
      induction k with
      | zero => intro _; exact ⟨by show _ ≤ rd low + 0; omega, hr⟩
      | succ k ih =>
        intro hle
        obtain ⟨i1, i2⟩ := ih (by omega)
        obtain ⟨s, hs⟩ := hk.some_ (itr nx low k) (by omega)
        have hp := hk.pred _ _ hs
        obtain ⟨_, hmem, _⟩ := hk.val _ _ hs
        have e1 : itr nx low (k + 1) = s.from_ := by show (ed (itr nx low k)).from_ = _; rw [hed _ _ hs]
        rw [e1]
        have : rd (itr nx low k) ≤ rd s.from_ + 1 := hp
        exact ⟨by omega, (hst s hmem).1⟩
    obtain ⟨i, j, hij, hjn, hitr⟩ := pigeon (itr nx low) kv.length fun k hk' => (hk1 k hk').2
    have hper := itr_add nx low i j hitr
    have hby : ∀ k, ∃ s, by_ (itr nx low k) = some s := by
      intro k
      induction k using Nat.strongRecOn with
      | _ k ih =>
        rcases Nat.lt_or_ge kv.length k with hgt | hle
        · have := hper (k - j)
          rw [show j + (k - j) = k by omega] at this
          rw [← this]
          exact ih _ (by omega)
        · exact hk.some_ _ (by have := (hk1 k hle).1; omega)
    have hg : ∀ k, by_ (itr nx (itr nx low kv.length) k) = some (ed (itr nx (itr nx low kv.length) k)) := by
      intro k
      rw [itr_itr]
      obtain ⟨s, hs⟩ := hby (kv.length + k)
      rw [hs, hed _ _ hs]
    have hex : itr nx (itr nx low kv.length) (j - i) = itr nx low kv.length := by
      rw [itr_itr]
      have := hper (kv.length - i)
      rw [show i + (kv.length - i) = kv.length by omega] at this
      rw [show kv.length + (j - i) = j + (kv.length - i) by omega]
      exact this.symm
    obtain ⟨L, l1, l2, l3, l4⟩ := back_loop (n := kv.length) (b := b) (ed := ed) (s3 := itr nx low kv.length) h1 (fun k => hok.ghost _ _ (hg k)) ⟨j - i, by omega, by omega, hex⟩
    have hfirst : (chkI ((kv.length : Nat) : Int) (rangeN (S := Int) (X := Int) (fun ik2 z11 =>
          (idx b z11).bind (fun x1 =>
          some (Step.cont x1.from_))) (fun z11 => z11) (Int.toNat ((kv.length : Nat) : Int)) 0 low)) = some (itr nx low kv.length) := by
      unfold chkI
      rw [if_pos (inI_iff.2 (by omega)), Int.toNat_natCast]
      obtain ⟨z, z1, z2⟩ := rangeN_inv (S := Int) (X := Int) (body := fun ik2 z11 => (idx b z11).bind (fun x1 => some (Step.cont x1.from_))) (fin := fun z => z) (fun k z => z = itr nx low k) kv.length low (fun k z hk' hz => by
        subst hz
        obtain ⟨s, hs⟩ := hby k
        refine ⟨itr nx low (k + 1), ?_, rfl⟩
        rw [hok.ghost _ _ hs, Option.bind_some]
        show _ = some (Step.cont (ed (itr nx low k)).from_)
        rw [hed _ _ hs]) rfl
      rw [z1, z2]
    have hval : ∀ k, (ed (itr nx (itr nx low kv.length) k)).to = itr nx (itr nx low kv.length) k ∧ ed (itr nx (itr nx low kv.length) k) ∈ sortEdges st := fun k => by
      obtain ⟨v1, v2, _⟩ := hk.val _ _ (hg k)
      exact ⟨v1, v2⟩
    have hpath : ∀ k, PathL (itr nx (itr nx low kv.length) k) (edN ed (itr nx (itr nx low kv.length)) k).reverse (itr nx low kv.length) := by
      intro k
      induction k with
      | zero => rfl
      | succ k ih =>
        rw [edN, List.reverse_append]
        refine ⟨rfl, ?_⟩
        rw [(hval k).1]
        exact ih
    have hback : ∀ k, Back edgeP (cMa c by_) (itr nx low kv.length) (itr nx (itr nx low kv.length) k) (edN ed (itr nx (itr nx low kv.length)) k) := by
      intro k
      induction k with
      | zero => exact .nil _
      | succ k ih => exact ih.append (.cons (hg k) (.nil _))
    have hmem : ∀ k, ∀ e ∈ edN ed (itr nx (itr nx low kv.length)) k, e ∈ st := by
      intro k
      induction k with
      | zero => intro e he; cases he
      | succ k ih =>
        intro e he
        rcases List.mem_append.1 he with he | he
        · exact ih e he
        · rw [List.mem_singleton.1 he]
          exact pm.mem_iff.1 (hval k).2
    have helen : ∀ k, (edN ed (itr nx (itr nx low kv.length)) k).length = k := by
      intro k
      induction k with
      | zero => rfl
      | succ k ih => rw [edN, List.length_append, ih]; rfl
    have hneg' : sumC edgeP (edN ed (itr nx (itr nx low kv.length)) L) < 0 := by
      have hb := hback L
      have l3' : itr nx (itr nx low kv.length) L = itr nx low kv.length := l3
      rw [l3'] at hb
      refine (hk.circle hb fun h => ?_).2
      have := helen L
      rw [h] at this
      simp at this
      omega
    have hcol : (colN ed (itr nx (itr nx low kv.length)) L).reverse = numsOf (edN ed (itr nx (itr nx low kv.length)) L).reverse := by
      rw [colN_eq]
      unfold numsOf
      rw [List.filter_reverse, List.map_reverse]
    have hne : numsOf (edN ed (itr nx (itr nx low kv.length)) L).reverse ≠ [] := by
      intro h
      have hz : ∀ e ∈ edN ed (itr nx (itr nx low kv.length)) L, 0 ≤ e.cost := fun e he => by
        apply hneg e (hmem L e he)
        apply Classical.byContradiction
        intro hn
        have : e.number ∈ numsOf (edN ed (itr nx (itr nx low kv.length)) L).reverse :=
          List.mem_map.2 ⟨e, List.mem_filter.2 ⟨List.mem_reverse.2 he, by simpa using hn⟩, rfl⟩
        rw [h] at this
        cases this
      have := sumC_nonneg _ hz
      omega
    refine ⟨itr nx low kv.length, (edN ed (itr nx (itr nx low kv.length)) L).reverse, ?_, hne, ?_, fun e he => hmem L e (List.mem_reverse.1 he), by rw [sumC_rev]; exact hneg', by rw [List.length_reverse, helen]; omega⟩
    · refine (bindS hfirst).trans ?_
      refine (bindS l4).trans ?_
      unfold turnL
      rw [if_pos (by have := colN_len ed (itr nx (itr nx low kv.length)) L; exact Nat.le_trans this (by omega)), Option.bind_some]
      rw [show (colN ed (itr (fun v => (ed v).from_) (itr nx low kv.length)) L).reverse = _ from hcol]
      cases hn : numsOf (edN ed (itr nx (itr nx low kv.length)) L).reverse with
      | nil => exact absurd hn hne
      | cons a l => rfl
    · have := hpath L
      have l3' : itr nx (itr nx low kv.length) L = itr nx low kv.length := l3
      rw [l3'] at this
      exact this
end Go.Fw
