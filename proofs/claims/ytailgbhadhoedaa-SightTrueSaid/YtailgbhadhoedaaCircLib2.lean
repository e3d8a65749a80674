/-
  The circle that the code finds, plain: going back along the steps. No program in it.
-/
import Derived.Test.YtailgbhadhoedaaCircLib
namespace Go.Fw
open Go.Gr
theorem pigeon (f : Nat → Int) (n : Nat) (hf : ∀ k, k ≤ n → 0 ≤ f k ∧ f k < (n : Int)) : ∃ i j, i < j ∧ j ≤ n ∧ f i = f j := by
  apply Classical.byContradiction
  intro hno
  have hnd : ((List.range (n + 1)).map f).Nodup := by
    unfold List.Nodup
    rw [List.pairwise_map]
    refine List.Pairwise.imp_of_mem (R := fun a b => a < b) (fun {a b} ha hb hlt he => ?_) List.pairwise_lt_range
    exact hno ⟨a, b, hlt, by have := List.mem_range.1 hb; omega, he⟩
  have := List.Nodup.length_le_of_subset hnd (l₂ := (List.range n).map fun i : Nat => (i : Int)) (fun y hy => by
    obtain ⟨k, hk, rfl⟩ := List.mem_map.1 hy
    have := hf k (by have := List.mem_range.1 hk; omega)
    exact List.mem_map.2 ⟨(f k).toNat, List.mem_range.2 (by omega), by omega⟩)
  simp at this
  omega
def PathL : Int → List GEdge → Int → Prop
  | s, [], t => s = t
  | s, e :: l, t => e.from_ = s ∧ PathL e.to l t
theorem PathL.snoc : ∀ {l : List GEdge} {s : Int} {e : GEdge}, PathL s l e.from_ → PathL s (l ++ [e]) e.to
  | [], _, _, h => ⟨h.symm, rfl⟩
  | _ :: l, _, _, h => ⟨h.1, PathL.snoc (l := l) h.2⟩
theorem PathL.way {st : List GEdge} : ∀ {l : List GEdge} {s t : Int}, PathL s l t → (∀ e ∈ l, e ∈ st) → Wy (edgeE st) s t (sumC edgeP l)
  | [], s, t, h, _ => by cases (show s = t from h); exact .nil _
  | e :: l, s, t, h, hs => by
    rw [sumC_cons]
    exact Wy.cons ⟨e, hs e (List.mem_cons_self ..), h.1, rfl, rfl⟩ (PathL.way h.2 fun e he => hs e (List.mem_cons_of_mem _ he))
theorem push_eq (a0 : Int) (st : List GEdge) (c : List Int) (b : List GEdge) : sight_push a0 st c b = (rangeL (α := GEdge) (S := Cz) (X := Cz) (fun _ e z => (pbody e z).bind fun z => some (Step.cont z)) (fun z => z) st 0 (-1, c, b)).bind fun z => some (z.2.1, z.2.2, z.1) := by
  unfold sight_push
  refine (congrArg (fun o => Option.bind o _) (rangeL_congr (body' := fun _ e z => (pbody e z).bind fun z => some (Step.cont z)) (fin' := fun z => z) (fun _ => rfl) st 0 (-1, c, b) fun i x s _ => ?_)).trans ?_
  · obtain ⟨z4, z5, z6⟩ := s
    unfold pbody
    dsimp only
    cases idx z5 x.from_ with
    | none => rfl
    | some a =>
      dsimp only [Option.bind_some]
      cases addI a x.cost with
      | none => rfl
      | some t =>
        dsimp only [Option.bind_some]
        cases idx z5 x.to with
        | none => rfl
        | some k =>
          dsimp only [Option.bind_some]
          by_cases h : t < k
          · simp only [h, decide_true, if_true]
            cases idx z6 x.to <;> rfl
          · simp only [h, decide_false, if_false, Bool.false_eq_true, Option.bind_some]
  · generalize rangeL (α := GEdge) (S := Cz) (X := Cz) _ _ st 0 (-1, c, b) = o
    cases o <;> rfl
/-- The steps back from a point: where each comes from. -/
def itr (nx : Int → Int) (v : Int) : Nat → Int
  | 0 => v
  | k + 1 => nx (itr nx v k)
theorem itr_add (nx : Int → Int) (v : Int) (a b : Nat) (h : itr nx v a = itr nx v b) : ∀ t, itr nx v (a + t) = itr nx v (b + t)
  | 0 => h
  | t + 1 => by rw [← Nat.add_assoc, ← Nat.add_assoc, itr, itr, itr_add nx v a b h t]
theorem itr_itr (nx : Int → Int) (v : Int) (a : Nat) : ∀ t, itr nx (itr nx v a) t = itr nx v (a + t)
  | 0 => rfl
  | t + 1 => by rw [itr, itr_itr nx v a t, ← Nat.add_assoc, itr]
def colN (ed : Int → GEdge) (g : Nat → Int) : Nat → List Int
  | 0 => []
  | k + 1 => colN ed g k ++ (if 0 ≤ (ed (g k)).number then [(ed (g k)).number] else [])
def edN (ed : Int → GEdge) (g : Nat → Int) : Nat → List GEdge
  | 0 => []
  | k + 1 => edN ed g k ++ [ed (g k)]
theorem colN_eq (ed : Int → GEdge) (g : Nat → Int) : ∀ k, colN ed g k = ((edN ed g k).filter fun e => decide (0 ≤ e.number)).map fun e => e.number
  | 0 => rfl
  | k + 1 => by
    rw [colN, edN, List.filter_append, List.map_append, colN_eq ed g k]
    by_cases h : 0 ≤ (ed (g k)).number <;> simp [h]
theorem colN_len (ed : Int → GEdge) (g : Nat → Int) : ∀ k, (colN ed g k).length ≤ k
  | 0 => Nat.le_refl _
  | k + 1 => by
    have := colN_len ed g k
    rw [colN, List.length_append]
    split <;> simp <;> omega
/-- All that the code's way back needs to know. -/
theorem back_loop {n : Nat} {b : List GEdge} {ed : Int → GEdge} {s3 : Int} (hn : n ≤ 1000) (hb : ∀ k, idx b (itr (fun v => (ed v).from_) s3 k) = some (ed (itr (fun v => (ed v).from_) s3 k))) (hex : ∃ L, 1 ≤ L ∧ L ≤ n ∧ itr (fun v => (ed v).from_) s3 L = s3) :
    ∃ L, 1 ≤ L ∧ L ≤ n ∧ itr (fun v => (ed v).from_) s3 L = s3 ∧
    loopR (S := Int × List Int) (X := List Int) (fun (s : Int × (List Int)) => match s with
          | (z15, z16) =>
            (idx b z15).bind (fun x2 =>
            ((
              (if (decide (0 ≤ x2.number)) = true then
                (appI z16 ([x2.number] : List Int)).bind (fun t8 =>
                some t8)
              else
                some z16)) : Option ((List Int))).bind (fun s5 =>
            (idx b z15).bind (fun x3 =>
            (if (x3.from_ == s3) = true then
              some (Step.done s5)
            else
              some (Step.cont (x3.from_, s5))))))) (s3, ([] : List Int)) = some (colN ed (itr (fun v => (ed v).from_) s3) L) := by
  obtain ⟨L0, h1, h2, h3⟩ := hex
  have key : ∀ (d k : Nat), k + d = L0 → (∀ j, 1 ≤ j → j ≤ k → itr (fun v => (ed v).from_) s3 j ≠ s3) → 1 ≤ d → ∃ L, 1 ≤ L ∧ L ≤ n ∧ itr (fun v => (ed v).from_) s3 L = s3 ∧
    loopR (S := Int × List Int) (X := List Int) (fun (s : Int × (List Int)) => match s with
          | (z15, z16) =>
            (idx b z15).bind (fun x2 =>
            ((
              (if (decide (0 ≤ x2.number)) = true then
                (appI z16 ([x2.number] : List Int)).bind (fun t8 =>
                some t8)
              else
                some z16)) : Option ((List Int))).bind (fun s5 =>
            (idx b z15).bind (fun x3 =>
            (if (x3.from_ == s3) = true then
              some (Step.done s5)
            else
              some (Step.cont (x3.from_, s5))))))) (itr (fun v => (ed v).from_) s3 k, colN ed (itr (fun v => (ed v).from_) s3) k) = some (colN ed (itr (fun v => (ed v).from_) s3) L) := by
    intro d
    induction d with
    | zero => intro k _ _ h; omega
    | succ d ih =>
      intro k hk hne _
      have hcol : ((if (decide (0 ≤ (ed (itr (fun v => (ed v).from_) s3 k)).number)) = true then (appI (colN ed (itr (fun v => (ed v).from_) s3) k) ([(ed (itr (fun v => (ed v).from_) s3 k)).number] : List Int)).bind (fun t8 => some t8) else some (colN ed (itr (fun v => (ed v).from_) s3) k)) : Option (List Int)) = some (colN ed (itr (fun v => (ed v).from_) s3) (k + 1)) := by
        have hlen := colN_len ed (itr (fun v => (ed v).from_) s3) k
        rw [colN]
        by_cases h0 : 0 ≤ (ed (itr (fun v => (ed v).from_) s3 k)).number
        · rw [if_pos (decide_eq_true h0), if_pos h0]
          unfold appI
          rw [if_pos (by simp; omega)]
          rfl
        · rw [if_neg (by simpa using h0), if_neg h0, List.append_nil]
      by_cases he : itr (fun v => (ed v).from_) s3 (k + 1) = s3
      · refine ⟨k + 1, by omega, by omega, he, loopR_done ?_⟩
        dsimp only
        rw [hb k, Option.bind_some, hcol, Option.bind_some, Option.bind_some, if_pos (show ((ed (itr (fun v => (ed v).from_) s3 k)).from_ == s3) = true from beq_iff_eq.2 he)]
      · have hd : 1 ≤ d := by
          rcases Nat.eq_zero_or_pos d with hd | hd
          · subst hd
            rw [show k + 1 = L0 by omega] at he
            exact absurd h3 he
          · exact hd
        obtain ⟨L, g1, g2, g3, g4⟩ := ih (k + 1) (by omega) (fun j j1 j2 => by
          rcases Nat.lt_or_ge k j with hj | hj
          · rw [show j = k + 1 by omega]; exact he
          · exact hne j j1 hj) hd
        refine ⟨L, g1, g2, g3, (loopR_cont _ ?_).trans g4⟩
        dsimp only
        rw [hb k, Option.bind_some, hcol, Option.bind_some, Option.bind_some, if_neg (show ¬ ((ed (itr (fun v => (ed v).from_) s3 k)).from_ == s3) = true from fun h => he (beq_iff_eq.1 h))]
        rfl
  exact key L0 0 (by omega) (fun j j1 j2 => by omega) h1
end Go.Fw
