import Derived.Test.YtailgbhadhoedaaRowLib
/-
  The circle that the code finds, plain: it finds one exactly if one is below 0. No program in it.
-/
namespace Go.Fw
open Go.Gr
theorem idx_set' {α : Type} {l : List α} {i j : Int} {y : α} (h0 : 0 ≤ i) (h1 : i < (l.length : Int)) : idx (l.set (Int.toNat i) y) j = if j = i then some y else idx l j := by
  by_cases hj : 0 ≤ j
  · exact idx_set h0 h1 hj
  · rw [idx_neg hj, idx_neg hj, if_neg (by omega)]
abbrev Cz := Int × List Int × List GEdge
def pbody (e : GEdge) (z : Cz) : Option Cz :=
  (idx z.2.1 e.from_).bind fun x1 => (addI x1 e.cost).bind fun t1 => (idx z.2.1 e.to).bind fun x2 =>
  if t1 < x2 then (idx z.2.1 e.to).bind fun _ => (idx z.2.2 e.to).bind fun _ => some (e.to, z.2.1.set (Int.toNat e.to) t1, z.2.2.set (Int.toNat e.to) e) else some z
structure COk (n : Nat) (B : Int) (c : List Int) (b : List GEdge) (by_ : Int → Option GEdge) : Prop where
  l1 : c.length = n
  l2 : b.length = n
  bound : ∀ i x, idx c i = some x → -B ≤ x ∧ x ≤ B
  ghost : ∀ i e, by_ i = some e → idx b i = some e
abbrev cMa (c : List Int) (by_ : Int → Option GEdge) : Ma GEdge Int := ⟨fun i => idx c i, by_⟩
def okE (n : Nat) (e : GEdge) : Prop := (0 ≤ e.from_ ∧ e.from_ < (n : Int)) ∧ (0 ≤ e.to ∧ e.to < (n : Int)) ∧ -2000000000 ≤ e.cost ∧ e.cost ≤ 2000000000
theorem pbody_ok {n : Nat} {B : Int} {low : Int} {c : List Int} {b : List GEdge} {by_ : Int → Option GEdge} (h : COk n B c b by_) (hB : 0 ≤ B) (hB2 : B ≤ 4000000000000000000) {e : GEdge} (he : okE n e) :
    ∃ low' c' b' by', pbody e (low, c, b) = some (low', c', b') ∧ COk n (B + 2000000000) c' b' by' ∧ Push edgeP (cMa c by_) e (cMa c' by') ∧ ((low' = low ∧ cMa c' by' = cMa c by_ ∧ (cMa c by_).Sat edgeP e) ∨ (low' = e.to ∧ cMa c' by' ≠ cMa c by_)) := by
  obtain ⟨hf, ht, hc⟩ := he
  obtain ⟨x1, h1⟩ := idx_ok (l := c) hf.1 (by rw [h.l1]; exact hf.2)
  obtain ⟨x2, h2⟩ := idx_ok (l := c) ht.1 (by rw [h.l1]; exact ht.2)
  obtain ⟨y2, h3⟩ := idx_ok (l := b) ht.1 (by rw [h.l2]; exact ht.2)
  have hb := h.bound _ _ h1
  have hadd : addI x1 e.cost = some (x1 + e.cost) := if_pos (inI_iff.2 (by omega))
  unfold pbody
  dsimp only
  rw [h1, Option.bind_some, hadd, Option.bind_some, h2, Option.bind_some]
  by_cases hlt : x1 + e.cost < x2
  · rw [if_pos hlt, Option.bind_some, h3, Option.bind_some]
    have hl : (cMa c by_).Lowers edgeP e x1 := ⟨h1, fun b' hb' => by
      have : idx c e.to = some b' := hb'
      rw [h2] at this; cases this; exact hlt⟩
    have heq : (cMa c by_).put (edgeP.to e) (x1 + edgeP.co e) e = cMa (c.set (Int.toNat e.to) (x1 + e.cost)) (fun x => if x = e.to then some e else by_ x) := by
      unfold Ma.put cMa
      congr 1
      funext x
      rw [idx_set' ht.1 (by rw [h.l1]; exact ht.2)]
      rfl
    refine ⟨_, _, _, fun x => if x = e.to then some e else by_ x, rfl, ⟨by simp [h.l1], by simp [h.l2], fun i x hx => ?_, fun i e' he' => ?_⟩, heq ▸ Push.low (P := edgeP) x1 hl, .inr ⟨rfl, fun hh => ?_⟩⟩
    · rw [idx_set' ht.1 (by rw [h.l1]; exact ht.2)] at hx
      split at hx
      · cases hx; omega
      · have := h.bound i x hx; omega
    · rw [idx_set' ht.1 (by rw [h.l2]; exact ht.2)]
      split at he'
      · rename_i hi
        rw [if_pos hi]; exact he'
      · rename_i hi
        rw [if_neg hi]; exact h.ghost i e' he'
    · have h5 := congrArg (fun m => m.cost e.to) hh
      dsimp only [cMa] at h5
      rw [idx_set' ht.1 (by rw [h.l1]; exact ht.2), if_pos rfl, h2] at h5
      have := Option.some.inj h5
      omega
  · rw [if_neg hlt]
    have hs : (cMa c by_).Sat edgeP e := fun a ha => by
      have : idx c e.from_ = some a := ha
      rw [h1] at this
      cases this
      exact ⟨x2, h2, by show x2 ≤ x1 + e.cost; omega⟩
    exact ⟨low, c, b, by_, rfl, ⟨h.l1, h.l2, fun i x hx => by have := h.bound i x hx; omega, h.ghost⟩, .keep hs, .inl ⟨rfl, rfl, hs⟩⟩
theorem pround {n k : Nat} {st : List GEdge} : ∀ (l pre : List GEdge) (i B low : Int) (c : List Int) (b : List GEdge) (by_ : Int → Option GEdge) (T : Nat) (rd tm : Int → Nat), COk n B c b by_ → 0 ≤ B → B + 2000000000 * (l.length : Int) ≤ 4000000000000000000 → (∀ e ∈ l, okE n e) →
    Kept edgeP st k pre l T (cMa c by_) rd tm → (low = -1 ∨ ((0 ≤ low ∧ low < (n : Int)) ∧ rd low = k + 1)) →
    ∃ low' c' b' by' T' rd' tm', rangeL (α := GEdge) (S := Cz) (X := Cz) (fun _ e z => (pbody e z).bind fun z => some (Step.cont z)) (fun z => z) l i (low, c, b) = some (low', c', b') ∧ COk n (B + 2000000000 * (l.length : Int)) c' b' by' ∧
      Kept edgeP st k (pre ++ l) [] T' (cMa c' by') rd' tm' ∧ ((low = -1 ∧ low' = -1 ∧ cMa c' by' = cMa c by_ ∧ ∀ e ∈ l, (cMa c by_).Sat edgeP e) ∨ ((0 ≤ low' ∧ low' < (n : Int)) ∧ rd' low' = k + 1))
  | [], pre, i, B, low, c, b, by_, T, rd, tm, h, _, _, _, hk, hl => ⟨low, c, b, by_, T, rd, tm, rfl, by simpa using h, by rw [List.append_nil]; exact hk, hl.imp (fun h => ⟨h, h, rfl, fun _ h => by cases h⟩) id⟩
  | e :: l, pre, i, B, low, c, b, by_, T, rd, tm, h, hB, hB2, hl, hk, hlow => by
    rw [List.length_cons] at hB2
    have he := hl e (List.mem_cons_self ..)
    obtain ⟨low1, c1, b1, by1, k1, k2, k3, k4⟩ := pbody_ok (low := low) h hB (by omega) he
    obtain ⟨rd1, tm1, k5, k6, k7⟩ := hk.push k3
    have hlow1 : low1 = -1 ∨ ((0 ≤ low1 ∧ low1 < (n : Int)) ∧ rd1 low1 = k + 1) := by
      rcases k4 with ⟨rfl, _, _⟩ | ⟨rfl, hne⟩
      · rcases hlow with h | ⟨h, h'⟩
        · exact .inl h
        · exact .inr ⟨h, Nat.le_antisymm (k5.rdle _) (h' ▸ k6 _)⟩
      · exact .inr ⟨he.2.1, k7 hne⟩
    obtain ⟨low2, c2, b2, by2, T2, rd2, tm2, q1, q2, q3, q4⟩ := pround l (pre ++ [e]) (i + 1) (B + 2000000000) low1 c1 b1 by1 (T + 1) rd1 tm1 k2 (by omega) (by omega) (fun e he => hl e (List.mem_cons_of_mem _ he)) k5 hlow1
    refine ⟨low2, c2, b2, by2, T2, rd2, tm2, ?_, ?_, by rw [List.append_assoc] at q3; exact q3, ?_⟩
    · rw [rangeL, k1]
      exact q1
    · rw [List.length_cons]
      have e : B + 2000000000 * ((l.length + 1 : Nat) : Int) = B + 2000000000 + 2000000000 * (l.length : Int) := by omega
      rw [e]; exact q2
    · rcases q4 with ⟨r0, r1, r2, r3⟩ | r
      · rcases k4 with ⟨s1, s2, s3⟩ | ⟨s1, s2⟩
        · refine .inl ⟨s1 ▸ r0, r1, r2.trans s2, fun e' he' => ?_⟩
          rcases List.mem_cons.1 he' with rfl | he'
          · exact s3
          · exact s2 ▸ r3 e' he'
        · have := he.2.1.1
          omega
      · exact .inr r
/-- What stands after some rounds. -/
structure CRd (n : Nat) (st : List GEdge) (j : Nat) (c : List Int) (b : List GEdge) (low : Int) (by_ : Int → Option GEdge) (rd : Int → Nat) : Prop where
  ok : COk n (40000000000000 * (j : Int)) c b by_
  kept : ∃ T tm, Kept edgeP st j [] st T (cMa c by_) rd tm
  last : 1 ≤ j → (low = -1 ∧ ∀ e ∈ st, (cMa c by_).Sat edgeP e) ∨ ((0 ≤ low ∧ low < (n : Int)) ∧ rd low = j)
theorem prounds {n : Nat} {st : List GEdge} (hst : ∀ e ∈ st, okE n e) (hm : st.length ≤ 20000) (c0 : List Int) (b0 : List GEdge) (h0 : COk n 0 c0 b0 (fun _ => none)) (K : Nat) (hK : K ≤ 1001) :
    ∃ low c b by_ rd, rangeN (S := List Int × List GEdge × Int) (X := List GEdge × Int) (fun _ s => (rangeL (α := GEdge) (S := Cz) (X := Cz) (fun _ e z => (pbody e z).bind fun z => some (Step.cont z)) (fun z => z) st 0 (-1, s.1, s.2.1)).bind fun z => some (Step.cont (z.2.1, z.2.2, z.1))) (fun s => (s.2.1, s.2.2)) K 0 (c0, b0, -1) = some (b, low) ∧ CRd n st K c b low by_ rd := by
  obtain ⟨⟨c, b, low⟩, h1, by_, rd, h2⟩ := rangeN_inv (S := List Int × List GEdge × Int) (X := List GEdge × Int) (body := fun _ s => (rangeL (α := GEdge) (S := Cz) (X := Cz) (fun _ e z => (pbody e z).bind fun z => some (Step.cont z)) (fun z => z) st 0 (-1, s.1, s.2.1)).bind fun z => some (Step.cont (z.2.1, z.2.2, z.1))) (fin := fun s => (s.2.1, s.2.2)) (fun j s => ∃ by_ rd, CRd n st j s.1 s.2.1 s.2.2 by_ rd) K (c0, b0, -1) (fun j s hj hI => by
    obtain ⟨c, b, low⟩ := s
    obtain ⟨by_, rd, ⟨hok, ⟨T, tm, hk⟩, _⟩⟩ := hI
    dsimp only at hok hk ⊢
    obtain ⟨low', c', b', by', T', rd', tm', q1, q2, q3, q4⟩ := pround st [] 0 _ (-1) c b by_ T rd tm hok (by omega) (by omega) hst hk (.inl rfl)
    rw [q1, Option.bind_some]
    rw [List.nil_append] at q3
    refine ⟨_, rfl, by', rd', ⟨q2.l1, q2.l2, fun i x hx => by have := q2.bound i x hx; omega, q2.ghost⟩, ⟨T', tm', q3.turn⟩, fun _ => ?_⟩
    rcases q4 with ⟨_, r1, r2, r3⟩ | r
    · exact .inl ⟨r1, fun e he => r2 ▸ r3 e he⟩
    · exact .inr r) ⟨fun _ => none, fun _ => 0, by simpa using h0, ⟨1, fun _ => 0, Kept.start st _ fun _ => rfl⟩, fun h => absurd h (by decide)⟩
  exact ⟨low, c, b, by_, rd, h1, h2⟩
end Go.Fw
/-
  The circle that the code finds, plain: going back along the steps. No program in it.
-/
namespace Go.Fw
open Go.Gr
theorem pigeon (f : Nat → Int) (n : Nat) (hf : ∀ k, k ≤ n → 0 ≤ f k ∧ f k < (n : Int)) : ∃ i j, i < j ∧ j ≤ n ∧ f i = f j := by
  apply Classical.byContradiction
  intro hno
  have hnd : ((List.range (n + 1)).map f).Nodup := by
    unfold List.Nodup
    rw [List.pairwise_map]
    refine List.Pairwise.imp_of_mem (R := fun a b => a < b) (fun {a b} ha hb hlt he => ?_) List.pairwise_lt_range
    exact hno ⟨a, b, hlt, by have := List.mem_range.1 hb; omega, he⟩
  have := List.Nodup.length_le_of_subset hnd (l₂ := (List.range n).map fun i : Nat => (i : Int)) (fun y hy => by
    obtain ⟨k, hk, rfl⟩ := List.mem_map.1 hy
    have := hf k (by have := List.mem_range.1 hk; omega)
    exact List.mem_map.2 ⟨(f k).toNat, List.mem_range.2 (by omega), by omega⟩)
  simp at this
  omega
def PathL : Int → List GEdge → Int → Prop
  | s, [], t => s = t
  | s, e :: l, t => e.from_ = s ∧ PathL e.to l t
theorem PathL.snoc : ∀ {l : List GEdge} {s : Int} {e : GEdge}, PathL s l e.from_ → PathL s (l ++ [e]) e.to
  | [], _, _, h => ⟨h.symm, rfl⟩
  | _ :: l, _, _, h => ⟨h.1, PathL.snoc (l := l) h.2⟩
theorem PathL.way {st : List GEdge} : ∀ {l : List GEdge} {s t : Int}, PathL s l t → (∀ e ∈ l, e ∈ st) → Wy (edgeE st) s t (sumC edgeP l)
  | [], s, t, h, _ => by cases (show s = t from h); exact .nil _
  | e :: l, s, t, h, hs => by
    rw [sumC_cons]
    exact Wy.cons ⟨e, hs e (List.mem_cons_self ..), h.1, rfl, rfl⟩ (PathL.way h.2 fun e he => hs e (List.mem_cons_of_mem _ he))
theorem push_eq (a0 : Int) (st : List GEdge) (c : List Int) (b : List GEdge) : sight_push a0 st c b = (rangeL (α := GEdge) (S := Cz) (X := Cz) (fun _ e z => (pbody e z).bind fun z => some (Step.cont z)) (fun z => z) st 0 (-1, c, b)).bind fun z => some (z.2.1, z.2.2, z.1) := by
  unfold sight_push
  refine (congrArg (fun o => Option.bind o _) (rangeL_congr (body' := fun _ e z => (pbody e z).bind fun z => some (Step.cont z)) (fin' := fun z => z) (fun _ => rfl) st 0 (-1, c, b) fun i x s _ => ?_)).trans ?_
  · obtain ⟨z4, z5, z6⟩ := s
    unfold pbody
    dsimp only
    cases idx z5 x.from_ with
    | none => rfl
    | some a =>
      dsimp only [Option.bind_some]
      cases addI a x.cost with
      | none => rfl
      | some t =>
        dsimp only [Option.bind_some]
        cases idx z5 x.to with
        | none => rfl
        | some k =>
          dsimp only [Option.bind_some]
          by_cases h : t < k
          · simp only [h, decide_true, if_true]
            cases idx z6 x.to <;> rfl
          · simp only [h, decide_false, if_false, Bool.false_eq_true, Option.bind_some]
  · generalize rangeL (α := GEdge) (S := Cz) (X := Cz) _ _ st 0 (-1, c, b) = o
    cases o <;> rfl
/-- The steps back from a point: where each comes from. -/
def itr (nx : Int → Int) (v : Int) : Nat → Int
  | 0 => v
  | k + 1 => nx (itr nx v k)
theorem itr_add (nx : Int → Int) (v : Int) (a b : Nat) (h : itr nx v a = itr nx v b) : ∀ t, itr nx v (a + t) = itr nx v (b + t)
  | 0 => h
  | t + 1 => by rw [← Nat.add_assoc, ← Nat.add_assoc, itr, itr, itr_add nx v a b h t]
theorem itr_itr (nx : Int → Int) (v : Int) (a : Nat) : ∀ t, itr nx (itr nx v a) t = itr nx v (a + t)
  | 0 => rfl
  | t + 1 => by rw [itr, itr_itr nx v a t, ← Nat.add_assoc, itr]
def colN (ed : Int → GEdge) (g : Nat → Int) : Nat → List Int
  | 0 => []
  | k + 1 => colN ed g k ++ (if 0 ≤ (ed (g k)).number then [(ed (g k)).number] else [])
def edN (ed : Int → GEdge) (g : Nat → Int) : Nat → List GEdge
  | 0 => []
  | k + 1 => edN ed g k ++ [ed (g k)]
theorem colN_eq (ed : Int → GEdge) (g : Nat → Int) : ∀ k, colN ed g k = ((edN ed g k).filter fun e => decide (0 ≤ e.number)).map fun e => e.number
  | 0 => rfl
  | k + 1 => by
    rw [colN, edN, List.filter_append, List.map_append, colN_eq ed g k]
    by_cases h : 0 ≤ (ed (g k)).number <;> simp [h]
theorem colN_len (ed : Int → GEdge) (g : Nat → Int) : ∀ k, (colN ed g k).length ≤ k
  | 0 => Nat.le_refl _
  | k + 1 => by
    have := colN_len ed g k
    rw [colN, List.length_append]
    split <;> simp <;> omega
/-- All that the code's way back needs to know. -/
theorem back_loop {n : Nat} {b : List GEdge} {ed : Int → GEdge} {s3 : Int} (hn : n ≤ 1000) (hb : ∀ k, idx b (itr (fun v => (ed v).from_) s3 k) = some (ed (itr (fun v => (ed v).from_) s3 k))) (hex : ∃ L, 1 ≤ L ∧ L ≤ n ∧ itr (fun v => (ed v).from_) s3 L = s3) :
    ∃ L, 1 ≤ L ∧ L ≤ n ∧ itr (fun v => (ed v).from_) s3 L = s3 ∧
    loopR (S := Int × List Int) (X := List Int) (fun (s : Int × (List Int)) => match s with
          | (z15, z16) =>
            (idx b z15).bind (fun x2 =>
            ((
              (if (decide (0 ≤ x2.number)) = true then
                (appI z16 ([x2.number] : List Int)).bind (fun t8 =>
                some t8)
              else
                some z16)) : Option ((List Int))).bind (fun s5 =>
            (idx b z15).bind (fun x3 =>
            (if (x3.from_ == s3) = true then
              some (Step.done s5)
            else
              some (Step.cont (x3.from_, s5))))))) (s3, ([] : List Int)) = some (colN ed (itr (fun v => (ed v).from_) s3) L) := by
  obtain ⟨L0, h1, h2, h3⟩ := hex
  have key : ∀ (d k : Nat), k + d = L0 → (∀ j, 1 ≤ j → j ≤ k → itr (fun v => (ed v).from_) s3 j ≠ s3) → 1 ≤ d → ∃ L, 1 ≤ L ∧ L ≤ n ∧ itr (fun v => (ed v).from_) s3 L = s3 ∧
    loopR (S := Int × List Int) (X := List Int) (fun (s : Int × (List Int)) => match s with
          | (z15, z16) =>
            (idx b z15).bind (fun x2 =>
            ((
              (if (decide (0 ≤ x2.number)) = true then
                (appI z16 ([x2.number] : List Int)).bind (fun t8 =>
                some t8)
              else
                some z16)) : Option ((List Int))).bind (fun s5 =>
            (idx b z15).bind (fun x3 =>
            (if (x3.from_ == s3) = true then
              some (Step.done s5)
            else
              some (Step.cont (x3.from_, s5))))))) (itr (fun v => (ed v).from_) s3 k, colN ed (itr (fun v => (ed v).from_) s3) k) = some (colN ed (itr (fun v => (ed v).from_) s3) L) := by
    intro d
    induction d with
    | zero => intro k _ _ h; omega
    | succ d ih =>
      intro k hk hne _
      have hcol : ((if (decide (0 ≤ (ed (itr (fun v => (ed v).from_) s3 k)).number)) = true then (appI (colN ed (itr (fun v => (ed v).from_) s3) k) ([(ed (itr (fun v => (ed v).from_) s3 k)).number] : List Int)).bind (fun t8 => some t8) else some (colN ed (itr (fun v => (ed v).from_) s3) k)) : Option (List Int)) = some (colN ed (itr (fun v => (ed v).from_) s3) (k + 1)) := by
        have hlen := colN_len ed (itr (fun v => (ed v).from_) s3) k
        rw [colN]
        by_cases h0 : 0 ≤ (ed (itr (fun v => (ed v).from_) s3 k)).number
        · rw [if_pos (decide_eq_true h0), if_pos h0]
          unfold appI
          rw [if_pos (by simp; omega)]
          rfl
        · rw [if_neg (by simpa using h0), if_neg h0, List.append_nil]
      by_cases he : itr (fun v => (ed v).from_) s3 (k + 1) = s3
      · refine ⟨k + 1, by omega, by omega, he, loopR_done ?_⟩
        dsimp only
        rw [hb k, Option.bind_some, hcol, Option.bind_some, Option.bind_some, if_pos (show ((ed (itr (fun v => (ed v).from_) s3 k)).from_ == s3) = true from beq_iff_eq.2 he)]
      · have hd : 1 ≤ d := by
          rcases Nat.eq_zero_or_pos d with hd | hd
          · subst hd
            rw [show k + 1 = L0 by omega] at he
            exact absurd h3 he
          · exact hd
        obtain ⟨L, g1, g2, g3, g4⟩ := ih (k + 1) (by omega) (fun j j1 j2 => by
          rcases Nat.lt_or_ge k j with hj | hj
          · rw [show j = k + 1 by omega]; exact he
          · exact hne j j1 hj) hd
        refine ⟨L, g1, g2, g3, (loopR_cont _ ?_).trans g4⟩
        dsimp only
        rw [hb k, Option.bind_some, hcol, Option.bind_some, Option.bind_some, if_neg (show ¬ ((ed (itr (fun v => (ed v).from_) s3 k)).from_ == s3) = true from fun h => he (beq_iff_eq.1 h))]
        rfl
  exact key L0 0 (by omega) (fun j j1 j2 => by omega) h1
end Go.Fw
/-
  The circle that the code finds, plain: what it answers. No program in it.
-/
namespace Go.Fw
open Go.Gr
theorem sumC_app (a b : List GEdge) : sumC edgeP (a ++ b) = sumC edgeP a + sumC edgeP b := by
  induction a with
  | nil => rw [List.nil_append, sumC_nil, Int.zero_add]
  | cons e a ih => rw [List.cons_append, sumC_cons, sumC_cons, ih, Int.add_assoc]
theorem sumC_rev (a : List GEdge) : sumC edgeP a.reverse = sumC edgeP a := by
  induction a with
  | nil => rfl
  | cons e a ih => rw [List.reverse_cons, sumC_app, sumC_cons, sumC_cons, ih, sumC_nil]; omega
theorem sumC_nonneg : ∀ (l : List GEdge), (∀ e ∈ l, 0 ≤ e.cost) → 0 ≤ sumC edgeP l
  | [], _ => Int.le_refl _
  | e :: l, h => by
    have h1 := sumC_nonneg l fun e he => h e (List.mem_cons_of_mem _ he)
    have h2 := h e (List.mem_cons_self ..)
    rw [sumC_cons]
    show 0 ≤ e.cost + _
    omega
theorem rep_idx {α : Type} {n : Nat} {a y : α} {i : Int} (hy : idx (List.replicate n a) i = some y) : y = a := by
  obtain ⟨_, _, h⟩ := idx_some hy
  rw [List.getElem?_replicate] at h
  split at h
  · exact (Option.some.inj h).symm
  · cases h
def numsOf (l : List GEdge) : List Int := (l.filter fun e => decide (0 ≤ e.number)).map fun e => e.number
/-- A circle of steps below 0. -/
structure Bad (st path : List GEdge) (s : Int) : Prop where
  way : PathL s path s
  mem : ∀ e ∈ path, e ∈ st
  neg : sumC edgeP path < 0
  len : path.length ≤ 1000
theorem Bad.not {st path : List GEdge} {s : Int} (h : Bad st path s) : ¬ NoNeg (edgeE st) := fun hn => by
  have := hn _ _ (PathL.way h.way h.mem)
  have := h.neg
  omega
theorem circle_spec {kv : List (GPoint × Int)} {st : List GEdge} (ho : okSteps kv.length st = true) (hlen : st.length ≤ 20000) (hkeys : (st.map edgeKey).Nodup) (hneg : ∀ e ∈ st, e.number < 0 → 0 ≤ e.cost) :
    (circleG kv st = some (true, []) ∧ NoNeg (edgeE st)) ∨ ∃ s path, circleG kv st = some (false, numsOf path) ∧ numsOf path ≠ [] ∧ Bad st path s := by
  obtain ⟨h1, _, h3⟩ := okSteps_iff.1 ho
  have pm := (srtOf_facts edgeC edge_swo st).1
  have hst : ∀ e ∈ sortEdges st, okE kv.length e := fun e he => h3 e (pm.mem_iff.1 he)
  have hsl : (sortEdges st).length ≤ 20000 := by rw [show (sortEdges st).length = st.length from pm.length_eq]; exact hlen
  have hso : sight_graph_sorted kv st = some (sortEdges st) := by
    unfold sight_graph_sorted slices_Clone_step appI srtI
    rw [List.nil_append, if_pos (by simp only [List.length_nil]; omega), Option.bind_some, Option.bind_some, if_pos (by omega)]
    rfl
  have m1 : makI (0 : Int) ((kv.length : Nat) : Int) = some (List.replicate kv.length 0) := by unfold makI; rw [if_pos (by omega)]; simp
  have m2 : makI (GEdge.mk 0 0 0 0) ((kv.length : Nat) : Int) = some (List.replicate kv.length ⟨0, 0, 0, 0⟩) := by unfold makI; rw [if_pos (by omega)]; simp
  have h0 : COk kv.length 0 (List.replicate kv.length (0 : Int)) (List.replicate kv.length (⟨0, 0, 0, 0⟩ : GEdge)) (fun _ => none) :=
    ⟨by simp, by simp, fun i x hx => by have := rep_idx hx; omega, fun i e he => by cases he⟩
  obtain ⟨low, c, b, by_, rd, q1, ⟨hok, ⟨T, tm, hk⟩, hlast⟩⟩ := prounds hst hsl _ _ h0 (kv.length + 1) (by omega)
  unfold circleG
  rw [if_pos hkeys]
  have hround : ∀ f : List GEdge × Int → Option (Bool × List Int), ((chkI (((kv.length : Nat) : Int) + 1) (rangeN (S := (List Int) × (List GEdge) × Int) (X := (List GEdge) × Int) (fun ik1 s =>
      match s with
        | (z4, z5, z6) =>
          (sight_push z6 (sortEdges st) z4 z5).bind (fun o => match o with
            | (t5, t6, t7) =>
              some (Step.cont (t5, t6, t7)))) (fun s => match s with | (z4, z5, z6) => (z5, z6)) (Int.toNat (((kv.length : Nat) : Int) + 1)) 0 (List.replicate kv.length (0 : Int), List.replicate kv.length (⟨0, 0, 0, 0⟩ : GEdge), (-1)))).bind f) = f (b, low) := by
    intro f
    refine bindS ?_
    unfold chkI
    rw [if_pos (inI_iff.2 (by omega)), show Int.toNat (((kv.length : Nat) : Int) + 1) = kv.length + 1 by omega]
    refine (rangeN_congr (body' := fun _ s => (rangeL (α := GEdge) (S := Cz) (X := Cz) (fun _ e z => (pbody e z).bind fun z => some (Step.cont z)) (fun z => z) (sortEdges st) 0 (-1, s.1, s.2.1)).bind fun z => some (Step.cont (z.2.1, z.2.2, z.1))) (fin' := fun s => (s.2.1, s.2.2)) (fun _ => rfl) _ _ _ fun j s _ _ => ?_).trans q1
    obtain ⟨z4, z5, z6⟩ := s
    dsimp only
    rw [push_eq]
    generalize rangeL (α := GEdge) (S := Cz) (X := Cz) _ _ (sortEdges st) 0 (-1, z4, z5) = o
    cases o <;> rfl
  unfold sight_graph_circle
  rw [m1, Option.bind_some, m2, Option.bind_some, hso, Option.bind_some, addI_ok (by omega), Option.bind_some, hround]
  dsimp only
  rcases hlast (by omega) with ⟨rfl, hsat⟩ | ⟨hr, hrd⟩
  · refine .inl ⟨rfl, ?_⟩
    rw [← stepE_perm pm]
    refine noNeg_of_potential (fun i => (idx c i).getD 0) fun u v w ⟨e, he, e1, e2, e3⟩ => ?_
    subst e1; subst e2; subst e3
    have hf := (hst e he).1
    obtain ⟨a, ha⟩ := idx_ok (l := c) hf.1 (by rw [hok.l1]; exact hf.2)
    obtain ⟨b', hb', hle⟩ := hsat e he a ha
    have hb2 : idx c e.to = some b' := hb'
    show (idx c e.to).getD 0 ≤ (idx c e.from_).getD 0 + e.cost
    rw [hb2, ha]
    exact hle
  · right
    rw [if_neg (by rw [decide_eq_true_eq]; omega)]
    let ed : Int → GEdge := fun v => (by_ v).getD ⟨0, 0, 0, 0⟩
    let nx : Int → Int := fun v => (ed v).from_
    have hed : ∀ v s, by_ v = some s → ed v = s := fun v s h => by show (by_ v).getD _ = s; rw [h]; rfl
    have hk1 : ∀ k, k ≤ kv.length → kv.length + 1 ≤ rd (itr nx low k) + k ∧ 0 ≤ itr nx low k ∧ itr nx low k < (kv.length : Int) := by
      intro k
      induction k with
      | zero => intro _; exact ⟨by show _ ≤ rd low + 0; omega, hr⟩
      | succ k ih =>
        intro hle
        obtain ⟨i1, i2⟩ := ih (by omega)
        obtain ⟨s, hs⟩ := hk.some_ (itr nx low k) (by omega)
        have hp := hk.pred _ _ hs
        obtain ⟨_, hmem, _⟩ := hk.val _ _ hs
        have e1 : itr nx low (k + 1) = s.from_ := by show (ed (itr nx low k)).from_ = _; rw [hed _ _ hs]
        rw [e1]
        have : rd (itr nx low k) ≤ rd s.from_ + 1 := hp
        exact ⟨by omega, (hst s hmem).1⟩
    obtain ⟨i, j, hij, hjn, hitr⟩ := pigeon (itr nx low) kv.length fun k hk' => (hk1 k hk').2
    have hper := itr_add nx low i j hitr
    have hby : ∀ k, ∃ s, by_ (itr nx low k) = some s := by
      intro k
      induction k using Nat.strongRecOn with
      | _ k ih =>
        rcases Nat.lt_or_ge kv.length k with hgt | hle
        · have := hper (k - j)
          rw [show j + (k - j) = k by omega] at this
          rw [← this]
          exact ih _ (by omega)
        · exact hk.some_ _ (by have := (hk1 k hle).1; omega)
    have hg : ∀ k, by_ (itr nx (itr nx low kv.length) k) = some (ed (itr nx (itr nx low kv.length) k)) := by
      intro k
      rw [itr_itr]
      obtain ⟨s, hs⟩ := hby (kv.length + k)
      rw [hs, hed _ _ hs]
    have hex : itr nx (itr nx low kv.length) (j - i) = itr nx low kv.length := by
      rw [itr_itr]
      have := hper (kv.length - i)
      rw [show i + (kv.length - i) = kv.length by omega] at this
      rw [show kv.length + (j - i) = j + (kv.length - i) by omega]
      exact this.symm
    obtain ⟨L, l1, l2, l3, l4⟩ := back_loop (n := kv.length) (b := b) (ed := ed) (s3 := itr nx low kv.length) h1 (fun k => hok.ghost _ _ (hg k)) ⟨j - i, by omega, by omega, hex⟩
    have hfirst : (chkI ((kv.length : Nat) : Int) (rangeN (S := Int) (X := Int) (fun ik2 z11 =>
          (idx b z11).bind (fun x1 =>
          some (Step.cont x1.from_))) (fun z11 => z11) (Int.toNat ((kv.length : Nat) : Int)) 0 low)) = some (itr nx low kv.length) := by
      unfold chkI
      rw [if_pos (inI_iff.2 (by omega)), Int.toNat_natCast]
      obtain ⟨z, z1, z2⟩ := rangeN_inv (S := Int) (X := Int) (body := fun ik2 z11 => (idx b z11).bind (fun x1 => some (Step.cont x1.from_))) (fin := fun z => z) (fun k z => z = itr nx low k) kv.length low (fun k z hk' hz => by
        subst hz
        obtain ⟨s, hs⟩ := hby k
        refine ⟨itr nx low (k + 1), ?_, rfl⟩
        rw [hok.ghost _ _ hs, Option.bind_some]
        show _ = some (Step.cont (ed (itr nx low k)).from_)
        rw [hed _ _ hs]) rfl
      rw [z1, z2]
    have hval : ∀ k, (ed (itr nx (itr nx low kv.length) k)).to = itr nx (itr nx low kv.length) k ∧ ed (itr nx (itr nx low kv.length) k) ∈ sortEdges st := fun k => by
      obtain ⟨v1, v2, _⟩ := hk.val _ _ (hg k)
      exact ⟨v1, v2⟩
    have hpath : ∀ k, PathL (itr nx (itr nx low kv.length) k) (edN ed (itr nx (itr nx low kv.length)) k).reverse (itr nx low kv.length) := by
      intro k
      induction k with
      | zero => rfl
      | succ k ih =>
        rw [edN, List.reverse_append]
        refine ⟨rfl, ?_⟩
        rw [(hval k).1]
        exact ih
    have hback : ∀ k, Back edgeP (cMa c by_) (itr nx low kv.length) (itr nx (itr nx low kv.length) k) (edN ed (itr nx (itr nx low kv.length)) k) := by
      intro k
      induction k with
      | zero => exact .nil _
      | succ k ih => exact ih.append (.cons (hg k) (.nil _))
    have hmem : ∀ k, ∀ e ∈ edN ed (itr nx (itr nx low kv.length)) k, e ∈ st := by
      intro k
      induction k with
      | zero => intro e he; cases he
      | succ k ih =>
        intro e he
        rcases List.mem_append.1 he with he | he
        · exact ih e he
        · rw [List.mem_singleton.1 he]
          exact pm.mem_iff.1 (hval k).2
    have helen : ∀ k, (edN ed (itr nx (itr nx low kv.length)) k).length = k := by
      intro k
      induction k with
      | zero => rfl
      | succ k ih => rw [edN, List.length_append, ih]; rfl
    have hneg' : sumC edgeP (edN ed (itr nx (itr nx low kv.length)) L) < 0 := by
      have hb := hback L
      have l3' : itr nx (itr nx low kv.length) L = itr nx low kv.length := l3
      rw [l3'] at hb
      refine (hk.circle hb fun h => ?_).2
      have := helen L
      rw [h] at this
      simp at this
      omega
    have hcol : (colN ed (itr nx (itr nx low kv.length)) L).reverse = numsOf (edN ed (itr nx (itr nx low kv.length)) L).reverse := by
      rw [colN_eq]
      unfold numsOf
      rw [List.filter_reverse, List.map_reverse]
    have hne : numsOf (edN ed (itr nx (itr nx low kv.length)) L).reverse ≠ [] := by
      intro h
      have hz : ∀ e ∈ edN ed (itr nx (itr nx low kv.length)) L, 0 ≤ e.cost := fun e he => by
        apply hneg e (hmem L e he)
        apply Classical.byContradiction
        intro hn
        have : e.number ∈ numsOf (edN ed (itr nx (itr nx low kv.length)) L).reverse :=
          List.mem_map.2 ⟨e, List.mem_filter.2 ⟨List.mem_reverse.2 he, by simpa using hn⟩, rfl⟩
        rw [h] at this
        cases this
      have := sumC_nonneg _ hz
      omega
    refine ⟨itr nx low kv.length, (edN ed (itr nx (itr nx low kv.length)) L).reverse, ?_, hne, ?_, fun e he => hmem L e (List.mem_reverse.1 he), by rw [sumC_rev]; exact hneg', by rw [List.length_reverse, helen]; omega⟩
    · refine (bindS hfirst).trans ?_
      refine (bindS l4).trans ?_
      unfold turnL
      rw [if_pos (by have := colN_len ed (itr nx (itr nx low kv.length)) L; exact Nat.le_trans this (by omega)), Option.bind_some]
      rw [show (colN ed (itr (fun v => (ed v).from_) (itr nx low kv.length)) L).reverse = _ from hcol]
      cases hn : numsOf (edN ed (itr nx (itr nx low kv.length)) L).reverse with
      | nil => exact absurd hn hne
      | cons a l => rfl
    · have := hpath L
      have l3' : itr nx (itr nx low kv.length) L = itr nx low kv.length := l3
      rw [l3'] at this
      exact this
end Go.Fw
