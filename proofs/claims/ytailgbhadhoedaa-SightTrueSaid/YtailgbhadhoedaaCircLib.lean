/-
  The circle that the code finds, plain: it finds one exactly if one is below 0. No program in it.
-/
import Derived.Test.YtailgbhadhoedaaRowLib
namespace Go.Fw
open Go.Gr
theorem idx_set' {α : Type} {l : List α} {i j : Int} {y : α} (h0 : 0 ≤ i) (h1 : i < (l.length : Int)) : idx (l.set (Int.toNat i) y) j = if j = i then some y else idx l j := by
  by_cases hj : 0 ≤ j
  · exact idx_set h0 h1 hj
  · rw [idx_neg hj, idx_neg hj, if_neg (by omega)]
abbrev Cz := Int × List Int × List GEdge
def pbody (e : GEdge) (z : Cz) : Option Cz :=
  (idx z.2.1 e.from_).bind fun x1 => (addI x1 e.cost).bind fun t1 => (idx z.2.1 e.to).bind fun x2 =>
  if t1 < x2 then (idx z.2.1 e.to).bind fun _ => (idx z.2.2 e.to).bind fun _ => some (e.to, z.2.1.set (Int.toNat e.to) t1, z.2.2.set (Int.toNat e.to) e) else some z
structure COk (n : Nat) (B : Int) (c : List Int) (b : List GEdge) (by_ : Int → Option GEdge) : Prop where
  l1 : c.length = n
  l2 : b.length = n
  bound : ∀ i x, idx c i = some x → -B ≤ x ∧ x ≤ B
  ghost : ∀ i e, by_ i = some e → idx b i = some e
abbrev cMa (c : List Int) (by_ : Int → Option GEdge) : Ma GEdge Int := ⟨fun i => idx c i, by_⟩
def okE (n : Nat) (e : GEdge) : Prop := (0 ≤ e.from_ ∧ e.from_ < (n : Int)) ∧ (0 ≤ e.to ∧ e.to < (n : Int)) ∧ -2000000000 ≤ e.cost ∧ e.cost ≤ 2000000000
theorem pbody_ok {n : Nat} {B : Int} {low : Int} {c : List Int} {b : List GEdge} {by_ : Int → Option GEdge} (h : COk n B c b by_) (hB : 0 ≤ B) (hB2 : B ≤ 4000000000000000000) {e : GEdge} (he : okE n e) :
    ∃ low' c' b' by', pbody e (low, c, b) = some (low', c', b') ∧ COk n (B + 2000000000) c' b' by' ∧ Push edgeP (cMa c by_) e (cMa c' by') ∧ ((low' = low ∧ cMa c' by' = cMa c by_ ∧ (cMa c by_).Sat edgeP e) ∨ (low' = e.to ∧ cMa c' by' ≠ cMa c by_)) := by
  obtain ⟨hf, ht, hc⟩ := he
  obtain ⟨x1, h1⟩ := idx_ok (l := c) hf.1 (by rw [h.l1]; exact hf.2)
  obtain ⟨x2, h2⟩ := idx_ok (l := c) ht.1 (by rw [h.l1]; exact ht.2)
  obtain ⟨y2, h3⟩ := idx_ok (l := b) ht.1 (by rw [h.l2]; exact ht.2)
  have hb := h.bound _ _ h1
  have hadd : addI x1 e.cost = some (x1 + e.cost) := if_pos (inI_iff.2 (by omega))
  unfold pbody
  dsimp only
  rw [h1, Option.bind_some, hadd, Option.bind_some, h2, Option.bind_some]
  by_cases hlt : x1 + e.cost < x2
  · rw [if_pos hlt, Option.bind_some, h3, Option.bind_some]
    have hl : (cMa c by_).Lowers edgeP e x1 := ⟨h1, fun b' hb' => by
      have : idx c e.to = some b' := hb'
      rw [h2] at this; cases this; exact hlt⟩
    have heq : (cMa c by_).put (edgeP.to e) (x1 + edgeP.co e) e = cMa (c.set (Int.toNat e.to) (x1 + e.cost)) (fun x => if x = e.to then some e else by_ x) := by
      unfold Ma.put cMa
      congr 1
      funext x
      rw [idx_set' ht.1 (by rw [h.l1]; exact ht.2)]
      rfl
    refine ⟨_, _, _, fun x => if x = e.to then some e else by_ x, rfl, ⟨by simp [h.l1], by simp [h.l2], fun i x hx => ?_, fun i e' he' => ?_⟩, heq ▸ Push.low (P := edgeP) x1 hl, .inr ⟨rfl, fun hh => ?_⟩⟩
    · rw [idx_set' ht.1 (by rw [h.l1]; exact ht.2)] at hx
      split at hx
      · cases hx; omega
      · have := h.bound i x hx; omega
    · rw [idx_set' ht.1 (by rw [h.l2]; exact ht.2)]
      split at he'
      · rename_i hi
        rw [if_pos hi]; exact he'
      · rename_i hi
        rw [if_neg hi]; exact h.ghost i e' he'
    · have h5 := congrArg (fun m => m.cost e.to) hh
      dsimp only [cMa] at h5
      rw [idx_set' ht.1 (by rw [h.l1]; exact ht.2), if_pos rfl, h2] at h5
      have := Option.some.inj h5
      omega
  · rw [if_neg hlt]
    have hs : (cMa c by_).Sat edgeP e := fun a ha => by
      have : idx c e.from_ = some a := ha
      rw [h1] at this
      cases this
      exact ⟨x2, h2, by show x2 ≤ x1 + e.cost; omega⟩
    exact ⟨low, c, b, by_, rfl, ⟨h.l1, h.l2, fun i x hx => by have := h.bound i x hx; omega, h.ghost⟩, .keep hs, .inl ⟨rfl, rfl, hs⟩⟩
theorem pround {n k : Nat} {st : List GEdge} : ∀ (l pre : List GEdge) (i B low : Int) (c : List Int) (b : List GEdge) (by_ : Int → Option GEdge) (T : Nat) (rd tm : Int → Nat), COk n B c b by_ → 0 ≤ B → B + 2000000000 * (l.length : Int) ≤ 4000000000000000000 → (∀ e ∈ l, okE n e) →
    Kept edgeP st k pre l T (cMa c by_) rd tm → (low = -1 ∨ ((0 ≤ low ∧ low < (n : Int)) ∧ rd low = k + 1)) →
    ∃ low' c' b' by' T' rd' tm', rangeL (α := GEdge) (S := Cz) (X := Cz) (fun _ e z => (pbody e z).bind fun z => some (Step.cont z)) (fun z => z) l i (low, c, b) = some (low', c', b') ∧ COk n (B + 2000000000 * (l.length : Int)) c' b' by' ∧
      Kept edgeP st k (pre ++ l) [] T' (cMa c' by') rd' tm' ∧ ((low = -1 ∧ low' = -1 ∧ cMa c' by' = cMa c by_ ∧ ∀ e ∈ l, (cMa c by_).Sat edgeP e) ∨ ((0 ≤ low' ∧ low' < (n : Int)) ∧ rd' low' = k + 1))
  | [], pre, i, B, low, c, b, by_, T, rd, tm, h, _, _, _, hk, hl => ⟨low, c, b, by_, T, rd, tm, rfl, by simpa using h, by rw [List.append_nil]; exact hk, hl.imp (fun h => ⟨h, h, rfl, fun _ h => by cases h⟩) id⟩
  | e :: l, pre, i, B, low, c, b, by_, T, rd, tm, h, hB, hB2, hl, hk, hlow => by
    rw [List.length_cons] at hB2
    have he := hl e (List.mem_cons_self ..)
    obtain ⟨low1, c1, b1, by1, k1, k2, k3, k4⟩ := pbody_ok (low := low) h hB (by omega) he
    obtain ⟨rd1, tm1, k5, k6, k7⟩ := hk.push k3
    have hlow1 : low1 = -1 ∨ ((0 ≤ low1 ∧ low1 < (n : Int)) ∧ rd1 low1 = k + 1) := by
      rcases k4 with ⟨rfl, _, _⟩ | ⟨rfl, hne⟩
      · rcases hlow with h | ⟨h, h'⟩
        · exact .inl h
        · exact .inr ⟨h, Nat.le_antisymm (k5.rdle _) (h' ▸ k6 _)⟩
      · exact .inr ⟨he.2.1, k7 hne⟩
    obtain ⟨low2, c2, b2, by2, T2, rd2, tm2, q1, q2, q3, q4⟩ := pround l (pre ++ [e]) (i + 1) (B + 2000000000) low1 c1 b1 by1 (T + 1) rd1 tm1 k2 (by omega) (by omega) (fun e he => hl e (List.mem_cons_of_mem _ he)) k5 hlow1
    refine ⟨low2, c2, b2, by2, T2, rd2, tm2, ?_, ?_, by rw [List.append_assoc] at q3; exact q3, ?_⟩
    · rw [rangeL, k1]
      exact q1
    · rw [List.length_cons]
      have e : B + 2000000000 * ((l.length + 1 : Nat) : Int) = B + 2000000000 + 2000000000 * (l.length : Int) := by omega
      rw [e]; exact q2
    · rcases q4 with ⟨r0, r1, r2, r3⟩ | r
      · rcases k4 with ⟨s1, s2, s3⟩ | ⟨s1, s2⟩
        · refine .inl ⟨s1 ▸ r0, r1, r2.trans s2, fun e' he' => ?_⟩
          rcases List.mem_cons.1 he' with rfl | he'
          · exact s3
          · exact s2 ▸ r3 e' he'
        · have := he.2.1.1
          omega
      · exact .inr r
/-- What stands after some rounds. -/
structure CRd (n : Nat) (st : List GEdge) (j : Nat) (c : List Int) (b : List GEdge) (low : Int) (by_ : Int → Option GEdge) (rd : Int → Nat) : Prop where
  ok : COk n (40000000000000 * (j : Int)) c b by_
  kept : ∃ T tm, Kept edgeP st j [] st T (cMa c by_) rd tm
  last : 1 ≤ j → (low = -1 ∧ ∀ e ∈ st, (cMa c by_).Sat edgeP e) ∨ ((0 ≤ low ∧ low < (n : Int)) ∧ rd low = j)
theorem prounds {n : Nat} {st : List GEdge} (hst : ∀ e ∈ st, okE n e) (hm : st.length ≤ 20000) (c0 : List Int) (b0 : List GEdge) (h0 : COk n 0 c0 b0 (fun _ => none)) (K : Nat) (hK : K ≤ 1001) :
    ∃ low c b by_ rd, rangeN (S := List Int × List GEdge × Int) (X := List GEdge × Int) (fun _ s => (rangeL (α := GEdge) (S := Cz) (X := Cz) (fun _ e z => (pbody e z).bind fun z => some (Step.cont z)) (fun z => z) st 0 (-1, s.1, s.2.1)).bind fun z => some (Step.cont (z.2.1, z.2.2, z.1))) (fun s => (s.2.1, s.2.2)) K 0 (c0, b0, -1) = some (b, low) ∧ CRd n st K c b low by_ rd := by
  obtain ⟨⟨c, b, low⟩, h1, by_, rd, h2⟩ := rangeN_inv (S := List Int × List GEdge × Int) (X := List GEdge × Int) (body := fun _ s => (rangeL (α := GEdge) (S := Cz) (X := Cz) (fun _ e z => (pbody e z).bind fun z => some (Step.cont z)) (fun z => z) st 0 (-1, s.1, s.2.1)).bind fun z => some (Step.cont (z.2.1, z.2.2, z.1))) (fin := fun s => (s.2.1, s.2.2)) (fun j s => ∃ by_ rd, CRd n st j s.1 s.2.1 s.2.2 by_ rd) K (c0, b0, -1) (fun j s hj hI => by
    obtain ⟨c, b, low⟩ := s
    obtain ⟨by_, rd, ⟨hok, ⟨T, tm, hk⟩, _⟩⟩ := hI
    dsimp only at hok hk ⊢
    obtain ⟨low', c', b', by', T', rd', tm', q1, q2, q3, q4⟩ := pround st [] 0 _ (-1) c b by_ T rd tm hok (by omega) (by omega) hst hk (.inl rfl)
    rw [q1, Option.bind_some]
    rw [List.nil_append] at q3
    refine ⟨_, rfl, by', rd', ⟨q2.l1, q2.l2, fun i x hx => by have := q2.bound i x hx; omega, q2.ghost⟩, ⟨T', tm', q3.turn⟩, fun _ => ?_⟩
    rcases q4 with ⟨_, r1, r2, r3⟩ | r
    · exact .inl ⟨r1, fun e he => r2 ▸ r3 e he⟩
    · exact .inr r) ⟨fun _ => none, fun _ => 0, by simpa using h0, ⟨1, fun _ => 0, Kept.start st _ fun _ => rfl⟩, fun h => absurd h (by decide)⟩
  exact ⟨low, c, b, by_, rd, h1, h2⟩
end Go.Fw
