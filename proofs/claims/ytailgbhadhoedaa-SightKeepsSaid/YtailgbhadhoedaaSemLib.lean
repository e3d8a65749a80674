/-
  The code's graph means the net's steps: circles and least costs among numbers are those among points. No program in it.
-/
import Derived.Test.YtailgbhadhoedaaCircLib3
import Derived.Test.YtailgbhadhoedaaSem2
namespace Go.Fw
open Go.Gr
abbrev ENx (x : GNet) : GPoint → GPoint → Int → Prop := EN (rateF x) x.Sights
abbrev EVx (x : GNet) (ks : List GPoint) : GPoint → GPoint → Int → Prop := EV (rateF x) x.Sights (· ∈ ks)
theorem carryV_in {r d : Int} (hr : 0 ≤ r ∧ r ≤ 1000000) (hd : -1000000000000 ≤ d ∧ d ≤ 1000000000000) : 0 ≤ carryV r d ∧ carryV r d ≤ 1000000001 := by
  have := carry_bnd hr (maxabs hd)
  unfold carryV absI
  omega
section
variable {x : GNet} {more ks : List GPoint} {st : List GEdge}
theorem GSpec.rates (hx : vNet x = true) : ∀ c, 0 ≤ rateF x c := fun c => (rateF_in hx c).1
theorem GSpec.ok (h : GSpec x more ks st) (hx : vNet x = true) : okSteps (kvF 0 ks).length st = true := by
  rw [okSteps_iff, kvF_len]
  have hl := h.len
  have hs := h.slen
  refine ⟨by omega, by omega, fun e he => ?_⟩
  obtain ⟨p, hp, q, hq, d1, d2, d3⟩ := h.desc e he
  have hp' := List.idxOf_lt_length_iff.2 hp
  have hq' := List.idxOf_lt_length_iff.2 hq
  refine ⟨by omega, by omega, ?_⟩
  rcases d3 with ⟨j, s, _, g2, g3⟩ | ⟨_, _, g3, _⟩
  · obtain ⟨_, _, _, _, _, _, _, l1, l2, l3⟩ := vSight_iff.1 ((vNet_iff.1 hx).2.2.2.2.2 s (List.mem_of_getElem? g2))
    unfold stp at g3
    split at g3 <;> simp only [Prod.mk.injEq] at g3 <;> omega
  · obtain ⟨_, _, p3, p4⟩ := h.good p hp
    obtain ⟨_, _, q3, q4⟩ := h.good q hq
    have := carryV_in (rateF_in hx p.clock) (d := p.at_ - q.at_) (by omega)
    omega
theorem GSpec.numNeg (h : GSpec x more ks st) (hx : vNet x = true) : ∀ e ∈ st, e.number < 0 → 0 ≤ e.cost := fun e he hn => by
  obtain ⟨p, hp, q, hq, _, _, d3⟩ := h.desc e he
  rcases d3 with ⟨j, s, g1, _, _⟩ | ⟨_, _, g3, _⟩
  · omega
  · rw [g3]; exact carry_nonneg (GSpec.rates hx _) _
theorem GSpec.toIdx (h : GSpec x more ks st) {p q : GPoint} {c : Int} (hw : Wy (EVx x ks) p q c) : Wy (edgeE st) ((ks.idxOf p : Nat) : Int) ((ks.idxOf q : Nat) : Int) c := by
  induction hw with
  | nil p => exact .nil _
  | @cons p p1 q c d e _ ih =>
    obtain ⟨hp, hq, ⟨h1, h2⟩ | hs⟩ := e
    · by_cases hpq : p = p1
      · subst hpq
        rw [Int.sub_self, carry_zero] at h2
        exact ih.of (by omega)
      · obtain ⟨e, he, e1, e2, e3⟩ := h.carries p hp p1 hq hpq h1
        exact Wy.cons ⟨e, he, e1, e2, e3.trans h2.symm⟩ ih
    · obtain ⟨e, he, e1, e2, e3⟩ := h.sights _ _ _ hs
      exact Wy.cons ⟨e, he, e1, e2, e3⟩ ih
theorem GSpec.ofIdx (h : GSpec x more ks st) {i j c : Int} (hw : Wy (edgeE st) i j c) : ∀ p ∈ ks, ((ks.idxOf p : Nat) : Int) = i → ∃ q ∈ ks, ((ks.idxOf q : Nat) : Int) = j ∧ Wy (EVx x ks) p q c := by
  induction hw with
  | nil i => intro p hp hi; exact ⟨p, hp, hi, .nil _⟩
  | cons e _ ih =>
    intro p hp hi
    obtain ⟨s, hs, h1, h2, h3⟩ := e
    obtain ⟨p', hp', q', hq', d1, d2, d3⟩ := h.desc s hs
    have h1' : s.from_ = _ := h1
    have h2' : s.to = _ := h2
    have hpp : p = p' := idx_inj hp hp' (by omega)
    subst hpp
    obtain ⟨q, hq, k1, k2⟩ := ih q' hq' (by omega)
    refine ⟨q, hq, k1, Wy.cons ⟨hp, hq', ?_⟩ k2⟩
    rw [← h3]
    rcases d3 with ⟨j, s', _, g2, g3⟩ | ⟨_, g2, g3, _⟩
    · right
      have := stp_stepS (List.mem_of_getElem? g2) (j % 2 == 0)
      rw [g3] at this
      exact this
    · exact .inl ⟨g2, g3⟩
theorem GSpec.wy (h : GSpec x more ks st) {p q : GPoint} (hp : p ∈ ks) (hq : q ∈ ks) (c : Int) : Wy (edgeE st) ((ks.idxOf p : Nat) : Int) ((ks.idxOf q : Nat) : Int) c ↔ Wy (EVx x ks) p q c := by
  refine ⟨fun hw => ?_, h.toIdx⟩
  obtain ⟨q', hq', h1, h2⟩ := h.ofIdx hw p hp rfl
  rw [idx_inj hq hq' (by omega)]
  exact h2
theorem GSpec.noNeg (h : GSpec x more ks st) (hx : vNet x = true) : NoNeg (edgeE st) ↔ NoNeg (ENx x) := by
  rw [← noNeg_iff (GSpec.rates hx) h.covers]
  constructor
  · exact fun hn p c hw => hn _ _ (h.toIdx hw)
  · intro hn i c hw
    cases hw with
    | nil => exact Int.le_refl _
    | cons e hw' =>
      obtain ⟨s, hs, h1, _⟩ := id e
      obtain ⟨p, hp, _, _, d1, _, _⟩ := h.desc s hs
      have h1' : s.from_ = _ := h1
      obtain ⟨q, hq, k1, k2⟩ := h.ofIdx (Wy.cons e hw') p hp (by omega)
      rw [← idx_inj hp hq (by omega)] at k2
      exact hn p _ k2
theorem GSpec.least (h : GSpec x more ks st) (hx : vNet x = true) {p q : GPoint} (hp : p ∈ ks) (hq : q ∈ ks) (c : Int) : Least (edgeE st) ((ks.idxOf p : Nat) : Int) ((ks.idxOf q : Nat) : Int) c ↔ Least (ENx x) p q c := by
  rw [← least_iff (GSpec.rates hx) h.covers hp hq]
  unfold Least
  simp only [h.wy hp hq]
theorem GSpec.noway (h : GSpec x more ks st) (hx : vNet x = true) {p q : GPoint} (hp : p ∈ ks) (hq : q ∈ ks) : (∀ c, ¬ Wy (edgeE st) ((ks.idxOf p : Nat) : Int) ((ks.idxOf q : Nat) : Int) c) ↔ ∀ c, ¬ Wy (ENx x) p q c := by
  rw [← noway_iff (GSpec.rates hx) h.covers hp hq]
  simp only [h.wy hp hq]
theorem GSpec.get (_ : GSpec x more ks st) {p : GPoint} (hp : p ∈ ks) : mget (kvF 0 ks) p = some ((ks.idxOf p : Nat) : Int) ∧ 0 ≤ ((ks.idxOf p : Nat) : Int) ∧ ((ks.idxOf p : Nat) : Int) < ((kvF 0 ks).length : Int) := by
  rw [kvF_get, if_pos hp, kvF_len, Nat.zero_add]
  have := List.idxOf_lt_length_iff.2 hp
  exact ⟨rfl, by omega, by omega⟩
theorem GSpec.leastG (h : GSpec x more ks st) (hx : vNet x = true) (hn : NoNeg (ENx x)) {p q : GPoint} (hp : p ∈ ks) (hq : q ∈ ks) :
    ∃ c k, Go.Fw.leastG (kvF 0 ks) st p q = some (c, k) ∧ (-300000000000000000 ≤ c ∧ c ≤ 300000000000000000) ∧ ((k = true ∧ leastO (ENx x) p q = some c) ∨ (k = false ∧ leastO (ENx x) p q = none ∧ ∀ d, ¬ Wy (ENx x) p q d)) := by
  obtain ⟨g1, g2⟩ := h.get hp
  obtain ⟨g3, g4⟩ := h.get hq
  have hn' := (h.noNeg hx).2 hn
  obtain ⟨c, k, e1, e2, e3, e4⟩ := least_spec g1 g3 g2 g4 (h.ok hx) hn'
  have hl := h.len
  rw [kvF_len] at e2
  refine ⟨c, k, ?_, by omega, ?_⟩
  · unfold Go.Fw.leastG
    rw [if_pos ⟨h.ok hx, hn', ⟨_, g1, g2⟩, ⟨_, g3, g4⟩⟩]
    exact e1
  · cases k with
    | true => exact .inl ⟨rfl, leastO_some.2 ((h.least hx hp hq c).1 (e3 rfl))⟩
    | false =>
      have f2 := (h.noway hx hp hq).1 (e4 rfl).2
      exact .inr ⟨rfl, leastO_none f2, f2⟩
theorem GSpec.circle (h : GSpec x more ks st) (hx : vNet x = true) : (circleG (kvF 0 ks) st = some (true, []) ∧ NoNeg (ENx x)) ∨ ∃ s path, circleG (kvF 0 ks) st = some (false, numsOf path) ∧ numsOf path ≠ [] ∧ Bad st path s ∧ ¬ NoNeg (ENx x) := by
  rcases circle_spec (h.ok hx) h.slen h.keys (h.numNeg hx) with ⟨h1, h2⟩ | ⟨s, path, h1, h2, h3⟩
  · exact .inl ⟨h1, (h.noNeg hx).1 h2⟩
  · exact .inr ⟨s, path, h1, h2, h3, fun hn => h3.not ((h.noNeg hx).2 hn)⟩
end
end Go.Fw
