/-
  Least costs, plain: what they are when steps are replaced by ways, or shifted by a potential. No program in it.
-/
import Derived.Test.YtailgbhadhoedaaGraph
namespace Go.Gr
variable {π : Type} {E E' : π → π → Int → Prop}
/-- Each step of E has a way of E' that costs no more. -/
def Dom (E E' : π → π → Int → Prop) : Prop := ∀ p q c, E p q c → ∃ d, d ≤ c ∧ Wy E' p q d
theorem Dom.sub (h : ∀ p q c, E p q c → E' p q c) : Dom E E' := fun p q c e => ⟨c, Int.le_refl _, Wy.one (h p q c e)⟩
theorem Dom.way (h : Dom E E') {p q : π} {c : Int} (hw : Wy E p q c) : ∃ d, d ≤ c ∧ Wy E' p q d := by
  induction hw with
  | nil p => exact ⟨0, Int.le_refl _, .nil p⟩
  | cons e _ ih =>
    obtain ⟨d1, h1, h2⟩ := h _ _ _ e
    obtain ⟨d2, h3, h4⟩ := ih
    exact ⟨_, by omega, h2.append h4⟩
theorem Dom.trans {E2 : π → π → Int → Prop} (h : Dom E E') (k : Dom E' E2) : Dom E E2 := fun p q c e => by
  obtain ⟨d, h1, h2⟩ := h p q c e
  obtain ⟨d2, h3, h4⟩ := k.way h2
  exact ⟨d2, by omega, h4⟩
theorem Dom.noNeg (h : Dom E E') (hn : NoNeg E') : NoNeg E := fun p c hw => by
  obtain ⟨d, h1, h2⟩ := h.way hw
  have := hn p d h2
  omega
theorem Dom.least (h : Dom E E') (k : Dom E' E) {p q : π} {c : Int} (hl : Least E p q c) : Least E' p q c := by
  obtain ⟨d, h1, h2⟩ := h.way hl.1
  obtain ⟨d2, h3, h4⟩ := k.way h2
  have := hl.2 _ h4
  refine ⟨h2.of (by omega), fun d' hd => ?_⟩
  obtain ⟨d3, h5, h6⟩ := k.way hd
  have := hl.2 _ h6
  omega
theorem Dom.noway (k : Dom E' E) {p q : π} (h : ∀ c, ¬ Wy E p q c) : ∀ c, ¬ Wy E' p q c := fun c hw => by
  obtain ⟨d, _, h2⟩ := k.way hw
  exact h d h2
open Classical in
/-- The least cost, if there is one. -/
noncomputable def leastO (E : π → π → Int → Prop) (p q : π) : Option Int := if h : ∃ c, Least E p q c then some h.choose else none
theorem leastO_some {p q : π} {c : Int} : leastO E p q = some c ↔ Least E p q c := by
  unfold leastO
  constructor
  · intro h
    split at h
    · rename_i hx
      cases h
      exact hx.choose_spec
    · cases h
  · intro h
    have hx : ∃ c, Least E p q c := ⟨c, h⟩
    rw [dif_pos hx]
    exact congrArg some (hx.choose_spec.uniq h)
theorem leastO_none {p q : π} (h : ∀ c, ¬ Wy E p q c) : leastO E p q = none := by
  unfold leastO
  rw [dif_neg]
  rintro ⟨c, hc⟩
  exact h c hc.1
theorem leastO_none_iff {p q : π} : leastO E p q = none ↔ ¬ ∃ c, Least E p q c := by
  unfold leastO
  constructor
  · intro h hx; rw [dif_pos hx] at h; cases h
  · intro h; rw [dif_neg h]
theorem leastO_congr {π' : Type} {F : π' → π' → Int → Prop} {p q : π} {p' q' : π'} (h : ∀ c, Least E p q c ↔ Least F p' q' c) : leastO E p q = leastO F p' q' := by
  cases hc : leastO E p q with
  | some c => exact (leastO_some.2 ((h c).1 (leastO_some.1 hc))).symm
  | none =>
    symm
    rw [leastO_none_iff] at hc ⊢
    rintro ⟨c, hx⟩
    exact hc ⟨c, (h c).2 hx⟩
theorem Dom.leastO (h : Dom E E') (k : Dom E' E) (p q : π) : leastO E p q = Go.Gr.leastO E' p q := leastO_congr fun _ => ⟨fun hl => h.least k hl, fun hl => k.least h hl⟩
/-- Steps that are shifted by a potential. -/
theorem shift_way (δ : π → Int) (h : ∀ p q c, E p q c → E' p q (c + δ q - δ p)) {p q : π} {c : Int} (hw : Wy E p q c) : Wy E' p q (c + δ q - δ p) := by
  induction hw with
  | nil p => exact (Wy.nil p).of (by omega)
  | cons e _ ih => exact (Wy.cons (h _ _ _ e) ih).of (by omega)
theorem shift_way' (δ : π → Int) (h : ∀ p q c, E' p q c → E p q (c - δ q + δ p)) {p q : π} {c : Int} (hw : Wy E' p q c) : Wy E p q (c - δ q + δ p) := by
  induction hw with
  | nil p => exact (Wy.nil p).of (by omega)
  | cons e _ ih => exact (Wy.cons (h _ _ _ e) ih).of (by omega)
theorem shift_noNeg (δ : π → Int) (h : ∀ p q c, E' p q c → E p q (c - δ q + δ p)) (hn : NoNeg E) : NoNeg E' := fun p c hw => by
  have := hn p _ (shift_way' δ h hw)
  omega
theorem shift_least (δ : π → Int) (h : ∀ p q c, E p q c → E' p q (c + δ q - δ p)) (k : ∀ p q c, E' p q c → E p q (c - δ q + δ p)) {p q : π} (c : Int) : Least E p q c ↔ Least E' p q (c + δ q - δ p) := by
  constructor
  · rintro ⟨h1, h2⟩
    refine ⟨shift_way δ h h1, fun d hd => ?_⟩
    have := h2 _ (shift_way' δ k hd)
    omega
  · rintro ⟨h1, h2⟩
    refine ⟨(shift_way' δ k h1).of (by omega), fun d hd => ?_⟩
    have := h2 _ (shift_way δ h hd)
    omega
/-- Least costs of both ways add up to no less than nothing; and a way over a further point is no shorter. -/
theorem least_tri {p q r : π} {a b c : Int} (h1 : Least E p r c) (h2 : Wy E p q a) (h3 : Wy E q r b) : c ≤ a + b := h1.2 _ (h2.append h3)
end Go.Gr
