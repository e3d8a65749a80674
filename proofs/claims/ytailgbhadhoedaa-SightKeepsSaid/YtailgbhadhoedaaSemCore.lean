/-
  Sights, plain: points, the steps between them, and that points which nobody sights may be left out. No program in it.
-/
import Derived.Test.YtailgbhadhoedaaM
import Derived.Test.YtailgbhadhoedaaGraph
namespace Go.Gr
open Go.Fw
abbrev Pt := GPoint
abbrev Sg := GSight
def spot (c t : Int) : Pt := ⟨c, if c = 0 then 0 else t⟩
def absI (d : Int) : Int := max d (-d)
def carryV (r d : Int) : Int := (r * absI d + 999999999) / 1000000000
theorem absI_nonneg (d : Int) : 0 ≤ absI d := by unfold absI; omega
theorem absI_add (a b : Int) : absI (a + b) ≤ absI a + absI b := by unfold absI; omega
theorem absI_neg (a : Int) : absI (-a) = absI a := by unfold absI; omega
theorem carry_nonneg {r : Int} (hr : 0 ≤ r) (d : Int) : 0 ≤ carryV r d := by
  have := Int.mul_nonneg hr (absI_nonneg d)
  unfold carryV; omega
theorem carry_zero (r : Int) : carryV r 0 = 0 := by
  have : absI 0 = 0 := rfl
  unfold carryV; rw [this, Int.mul_zero]; rfl
theorem carry_neg (r d : Int) : carryV r (-d) = carryV r d := by unfold carryV; rw [absI_neg]
theorem carry_add {r : Int} (hr : 0 ≤ r) (a b : Int) : carryV r (a + b) ≤ carryV r a + carryV r b := by
  have h1 := Int.mul_nonneg hr (absI_nonneg a); have h2 := Int.mul_nonneg hr (absI_nonneg b)
  have h3 : r * absI (a + b) ≤ r * absI a + r * absI b := by rw [← Int.mul_add]; exact Int.mul_le_mul_of_nonneg_left (absI_add a b) hr
  unfold carryV; omega
/-- A step of a clock from a time to another one. -/
def StepC (rate : Int → Int) (p q : Pt) (c : Int) : Prop := p.clock = q.clock ∧ c = carryV (rate p.clock) (p.at_ - q.at_)
/-- A step by a sight. -/
def StepS (S : List Sg) (p q : Pt) (c : Int) : Prop := ∃ s ∈ S, (p = spot s.B s.At ∧ q = spot s.A s.At ∧ c = s.Hi) ∨ (p = spot s.A s.At ∧ q = spot s.B s.At ∧ c = -s.Lo)
def EN (rate : Int → Int) (S : List Sg) (p q : Pt) (c : Int) : Prop := StepC rate p q c ∨ StepS S p q c
/-- The steps among some points. -/
def EV (rate : Int → Int) (S : List Sg) (V : Pt → Prop) (p q : Pt) (c : Int) : Prop := V p ∧ V q ∧ EN rate S p q c
/-- The points of all sights are there. -/
def Covers (S : List Sg) (V : Pt → Prop) : Prop := ∀ s ∈ S, V (spot s.A s.At) ∧ V (spot s.B s.At)
variable {rate : Int → Int} {S : List Sg} {V : Pt → Prop}
theorem StepS.mem (hV : Covers S V) {p q : Pt} {c : Int} (h : StepS S p q c) : V p ∧ V q := by
  obtain ⟨s, hs, ⟨rfl, rfl, _⟩ | ⟨rfl, rfl, _⟩⟩ := h
  · exact ⟨(hV s hs).2, (hV s hs).1⟩
  · exact hV s hs
theorem carry_way (_ : ∀ c, 0 ≤ rate c) {p q : Pt} (hp : V p) (hq : V q) (h : p.clock = q.clock) : Wy (EV rate S V) p q (carryV (rate p.clock) (p.at_ - q.at_)) :=
  Wy.one ⟨hp, hq, .inl ⟨h, rfl⟩⟩
/-- Points that nobody sights can be left out. -/
theorem reduce_from (hr : ∀ c, 0 ≤ rate c) (hV : Covers S V) {p q : Pt} {c : Int} (h : Wy (EN rate S) p q c) (hq : V q) : ∀ p0 : Pt, V p0 → p0.clock = p.clock →
    ∃ d, d ≤ carryV (rate p0.clock) (p0.at_ - p.at_) + c ∧ Wy (EV rate S V) p0 q d := by
  induction h with
  | nil p =>
    intro p0 h0 hc
    exact ⟨_, by omega, carry_way hr h0 hq hc⟩
  | @cons p p1 q c d e _ ih =>
    intro p0 h0 hc
    rcases e with ⟨h1, rfl⟩ | e
    · obtain ⟨d', h2, h3⟩ := ih hq p0 h0 (hc.trans h1)
      refine ⟨d', ?_, h3⟩
      have := carry_add (hr p0.clock) (p0.at_ - p.at_) (p.at_ - p1.at_)
      rw [show p0.at_ - p.at_ + (p.at_ - p1.at_) = p0.at_ - p1.at_ by omega] at this
      rw [← hc]
      omega
    · obtain ⟨hp, hp1⟩ := e.mem hV
      obtain ⟨d', h2, h3⟩ := ih hq p1 hp1 rfl
      rw [Int.sub_self, carry_zero] at h2
      refine ⟨_, ?_, (carry_way hr h0 hp hc).append (Wy.cons ⟨hp, hp1, .inr e⟩ h3)⟩
      omega
theorem reduce_way (hr : ∀ c, 0 ≤ rate c) (hV : Covers S V) {p q : Pt} {c : Int} (hp : V p) (hq : V q) (h : Wy (EN rate S) p q c) : ∃ d, d ≤ c ∧ Wy (EV rate S V) p q d := by
  obtain ⟨d, h1, h2⟩ := reduce_from hr hV h hq p hp rfl
  rw [Int.sub_self, carry_zero] at h1
  exact ⟨d, by omega, h2⟩
theorem EV.way {p q : Pt} {c : Int} (h : Wy (EV rate S V) p q c) : Wy (EN rate S) p q c := h.mono fun _ _ _ e => e.2.2
theorem least_iff (hr : ∀ c, 0 ≤ rate c) (hV : Covers S V) {p q : Pt} (hp : V p) (hq : V q) (c : Int) : Least (EV rate S V) p q c ↔ Least (EN rate S) p q c := by
  constructor
  · rintro ⟨h1, h2⟩
    refine ⟨EV.way h1, fun d hd => ?_⟩
    obtain ⟨d', h3, h4⟩ := reduce_way hr hV hp hq hd
    have := h2 d' h4; omega
  · rintro ⟨h1, h2⟩
    obtain ⟨d', h3, h4⟩ := reduce_way hr hV hp hq h1
    have := h2 d' (EV.way h4)
    exact ⟨h4.of (by omega), fun d hd => h2 d (EV.way hd)⟩
theorem noway_iff (hr : ∀ c, 0 ≤ rate c) (hV : Covers S V) {p q : Pt} (hp : V p) (hq : V q) : (∀ c, ¬ Wy (EV rate S V) p q c) ↔ ∀ c, ¬ Wy (EN rate S) p q c := by
  constructor
  · intro h c hc
    obtain ⟨d', _, h4⟩ := reduce_way hr hV hp hq hc
    exact h d' h4
  · exact fun h c hc => h c (EV.way hc)
/-- A way has no sight in it, or begins with carries up to its first sight. -/
theorem first_sight (hr : ∀ c, 0 ≤ rate c) {p q : Pt} {c : Int} (h : Wy (EN rate S) p q c) : (p.clock = q.clock ∧ 0 ≤ c) ∨ ∃ u v a e b, p.clock = u.clock ∧ Wy (EN rate S) p u a ∧ StepS S u v e ∧ Wy (EN rate S) v q b ∧ c = a + e + b := by
  induction h with
  | nil p => exact .inl ⟨rfl, Int.le_refl _⟩
  | @cons p p1 q c d e hw ih =>
    rcases e with ⟨h1, rfl⟩ | e
    · rcases ih with ⟨h2, h3⟩ | ⟨u, v, a, e, b, h2, h3, h4, h5, h6⟩
      · have := carry_nonneg (hr p.clock) (p.at_ - p1.at_)
        exact .inl ⟨h1.trans h2, by omega⟩
      · exact .inr ⟨u, v, _, e, b, h1.trans h2, Wy.cons (.inl ⟨h1, rfl⟩) h3, h4, h5, by omega⟩
    · exact .inr ⟨p, p1, 0, c, d, rfl, .nil p, e, hw, by omega⟩
theorem noNeg_iff (hr : ∀ c, 0 ≤ rate c) (hV : Covers S V) : NoNeg (EV rate S V) ↔ NoNeg (EN rate S) := by
  constructor
  · intro h p c hw
    rcases first_sight hr hw with ⟨_, h1⟩ | ⟨u, v, a, e, b, _, h2, h3, h4, h5⟩
    · exact h1
    · have hv := (h3.mem hV).2
      obtain ⟨d, h6, h7⟩ := reduce_way hr hV hv hv (h4.append (h2.append (Wy.one (.inr h3))))
      have := h v d h7
      omega
  · exact fun h p c hw => h p c (EV.way hw)
/-- Errors that fit all sights are a potential. -/
theorem fits_noNeg (f : Pt → Int) (hc : ∀ p q : Pt, p.clock = q.clock → f q ≤ f p + carryV (rate p.clock) (p.at_ - q.at_)) (hs : ∀ s ∈ S, s.Lo ≤ f (spot s.A s.At) - f (spot s.B s.At) ∧ f (spot s.A s.At) - f (spot s.B s.At) ≤ s.Hi) :
    ∀ p q c, EN rate S p q c → f q ≤ f p + c := by
  rintro p q c (⟨h1, rfl⟩ | ⟨s, h, ⟨rfl, rfl, rfl⟩ | ⟨rfl, rfl, rfl⟩⟩)
  · exact hc p q h1
  · have := hs s h; omega
  · have := hs s h; omega
end Go.Gr
