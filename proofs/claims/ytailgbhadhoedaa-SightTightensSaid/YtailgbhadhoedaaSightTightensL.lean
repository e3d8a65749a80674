/-
  SightTightens, plain: what is implied, tight and needed is the same in both texts.
-/
import Derived.Test.YtailgbhadhoedaaM2
import Derived.Test.YtailgbhadhoedaaM
import Derived.Test.YtailgbhadhoedaaGraph
namespace Go.Fw
open Go.Gr
theorem sortEdges_eq {st st' : List GEdge} (h : st'.Perm st) (hs : st'.Pairwise fun a b => Go.Proofs.ltOf edgeC b a = false) (hn : (st.map edgeKey).Nodup) : sortEdges st = st' := by
  have p1 := (srtOf_facts edgeC edge_swo st).1
  refine List.Perm.eq_of_pairwise (le := fun a b => Go.Proofs.ltOf edgeC b a = false) (fun a b ha hb h1 h2 => ?_) (sorted_pairwise st) hs (p1.trans h.symm)
  have ha' : a ∈ st := p1.mem_iff.1 ha
  have hb' : b ∈ st := h.mem_iff.1 hb
  refine inj_of_nodup_map hn ha' hb' ?_
  have n1 : ¬ _ := fun h => by rw [(edge_lt b a).2 h] at h1; cases h1
  have n2 : ¬ _ := fun h => by rw [(edge_lt a b).2 h] at h2; cases h2
  unfold edgeKey
  have e1 : a.from_ = b.from_ := by omega
  have e2 : a.to = b.to := by omega
  have e3 : a.number = b.number := by omega
  rw [e1, e2, e3]
theorem bindS {α β : Type} {o : Option α} {f : α → Option β} {a : α} (h : o = some a) : o.bind f = f a := by rw [h]; rfl
def twoN : GNet := ⟨[0, 10000], [⟨0, 1, 0, 100, 100⟩, ⟨1000000, 1, 0, 150, 160⟩]⟩
def oneS : List GSight := [⟨0, 1, 0, 100, 100⟩]
def kvT : List (GPoint × Int) := [(⟨0, 0⟩, 0), (⟨1, 0⟩, 1), (⟨1, 1000000⟩, 2)]
def stT : List GEdge := [⟨0, 1, 100, 0⟩, ⟨1, 0, -100, 1⟩, ⟨0, 2, 160, 2⟩, ⟨2, 0, -150, 3⟩, ⟨1, 2, 10, -1⟩, ⟨2, 1, 10, -1⟩]
def soT : List GEdge := [⟨0, 1, 100, 0⟩, ⟨0, 2, 160, 2⟩, ⟨1, 0, -100, 1⟩, ⟨1, 2, 10, -1⟩, ⟨2, 0, -150, 3⟩, ⟨2, 1, 10, -1⟩]
def kvO : List (GPoint × Int) := [(⟨0, 0⟩, 0), (⟨1, 0⟩, 1)]
def stO : List GEdge := [⟨0, 1, 100, 0⟩, ⟨1, 0, -100, 1⟩]
def kvP : List (GPoint × Int) := [(⟨1, 1000000⟩, 0), (⟨0, 0⟩, 1), (⟨1, 0⟩, 2)]
def stP : List GEdge := [⟨1, 2, 100, 0⟩, ⟨2, 1, -100, 1⟩, ⟨0, 2, 10, -1⟩, ⟨2, 0, 10, -1⟩]
theorem two_eq : noongunlaw02_two = some twoN := rfl
theorem twoN_graph : sight_graphOf twoN [] = some (kvT, stT) := by decide
theorem oneN_graph : sight_graphOf ⟨[0, 10000], oneS⟩ [] = some (kvO, stO) := by decide
theorem oneN_graph2 : sight_graphOf ⟨[0, 10000], oneS⟩ [⟨1, 1000000⟩, ⟨0, 0⟩] = some (kvP, stP) := by decide
theorem sorted_to {kv : List (GPoint × Int)} {st so : List GEdge} (h : so.Perm st) (hs : so.Pairwise fun a b => Go.Proofs.ltOf edgeC b a = false) (hn : (st.map edgeKey).Nodup) (hl : st.length ≤ 1000) : sight_graph_sorted kv st = some so := by
  unfold sight_graph_sorted slices_Clone_step appI srtI
  rw [List.nil_append, if_pos (by simp only [List.length_nil]; omega), Option.bind_some, Option.bind_some, if_pos (by omega), sortEdges_eq h hs hn]
  rfl
theorem twoN_circle : circleG kvT stT = some (false, [0, 3]) := by
  unfold circleG
  rw [if_pos (by decide)]
  unfold sight_graph_circle
  rw [sorted_to (so := soT) (by decide) (by decide) (by decide) (by decide)]
  refine (bindS (a := [0, 0, 0]) (by decide)).trans ?_
  refine (bindS (a := [⟨0, 0, 0, 0⟩, ⟨0, 0, 0, 0⟩, ⟨0, 0, 0, 0⟩]) (by decide)).trans ?_
  refine (bindS (a := soT) rfl).trans ?_
  refine (bindS (a := 4) (by decide)).trans ?_
  refine (bindS (a := ([⟨2, 0, -150, 3⟩, ⟨0, 1, 100, 0⟩, ⟨1, 2, 10, -1⟩], 0)) (by decide)).trans ?_
  refine (if_neg (by decide)).trans ?_
  refine (bindS (a := 0) (by decide)).trans ?_
  refine (bindS (a := [3, 0]) ?_).trans (by decide)
  exact (loopR_cont (2, [3]) rfl).trans ((loopR_cont (1, [3]) rfl).trans (loopR_done rfl))
theorem oneN_circle : circleG kvO stO = some (true, []) := by
  unfold circleG
  rw [if_pos (by decide)]
  unfold sight_graph_circle
  rw [sorted_to (so := stO) (by decide) (by decide) (by decide) (by decide)]
  decide
theorem twoN_consistent : sight_Consistent twoN = some (false, 0) := by
  unfold sight_Consistent
  rw [show sight_Valid twoN = some true by decide, Option.bind_some, twoN_graph]
  refine (if_neg (by decide)).trans ?_
  exact (bindS (a := (kvT, stT)) rfl).trans ((bindS twoN_circle).trans rfl)
theorem oneN_noNeg : NoNeg (edgeE stP) := noNeg_of_potential (fun i => if i = 2 then 100 else if i = 1 then 0 else 100) fun p q c ⟨s, hs, h1, h2, h3⟩ => by
  subst h1; subst h2; subst h3
  exact (by decide : ∀ s ∈ stP, (if edgeP.to s = 2 then (100 : Int) else if edgeP.to s = 1 then 0 else 100) ≤ (if edgeP.fr s = 2 then 100 else if edgeP.fr s = 1 then 0 else 100) + edgeP.co s) s hs
theorem oneN_least : leastG kvP stP ⟨0, 0⟩ ⟨1, 1000000⟩ = some (110, true) ∧ leastG kvP stP ⟨1, 1000000⟩ ⟨0, 0⟩ = some (-90, true) := by
  unfold leastG
  rw [if_pos ⟨by decide, oneN_noNeg, ⟨1, by decide⟩, ⟨0, by decide⟩⟩, if_pos ⟨by decide, oneN_noNeg, ⟨0, by decide⟩, ⟨1, by decide⟩⟩]
  exact ⟨by decide, by decide⟩
theorem oneN_error : sight_Error ⟨[0, 10000], oneS⟩ 1 1000000 = some (⟨90, 110⟩, 0) := by
  unfold sight_Error sight_Between
  rw [show sight_clock ⟨[0, 10000], oneS⟩ [1, 0] = some 0 by decide, Option.bind_some]
  refine (bindS (a := (⟨90, 110⟩, 0)) ?_).trans rfl
  refine (if_neg (by decide)).trans ?_
  refine (bindS (a := true) (by decide)).trans ?_
  refine (if_neg (by decide)).trans ?_
  refine (bindS oneN_graph).trans ?_
  refine (bindS oneN_circle).trans ?_
  refine (if_neg (by decide)).trans ?_
  refine (bindS (a := (⟨90, 110⟩, true)) ?_).trans rfl
  unfold sight_between
  refine (if_neg (by decide)).trans ?_
  refine (bindS (a := ⟨1, 1000000⟩) (by decide)).trans ?_
  refine (bindS (a := ⟨0, 0⟩) (by decide)).trans ?_
  refine (bindS oneN_graph2).trans ?_
  refine (bindS oneN_least.1).trans ?_
  refine (bindS oneN_least.2).trans ?_
  decide
theorem awake_eq : noongunlaw02_awake = some true := by
  unfold noongunlaw02_awake
  refine (bindS two_eq).trans ?_
  refine (bindS twoN_consistent).trans ?_
  refine (bindS (a := oneS) (by decide)).trans ?_
  refine (bindS oneN_error).trans ?_
  decide
end Go.Fw
namespace Go.Fw
def vSight (n : Int) (s : GSight) : Bool := decide (0 ≤ s.At) && decide (s.At ≤ 1000000000000) && decide (0 ≤ s.A) && decide (s.A < n) && decide (0 ≤ s.B) && decide (s.B < n) && decide (s.A ≠ s.B) && decide (-86400000 ≤ s.Lo) && decide (s.Lo ≤ s.Hi) && decide (s.Hi ≤ 86400000)
def vRate (r : Int) : Bool := decide (0 ≤ r) && decide (r ≤ 1000000)
def vNet (x : GNet) : Bool := decide (2 ≤ x.Rates.length) && decide (x.Rates.length ≤ 8) && decide (x.Rates[0]? = some 0) && decide (x.Sights.length ≤ 30) && x.Rates.all vRate && x.Sights.all (vSight (x.Rates.length : Int))
theorem vSight_iff {n : Int} {s : GSight} : vSight n s = true ↔ 0 ≤ s.At ∧ s.At ≤ 1000000000000 ∧ 0 ≤ s.A ∧ s.A < n ∧ 0 ≤ s.B ∧ s.B < n ∧ s.A ≠ s.B ∧ -86400000 ≤ s.Lo ∧ s.Lo ≤ s.Hi ∧ s.Hi ≤ 86400000 := by
  unfold vSight
  simp only [Bool.and_eq_true, decide_eq_true_eq, and_assoc]
theorem vRate_iff {r : Int} : vRate r = true ↔ 0 ≤ r ∧ r ≤ 1000000 := by
  unfold vRate
  simp only [Bool.and_eq_true, decide_eq_true_eq]
theorem vNet_iff {x : GNet} : vNet x = true ↔ 2 ≤ x.Rates.length ∧ x.Rates.length ≤ 8 ∧ x.Rates[0]? = some 0 ∧ x.Sights.length ≤ 30 ∧ (∀ r ∈ x.Rates, 0 ≤ r ∧ r ≤ 1000000) ∧ ∀ s ∈ x.Sights, vSight (x.Rates.length : Int) s = true := by
  unfold vNet
  simp only [Bool.and_eq_true, decide_eq_true_eq, and_assoc, List.all_eq_true, vRate_iff]
theorem containsInt_eq (l : List Int) (f : Int → Option Bool) (p : Int → Bool) (h : ∀ x ∈ l, f x = some (p x)) : slices_ContainsFunc_int l f = some (l.any p) := by
  unfold slices_ContainsFunc_int slices_IndexFunc_int
  rw [index_loop p]
  · rw [← findIdx_any]
    cases l.findIdx? p with
    | none => rfl
    | some i => simp
  · intro i x hx
    simp only [idx_at hx, Option.bind_some, h x (List.mem_of_getElem? hx)]
    cases p x <;> rfl
theorem containsSight_eq (l : List GSight) (f : GSight → Option Bool) (p : GSight → Bool) (h : ∀ x ∈ l, f x = some (p x)) : slices_ContainsFunc_Sight l f = some (l.any p) := by
  unfold slices_ContainsFunc_Sight slices_IndexFunc_Sight
  rw [index_loop p]
  · rw [← findIdx_any]
    cases l.findIdx? p with
    | none => rfl
    | some i => simp
  · intro i x hx
    simp only [idx_at hx, Option.bind_some, h x (List.mem_of_getElem? hx)]
    cases p x <;> rfl
theorem not_any {α : Type} (p : α → Bool) (l : List α) : (!l.any fun x => !p x) = l.all p := by
  induction l with
  | nil => rfl
  | cons x l ih => simp only [List.any_cons, List.all_cons, Bool.not_or, Bool.not_not, ih]
theorem any_not {α : Type} (p : α → Bool) (l : List α) : (l.any fun x => !p x) = !l.all p := by rw [← not_any, Bool.not_not]
theorem andI (b : Bool) (o : Option Bool) (c : Bool) (h : o = some c) : (if b = true then o else some false) = some (b && c) := by cases b <;> simp [h]
theorem orO (b : Bool) (o : Option Bool) (c : Bool) (h : b = false → o = some c) : (if b = true then some true else o) = some (b || c) := by
  cases b
  · simp [h rfl]
  · rfl
theorem sub1 {n : Int} (hn : 1 ≤ n ∧ n ≤ 1000000) : subI n 1 = some (n - 1) := if_pos (inI_iff.2 (by omega))
theorem validSight_eq (s : GSight) {n : Int} (hn : 1 ≤ n ∧ n ≤ 1000000) : sight_validSight s n = some (vSight n s) := by
  unfold sight_validSight sight_within
  simp only [sub1 hn, Option.bind_some]
  simp only [andI _ _ _ rfl, Option.bind_some]
  rw [Option.some.injEq, Bool.eq_iff_iff, vSight_iff]
  simp only [Bool.and_eq_true, decide_eq_true_eq, bne_iff_ne]
  omega
theorem valid_eq (x : GNet) : sight_Valid x = some (vNet x) := by
  unfold sight_Valid sight_within
  by_cases hl : 2 ≤ x.Rates.length ∧ x.Rates.length ≤ 8
  · have h1 : (decide ((2 : Int) ≤ ((x.Rates.length : Nat) : Int)) && decide (((x.Rates.length : Nat) : Int) ≤ 8)) = true := by
      rw [Bool.and_eq_true, decide_eq_true_eq, decide_eq_true_eq]; omega
    obtain ⟨r0, hr⟩ : ∃ r0, x.Rates[0]? = some r0 := ⟨_, List.getElem?_eq_getElem (by omega)⟩
    have hi : idx x.Rates 0 = some r0 := by unfold idx; rw [if_pos (Int.le_refl 0)]; exact hr
    have c1 : slices_ContainsFunc_int x.Rates (fun x0 => sight_Valid_c1 x0) = some (!x.Rates.all vRate) := by
      rw [← any_not]
      refine containsInt_eq _ _ _ fun r _ => ?_
      rfl
    have c2 : slices_ContainsFunc_Sight x.Sights (fun x0 => sight_Valid_c2 x0 ((x.Rates.length : Nat) : Int)) = some (!x.Sights.all (vSight (x.Rates.length : Int))) := by
      rw [← any_not]
      refine containsSight_eq _ _ _ fun s _ => ?_
      unfold sight_Valid_c2
      rw [validSight_eq s (by omega)]
      rfl
    rw [Option.bind_some, h1]
    simp only [Bool.not_true, Bool.false_eq_true, if_false, hi, Option.bind_some, c1, c2, orO _ _ _ (fun _ => rfl), andI _ _ _ rfl]
    unfold vNet
    rw [decide_eq_true hl.1, decide_eq_true hl.2, hr]
    by_cases e0 : r0 = 0
    · subst e0
      by_cases e1 : x.Sights.length ≤ 30
      · cases x.Rates.all vRate <;> simp [e1] <;> omega
      · cases x.Rates.all vRate <;> simp [e1] <;> omega
    · simp [e0]
  · have h1 : (decide ((2 : Int) ≤ ((x.Rates.length : Nat) : Int)) && decide (((x.Rates.length : Nat) : Int) ≤ 8)) = false := by
      rw [Bool.and_eq_false_iff, decide_eq_false_iff_not, decide_eq_false_iff_not]; omega
    rw [Option.bind_some, h1]
    simp only [Bool.not_false, if_true, Option.bind_some]
    symm
    rw [Option.some.injEq]
    cases hv : vNet x with
    | false => rfl
    | true => exact absurd (vNet_iff.1 hv) (fun h => hl ⟨h.1, h.2.1⟩)
end Go.Fw
namespace Go.Gr
open Go.Fw
abbrev Pt := GPoint
abbrev Sg := GSight
def spot (c t : Int) : Pt := ⟨c, if c = 0 then 0 else t⟩
def absI (d : Int) : Int := max d (-d)
def carryV (r d : Int) : Int := (r * absI d + 999999999) / 1000000000
theorem absI_nonneg (d : Int) : 0 ≤ absI d := by unfold absI; omega
theorem absI_add (a b : Int) : absI (a + b) ≤ absI a + absI b := by unfold absI; omega
theorem absI_neg (a : Int) : absI (-a) = absI a := by unfold absI; omega
theorem carry_nonneg {r : Int} (hr : 0 ≤ r) (d : Int) : 0 ≤ carryV r d := by
  have := Int.mul_nonneg hr (absI_nonneg d)
  unfold carryV; omega
theorem carry_zero (r : Int) : carryV r 0 = 0 := by
  have : absI 0 = 0 := rfl
  unfold carryV; rw [this, Int.mul_zero]; rfl
theorem carry_neg (r d : Int) : carryV r (-d) = carryV r d := by unfold carryV; rw [absI_neg]
theorem carry_add {r : Int} (hr : 0 ≤ r) (a b : Int) : carryV r (a + b) ≤ carryV r a + carryV r b := by
  have h1 := Int.mul_nonneg hr (absI_nonneg a); have h2 := Int.mul_nonneg hr (absI_nonneg b)
  have h3 : r * absI (a + b) ≤ r * absI a + r * absI b := by rw [← Int.mul_add]; exact Int.mul_le_mul_of_nonneg_left (absI_add a b) hr
  unfold carryV; omega
/-- A step of a clock from a time to another one. -/
def StepC (rate : Int → Int) (p q : Pt) (c : Int) : Prop := p.clock = q.clock ∧ c = carryV (rate p.clock) (p.at_ - q.at_)
/-- A step by a sight. -/
def StepS (S : List Sg) (p q : Pt) (c : Int) : Prop := ∃ s ∈ S, (p = spot s.B s.At ∧ q = spot s.A s.At ∧ c = s.Hi) ∨ (p = spot s.A s.At ∧ q = spot s.B s.At ∧ c = -s.Lo)
def EN (rate : Int → Int) (S : List Sg) (p q : Pt) (c : Int) : Prop := StepC rate p q c ∨ StepS S p q c
/-- The steps among some points. -/
def EV (rate : Int → Int) (S : List Sg) (V : Pt → Prop) (p q : Pt) (c : Int) : Prop := V p ∧ V q ∧ EN rate S p q c
/-- The points of all sights are there. -/
def Covers (S : List Sg) (V : Pt → Prop) : Prop := ∀ s ∈ S, V (spot s.A s.At) ∧ V (spot s.B s.At)
variable {rate : Int → Int} {S : List Sg} {V : Pt → Prop}
theorem StepS.mem (hV : Covers S V) {p q : Pt} {c : Int} (h : StepS S p q c) : V p ∧ V q := by
  obtain ⟨s, hs, ⟨rfl, rfl, _⟩ | ⟨rfl, rfl, _⟩⟩ := h
  · exact ⟨(hV s hs).2, (hV s hs).1⟩
  · exact hV s hs
theorem carry_way (_ : ∀ c, 0 ≤ rate c) {p q : Pt} (hp : V p) (hq : V q) (h : p.clock = q.clock) : Wy (EV rate S V) p q (carryV (rate p.clock) (p.at_ - q.at_)) :=
  Wy.one ⟨hp, hq, .inl ⟨h, rfl⟩⟩
/-- Points that nobody sights can be left out. -/
theorem reduce_from (hr : ∀ c, 0 ≤ rate c) (hV : Covers S V) {p q : Pt} {c : Int} (h : Wy (EN rate S) p q c) (hq : V q) : ∀ p0 : Pt, V p0 → p0.clock = p.clock →
    ∃ d, d ≤ carryV (rate p0.clock) (p0.at_ - p.at_) + c ∧ Wy (EV rate S V) p0 q d := by
  induction h with
  | nil p =>
    intro p0 h0 hc
    exact ⟨_, by omega, carry_way hr h0 hq hc⟩
  | @cons p p1 q c d e _ ih =>
    intro p0 h0 hc
    rcases e with ⟨h1, rfl⟩ | e
    · obtain ⟨d', h2, h3⟩ := ih hq p0 h0 (hc.trans h1)
      refine ⟨d', ?_, h3⟩
      have := carry_add (hr p0.clock) (p0.at_ - p.at_) (p.at_ - p1.at_)
      rw [show p0.at_ - p.at_ + (p.at_ - p1.at_) = p0.at_ - p1.at_ by omega] at this
      rw [← hc]
      omega
    · obtain ⟨hp, hp1⟩ := e.mem hV
      obtain ⟨d', h2, h3⟩ := ih hq p1 hp1 rfl
      rw [Int.sub_self, carry_zero] at h2
      refine ⟨_, ?_, (carry_way hr h0 hp hc).append (Wy.cons ⟨hp, hp1, .inr e⟩ h3)⟩
      omega
theorem reduce_way (hr : ∀ c, 0 ≤ rate c) (hV : Covers S V) {p q : Pt} {c : Int} (hp : V p) (hq : V q) (h : Wy (EN rate S) p q c) : ∃ d, d ≤ c ∧ Wy (EV rate S V) p q d := by
  obtain ⟨d, h1, h2⟩ := reduce_from hr hV h hq p hp rfl
  rw [Int.sub_self, carry_zero] at h1
  exact ⟨d, by omega, h2⟩
theorem EV.way {p q : Pt} {c : Int} (h : Wy (EV rate S V) p q c) : Wy (EN rate S) p q c := h.mono fun _ _ _ e => e.2.2
theorem least_iff (hr : ∀ c, 0 ≤ rate c) (hV : Covers S V) {p q : Pt} (hp : V p) (hq : V q) (c : Int) : Least (EV rate S V) p q c ↔ Least (EN rate S) p q c := by
  constructor
  · rintro ⟨h1, h2⟩
    refine ⟨EV.way h1, fun d hd => ?_⟩
    obtain ⟨d', h3, h4⟩ := reduce_way hr hV hp hq hd
    have := h2 d' h4; omega
  · rintro ⟨h1, h2⟩
    obtain ⟨d', h3, h4⟩ := reduce_way hr hV hp hq h1
    have := h2 d' (EV.way h4)
    exact ⟨h4.of (by omega), fun d hd => h2 d (EV.way hd)⟩
theorem noway_iff (hr : ∀ c, 0 ≤ rate c) (hV : Covers S V) {p q : Pt} (hp : V p) (hq : V q) : (∀ c, ¬ Wy (EV rate S V) p q c) ↔ ∀ c, ¬ Wy (EN rate S) p q c := by
  constructor
  · intro h c hc
    obtain ⟨d', _, h4⟩ := reduce_way hr hV hp hq hc
    exact h d' h4
  · exact fun h c hc => h c (EV.way hc)
/-- A way has no sight in it, or begins with carries up to its first sight. -/
theorem first_sight (hr : ∀ c, 0 ≤ rate c) {p q : Pt} {c : Int} (h : Wy (EN rate S) p q c) : (p.clock = q.clock ∧ 0 ≤ c) ∨ ∃ u v a e b, p.clock = u.clock ∧ Wy (EN rate S) p u a ∧ StepS S u v e ∧ Wy (EN rate S) v q b ∧ c = a + e + b := by
  induction h with
  | nil p => exact .inl ⟨rfl, Int.le_refl _⟩
  | @cons p p1 q c d e hw ih =>
    rcases e with ⟨h1, rfl⟩ | e
    · rcases ih with ⟨h2, h3⟩ | ⟨u, v, a, e, b, h2, h3, h4, h5, h6⟩
      · have := carry_nonneg (hr p.clock) (p.at_ - p1.at_)
        exact .inl ⟨h1.trans h2, by omega⟩
      · exact .inr ⟨u, v, _, e, b, h1.trans h2, Wy.cons (.inl ⟨h1, rfl⟩) h3, h4, h5, by omega⟩
    · exact .inr ⟨p, p1, 0, c, d, rfl, .nil p, e, hw, by omega⟩
theorem noNeg_iff (hr : ∀ c, 0 ≤ rate c) (hV : Covers S V) : NoNeg (EV rate S V) ↔ NoNeg (EN rate S) := by
  constructor
  · intro h p c hw
    rcases first_sight hr hw with ⟨_, h1⟩ | ⟨u, v, a, e, b, _, h2, h3, h4, h5⟩
    · exact h1
    · have hv := (h3.mem hV).2
      obtain ⟨d, h6, h7⟩ := reduce_way hr hV hv hv (h4.append (h2.append (Wy.one (.inr h3))))
      have := h v d h7
      omega
  · exact fun h p c hw => h p c (EV.way hw)
/-- Errors that fit all sights are a potential. -/
theorem fits_noNeg (f : Pt → Int) (hc : ∀ p q : Pt, p.clock = q.clock → f q ≤ f p + carryV (rate p.clock) (p.at_ - q.at_)) (hs : ∀ s ∈ S, s.Lo ≤ f (spot s.A s.At) - f (spot s.B s.At) ∧ f (spot s.A s.At) - f (spot s.B s.At) ≤ s.Hi) :
    ∀ p q c, EN rate S p q c → f q ≤ f p + c := by
  rintro p q c (⟨h1, rfl⟩ | ⟨s, h, ⟨rfl, rfl, rfl⟩ | ⟨rfl, rfl, rfl⟩⟩)
  · exact hc p q h1
  · have := hs s h; omega
  · have := hs s h; omega
end Go.Gr
namespace Go.Fw
theorem quo_ok {a b : Int} (hb : b ≠ 0) (h : inI (a.tdiv b) = true) : quoI a b = some (a.tdiv b) := by unfold quoI; rw [if_neg hb, if_pos h]
theorem maxabs {d : Int} (h : -1000000000000 ≤ d ∧ d ≤ 1000000000000) : 0 ≤ max d (-d) ∧ max d (-d) ≤ 1000000000000 := by omega
theorem carry_bnd {r m : Int} (hr : 0 ≤ r ∧ r ≤ 1000000) (hm : 0 ≤ m ∧ m ≤ 1000000000000) : 0 ≤ r * m ∧ r * m ≤ 1000000000000000000 := by
  have h1 := Int.mul_nonneg hr.1 hm.1
  have h2 := Int.mul_le_mul hr.2 hm.2 hm.1 (by omega)
  omega
theorem carry_eq {x : GNet} {k r d : Int} (hk : idx x.Rates k = some r) (hr : 0 ≤ r ∧ r ≤ 1000000) (h : -1000000000000 ≤ d ∧ d ≤ 1000000000000) : sight_carry x k d = some ((r * max d (-d) + 999999999) / 1000000000) := by
  have hb := carry_bnd hr (maxabs h)
  have h0 : (r * max d (-d) + 1000000000 - 1).tdiv 1000000000 = (r * max d (-d) + 999999999) / 1000000000 := by
    rw [Int.tdiv_eq_ediv_of_nonneg (by omega)]
    congr 1
    omega
  unfold sight_carry negI mulI
  rw [hk, Option.bind_some, if_pos (inI_iff.2 (by omega)), Option.bind_some, if_pos (inI_iff.2 (by omega)), Option.bind_some, addI_ok (by omega), Option.bind_some, subI_ok (by omega), Option.bind_some, quo_ok (by decide) (inI_iff.2 (by rw [h0]; omega)), h0]
  rfl
theorem within_and (a b c : Int) : sight_within a b c = some (decide (b ≤ a) && decide (a ≤ c)) := rfl
end Go.Fw
/-
  The graph of a net, plain: its points are numbered in the order in which they come, its steps are the sights' and the carries. No program in it.
-/
namespace Go.Fw
open Go.Gr
def kvF : Nat → List GPoint → List (GPoint × Int)
  | _, [] => []
  | i, p :: l => (p, (i : Int)) :: kvF (i + 1) l
theorem kvF_len : ∀ (l : List GPoint) (i : Nat), (kvF i l).length = l.length
  | [], _ => rfl
  | _ :: l, i => congrArg (· + 1) (kvF_len l (i + 1))
theorem kvF_get : ∀ (l : List GPoint) (i : Nat) (p : GPoint), mget (kvF i l) p = if p ∈ l then some ((i + l.idxOf p : Nat) : Int) else none
  | [], _, _ => rfl
  | q :: l, i, p => by
    have ih := kvF_get l (i + 1) p
    unfold mget at ih ⊢
    rw [kvF, List.find?_cons]
    by_cases h : q = p
    · subst h
      simp
    · have h1 : ((q, (i : Int)).1 == p) = false := by simpa using h
      have h2 : (q == p) = false := by simpa using h
      rw [h1]
      dsimp only
      rw [ih, List.idxOf_cons, h2]
      by_cases hm : p ∈ l
      · rw [if_pos hm, if_pos (List.mem_cons_of_mem _ hm)]
        simp only [cond_false]
        congr 2
        omega
      · rw [if_neg hm, if_neg (by simp [hm, Ne.symm h])]
theorem kvF_app : ∀ (l : List GPoint) (i : Nat) (p : GPoint), kvF i (l ++ [p]) = kvF i l ++ [(p, ((i + l.length : Nat) : Int))]
  | [], _, _ => rfl
  | q :: l, i, p => by
    rw [List.cons_append, kvF, kvF_app l (i + 1) p, kvF, List.cons_append, List.length_cons]
    congr 4
    omega
theorem kvF_mem : ∀ (l : List GPoint) (i : Nat) (a : GPoint × Int), a ∈ kvF i l → a.1 ∈ l ∧ (i : Int) ≤ a.2
  | [], _, _, h => by cases h
  | q :: l, i, a, h => by
    rcases List.mem_cons.1 h with rfl | h
    · exact ⟨List.mem_cons_self .., Int.le_refl _⟩
    · obtain ⟨h1, h2⟩ := kvF_mem l (i + 1) a h
      exact ⟨List.mem_cons_of_mem _ h1, by omega⟩
theorem kvF_lt : ∀ (l : List GPoint) (i : Nat), (kvF i l).Pairwise fun a b => a.2 < b.2
  | [], _ => .nil
  | q :: l, i => .cons (fun b hb => by have := (kvF_mem l (i + 1) b hb).2; show (i : Int) < b.2; omega) (kvF_lt l (i + 1))
theorem kvF_idx : ∀ (l : List GPoint) (i : Nat), l.Nodup → ∀ a, a ∈ kvF i l ↔ a.1 ∈ l ∧ a.2 = ((i + l.idxOf a.1 : Nat) : Int)
  | [], _, _, a => by simp [kvF]
  | q :: l, i, hn, a => by
    obtain ⟨h1, h2⟩ := List.nodup_cons.1 hn
    have ih := kvF_idx l (i + 1) h2 a
    obtain ⟨p, n⟩ := a
    rw [kvF, List.mem_cons, ih, List.mem_cons, List.idxOf_cons]
    by_cases h : q = p
    · subst h
      simp [h1]
    · have h3 : (q == p) = false := by simpa using h
      rw [h3]
      simp only [Prod.mk.injEq, Ne.symm h, false_and, false_or, cond_false]
      constructor
      · rintro ⟨k1, k2⟩; exact ⟨k1, by omega⟩
      · rintro ⟨k1, k2⟩; exact ⟨k1, by omega⟩
def addK (l : List GPoint) (p : GPoint) : List GPoint := if p ∈ l then l else l ++ [p]
theorem addK_mem (l : List GPoint) (p : GPoint) : p ∈ addK l p := by unfold addK; split <;> simp [*]
theorem addK_sub {l : List GPoint} {p q : GPoint} (h : q ∈ l) : q ∈ addK l p := by unfold addK; split <;> simp [h]
theorem addK_or {l : List GPoint} {p q : GPoint} (h : q ∈ addK l p) : q ∈ l ∨ q = p := by
  unfold addK at h
  split at h
  · exact .inl h
  · simpa using h
theorem addK_idx {l : List GPoint} {p q : GPoint} (h : q ∈ l) : (addK l p).idxOf q = l.idxOf q := by
  unfold addK
  split
  · rfl
  · rw [List.idxOf_append, if_pos h]
theorem addK_nodup {l : List GPoint} {p : GPoint} (h : l.Nodup) : (addK l p).Nodup := by
  unfold addK
  split
  · exact h
  · rename_i hp
    rw [List.nodup_append]
    exact ⟨h, by simp, fun a ha b hb => by rw [List.mem_singleton.1 hb]; exact fun e => hp (e ▸ ha)⟩
theorem addK_len (l : List GPoint) (p : GPoint) : (addK l p).length ≤ l.length + 1 := by
  unfold addK
  split
  · omega
  · simp
theorem num_eq (l : List GPoint) (p : GPoint) : sight_num (kvF 0 l) p = ((((addK l p).idxOf p : Nat) : Int), kvF 0 (addK l p)) := by
  unfold sight_num
  rw [kvF_get]
  by_cases h : p ∈ l
  · rw [if_pos h]
    unfold addK
    rw [if_pos h]
    simp
  · rw [if_neg h]
    unfold addK mput
    rw [if_neg h, kvF_app, if_neg, kvF_len, List.idxOf_append, if_neg h]
    · simp
    · intro ha
      obtain ⟨a, h1, h2⟩ := List.any_eq_true.1 ha
      have := (kvF_mem l 0 a h1).1
      rw [eq_of_beq h2] at this
      exact h this
def rateF (x : GNet) (c : Int) : Int := (idx x.Rates c).getD 0
def Good (x : GNet) (p : GPoint) : Prop := 0 ≤ p.clock ∧ p.clock < (x.Rates.length : Int) ∧ 0 ≤ p.at_ ∧ p.at_ ≤ 1000000000000
theorem rateF_in {x : GNet} (hx : vNet x = true) (c : Int) : 0 ≤ rateF x c ∧ rateF x c ≤ 1000000 := by
  unfold rateF
  cases h : idx x.Rates c with
  | none => simp
  | some r =>
    obtain ⟨_, _, h2⟩ := idx_some h
    have := (vNet_iff.1 hx).2.2.2.2.1 r (List.mem_of_getElem? h2)
    simpa using this
theorem spot_good {x : GNet} {c t : Int} (hc : 0 ≤ c ∧ c < (x.Rates.length : Int)) (ht : 0 ≤ t ∧ t ≤ 1000000000000) : Good x (spot c t) := by
  unfold Good spot
  dsimp only
  split <;> omega
theorem pointOf_eq (c t : Int) : sight_pointOf c t = some (spot c t) := by
  unfold sight_pointOf spot
  by_cases h : c = 0
  · subst h; rfl
  · have : (c == 0) = false := by simpa using h
    rw [this, if_neg h]; rfl
def stp (s : GSight) (b : Bool) : GPoint × GPoint × Int := if b = true then (spot s.B s.At, spot s.A s.At, s.Hi) else (spot s.A s.At, spot s.B s.At, -s.Lo)
theorem taken_eq {x : GNet} {k : Nat} {s : GSight} (hs : x.Sights[k / 2]? = some s) (hk : k ≤ 1000) (hl : -86400000 ≤ s.Lo ∧ s.Lo ≤ 86400000) : sight_taken x (k : Int) = some (stp s (k % 2 == 0)) := by
  have h1 : (k : Int).tdiv 2 = ((k / 2 : Nat) : Int) := by rw [Int.tdiv_eq_ediv_of_nonneg (by omega)]; omega
  have h2 : (k : Int).tmod 2 = ((k % 2 : Nat) : Int) := by rw [Int.tmod_eq_emod_of_nonneg (by omega)]; omega
  unfold sight_taken quoI remI negI
  rw [if_neg (by decide), h1, if_pos (inI_iff.2 (by omega)), Option.bind_some, idx_at hs, Option.bind_some, if_neg (by decide), h2, Option.bind_some]
  simp only [pointOf_eq, Option.bind_some]
  rw [if_pos (inI_iff.2 (by omega)), Option.bind_some]
  unfold stp
  rcases (by omega : k % 2 = 0 ∨ k % 2 = 1) with h | h <;> rw [h] <;> rfl
theorem stp_stepS {S : List GSight} {s : GSight} (h : s ∈ S) (b : Bool) : StepS S (stp s b).1 (stp s b).2.1 (stp s b).2.2 := by
  cases b
  · exact ⟨s, h, .inr ⟨rfl, rfl, rfl⟩⟩
  · exact ⟨s, h, .inl ⟨rfl, rfl, rfl⟩⟩
end Go.Fw
/-
  The graph of a net, plain: its steps. No program in it.
-/
namespace Go.Fw
open Go.Gr
/-- What stands after some sights' steps. -/
structure Stand (x : GNet) (more ks : List GPoint) (st : List GEdge) (k : Nat) : Prop where
  nodup : ks.Nodup
  sub : ∀ p ∈ more, p ∈ ks
  good : ∀ p ∈ ks, Good x p
  len : ks.length ≤ more.length + 2 * k
  slen : st.length = k
  desc : ∀ (j : Nat) e, st[j]? = some e → ∃ s, x.Sights[j / 2]? = some s ∧ (stp s (j % 2 == 0)).1 ∈ ks ∧ (stp s (j % 2 == 0)).2.1 ∈ ks ∧ e = ⟨(ks.idxOf (stp s (j % 2 == 0)).1 : Nat), (ks.idxOf (stp s (j % 2 == 0)).2.1 : Nat), (stp s (j % 2 == 0)).2.2, (j : Int)⟩
theorem more_loop : ∀ (more ks : List GPoint) (i : Int), ks.Nodup → ∃ ks', rangeL (α := GPoint) (S := List (GPoint × Int)) (X := List (GPoint × Int)) (fun _ y z => some (Step.cont (sight_num z y).2)) (fun z => z) more i (kvF 0 ks) = some (kvF 0 ks') ∧ ks'.Nodup ∧ (∀ p ∈ more, p ∈ ks') ∧ (∀ p ∈ ks, p ∈ ks') ∧ (∀ p ∈ ks', p ∈ ks ∨ p ∈ more) ∧ ks'.length ≤ ks.length + more.length
  | [], ks, _, h => ⟨ks, rfl, h, by simp, fun _ h => h, fun _ h => .inl h, by simp⟩
  | p :: more, ks, i, h => by
    obtain ⟨ks', h1, h2, h3, h4, h5, h6⟩ := more_loop more (addK ks p) (i + 1) (addK_nodup h)
    refine ⟨ks', ?_, h2, fun q hq => ?_, fun q hq => h4 q (addK_sub hq), fun q hq => ?_, ?_⟩
    · rw [rangeL, num_eq]
      exact h1
    · rcases List.mem_cons.1 hq with rfl | hq
      · exact h4 _ (addK_mem ks _)
      · exact h3 q hq
    · rcases h5 q hq with h | h
      · rcases addK_or h with h | h
        · exact .inl h
        · exact .inr (h ▸ List.mem_cons_self ..)
      · exact .inr (List.mem_cons_of_mem _ h)
    · have := addK_len ks p
      rw [List.length_cons]
      omega
theorem stp_good {x : GNet} {s : GSight} (h : vSight (x.Rates.length : Int) s = true) (b : Bool) : Good x (stp s b).1 ∧ Good x (stp s b).2.1 := by
  obtain ⟨h1, h2, h3, h4, h5, h6, _⟩ := vSight_iff.1 h
  have ga := spot_good (x := x) (c := s.A) (t := s.At) ⟨h3, h4⟩ ⟨h1, h2⟩
  have gb := spot_good (x := x) (c := s.B) (t := s.At) ⟨h5, h6⟩ ⟨h1, h2⟩
  cases b
  · exact ⟨ga, gb⟩
  · exact ⟨gb, ga⟩
theorem idx_app {ks : List GPoint} {f t p : GPoint} (h : p ∈ ks) : (addK (addK ks f) t).idxOf p = ks.idxOf p := by rw [addK_idx (addK_sub h), addK_idx h]
theorem sight_loop {x : GNet} (hx : vNet x = true) {more ks0 : List GPoint} (h0 : Stand x more ks0 [] 0) :
    ∃ ks st, rangeN (S := (List (GPoint × Int)) × (List GEdge)) (X := (List (GPoint × Int)) × (List GEdge)) (fun ik2 s =>
      match s with
        | (z8, z9) =>
          (sight_taken (GNet.mk x.Rates x.Sights) (ik2 : Int)).bind (fun o => match o with
            | (t2, t3, t4) =>
              (appI z9 ([(GEdge.mk (sight_num z8 t2).1 (sight_num (sight_num z8 t2).2 t3).1 t4 (ik2 : Int))] : List GEdge)).bind (fun t5 =>
              some (Step.cont ((sight_num (sight_num z8 t2).2 t3).2, t5))))) (fun s => match s with | (z8, z9) => (z8, z9)) (2 * x.Sights.length) 0 (kvF 0 ks0, ([] : List GEdge)) = some (kvF 0 ks, st) ∧ Stand x more ks st (2 * x.Sights.length) := by
  have hv := vNet_iff.1 hx
  obtain ⟨⟨kv, st⟩, h1, ks, h2, h3⟩ := rangeN_inv (S := (List (GPoint × Int)) × (List GEdge)) (X := (List (GPoint × Int)) × (List GEdge)) (body := fun ik2 s =>
      match s with
        | (z8, z9) =>
          (sight_taken (GNet.mk x.Rates x.Sights) (ik2 : Int)).bind (fun o => match o with
            | (t2, t3, t4) =>
              (appI z9 ([(GEdge.mk (sight_num z8 t2).1 (sight_num (sight_num z8 t2).2 t3).1 t4 (ik2 : Int))] : List GEdge)).bind (fun t5 =>
              some (Step.cont ((sight_num (sight_num z8 t2).2 t3).2, t5))))) (fin := fun s => match s with | (z8, z9) => (z8, z9)) (fun k s => ∃ ks, s.1 = kvF 0 ks ∧ Stand x more ks s.2 k) (2 * x.Sights.length) (kvF 0 ks0, []) (fun k s hk hI => by
    obtain ⟨z8, z9⟩ := s
    obtain ⟨ks, e, hs⟩ := hI
    dsimp only at e hs
    subst e
    obtain ⟨s, hs'⟩ : ∃ s, x.Sights[k / 2]? = some s := ⟨_, List.getElem?_eq_getElem (by omega)⟩
    have hvs := hv.2.2.2.2.2 s (List.mem_of_getElem? hs')
    obtain ⟨_, _, _, _, _, _, _, l1, l2, l3⟩ := vSight_iff.1 hvs
    dsimp only
    rw [show GNet.mk x.Rates x.Sights = x from rfl, taken_eq hs' (by omega) ⟨l1, by omega⟩, Option.bind_some]
    have hg := stp_good hvs (k % 2 == 0)
    generalize hb : (k % 2 == 0) = b at hg
    obtain ⟨f, t, c, hst⟩ : ∃ f t c, stp s b = (f, t, c) := ⟨_, _, _, rfl⟩
    rw [hst] at hg ⊢
    dsimp only at hg ⊢
    rw [num_eq, num_eq]
    dsimp only
    unfold appI
    rw [if_pos (by rw [hs.slen]; simp; omega), Option.bind_some]
    refine ⟨_, rfl, addK (addK ks f) t, rfl, addK_nodup (addK_nodup hs.nodup), fun p hp => addK_sub (addK_sub (hs.sub p hp)), fun p hp => ?_, ?_, by simp [hs.slen], fun j e he => ?_⟩
    · rcases addK_or hp with hp | rfl
      · rcases addK_or hp with hp | rfl
        · exact hs.good p hp
        · exact hg.1
      · exact hg.2
    · have a1 := addK_len (addK ks f) t
      have a2 := addK_len ks f
      have := hs.len
      omega
    · rw [List.getElem?_append] at he
      split at he
      · obtain ⟨s1, q1, q2, q3, q4⟩ := hs.desc j e he
        refine ⟨s1, q1, addK_sub (addK_sub q2), addK_sub (addK_sub q3), ?_⟩
        rw [idx_app q2, idx_app q3]
        exact q4
      · rename_i hj
        have hj2 : j = k := by
          have := (List.getElem?_eq_some_iff.1 he).1
          simp at this
          have := hs.slen
          omega
        subst hj2
        rw [hs.slen, Nat.sub_self] at he
        cases he
        refine ⟨s, hs', ?_⟩
        rw [hb, hst]
        exact ⟨addK_sub (addK_mem ks f), addK_mem _ t, by rw [addK_idx (addK_mem ks f)]⟩) ⟨ks0, rfl, h0⟩
  exact ⟨ks, st, by rw [h1]; exact congrArg (fun z => some (z, st)) h2, h3⟩
end Go.Fw
/-
  The graph of a net, plain: what it is. No program in it.
-/
namespace Go.Fw
open Go.Gr
theorem edge_ok {x : GNet} (hx : vNet x = true) {p q : GPoint} {i j : Int} (hp : Good x p) (hq : Good x q) : edgeOf x (p, i) (q, j) = some ⟨i, j, carryV (rateF x p.clock) (p.at_ - q.at_), -1⟩ := by
  obtain ⟨p1, p2, p3, p4⟩ := hp
  obtain ⟨_, _, q3, q4⟩ := hq
  have hi := idx_int p1 p2
  have hr : rateF x p.clock = x.Rates[p.clock.toNat]'(by omega) := by unfold rateF; rw [hi]; rfl
  have hb := rateF_in hx p.clock
  unfold edgeOf
  rw [subI_ok (by dsimp only; omega), Option.bind_some, carry_eq hi (by rw [← hr]; exact hb) (by dsimp only; omega), ← hr]
  rfl
theorem pairB_iff {a b : Pn} : pairB a b = true ↔ a.1.clock = b.1.clock ∧ a.2 ≠ b.2 := by
  unfold pairB
  simp only [Bool.and_eq_true, beq_iff_eq, bne_iff_ne]
/-- What the graph of a net is. -/
structure GSpec (x : GNet) (more ks : List GPoint) (st : List GEdge) : Prop where
  nodup : ks.Nodup
  sub : ∀ p ∈ more, p ∈ ks
  good : ∀ p ∈ ks, Good x p
  len : ks.length ≤ 122
  slen : st.length ≤ 20000
  covers : Covers x.Sights (· ∈ ks)
  keys : (st.map edgeKey).Nodup
  desc : ∀ e ∈ st, ∃ p ∈ ks, ∃ q ∈ ks, e.from_ = (ks.idxOf p : Nat) ∧ e.to = (ks.idxOf q : Nat) ∧ ((∃ (j : Nat) (s : GSight), e.number = (j : Int) ∧ x.Sights[j / 2]? = some s ∧ stp s (j % 2 == 0) = (p, q, e.cost)) ∨ (p ≠ q ∧ p.clock = q.clock ∧ e.cost = carryV (rateF x p.clock) (p.at_ - q.at_) ∧ e.number = -1))
  sights : ∀ p q c, StepS x.Sights p q c → ∃ e ∈ st, e.from_ = (ks.idxOf p : Nat) ∧ e.to = (ks.idxOf q : Nat) ∧ e.cost = c
  carries : ∀ p ∈ ks, ∀ q ∈ ks, p ≠ q → p.clock = q.clock → ∃ e ∈ st, e.from_ = (ks.idxOf p : Nat) ∧ e.to = (ks.idxOf q : Nat) ∧ e.cost = carryV (rateF x p.clock) (p.at_ - q.at_)
theorem idx_inj {ks : List GPoint} {p q : GPoint} (hp : p ∈ ks) (hq : q ∈ ks) (h : ks.idxOf p = ks.idxOf q) : p = q := by
  have h1 := List.getElem_idxOf (List.idxOf_lt_length_iff.2 hp)
  have h2 := List.getElem_idxOf (List.idxOf_lt_length_iff.2 hq)
  rw [← h1, ← h2]
  congr 1
theorem rowOf_len (g : Pn → Pn → GEdge) (a : Pn) (l : List Pn) : (rowOf g a l).length ≤ l.length := by
  unfold rowOf
  rw [List.length_map]
  exact List.length_filter_le ..
theorem rows_len (g : Pn → Pn → GEdge) (l : List Pn) : ∀ (m : List Pn), (m.flatMap fun a => rowOf g a l).length ≤ m.length * l.length
  | [] => by simp
  | a :: m => by
    have h1 := rows_len g l m
    have h2 := rowOf_len g a l
    rw [List.flatMap_cons, List.length_append, List.length_cons, Nat.succ_mul]
    omega
theorem graph_spec {x : GNet} (hx : vNet x = true) {more : List GPoint} (hm : ∀ p ∈ more, Good x p) (hl : more.length ≤ 2) : ∃ ks st, sight_graphOf x more = some (kvF 0 ks, st) ∧ GSpec x more ks st := by
  have hv := vNet_iff.1 hx
  obtain ⟨ks0, a1, a2, a3, a4, a5, a6⟩ := more_loop more [] 0 List.nodup_nil
  have h0 : Stand x more ks0 [] 0 := ⟨a2, a3, fun p hp => (a5 p hp).elim (fun h => by cases h) (hm p), by simpa using a6, rfl, fun j e he => by simp at he⟩
  obtain ⟨ks, st, b1, b2⟩ := sight_loop hx h0
  have hrow : sight_row x (kvF 0 ks) = some ((kvF 0 ks).flatMap fun a => rowOf (sight_rowG x) a (kvF 0 ks)) := by
    unfold sight_row
    rw [if_pos]
    rw [List.all_eq_true]
    intro a ha
    rw [List.all_eq_true]
    intro b hb
    have := edge_ok hx (i := a.2) (j := b.2) (b2.good _ (kvF_mem ks 0 a ha).1) (b2.good _ (kvF_mem ks 0 b hb).1)
    rw [show edgeOf x a b = _ from this]
    simp
  have hg : ∀ a ∈ kvF 0 ks, ∀ b ∈ kvF 0 ks, sight_rowG x a b = ⟨a.2, b.2, carryV (rateF x a.1.clock) (a.1.at_ - b.1.at_), -1⟩ := by
    intro a ha b hb
    have := edge_ok hx (i := a.2) (j := b.2) (b2.good _ (kvF_mem ks 0 a ha).1) (b2.good _ (kvF_mem ks 0 b hb).1)
    unfold sight_rowG
    rw [show edgeOf x a b = _ from this]
    rfl
  have hlen : ks.length ≤ 122 := by have := b2.len; omega
  have hrl := rows_len (sight_rowG x) (kvF 0 ks) (kvF 0 ks)
  rw [kvF_len] at hrl
  have hsq : ks.length * ks.length ≤ 122 * 122 := Nat.mul_le_mul hlen hlen
  have hmem : ∀ e, e ∈ ((kvF 0 ks).flatMap fun a => rowOf (sight_rowG x) a (kvF 0 ks)) ↔ ∃ a ∈ kvF 0 ks, ∃ b ∈ kvF 0 ks, pairB a b = true ∧ e = ⟨a.2, b.2, carryV (rateF x a.1.clock) (a.1.at_ - b.1.at_), -1⟩ := by
    intro e
    simp only [List.mem_flatMap, rowOf, List.mem_map, List.mem_filter]
    constructor
    · rintro ⟨a, ha, b, ⟨hb, h1⟩, rfl⟩
      exact ⟨a, ha, b, hb, h1, hg a ha b hb⟩
    · rintro ⟨a, ha, b, hb, h1, rfl⟩
      exact ⟨a, ha, b, ⟨hb, h1⟩, hg a ha b hb⟩
  refine ⟨ks, st ++ ((kvF 0 ks).flatMap fun a => rowOf (sight_rowG x) a (kvF 0 ks)), ?_, b2.nodup, b2.sub, b2.good, hlen, ?_, fun s hs => ?_, ?_, fun e he => ?_, fun p q c h => ?_, fun p hp q hq hne hc => ?_⟩
  · unfold sight_graphOf
    rw [show (rangeL (α := GPoint) (S := (List (GPoint × Int))) (X := (List (GPoint × Int))) (fun ik1 yk1 z2 => some (Step.cont (sight_num z2 yk1).2)) (fun z2 => z2) more 0 ([] : List (GPoint × Int))) = some (kvF 0 ks0) from a1, Option.bind_some]
    have e1 : mulI 2 ((x.Sights.length : Nat) : Int) = some (2 * ((x.Sights.length : Nat) : Int)) := if_pos (inI_iff.2 (by omega))
    rw [e1, Option.bind_some]
    unfold chkI
    rw [if_pos (inI_iff.2 (by omega)), show Int.toNat (2 * ((x.Sights.length : Nat) : Int)) = 2 * x.Sights.length by omega]
    refine (congrArg (fun o => Option.bind o _) b1).trans ?_
    rw [Option.bind_some]
    dsimp only
    rw [hrow, Option.bind_some]
    unfold appI
    rw [if_pos (by have := b2.slen; omega)]
    rfl
  · have := b2.slen
    rw [List.length_append]
    omega
  · obtain ⟨i, hi⟩ := List.getElem?_of_mem hs
    have hi' := (List.getElem?_eq_some_iff.1 hi).1
    obtain ⟨s', h1, h2, h3, _⟩ := b2.desc (2 * i) _ (List.getElem?_eq_getElem (by rw [b2.slen]; omega))
    rw [show 2 * i / 2 = i by omega, hi] at h1
    cases h1
    rw [show 2 * i % 2 = 0 by omega] at h2 h3
    exact ⟨h3, h2⟩
  · rw [List.map_append, List.nodup_append]
    refine ⟨?_, ?_, ?_⟩
    · unfold List.Nodup
      rw [List.pairwise_map, List.pairwise_iff_getElem]
      intro i j hi hj hij he
      obtain ⟨_, _, _, _, e1⟩ := b2.desc i _ (List.getElem?_eq_getElem hi)
      obtain ⟨_, _, _, _, e2⟩ := b2.desc j _ (List.getElem?_eq_getElem hj)
      have n1 : st[i].number = (i : Int) := by rw [e1]
      have n2 : st[j].number = (j : Int) := by rw [e2]
      unfold edgeKey at he
      simp only [Prod.mk.injEq] at he
      omega
    · unfold List.Nodup
      rw [List.pairwise_map, List.pairwise_flatMap]
      refine ⟨fun a ha => ?_, ?_⟩
      · unfold rowOf
        rw [List.pairwise_map]
        refine List.Pairwise.imp_of_mem (R := fun b c => b.2 < c.2) (fun {b c} hb hc hlt he => ?_) ((kvF_lt ks 0).filter _)
        rw [hg a ha b (List.mem_filter.1 hb).1, hg a ha c (List.mem_filter.1 hc).1] at he
        simp only [edgeKey, Prod.mk.injEq] at he
        omega
      · refine List.Pairwise.imp_of_mem (R := fun b c => b.2 < c.2) (fun {b c} hb hc hlt => ?_) (kvF_lt ks 0)
        intro e he e' he' hk
        simp only [rowOf, List.mem_map, List.mem_filter] at he he'
        obtain ⟨b', ⟨hb', _⟩, rfl⟩ := he
        obtain ⟨c', ⟨hc', _⟩, rfl⟩ := he'
        rw [hg b hb b' hb', hg c hc c' hc'] at hk
        simp only [edgeKey, Prod.mk.injEq] at hk
        omega
    · intro a ha b hb hab
      subst hab
      obtain ⟨e, he, rfl⟩ := List.mem_map.1 ha
      obtain ⟨e', he', hk⟩ := List.mem_map.1 hb
      obtain ⟨j, hj⟩ := List.getElem?_of_mem he
      obtain ⟨_, _, _, _, e1⟩ := b2.desc j _ hj
      obtain ⟨_, _, _, _, _, e2⟩ := (hmem e').1 he'
      rw [e1, e2] at hk
      simp only [edgeKey, Prod.mk.injEq] at hk
      omega
  · rcases List.mem_append.1 he with he | he
    · obtain ⟨j, hj⟩ := List.getElem?_of_mem he
      obtain ⟨s, h1, h2, h3, e1⟩ := b2.desc j _ hj
      refine ⟨_, h2, _, h3, by rw [e1], by rw [e1], .inl ⟨j, s, by rw [e1], h1, ?_⟩⟩
      rw [e1]
    · obtain ⟨a, ha, b, hb, hp, rfl⟩ := (hmem e).1 he
      obtain ⟨h1, h2⟩ := (kvF_idx ks 0 b2.nodup a).1 ha
      obtain ⟨h3, h4⟩ := (kvF_idx ks 0 b2.nodup b).1 hb
      obtain ⟨p1, p2⟩ := pairB_iff.1 hp
      rw [Nat.zero_add] at h2 h4
      exact ⟨a.1, h1, b.1, h3, h2, h4, .inr ⟨fun e => p2 (by rw [h2, h4, e]), p1, rfl, rfl⟩⟩
  · obtain ⟨s, hs, hc⟩ := h
    obtain ⟨i, hi⟩ := List.getElem?_of_mem hs
    have hi' := (List.getElem?_eq_some_iff.1 hi).1
    rcases hc with ⟨rfl, rfl, rfl⟩ | ⟨rfl, rfl, rfl⟩
    · obtain ⟨s', h1, _, _, h4⟩ := b2.desc (2 * i) _ (List.getElem?_eq_getElem (by rw [b2.slen]; omega))
      rw [show 2 * i / 2 = i by omega, hi] at h1
      cases h1
      rw [show 2 * i % 2 = 0 by omega] at h4
      exact ⟨_, List.mem_append_left _ (List.getElem_mem _), by rw [h4]; rfl, by rw [h4]; rfl, by rw [h4]; rfl⟩
    · obtain ⟨s', h1, _, _, h4⟩ := b2.desc (2 * i + 1) _ (List.getElem?_eq_getElem (by rw [b2.slen]; omega))
      rw [show (2 * i + 1) / 2 = i by omega, hi] at h1
      cases h1
      rw [show (2 * i + 1) % 2 = 1 by omega] at h4
      exact ⟨_, List.mem_append_left _ (List.getElem_mem _), by rw [h4]; rfl, by rw [h4]; rfl, by rw [h4]; rfl⟩
  · refine ⟨⟨(ks.idxOf p : Nat), (ks.idxOf q : Nat), carryV (rateF x p.clock) (p.at_ - q.at_), -1⟩, List.mem_append_right _ ((hmem _).2 ⟨(p, ((ks.idxOf p : Nat) : Int)), (kvF_idx ks 0 b2.nodup _).2 ⟨hp, by simp⟩, (q, ((ks.idxOf q : Nat) : Int)), (kvF_idx ks 0 b2.nodup _).2 ⟨hq, by simp⟩, pairB_iff.2 ⟨hc, fun e => hne (idx_inj hp hq (by dsimp only at e; omega))⟩, rfl⟩), rfl, rfl, rfl⟩
end Go.Fw
/-
  The circle that the code finds, plain: it finds one exactly if one is below 0. No program in it.
-/
namespace Go.Fw
open Go.Gr
theorem idx_set' {α : Type} {l : List α} {i j : Int} {y : α} (h0 : 0 ≤ i) (h1 : i < (l.length : Int)) : idx (l.set (Int.toNat i) y) j = if j = i then some y else idx l j := by
  by_cases hj : 0 ≤ j
  · exact idx_set h0 h1 hj
  · rw [idx_neg hj, idx_neg hj, if_neg (by omega)]
abbrev Cz := Int × List Int × List GEdge
def pbody (e : GEdge) (z : Cz) : Option Cz :=
  (idx z.2.1 e.from_).bind fun x1 => (addI x1 e.cost).bind fun t1 => (idx z.2.1 e.to).bind fun x2 =>
  if t1 < x2 then (idx z.2.1 e.to).bind fun _ => (idx z.2.2 e.to).bind fun _ => some (e.to, z.2.1.set (Int.toNat e.to) t1, z.2.2.set (Int.toNat e.to) e) else some z
structure COk (n : Nat) (B : Int) (c : List Int) (b : List GEdge) (by_ : Int → Option GEdge) : Prop where
  l1 : c.length = n
  l2 : b.length = n
  bound : ∀ i x, idx c i = some x → -B ≤ x ∧ x ≤ B
  ghost : ∀ i e, by_ i = some e → idx b i = some e
abbrev cMa (c : List Int) (by_ : Int → Option GEdge) : Ma GEdge Int := ⟨fun i => idx c i, by_⟩
def okE (n : Nat) (e : GEdge) : Prop := (0 ≤ e.from_ ∧ e.from_ < (n : Int)) ∧ (0 ≤ e.to ∧ e.to < (n : Int)) ∧ -2000000000 ≤ e.cost ∧ e.cost ≤ 2000000000
theorem pbody_ok {n : Nat} {B : Int} {low : Int} {c : List Int} {b : List GEdge} {by_ : Int → Option GEdge} (h : COk n B c b by_) (hB : 0 ≤ B) (hB2 : B ≤ 4000000000000000000) {e : GEdge} (he : okE n e) :
    ∃ low' c' b' by', pbody e (low, c, b) = some (low', c', b') ∧ COk n (B + 2000000000) c' b' by' ∧ Push edgeP (cMa c by_) e (cMa c' by') ∧ ((low' = low ∧ cMa c' by' = cMa c by_ ∧ (cMa c by_).Sat edgeP e) ∨ (low' = e.to ∧ cMa c' by' ≠ cMa c by_)) := by
  obtain ⟨hf, ht, hc⟩ := he
  obtain ⟨x1, h1⟩ := idx_ok (l := c) hf.1 (by rw [h.l1]; exact hf.2)
  obtain ⟨x2, h2⟩ := idx_ok (l := c) ht.1 (by rw [h.l1]; exact ht.2)
  obtain ⟨y2, h3⟩ := idx_ok (l := b) ht.1 (by rw [h.l2]; exact ht.2)
  have hb := h.bound _ _ h1
  have hadd : addI x1 e.cost = some (x1 + e.cost) := if_pos (inI_iff.2 (by omega))
  unfold pbody
  dsimp only
  rw [h1, Option.bind_some, hadd, Option.bind_some, h2, Option.bind_some]
  by_cases hlt : x1 + e.cost < x2
  · rw [if_pos hlt, Option.bind_some, h3, Option.bind_some]
    have hl : (cMa c by_).Lowers edgeP e x1 := ⟨h1, fun b' hb' => by
      have : idx c e.to = some b' := hb'
      rw [h2] at this; cases this; exact hlt⟩
    have heq : (cMa c by_).put (edgeP.to e) (x1 + edgeP.co e) e = cMa (c.set (Int.toNat e.to) (x1 + e.cost)) (fun x => if x = e.to then some e else by_ x) := by
      unfold Ma.put cMa
      congr 1
      funext x
      rw [idx_set' ht.1 (by rw [h.l1]; exact ht.2)]
      rfl
    refine ⟨_, _, _, fun x => if x = e.to then some e else by_ x, rfl, ⟨by simp [h.l1], by simp [h.l2], fun i x hx => ?_, fun i e' he' => ?_⟩, heq ▸ Push.low (P := edgeP) x1 hl, .inr ⟨rfl, fun hh => ?_⟩⟩
    · rw [idx_set' ht.1 (by rw [h.l1]; exact ht.2)] at hx
      split at hx
      · cases hx; omega
      · have := h.bound i x hx; omega
    · rw [idx_set' ht.1 (by rw [h.l2]; exact ht.2)]
      split at he'
      · rename_i hi
        rw [if_pos hi]; exact he'
      · rename_i hi
        rw [if_neg hi]; exact h.ghost i e' he'
    · have h5 := congrArg (fun m => m.cost e.to) hh
      dsimp only [cMa] at h5
      rw [idx_set' ht.1 (by rw [h.l1]; exact ht.2), if_pos rfl, h2] at h5
      have := Option.some.inj h5
      omega
  · rw [if_neg hlt]
    have hs : (cMa c by_).Sat edgeP e := fun a ha => by
      have : idx c e.from_ = some a := ha
      rw [h1] at this
      cases this
      exact ⟨x2, h2, by show x2 ≤ x1 + e.cost; omega⟩
    exact ⟨low, c, b, by_, rfl, ⟨h.l1, h.l2, fun i x hx => by have := h.bound i x hx; omega, h.ghost⟩, .keep hs, .inl ⟨rfl, rfl, hs⟩⟩
theorem pround {n k : Nat} {st : List GEdge} : ∀ (l pre : List GEdge) (i B low : Int) (c : List Int) (b : List GEdge) (by_ : Int → Option GEdge) (T : Nat) (rd tm : Int → Nat), COk n B c b by_ → 0 ≤ B → B + 2000000000 * (l.length : Int) ≤ 4000000000000000000 → (∀ e ∈ l, okE n e) →
    Kept edgeP st k pre l T (cMa c by_) rd tm → (low = -1 ∨ ((0 ≤ low ∧ low < (n : Int)) ∧ rd low = k + 1)) →
    ∃ low' c' b' by' T' rd' tm', rangeL (α := GEdge) (S := Cz) (X := Cz) (fun _ e z => (pbody e z).bind fun z => some (Step.cont z)) (fun z => z) l i (low, c, b) = some (low', c', b') ∧ COk n (B + 2000000000 * (l.length : Int)) c' b' by' ∧
      Kept edgeP st k (pre ++ l) [] T' (cMa c' by') rd' tm' ∧ ((low = -1 ∧ low' = -1 ∧ cMa c' by' = cMa c by_ ∧ ∀ e ∈ l, (cMa c by_).Sat edgeP e) ∨ ((0 ≤ low' ∧ low' < (n : Int)) ∧ rd' low' = k + 1))
  | [], pre, i, B, low, c, b, by_, T, rd, tm, h, _, _, _, hk, hl => ⟨low, c, b, by_, T, rd, tm, rfl, by simpa using h, by rw [List.append_nil]; exact hk, hl.imp (fun h => ⟨h, h, rfl, fun _ h => by cases h⟩) id⟩
  | e :: l, pre, i, B, low, c, b, by_, T, rd, tm, h, hB, hB2, hl, hk, hlow => by
    rw [List.length_cons] at hB2
    have he := hl e (List.mem_cons_self ..)
    obtain ⟨low1, c1, b1, by1, k1, k2, k3, k4⟩ := pbody_ok (low := low) h hB (by omega) he
    obtain ⟨rd1, tm1, k5, k6, k7⟩ := hk.push k3
    have hlow1 : low1 = -1 ∨ ((0 ≤ low1 ∧ low1 < (n : Int)) ∧ rd1 low1 = k + 1) := by
      rcases k4 with ⟨rfl, _, _⟩ | ⟨rfl, hne⟩
      · rcases hlow with h | ⟨h, h'⟩
        · exact .inl h
        · exact .inr ⟨h, Nat.le_antisymm (k5.rdle _) (h' ▸ k6 _)⟩
      · exact .inr ⟨he.2.1, k7 hne⟩
    obtain ⟨low2, c2, b2, by2, T2, rd2, tm2, q1, q2, q3, q4⟩ := pround l (pre ++ [e]) (i + 1) (B + 2000000000) low1 c1 b1 by1 (T + 1) rd1 tm1 k2 (by omega) (by omega) (fun e he => hl e (List.mem_cons_of_mem _ he)) k5 hlow1
    refine ⟨low2, c2, b2, by2, T2, rd2, tm2, ?_, ?_, by rw [List.append_assoc] at q3; exact q3, ?_⟩
    · rw [rangeL, k1]
      exact q1
    · rw [List.length_cons]
      have e : B + 2000000000 * ((l.length + 1 : Nat) : Int) = B + 2000000000 + 2000000000 * (l.length : Int) := by omega
      rw [e]; exact q2
    · rcases q4 with ⟨r0, r1, r2, r3⟩ | r
      · rcases k4 with ⟨s1, s2, s3⟩ | ⟨s1, s2⟩
        · refine .inl ⟨s1 ▸ r0, r1, r2.trans s2, fun e' he' => ?_⟩
          rcases List.mem_cons.1 he' with rfl | he'
          · exact s3
          · exact s2 ▸ r3 e' he'
        · have := he.2.1.1
          omega
      · exact .inr r
/-- What stands after some rounds. -/
structure CRd (n : Nat) (st : List GEdge) (j : Nat) (c : List Int) (b : List GEdge) (low : Int) (by_ : Int → Option GEdge) (rd : Int → Nat) : Prop where
  ok : COk n (40000000000000 * (j : Int)) c b by_
  kept : ∃ T tm, Kept edgeP st j [] st T (cMa c by_) rd tm
  last : 1 ≤ j → (low = -1 ∧ ∀ e ∈ st, (cMa c by_).Sat edgeP e) ∨ ((0 ≤ low ∧ low < (n : Int)) ∧ rd low = j)
theorem prounds {n : Nat} {st : List GEdge} (hst : ∀ e ∈ st, okE n e) (hm : st.length ≤ 20000) (c0 : List Int) (b0 : List GEdge) (h0 : COk n 0 c0 b0 (fun _ => none)) (K : Nat) (hK : K ≤ 1001) :
    ∃ low c b by_ rd, rangeN (S := List Int × List GEdge × Int) (X := List GEdge × Int) (fun _ s => (rangeL (α := GEdge) (S := Cz) (X := Cz) (fun _ e z => (pbody e z).bind fun z => some (Step.cont z)) (fun z => z) st 0 (-1, s.1, s.2.1)).bind fun z => some (Step.cont (z.2.1, z.2.2, z.1))) (fun s => (s.2.1, s.2.2)) K 0 (c0, b0, -1) = some (b, low) ∧ CRd n st K c b low by_ rd := by
  obtain ⟨⟨c, b, low⟩, h1, by_, rd, h2⟩ := rangeN_inv (S := List Int × List GEdge × Int) (X := List GEdge × Int) (body := fun _ s => (rangeL (α := GEdge) (S := Cz) (X := Cz) (fun _ e z => (pbody e z).bind fun z => some (Step.cont z)) (fun z => z) st 0 (-1, s.1, s.2.1)).bind fun z => some (Step.cont (z.2.1, z.2.2, z.1))) (fin := fun s => (s.2.1, s.2.2)) (fun j s => ∃ by_ rd, CRd n st j s.1 s.2.1 s.2.2 by_ rd) K (c0, b0, -1) (fun j s hj hI => by
    obtain ⟨c, b, low⟩ := s
    obtain ⟨by_, rd, ⟨hok, ⟨T, tm, hk⟩, _⟩⟩ := hI
    dsimp only at hok hk ⊢
    obtain ⟨low', c', b', by', T', rd', tm', q1, q2, q3, q4⟩ := pround st [] 0 _ (-1) c b by_ T rd tm hok (by omega) (by omega) hst hk (.inl rfl)
    rw [q1, Option.bind_some]
    rw [List.nil_append] at q3
    refine ⟨_, rfl, by', rd', ⟨q2.l1, q2.l2, fun i x hx => by have := q2.bound i x hx; omega, q2.ghost⟩, ⟨T', tm', q3.turn⟩, fun _ => ?_⟩
    rcases q4 with ⟨_, r1, r2, r3⟩ | r
    · exact .inl ⟨r1, fun e he => r2 ▸ r3 e he⟩
    · exact .inr r) ⟨fun _ => none, fun _ => 0, by simpa using h0, ⟨1, fun _ => 0, Kept.start st _ fun _ => rfl⟩, fun h => absurd h (by decide)⟩
  exact ⟨low, c, b, by_, rd, h1, h2⟩
end Go.Fw
/-
  The circle that the code finds, plain: going back along the steps. No program in it.
-/
namespace Go.Fw
open Go.Gr
theorem pigeon (f : Nat → Int) (n : Nat) (hf : ∀ k, k ≤ n → 0 ≤ f k ∧ f k < (n : Int)) : ∃ i j, i < j ∧ j ≤ n ∧ f i = f j := by
  apply Classical.byContradiction
  intro hno
  have hnd : ((List.range (n + 1)).map f).Nodup := by
    unfold List.Nodup
    rw [List.pairwise_map]
    refine List.Pairwise.imp_of_mem (R := fun a b => a < b) (fun {a b} ha hb hlt he => ?_) List.pairwise_lt_range
    exact hno ⟨a, b, hlt, by have := List.mem_range.1 hb; omega, he⟩
  have := List.Nodup.length_le_of_subset hnd (l₂ := (List.range n).map fun i : Nat => (i : Int)) (fun y hy => by
    obtain ⟨k, hk, rfl⟩ := List.mem_map.1 hy
    have := hf k (by have := List.mem_range.1 hk; omega)
    exact List.mem_map.2 ⟨(f k).toNat, List.mem_range.2 (by omega), by omega⟩)
  simp at this
  omega
def PathL : Int → List GEdge → Int → Prop
  | s, [], t => s = t
  | s, e :: l, t => e.from_ = s ∧ PathL e.to l t
theorem PathL.snoc : ∀ {l : List GEdge} {s : Int} {e : GEdge}, PathL s l e.from_ → PathL s (l ++ [e]) e.to
  | [], _, _, h => ⟨h.symm, rfl⟩
  | _ :: l, _, _, h => ⟨h.1, PathL.snoc (l := l) h.2⟩
theorem PathL.way {st : List GEdge} : ∀ {l : List GEdge} {s t : Int}, PathL s l t → (∀ e ∈ l, e ∈ st) → Wy (edgeE st) s t (sumC edgeP l)
  | [], s, t, h, _ => by cases (show s = t from h); exact .nil _
  | e :: l, s, t, h, hs => by
    rw [sumC_cons]
    exact Wy.cons ⟨e, hs e (List.mem_cons_self ..), h.1, rfl, rfl⟩ (PathL.way h.2 fun e he => hs e (List.mem_cons_of_mem _ he))
theorem push_eq (a0 : Int) (st : List GEdge) (c : List Int) (b : List GEdge) : sight_push a0 st c b = (rangeL (α := GEdge) (S := Cz) (X := Cz) (fun _ e z => (pbody e z).bind fun z => some (Step.cont z)) (fun z => z) st 0 (-1, c, b)).bind fun z => some (z.2.1, z.2.2, z.1) := by
  unfold sight_push
  refine (congrArg (fun o => Option.bind o _) (rangeL_congr (body' := fun _ e z => (pbody e z).bind fun z => some (Step.cont z)) (fin' := fun z => z) (fun _ => rfl) st 0 (-1, c, b) fun i x s _ => ?_)).trans ?_
  · obtain ⟨z4, z5, z6⟩ := s
    unfold pbody
    dsimp only
    cases idx z5 x.from_ with
    | none => rfl
    | some a =>
      dsimp only [Option.bind_some]
      cases addI a x.cost with
      | none => rfl
      | some t =>
        dsimp only [Option.bind_some]
        cases idx z5 x.to with
        | none => rfl
        | some k =>
          dsimp only [Option.bind_some]
          by_cases h : t < k
          · simp only [h, decide_true, if_true]
            cases idx z6 x.to <;> rfl
          · simp only [h, decide_false, if_false, Bool.false_eq_true, Option.bind_some]
  · generalize rangeL (α := GEdge) (S := Cz) (X := Cz) _ _ st 0 (-1, c, b) = o
    cases o <;> rfl
/-- The steps back from a point: where each comes from. -/
def itr (nx : Int → Int) (v : Int) : Nat → Int
  | 0 => v
  | k + 1 => nx (itr nx v k)
theorem itr_add (nx : Int → Int) (v : Int) (a b : Nat) (h : itr nx v a = itr nx v b) : ∀ t, itr nx v (a + t) = itr nx v (b + t)
  | 0 => h
  | t + 1 => by rw [← Nat.add_assoc, ← Nat.add_assoc, itr, itr, itr_add nx v a b h t]
theorem itr_itr (nx : Int → Int) (v : Int) (a : Nat) : ∀ t, itr nx (itr nx v a) t = itr nx v (a + t)
  | 0 => rfl
  | t + 1 => by rw [itr, itr_itr nx v a t, ← Nat.add_assoc, itr]
def colN (ed : Int → GEdge) (g : Nat → Int) : Nat → List Int
  | 0 => []
  | k + 1 => colN ed g k ++ (if 0 ≤ (ed (g k)).number then [(ed (g k)).number] else [])
def edN (ed : Int → GEdge) (g : Nat → Int) : Nat → List GEdge
  | 0 => []
  | k + 1 => edN ed g k ++ [ed (g k)]
theorem colN_eq (ed : Int → GEdge) (g : Nat → Int) : ∀ k, colN ed g k = ((edN ed g k).filter fun e => decide (0 ≤ e.number)).map fun e => e.number
  | 0 => rfl
  | k + 1 => by
    rw [colN, edN, List.filter_append, List.map_append, colN_eq ed g k]
    by_cases h : 0 ≤ (ed (g k)).number <;> simp [h]
theorem colN_len (ed : Int → GEdge) (g : Nat → Int) : ∀ k, (colN ed g k).length ≤ k
  | 0 => Nat.le_refl _
  | k + 1 => by
    have := colN_len ed g k
    rw [colN, List.length_append]
    split <;> simp <;> omega
/-- All that the code's way back needs to know. -/
theorem back_loop {n : Nat} {b : List GEdge} {ed : Int → GEdge} {s3 : Int} (hn : n ≤ 1000) (hb : ∀ k, idx b (itr (fun v => (ed v).from_) s3 k) = some (ed (itr (fun v => (ed v).from_) s3 k))) (hex : ∃ L, 1 ≤ L ∧ L ≤ n ∧ itr (fun v => (ed v).from_) s3 L = s3) :
    ∃ L, 1 ≤ L ∧ L ≤ n ∧ itr (fun v => (ed v).from_) s3 L = s3 ∧
    loopR (S := Int × List Int) (X := List Int) (fun (s : Int × (List Int)) => match s with
          | (z15, z16) =>
            (idx b z15).bind (fun x2 =>
            ((
              (if (decide (0 ≤ x2.number)) = true then
                (appI z16 ([x2.number] : List Int)).bind (fun t8 =>
                some t8)
              else
                some z16)) : Option ((List Int))).bind (fun s5 =>
            (idx b z15).bind (fun x3 =>
            (if (x3.from_ == s3) = true then
              some (Step.done s5)
            else
              some (Step.cont (x3.from_, s5))))))) (s3, ([] : List Int)) = some (colN ed (itr (fun v => (ed v).from_) s3) L) := by
  obtain ⟨L0, h1, h2, h3⟩ := hex
  have key : ∀ (d k : Nat), k + d = L0 → (∀ j, 1 ≤ j → j ≤ k → itr (fun v => (ed v).from_) s3 j ≠ s3) → 1 ≤ d → ∃ L, 1 ≤ L ∧ L ≤ n ∧ itr (fun v => (ed v).from_) s3 L = s3 ∧
    loopR (S := Int × List Int) (X := List Int) (fun (s : Int × (List Int)) => match s with
          | (z15, z16) =>
            (idx b z15).bind (fun x2 =>
            ((
              (if (decide (0 ≤ x2.number)) = true then
                (appI z16 ([x2.number] : List Int)).bind (fun t8 =>
                some t8)
              else
                some z16)) : Option ((List Int))).bind (fun s5 =>
            (idx b z15).bind (fun x3 =>
            (if (x3.from_ == s3) = true then
              some (Step.done s5)
            else
              some (Step.cont (x3.from_, s5))))))) (itr (fun v => (ed v).from_) s3 k, colN ed (itr (fun v => (ed v).from_) s3) k) = some (colN ed (itr (fun v => (ed v).from_) s3) L) := by
    intro d
    induction d with
    | zero => intro k _ _ h; omega
    | succ d ih =>
      intro k hk hne _
      have hcol : ((if (decide (0 ≤ (ed (itr (fun v => (ed v).from_) s3 k)).number)) = true then (appI (colN ed (itr (fun v => (ed v).from_) s3) k) ([(ed (itr (fun v => (ed v).from_) s3 k)).number] : List Int)).bind (fun t8 => some t8) else some (colN ed (itr (fun v => (ed v).from_) s3) k)) : Option (List Int)) = some (colN ed (itr (fun v => (ed v).from_) s3) (k + 1)) := by
        have hlen := colN_len ed (itr (fun v => (ed v).from_) s3) k
        rw [colN]
        by_cases h0 : 0 ≤ (ed (itr (fun v => (ed v).from_) s3 k)).number
        · rw [if_pos (decide_eq_true h0), if_pos h0]
          unfold appI
          rw [if_pos (by simp; omega)]
          rfl
        · rw [if_neg (by simpa using h0), if_neg h0, List.append_nil]
      by_cases he : itr (fun v => (ed v).from_) s3 (k + 1) = s3
      · refine ⟨k + 1, by omega, by omega, he, loopR_done ?_⟩
        dsimp only
        rw [hb k, Option.bind_some, hcol, Option.bind_some, Option.bind_some, if_pos (show ((ed (itr (fun v => (ed v).from_) s3 k)).from_ == s3) = true from beq_iff_eq.2 he)]
      · have hd : 1 ≤ d := by
          rcases Nat.eq_zero_or_pos d with hd | hd
          · subst hd
            rw [show k + 1 = L0 by omega] at he
            exact absurd h3 he
          · exact hd
        obtain ⟨L, g1, g2, g3, g4⟩ := ih (k + 1) (by omega) (fun j j1 j2 => by
          rcases Nat.lt_or_ge k j with hj | hj
          · rw [show j = k + 1 by omega]; exact he
          · exact hne j j1 hj) hd
        refine ⟨L, g1, g2, g3, (loopR_cont _ ?_).trans g4⟩
        dsimp only
        rw [hb k, Option.bind_some, hcol, Option.bind_some, Option.bind_some, if_neg (show ¬ ((ed (itr (fun v => (ed v).from_) s3 k)).from_ == s3) = true from fun h => he (beq_iff_eq.1 h))]
        rfl
  exact key L0 0 (by omega) (fun j j1 j2 => by omega) h1
end Go.Fw
/-
  The circle that the code finds, plain: what it answers. No program in it.
-/
namespace Go.Fw
open Go.Gr
theorem sumC_app (a b : List GEdge) : sumC edgeP (a ++ b) = sumC edgeP a + sumC edgeP b := by
  induction a with
  | nil => rw [List.nil_append, sumC_nil, Int.zero_add]
  | cons e a ih => rw [List.cons_append, sumC_cons, sumC_cons, ih, Int.add_assoc]
theorem sumC_rev (a : List GEdge) : sumC edgeP a.reverse = sumC edgeP a := by
  induction a with
  | nil => rfl
  | cons e a ih => rw [List.reverse_cons, sumC_app, sumC_cons, sumC_cons, ih, sumC_nil]; omega
theorem sumC_nonneg : ∀ (l : List GEdge), (∀ e ∈ l, 0 ≤ e.cost) → 0 ≤ sumC edgeP l
  | [], _ => Int.le_refl _
  | e :: l, h => by
    have h1 := sumC_nonneg l fun e he => h e (List.mem_cons_of_mem _ he)
    have h2 := h e (List.mem_cons_self ..)
    rw [sumC_cons]
    show 0 ≤ e.cost + _
    omega
theorem rep_idx {α : Type} {n : Nat} {a y : α} {i : Int} (hy : idx (List.replicate n a) i = some y) : y = a := by
  obtain ⟨_, _, h⟩ := idx_some hy
  rw [List.getElem?_replicate] at h
  split at h
  · exact (Option.some.inj h).symm
  · cases h
def numsOf (l : List GEdge) : List Int := (l.filter fun e => decide (0 ≤ e.number)).map fun e => e.number
/-- A circle of steps below 0. -/
structure Bad (st path : List GEdge) (s : Int) : Prop where
  way : PathL s path s
  mem : ∀ e ∈ path, e ∈ st
  neg : sumC edgeP path < 0
  len : path.length ≤ 1000
theorem Bad.not {st path : List GEdge} {s : Int} (h : Bad st path s) : ¬ NoNeg (edgeE st) := fun hn => by
  have := hn _ _ (PathL.way h.way h.mem)
  have := h.neg
  omega
theorem circle_spec {kv : List (GPoint × Int)} {st : List GEdge} (ho : okSteps kv.length st = true) (hlen : st.length ≤ 20000) (hkeys : (st.map edgeKey).Nodup) (hneg : ∀ e ∈ st, e.number < 0 → 0 ≤ e.cost) :
    (circleG kv st = some (true, []) ∧ NoNeg (edgeE st)) ∨ ∃ s path, circleG kv st = some (false, numsOf path) ∧ numsOf path ≠ [] ∧ Bad st path s := by
  obtain ⟨h1, _, h3⟩ := okSteps_iff.1 ho
  have pm := (srtOf_facts edgeC edge_swo st).1
  have hst : ∀ e ∈ sortEdges st, okE kv.length e := fun e he => h3 e (pm.mem_iff.1 he)
  have hsl : (sortEdges st).length ≤ 20000 := by rw [show (sortEdges st).length = st.length from pm.length_eq]; exact hlen
  have hso : sight_graph_sorted kv st = some (sortEdges st) := by
    unfold sight_graph_sorted slices_Clone_step appI srtI
    rw [List.nil_append, if_pos (by simp only [List.length_nil]; omega), Option.bind_some, Option.bind_some, if_pos (by omega)]
    rfl
  have m1 : makI (0 : Int) ((kv.length : Nat) : Int) = some (List.replicate kv.length 0) := by unfold makI; rw [if_pos (by omega)]; simp
  have m2 : makI (GEdge.mk 0 0 0 0) ((kv.length : Nat) : Int) = some (List.replicate kv.length ⟨0, 0, 0, 0⟩) := by unfold makI; rw [if_pos (by omega)]; simp
  have h0 : COk kv.length 0 (List.replicate kv.length (0 : Int)) (List.replicate kv.length (⟨0, 0, 0, 0⟩ : GEdge)) (fun _ => none) :=
    ⟨by simp, by simp, fun i x hx => by have := rep_idx hx; omega, fun i e he => by cases he⟩
  obtain ⟨low, c, b, by_, rd, q1, ⟨hok, ⟨T, tm, hk⟩, hlast⟩⟩ := prounds hst hsl _ _ h0 (kv.length + 1) (by omega)
  unfold circleG
  rw [if_pos hkeys]
  have hround : ∀ f : List GEdge × Int → Option (Bool × List Int), ((chkI (((kv.length : Nat) : Int) + 1) (rangeN (S := (List Int) × (List GEdge) × Int) (X := (List GEdge) × Int) (fun ik1 s =>
      match s with
        | (z4, z5, z6) =>
          (sight_push z6 (sortEdges st) z4 z5).bind (fun o => match o with
            | (t5, t6, t7) =>
              some (Step.cont (t5, t6, t7)))) (fun s => match s with | (z4, z5, z6) => (z5, z6)) (Int.toNat (((kv.length : Nat) : Int) + 1)) 0 (List.replicate kv.length (0 : Int), List.replicate kv.length (⟨0, 0, 0, 0⟩ : GEdge), (-1)))).bind f) = f (b, low) := by
    intro f
    refine bindS ?_
    unfold chkI
    rw [if_pos (inI_iff.2 (by omega)), show Int.toNat (((kv.length : Nat) : Int) + 1) = kv.length + 1 by omega]
    refine (rangeN_congr (body' := fun _ s => (rangeL (α := GEdge) (S := Cz) (X := Cz) (fun _ e z => (pbody e z).bind fun z => some (Step.cont z)) (fun z => z) (sortEdges st) 0 (-1, s.1, s.2.1)).bind fun z => some (Step.cont (z.2.1, z.2.2, z.1))) (fin' := fun s => (s.2.1, s.2.2)) (fun _ => rfl) _ _ _ fun j s _ _ => ?_).trans q1
    obtain ⟨z4, z5, z6⟩ := s
    dsimp only
    rw [push_eq]
    generalize rangeL (α := GEdge) (S := Cz) (X := Cz) _ _ (sortEdges st) 0 (-1, z4, z5) = o
    cases o <;> rfl
  unfold sight_graph_circle
  rw [m1, Option.bind_some, m2, Option.bind_some, hso, Option.bind_some, addI_ok (by omega), Option.bind_some, hround]
  dsimp only
  rcases hlast (by omega) with ⟨rfl, hsat⟩ | ⟨hr, hrd⟩
  · refine .inl ⟨rfl, ?_⟩
    rw [← stepE_perm pm]
    refine noNeg_of_potential (fun i => (idx c i).getD 0) fun u v w ⟨e, he, e1, e2, e3⟩ => ?_
    subst e1; subst e2; subst e3
    have hf := (hst e he).1
    obtain ⟨a, ha⟩ := idx_ok (l := c) hf.1 (by rw [hok.l1]; exact hf.2)
    obtain ⟨b', hb', hle⟩ := hsat e he a ha
    have hb2 : idx c e.to = some b' := hb'
    show (idx c e.to).getD 0 ≤ (idx c e.from_).getD 0 + e.cost
    rw [hb2, ha]
    exact hle
  · right
    rw [if_neg (by rw [decide_eq_true_eq]; omega)]
    let ed : Int → GEdge := fun v => (by_ v).getD ⟨0, 0, 0, 0⟩
    let nx : Int → Int := fun v => (ed v).from_
    have hed : ∀ v s, by_ v = some s → ed v = s := fun v s h => by show (by_ v).getD _ = s; rw [h]; rfl
    have hk1 : ∀ k, k ≤ kv.length → kv.length + 1 ≤ rd (itr nx low k) + k ∧ 0 ≤ itr nx low k ∧ itr nx low k < (kv.length : Int) := by
      intro k
      induction k with
      | zero => intro _; exact ⟨by show _ ≤ rd low + 0; omega, hr⟩
      | succ k ih =>
        intro hle
        obtain ⟨i1, i2⟩ := ih (by omega)
        obtain ⟨s, hs⟩ := hk.some_ (itr nx low k) (by omega)
        have hp := hk.pred _ _ hs
        obtain ⟨_, hmem, _⟩ := hk.val _ _ hs
        have e1 : itr nx low (k + 1) = s.from_ := by show (ed (itr nx low k)).from_ = _; rw [hed _ _ hs]
        rw [e1]
        have : rd (itr nx low k) ≤ rd s.from_ + 1 := hp
        exact ⟨by omega, (hst s hmem).1⟩
    obtain ⟨i, j, hij, hjn, hitr⟩ := pigeon (itr nx low) kv.length fun k hk' => (hk1 k hk').2
    have hper := itr_add nx low i j hitr
    have hby : ∀ k, ∃ s, by_ (itr nx low k) = some s := by
      intro k
      induction k using Nat.strongRecOn with
      | _ k ih =>
        rcases Nat.lt_or_ge kv.length k with hgt | hle
        · have := hper (k - j)
          rw [show j + (k - j) = k by omega] at this
          rw [← this]
          exact ih _ (by omega)
        · exact hk.some_ _ (by have := (hk1 k hle).1; omega)
    have hg : ∀ k, by_ (itr nx (itr nx low kv.length) k) = some (ed (itr nx (itr nx low kv.length) k)) := by
      intro k
      rw [itr_itr]
      obtain ⟨s, hs⟩ := hby (kv.length + k)
      rw [hs, hed _ _ hs]
    have hex : itr nx (itr nx low kv.length) (j - i) = itr nx low kv.length := by
      rw [itr_itr]
      have := hper (kv.length - i)
      rw [show i + (kv.length - i) = kv.length by omega] at this
      rw [show kv.length + (j - i) = j + (kv.length - i) by omega]
      exact this.symm
    obtain ⟨L, l1, l2, l3, l4⟩ := back_loop (n := kv.length) (b := b) (ed := ed) (s3 := itr nx low kv.length) h1 (fun k => hok.ghost _ _ (hg k)) ⟨j - i, by omega, by omega, hex⟩
    have hfirst : (chkI ((kv.length : Nat) : Int) (rangeN (S := Int) (X := Int) (fun ik2 z11 =>
          (idx b z11).bind (fun x1 =>
          some (Step.cont x1.from_))) (fun z11 => z11) (Int.toNat ((kv.length : Nat) : Int)) 0 low)) = some (itr nx low kv.length) := by
      unfold chkI
      rw [if_pos (inI_iff.2 (by omega)), Int.toNat_natCast]
      obtain ⟨z, z1, z2⟩ := rangeN_inv (S := Int) (X := Int) (body := fun ik2 z11 => (idx b z11).bind (fun x1 => some (Step.cont x1.from_))) (fin := fun z => z) (fun k z => z = itr nx low k) kv.length low (fun k z hk' hz => by
        subst hz
        obtain ⟨s, hs⟩ := hby k
        refine ⟨itr nx low (k + 1), ?_, rfl⟩
        rw [hok.ghost _ _ hs, Option.bind_some]
        show _ = some (Step.cont (ed (itr nx low k)).from_)
        rw [hed _ _ hs]) rfl
      rw [z1, z2]
    have hval : ∀ k, (ed (itr nx (itr nx low kv.length) k)).to = itr nx (itr nx low kv.length) k ∧ ed (itr nx (itr nx low kv.length) k) ∈ sortEdges st := fun k => by
      obtain ⟨v1, v2, _⟩ := hk.val _ _ (hg k)
      exact ⟨v1, v2⟩
    have hpath : ∀ k, PathL (itr nx (itr nx low kv.length) k) (edN ed (itr nx (itr nx low kv.length)) k).reverse (itr nx low kv.length) := by
      intro k
      induction k with
      | zero => rfl
      | succ k ih =>
        rw [edN, List.reverse_append]
        refine ⟨rfl, ?_⟩
        rw [(hval k).1]
        exact ih
    have hback : ∀ k, Back edgeP (cMa c by_) (itr nx low kv.length) (itr nx (itr nx low kv.length) k) (edN ed (itr nx (itr nx low kv.length)) k) := by
      intro k
      induction k with
      | zero => exact .nil _
      | succ k ih => exact ih.append (.cons (hg k) (.nil _))
    have hmem : ∀ k, ∀ e ∈ edN ed (itr nx (itr nx low kv.length)) k, e ∈ st := by
      intro k
      induction k with
      | zero => intro e he; cases he
      | succ k ih =>
        intro e he
        rcases List.mem_append.1 he with he | he
        · exact ih e he
        · rw [List.mem_singleton.1 he]
          exact pm.mem_iff.1 (hval k).2
    have helen : ∀ k, (edN ed (itr nx (itr nx low kv.length)) k).length = k := by
      intro k
      induction k with
      | zero => rfl
      | succ k ih => rw [edN, List.length_append, ih]; rfl
    have hneg' : sumC edgeP (edN ed (itr nx (itr nx low kv.length)) L) < 0 := by
      have hb := hback L
      have l3' : itr nx (itr nx low kv.length) L = itr nx low kv.length := l3
      rw [l3'] at hb
      refine (hk.circle hb fun h => ?_).2
      have := helen L
      rw [h] at this
      simp at this
      omega
    have hcol : (colN ed (itr nx (itr nx low kv.length)) L).reverse = numsOf (edN ed (itr nx (itr nx low kv.length)) L).reverse := by
      rw [colN_eq]
      unfold numsOf
      rw [List.filter_reverse, List.map_reverse]
    have hne : numsOf (edN ed (itr nx (itr nx low kv.length)) L).reverse ≠ [] := by
      intro h
      have hz : ∀ e ∈ edN ed (itr nx (itr nx low kv.length)) L, 0 ≤ e.cost := fun e he => by
        apply hneg e (hmem L e he)
        apply Classical.byContradiction
        intro hn
        have : e.number ∈ numsOf (edN ed (itr nx (itr nx low kv.length)) L).reverse :=
          List.mem_map.2 ⟨e, List.mem_filter.2 ⟨List.mem_reverse.2 he, by simpa using hn⟩, rfl⟩
        rw [h] at this
        cases this
      have := sumC_nonneg _ hz
      omega
    refine ⟨itr nx low kv.length, (edN ed (itr nx (itr nx low kv.length)) L).reverse, ?_, hne, ?_, fun e he => hmem L e (List.mem_reverse.1 he), by rw [sumC_rev]; exact hneg', by rw [List.length_reverse, helen]; omega⟩
    · refine (bindS hfirst).trans ?_
      refine (bindS l4).trans ?_
      unfold turnL
      rw [if_pos (by have := colN_len ed (itr nx (itr nx low kv.length)) L; exact Nat.le_trans this (by omega)), Option.bind_some]
      rw [show (colN ed (itr (fun v => (ed v).from_) (itr nx low kv.length)) L).reverse = _ from hcol]
      cases hn : numsOf (edN ed (itr nx (itr nx low kv.length)) L).reverse with
      | nil => exact absurd hn hne
      | cons a l => rfl
    · have := hpath L
      have l3' : itr nx (itr nx low kv.length) L = itr nx low kv.length := l3
      rw [l3'] at this
      exact this
end Go.Fw
namespace Go.Gr
variable {π : Type} {E E' : π → π → Int → Prop}
/-- Each step of E has a way of E' that costs no more. -/
def Dom (E E' : π → π → Int → Prop) : Prop := ∀ p q c, E p q c → ∃ d, d ≤ c ∧ Wy E' p q d
theorem Dom.sub (h : ∀ p q c, E p q c → E' p q c) : Dom E E' := fun p q c e => ⟨c, Int.le_refl _, Wy.one (h p q c e)⟩
theorem Dom.way (h : Dom E E') {p q : π} {c : Int} (hw : Wy E p q c) : ∃ d, d ≤ c ∧ Wy E' p q d := by
  induction hw with
  | nil p => exact ⟨0, Int.le_refl _, .nil p⟩
  | cons e _ ih =>
    obtain ⟨d1, h1, h2⟩ := h _ _ _ e
    obtain ⟨d2, h3, h4⟩ := ih
    exact ⟨_, by omega, h2.append h4⟩
theorem Dom.trans {E2 : π → π → Int → Prop} (h : Dom E E') (k : Dom E' E2) : Dom E E2 := fun p q c e => by
  obtain ⟨d, h1, h2⟩ := h p q c e
  obtain ⟨d2, h3, h4⟩ := k.way h2
  exact ⟨d2, by omega, h4⟩
theorem Dom.noNeg (h : Dom E E') (hn : NoNeg E') : NoNeg E := fun p c hw => by
  obtain ⟨d, h1, h2⟩ := h.way hw
  have := hn p d h2
  omega
theorem Dom.least (h : Dom E E') (k : Dom E' E) {p q : π} {c : Int} (hl : Least E p q c) : Least E' p q c := by
  obtain ⟨d, h1, h2⟩ := h.way hl.1
  obtain ⟨d2, h3, h4⟩ := k.way h2
  have := hl.2 _ h4
  refine ⟨h2.of (by omega), fun d' hd => ?_⟩
  obtain ⟨d3, h5, h6⟩ := k.way hd
  have := hl.2 _ h6
  omega
theorem Dom.noway (k : Dom E' E) {p q : π} (h : ∀ c, ¬ Wy E p q c) : ∀ c, ¬ Wy E' p q c := fun c hw => by
  obtain ⟨d, _, h2⟩ := k.way hw
  exact h d h2
open Classical in
/-- The least cost, if there is one. -/
noncomputable def leastO (E : π → π → Int → Prop) (p q : π) : Option Int := if h : ∃ c, Least E p q c then some h.choose else none
theorem leastO_some {p q : π} {c : Int} : leastO E p q = some c ↔ Least E p q c := by
  unfold leastO
  constructor
  · intro h
    split at h
    · rename_i hx
      cases h
      exact hx.choose_spec
    · cases h
  · intro h
    have hx : ∃ c, Least E p q c := ⟨c, h⟩
    rw [dif_pos hx]
    exact congrArg some (hx.choose_spec.uniq h)
theorem leastO_none {p q : π} (h : ∀ c, ¬ Wy E p q c) : leastO E p q = none := by
  unfold leastO
  rw [dif_neg]
  rintro ⟨c, hc⟩
  exact h c hc.1
theorem leastO_none_iff {p q : π} : leastO E p q = none ↔ ¬ ∃ c, Least E p q c := by
  unfold leastO
  constructor
  · intro h hx; rw [dif_pos hx] at h; cases h
  · intro h; rw [dif_neg h]
theorem leastO_congr {π' : Type} {F : π' → π' → Int → Prop} {p q : π} {p' q' : π'} (h : ∀ c, Least E p q c ↔ Least F p' q' c) : leastO E p q = leastO F p' q' := by
  cases hc : leastO E p q with
  | some c => exact (leastO_some.2 ((h c).1 (leastO_some.1 hc))).symm
  | none =>
    symm
    rw [leastO_none_iff] at hc ⊢
    rintro ⟨c, hx⟩
    exact hc ⟨c, (h c).2 hx⟩
theorem Dom.leastO (h : Dom E E') (k : Dom E' E) (p q : π) : leastO E p q = Go.Gr.leastO E' p q := leastO_congr fun _ => ⟨fun hl => h.least k hl, fun hl => k.least h hl⟩
/-- Steps that are shifted by a potential. -/
theorem shift_way (δ : π → Int) (h : ∀ p q c, E p q c → E' p q (c + δ q - δ p)) {p q : π} {c : Int} (hw : Wy E p q c) : Wy E' p q (c + δ q - δ p) := by
  induction hw with
  | nil p => exact (Wy.nil p).of (by omega)
  | cons e _ ih => exact (Wy.cons (h _ _ _ e) ih).of (by omega)
theorem shift_way' (δ : π → Int) (h : ∀ p q c, E' p q c → E p q (c - δ q + δ p)) {p q : π} {c : Int} (hw : Wy E' p q c) : Wy E p q (c - δ q + δ p) := by
  induction hw with
  | nil p => exact (Wy.nil p).of (by omega)
  | cons e _ ih => exact (Wy.cons (h _ _ _ e) ih).of (by omega)
theorem shift_noNeg (δ : π → Int) (h : ∀ p q c, E' p q c → E p q (c - δ q + δ p)) (hn : NoNeg E) : NoNeg E' := fun p c hw => by
  have := hn p _ (shift_way' δ h hw)
  omega
theorem shift_least (δ : π → Int) (h : ∀ p q c, E p q c → E' p q (c + δ q - δ p)) (k : ∀ p q c, E' p q c → E p q (c - δ q + δ p)) {p q : π} (c : Int) : Least E p q c ↔ Least E' p q (c + δ q - δ p) := by
  constructor
  · rintro ⟨h1, h2⟩
    refine ⟨shift_way δ h h1, fun d hd => ?_⟩
    have := h2 _ (shift_way' δ k hd)
    omega
  · rintro ⟨h1, h2⟩
    refine ⟨(shift_way' δ k h1).of (by omega), fun d hd => ?_⟩
    have := h2 _ (shift_way δ h hd)
    omega
/-- Least costs of both ways add up to no less than nothing; and a way over a further point is no shorter. -/
theorem least_tri {p q r : π} {a b c : Int} (h1 : Least E p r c) (h2 : Wy E p q a) (h3 : Wy E q r b) : c ≤ a + b := h1.2 _ (h2.append h3)
end Go.Gr
namespace Go.Fw
open Go.Gr
abbrev ENx (x : GNet) : GPoint → GPoint → Int → Prop := EN (rateF x) x.Sights
abbrev EVx (x : GNet) (ks : List GPoint) : GPoint → GPoint → Int → Prop := EV (rateF x) x.Sights (· ∈ ks)
theorem carryV_in {r d : Int} (hr : 0 ≤ r ∧ r ≤ 1000000) (hd : -1000000000000 ≤ d ∧ d ≤ 1000000000000) : 0 ≤ carryV r d ∧ carryV r d ≤ 1000000001 := by
  have := carry_bnd hr (maxabs hd)
  unfold carryV absI
  omega
section
variable {x : GNet} {more ks : List GPoint} {st : List GEdge}
theorem GSpec.rates (hx : vNet x = true) : ∀ c, 0 ≤ rateF x c := fun c => (rateF_in hx c).1
theorem GSpec.ok (h : GSpec x more ks st) (hx : vNet x = true) : okSteps (kvF 0 ks).length st = true := by
  rw [okSteps_iff, kvF_len]
  have hl := h.len
  have hs := h.slen
  refine ⟨by omega, by omega, fun e he => ?_⟩
  obtain ⟨p, hp, q, hq, d1, d2, d3⟩ := h.desc e he
  have hp' := List.idxOf_lt_length_iff.2 hp
  have hq' := List.idxOf_lt_length_iff.2 hq
  refine ⟨by omega, by omega, ?_⟩
  rcases d3 with ⟨j, s, _, g2, g3⟩ | ⟨_, _, g3, _⟩
  · obtain ⟨_, _, _, _, _, _, _, l1, l2, l3⟩ := vSight_iff.1 ((vNet_iff.1 hx).2.2.2.2.2 s (List.mem_of_getElem? g2))
    unfold stp at g3
    split at g3 <;> simp only [Prod.mk.injEq] at g3 <;> omega
  · obtain ⟨_, _, p3, p4⟩ := h.good p hp
    obtain ⟨_, _, q3, q4⟩ := h.good q hq
    have := carryV_in (rateF_in hx p.clock) (d := p.at_ - q.at_) (by omega)
    omega
theorem GSpec.numNeg (h : GSpec x more ks st) (hx : vNet x = true) : ∀ e ∈ st, e.number < 0 → 0 ≤ e.cost := fun e he hn => by
  obtain ⟨p, hp, q, hq, _, _, d3⟩ := h.desc e he
  rcases d3 with ⟨j, s, g1, _, _⟩ | ⟨_, _, g3, _⟩
  · omega
  · rw [g3]; exact carry_nonneg (GSpec.rates hx _) _
theorem GSpec.toIdx (h : GSpec x more ks st) {p q : GPoint} {c : Int} (hw : Wy (EVx x ks) p q c) : Wy (edgeE st) ((ks.idxOf p : Nat) : Int) ((ks.idxOf q : Nat) : Int) c := by
  induction hw with
  | nil p => exact .nil _
  | @cons p p1 q c d e _ ih =>
    obtain ⟨hp, hq, ⟨h1, h2⟩ | hs⟩ := e
    · by_cases hpq : p = p1
      · subst hpq
        rw [Int.sub_self, carry_zero] at h2
        exact ih.of (by omega)
      · obtain ⟨e, he, e1, e2, e3⟩ := h.carries p hp p1 hq hpq h1
        exact Wy.cons ⟨e, he, e1, e2, e3.trans h2.symm⟩ ih
    · obtain ⟨e, he, e1, e2, e3⟩ := h.sights _ _ _ hs
      exact Wy.cons ⟨e, he, e1, e2, e3⟩ ih
theorem GSpec.ofIdx (h : GSpec x more ks st) {i j c : Int} (hw : Wy (edgeE st) i j c) : ∀ p ∈ ks, ((ks.idxOf p : Nat) : Int) = i → ∃ q ∈ ks, ((ks.idxOf q : Nat) : Int) = j ∧ Wy (EVx x ks) p q c := by
  induction hw with
  | nil i => intro p hp hi; exact ⟨p, hp, hi, .nil _⟩
  | cons e _ ih =>
    intro p hp hi
    obtain ⟨s, hs, h1, h2, h3⟩ := e
    obtain ⟨p', hp', q', hq', d1, d2, d3⟩ := h.desc s hs
    have h1' : s.from_ = _ := h1
    have h2' : s.to = _ := h2
    have hpp : p = p' := idx_inj hp hp' (by omega)
    subst hpp
    obtain ⟨q, hq, k1, k2⟩ := ih q' hq' (by omega)
    refine ⟨q, hq, k1, Wy.cons ⟨hp, hq', ?_⟩ k2⟩
    rw [← h3]
    rcases d3 with ⟨j, s', _, g2, g3⟩ | ⟨_, g2, g3, _⟩
    · right
      have := stp_stepS (List.mem_of_getElem? g2) (j % 2 == 0)
      rw [g3] at this
      exact this
    · exact .inl ⟨g2, g3⟩
theorem GSpec.wy (h : GSpec x more ks st) {p q : GPoint} (hp : p ∈ ks) (hq : q ∈ ks) (c : Int) : Wy (edgeE st) ((ks.idxOf p : Nat) : Int) ((ks.idxOf q : Nat) : Int) c ↔ Wy (EVx x ks) p q c := by
  refine ⟨fun hw => ?_, h.toIdx⟩
  obtain ⟨q', hq', h1, h2⟩ := h.ofIdx hw p hp rfl
  rw [idx_inj hq hq' (by omega)]
  exact h2
theorem GSpec.noNeg (h : GSpec x more ks st) (hx : vNet x = true) : NoNeg (edgeE st) ↔ NoNeg (ENx x) := by
  rw [← noNeg_iff (GSpec.rates hx) h.covers]
  constructor
  · exact fun hn p c hw => hn _ _ (h.toIdx hw)
  · intro hn i c hw
    cases hw with
    | nil => exact Int.le_refl _
    | cons e hw' =>
      obtain ⟨s, hs, h1, _⟩ := id e
      obtain ⟨p, hp, _, _, d1, _, _⟩ := h.desc s hs
      have h1' : s.from_ = _ := h1
      obtain ⟨q, hq, k1, k2⟩ := h.ofIdx (Wy.cons e hw') p hp (by omega)
      rw [← idx_inj hp hq (by omega)] at k2
      exact hn p _ k2
theorem GSpec.least (h : GSpec x more ks st) (hx : vNet x = true) {p q : GPoint} (hp : p ∈ ks) (hq : q ∈ ks) (c : Int) : Least (edgeE st) ((ks.idxOf p : Nat) : Int) ((ks.idxOf q : Nat) : Int) c ↔ Least (ENx x) p q c := by
  rw [← least_iff (GSpec.rates hx) h.covers hp hq]
  unfold Least
  simp only [h.wy hp hq]
theorem GSpec.noway (h : GSpec x more ks st) (hx : vNet x = true) {p q : GPoint} (hp : p ∈ ks) (hq : q ∈ ks) : (∀ c, ¬ Wy (edgeE st) ((ks.idxOf p : Nat) : Int) ((ks.idxOf q : Nat) : Int) c) ↔ ∀ c, ¬ Wy (ENx x) p q c := by
  rw [← noway_iff (GSpec.rates hx) h.covers hp hq]
  simp only [h.wy hp hq]
theorem GSpec.get (_ : GSpec x more ks st) {p : GPoint} (hp : p ∈ ks) : mget (kvF 0 ks) p = some ((ks.idxOf p : Nat) : Int) ∧ 0 ≤ ((ks.idxOf p : Nat) : Int) ∧ ((ks.idxOf p : Nat) : Int) < ((kvF 0 ks).length : Int) := by
  rw [kvF_get, if_pos hp, kvF_len, Nat.zero_add]
  have := List.idxOf_lt_length_iff.2 hp
  exact ⟨rfl, by omega, by omega⟩
theorem GSpec.leastG (h : GSpec x more ks st) (hx : vNet x = true) (hn : NoNeg (ENx x)) {p q : GPoint} (hp : p ∈ ks) (hq : q ∈ ks) :
    ∃ c k, Go.Fw.leastG (kvF 0 ks) st p q = some (c, k) ∧ (-300000000000000000 ≤ c ∧ c ≤ 300000000000000000) ∧ ((k = true ∧ leastO (ENx x) p q = some c) ∨ (k = false ∧ leastO (ENx x) p q = none ∧ ∀ d, ¬ Wy (ENx x) p q d)) := by
  obtain ⟨g1, g2⟩ := h.get hp
  obtain ⟨g3, g4⟩ := h.get hq
  have hn' := (h.noNeg hx).2 hn
  obtain ⟨c, k, e1, e2, e3, e4⟩ := least_spec g1 g3 g2 g4 (h.ok hx) hn'
  have hl := h.len
  rw [kvF_len] at e2
  refine ⟨c, k, ?_, by omega, ?_⟩
  · unfold Go.Fw.leastG
    rw [if_pos ⟨h.ok hx, hn', ⟨_, g1, g2⟩, ⟨_, g3, g4⟩⟩]
    exact e1
  · cases k with
    | true => exact .inl ⟨rfl, leastO_some.2 ((h.least hx hp hq c).1 (e3 rfl))⟩
    | false =>
      have f2 := (h.noway hx hp hq).1 (e4 rfl).2
      exact .inr ⟨rfl, leastO_none f2, f2⟩
theorem GSpec.circle (h : GSpec x more ks st) (hx : vNet x = true) : (circleG (kvF 0 ks) st = some (true, []) ∧ NoNeg (ENx x)) ∨ ∃ s path, circleG (kvF 0 ks) st = some (false, numsOf path) ∧ numsOf path ≠ [] ∧ Bad st path s ∧ ¬ NoNeg (ENx x) := by
  rcases circle_spec (h.ok hx) h.slen h.keys (h.numNeg hx) with ⟨h1, h2⟩ | ⟨s, path, h1, h2, h3⟩
  · exact .inl ⟨h1, (h.noNeg hx).1 h2⟩
  · exact .inr ⟨s, path, h1, h2, h3, fun hn => h3.not ((h.noNeg hx).2 hn)⟩
end
end Go.Fw
namespace Go.Fw
open Go.Gr
/-- A least cost is there and small, or there is no way. -/
theorem least_or {x : GNet} (hx : vNet x = true) (hn : NoNeg (ENx x)) {p q : GPoint} (hp : Good x p) (hq : Good x q) :
    (∃ c, Least (ENx x) p q c ∧ -300000000000000000 ≤ c ∧ c ≤ 300000000000000000) ∨ (leastO (ENx x) p q = none ∧ ∀ c, ¬ Wy (ENx x) p q c) := by
  obtain ⟨ks, st, _, h⟩ := graph_spec hx (more := [p, q]) (fun r hr => by rcases List.mem_cons.1 hr with rfl | hr; exact hp; rw [List.mem_singleton.1 hr]; exact hq) (by simp)
  obtain ⟨c, k, _, hb, ⟨_, h2⟩ | ⟨_, h2⟩⟩ := h.leastG hx hn (h.sub p (by simp)) (h.sub q (by simp))
  · exact .inl ⟨c, leastO_some.1 h2, hb⟩
  · exact .inr h2
open Classical in
noncomputable def consF (x : GNet) : Bool × Int := if vNet x = true then (decide (NoNeg (ENx x)), 0) else (false, 1)
theorem eta (x : GNet) : GNet.mk x.Rates x.Sights = x := rfl
theorem Consistent_eq (x : GNet) : sight_Consistent x = some (consF x) := by
  unfold sight_Consistent consF
  rw [eta, valid_eq, Option.bind_some]
  cases hx : vNet x with
  | false => rfl
  | true =>
    obtain ⟨ks, st, h1, h⟩ := graph_spec hx (more := []) (fun r hr => by cases hr) (by simp)
    rw [if_neg (by decide), if_pos rfl]
    refine (bindS h1).trans ?_
    rcases h.circle hx with ⟨h2, h3⟩ | ⟨s, path, h2, _, _, h3⟩
    · refine (bindS h2).trans ?_
      simp [h3]
    · refine (bindS h2).trans ?_
      simp [h3]
def inCl (x : GNet) (c : Int) : Bool := decide (0 ≤ c) && decide (c < (x.Rates.length : Int))
theorem inCl_iff {x : GNet} {c : Int} : inCl x c = true ↔ 0 ≤ c ∧ c < (x.Rates.length : Int) := by
  unfold inCl
  rw [Bool.and_eq_true, decide_eq_true_eq, decide_eq_true_eq]
theorem clock_eq (x : GNet) (l : List Int) : sight_clock x l = some (if vNet x = true then (if l.all (inCl x) = true then 0 else 5) else 1) := by
  unfold sight_clock
  rw [eta, valid_eq, Option.bind_some]
  cases hx : vNet x with
  | false => rfl
  | true =>
    obtain ⟨h1, h2, _⟩ := vNet_iff.1 hx
    have hc : slices_ContainsFunc_int l (fun x0 => sight_clock_c1 x0 x) = some (!l.all (inCl x)) := by
      rw [← any_not]
      refine containsInt_eq _ _ _ fun c _ => ?_
      unfold sight_clock_c1
      rw [sub1 (by omega), Option.bind_some, within_and, Option.bind_some, Option.some.injEq]
      congr 1
      rw [Bool.eq_iff_iff, inCl_iff, Bool.and_eq_true, decide_eq_true_eq, decide_eq_true_eq]
      omega
    rw [if_neg (by decide), if_pos rfl, hc, Option.bind_some]
    cases l.all (inCl x) <;> rfl
open Classical in
noncomputable def betweenF (x : GNet) (a b t : Int) : GSpan × Int :=
  if vNet x = true then if [a, b].all (inCl x) = true then if 0 ≤ t ∧ t ≤ 1000000000000 then if NoNeg (ENx x) then
    match leastO (ENx x) (spot b t) (spot a t), leastO (ENx x) (spot a t) (spot b t) with
    | some hi, some lo => (⟨-lo, hi⟩, 0)
    | _, _ => (⟨0, 0⟩, 8)
  else (⟨0, 0⟩, 9) else (⟨0, 0⟩, 7) else (⟨0, 0⟩, 5) else (⟨0, 0⟩, 1)
theorem spot_self {x : GNet} (hn : NoNeg (ENx x)) (p : GPoint) : leastO (ENx x) p p = some 0 := leastO_some.2 ⟨.nil p, fun d hd => hn p d hd⟩
theorem Between_eq (x : GNet) (a b t : Int) : sight_Between x a b t = some (betweenF x a b t) := by
  unfold sight_Between betweenF
  rw [eta, clock_eq, Option.bind_some]
  cases hx : vNet x with
  | false => rfl
  | true =>
    rw [if_pos rfl, if_pos rfl]
    by_cases hc : [a, b].all (inCl x) = true
    · rw [if_pos hc, if_pos hc, if_neg (by decide), within_and, Option.bind_some]
      by_cases ht : 0 ≤ t ∧ t ≤ 1000000000000
      · rw [if_pos ht, decide_eq_true ht.1, decide_eq_true ht.2, if_neg (by decide)]
        have ha : inCl x a = true := List.all_eq_true.1 hc a (by simp)
        have hb : inCl x b = true := List.all_eq_true.1 hc b (by simp)
        obtain ⟨ks, st, h1, h⟩ := graph_spec hx (more := []) (fun r hr => by cases hr) (by simp)
        refine (bindS h1).trans ?_
        rcases h.circle hx with ⟨h2, h3⟩ | ⟨s, path, h2, _, _, h3⟩
        · refine (bindS h2).trans ?_
          rw [if_pos h3]
          dsimp only
          refine (if_neg (by decide)).trans ?_
          unfold sight_between
          by_cases hab : a = b
          · subst hab
            rw [if_pos (beq_self_eq_true a), spot_self h3]
            rfl
          · rw [if_neg (by simpa using hab), pointOf_eq, Option.bind_some, pointOf_eq, Option.bind_some]
            obtain ⟨ks', st', g1, g⟩ := graph_spec hx (more := [spot a t, spot b t]) (fun r hr => by
              rcases List.mem_cons.1 hr with rfl | hr
              · exact spot_good (inCl_iff.1 ha) ht
              · rw [List.mem_singleton.1 hr]
                exact spot_good (inCl_iff.1 hb) ht) (by simp)
            have ma := g.sub (spot a t) (by simp)
            have mb := g.sub (spot b t) (by simp)
            obtain ⟨c1, k1, e1, b1, r1⟩ := g.leastG hx h3 mb ma
            obtain ⟨c2, k2, e2, b2, r2⟩ := g.leastG hx h3 ma mb
            have hbet : ((sight_graphOf (GNet.mk x.Rates x.Sights) ([spot a t, spot b t] : List GPoint)).bind (fun o => match o with
              | (t3, t4) =>
                (leastG t3 t4 (spot b t) (spot a t)).bind (fun o => match o with
                  | (t5, t6) =>
                    (leastG t3 t4 (spot a t) (spot b t)).bind (fun o => match o with
                      | (t7, t8) =>
                        (negI t7).bind (fun t9 =>
                        some ((GSpan.mk t9 t5), (t6 && t8))))))) = some (⟨-c2, c1⟩, k1 && k2) := by
              refine (bindS g1).trans ((bindS e1).trans ((bindS e2).trans ?_))
              dsimp only
              unfold negI
              rw [if_pos (inI_iff.2 (by omega))]
              rfl
            refine (bindS hbet).trans ?_
            rcases r1 with ⟨rfl, r1⟩ | ⟨rfl, r1, _⟩
            · rcases r2 with ⟨rfl, r2⟩ | ⟨rfl, r2, _⟩
              · rw [r1, r2]; rfl
              · rw [r1, r2]; rfl
            · rw [r1]; rfl
        · refine (bindS h2).trans ?_
          rw [if_neg h3]
          rfl
      · have : (decide (0 ≤ t) && decide (t ≤ 1000000000000)) = false := by rw [Bool.and_eq_false_iff, decide_eq_false_iff_not, decide_eq_false_iff_not]; omega
        rw [if_neg ht, this, if_pos (by decide)]
    · rw [if_neg hc, if_neg hc]
      rfl
/-- What it says when it answers. -/
structure BetOk (x : GNet) (a b t hi lo : Int) : Prop where
  valid : vNet x = true
  ca : inCl x a = true
  cb : inCl x b = true
  time : 0 ≤ t ∧ t ≤ 1000000000000
  noNeg : NoNeg (ENx x)
  up : Least (ENx x) (spot b t) (spot a t) hi
  down : Least (ENx x) (spot a t) (spot b t) lo
  bhi : -300000000000000000 ≤ hi ∧ hi ≤ 300000000000000000
  blo : -300000000000000000 ≤ lo ∧ lo ≤ 300000000000000000
theorem least_small {x : GNet} (hx : vNet x = true) (hn : NoNeg (ENx x)) {p q : GPoint} (hp : Good x p) (hq : Good x q) {c : Int} (h : Least (ENx x) p q c) : -300000000000000000 ≤ c ∧ c ≤ 300000000000000000 := by
  rcases least_or hx hn hp hq with ⟨d, h1, h2⟩ | ⟨_, h1⟩
  · rw [h.uniq h1]; exact h2
  · exact absurd h.1 (h1 c)
theorem betweenF_ok {x : GNet} {a b t : Int} (h : (betweenF x a b t).2 = 0) : ∃ hi lo, betweenF x a b t = (⟨-lo, hi⟩, 0) ∧ BetOk x a b t hi lo := by
  unfold betweenF at h ⊢
  cases hx : vNet x with
  | false => rw [hx] at h; simp at h
  | true =>
    rw [hx, if_pos rfl] at h
    rw [if_pos rfl]
    by_cases hc : [a, b].all (inCl x) = true
    · rw [if_pos hc] at h ⊢
      by_cases ht : 0 ≤ t ∧ t ≤ 1000000000000
      · rw [if_pos ht] at h ⊢
        by_cases hn : NoNeg (ENx x)
        · rw [if_pos hn] at h ⊢
          have ha : inCl x a = true := List.all_eq_true.1 hc a (by simp)
          have hb : inCl x b = true := List.all_eq_true.1 hc b (by simp)
          cases h1 : leastO (ENx x) (spot b t) (spot a t) with
          | none => rw [h1] at h; simp at h
          | some hi =>
            cases h2 : leastO (ENx x) (spot a t) (spot b t) with
            | none => rw [h1, h2] at h; simp at h
            | some lo =>
              have l1 := leastO_some.1 h1
              have l2 := leastO_some.1 h2
              exact ⟨hi, lo, rfl, hx, ha, hb, ht, hn, l1, l2, least_small hx hn (spot_good (inCl_iff.1 hb) ht) (spot_good (inCl_iff.1 ha) ht) l1, least_small hx hn (spot_good (inCl_iff.1 ha) ht) (spot_good (inCl_iff.1 hb) ht) l2⟩
        · rw [if_neg hn] at h; simp at h
      · rw [if_neg ht] at h; simp at h
    · rw [if_neg hc] at h; simp at h
theorem BetOk.eq {x : GNet} {a b t hi lo : Int} (h : BetOk x a b t hi lo) : betweenF x a b t = (⟨-lo, hi⟩, 0) := by
  unfold betweenF
  rw [if_pos h.valid, if_pos (by simp [h.ca, h.cb]), if_pos h.time, if_pos h.noNeg, leastO_some.2 h.up, leastO_some.2 h.down]
theorem BetOk.swap {x : GNet} {a b t hi lo : Int} (h : BetOk x a b t hi lo) : BetOk x b a t lo hi := ⟨h.valid, h.cb, h.ca, h.time, h.noNeg, h.down, h.up, h.blo, h.bhi⟩
end Go.Fw
namespace Go.Gr
abbrev Tb := Nat → Nat → Int
def upd2 (c : Tb) (i j : Nat) (x : Int) : Tb := fun a b => if a = i ∧ b = j then x else c a b
def fwv (N : Int) (c : Tb) (k i j : Nat) : Int := if c i k < N ∧ c k j < N then max (-N) (min (c i j) (c i k + c k j)) else c i j
def fwJ (N : Int) (k i : Nat) : Nat → Nat → Tb → Tb
  | 0, _, c => c
  | m + 1, j, c => fwJ N k i m (j + 1) (upd2 c i j (fwv N c k i j))
def fwI (N : Int) (k n : Nat) : Nat → Nat → Tb → Tb
  | 0, _, c => c
  | m + 1, i, c => fwI N k n m (i + 1) (fwJ N k i n 0 c)
def fwK (N : Int) (n : Nat) : Nat → Nat → Tb → Tb
  | 0, _, c => c
  | m + 1, k, c => fwK N n m (k + 1) (fwI N k n n 0 c)
/-- A property of tables that each entry's change keeps is kept by all. -/
theorem fwJ_keep {N : Int} {k i n : Nat} (I : Tb → Prop) (h : ∀ c j, j < n → I c → I (upd2 c i j (fwv N c k i j))) : ∀ m j c, j + m ≤ n → I c → I (fwJ N k i m j c) := by
  intro m
  induction m with
  | zero => intro j c _ hc; exact hc
  | succ m ih => intro j c hj hc; exact ih (j + 1) _ (by omega) (h c j (by omega) hc)
theorem fwI_keep {N : Int} {k n : Nat} (I : Tb → Prop) (h : ∀ c i j, i < n → j < n → I c → I (upd2 c i j (fwv N c k i j))) : ∀ m i c, i + m ≤ n → I c → I (fwI N k n m i c) := by
  intro m
  induction m with
  | zero => intro i c _ hc; exact hc
  | succ m ih => intro i c hi hc; exact ih (i + 1) _ (by omega) (fwJ_keep (n := n) I (fun c j hj => h c i j (by omega) hj) n 0 c (by omega) hc)
theorem fwK_keep {N : Int} {n : Nat} (I : Tb → Prop) (h : ∀ c k i j, k < n → i < n → j < n → I c → I (upd2 c i j (fwv N c k i j))) : ∀ m k c, k + m ≤ n → I c → I (fwK N n m k c) := by
  intro m
  induction m with
  | zero => intro k c _ hc; exact hc
  | succ m ih => intro k c hk hc; exact ih (k + 1) _ (by omega) (fwI_keep I (fun c i j hi hj => h c k i j (by omega) hi hj) n 0 c (by omega) hc)
/-- All entries lie from -N to N, and come down. -/
def InN (N : Int) (c : Tb) : Prop := ∀ i j, -N ≤ c i j ∧ c i j ≤ N
theorem fwv_le {N : Int} {c : Tb} (h : InN N c) (k i j : Nat) : fwv N c k i j ≤ c i j := by
  have := h i j
  unfold fwv; split <;> omega
theorem fwv_in {N : Int} (hN : 0 ≤ N) {c : Tb} (h : InN N c) (k i j : Nat) : -N ≤ fwv N c k i j ∧ fwv N c k i j ≤ N := by
  have := h i j
  unfold fwv; split <;> omega
theorem inN_upd {N : Int} (hN : 0 ≤ N) {c : Tb} (h : InN N c) (k i j : Nat) : InN N (upd2 c i j (fwv N c k i j)) := by
  intro a b
  unfold upd2
  split
  · exact fwv_in hN h k i j
  · exact h a b
theorem fwK_le {N : Int} (hN : 0 ≤ N) {n : Nat} (m k : Nat) (c : Tb) (hk : k + m ≤ n) (h : InN N c) : InN N (fwK N n m k c) ∧ ∀ a b, fwK N n m k c a b ≤ c a b := by
  refine fwK_keep (fun c' => InN N c' ∧ ∀ a b, c' a b ≤ c a b) (fun c' k i j _ _ _ h' => ⟨inN_upd hN h'.1 k i j, fun a b => ?_⟩) m k c hk ⟨h, fun _ _ => Int.le_refl _⟩
  unfold upd2
  split
  · rename_i e; rw [e.1, e.2]; exact Int.le_trans (fwv_le h'.1 k i j) (h'.2 i j)
  · exact h'.2 a b
/-- What is in the table is at least what a way costs. -/
def SoundT (N : Int) (n : Nat) (E : Nat → Nat → Int → Prop) (c : Tb) : Prop := ∀ i j, i < n → j < n → c i j < N → ∃ d, Wy E i j d ∧ d ≤ c i j
theorem fwK_sound {N : Int} {n : Nat} {E : Nat → Nat → Int → Prop} (m k : Nat) (c : Tb) (hk : k + m ≤ n) (h : SoundT N n E c) : SoundT N n E (fwK N n m k c) := by
  refine fwK_keep (SoundT N n E) (fun c k i j hk hi hj h => ?_) m k c hk h
  intro a b ha hb hlt
  unfold upd2 at hlt ⊢
  split at hlt
  · rename_i e
    obtain ⟨rfl, rfl⟩ := e
    rw [if_pos ⟨rfl, rfl⟩]
    unfold fwv at hlt ⊢
    split at hlt
    · rename_i hf
      rw [if_pos hf]
      by_cases hm : c a b ≤ c a k + c k b
      · obtain ⟨d, h1, h2⟩ := h a b ha hb (by omega)
        exact ⟨d, h1, by omega⟩
      · obtain ⟨d, h1, h2⟩ := h a k ha hk hf.1
        obtain ⟨d', h3, h4⟩ := h k b hk hb hf.2
        exact ⟨_, h1.append h3, by omega⟩
    · rename_i hf
      rw [if_neg hf]
      exact h a b ha hb hlt
  · rename_i e
    rw [if_neg e]
    exact h a b ha hb hlt
theorem fwv_self1 {N : Int} {c : Tb} (h : InN N c) (k i : Nat) (h0 : 0 ≤ c k k) : fwv N c k i k = c i k := by
  have := h i k
  unfold fwv; split <;> omega
theorem fwv_self2 {N : Int} {c : Tb} (h : InN N c) (k j : Nat) (h0 : 0 ≤ c k k) : fwv N c k k j = c k j := by
  have := h k j
  unfold fwv; split <;> omega
theorem fwJ_eq {N : Int} (hN : 0 ≤ N) (k i : Nat) : ∀ (m j : Nat) (c : Tb), InN N c → 0 ≤ c k k → fwJ N k i m j c = fun a b => if a = i ∧ j ≤ b ∧ b < j + m then fwv N c k a b else c a b := by
  intro m
  induction m with
  | zero => intro j c _ _; funext a b; rw [if_neg (by omega)]; rfl
  | succ m ih =>
    intro j c h h0
    have hik : (upd2 c i j (fwv N c k i j)) i k = c i k := by
      unfold upd2
      by_cases hj : k = j
      · subst hj; rw [if_pos ⟨rfl, rfl⟩, fwv_self1 h k i h0]
      · rw [if_neg (by omega)]
    have hkk : (upd2 c i j (fwv N c k i j)) k k = c k k := by
      unfold upd2
      by_cases hj : k = i ∧ k = j
      · obtain ⟨rfl, rfl⟩ := hj; rw [if_pos ⟨rfl, rfl⟩, fwv_self1 h k k h0]
      · rw [if_neg hj]
    rw [fwJ, ih (j + 1) _ (inN_upd hN h k i j) (by rw [hkk]; exact h0)]
    funext a b
    by_cases ha : a = i
    · subst ha
      by_cases hb : b = j
      · subst hb
        rw [if_neg (by omega), if_pos (by omega)]
        unfold upd2; rw [if_pos ⟨rfl, rfl⟩]
      · have hab : (upd2 c a j (fwv N c k a j)) a b = c a b := by unfold upd2; rw [if_neg (by omega)]
        have hkb : (upd2 c a j (fwv N c k a j)) k b = c k b := by unfold upd2; rw [if_neg (by omega)]
        by_cases hr : j + 1 ≤ b ∧ b < j + 1 + m
        · rw [if_pos ⟨rfl, hr⟩, if_pos (by omega)]
          unfold fwv
          unfold fwv at hab hkb hik
          rw [hab, hkb, hik]
        · rw [if_neg (by omega), if_neg (by omega), hab]
    · rw [if_neg (by omega), if_neg (by omega)]
      unfold upd2; rw [if_neg (by omega)]
theorem fwv_congr {N : Int} {c c' : Tb} {k i j : Nat} (h1 : c' i k = c i k) (h2 : c' k j = c k j) (h3 : c' i j = c i j) : fwv N c' k i j = fwv N c k i j := by
  unfold fwv; rw [h1, h2, h3]
theorem fwI_eq {N : Int} (hN : 0 ≤ N) (k n : Nat) : ∀ (m i : Nat) (c : Tb), InN N c → 0 ≤ c k k → fwI N k n m i c = fun a b => if i ≤ a ∧ a < i + m ∧ b < n then fwv N c k a b else c a b := by
  intro m
  induction m with
  | zero => intro i c _ _; funext a b; rw [if_neg (by omega)]; rfl
  | succ m ih =>
    intro i c h h0
    rw [fwI, fwJ_eq hN k i n 0 c h h0]
    have hrow : ∀ b, (if k = i ∧ 0 ≤ b ∧ b < 0 + n then fwv N c k k b else c k b) = c k b := by
      intro b
      split
      · exact fwv_self2 h k b h0
      · rfl
    rw [ih (i + 1) _ (by
      intro a b
      dsimp only
      split
      · exact fwv_in hN h k a b
      · exact h a b) (by rw [hrow]; exact h0)]
    funext a b
    by_cases ha : a = i
    · subst ha
      rw [if_neg (by omega)]
      by_cases hb : b < n
      · rw [if_pos (by omega), if_pos (by omega)]
      · rw [if_neg (by omega), if_neg (by omega)]
    · by_cases hr : i + 1 ≤ a ∧ a < i + 1 + m ∧ b < n
      · rw [if_pos hr, if_pos (by omega)]
        exact fwv_congr (if_neg (by omega)) (hrow b) (if_neg (by omega))
      · rw [if_neg hr, if_neg (by omega), if_neg (by omega)]
/-- Entries that are finite lie within B. -/
def BoundT (N B : Int) (n : Nat) (c : Tb) : Prop := ∀ i j, i < n → j < n → c i j = N ∨ (-B ≤ c i j ∧ c i j ≤ B)
def TriT (N : Int) (n k : Nat) (c : Tb) : Prop := ∀ m, m < k → ∀ i j, i < n → j < n → c i m < N → c m j < N → c i j ≤ c i m + c m j
theorem fwv_bound {N B : Int} {n : Nat} {c : Tb} (hB : 0 ≤ B) (h2 : B + B < N) (h : BoundT N B n c) {k i j : Nat} (hk : k < n) (hi : i < n) (hj : j < n) : fwv N c k i j = N ∨ (-(B + B) ≤ fwv N c k i j ∧ fwv N c k i j ≤ B + B) := by
  have h3 := h i j hi hj; have h4 := h i k hi hk; have h5 := h k j hk hj
  unfold fwv; split <;> omega
theorem fwv_case {N B : Int} {n : Nat} {c : Tb} (hB : 0 ≤ B) (h2 : B + B < N) (h : BoundT N B n c) {k i j : Nat} (hk : k < n) (hi : i < n) (hj : j < n) :
    (fwv N c k i j = c i j ∨ (c i k < N ∧ c k j < N ∧ fwv N c k i j = c i k + c k j)) ∧ fwv N c k i j ≤ c i j ∧ (c i k < N → c k j < N → fwv N c k i j ≤ c i k + c k j) := by
  have h3 := h i j hi hj; have h4 := h i k hi hk; have h5 := h k j hk hj
  unfold fwv; split
  · refine ⟨?_, ?_, fun _ _ => ?_⟩ <;> omega
  · rename_i hf
    exact ⟨.inl rfl, Int.le_refl _, fun h1 h2 => absurd ⟨h1, h2⟩ hf⟩
theorem fw_tri {N B : Int} {n : Nat} {c : Tb} (hB : 0 ≤ B) (h2 : B + B < N) (h : BoundT N B n c) {k : Nat} (hk : k < n) (h0 : 0 ≤ c k k) (ht : TriT N n k c) {c' : Tb} (hc : ∀ i j, i < n → j < n → c' i j = fwv N c k i j) : TriT N n (k + 1) c' := by
  intro m hm i j hi hj
  have hmn : m < n := by omega
  rw [hc i m hi hmn, hc m j hmn hj, hc i j hi hj]
  obtain ⟨a1, _, _⟩ := fwv_case hB h2 h hk hi hmn
  obtain ⟨a2, _, _⟩ := fwv_case hB h2 h hk hmn hj
  obtain ⟨_, u1, u2⟩ := fwv_case hB h2 h hk hi hj
  have fin : ∀ x y, x < n → y < n → c x y < N → c x y ≤ B := fun x y hx hy hl => by
    rcases h x y hx hy with h | h <;> omega
  have lo : ∀ x y, x < n → y < n → c x y < N → -B ≤ c x y := fun x y hx hy hl => by
    rcases h x y hx hy with h | h <;> omega
  intro f1 f2
  rcases Nat.lt_or_ge m k with hlt | hge
  · have T := ht m hlt
    rcases a1 with a1 | ⟨a3, a4, a1⟩ <;> rcases a2 with a2 | ⟨a5, a6, a2⟩
    · have t1 := T i j hi hj (by omega) (by omega)
      omega
    · have t3 := T i k hi hk (by omega) a5
      have b1 := fin i m hi hmn (by omega); have b2 := fin m k hmn hk a5
      have := u2 (by omega) a6
      omega
    · have t2 := T k j hk hj a4 (by omega)
      have b1 := fin k m hk hmn a4; have b2 := fin m j hmn hj (by omega)
      have := u2 a3 (by omega)
      omega
    · have t4 := T k k hk hk a4 a5
      have := u2 a3 a6
      omega
  · have e : m = k := by omega
    subst e
    rcases a1 with a1 | ⟨a3, a4, a1⟩ <;> rcases a2 with a2 | ⟨a5, a6, a2⟩
    · have := u2 (by omega) (by omega)
      omega
    · have := u2 (by omega) a6
      omega
    · have := u2 a3 (by omega)
      omega
    · have := u2 a3 a6
      omega
/-- Where no entry on the diagonal is below 0 in the end, the triangles close. -/
theorem fwK_tri {N : Int} (hN : 0 ≤ N) {n : Nat} : ∀ (m k : Nat) (c : Tb) (B : Int), k + m = n → 0 ≤ B → B * 2 ^ m < N → InN N c → BoundT N B n c → TriT N n k c → (∀ i, i < n → 0 ≤ fwK N n m k c i i) →
    TriT N n n (fwK N n m k c) ∧ BoundT N (B * 2 ^ m) n (fwK N n m k c) := by
  intro m
  induction m with
  | zero => intro k c B hk _ _ _ hb ht _; rw [show k = n by omega] at ht; exact ⟨ht, by simpa [fwK] using hb⟩
  | succ m ih =>
    intro k c B hk hB h2 hI hb ht hd
    have hkn : k < n := by omega
    have h0 : 0 ≤ c k k := by
      have := (fwK_le (n := n) hN (m + 1) k c (by omega) hI).2 k k
      have := hd k hkn
      omega
    have hpow : B * 2 ^ (m + 1) = (B + B) * 2 ^ m := by rw [Int.pow_succ, Int.mul_comm (2 ^ m) 2, ← Int.mul_assoc]; congr 1; omega
    have h2' : B + B < N := by
      have h3 : (1 : Int) ≤ 2 ^ m := by exact_mod_cast Nat.one_le_two_pow
      have h4 : (B + B) * 1 ≤ (B + B) * 2 ^ m := Int.mul_le_mul_of_nonneg_left h3 (by omega)
      omega
    rw [fwK] at hd ⊢
    have heq := fwI_eq hN k n n 0 c hI h0
    rw [heq] at hd ⊢
    have hc : ∀ i j, i < n → j < n → (fun a b => if 0 ≤ a ∧ a < 0 + n ∧ b < n then fwv N c k a b else c a b) i j = fwv N c k i j := fun i j hi hj => by dsimp only; rw [if_pos (by omega)]
    rw [hpow]
    refine ih (k + 1) _ (B + B) (by omega) (by omega) (by omega) ?_ ?_ ?_ hd
    · intro a b
      dsimp only
      split
      · exact fwv_in hN hI k a b
      · exact hI a b
    · intro i j hi hj
      rw [hc i j hi hj]
      exact fwv_bound hB h2' hb hkn hi hj
    · exact fw_tri hB h2' hb hkn h0 ht hc
/-- The table's answer: it shows a circle below 0 exactly if there is one; and without one it has all least costs. -/
theorem floyd {N B : Int} {n : Nat} {E : Nat → Nat → Int → Prop} {c : Tb} (hB : 0 ≤ B) (h2 : B * 2 ^ n * 2 < N) (hI : InN N c) (hb : BoundT N B n c) (hs : SoundT N n E c) (h0 : ∀ i, i < n → c i i ≤ 0)
    (hE : ∀ i j d, E i j d → i < n ∧ j < n ∧ c i j < N ∧ c i j ≤ d) :
    ((∀ i, i < n → 0 ≤ fwK N n n 0 c i i) ↔ NoNeg E) ∧
    (NoNeg E → ∀ i j, i < n → j < n → (fwK N n n 0 c i j < N → Least E i j (fwK N n n 0 c i j)) ∧ (¬ fwK N n n 0 c i j < N → fwK N n n 0 c i j = N ∧ ∀ d, ¬ Wy E i j d)) := by
  have hpow : (0 : Int) ≤ B * 2 ^ n := Int.mul_nonneg hB (by exact_mod_cast Nat.zero_le _)
  have hN : 0 ≤ N := by omega
  have hle := fwK_le (n := n) hN n 0 c (by omega) hI
  have hS := fwK_sound n 0 c (by omega) hs
  have way_lt : ∀ i j d, Wy E i j d → i < n → j < n := by
    intro i j d hw
    induction hw with
    | nil p => exact id
    | cons e _ ih => intro _; exact ih (hE _ _ _ e).2.1
  have key : (∀ i, i < n → 0 ≤ fwK N n n 0 c i i) → ∀ i j d, Wy E i j d → i < n → fwK N n n 0 c i j < N ∧ fwK N n n 0 c i j ≤ d := by
    intro hd i j d hw
    obtain ⟨ht, hbd⟩ := fwK_tri hN n 0 c B (by omega) hB (by omega) hI hb (fun m hm => absurd hm (Nat.not_lt_zero _)) hd
    induction hw with
    | nil p =>
      intro hp
      have h1 := hle.2 p p; have h3 := h0 p hp
      omega
    | @cons p q r c1 d1 e hw ih =>
      intro hp
      obtain ⟨_, hq, h3, h4⟩ := hE p q c1 e
      obtain ⟨h5, h6⟩ := ih hq
      have hr : r < n := way_lt _ _ _ hw hq
      have h7 := hle.2 p q
      have h8 := ht q hq p r hp hr (by omega) h5
      have h9 := hbd p q hp hq; have h10 := hbd q r hq hr
      omega
  have fwd : (∀ i, i < n → 0 ≤ fwK N n n 0 c i i) → NoNeg E := by
    intro hd p d hw
    cases hw with
    | nil _ => exact Int.le_refl _
    | cons e hw' =>
      have hp := (hE _ _ _ e).1
      have := (key hd p p _ (.cons e hw') hp).2
      have := hd p hp
      omega
  have bwd : NoNeg E → ∀ i, i < n → 0 ≤ fwK N n n 0 c i i := by
    intro hn i hi
    rcases Int.lt_or_le (fwK N n n 0 c i i) 0 with hlt | hge
    · have hlt' : fwK N n n 0 c i i < N := by omega
      obtain ⟨d, h1, h3⟩ := hS i i hi hi hlt'
      have := hn i d h1
      omega
    · exact hge
  refine ⟨⟨fwd, bwd⟩, fun hn i j hi hj => ⟨fun hlt => ?_, fun hnlt => ⟨?_, fun d hw => ?_⟩⟩⟩
  · obtain ⟨d, h1, h3⟩ := hS i j hi hj hlt
    have h4 := (key (bwd hn) i j d h1 hi).2
    have h5 : d = fwK N n n 0 c i j := by omega
    exact ⟨h1.of h5, fun d' hw => (key (bwd hn) i j d' hw hi).2⟩
  · have := (hle.1 i j).2; omega
  · exact hnlt (key (bwd hn) i j d hw hi).1
end Go.Gr
namespace Go.Fw
open Go.Gr
abbrev NN : Int := 1152921504606846976
structure Shape (n : Nat) (z : List (List Int)) : Prop where
  len : z.length = n
  rows : ∀ (i : Nat) row, z[i]? = some row → row.length = n
def tb (z : List (List Int)) : Tb := fun i j => (((z[i]?).getD [])[j]?).getD 0
theorem Shape.row {n : Nat} {z : List (List Int)} (h : Shape n z) {i : Nat} (hi : i < n) : ∃ row, idx z (i : Int) = some row ∧ z[i]? = some row ∧ row.length = n := by
  obtain ⟨row, hr⟩ : ∃ row, z[i]? = some row := ⟨_, List.getElem?_eq_getElem (by rw [h.len]; exact hi)⟩
  exact ⟨row, idx_at hr, hr, h.rows i row hr⟩
theorem Shape.cell {n : Nat} {z : List (List Int)} (_ : Shape n z) {i j : Nat} {row : List Int} (hr : z[i]? = some row) (hl : row.length = n) (hj : j < n) : idx row (j : Int) = some (tb z i j) := by
  obtain ⟨v, hv⟩ : ∃ v, row[j]? = some v := ⟨_, List.getElem?_eq_getElem (by omega)⟩
  rw [idx_at hv]
  unfold tb
  rw [hr, Option.getD_some, hv, Option.getD_some]
theorem Shape.set {n : Nat} {z : List (List Int)} (h : Shape n z) {i j : Nat} {row : List Int} (hr : z[i]? = some row) (hi : i < n) (hj : j < n) (v : Int) :
    Shape n (z.set i (row.set j v)) ∧ tb (z.set i (row.set j v)) = upd2 (tb z) i j v := by
  have hl := h.rows i row hr
  have hzl := h.len
  refine ⟨⟨by simp [hzl], fun a r ha => ?_⟩, ?_⟩
  · rw [List.getElem?_set] at ha
    split at ha
    · split at ha
      · cases ha; simp [hl]
      · cases ha
    · exact h.rows a r ha
  · funext a b
    unfold tb upd2
    rw [List.getElem?_set]
    by_cases ha : i = a
    · subst ha
      rw [if_pos rfl, if_pos (by omega), Option.getD_some, List.getElem?_set]
      show _ = if i = i ∧ b = j then v else (((z[i]?).getD [])[b]?).getD 0
      rw [hr, Option.getD_some]
      by_cases hb : j = b
      · subst hb
        rw [if_pos rfl, if_pos (by omega), if_pos ⟨rfl, rfl⟩, Option.getD_some]
      · rw [if_neg hb, if_neg (fun h => hb h.2.symm)]
    · rw [if_neg ha, if_neg (fun h => ha h.1.symm)]
theorem upd2_self (c : Tb) (i j : Nat) : upd2 c i j (c i j) = c := by
  funext a b
  unfold upd2
  split
  · rename_i h; rw [h.1, h.2]
  · rfl
/-! The loops over a table. -/
def jbody (k i j : Nat) (z23 : List (List Int)) : Option (List (List Int)) :=
  (idx z23 (i : Int)).bind (fun x10 =>
  (idx x10 (k : Int)).bind (fun x11 =>
  ((if (decide (x11 < 1152921504606846976)) = true then
    (idx z23 (k : Int)).bind (fun x12 =>
    (idx x12 (j : Int)).bind (fun x13 =>
    some (decide (x13 < 1152921504606846976))))
  else
    some false) : Option Bool).bind (fun b10 =>
  ((
    (if b10 = true then
      (idx z23 (i : Int)).bind (fun x14 =>
      (idx z23 (i : Int)).bind (fun x15 =>
      (idx x15 (j : Int)).bind (fun x16 =>
      (idx z23 (i : Int)).bind (fun x17 =>
      (idx x17 (k : Int)).bind (fun x18 =>
      (idx z23 (k : Int)).bind (fun x19 =>
      (idx x19 (j : Int)).bind (fun x20 =>
      (addI x18 x20).bind (fun t18 =>
      (idx x14 (j : Int)).bind (fun _ =>
      some (z23.set (Int.toNat (i : Int)) (x14.set (Int.toNat (j : Int)) (max (-1152921504606846976) (min x16 t18)))))))))))))
    else
      some z23)) : Option ((List (List Int)))).bind (fun s19 =>
  some s19))))
theorem jbody_ok {n k i j : Nat} {z : List (List Int)} (h : Shape n z) (hI : InN NN (tb z)) (hk : k < n) (hi : i < n) (hj : j < n) : ∃ z', jbody k i j z = some z' ∧ Shape n z' ∧ tb z' = upd2 (tb z) i j (fwv NN (tb z) k i j) ∧ InN NN (tb z') := by
  obtain ⟨ri, a1, a2, a3⟩ := h.row hi
  obtain ⟨rk, b1, b2, b3⟩ := h.row hk
  have c1 := h.cell a2 a3 hk
  have c2 := h.cell a2 a3 hj
  have c3 := h.cell b2 b3 hj
  have hI2 := inN_upd (N := NN) (by decide) hI k i j
  unfold jbody
  rw [a1, Option.bind_some, c1, Option.bind_some]
  by_cases h1 : tb z i k < NN ∧ tb z k j < NN
  · have e1 : -1152921504606846976 ≤ tb z i k ∧ tb z i k ≤ 1152921504606846976 := hI i k
    have e2 : -1152921504606846976 ≤ tb z k j ∧ tb z k j ≤ 1152921504606846976 := hI k j
    rw [if_pos (decide_eq_true h1.1), b1, Option.bind_some, c3, Option.bind_some, Option.bind_some, if_pos (decide_eq_true h1.2)]
    simp only [c1, c2, c3, Option.bind_some]
    rw [addI_ok (by omega), Option.bind_some, Option.bind_some]
    obtain ⟨s1, s2⟩ := h.set a2 hi hj (max (-NN) (min (tb z i j) (tb z i k + tb z k j)))
    have hf : fwv NN (tb z) k i j = max (-NN) (min (tb z i j) (tb z i k + tb z k j)) := by unfold fwv; rw [if_pos h1]
    rw [hf] at hI2 ⊢
    exact ⟨_, rfl, s1, s2, s2 ▸ hI2⟩
  · have hf : fwv NN (tb z) k i j = tb z i j := by unfold fwv; rw [if_neg h1]
    rw [hf, upd2_self] at hI2 ⊢
    refine ⟨z, ?_, h, rfl, hI⟩
    by_cases h2 : tb z i k < NN
    · rw [if_pos (decide_eq_true h2), b1, Option.bind_some, c3, Option.bind_some, Option.bind_some, if_neg (by rw [decide_eq_true_eq]; exact fun h3 => h1 ⟨h2, h3⟩)]
      rfl
    · rw [if_neg (by rw [decide_eq_true_eq]; exact h2)]
      rfl
abbrev Zt := List (List Int)
theorem jloop {n k i : Nat} (hk : k < n) (hi : i < n) {z : Zt} (h : Shape n z) (hI : InN NN (tb z)) : ∃ z', rangeN (S := Zt) (X := Zt) (fun j z => (jbody k i j.toNat z).bind fun s => some (Step.cont s)) (fun z => z) n 0 z = some z' ∧ Shape n z' ∧ InN NN (tb z') ∧ tb z' = fwJ NN k i n 0 (tb z) := by
  obtain ⟨z', h1, h2, h3, h4⟩ := rangeN_inv (S := Zt) (X := Zt) (body := fun j z => (jbody k i j.toNat z).bind fun s => some (Step.cont s)) (fin := fun z => z) (fun j z' => Shape n z' ∧ InN NN (tb z') ∧ (j ≤ n → fwJ NN k i (n - j) j (tb z') = fwJ NN k i n 0 (tb z))) n z (fun j z1 hj ⟨q1, q2, q3⟩ => by
    obtain ⟨z2, r1, r2, r3, r4⟩ := jbody_ok q1 q2 hk hi hj
    rw [Int.toNat_natCast, r1]
    refine ⟨z2, rfl, r2, r4, fun _ => ?_⟩
    rw [r3, ← q3 (by omega), show n - j = (n - (j + 1)) + 1 by omega]
    rfl) ⟨h, hI, fun _ => rfl⟩
  refine ⟨z', h1, h2, h3, ?_⟩
  have := h4 (Nat.le_refl n)
  rw [Nat.sub_self] at this
  exact this
theorem iloop {n k : Nat} (hk : k < n) {z : Zt} (h : Shape n z) (hI : InN NN (tb z)) : ∃ z', rangeN (S := Zt) (X := Zt) (fun i z => (rangeN (S := Zt) (X := Zt) (fun j z => (jbody k i.toNat j.toNat z).bind fun s => some (Step.cont s)) (fun z => z) n 0 z).bind fun s => some (Step.cont s)) (fun z => z) n 0 z = some z' ∧ Shape n z' ∧ InN NN (tb z') ∧ tb z' = fwI NN k n n 0 (tb z) := by
  obtain ⟨z', h1, h2, h3, h4⟩ := rangeN_inv (S := Zt) (X := Zt) (body := fun i z => (rangeN (S := Zt) (X := Zt) (fun j z => (jbody k i.toNat j.toNat z).bind fun s => some (Step.cont s)) (fun z => z) n 0 z).bind fun s => some (Step.cont s)) (fin := fun z => z) (fun i z' => Shape n z' ∧ InN NN (tb z') ∧ (i ≤ n → fwI NN k n (n - i) i (tb z') = fwI NN k n n 0 (tb z))) n z (fun i z1 hi ⟨q1, q2, q3⟩ => by
    obtain ⟨z2, r1, r2, r3, r4⟩ := jloop hk hi q1 q2
    rw [Int.toNat_natCast, r1]
    refine ⟨z2, rfl, r2, r3, fun _ => ?_⟩
    rw [r4, ← q3 (by omega), show n - i = (n - (i + 1)) + 1 by omega]
    rfl) ⟨h, hI, fun _ => rfl⟩
  refine ⟨z', h1, h2, h3, ?_⟩
  have := h4 (Nat.le_refl n)
  rw [Nat.sub_self] at this
  exact this
theorem kloop {n : Nat} {z : Zt} (h : Shape n z) (hI : InN NN (tb z)) : ∃ z', rangeN (S := Zt) (X := Zt) (fun k z => (rangeN (S := Zt) (X := Zt) (fun i z => (rangeN (S := Zt) (X := Zt) (fun j z => (jbody k.toNat i.toNat j.toNat z).bind fun s => some (Step.cont s)) (fun z => z) n 0 z).bind fun s => some (Step.cont s)) (fun z => z) n 0 z).bind fun s => some (Step.cont s)) (fun z => z) n 0 z = some z' ∧ Shape n z' ∧ InN NN (tb z') ∧ tb z' = fwK NN n n 0 (tb z) := by
  obtain ⟨z', h1, h2, h3, h4⟩ := rangeN_inv (S := Zt) (X := Zt) (body := fun k z => (rangeN (S := Zt) (X := Zt) (fun i z => (rangeN (S := Zt) (X := Zt) (fun j z => (jbody k.toNat i.toNat j.toNat z).bind fun s => some (Step.cont s)) (fun z => z) n 0 z).bind fun s => some (Step.cont s)) (fun z => z) n 0 z).bind fun s => some (Step.cont s)) (fin := fun z => z) (fun k z' => Shape n z' ∧ InN NN (tb z') ∧ (k ≤ n → fwK NN n (n - k) k (tb z') = fwK NN n n 0 (tb z))) n z (fun k z1 hk ⟨q1, q2, q3⟩ => by
    obtain ⟨z2, r1, r2, r3, r4⟩ := iloop hk q1 q2
    rw [Int.toNat_natCast, r1]
    refine ⟨z2, rfl, r2, r3, fun _ => ?_⟩
    rw [r4, ← q3 (by omega), show n - k = (n - (k + 1)) + 1 by omega]
    rfl) ⟨h, hI, fun _ => rfl⟩
  refine ⟨z', h1, h2, h3, ?_⟩
  have := h4 (Nat.le_refl n)
  rw [Nat.sub_self] at this
  exact this
end Go.Fw
namespace Go.Fw
theorem refValidSight_eq (s : GSight) (n : Int) : noongunref02_ValidSight s n = some (vSight n s) := by
  unfold noongunref02_ValidSight noongunref02_within
  rw [Option.bind_some, Option.some.injEq, Bool.eq_iff_iff, vSight_iff]
  simp only [Bool.and_eq_true, decide_eq_true_eq, bne_iff_ne]
  omega
theorem refValid_eq (x : GNet) : noongunref02_Valid x = some (vNet x) := by
  unfold noongunref02_Valid noongunref02_within
  by_cases hl : 2 ≤ x.Rates.length ∧ x.Rates.length ≤ 8
  · have h1 : (decide ((2 : Int) ≤ ((x.Rates.length : Nat) : Int)) && decide (((x.Rates.length : Nat) : Int) ≤ 8)) = true := by
      rw [Bool.and_eq_true, decide_eq_true_eq, decide_eq_true_eq]; omega
    obtain ⟨r0, hr⟩ : ∃ r0, x.Rates[0]? = some r0 := ⟨_, List.getElem?_eq_getElem (by omega)⟩
    have hi : idx x.Rates 0 = some r0 := by unfold idx; rw [if_pos (Int.le_refl 0)]; exact hr
    rw [Option.bind_some, h1]
    simp only [Bool.not_true, Bool.false_eq_true, if_false, hi, Option.bind_some]
    rw [rangeL_search (fun r => !vRate r) (Ctl.ret false), any_not]
    · rw [rangeL_search (fun s => !vSight (x.Rates.length : Int) s) (Ctl.ret false), any_not]
      · unfold vNet
        rw [decide_eq_true hl.1, decide_eq_true hl.2, hr]
        by_cases e0 : r0 = 0
        · subst e0
          by_cases e1 : x.Sights.length ≤ 30
          · have e2 : ¬ (30 : Int) < ((x.Sights.length : Nat) : Int) := by omega
            cases x.Rates.all vRate <;> cases x.Sights.all (vSight (x.Rates.length : Int)) <;> simp [e1, e2]
          · have e2 : (30 : Int) < ((x.Sights.length : Nat) : Int) := by omega
            simp [e1, e2]
        · simp [e0]
      · intro i s u _
        rw [refValidSight_eq, Option.bind_some]
        cases vSight (x.Rates.length : Int) s <;> rfl
    · intro i r u _
      show (if (!vRate r) = true then _ else _) = _
      cases vRate r <;> rfl
  · have h1 : (decide ((2 : Int) ≤ ((x.Rates.length : Nat) : Int)) && decide (((x.Rates.length : Nat) : Int) ≤ 8)) = false := by
      rw [Bool.and_eq_false_iff, decide_eq_false_iff_not, decide_eq_false_iff_not]; omega
    rw [Option.bind_some, h1]
    simp only [Bool.not_false, if_true, Option.bind_some, Bool.true_or]
    symm
    rw [Option.some.injEq]
    cases hv : vNet x with
    | false => rfl
    | true => exact absurd (vNet_iff.1 hv) (fun h => hl ⟨h.1, h.2.1⟩)
theorem refWithin_and (a b c : Int) : noongunref02_within a b c = some (decide (b ≤ a) && decide (a ≤ c)) := rfl
end Go.Fw
namespace Go.Fw
theorem refCarry_eq {r d : Int} (hr : 0 ≤ r ∧ r ≤ 1000000) (h : -1000000000000 ≤ d ∧ d ≤ 1000000000000) : noongunref02_carry r d = some ((r * max d (-d) + 999999999) / 1000000000) := by
  have hb := carry_bnd hr (maxabs h)
  have h0 : (r * max d (-d) + 999999999).tdiv 1000000000 = (r * max d (-d) + 999999999) / 1000000000 := Int.tdiv_eq_ediv_of_nonneg (by omega)
  unfold noongunref02_carry negI mulI
  rw [if_pos (inI_iff.2 (by omega)), Option.bind_some, if_pos (inI_iff.2 (by omega)), Option.bind_some, addI_ok (by omega), Option.bind_some, quo_ok (by decide) (inI_iff.2 (by rw [h0]; omega)), h0]
  rfl
end Go.Fw
/-
  The document's table of least costs, plain. No program in it.
-/
namespace Go.Fw
open Go.Gr
theorem buildR {α β X : Type} (g : α → β) {body : Int → α → List β → Option (Step (List β) X)} {fin : List β → X} : ∀ (l : List α) (i : Int) (acc : List β), acc.length + l.length ≤ 1000 →
    (∀ i x s, x ∈ l → s.length ≤ 999 → body i x s = some (.cont (s ++ [g x]))) → rangeL body fin l i acc = some (fin (acc ++ l.map g))
  | [], i, acc, _, _ => by rw [rangeL]; simp
  | x :: l, i, acc, hl, h => by
    rw [List.length_cons] at hl
    rw [rangeL, h i x acc (List.mem_cons_self ..) (by omega), Option.bind_some]
    have := buildR g (fin := fin) l (i + 1) (acc ++ [g x]) (by simp; omega) fun i x s hx => h i x s (List.mem_cons_of_mem _ hx)
    rw [List.map_cons, show acc ++ g x :: l.map g = (acc ++ [g x]) ++ l.map g by simp]
    exact this
theorem spot_eq (c t : Int) : noongunref02_spot c t = some (spot c t) := by
  unfold noongunref02_spot spot
  by_cases h : c = 0
  · subst h; rfl
  · have : (c == 0) = false := by simpa using h
    rw [this, if_neg h]; rfl
theorem findIdx_idx (p : GPoint) : ∀ (l : List GPoint), l.findIdx? (fun q => p == q) = if p ∈ l then some (l.idxOf p) else none
  | [] => by simp
  | a :: l => by
    rw [List.findIdx?_cons, findIdx_idx p l, List.idxOf_cons]
    by_cases h : a = p
    · subst h; simp
    · have h1 : (a == p) = false := by simpa using h
      have h2 : (p == a) = false := by simpa using Ne.symm h
      rw [h1, h2]
      by_cases hm : p ∈ l
      · simp [hm]
      · simp [hm, Ne.symm h]
theorem index_eq (ks : List GPoint) (z : List (List Int)) (p : GPoint) : noongunref02_graph_index (GRefgraph.mk ks z) p = some (if p ∈ ks then ((ks.idxOf p : Nat) : Int) else -1) := by
  unfold noongunref02_graph_index
  rw [index_loop (fun q => p == q)]
  · rw [findIdx_idx]
    by_cases h : p ∈ ks <;> simp [h]
  · intro i q hq
    simp only [idx_at hq, Option.bind_some]
    cases p == q <;> rfl
def askedL (S : List GSight) (more : List GPoint) : List GPoint := more ++ S.flatMap fun s => [spot s.A s.At, spot s.B s.At]
theorem points_loop {x : GNet} (l : List GPoint) (hl : l.length ≤ 500) (hg : ∀ p ∈ l, Good x p) (h0 : Good x (spot 0 0)) : ∃ ks, rangeL (α := GPoint) (S := (List GPoint)) (X := (List GPoint)) (fun _ yk2 z5 =>
    ((
      (noongunref02_graph_index (GRefgraph.mk z5 ([] : List (List Int))) yk2).bind (fun t5 =>
      ((
        (if (decide (t5 < 0)) = true then
          (appI z5 ([yk2] : List GPoint)).bind (fun t6 =>
          some t6)
        else
          some z5)) : Option ((List GPoint))).bind (fun s4 =>
      some s4))) : Option ((List GPoint))).bind (fun s3 =>
    some (Step.cont s3))) (fun z5 => z5) l 0 ([spot 0 0] : List GPoint) = some ks ∧ ks.Nodup ∧ (∀ p ∈ l, p ∈ ks) ∧ (∀ p ∈ ks, Good x p) ∧ ks.length ≤ l.length + 1 := by
  obtain ⟨ks, h1, h2, h3, h4, h5⟩ := rangeL_inv (α := GPoint) (S := (List GPoint)) (X := (List GPoint)) (body := fun _ yk2 z5 =>
    ((
      (noongunref02_graph_index (GRefgraph.mk z5 ([] : List (List Int))) yk2).bind (fun t5 =>
      ((
        (if (decide (t5 < 0)) = true then
          (appI z5 ([yk2] : List GPoint)).bind (fun t6 =>
          some t6)
        else
          some z5)) : Option ((List GPoint))).bind (fun s4 =>
      some s4))) : Option ((List GPoint))).bind (fun s3 =>
    some (Step.cont s3))) (fin := fun z5 => z5) (fun j z => z.Nodup ∧ (∀ i p, i < j → l[i]? = some p → p ∈ z) ∧ (∀ p ∈ z, Good x p) ∧ z.length ≤ j + 1) l [spot 0 0] (fun j p z hp ⟨q1, q2, q3, q4⟩ => by
      have hj := (List.getElem?_eq_some_iff.1 hp).1
      refine ⟨addK z p, ?_, addK_nodup q1, fun i q hi hq => ?_, fun q hq => ?_, by have := addK_len z p; omega⟩
      · rw [index_eq, Option.bind_some]
        unfold addK
        by_cases hm : p ∈ z
        · rw [if_pos hm, if_pos hm, if_neg (by rw [decide_eq_true_eq]; omega)]
          rfl
        · rw [if_neg hm, if_neg hm, if_pos (by decide)]
          unfold appI
          rw [if_pos (by simp; omega)]
          rfl
      · rcases Nat.lt_or_ge i j with h | h
        · exact addK_sub (q2 i q h hq)
        · rw [show i = j by omega, hp] at hq
          cases hq
          exact addK_mem z p
      · rcases addK_or hq with h | rfl
        · exact q3 q h
        · exact hg _ (List.mem_of_getElem? hp)) ⟨by simp, fun i p hi => by omega, fun p hp => by rw [List.mem_singleton.1 hp]; exact h0, by simp⟩
  refine ⟨ks, h1, h2, fun p hp => ?_, h4, h5⟩
  obtain ⟨i, hi⟩ := List.getElem?_of_mem hp
  exact h3 i p (List.getElem?_eq_some_iff.1 hi).1 hi
def entry (x : GNet) (p q : GPoint) : Int := if p = q then 0 else if p.clock = q.clock then carryV (rateF x p.clock) (p.at_ - q.at_) else NN
def EI (x : GNet) (ks : List GPoint) (i j : Nat) (d : Int) : Prop := ∃ p ∈ ks, ∃ q ∈ ks, ks.idxOf p = i ∧ ks.idxOf q = j ∧ EVx x ks p q d
theorem EI.to {x : GNet} {ks : List GPoint} {p q : GPoint} {c : Int} (hw : Wy (EVx x ks) p q c) : Wy (EI x ks) (ks.idxOf p) (ks.idxOf q) c := by
  induction hw with
  | nil p => exact .nil _
  | cons e _ ih => exact Wy.cons ⟨_, e.1, _, e.2.1, rfl, rfl, e⟩ ih
theorem EI.of {x : GNet} {ks : List GPoint} {i j : Nat} {c : Int} (hw : Wy (EI x ks) i j c) : ∀ p ∈ ks, ks.idxOf p = i → ∃ q ∈ ks, ks.idxOf q = j ∧ Wy (EVx x ks) p q c := by
  induction hw with
  | nil i => intro p hp hi; exact ⟨p, hp, hi, .nil _⟩
  | cons e _ ih =>
    intro p hp hi
    obtain ⟨p', hp', q', hq', h1, h2, h3⟩ := e
    have := idx_inj hp hp' (by omega)
    subst this
    obtain ⟨q, hq, k1, k2⟩ := ih q' hq' h2
    exact ⟨q, hq, k1, Wy.cons h3 k2⟩
theorem EI.wy {x : GNet} {ks : List GPoint} {p q : GPoint} (hp : p ∈ ks) (hq : q ∈ ks) (c : Int) : Wy (EI x ks) (ks.idxOf p) (ks.idxOf q) c ↔ Wy (EVx x ks) p q c := by
  refine ⟨fun hw => ?_, EI.to⟩
  obtain ⟨q', hq', h1, h2⟩ := EI.of hw p hp rfl
  rw [idx_inj hq hq' h1.symm]
  exact h2
theorem EI.noNeg {x : GNet} {ks : List GPoint} (hx : vNet x = true) (hc : Covers x.Sights (· ∈ ks)) : NoNeg (EI x ks) ↔ NoNeg (ENx x) := by
  rw [← noNeg_iff (GSpec.rates hx) hc]
  constructor
  · exact fun hn p c hw => hn _ _ (EI.to hw)
  · intro hn i c hw
    cases hw with
    | nil => exact Int.le_refl _
    | cons e hw' =>
      obtain ⟨p, hp, _, _, h1, _⟩ := id e
      obtain ⟨q, hq, k1, k2⟩ := EI.of (Wy.cons e hw') p hp h1
      rw [← idx_inj hp hq (by omega)] at k2
      exact hn p _ k2
theorem EI.least {x : GNet} {ks : List GPoint} (hx : vNet x = true) (hc : Covers x.Sights (· ∈ ks)) {p q : GPoint} (hp : p ∈ ks) (hq : q ∈ ks) (c : Int) : Least (EI x ks) (ks.idxOf p) (ks.idxOf q) c ↔ Least (ENx x) p q c := by
  rw [← least_iff (GSpec.rates hx) hc hp hq]
  unfold Least
  simp only [EI.wy hp hq]
theorem EI.noway {x : GNet} {ks : List GPoint} (hx : vNet x = true) (hc : Covers x.Sights (· ∈ ks)) {p q : GPoint} (hp : p ∈ ks) (hq : q ∈ ks) : (∀ c, ¬ Wy (EI x ks) (ks.idxOf p) (ks.idxOf q) c) ↔ ∀ c, ¬ Wy (ENx x) p q c := by
  rw [← noway_iff (GSpec.rates hx) hc hp hq]
  simp only [EI.wy hp hq]
abbrev BB : Int := 1000000001
structure TOk (n : Nat) (E : Nat → Nat → Int → Prop) (c0 c : Tb) : Prop where
  inN : InN NN c
  bound : BoundT NN BB n c
  sound : SoundT NN n E c
  le : ∀ a b, c a b ≤ c0 a b
theorem TOk.lower {n : Nat} {E : Nat → Nat → Int → Prop} {c0 c : Tb} (h : TOk n E c0 c) {a b : Nat} {w : Int} (hw : -BB ≤ w ∧ w ≤ BB) (he : E a b w) :
    TOk n E c0 (upd2 c a b (min (c a b) w)) ∧ upd2 c a b (min (c a b) w) a b ≤ w ∧ ∀ i j, upd2 c a b (min (c a b) w) i j ≤ c i j := by
  have hle : ∀ i j, upd2 c a b (min (c a b) w) i j ≤ c i j := by
    intro i j
    unfold upd2
    split
    · rename_i h; rw [h.1, h.2]; omega
    · exact Int.le_refl _
  have hw' : -1000000001 ≤ w ∧ w ≤ 1000000001 := hw
  refine ⟨⟨fun i j => ?_, fun i j hi hj => ?_, fun i j hi hj hlt => ?_, fun i j => Int.le_trans (hle i j) (h.le i j)⟩, ?_, hle⟩
  · have h1 : -1152921504606846976 ≤ c i j ∧ c i j ≤ 1152921504606846976 := h.inN i j
    show -1152921504606846976 ≤ _ ∧ _ ≤ 1152921504606846976
    unfold upd2
    split
    · rename_i e; rw [← e.1, ← e.2]; omega
    · exact h1
  · have h1 : c i j = 1152921504606846976 ∨ (-1000000001 ≤ c i j ∧ c i j ≤ 1000000001) := h.bound i j hi hj
    show _ = 1152921504606846976 ∨ (-1000000001 ≤ _ ∧ _ ≤ 1000000001)
    unfold upd2
    split
    · rename_i e; rw [← e.1, ← e.2]; omega
    · exact h1
  · unfold upd2 at hlt ⊢
    split
    · rename_i e
      rw [if_pos e] at hlt
      obtain ⟨rfl, rfl⟩ := e
      by_cases hm : c i j ≤ w
      · have hmin : min (c i j) w = c i j := by omega
        rw [hmin] at hlt ⊢
        exact h.sound i j hi hj hlt
      · exact ⟨w, Wy.one he, by omega⟩
    · rename_i e
      rw [if_neg e] at hlt
      exact h.sound i j hi hj hlt
  · unfold upd2
    rw [if_pos ⟨rfl, rfl⟩]
    omega
end Go.Fw
/-
  The document's table of least costs, plain: what it is. No program in it.
-/
namespace Go.Fw
open Go.Gr
theorem bind_inv {α β : Type} {o : Option α} {f : α → Option β} {I : α → Prop} {Q : β → Prop} (h : ∃ a, o = some a ∧ I a) (k : ∀ a, I a → ∃ r, f a = some r ∧ Q r) : ∃ r, o.bind f = some r ∧ Q r := by
  obtain ⟨a, h1, h2⟩ := h
  obtain ⟨r, h3, h4⟩ := k a h2
  exact ⟨r, (bindS h1).trans h3, h4⟩
theorem app_ok {α : Type} {z : List α} {v : α} (h : z.length ≤ 100000) : appI z [v] = some (z ++ [v]) := by unfold appI; rw [if_pos (by simp; omega)]
theorem tb_rows {x : GNet} {ks : List GPoint} (i j : Nat) : tb (ks.map fun p => ks.map (entry x p)) i j = match ks[i]?, ks[j]? with | some p, some q => entry x p q | _, _ => 0 := by
  unfold tb
  rw [List.getElem?_map]
  cases ks[i]? with
  | none => rfl
  | some p =>
    show ((ks.map (entry x p))[j]?).getD 0 = _
    rw [List.getElem?_map]
    cases ks[j]? <;> rfl
theorem idx_get {ks : List GPoint} (hn : ks.Nodup) {i : Nat} {p : GPoint} (h : ks[i]? = some p) : ks.idxOf p = i := by
  obtain ⟨hi, rfl⟩ := List.getElem?_eq_some_iff.1 h
  have h1 := List.getElem_idxOf (List.idxOf_lt_length_iff.2 (List.getElem_mem hi))
  exact (List.getElem_inj hn).1 h1
theorem rows_ok {x : GNet} {ks : List GPoint} (hx : vNet x = true) (hn : ks.Nodup) (hg : ∀ p ∈ ks, Good x p) : TOk ks.length (EI x ks) (tb (ks.map fun p => ks.map (entry x p))) (tb (ks.map fun p => ks.map (entry x p))) := by
  have hent : ∀ p ∈ ks, ∀ q ∈ ks, entry x p q = 1152921504606846976 ∨ (-1000000001 ≤ entry x p q ∧ entry x p q ≤ 1000000001) := by
    intro p hp q hq
    unfold entry
    obtain ⟨_, _, p3, p4⟩ := hg p hp
    obtain ⟨_, _, q3, q4⟩ := hg q hq
    split
    · exact .inr (by omega)
    · split
      · have := carryV_in (rateF_in hx p.clock) (d := p.at_ - q.at_) (by omega)
        exact .inr (by omega)
      · exact .inl rfl
  refine ⟨fun i j => ?_, fun i j hi hj => ?_, fun i j hi hj hlt => ?_, fun _ _ => Int.le_refl _⟩
  · rw [tb_rows]
    show -1152921504606846976 ≤ _ ∧ _ ≤ 1152921504606846976
    cases h1 : ks[i]? with
    | none =>
      show -1152921504606846976 ≤ (0 : Int) ∧ (0 : Int) ≤ 1152921504606846976
      omega
    | some p =>
      cases h2 : ks[j]? with
      | none =>
        show -1152921504606846976 ≤ (0 : Int) ∧ (0 : Int) ≤ 1152921504606846976
        omega
      | some q =>
        have := hent p (List.mem_of_getElem? h1) q (List.mem_of_getElem? h2)
        show -1152921504606846976 ≤ entry x p q ∧ entry x p q ≤ 1152921504606846976
        omega
  · rw [tb_rows, List.getElem?_eq_getElem hi, List.getElem?_eq_getElem hj]
    exact hent _ (List.getElem_mem hi) _ (List.getElem_mem hj)
  · rw [tb_rows, List.getElem?_eq_getElem hi, List.getElem?_eq_getElem hj] at hlt ⊢
    dsimp only at hlt ⊢
    have mi := List.getElem_mem hi
    have mj := List.getElem_mem hj
    have ii := idx_get hn (List.getElem?_eq_getElem hi)
    have ij := idx_get hn (List.getElem?_eq_getElem hj)
    generalize ks[i] = p at hlt mi ii
    generalize ks[j] = q at hlt mj ij
    unfold entry at hlt ⊢
    by_cases hpq : p = q
    · subst hpq
      rw [if_pos rfl]
      rw [← ii, ← ij]
      exact ⟨0, .nil _, Int.le_refl _⟩
    · rw [if_neg hpq] at hlt ⊢
      by_cases hc : p.clock = q.clock
      · rw [if_pos hc]
        exact ⟨_, Wy.one ⟨p, mi, q, mj, ii, ij, mi, mj, .inl ⟨hc, rfl⟩⟩, Int.le_refl _⟩
      · rw [if_neg hc] at hlt
        exact absurd hlt (Int.lt_irrefl _)
/-- What the document's graph is. -/
structure RSpec (x : GNet) (more ks : List GPoint) (z : Zt) : Prop where
  nodup : ks.Nodup
  sub : ∀ p ∈ more, p ∈ ks
  good : ∀ p ∈ ks, Good x p
  shape : Shape ks.length z
  diag : (∀ i, i < ks.length → 0 ≤ tb z i i) ↔ NoNeg (ENx x)
  least : NoNeg (ENx x) → ∀ p ∈ ks, ∀ q ∈ ks, (tb z (ks.idxOf p) (ks.idxOf q) < NN → Least (ENx x) p q (tb z (ks.idxOf p) (ks.idxOf q))) ∧ (¬ tb z (ks.idxOf p) (ks.idxOf q) < NN → tb z (ks.idxOf p) (ks.idxOf q) = NN ∧ ∀ d, ¬ Wy (ENx x) p q d)
theorem pow_small : ∀ n : Nat, n < 20 → (1000000001 : Int) * 2 ^ n * 2 < 1152921504606846976 := by decide
theorem ways_spec {x : GNet} (hx : vNet x = true) (hs8 : x.Sights.length ≤ 8) {more : List GPoint} (hm : ∀ p ∈ more, Good x p) (hl : more.length ≤ 2) : ∃ r, noongunref02_ways x more = some r ∧ RSpec x more r.1 r.2 := by
  have hv := vNet_iff.1 hx
  have g0 : Good x (spot 0 0) := spot_good ⟨Int.le_refl _, by omega⟩ ⟨Int.le_refl _, by decide⟩
  have hsg : ∀ s ∈ x.Sights, Good x (spot s.A s.At) ∧ Good x (spot s.B s.At) := fun s hs => stp_good (hv.2.2.2.2.2 s hs) false
  have hal : (x.Sights.flatMap fun s => [spot s.A s.At, spot s.B s.At]).length = 2 * x.Sights.length := by
    induction x.Sights with
    | nil => rfl
    | cons s l ih => rw [List.flatMap_cons, List.length_append, ih, List.length_cons]; simp; omega
  have hlen : (askedL x.Sights more).length ≤ 18 := by unfold askedL; rw [List.length_append, hal]; omega
  obtain ⟨ks, k1, k2, k3, k4, k5⟩ := points_loop (x := x) (askedL x.Sights more) (by omega) (fun p hp => by
    rcases List.mem_append.1 hp with h | h
    · exact hm p h
    · obtain ⟨s, hs, h⟩ := List.mem_flatMap.1 h
      rcases List.mem_cons.1 h with rfl | h
      · exact (hsg s hs).1
      · rw [List.mem_singleton.1 h]; exact (hsg s hs).2) g0
  have hcov : Covers x.Sights (· ∈ ks) := fun s hs => ⟨k3 _ (List.mem_append_right _ (List.mem_flatMap.2 ⟨s, hs, by simp⟩)), k3 _ (List.mem_append_right _ (List.mem_flatMap.2 ⟨s, hs, by simp⟩))⟩
  have hr0 := rows_ok hx k2 k4
  unfold noongunref02_ways
  rw [spot_eq, Option.bind_some]
  refine bind_inv (I := fun a => a = askedL x.Sights more) ⟨_, ?_, rfl⟩ fun a ha => ?_
  · refine (rangeL_congr (body' := fun _ (s : GSight) z => (appI z [spot s.A s.At, spot s.B s.At]).bind fun t => some (.cont t)) (fun _ => rfl) _ _ _ fun i s z _ => by rw [spot_eq, Option.bind_some, spot_eq, Option.bind_some]).trans (rangeL_app (fun s : GSight => [spot s.A s.At, spot s.B s.At]) x.Sights 0 more (by rw [hal]; omega))
  subst ha
  refine bind_inv (I := fun a => a = ks) ⟨_, k1, rfl⟩ fun a ha => ?_
  subst ha
  refine bind_inv (I := fun z => z = a.map fun p => a.map (entry x p)) ⟨_, ?_, rfl⟩ fun z hz => ?_
  · refine (buildR (fun p => a.map (entry x p)) a 0 [] (by simp; omega) fun i p z hp hz => ?_).trans (by rw [List.nil_append])
    refine (congrArg (fun o => Option.bind (Option.bind o _) _) (?_ : _ = some (a.map (entry x p)))).trans ?_
    · refine (buildR (entry x p) a 0 [] (by simp; omega) fun i q z hq hz => ?_).trans (by rw [List.nil_append])
      unfold entry
      by_cases hpq : p = q
      · subst hpq
        simp only [beq_self_eq_true, if_true, app_ok (show z.length ≤ 100000 by omega), Option.bind_some]
      · have hb : (p == q) = false := by simpa using hpq
        simp only [hb, hpq, if_false, Bool.false_eq_true]
        by_cases hc : p.clock = q.clock
        · have hcb : (p.clock == q.clock) = true := by simpa using hc
          obtain ⟨p1, p2, p3, p4⟩ := k4 p hp
          obtain ⟨_, _, q3, q4⟩ := k4 q hq
          have hi := idx_int p1 p2
          have hrr : rateF x p.clock = x.Rates[p.clock.toNat]'(by omega) := by unfold rateF; rw [hi]; rfl
          have hb2 := rateF_in hx p.clock
          rw [if_pos hcb, if_pos hc, hi, Option.bind_some, subI_ok (by omega), Option.bind_some, refCarry_eq (by rw [← hrr]; exact hb2) (by omega), ← hrr]
          simp only [app_ok (show z.length ≤ 100000 by omega), Option.bind_some]
          rfl
        · have hcb : (p.clock == q.clock) = false := by simpa using hc
          simp only [hcb, hc, if_false, Bool.false_eq_true, app_ok (show z.length ≤ 100000 by omega), Option.bind_some]
    · simp only [app_ok (show z.length ≤ 100000 by omega), Option.bind_some]
  subst hz
  have hsh0 : Shape a.length (a.map fun p => a.map (entry x p)) := ⟨by simp, fun i row hi => by
    obtain ⟨p, _, rfl⟩ := List.mem_map.1 (List.mem_of_getElem? hi)
    simp⟩
  have hget : ∀ p ∈ a, a[a.idxOf p]? = some p := fun p hp => by rw [List.getElem?_eq_getElem (List.idxOf_lt_length_iff.2 hp), List.getElem_idxOf]
  have hrow : ∀ p ∈ a, ∀ q ∈ a, tb (a.map fun p => a.map (entry x p)) (a.idxOf p) (a.idxOf q) = entry x p q := fun p hp q hq => by rw [tb_rows, hget p hp, hget q hq]
  refine bind_inv (I := fun z => Shape a.length z ∧ TOk a.length (EI x a) (tb (a.map fun p => a.map (entry x p))) (tb z) ∧ ∀ (i : Nat) s, i < x.Sights.length → x.Sights[i]? = some s → tb z (a.idxOf (spot s.B s.At)) (a.idxOf (spot s.A s.At)) ≤ s.Hi ∧ tb z (a.idxOf (spot s.A s.At)) (a.idxOf (spot s.B s.At)) ≤ -s.Lo)
    (rangeL_inv (fun j z => Shape a.length z ∧ TOk a.length (EI x a) (tb (a.map fun p => a.map (entry x p))) (tb z) ∧ ∀ (i : Nat) s, i < j → x.Sights[i]? = some s → tb z (a.idxOf (spot s.B s.At)) (a.idxOf (spot s.A s.At)) ≤ s.Hi ∧ tb z (a.idxOf (spot s.A s.At)) (a.idxOf (spot s.B s.At)) ≤ -s.Lo) _ _ (fun j s z hs ⟨q1, q2, q3⟩ => ?_) ⟨hsh0, hr0, fun i s hi => absurd hi (Nat.not_lt_zero _)⟩) fun z ⟨z1, z2, z3⟩ => ?_
  · have hsm := List.mem_of_getElem? hs
    obtain ⟨_, _, _, _, _, _, _, l1, l2, l3⟩ := vSight_iff.1 (hv.2.2.2.2.2 s hsm)
    obtain ⟨hA, hB⟩ := hcov s hsm
    have ia := List.idxOf_lt_length_iff.2 hA
    have ib := List.idxOf_lt_length_iff.2 hB
    obtain ⟨rb, e1, e2, e3⟩ := q1.row ib
    have c1 := q1.cell e2 e3 ia
    obtain ⟨s1, s2⟩ := q1.set e2 ib ia (min (tb z (a.idxOf (spot s.B s.At)) (a.idxOf (spot s.A s.At))) s.Hi)
    obtain ⟨m1, m2, m3⟩ := q2.lower (w := s.Hi) (show -1000000001 ≤ s.Hi ∧ s.Hi ≤ 1000000001 by omega) (show EI x a (a.idxOf (spot s.B s.At)) (a.idxOf (spot s.A s.At)) s.Hi from ⟨_, hB, _, hA, rfl, rfl, hB, hA, .inr ⟨s, hsm, .inl ⟨rfl, rfl, rfl⟩⟩⟩)
    rw [← s2] at m1 m2 m3
    obtain ⟨ra, f1, f2, f3⟩ := s1.row ia
    have c2 := s1.cell f2 f3 ib
    obtain ⟨t1, t2⟩ := s1.set f2 ia ib (min (tb (z.set (a.idxOf (spot s.B s.At)) (rb.set (a.idxOf (spot s.A s.At)) (min (tb z (a.idxOf (spot s.B s.At)) (a.idxOf (spot s.A s.At))) s.Hi))) (a.idxOf (spot s.A s.At)) (a.idxOf (spot s.B s.At))) (-s.Lo))
    obtain ⟨n1, n2, n3⟩ := m1.lower (w := -s.Lo) (show -1000000001 ≤ -s.Lo ∧ -s.Lo ≤ 1000000001 by omega) (show EI x a (a.idxOf (spot s.A s.At)) (a.idxOf (spot s.B s.At)) (-s.Lo) from ⟨_, hA, _, hB, rfl, rfl, hA, hB, .inr ⟨s, hsm, .inr ⟨rfl, rfl, rfl⟩⟩⟩)
    rw [← t2] at n1 n2 n3
    have hneg : negI s.Lo = some (-s.Lo) := if_pos (inI_iff.2 (by omega))
    rw [spot_eq, Option.bind_some, index_eq, if_pos hA, Option.bind_some, spot_eq, Option.bind_some, index_eq, if_pos hB, Option.bind_some]
    simp only [e1, c1, Option.bind_some, Int.toNat_natCast, f1, c2, hneg]
    refine ⟨_, rfl, t1, n1, fun i s' hi hs' => ?_⟩
    rcases Nat.lt_or_ge i j with h | h
    · obtain ⟨g1, g2⟩ := q3 i s' h hs'
      exact ⟨Int.le_trans (n3 _ _) (Int.le_trans (m3 _ _) g1), Int.le_trans (n3 _ _) (Int.le_trans (m3 _ _) g2)⟩
    · rw [show i = j by omega, hs] at hs'
      cases hs'
      exact ⟨Int.le_trans (n3 _ _) m2, n2⟩
  · obtain ⟨z', w1, w2, w3, w4⟩ := kloop z1 z2.inN
    have hE : ∀ i j d, EI x a i j d → i < a.length ∧ j < a.length ∧ tb z i j < NN ∧ tb z i j ≤ d := by
      rintro i j d ⟨p, hp, q, hq, rfl, rfl, _, _, ⟨hc, hd⟩ | ⟨s, hsm, hS⟩⟩
      · have hle := z2.le (a.idxOf p) (a.idxOf q)
        rw [hrow p hp q hq] at hle
        have hed : entry x p q = d := by
          unfold entry
          by_cases hpq : p = q
          · subst hpq
            rw [if_pos rfl, hd, Int.sub_self, carry_zero]
          · rw [if_neg hpq, if_pos hc, hd]
        obtain ⟨_, _, p3, p4⟩ := k4 p hp
        obtain ⟨_, _, q3, q4⟩ := k4 q hq
        have := carryV_in (rateF_in hx p.clock) (d := p.at_ - q.at_) (by omega)
        rw [hed] at hle
        exact ⟨List.idxOf_lt_length_iff.2 hp, List.idxOf_lt_length_iff.2 hq, show _ < (1152921504606846976 : Int) by omega, hle⟩
      · obtain ⟨i, hi⟩ := List.getElem?_of_mem hsm
        obtain ⟨_, _, _, _, _, _, _, l1, l2, l3⟩ := vSight_iff.1 (hv.2.2.2.2.2 s hsm)
        obtain ⟨g1, g2⟩ := z3 i s (List.getElem?_eq_some_iff.1 hi).1 hi
        rcases hS with ⟨rfl, rfl, rfl⟩ | ⟨rfl, rfl, rfl⟩
        · exact ⟨List.idxOf_lt_length_iff.2 hp, List.idxOf_lt_length_iff.2 hq, show _ < (1152921504606846976 : Int) by omega, g1⟩
        · exact ⟨List.idxOf_lt_length_iff.2 hp, List.idxOf_lt_length_iff.2 hq, show _ < (1152921504606846976 : Int) by omega, g2⟩
    have F := floyd (N := NN) (B := BB) (n := a.length) (E := EI x a) (c := tb z) (by decide) (pow_small _ (by omega)) z2.inN z2.bound z2.sound (fun i hi => by
      have := z2.le i i
      rw [tb_rows, List.getElem?_eq_getElem hi] at this
      have h0 : entry x a[i] a[i] = 0 := if_pos rfl
      dsimp only at this
      omega) hE
    refine bind_inv (I := fun y => y = z') ⟨z', ?_, rfl⟩ fun y hy => ?_
    · rw [Int.toNat_natCast]
      refine (rangeN_congr (body' := fun k z => (rangeN (S := Zt) (X := Zt) (fun i z => (rangeN (S := Zt) (X := Zt) (fun j z => (jbody k.toNat i.toNat j.toNat z).bind fun s => some (Step.cont s)) (fun z => z) a.length 0 z).bind fun s => some (Step.cont s)) (fun z => z) a.length 0 z).bind fun s => some (Step.cont s)) (fin' := fun z => z) (fun _ => rfl) _ _ _ fun k z hk _ => ?_).trans w1
      obtain ⟨k', rfl⟩ := Int.eq_ofNat_of_zero_le hk
      refine (congrArg (fun o => Option.bind (Option.bind o _) _) (rangeN_congr (body' := fun i z => (rangeN (S := Zt) (X := Zt) (fun j z => (jbody (k' : Int).toNat i.toNat j.toNat z).bind fun s => some (Step.cont s)) (fun z => z) a.length 0 z).bind fun s => some (Step.cont s)) (fin' := fun z => z) (fun _ => rfl) _ _ _ fun i z hi _ => ?_)).trans ?_
      · obtain ⟨i', rfl⟩ := Int.eq_ofNat_of_zero_le hi
        refine (congrArg (fun o => Option.bind (Option.bind o _) _) (rangeN_congr (body' := fun j z => (jbody (k' : Int).toNat (i' : Int).toNat j.toNat z).bind fun s => some (Step.cont s)) (fin' := fun z => z) (fun _ => rfl) _ _ _ fun j z hj _ => ?_)).trans ?_
        · obtain ⟨j', rfl⟩ := Int.eq_ofNat_of_zero_le hj
          rfl
        · generalize rangeN (S := Zt) (X := Zt) (fun j z => (jbody (k' : Int).toNat (i' : Int).toNat j.toNat z).bind fun s => some (Step.cont s)) (fun z => z) a.length 0 z = o
          cases o <;> rfl
      · generalize rangeN (S := Zt) (X := Zt) (fun i z => (rangeN (S := Zt) (X := Zt) (fun j z => (jbody (k' : Int).toNat i.toNat j.toNat z).bind fun s => some (Step.cont s)) (fun z => z) a.length 0 z).bind fun s => some (Step.cont s)) (fun z => z) a.length 0 z = o
        cases o <;> rfl
    · subst hy
      refine ⟨(a, y), rfl, k2, fun p hp => k3 p (List.mem_append_left _ hp), k4, w2, ?_, fun hn p hp q hq => ?_⟩
      · rw [w4]
        exact F.1.trans (EI.noNeg hx hcov)
      · obtain ⟨f1, f2⟩ := F.2 ((EI.noNeg hx hcov).2 hn) _ _ (List.idxOf_lt_length_iff.2 hp) (List.idxOf_lt_length_iff.2 hq)
        rw [w4]
        exact ⟨fun h => (EI.least hx hcov hp hq _).1 (f1 h), fun h => ⟨(f2 h).1, (EI.noway hx hcov hp hq).1 (f2 h).2⟩⟩
end Go.Fw
namespace Go.Fw
open Go.Gr
theorem huntN {X : Type} (y : X) (p : Nat → Bool) {body : Int → Unit → Option (Step Unit X)} {fin : Unit → X} : ∀ (k i : Nat), (∀ j, i ≤ j → j < i + k → body (j : Int) () = some (if p j = true then .done y else .cont ())) →
    (rangeN body fin k (i : Int) () = some y ∧ ∃ j, i ≤ j ∧ j < i + k ∧ p j = true) ∨ (rangeN body fin k (i : Int) () = some (fin ()) ∧ ∀ j, i ≤ j → j < i + k → p j = false)
  | 0, i, _ => .inr ⟨rfl, fun j h1 h2 => by omega⟩
  | k + 1, i, h => by
    rw [rangeN, h i (Nat.le_refl _) (by omega), Option.bind_some]
    cases hp : p i with
    | true => exact .inl ⟨rfl, i, Nat.le_refl _, by omega, hp⟩
    | false =>
      rcases huntN y p (body := body) (fin := fin) k (i + 1) (fun j h1 h2 => h j (by omega) (by omega)) with ⟨h', j, j1, j2, j3⟩ | ⟨h', h2⟩
      · exact .inl ⟨h', j, by omega, by omega, j3⟩
      · refine .inr ⟨h', fun j j1 j2 => ?_⟩
        rcases Nat.eq_or_lt_of_le j1 with rfl | j1
        · exact hp
        · exact h2 j (by omega) (by omega)
theorem diag_eq {ks : List GPoint} {z : Zt} (hz : Shape ks.length z) : ∃ b, noongunref02_graph_consistent (GRefgraph.mk ks z) = some b ∧ (b = true ↔ ∀ i, i < ks.length → 0 ≤ tb z i i) := by
  unfold noongunref02_graph_consistent
  rw [Int.toNat_natCast]
  have h := huntN (X := Ctl Unit Bool) (Ctl.ret false) (fun j => decide (tb z j j < 0)) (body := fun ik1 _ =>
    (idx (GRefgraph.mk ks z).cost (ik1 : Int)).bind (fun x1 =>
    (idx x1 (ik1 : Int)).bind (fun x2 =>
    (if (decide (x2 < 0)) = true then
      some (Step.done (Ctl.ret false))
    else
      some (Step.cont ()))))) (fin := fun _ => Ctl.next ()) ks.length 0 (fun j _ hj => by
      obtain ⟨row, e1, e2, e3⟩ := hz.row (i := j) (by omega)
      have c := hz.cell e2 e3 (j := j) (by omega)
      show (idx z (j : Int)).bind _ = _
      rw [e1, Option.bind_some, c, Option.bind_some]
      cases decide (tb z j j < 0) <;> rfl)
  rcases h with ⟨h, j, _, j2, j3⟩ | ⟨h, hall⟩
  · refine ⟨false, (bindS h).trans rfl, ⟨fun h => (by cases h), fun h => ?_⟩⟩
    have := h j (by omega)
    rw [decide_eq_true_eq] at j3
    omega
  · refine ⟨true, (bindS h).trans rfl, ⟨fun _ i hi => ?_, fun _ => rfl⟩⟩
    have := hall i (by omega) (by omega)
    rw [decide_eq_false_iff_not] at this
    omega
theorem light_8 {x : GNet} (h : noongunlaw02_Light x = some true) (hx : vNet x = true) : x.Sights.length ≤ 8 := by
  have h30 := (vNet_iff.1 hx).2.2.2.1
  unfold noongunlaw02_Light at h
  have h := Option.some.inj h
  simp only [Bool.and_eq_true, Bool.or_eq_true, decide_eq_true_eq] at h
  omega
end Go.Fw
namespace Go.Fw
open Go.Gr
theorem asked_eq (x : GNet) (t : Int) (l : List Int) : noongunref02_asked x t l = some (if vNet x = true then (if l.all (inCl x) = true then (if 0 ≤ t ∧ t ≤ 1000000000000 then 0 else 7) else 5) else 1) := by
  unfold noongunref02_asked
  rw [eta, refValid_eq, Option.bind_some]
  cases hx : vNet x with
  | false => rfl
  | true =>
    rw [if_neg (by decide), if_pos rfl]
    refine (bindS (rangeL_search (fun c => !inCl x c) (Ctl.ret 5) l 0 () fun i c u _ => ?_)).trans ?_
    · unfold noongunref02_named
      rw [Option.bind_some]
      show (if (!inCl x c) = true then _ else _) = _
      cases inCl x c <;> rfl
    · rw [any_not]
      cases hc : l.all (inCl x) with
      | false => rfl
      | true =>
        rw [if_neg (by decide), if_pos rfl]
        show (noongunref02_within t 0 1000000000000).bind _ = _
        rw [refWithin_and, Option.bind_some]
        by_cases ht : 0 ≤ t ∧ t ≤ 1000000000000
        · rw [decide_eq_true ht.1, decide_eq_true ht.2, if_pos ht]; rfl
        · have : (decide (0 ≤ t) && decide (t ≤ 1000000000000)) = false := by rw [Bool.and_eq_false_iff, decide_eq_false_iff_not, decide_eq_false_iff_not]; omega
          rw [this, if_neg ht]; rfl
theorem bindId {o : Option (GSpan × Int)} {a : GSpan × Int} (h : o = some a) : (o.bind fun o => match o with | (t4, t5) => some (t4, t5)) = some a := by rw [h]; rfl
theorem refBetween_eq (x : GNet) (h8 : vNet x = true → x.Sights.length ≤ 8) (a b t : Int) : noongunref02_Between x a b t = some (betweenF x a b t) := by
  unfold noongunref02_Between betweenF
  rw [eta, asked_eq, Option.bind_some]
  cases hx : vNet x with
  | false => rfl
  | true =>
    rw [if_pos rfl, if_pos rfl]
    by_cases hc : [a, b].all (inCl x) = true
    · rw [if_pos hc, if_pos hc]
      by_cases ht : 0 ≤ t ∧ t ≤ 1000000000000
      · rw [if_pos ht, if_pos ht, if_neg (by decide)]
        have ha : inCl x a = true := List.all_eq_true.1 hc a (by simp)
        have hb : inCl x b = true := List.all_eq_true.1 hc b (by simp)
        have ga := spot_good (inCl_iff.1 ha) ht
        have gb := spot_good (inCl_iff.1 hb) ht
        obtain ⟨⟨ks, z⟩, h1, h⟩ := ways_spec hx (h8 hx) (more := [spot a t, spot b t]) (fun r hr => by
          rcases List.mem_cons.1 hr with rfl | hr
          · exact ga
          · rw [List.mem_singleton.1 hr]; exact gb) (by simp)
        have ma := h.sub (spot a t) (by simp)
        have mb := h.sub (spot b t) (by simp)
        dsimp only at ma mb
        rw [spot_eq, Option.bind_some, spot_eq, Option.bind_some]
        refine bindId ?_
        unfold noongunref02_between
        obtain ⟨bb, h2, h3⟩ := diag_eq h.shape
        have h4 := h3.trans h.diag
        have ia := List.idxOf_lt_length_iff.2 ma
        have ib := List.idxOf_lt_length_iff.2 mb
        obtain ⟨ra, e1, e2, e3⟩ := h.shape.row ia
        obtain ⟨rb, f1, f2, f3⟩ := h.shape.row ib
        have c1 := h.shape.cell f2 f3 ia
        have c2 := h.shape.cell e2 e3 ib
        dsimp only at e1 f1 c1 c2
        cases bb with
        | false =>
          have hn : ¬ NoNeg (ENx x) := fun hn => by cases h4.2 hn
          rw [if_neg hn]
          exact (bindS h1).trans ((bindS h2).trans rfl)
        | true =>
          have hn := h4.1 rfl
          rw [if_pos hn]
          obtain ⟨l1, l2⟩ := h.least hn _ mb _ ma
          obtain ⟨l3, l4⟩ := h.least hn _ ma _ mb
          dsimp only at l1 l2 l3 l4
          refine ((bindS h1).trans ((bindS h2).trans ?_)).trans (?_ : (if ((tb z (ks.idxOf (spot b t)) (ks.idxOf (spot a t)) == 1152921504606846976) || (tb z (ks.idxOf (spot a t)) (ks.idxOf (spot b t)) == 1152921504606846976)) = true then some (GSpan.mk 0 0, 8) else (negI (tb z (ks.idxOf (spot a t)) (ks.idxOf (spot b t)))).bind (fun t8 => some (GSpan.mk t8 (tb z (ks.idxOf (spot b t)) (ks.idxOf (spot a t))), 0)) : Option (GSpan × Int)) = _)
          · rw [if_neg (by decide)]
            simp only [index_eq, if_pos ma, if_pos mb, Option.bind_some, e1, f1, c1, c2]
          · by_cases g1 : tb z (ks.idxOf (spot b t)) (ks.idxOf (spot a t)) < NN
            · have L1 := l1 g1
              by_cases g2 : tb z (ks.idxOf (spot a t)) (ks.idxOf (spot b t)) < NN
              · have L2 := l3 g2
                have s1 := least_small hx hn gb ga L1
                have s2 := least_small hx hn ga gb L2
                rw [leastO_some.2 L1, leastO_some.2 L2]
                generalize tb z (ks.idxOf (spot b t)) (ks.idxOf (spot a t)) = u at s1
                generalize tb z (ks.idxOf (spot a t)) (ks.idxOf (spot b t)) = v at s2
                have n1 : (u == 1152921504606846976) = false := by rw [beq_eq_false_iff_ne]; omega
                have n2 : (v == 1152921504606846976) = false := by rw [beq_eq_false_iff_ne]; omega
                rw [n1, n2, if_neg (by decide)]
                unfold negI
                rw [if_pos (inI_iff.2 (by omega))]
                rfl
              · obtain ⟨n2, w2⟩ := l4 g2
                rw [leastO_some.2 L1, leastO_none w2, n2, if_pos (by simp)]
            · obtain ⟨n1, w1⟩ := l2 g1
              rw [leastO_none w1, n1, if_pos (by simp)]
      · rw [if_neg ht, if_neg ht]; rfl
    · rw [if_neg hc, if_neg hc]; rfl
end Go.Fw
namespace Go.Fw
theorem cloneI_eq {l : List Int} (h : l.length ≤ 1000) : slices_Clone_int l = some l := by
  unfold slices_Clone_int appI
  rw [if_pos (by simp only [List.length_nil]; omega)]
  rfl
theorem cloneS_eq {l : List GSight} (h : l.length ≤ 1000) : slices_Clone_Sight l = some l := by
  unfold slices_Clone_Sight appI
  rw [if_pos (by simp only [List.length_nil]; omega)]
  rfl
theorem app1 {α : Type} {l : List α} (h : l.length ≤ 1000) (x : α) : appI l [x] = some (l ++ [x]) := by
  unfold appI
  rw [if_pos (by simp; omega)]
/-- The elements at places that a test picks. -/
def keepL {α : Type} (p : Nat → Bool) : Nat → List α → List α
  | _, [] => []
  | i, x :: l => (if p i = true then [x] else []) ++ keepL p (i + 1) l
theorem keepL_all {α : Type} {p : Nat → Bool} (h : ∀ j, p j = true) : ∀ (l : List α) (i : Nat), keepL p i l = l
  | [], _ => rfl
  | x :: l, i => by rw [keepL, h i, if_pos rfl, keepL_all h l (i + 1)]; rfl
theorem keepL_erase {α : Type} (i0 : Nat) : ∀ (l : List α) (i : Nat), keepL (fun j => j != i0) i l = if i ≤ i0 then l.eraseIdx (i0 - i) else l
  | [], i => by rw [keepL]; split <;> rfl
  | x :: l, i => by
    rw [keepL, keepL_erase i0 l (i + 1)]
    by_cases h : i = i0
    · subst h
      have : (i != i) = false := bne_self_eq_false ..
      rw [this, if_neg (by decide), if_neg (by omega), if_pos (Nat.le_refl _), Nat.sub_self]
      rfl
    · have : (i != i0) = true := by simpa using h
      rw [this, if_pos rfl]
      by_cases h2 : i ≤ i0
      · rw [if_pos (by omega), if_pos h2, show i0 - i = (i0 - (i + 1)) + 1 by omega, List.eraseIdx_cons_succ]
        rfl
      · rw [if_neg (by omega), if_neg h2]
        rfl
theorem rangeN_keep {α X : Type} (p : Nat → Bool) (l : List α) {body : Int → List α → Option (Step (List α) X)} {fin : List α → X}
    (h : ∀ (j : Nat) (x : α) (z : List α), l[j]? = some x → z.length ≤ 999 → body (j : Int) z = some (.cont (z ++ if p j = true then [x] else []))) : ∀ (k i : Nat) (acc : List α), i + k = l.length → acc.length + k ≤ 1000 →
    rangeN body fin k (i : Int) acc = some (fin (acc ++ keepL p i (l.drop i)))
  | 0, i, acc, hi, _ => by
    rw [rangeN, List.drop_of_length_le (by omega), keepL, List.append_nil]
  | k + 1, i, acc, hi, ha => by
    have hlt : i < l.length := by omega
    rw [rangeN, h i l[i] acc (List.getElem?_eq_getElem hlt) (by omega), Option.bind_some, List.drop_eq_getElem_cons hlt, keepL, ← List.append_assoc]
    refine rangeN_keep p l h k (i + 1) _ (by omega) ?_
    rw [List.length_append]
    split <;> simp <;> omega
theorem rangeN_setmap {α X : Type} (p : α → Bool) (g : α → α) (y : X) (l : List α) {body : Int → List α → Option (Step (List α) X)} {fin : List α → X}
    (h : ∀ (j : Nat) (x : α) (z : List α), l[j]? = some x → z[j]? = some x → body (j : Int) z = some (if p x = true then .cont (z.set j (g x)) else .done y)) : ∀ (k i : Nat), i + k = l.length →
    rangeN body fin k (i : Int) ((l.take i).map g ++ l.drop i) = some (if (l.drop i).all p = true then fin (l.map g) else y)
  | 0, i, hi => by
    rw [rangeN, List.drop_of_length_le (by omega), List.take_of_length_le (by omega), List.append_nil]
    rfl
  | k + 1, i, hi => by
    have hlt : i < l.length := by omega
    have hm : ((l.take i).map g).length = i := by rw [List.length_map, List.length_take]; omega
    have hz : ((l.take i).map g ++ l.drop i)[i]? = some l[i] := by
      rw [List.getElem?_append_right (by omega), hm, Nat.sub_self, List.getElem?_drop, Nat.add_zero, List.getElem?_eq_getElem hlt]
    rw [rangeN, h i l[i] _ (List.getElem?_eq_getElem hlt) hz, Option.bind_some]
    have hd := List.drop_eq_getElem_cons hlt
    have hall : (l.drop i).all p = (p l[i] && (l.drop (i + 1)).all p) := by rw [hd, List.all_cons]
    cases hp : p l[i] with
    | false =>
      rw [hall, hp, Bool.false_and]
      rfl
    | true =>
      rw [hall, hp, Bool.true_and, if_pos rfl, ← rangeN_setmap p g y l h k (i + 1) (by omega)]
      dsimp only
      have : ((l.take i).map g ++ l.drop i).set i (g l[i]) = (l.take (i + 1)).map g ++ l.drop (i + 1) := by
        rw [List.set_append_right _ _ (by omega), hm, Nat.sub_self, hd, List.set_cons_zero, List.take_succ_eq_append_getElem hlt, List.map_append]
        simp
      rw [this]
      rfl
theorem rangeN_unit {X : Type} {body : Int → Unit → Option (Step Unit X)} {fin : Unit → X} : ∀ (k i : Nat), (∀ j, i ≤ j → j < i + k → body (j : Int) () = some (.cont ())) → rangeN body fin k (i : Int) () = some (fin ())
  | 0, _, _ => rfl
  | k + 1, i, h => by
    rw [rangeN, h i (Nat.le_refl _) (by omega), Option.bind_some]
    exact rangeN_unit k (i + 1) fun j h1 h2 => h j (by omega) (by omega)
theorem refSame_self (x : GNet) : noongunref02_Same x x = some true := by
  unfold noongunref02_Same
  rw [bne_self_eq_false, bne_self_eq_false, if_neg (by decide), Int.toNat_natCast, Int.toNat_natCast]
  refine (bindS (rangeN_unit x.Rates.length 0 fun j _ hj => ?_)).trans ((bindS (rangeN_unit x.Sights.length 0 fun j _ hj => ?_)).trans rfl)
  · rw [idx_at (List.getElem?_eq_getElem (by omega)), Option.bind_some, Option.bind_some, bne_self_eq_false, if_neg (by decide)]
  · rw [idx_at (List.getElem?_eq_getElem (by omega)), Option.bind_some, Option.bind_some, beq_self_eq_true, if_neg (by decide)]
/-- A net without a sight. -/
def woNet (x : GNet) (i : Nat) : GNet := ⟨x.Rates, x.Sights.eraseIdx i⟩
theorem sWithout_eq {x : GNet} (hr : x.Rates.length ≤ 900) (hs : x.Sights.length ≤ 900) {i : Nat} (hi : i < x.Sights.length) : sight_without x (i : Int) = some (woNet x i) := by
  unfold sight_without
  rw [cloneI_eq (by omega), Option.bind_some, cloneS_eq (by omega), Option.bind_some, addI_ok (by omega), Option.bind_some]
  unfold delI
  rw [if_pos (by omega), Option.bind_some, Int.toNat_natCast, show ((i : Int) + 1).toNat = i + 1 by omega]
  unfold woNet
  rw [List.eraseIdx_eq_take_drop_succ]
end Go.Fw
namespace Go.Fw
open Go.Gr
/-- What holds of a net that answers. -/
structure Calm (x : GNet) (t : Int) : Prop where
  valid : vNet x = true
  time : 0 ≤ t ∧ t ≤ 1000000000000
  noNeg : NoNeg (ENx x)
theorem between_spec {x : GNet} {t : Int} (h : Calm x t) {a b : Int} (ha : inCl x a = true) (hb : inCl x b = true) :
    ∃ sp k, sight_between x a b t = some (sp, k) ∧ (∃ w, subI sp.Hi sp.Lo = some w) ∧ (k = true → betweenF x a b t = (sp, 0)) ∧ (k = false → (betweenF x a b t).2 = 8) := by
  have e0 : betweenF x a b t = match leastO (ENx x) (spot b t) (spot a t), leastO (ENx x) (spot a t) (spot b t) with
    | some hi, some lo => (⟨-lo, hi⟩, 0)
    | _, _ => (⟨0, 0⟩, 8) := by
    unfold betweenF
    rw [if_pos h.valid, if_pos (by simp [ha, hb]), if_pos h.time, if_pos h.noNeg]
    all_goals rfl
  unfold sight_between
  by_cases hab : a = b
  · subst hab
    rw [if_pos (beq_self_eq_true a)]
    refine ⟨⟨0, 0⟩, true, rfl, ⟨0, rfl⟩, fun _ => ?_, fun h => by cases h⟩
    rw [e0, spot_self h.noNeg]
    rfl
  · rw [if_neg (by simpa using hab), pointOf_eq, Option.bind_some, pointOf_eq, Option.bind_some]
    obtain ⟨ks', st', g1, g⟩ := graph_spec h.valid (more := [spot a t, spot b t]) (fun r hr => by
      rcases List.mem_cons.1 hr with rfl | hr
      · exact spot_good (inCl_iff.1 ha) h.time
      · rw [List.mem_singleton.1 hr]
        exact spot_good (inCl_iff.1 hb) h.time) (by simp)
    have ma := g.sub (spot a t) (by simp)
    have mb := g.sub (spot b t) (by simp)
    obtain ⟨c1, k1, e1, b1, r1⟩ := g.leastG h.valid h.noNeg mb ma
    obtain ⟨c2, k2, e2, b2, r2⟩ := g.leastG h.valid h.noNeg ma mb
    refine ⟨⟨-c2, c1⟩, k1 && k2, (bindS g1).trans ((bindS e1).trans ((bindS e2).trans ?_)), ⟨_, subI_ok (by dsimp only; omega)⟩, ?_, ?_⟩
    · dsimp only
      unfold negI
      rw [if_pos (inI_iff.2 (by omega))]
      rfl
    · intro hk
      rw [Bool.and_eq_true] at hk
      obtain ⟨rfl, rfl⟩ := hk
      rcases r1 with ⟨_, r1⟩ | ⟨r1, _⟩
      · rcases r2 with ⟨_, r2⟩ | ⟨r2, _⟩
        · rw [e0, r1, r2]
        · cases r2
      · cases r1
    · intro hk
      rw [e0]
      rcases r1 with ⟨rfl, r1⟩ | ⟨_, r1, _⟩
      · rcases r2 with ⟨rfl, r2⟩ | ⟨_, r2, _⟩
        · cases hk
        · rw [r1, r2]
      · rw [r1]
theorem betweenF_congr {x y : GNet} (hx : vNet x = true) (hy : vNet y = true) (hr : y.Rates = x.Rates) (h : Dom (ENx x) (ENx y)) (k : Dom (ENx y) (ENx x)) (a b t : Int) : betweenF y a b t = betweenF x a b t := by
  have hn : NoNeg (ENx y) ↔ NoNeg (ENx x) := ⟨h.noNeg, k.noNeg⟩
  have hc : ∀ c, inCl y c = inCl x c := fun c => by unfold inCl; rw [hr]
  unfold betweenF
  rw [if_pos hx, if_pos hy, funext hc, k.leastO h, k.leastO h]
  by_cases h0 : NoNeg (ENx x)
  · rw [if_pos h0, if_pos (hn.2 h0)]
  · rw [if_neg h0, if_neg fun h1 => h0 (hn.1 h1)]
theorem vNet_sub {x y : GNet} (hx : vNet x = true) (hr : y.Rates = x.Rates) (hl : y.Sights.length ≤ 30) (hs : ∀ s ∈ y.Sights, vSight (x.Rates.length : Int) s = true) : vNet y = true := by
  obtain ⟨h1, h2, h3, h4, h5, h6⟩ := vNet_iff.1 hx
  exact vNet_iff.2 ⟨by rw [hr]; exact h1, by rw [hr]; exact h2, by rw [hr]; exact h3, hl, by rw [hr]; exact h5, by rw [hr]; exact hs⟩
theorem dom_sub {x y : GNet} (hr : y.Rates = x.Rates) (hs : ∀ s ∈ y.Sights, s ∈ x.Sights) : Dom (ENx y) (ENx x) := Dom.sub fun p q c h => by
  have hf : rateF y = rateF x := by unfold rateF; rw [hr]
  rcases h with h | ⟨s, h1, h2⟩
  · exact .inl (by rw [← hf]; exact h)
  · exact .inr ⟨s, hs s h1, h2⟩
theorem wo_valid {x : GNet} (hx : vNet x = true) (i : Nat) : vNet (woNet x i) = true := by
  refine vNet_sub hx rfl ?_ fun s hs => (vNet_iff.1 hx).2.2.2.2.2 s (List.mem_of_mem_eraseIdx hs)
  have := (vNet_iff.1 hx).2.2.2.1
  have := List.length_eraseIdx_le x.Sights i
  show (x.Sights.eraseIdx i).length ≤ 30
  omega
theorem wo_dom (x : GNet) (i : Nat) : Dom (ENx (woNet x i)) (ENx x) := dom_sub rfl fun _ hs => List.mem_of_mem_eraseIdx hs
theorem sight_in {x : GNet} (hx : vNet x = true) {s : GSight} (hs : s ∈ x.Sights) : inCl x s.A = true ∧ inCl x s.B = true ∧ 0 ≤ s.At ∧ s.At ≤ 1000000000000 := by
  obtain ⟨h1, h2, h3, h4, h5, h6, _⟩ := vSight_iff.1 ((vNet_iff.1 hx).2.2.2.2.2 s hs)
  exact ⟨inCl_iff.2 ⟨h3, h4⟩, inCl_iff.2 ⟨h5, h6⟩, h1, h2⟩
/-- Whether a sight is implied by the others. -/
noncomputable def impF (x : GNet) (i : Nat) : Bool := match x.Sights[i]? with
  | none => false
  | some s => decide ((betweenF (woNet x i) s.A s.B s.At).2 = 0) && decide (s.Lo ≤ (betweenF (woNet x i) s.A s.B s.At).1.Lo) && decide ((betweenF (woNet x i) s.A s.B s.At).1.Hi ≤ s.Hi)
theorem sImplied_eq {x : GNet} (hx : vNet x = true) (hn : NoNeg (ENx x)) {i : Nat} (hi : i < x.Sights.length) : sight_implied x (i : Int) = some (impF x i) := by
  obtain ⟨s, hs⟩ : ∃ s, x.Sights[i]? = some s := ⟨_, List.getElem?_eq_getElem hi⟩
  have hl := (vNet_iff.1 hx)
  obtain ⟨ca, cb, t1, t2⟩ := sight_in hx (List.mem_of_getElem? hs)
  have hcalm : Calm (woNet x i) s.At := ⟨wo_valid hx i, ⟨t1, t2⟩, (wo_dom x i).noNeg hn⟩
  obtain ⟨sp, k, e1, _, e3, e4⟩ := between_spec hcalm (a := s.A) (b := s.B) ca cb
  unfold sight_implied
  rw [idx_at hs, Option.bind_some, eta, sWithout_eq (by omega) (by omega) hi, Option.bind_some]
  refine (bindS e1).trans ?_
  unfold impF
  rw [hs]
  dsimp only
  cases k with
  | true =>
    rw [e3 rfl]
    rfl
  | false =>
    have := e4 rfl
    rw [this]
    rfl
/-- A sight bounds its own clocks. -/
theorem sight_bet {x : GNet} (hx : vNet x = true) (hn : NoNeg (ENx x)) {s : GSight} (hs : s ∈ x.Sights) : ∃ hi lo, BetOk x s.A s.B s.At hi lo ∧ hi ≤ s.Hi ∧ lo ≤ -s.Lo := by
  obtain ⟨ca, cb, t1, t2⟩ := sight_in hx hs
  have ga := spot_good (inCl_iff.1 ca) ⟨t1, t2⟩
  have gb := spot_good (inCl_iff.1 cb) ⟨t1, t2⟩
  have w1 : Wy (ENx x) (spot s.B s.At) (spot s.A s.At) s.Hi := Wy.one (.inr ⟨s, hs, .inl ⟨rfl, rfl, rfl⟩⟩)
  have w2 : Wy (ENx x) (spot s.A s.At) (spot s.B s.At) (-s.Lo) := Wy.one (.inr ⟨s, hs, .inr ⟨rfl, rfl, rfl⟩⟩)
  rcases least_or hx hn gb ga with ⟨hi, l1, b1⟩ | ⟨_, l1⟩
  · rcases least_or hx hn ga gb with ⟨lo, l2, b2⟩ | ⟨_, l2⟩
    · exact ⟨hi, lo, ⟨hx, ca, cb, ⟨t1, t2⟩, hn, l1, l2, b1, b2⟩, l1.2 _ w1, l2.2 _ w2⟩
    · exact absurd w2 (l2 _)
  · exact absurd w1 (l1 _)
theorem imp_dom {x : GNet} {i : Nat} (h : impF x i = true) : Dom (ENx x) (ENx (woNet x i)) := by
  intro p q c hE
  unfold impF at h
  cases hs : x.Sights[i]? with
  | none => rw [hs] at h; cases h
  | some s =>
    rw [hs] at h
    simp only [Bool.and_eq_true, decide_eq_true_eq] at h
    obtain ⟨⟨h0, h1⟩, h2⟩ := h
    obtain ⟨hi, lo, e, ok⟩ := betweenF_ok h0
    rw [e] at h1 h2
    dsimp only at h1 h2
    rcases hE with hE | ⟨s', hs', hE⟩
    · exact ⟨c, Int.le_refl _, Wy.one (.inl hE)⟩
    · by_cases hm : s' ∈ (woNet x i).Sights
      · exact ⟨c, Int.le_refl _, Wy.one (.inr ⟨s', hm, hE⟩)⟩
      · have : s' = s := by
          obtain ⟨j, hj⟩ := List.getElem?_of_mem hs'
          by_cases hji : j = i
          · subst hji
            rw [hs] at hj
            exact (Option.some.inj hj).symm
          · exact absurd (List.mem_eraseIdx_iff_getElem?.2 ⟨j, hji, hj⟩) hm
        subst this
        rcases hE with ⟨rfl, rfl, rfl⟩ | ⟨rfl, rfl, rfl⟩
        · exact ⟨hi, h2, ok.up.1⟩
        · exact ⟨lo, by omega, ok.down.1⟩
/-- The sights gone through from the last one on. -/
noncomputable def runN : Nat → GNet → List Int → List Int × GNet
  | 0, rest, out => (out, rest)
  | k + 1, rest, out => if impF rest k = true then runN k (woNet rest k) out else runN k rest ((k : Int) :: out)
def upI (k : Nat) : List Int := (List.range k).map fun i : Nat => (i : Int)
theorem upI_succ (k : Nat) : upI (k + 1) = upI k ++ [(k : Int)] := by unfold upI; rw [List.range_succ, List.map_append]; rfl
theorem upI_len (k : Nat) : (upI k).length = k := by unfold upI; rw [List.length_map, List.length_range]
theorem consF_noNeg {x : GNet} (hx : vNet x = true) : (consF x).1 = true ↔ NoNeg (ENx x) := by
  unfold consF
  rw [if_pos hx]
  simp
theorem agrees_eq (x : GNet) : sight_agrees x = some (if vNet x = true then (if (consF x).1 = true then 0 else 9) else 1) := by
  unfold sight_agrees
  rw [eta]
  refine (bindS (Consistent_eq x)).trans ?_
  unfold consF
  cases vNet x with
  | false => rfl
  | true =>
    rw [if_pos rfl, if_pos rfl]
    by_cases hn : NoNeg (ENx x) <;> simp [hn]
/-- The net with the bounds of its clocks. -/
noncomputable def tgtS (x : GNet) (s : GSight) : GSight := ⟨s.At, s.A, s.B, (betweenF x s.A s.B s.At).1.Lo, (betweenF x s.A s.B s.At).1.Hi⟩
noncomputable def tightF (x : GNet) : GNet := ⟨x.Rates, x.Sights.map (tgtS x)⟩
theorem rangeL_map {α β X : Type} (g : α → β) {body : Int → α → List β → Option (Step (List β) X)} {fin : List β → X} : ∀ (l : List α) (i : Int) (acc : List β), acc.length + l.length ≤ 1000 →
    (∀ i x s, x ∈ l → s.length ≤ 999 → body i x s = some (.cont (s ++ [g x]))) → rangeL body fin l i acc = some (fin (acc ++ l.map g))
  | [], i, acc, _, _ => by rw [rangeL, List.map_nil, List.append_nil]
  | x :: l, i, acc, hl, h => by
    rw [List.length_cons] at hl
    rw [rangeL, h i x acc (List.mem_cons_self ..) (by omega), Option.bind_some, List.map_cons, show acc ++ g x :: l.map g = (acc ++ [g x]) ++ l.map g by simp]
    exact rangeL_map g l (i + 1) (acc ++ [g x]) (by simp; omega) fun i x s hx => h i x s (List.mem_cons_of_mem _ hx)
theorem sTight_eq (x : GNet) : sight_Tight x = some (if vNet x = true then (if (consF x).1 = true then (tightF x, 0) else (⟨[], []⟩, 9)) else (⟨[], []⟩, 1)) := by
  unfold sight_Tight
  rw [eta, agrees_eq, Option.bind_some]
  cases hx : vNet x with
  | false => rfl
  | true =>
    rw [if_pos rfl, if_pos rfl]
    cases hc : (consF x).1 with
    | false => rfl
    | true =>
      have hn := (consF_noNeg hx).1 hc
      have hl := vNet_iff.1 hx
      rw [if_pos rfl, if_neg (by decide), cloneI_eq (by omega), Option.bind_some]
      refine (bindS (rangeL_map (tgtS x) x.Sights 0 [] (by simp only [List.length_nil]; omega) fun i s acc hs hacc => ?_)).trans rfl
      obtain ⟨ca, cb, t1, t2⟩ := sight_in hx hs
      obtain ⟨sp, k, e1, _, e3, e4⟩ := between_spec (x := x) (t := s.At) ⟨hx, ⟨t1, t2⟩, hn⟩ (a := s.A) (b := s.B) ca cb
      obtain ⟨hi, lo, ok, _, _⟩ := sight_bet hx hn hs
      refine (bindS e1).trans ?_
      cases k with
      | false =>
        have := e4 rfl
        rw [ok.eq] at this
        cases this
      | true =>
        have hb := e3 rfl
        dsimp only
        rw [app1 (by omega), Option.bind_some]
        unfold tgtS
        rw [hb]
theorem sNeeded_run {body : Int × List Int × List Int × List GSight → Option (Step (Int × List Int × List Int × List GSight) (List Int))}
    (hstep : ∀ (k : Nat) (rest : GNet) (out : List Int), vNet rest = true → NoNeg (ENx rest) → k < rest.Sights.length → body ((k : Int), upI (k + 1) ++ out, rest.Rates, rest.Sights) = some (.cont (if impF rest k = true then ((k : Int) - 1, upI k ++ out, (woNet rest k).Rates, (woNet rest k).Sights) else ((k : Int) - 1, upI (k + 1) ++ out, rest.Rates, rest.Sights))))
    (hend : ∀ out r s, body ((0 : Int) - 1, upI 0 ++ out, r, s) = some (.done out)) : ∀ (k : Nat) (rest : GNet) (out : List Int), vNet rest = true → NoNeg (ENx rest) → k ≤ rest.Sights.length →
    loopR body ((k : Int) - 1, upI k ++ out, rest.Rates, rest.Sights) = some (runN k rest out).1
  | 0, rest, out, _, _, _ => loopR_done (hend out _ _)
  | k + 1, rest, out, hx, hn, hk => by
    rw [show ((k + 1 : Nat) : Int) - 1 = (k : Int) by omega]
    have h := hstep k rest out hx hn hk
    rw [runN]
    by_cases hi : impF rest k = true
    · rw [if_pos hi] at h ⊢
      refine (loopR_cont _ h).trans (sNeeded_run hstep hend k (woNet rest k) out (wo_valid hx k) ((wo_dom rest k).noNeg hn) ?_)
      show k ≤ (rest.Sights.eraseIdx k).length
      rw [List.length_eraseIdx]
      split <;> omega
    · rw [if_neg hi] at h ⊢
      have e : upI (k + 1) ++ out = upI k ++ ((k : Int) :: out) := by rw [upI_succ, List.append_assoc]; rfl
      rw [e] at h ⊢
      exact (loopR_cont _ h).trans (sNeeded_run hstep hend k rest ((k : Int) :: out) hx hn (by omega))
theorem upI_loop : ∀ (k i : Nat) (acc : List Int), acc = upI i → i + k ≤ 1000 → rangeN (S := (List Int)) (X := (List Int)) (fun ik1 z2 =>
      (appI z2 ([(ik1 : Int)] : List Int)).bind (fun t2 =>
      some (Step.cont t2))) (fun z2 => z2) k (i : Int) acc = some (upI (i + k))
  | 0, i, acc, h, _ => by rw [h]; rfl
  | k + 1, i, acc, h, hl => by
    subst h
    rw [rangeN, app1 (by rw [upI_len]; omega), Option.bind_some, Option.bind_some, show i + (k + 1) = (i + 1) + k by omega]
    exact upI_loop k (i + 1) _ (upI_succ i).symm (by omega)
theorem upI_del (k : Nat) (out : List Int) : delI (upI (k + 1) ++ out) (k : Int) ((k : Int) + 1) = some (upI k ++ out) := by
  have hl := upI_len (k + 1)
  unfold delI
  rw [if_pos (by rw [List.length_append, hl]; omega), Int.toNat_natCast, show ((k : Int) + 1).toNat = k + 1 by omega, List.drop_append_of_le_length (by omega), List.drop_of_length_le (by omega), upI_succ, List.append_assoc, List.take_append_of_le_length (by rw [upI_len]; omega), List.take_of_length_le (by rw [upI_len]; omega)]
  rfl
theorem sNeeded_eq (x : GNet) : sight_Needed x = some (if vNet x = true then (if (consF x).1 = true then ((runN x.Sights.length x []).1, 0) else ([], 9)) else ([], 1)) := by
  unfold sight_Needed
  rw [eta, agrees_eq, Option.bind_some]
  cases hx : vNet x with
  | false => rfl
  | true =>
    rw [if_pos rfl, if_pos rfl]
    cases hc : (consF x).1 with
    | false => rfl
    | true =>
      have hn := (consF_noNeg hx).1 hc
      have hl := vNet_iff.1 hx
      rw [if_pos rfl, if_neg (by decide), Int.toNat_natCast]
      refine (bindS (upI_loop x.Sights.length 0 [] rfl (by omega))).trans ?_
      rw [Nat.zero_add, subI_ok (by omega), Option.bind_some]
      refine (bindS ?_).trans rfl
      have := sNeeded_run (body := fun (s : Int × (List Int) × (List Int) × (List GSight)) => match s with
      | (z8, z9, z10, z11) =>
        (if (decide (0 ≤ z8)) = true then
          ((
            (sight_implied (GNet.mk z10 z11) z8).bind (fun t4 =>
            ((
              (if t4 = true then
                (sight_without (GNet.mk z10 z11) z8).bind (fun t5 =>
                (addI z8 1).bind (fun t6 =>
                (delI z9 z8 t6).bind (fun t7 =>
                some (t7, t5.Rates, t5.Sights))))
              else
                some (z9, z10, z11))) : Option ((List Int) × (List Int) × (List GSight))).bind (fun o => match o with
              | (s6, s7, s8) =>
                some (s6, s7, s8)))) : Option ((List Int) × (List Int) × (List GSight))).bind (fun o => match o with
            | (s3, s4, s5) =>
              (subI z8 1).bind (fun t8 =>
              some (Step.cont (t8, s3, s4, s5))))
        else
          some (Step.done z9))) (fun k rest out hx hn hk => by
        have hl := vNet_iff.1 hx
        dsimp only
        rw [if_pos (decide_eq_true (Int.natCast_nonneg k)), eta, sImplied_eq hx hn hk, Option.bind_some]
        cases impF rest k with
        | false =>
          rw [if_neg (by decide), if_neg (by decide)]
          dsimp only [Option.bind_some]
          rw [subI_ok (by omega)]
          rfl
        | true =>
          rw [if_pos rfl, if_pos rfl, sWithout_eq (by omega) (by omega) hk, Option.bind_some, addI_ok (by omega), Option.bind_some, upI_del, Option.bind_some]
          dsimp only [Option.bind_some]
          rw [subI_ok (by omega)]
          rfl) (fun out r s => rfl) x.Sights.length x [] hx hn (Nat.le_refl _)
      rw [List.append_nil] at this
      exact this
end Go.Fw
namespace Go.Fw
theorem rWithout_gen {x : GNet} (hr : x.Rates.length ≤ 900) (hs : x.Sights.length ≤ 900) (a : Int) : noongunref02_without x a = some ⟨x.Rates, keepL (fun j => (j : Int) != a) 0 x.Sights⟩ := by
  unfold noongunref02_without
  have e1 : appI ([] : List Int) x.Rates = some x.Rates := by unfold appI; rw [if_pos (by simp only [List.length_nil]; omega)]; rfl
  rw [e1, Option.bind_some, Int.toNat_natCast]
  refine Eq.trans (bindS (rangeN_keep (fun j => (j : Int) != a) x.Sights (fun j s z hj hz => ?_) x.Sights.length 0 [] (by omega) (by simp; omega))) ?_
  · rw [idx_at hj, Option.bind_some, app1 (by omega)]
    cases ((j : Int) != a)
    · simp
    · rfl
  · rw [List.drop_zero, List.nil_append]
theorem rWithout_eq {x : GNet} (hr : x.Rates.length ≤ 900) (hs : x.Sights.length ≤ 900) (i : Nat) : noongunref02_without x (i : Int) = some (woNet x i) := by
  rw [rWithout_gen hr hs]
  have : (fun j : Nat => ((j : Int) != (i : Int))) = fun j => j != i := by
    funext j
    rw [Bool.eq_iff_iff, bne_iff_ne, bne_iff_ne]
    omega
  rw [this, keepL_erase, if_pos (Nat.zero_le _)]
  rfl
theorem rWithout_none {x : GNet} (hr : x.Rates.length ≤ 900) (hs : x.Sights.length ≤ 900) : noongunref02_without x (-1) = some x := by
  rw [rWithout_gen hr hs, keepL_all]
  intro j
  rw [bne_iff_ne]
  omega
end Go.Fw
namespace Go.Fw
open Go.Gr
theorem refImplied_eq {x : GNet} (hx : vNet x = true) (h8 : x.Sights.length ≤ 8) {i : Nat} (hi : i < x.Sights.length) : noongunref02_implied x (i : Int) = some (impF x i) := by
  obtain ⟨s, hs⟩ : ∃ s, x.Sights[i]? = some s := ⟨_, List.getElem?_eq_getElem hi⟩
  have hl := vNet_iff.1 hx
  unfold noongunref02_implied
  rw [idx_at hs, Option.bind_some, eta, rWithout_eq (by omega) (by omega), Option.bind_some]
  refine (bindS (refBetween_eq (woNet x i) (fun _ => ?_) _ _ _)).trans ?_
  · have := List.length_eraseIdx_le x.Sights i
    show (x.Sights.eraseIdx i).length ≤ 8
    omega
  · unfold impF
    rw [hs]
    rfl
theorem ref_diag {x : GNet} (hx : vNet x = true) (h8 : x.Sights.length ≤ 8) : ∃ ks z b, noongunref02_ways x [] = some (ks, z) ∧ noongunref02_graph_consistent (GRefgraph.mk ks z) = some b ∧ b = (consF x).1 := by
  obtain ⟨⟨ks, z⟩, h1, h⟩ := ways_spec hx h8 (more := []) (fun r hr => by cases hr) (by simp)
  obtain ⟨b, h2, h3⟩ := diag_eq h.shape
  refine ⟨ks, z, b, h1, h2, ?_⟩
  rw [Bool.eq_iff_iff, consF_noNeg hx]
  exact h3.trans h.diag
theorem refTight_eq (x : GNet) (h8 : vNet x = true → x.Sights.length ≤ 8) : noongunref02_Tight x = some (if vNet x = true then (if (consF x).1 = true then (tightF x, 0) else (⟨[], []⟩, 9)) else (⟨[], []⟩, 1)) := by
  unfold noongunref02_Tight
  rw [eta, refValid_eq, Option.bind_some]
  cases hx : vNet x with
  | false => rfl
  | true =>
    have hl := vNet_iff.1 hx
    obtain ⟨ks, z, b, h1, h2, rfl⟩ := ref_diag hx (h8 hx)
    rw [if_neg (by decide), if_pos rfl]
    refine (bindS h1).trans ((bindS h2).trans ?_)
    cases hc : (consF x).1 with
    | false => rfl
    | true =>
      rw [if_neg (by decide), if_pos rfl, rWithout_none (by omega) (by omega), Option.bind_some, Int.toNat_natCast]
      have hR := rangeN_setmap (X := List GSight) (fun _ => true) (tgtS x) [] x.Sights (fin := fun z2 => z2) (body := fun ik1 z2 =>
            (idx x.Sights (ik1 : Int)).bind (fun x1 =>
            (noongunref02_Between (GNet.mk x.Rates x.Sights) x1.A x1.B x1.At).bind (fun o => match o with
              | (t6, t7) =>
                (idx z2 (ik1 : Int)).bind (fun x2 =>
                (idx (z2.set (Int.toNat (ik1 : Int)) (GSight.mk x2.At x2.A x2.B t6.Lo x2.Hi)) (ik1 : Int)).bind (fun x3 =>
                some (Step.cont ((z2.set (Int.toNat (ik1 : Int)) (GSight.mk x2.At x2.A x2.B t6.Lo x2.Hi)).set (Int.toNat (ik1 : Int)) (GSight.mk x3.At x3.A x3.B x3.Lo t6.Hi)))))))) (fun j s z hs hz => by
          have hlt := (List.getElem?_eq_some_iff.1 hz).1
          rw [idx_at hs, Option.bind_some, eta]
          refine (bindS (refBetween_eq x h8 _ _ _)).trans ?_
          obtain ⟨sp, e⟩ : ∃ sp, betweenF x s.A s.B s.At = sp := ⟨_, rfl⟩
          unfold tgtS
          rw [e]
          obtain ⟨sp, e⟩ := sp
          dsimp only
          rw [idx_at hz, Option.bind_some, Int.toNat_natCast, idx_at (List.getElem?_set_self hlt), Option.bind_some, List.set_set]
          rfl) x.Sights.length 0 (by omega)
      rw [List.take_zero, List.map_nil, List.nil_append, List.drop_zero, if_pos (by simp)] at hR
      exact (bindS hR).trans rfl
theorem rNeeded_run {body : Int × List Int × List GSight × List Int → Option (Step (Int × List Int × List GSight × List Int) (List Int))}
    (hstep : ∀ (k : Nat) (rest : GNet) (out : List Int), vNet rest = true → rest.Sights.length ≤ 8 → out.length + k ≤ 8 → k < rest.Sights.length → body ((k : Int), rest.Rates, rest.Sights, out) = some (.cont (if impF rest k = true then ((k : Int) - 1, (woNet rest k).Rates, (woNet rest k).Sights, out) else ((k : Int) - 1, rest.Rates, rest.Sights, (k : Int) :: out))))
    (hend : ∀ out r s, body ((0 : Int) - 1, r, s, out) = some (.done out)) : ∀ (k : Nat) (rest : GNet) (out : List Int), vNet rest = true → rest.Sights.length ≤ 8 → out.length + k ≤ 8 → k ≤ rest.Sights.length →
    loopR body ((k : Int) - 1, rest.Rates, rest.Sights, out) = some (runN k rest out).1
  | 0, rest, out, _, _, _, _ => loopR_done (hend out _ _)
  | k + 1, rest, out, hx, h8, ho, hk => by
    rw [show ((k + 1 : Nat) : Int) - 1 = (k : Int) by omega]
    have h := hstep k rest out hx h8 (by omega) hk
    rw [runN]
    by_cases hi : impF rest k = true
    · rw [if_pos hi] at h ⊢
      have hle := List.length_eraseIdx (l := rest.Sights) (i := k)
      refine (loopR_cont _ h).trans (rNeeded_run hstep hend k (woNet rest k) out (wo_valid hx k) ?_ (by omega) ?_)
      · show (rest.Sights.eraseIdx k).length ≤ 8
        rw [hle]; split <;> omega
      · show k ≤ (rest.Sights.eraseIdx k).length
        rw [hle]; split <;> omega
    · rw [if_neg hi] at h ⊢
      exact (loopR_cont _ h).trans (rNeeded_run hstep hend k rest ((k : Int) :: out) hx h8 (by rw [List.length_cons]; omega) (by omega))
theorem refNeeded_eq (x : GNet) (h8 : vNet x = true → x.Sights.length ≤ 8) : noongunref02_Needed x = some (if vNet x = true then (if (consF x).1 = true then ((runN x.Sights.length x []).1, 0) else ([], 9)) else ([], 1)) := by
  unfold noongunref02_Needed
  rw [eta, refValid_eq, Option.bind_some]
  cases hx : vNet x with
  | false => rfl
  | true =>
    have hl := vNet_iff.1 hx
    obtain ⟨ks, z, b, h1, h2, rfl⟩ := ref_diag hx (h8 hx)
    rw [if_neg (by decide), if_pos rfl]
    refine (bindS h1).trans ((bindS h2).trans ?_)
    cases hc : (consF x).1 with
    | false => rfl
    | true =>
      rw [if_neg (by decide), if_pos rfl, rWithout_none (by omega) (by omega), Option.bind_some, subI_ok (by omega), Option.bind_some]
      refine (bindS ?_).trans rfl
      exact rNeeded_run (fun k rest out hx h8 ho hk => by
        have hl := vNet_iff.1 hx
        dsimp only
        rw [if_pos (decide_eq_true (Int.natCast_nonneg k)), eta, refImplied_eq hx h8 hk, Option.bind_some]
        cases impF rest k with
        | false =>
          rw [if_neg (by decide), if_neg (by decide)]
          have happ : appI [(k : Int)] out = some ((k : Int) :: out) := by unfold appI; rw [if_pos (by simp only [List.length_cons, List.length_nil]; omega)]; rfl
          rw [happ]
          dsimp only [Option.bind_some]
          rw [subI_ok (by omega)]
          rfl
        | true =>
          rw [if_pos rfl, if_pos rfl, rWithout_eq (by omega) (by omega)]
          dsimp only [Option.bind_some]
          rw [subI_ok (by omega)]
          rfl) (fun out r s => rfl) x.Sights.length x [] hx (h8 hx) (by simpa using h8 hx) (Nat.le_refl _)
theorem implied_same (x : GNet) (h8 : vNet x = true → x.Sights.length ≤ 8) (i : Int) : ∃ r, sight_Implied x i = some r ∧ noongunref02_Implied x i = some r := by
  unfold sight_Implied noongunref02_Implied sight_named
  rw [eta, valid_eq, refValid_eq, Option.bind_some, Option.bind_some]
  cases hx : vNet x with
  | false => exact ⟨_, rfl, rfl⟩
  | true =>
    have hl := vNet_iff.1 hx
    have hsub : subI ((x.Sights.length : Nat) : Int) 1 = some ((x.Sights.length : Int) - 1) := subI_ok (by omega)
    rw [if_neg (by decide), if_neg (by decide), hsub, Option.bind_some, Option.bind_some]
    have hw : sight_within i 0 ((x.Sights.length : Int) - 1) = some (decide (0 ≤ i) && decide (i ≤ (x.Sights.length : Int) - 1)) := rfl
    rw [hw, refWithin_and, Option.bind_some, Option.bind_some]
    by_cases hi : 0 ≤ i ∧ i ≤ (x.Sights.length : Int) - 1
    · rw [decide_eq_true hi.1, decide_eq_true hi.2]
      obtain ⟨k, rfl⟩ := Int.eq_ofNat_of_zero_le hi.1
      obtain ⟨ks, st, g1, g⟩ := graph_spec hx (more := []) (fun r hr => by cases hr) (by simp)
      obtain ⟨ks', z, b, h1, h2, rfl⟩ := ref_diag hx (h8 hx)
      refine ⟨if (consF x).1 = true then (impF x k, 0) else (false, 9), ?_, ?_⟩
      · refine Eq.trans (bindS (if_neg (by decide))) ?_
        refine (if_neg (by decide)).trans ((bindS g1).trans ?_)
        rcases g.circle hx with ⟨q1, q2⟩ | ⟨s, path, q1, _, _, q2⟩
        · refine (bindS q1).trans ?_
          rw [(consF_noNeg hx).2 q2, sImplied_eq hx q2 (by omega)]
          rfl
        · refine (bindS q1).trans ?_
          rw [if_neg fun h => q2 ((consF_noNeg hx).1 h)]
          rfl
      · refine (if_neg (by decide)).trans ((bindS h1).trans ((bindS h2).trans ?_))
        rw [refImplied_eq hx (h8 hx) (by omega)]
        cases (consF x).1 <;> rfl
    · have : (decide (0 ≤ i) && decide (i ≤ (x.Sights.length : Int) - 1)) = false := by rw [Bool.and_eq_false_iff, decide_eq_false_iff_not, decide_eq_false_iff_not]; omega
      rw [this]
      exact ⟨_, rfl, rfl⟩
theorem same_refl (l : List Int) : noongunref01_SameInts l l = some true := by
  unfold noongunref01_SameInts
  rw [if_neg (by simp), Int.toNat_natCast]
  refine (bindS (rangeN_unit l.length 0 fun j _ hj => ?_)).trans rfl
  rw [idx_at (List.getElem?_eq_getElem (by omega)), Option.bind_some, Option.bind_some, if_neg (by simp)]
theorem law_noongunlaw02_SightTightens (a0 : GNet) (_ : okGNet a0) (a1 : Int) (_ : inI a1 = true) : noongunlaw02_SightTightens a0 a1 = some true := by
  unfold noongunlaw02_SightTightens
  obtain ⟨L, hL⟩ : ∃ L, noongunlaw02_Light (GNet.mk a0.Rates a0.Sights) = some L := ⟨_, rfl⟩
  rw [hL, Option.bind_some, awake_eq, eta]
  cases L with
  | false => rfl
  | true =>
    have h8 := light_8 hL
    rw [if_neg (by decide)]
    obtain ⟨⟨r1, r2⟩, e1, e2⟩ := implied_same a0 h8 a1
    have e3 := sTight_eq a0
    have e4 := refTight_eq a0 h8
    have e5 := sNeeded_eq a0
    have e6 := refNeeded_eq a0 h8
    generalize (if vNet a0 = true then (if (consF a0).1 = true then (tightF a0, 0) else (⟨[], []⟩, 9)) else (⟨[], []⟩, 1) : GNet × Int) = p at e3 e4
    generalize (if vNet a0 = true then (if (consF a0).1 = true then ((runN a0.Sights.length a0 []).1, 0) else ([], 9)) else ([], 1) : List Int × Int) = q at e5 e6
    obtain ⟨p1, p2⟩ := p
    obtain ⟨q1, q2⟩ := q
    refine (bindS e1).trans ((bindS e2).trans ((bindS e3).trans ((bindS e4).trans ((bindS e5).trans ((bindS e6).trans ?_)))))
    dsimp only
    rw [beq_self_eq_true, beq_self_eq_true, beq_self_eq_true, beq_self_eq_true, eta, refSame_self]
    simp only [Bool.and_true, if_true, Option.bind_some, same_refl]
end Go.Fw
