/-
  Stars at the wires, plain: what they say of clock and azimuth, and that such numbers suit. No condition.
-/
import Derived.Test.YtnkncedhanainaaTransLib
namespace Go.Fw
theorem len_of {x : GTube} {e a : Int} {t : GTransit} (g : Good x e a t) : t.Wires.length = x.Wires.length := by rw [g.wires, List.length_map]
theorem fits_eq {x : GTube} {e a : Int} {t : GTransit} (hx : transit_ValidTube x = some true) (g : Good x e a t) : transit_Fits x t = some true := by
  unfold transit_Fits
  rw [show GTube.mk x.Wires x.Error = x from rfl, hx, Option.bind_some, if_pos rfl, g.star, Option.bind_some, Option.bind_some, len_of g]
  have h1 : transit_timed t.Wires = some true := by
    unfold transit_timed
    rw [containsI_eq t.Wires (fun x0 => transit_timed_c1 x0) (fun v => !inB (-1) 86399999 v) (fun _ _ => rfl), Option.bind_some]
    have : (t.Wires.any fun v => !inB (-1) 86399999 v) = false := by
      rw [List.any_eq_false]
      intro v hv
      have := g.times v hv
      have h2 : inB (-1) 86399999 v = true := inB_iff.2 (by omega)
      rw [h2]
      decide
    rw [this]
    rfl
  rw [h1]
  simp
/-- The time at which Wired was asked. -/
def atOf (e a : Int) (t : GTransit) : Int := t.Star.Ascension - e - (t.Star.Shift * a).tdiv 1000
structure Small (x : GTube) (e a : Int) : Prop where
  len : 1 ≤ x.Wires.length ∧ x.Wires.length ≤ 7
  ws : ∀ n ∈ x.Wires, -100000 ≤ n ∧ n ≤ 100000
  e : -1000000 ≤ e ∧ e ≤ 1000000
  a : -1000 ≤ a ∧ a ≤ 1000
theorem quot_in {x : GTube} {e a : Int} {t : GTransit} (s : Small x e a) (g : Good x e a t) : (-10000 ≤ (t.Star.Shift * a).tdiv 1000 ∧ (t.Star.Shift * a).tdiv 1000 ≤ 10000) ∧
    (1000 * (t.Star.Shift * a).tdiv 1000 - 999 ≤ t.Star.Shift * a ∧ t.Star.Shift * a ≤ 1000 * (t.Star.Shift * a).tdiv 1000 + 999) := by
  have h1 : -10000000 ≤ t.Star.Shift * a ∧ t.Star.Shift * a ≤ 10000000 := by
    rcases Int.le_total 0 a with h | h
    · have := mul_in (A := 10000) (B := 1000) g.sh ⟨h, s.a.2⟩ (by decide); omega
    · have := mul_in (A := 10000) (B := 1000) (m := -a) g.sh ⟨by omega, by have := s.a.1; omega⟩ (by decide)
      rw [Int.mul_neg] at this; omega
  have h2 := Int.mul_tdiv_add_tmod (t.Star.Shift * a) 1000
  have h3 : ((t.Star.Shift * a).tmod 1000).natAbs < 1000 := by
    rw [Int.natAbs_tmod]; exact Nat.mod_lt _ (by decide)
  omega
theorem at_in {x : GTube} {e a : Int} {t : GTransit} (s : Small x e a) (g : Good x e a t) : -2000000 ≤ atOf e a t ∧ atOf e a t ≤ 90000000 := by
  have h1 := (quot_in s g).1
  have h2 := g.asc
  have h3 := s.e
  unfold atOf
  omega
theorem crossing_eq {x : GTube} {e a : Int} {t : GTransit} (s : Small x e a) (g : Good x e a t) : ∃ c, transit_crossing x t = some (c, true) ∧ (c = atOf e a t ∨ c = atOf e a t - 1) := by
  have hat := at_in s g
  have hlen := len_of g
  unfold transit_crossing
  obtain ⟨r, hr, hI⟩ := rangeN_inv (S := Int × Int) (X := Int × Int) (fin := fun s => match s with | (z3, z4) => (z3, z4)) (body := fun ik1 s =>
    match s with
    | (z3, z4) =>
      ((
        (idx t.Wires (ik1 : Int)).bind (fun x1 =>
        ((
          (if (decide (0 ≤ x1)) = true then
            (mulI 1000 x1).bind (fun t1 =>
            (addI z3 t1).bind (fun t2 =>
            (idx x.Wires (ik1 : Int)).bind (fun x2 =>
            (mulI x2 t.Star.Slow).bind (fun t3 =>
            (subI t2 t3).bind (fun t4 =>
            (addI z4 1).bind (fun t5 =>
            some (t4, t5)))))))
          else
            some (z3, z4))) : Option (Int × Int)).bind (fun o => match o with
          | (s5, s6) =>
            some (s5, s6)))) : Option (Int × Int)).bind (fun o => match o with
        | (s3, s4) =>
          some (Step.cont (s3, s4)))) (fun (j : Nat) (z : Int × Int) => j ≤ t.Wires.length ∧ z.2 = (j : Int) ∧ 1000 * (atOf e a t * (j : Int)) - 999 * (j : Int) ≤ z.1 ∧ z.1 ≤ 1000 * (atOf e a t * (j : Int))) t.Wires.length (0, 0) (by
    rintro j ⟨z3, z4⟩ hj ⟨_, rfl, h1, h2⟩
    have hj2 : j < x.Wires.length := by omega
    have ew : t.Wires[j] = atOf e a t + (x.Wires[j] * t.Star.Slow) / 1000 := by
      have h0 := g.wires
      have : t.Wires[j] = (x.Wires.map fun n => (t.Star.Ascension - e - (t.Star.Shift * a).tdiv 1000) + (n * t.Star.Slow) / 1000)[j]'(by rw [List.length_map]; exact hj2) := by
        congr 1
      rw [this, List.getElem_map]
      rfl
    have ht := g.times _ (List.getElem_mem hj)
    have hn := s.ws _ (List.getElem_mem hj2)
    have hslow := g.slow
    have hm := mul_in (A := 100000) (B := 10000) hn (by omega : 0 ≤ t.Star.Slow ∧ t.Star.Slow ≤ 10000) (by decide)
    have hjj : (j : Int) ≤ 7 ∧ (0 : Int) ≤ (j : Int) := by have := s.len; omega
    have hb : -14000000 ≤ atOf e a t * (j : Int) ∧ atOf e a t * (j : Int) ≤ 630000000 := by
      have q1 : atOf e a t * (j : Int) ≤ 90000000 * (j : Int) := Int.mul_le_mul_of_nonneg_right hat.2 hjj.2
      have q2 : -2000000 * (j : Int) ≤ atOf e a t * (j : Int) := Int.mul_le_mul_of_nonneg_right hat.1 hjj.2
      omega
    dsimp only at h1 h2 ⊢
    rw [idx_nat, List.getElem?_eq_getElem hj, Option.bind_some, decide_eq_true ht.1, if_pos rfl, mulI_ok (by omega), Option.bind_some, addI_ok (by omega), Option.bind_some, idx_nat, List.getElem?_eq_getElem hj2, Option.bind_some,
      mulI_ok (by omega), Option.bind_some, subI_ok (by omega), Option.bind_some, addI_ok (by omega)]
    refine ⟨_, rfl, by omega, by dsimp only; omega, ?_⟩
    dsimp only
    have ejj : atOf e a t * ((j + 1 : Nat) : Int) = atOf e a t * (j : Int) + atOf e a t := by
      rw [show ((j + 1 : Nat) : Int) = (j : Int) + 1 from rfl, Int.mul_add, Int.mul_one]
    rw [ejj]
    omega) ⟨Nat.zero_le _, rfl, by simp, by simp⟩
  obtain ⟨r1, r2⟩ := r
  obtain ⟨-, hI2, hI3, hI4⟩ := hI
  dsimp only at hI2 hI3 hI4
  rw [Int.toNat_natCast, hr, Option.bind_some]
  subst hI2
  have hn : 1 ≤ t.Wires.length ∧ t.Wires.length ≤ 7 := by rw [hlen]; exact s.len
  generalize t.Wires.length = n at hI3 hI4 hn ⊢
  have hne : ((n : Int) == 0) = false := by rw [beq_eq_false_iff_ne]; omega
  dsimp only
  rw [hne, if_neg (by decide), mulI_ok (by omega), Option.bind_some]
  have hb : -14000000 ≤ atOf e a t * (n : Int) ∧ atOf e a t * (n : Int) ≤ 630000000 := by
    have q1 : atOf e a t * (n : Int) ≤ 90000000 * (n : Int) := Int.mul_le_mul_of_nonneg_right hat.2 (by omega)
    have q2 : -2000000 * (n : Int) ≤ atOf e a t * (n : Int) := Int.mul_le_mul_of_nonneg_right hat.1 (by omega)
    omega
  rw [down_eq (by omega) (by omega) (by omega), Option.bind_some]
  refine ⟨_, rfl, ?_⟩
  have hpos : (0 : Int) < 1000 * (n : Int) := by omega
  have u1 : r1 / (1000 * (n : Int)) < atOf e a t + 1 := by
    rw [Int.ediv_lt_iff_lt_mul hpos, Int.add_mul, Int.one_mul, Int.mul_left_comm]
    omega
  have u2 : atOf e a t - 1 ≤ r1 / (1000 * (n : Int)) := by
    rw [Int.le_ediv_iff_mul_le hpos, Int.sub_mul, Int.one_mul, Int.mul_left_comm]
    omega
  omega
/-- What a transit says, before the tube's error. -/
def dOf (x : GTube) (t : GTransit) : Int := ((transit_Difference x t).getD (0, 0)).1
theorem diff_eq {x : GTube} {e a : Int} {t : GTransit} (hx : transit_ValidTube x = some true) (s : Small x e a) (g : Good x e a t) : transit_Difference x t = some (dOf x t, 0) ∧
    (dOf x t = e + (t.Star.Shift * a).tdiv 1000 ∨ dOf x t = e + (t.Star.Shift * a).tdiv 1000 + 1) := by
  obtain ⟨c, hc, hc2⟩ := crossing_eq s g
  have hat := at_in s g
  have hq := (quot_in s g).1
  have he := s.e
  have hasc := g.asc
  have key : transit_Difference x t = some (t.Star.Ascension - c, 0) := by
    unfold transit_Difference transit_Crossing
    rw [show GTube.mk x.Wires x.Error = x from rfl, show GTransit.mk t.Star t.Wires = t from rfl, fits_eq hx g, Option.bind_some, if_neg (by decide), hc]
    show ((if (!true) = true then some ((0 : Int), (8 : Int)) else some (c, 0)) : Option (Int × Int)).bind _ = _
    rw [if_neg (by decide), Option.bind_some]
    show (if ((0 : Int) != 0) = true then some ((0 : Int), (0 : Int)) else _) = _
    unfold atOf at hc2
    rw [if_neg (by decide), subI_ok (by omega), Option.bind_some, folded_eq (by omega)]
    rfl
  have hd : dOf x t = t.Star.Ascension - c := by unfold dOf; rw [key]; rfl
  rw [hd]
  refine ⟨key, ?_⟩
  unfold atOf at hc2
  omega
def stripOf (x : GTube) (t : GTransit) : GStrip := ⟨t.Star.Shift, dOf x t, dOf x t⟩
theorem strips_eq {x : GTube} {e a : Int} {l : List GTransit} (hx : transit_ValidTube x = some true) (s : Small x e a) (hl : 1 ≤ l.length ∧ l.length ≤ 12) (hg : ∀ t ∈ l, Good x e a t) : transit_strips x l = some (l.map (stripOf x), 0) := by
  have h1 : slices_ContainsFunc_Transit l (fun x0 => transit_strips_c1 x0 x) = some false := by
    rw [containsT_eq l _ (fun _ => false) (fun t ht => by
      show (transit_Fits (GTube.mk x.Wires x.Error) (GTransit.mk t.Star t.Wires)).bind _ = _
      rw [show GTube.mk x.Wires x.Error = x from rfl, show GTransit.mk t.Star t.Wires = t from rfl, fits_eq hx (hg t ht)]
      rfl)]
    simp
  have h2 : inB 1 12 ((l.length : Nat) : Int) = true := inB_iff.2 (by omega)
  unfold transit_strips
  rw [show GTube.mk x.Wires x.Error = x from rfl, hx, Option.bind_some, if_neg (by decide), within_eq, Option.bind_some, h2, Option.bind_some, if_neg (by decide), h1]
  rw [Option.bind_some, Option.bind_some, if_neg (by decide), rangeL_grow (fun _ => false) (stripOf x) ([], 0) l 0 [] (by simp; omega) (by
    intro i t z ht hz
    rw [show GTransit.mk t.Star t.Wires = t from rfl, (diff_eq hx s (hg t ht)).1, Option.bind_some]
    show (if ((0 : Int) != 0) = true then _ else _) = _
    rw [if_neg (by decide), app1 hz]
    rfl)]
  simp
theorem rangeL_map' {α β : Type} {body : Int → α → List β → Option (Step (List β) (List β))} (g : α → β) : ∀ (l : List α) (i : Int) (z : List β), z.length + l.length ≤ 1000 →
    (∀ i y z, y ∈ l → z.length < 1000 → body i y z = some (.cont (z ++ [g y]))) → rangeL body (fun z => z) l i z = some (z ++ l.map g)
  | [], i, z, _, _ => by simp [rangeL]
  | y :: l, i, z, hl, h => by
    rw [List.length_cons] at hl
    rw [rangeL, h i y z (List.mem_cons_self ..) (by omega), Option.bind_some]
    have := rangeL_map' g l (i + 1) (z ++ [g y]) (by rw [List.length_append, List.length_singleton]; omega) (fun i x z hx hz => h i x z (List.mem_cons_of_mem _ hx) hz)
    simpa using this
theorem wider_eq {l : List GStrip} {w : Int} (hl : l.length ≤ 1000) (hw : -100000 ≤ w ∧ w ≤ 100000) (hs : ∀ s ∈ l, (-100000000 ≤ s.lo ∧ s.lo ≤ 100000000) ∧ (-100000000 ≤ s.hi ∧ s.hi ≤ 100000000)) :
    transit_wider l w = some (l.map fun s => ⟨s.shift, s.lo - w, s.hi + w⟩) := by
  unfold transit_wider
  rw [rangeL_map' (fun s => (⟨s.shift, s.lo - w, s.hi + w⟩ : GStrip)) l 0 [] (by simpa using hl) (by
    intro i s z hm hz
    have := hs s hm
    rw [subI_ok (by omega), Option.bind_some, addI_ok (by omega), Option.bind_some, app1 hz]
    rfl)]
  simp
/-- A strip in which the clock's error e and the azimuth a lie. -/
structure In (e a : Int) (s : GStrip) : Prop where
  sh : -10000 ≤ s.shift ∧ s.shift ≤ 10000
  lo : -2000000 ≤ s.lo ∧ s.lo ≤ 2000000
  hi : -2000000 ≤ s.hi ∧ s.hi ≤ 2000000
  below : 1000 * s.lo ≤ 1000 * e + s.shift * a
  above : 1000 * e + s.shift * a ≤ 1000 * s.hi
theorem asked_eq {x : GTube} {e a : Int} {l : List GTransit} (hx : transit_ValidTube x = some true) (s : Small x e a) (hw : 2 ≤ x.Error ∧ x.Error ≤ 10000) (hl : 1 ≤ l.length ∧ l.length ≤ 12) (hg : ∀ t ∈ l, Good x e a t) :
    ∃ S, transit_asked x l = some (S, 0) ∧ S.length = l.length ∧ ∀ s ∈ S, In e a s := by
  have hd : ∀ t ∈ l, -1100000 ≤ dOf x t ∧ dOf x t ≤ 1100000 := fun t ht => by
    have h1 := (diff_eq hx s (hg t ht)).2
    have h2 := (quot_in s (hg t ht)).1
    have := s.e
    omega
  refine ⟨(l.map (stripOf x)).map fun s => ⟨s.shift, s.lo - x.Error, s.hi + x.Error⟩, ?_, by simp, fun s' hs' => ?_⟩
  · unfold transit_asked
    rw [show GTube.mk x.Wires x.Error = x from rfl, strips_eq hx s hl hg, Option.bind_some]
    show (if ((0 : Int) != 0) = true then _ else _) = _
    rw [if_neg (by decide), wider_eq (by simp; omega) (by omega) (by
      intro s hs
      obtain ⟨t, ht, rfl⟩ := List.mem_map.1 hs
      have := hd t ht
      exact ⟨⟨by show _ ≤ dOf x t; omega, by show dOf x t ≤ _; omega⟩, ⟨by show _ ≤ dOf x t; omega, by show dOf x t ≤ _; omega⟩⟩)]
    rfl
  · rw [List.map_map] at hs'
    obtain ⟨t, ht, rfl⟩ := List.mem_map.1 hs'
    have h1 := (diff_eq hx s (hg t ht)).2
    have h2 := quot_in s (hg t ht)
    have h3 := hd t ht
    exact ⟨(hg t ht).sh, by show _ ≤ dOf x t - x.Error ∧ dOf x t - x.Error ≤ _; omega, by show _ ≤ dOf x t + x.Error ∧ dOf x t + x.Error ≤ _; omega,
      by show 1000 * (dOf x t - x.Error) ≤ 1000 * e + t.Star.Shift * a; omega, by show 1000 * e + t.Star.Shift * a ≤ 1000 * (dOf x t + x.Error); omega⟩
/-! Agreement. -/
/-- A reach that has the azimuth a (in thousandths). -/
structure Has (a : Int) (r : GReach) : Prop where
  ok : r.ok = true
  lod : 0 ≤ r.lo.d ∧ r.lo.d ≤ 20000
  hid : 0 ≤ r.hi.d ∧ r.hi.d ≤ 20000
  lon : -10000000000 ≤ r.lo.n ∧ r.lo.n ≤ 10000000000
  hin : -10000000000 ≤ r.hi.n ∧ r.hi.n ≤ 10000000000
  lo : r.lo.n ≤ r.lo.d * a
  hi : r.hi.d * a ≤ r.hi.n
theorem less_eq {p q : GFraction} (hp : -10000000000 ≤ p.n ∧ p.n ≤ 10000000000) (hpd : 0 ≤ p.d ∧ p.d ≤ 20000) (hq : -10000000000 ≤ q.n ∧ q.n ≤ 10000000000) (hqd : 0 ≤ q.d ∧ q.d ≤ 20000) : transit_fraction_less p q = some (decide (p.n * q.d < q.n * p.d)) := by
  have h1 := mul_in hp hqd (by decide)
  have h2 := mul_in hq hpd (by decide)
  unfold transit_fraction_less
  rw [mulI_ok (by omega), Option.bind_some, mulI_ok (by omega)]
  rfl
theorem keep_lo {x y : GFraction} (hp : -10000000000 ≤ x.n ∧ x.n ≤ 10000000000) (hpd : 0 ≤ x.d ∧ x.d ≤ 20000) (hq : -10000000000 ≤ y.n ∧ y.n ≤ 10000000000) (hqd : 0 ≤ y.d ∧ y.d ≤ 20000) :
    transit_keep_fraction x y (fun x0 x1 => transit_fraction_greater x0 x1) = some y ∨ transit_keep_fraction x y (fun x0 x1 => transit_fraction_greater x0 x1) = some x := by
  unfold transit_keep_fraction transit_fraction_greater
  dsimp only
  rw [less_eq hp hpd hq hqd]
  cases (x == GFraction.mk 0 0) <;> cases decide (x.n * y.d < y.n * x.d) <;> simp
theorem keep_hi {x y : GFraction} (hp : -10000000000 ≤ x.n ∧ x.n ≤ 10000000000) (hpd : 0 ≤ x.d ∧ x.d ≤ 20000) (hq : -10000000000 ≤ y.n ∧ y.n ≤ 10000000000) (hqd : 0 ≤ y.d ∧ y.d ≤ 20000) :
    transit_keep_fraction x y (fun x0 x1 => transit_fraction_less x0 x1) = some y ∨ transit_keep_fraction x y (fun x0 x1 => transit_fraction_less x0 x1) = some x := by
  unfold transit_keep_fraction
  dsimp only
  rw [less_eq hq hqd hp hpd]
  cases (x == GFraction.mk 0 0) <;> cases decide (y.n * x.d < x.n * y.d) <;> simp
theorem asks_eq {a : Int} {r : GReach} {n d : Int} (h : Has a r) (hn : -10000000000 ≤ n ∧ n ≤ 10000000000) (hd : -20000 ≤ d ∧ d ≤ 20000) (hnd : n ≤ d * a) : ∃ r', transit_reach_asks r n d = some r' ∧ Has a r' := by
  obtain ⟨⟨ln, ld⟩, ⟨hn', hd'⟩, ok⟩ := r
  obtain ⟨h1, h2, h3, h4, h5, h6, h7⟩ := h
  dsimp only at h1 h2 h3 h4 h5 h6 h7
  subst h1
  unfold transit_reach_asks
  by_cases h0 : 0 < d
  · have ho : transit_over n d = some ⟨n, d⟩ := by
      unfold transit_over
      rw [decide_eq_false (show ¬ d < 0 by omega), if_neg (by decide)]
      rfl
    rw [decide_eq_true h0, if_pos rfl, ho, Option.bind_some]
    rcases keep_lo (x := ⟨ln, ld⟩) (y := ⟨n, d⟩) h4 h2 hn ⟨by show 0 ≤ d; omega, hd.2⟩ with hk | hk
    · rw [hk]
      exact ⟨_, rfl, ⟨rfl, ⟨by show 0 ≤ d; omega, hd.2⟩, h3, hn, h5, hnd, h7⟩⟩
    · rw [hk]
      exact ⟨_, rfl, ⟨rfl, h2, h3, h4, h5, h6, h7⟩⟩
  · rw [decide_eq_false h0, if_neg (by decide)]
    by_cases h0' : d < 0
    · have ho : transit_over n d = some ⟨-n, -d⟩ := by
        unfold transit_over
        rw [decide_eq_true h0', if_pos rfl, negI_ok (by omega), Option.bind_some, negI_ok (by omega)]
        rfl
      rw [decide_eq_true h0', if_pos rfl, ho, Option.bind_some]
      rcases keep_hi (x := ⟨hn', hd'⟩) (y := ⟨-n, -d⟩) h5 h3 ⟨by show _ ≤ -n; omega, by show -n ≤ _; omega⟩ ⟨by show 0 ≤ -d; omega, by show -d ≤ _; omega⟩ with hk | hk
      · rw [hk]
        exact ⟨_, rfl, ⟨rfl, h2, ⟨by show 0 ≤ -d; omega, by show -d ≤ _; omega⟩, h4, ⟨by show _ ≤ -n; omega, by show -n ≤ _; omega⟩, h6, by show -d * a ≤ -n; rw [Int.neg_mul]; omega⟩⟩
      · rw [hk]
        exact ⟨_, rfl, ⟨rfl, h2, h3, h4, h5, h6, h7⟩⟩
    · have : d = 0 := by omega
      subst this
      rw [decide_eq_false h0', if_neg (by decide), decide_eq_false (show ¬ 0 < n by omega), if_neg (by decide)]
      exact ⟨_, rfl, ⟨rfl, h2, h3, h4, h5, h6, h7⟩⟩
theorem azimuths_eq {e a : Int} {S : List GStrip} (ha : -1000 ≤ a ∧ a ≤ 1000) (hS : ∀ s ∈ S, In e a s) : ∃ r, transit_azimuths S = some r ∧ Has a r := by
  unfold transit_azimuths
  have h0 : Has a ⟨⟨0, 0⟩, ⟨0, 0⟩, true⟩ := ⟨rfl, by simp, by simp, by simp, by simp, by simp, by simp⟩
  have hin : ∀ (s : GStrip), s ∈ S → ∀ (z : Int × Int × Int × Int × Bool), Has a ⟨⟨z.1, z.2.1⟩, ⟨z.2.2.1, z.2.2.2.1⟩, z.2.2.2.2⟩ → ∃ z' : Int × Int × Int × Int × Bool, rangeL (α := GStrip) (S := Int × Int × Int × Int × Bool) (X := Int × Int × Int × Int × Bool) (fun _ yk2 s' =>
          match s' with
            | (z21, z22, z23, z24, z25) =>
              (subI s.lo yk2.hi).bind (fun t1 =>
              (mulI 1000 t1).bind (fun t2 =>
              (subI s.shift yk2.shift).bind (fun t3 =>
              (transit_reach_asks (GReach.mk (GFraction.mk z21 z22) (GFraction.mk z23 z24) z25) t2 t3).bind (fun t4 =>
              some (Step.cont (t4.lo.n, t4.lo.d, t4.hi.n, t4.hi.d, t4.ok))))))) (fun s => match s with | (z21, z22, z23, z24, z25) => (z21, z22, z23, z24, z25)) S 0 z = some z' ∧ Has a ⟨⟨z'.1, z'.2.1⟩, ⟨z'.2.2.1, z'.2.2.2.1⟩, z'.2.2.2.2⟩ := by
    intro s hs z hz
    obtain ⟨z', h1, h2⟩ := rangeL_inv (α := GStrip) (S := Int × Int × Int × Int × Bool) (X := Int × Int × Int × Int × Bool) (fin := fun s => match s with | (z21, z22, z23, z24, z25) => (z21, z22, z23, z24, z25))
      (body := fun _ yk2 s' =>
          match s' with
            | (z21, z22, z23, z24, z25) =>
              (subI s.lo yk2.hi).bind (fun t1 =>
              (mulI 1000 t1).bind (fun t2 =>
              (subI s.shift yk2.shift).bind (fun t3 =>
              (transit_reach_asks (GReach.mk (GFraction.mk z21 z22) (GFraction.mk z23 z24) z25) t2 t3).bind (fun t4 =>
              some (Step.cont (t4.lo.n, t4.lo.d, t4.hi.n, t4.hi.d, t4.ok)))))))
      (fun _ (z : Int × Int × Int × Int × Bool) => Has a ⟨⟨z.1, z.2.1⟩, ⟨z.2.2.1, z.2.2.2.1⟩, z.2.2.2.2⟩) S z (by
        rintro j t ⟨z1, z2, z3, z4, z5⟩ ht hz
        have i1 := hS s hs
        have i2 := hS t (List.mem_of_getElem? ht)
        have b1 := i1.lo
        have b2 := i2.hi
        have b3 := i1.sh
        have b4 := i2.sh
        have b5 := i1.below
        have b6 := i2.above
        have b7 : (s.shift - t.shift) * a = s.shift * a - t.shift * a := Int.sub_mul _ _ _
        dsimp only at hz ⊢
        rw [subI_ok (by omega), Option.bind_some, mulI_ok (by omega), Option.bind_some, subI_ok (by omega), Option.bind_some]
        obtain ⟨r', hr, hH⟩ := asks_eq (n := 1000 * (s.lo - t.hi)) (d := s.shift - t.shift) hz (by omega) (by omega) (by rw [b7]; omega)
        rw [hr, Option.bind_some]
        exact ⟨_, rfl, hH⟩) hz
    exact ⟨z', by rw [h1], h2⟩
  obtain ⟨z, h1, h2⟩ := rangeL_inv (α := GStrip) (S := Int × Int × Int × Int × Bool) (X := Int × Int × Int × Int × Bool) (fin := fun s => match s with | (z6, z7, z8, z9, z10) => (z6, z7, z8, z9, z10))
    (body := fun ik1 yk1 s =>
  match s with
    | (z6, z7, z8, z9, z10) =>
      ((
        ((
          rangeL (α := GStrip) (S := Int × Int × Int × Int × Bool) (X := Int × Int × Int × Int × Bool) (fun ik2 yk2 s =>
          match s with
            | (z21, z22, z23, z24, z25) =>
              (subI yk1.lo yk2.hi).bind (fun t1 =>
              (mulI 1000 t1).bind (fun t2 =>
              (subI yk1.shift yk2.shift).bind (fun t3 =>
              (transit_reach_asks (GReach.mk (GFraction.mk z21 z22) (GFraction.mk z23 z24) z25) t2 t3).bind (fun t4 =>
              some (Step.cont (t4.lo.n, t4.lo.d, t4.hi.n, t4.hi.d, t4.ok))))))) (fun s => match s with | (z21, z22, z23, z24, z25) => (z21, z22, z23, z24, z25)) S 0 (z6, z7, z8, z9, z10)) : Option (Int × Int × Int × Int × Bool)).bind (fun o => match o with
          | (s11, s12, s13, s14, s15) =>
            some (s11, s12, s13, s14, s15))) : Option (Int × Int × Int × Int × Bool)).bind (fun o => match o with
        | (s6, s7, s8, s9, s10) =>
          some (Step.cont (s6, s7, s8, s9, s10))))
    (fun _ (z : Int × Int × Int × Int × Bool) => Has a ⟨⟨z.1, z.2.1⟩, ⟨z.2.2.1, z.2.2.2.1⟩, z.2.2.2.2⟩) S (0, 0, 0, 0, true) (by
      rintro j s ⟨z1, z2, z3, z4, z5⟩ hs hz
      obtain ⟨z', h1, h2⟩ := hin s (List.mem_of_getElem? hs) (z1, z2, z3, z4, z5) hz
      refine ⟨z', ?_, h2⟩
      dsimp only
      rw [h1]
      rfl) h0
  rw [h1]
  exact ⟨_, rfl, h2⟩
theorem agree_eq {e a : Int} {S : List GStrip} (ha : -1000 ≤ a ∧ a ≤ 1000) (hS : ∀ s ∈ S, In e a s) : transit_agree S = some true := by
  obtain ⟨r, hr, h⟩ := azimuths_eq ha hS
  unfold transit_agree
  rw [hr, Option.bind_some, h.ok, if_pos rfl, less_eq h.hin h.hid h.lon h.lod]
  have : ¬ r.hi.n * r.lo.d < r.lo.n * r.hi.d := by
    have h1 : r.lo.n * r.hi.d ≤ (r.lo.d * a) * r.hi.d := Int.mul_le_mul_of_nonneg_right h.lo h.hid.1
    have h2 : (r.hi.d * a) * r.lo.d ≤ r.hi.n * r.lo.d := Int.mul_le_mul_of_nonneg_right h.hi h.lod.1
    have h3 : (r.lo.d * a) * r.hi.d = (r.hi.d * a) * r.lo.d := by
      rw [Int.mul_comm (r.lo.d * a), ← Int.mul_assoc, Int.mul_comm (r.hi.d * a) r.lo.d, ← Int.mul_assoc, Int.mul_comm r.hi.d r.lo.d]
    omega
  rw [decide_eq_false this]
  cases (r.lo.d == 0 || r.hi.d == 0) <;> rfl
end Go.Fw
