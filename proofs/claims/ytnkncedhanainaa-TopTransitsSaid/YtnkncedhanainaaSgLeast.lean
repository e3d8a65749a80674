/-
  The least costs that the code pushes, plain: they are least, in whatever order the steps come. No program in it.
-/
import Derived.Test.YtnkncedhanainaaM
import Derived.Test.YtnkncedhanainaaGraph
import Derived.Test.YtnkncedhanainaaFwN
namespace Go.Fw
open Go.Gr
def edgeP : Pj GEdge Int := ⟨fun e => e.from_, fun e => e.to, fun e => e.cost⟩
abbrev edgeE (st : List GEdge) : Int → Int → Int → Prop := stepE edgeP st
/-- Steps among n points, of costs that stay small. -/
def okSteps (n : Nat) (st : List GEdge) : Bool := decide (n ≤ 1000) && decide (st.length ≤ 1000000) && st.all fun e => decide (0 ≤ e.from_) && decide (e.from_ < (n : Int)) && decide (0 ≤ e.to) && decide (e.to < (n : Int)) && decide (-2000000000 ≤ e.cost) && decide (e.cost ≤ 2000000000)
theorem okSteps_iff {n : Nat} {st : List GEdge} : okSteps n st = true ↔ n ≤ 1000 ∧ st.length ≤ 1000000 ∧ ∀ e ∈ st, (0 ≤ e.from_ ∧ e.from_ < (n : Int)) ∧ (0 ≤ e.to ∧ e.to < (n : Int)) ∧ -2000000000 ≤ e.cost ∧ e.cost ≤ 2000000000 := by
  unfold okSteps
  simp only [Bool.and_eq_true, decide_eq_true_eq, List.all_eq_true, and_assoc]
theorem okSteps_perm {n : Nat} {st st' : List GEdge} (h : st'.Perm st) : okSteps n st = true → okSteps n st' = true := by
  rw [okSteps_iff, okSteps_iff, h.length_eq]
  exact fun ⟨h1, h2, h3⟩ => ⟨h1, h2, fun e he => h3 e (h.mem_iff.1 he)⟩
theorem idx_ok {α : Type} {l : List α} {i : Int} (h0 : 0 ≤ i) (h1 : i < (l.length : Int)) : ∃ x, idx l i = some x := by
  unfold idx
  rw [if_pos h0]
  exact ⟨_, List.getElem?_eq_getElem (by omega)⟩
theorem idx_set {α : Type} {l : List α} {i j : Int} {y : α} (h0 : 0 ≤ i) (h1 : i < (l.length : Int)) (hj : 0 ≤ j) : idx (l.set (Int.toNat i) y) j = if j = i then some y else idx l j := by
  unfold idx
  rw [if_pos hj, if_pos hj, List.getElem?_set]
  by_cases h : j = i
  · subst h
    rw [if_pos rfl, if_pos rfl, if_pos (by omega)]
  · rw [if_neg (by omega), if_neg h]
theorem idx_neg {α : Type} {l : List α} {i : Int} (h : ¬ 0 ≤ i) : idx l i = none := if_neg h
abbrev Lz := List Int × List Bool
structure LOk (n : Nat) (B : Int) (z : Lz) : Prop where
  l1 : z.1.length = n
  l2 : z.2.length = n
  bound : ∀ i x, idx z.1 i = some x → -B ≤ x ∧ x ≤ B
  zero : ∀ i, idx z.2 i = some false → idx z.1 i = some 0
def toMa (z : Lz) (by_ : Int → Option GEdge) : Ma GEdge Int := ⟨fun i => if idx z.2 i = some true then idx z.1 i else none, by_⟩
def lbody (e : GEdge) (z : Lz) : Option Lz :=
  (idx z.1 e.from_).bind fun x2 => (addI x2 e.cost).bind fun t3 => (idx z.2 e.from_).bind fun x3 =>
  (if x3 = true then (idx z.2 e.to).bind fun x4 => if (!x4) = true then some true else (idx z.1 e.to).bind fun x5 => some (decide (t3 < x5)) else some false).bind fun b5 =>
  if b5 = true then (idx z.1 e.to).bind fun _ => (idx z.2 e.to).bind fun _ => some (z.1.set (Int.toNat e.to) t3, z.2.set (Int.toNat e.to) true) else some z
theorem lbody_ok {n : Nat} {B : Int} {z : Lz} (h : LOk n B z) (hB : 0 ≤ B) (hB2 : B ≤ 4000000000000000000) {e : GEdge} (hf : 0 ≤ e.from_ ∧ e.from_ < (n : Int)) (ht : 0 ≤ e.to ∧ e.to < (n : Int)) (hc : -2000000000 ≤ e.cost ∧ e.cost ≤ 2000000000) (by_ : Int → Option GEdge) :
    ∃ z' by', lbody e z = some z' ∧ LOk n (B + 2000000000) z' ∧ Push edgeP (toMa z by_) e (toMa z' by') := by
  obtain ⟨x2, h2⟩ := idx_ok (l := z.1) hf.1 (by rw [h.l1]; exact hf.2)
  obtain ⟨x3, h3⟩ := idx_ok (l := z.2) hf.1 (by rw [h.l2]; exact hf.2)
  obtain ⟨x4, h4⟩ := idx_ok (l := z.2) ht.1 (by rw [h.l2]; exact ht.2)
  obtain ⟨x5, h5⟩ := idx_ok (l := z.1) ht.1 (by rw [h.l1]; exact ht.2)
  have hb := h.bound _ _ h2
  have hadd : addI x2 e.cost = some (x2 + e.cost) := if_pos (inI_iff.2 (by omega))
  have hwide : LOk n (B + 2000000000) z := ⟨h.l1, h.l2, fun i x hx => by have := h.bound i x hx; omega, h.zero⟩
  have hset : LOk n (B + 2000000000) (z.1.set (Int.toNat e.to) (x2 + e.cost), z.2.set (Int.toNat e.to) true) := by
    refine ⟨by simp [h.l1], by simp [h.l2], fun i x hx => ?_, fun i hi => ?_⟩
    · by_cases h0 : 0 ≤ i
      · rw [idx_set ht.1 (by rw [h.l1]; exact ht.2) h0] at hx
        split at hx
        · cases hx; omega
        · have := h.bound i x hx; omega
      · rw [idx_neg h0] at hx; cases hx
    · by_cases h0 : 0 ≤ i
      · rw [idx_set ht.1 (by rw [h.l2]; exact ht.2) h0] at hi
        rw [idx_set ht.1 (by rw [h.l1]; exact ht.2) h0]
        split at hi
        · cases hi
        · rename_i hne
          rw [if_neg hne]
          exact h.zero i hi
      · rw [idx_neg h0] at hi; cases hi
  have hcf : (toMa z by_).cost (edgeP.fr e) = if x3 = true then some x2 else none := by
    show (if idx z.2 e.from_ = some true then idx z.1 e.from_ else none) = _
    rw [h3, h2]
    cases x3 <;> simp
  have hct : (toMa z by_).cost (edgeP.to e) = if x4 = true then some x5 else none := by
    show (if idx z.2 e.to = some true then idx z.1 e.to else none) = _
    rw [h4, h5]
    cases x4 <;> simp
  unfold lbody
  rw [h2, Option.bind_some, hadd, Option.bind_some, h3, Option.bind_some]
  have keep : (toMa z by_).Sat edgeP e → ∃ z' by', some z = some z' ∧ LOk n (B + 2000000000) z' ∧ Push edgeP (toMa z by_) e (toMa z' by') := fun hs => ⟨z, by_, rfl, hwide, .keep hs⟩
  have low : x3 = true → (x4 = true → x2 + e.cost < x5) → ∃ z' by', some (z.1.set (Int.toNat e.to) (x2 + e.cost), z.2.set (Int.toNat e.to) true) = some z' ∧ LOk n (B + 2000000000) z' ∧ Push edgeP (toMa z by_) e (toMa z' by') := by
    intro q3 q4
    refine ⟨_, fun x => if x = e.to then some e else by_ x, rfl, hset, ?_⟩
    have hl : (toMa z by_).Lowers edgeP e x2 := by
      refine ⟨by rw [hcf, if_pos q3], fun b hb' => ?_⟩
      rw [hct] at hb'
      split at hb'
      · rename_i q; cases hb'; exact q4 q
      · cases hb'
    have := Push.low (P := edgeP) (m := toMa z by_) (s := e) x2 hl
    have heq : (toMa z by_).put (edgeP.to e) (x2 + edgeP.co e) e = toMa (z.1.set (Int.toNat e.to) (x2 + e.cost), z.2.set (Int.toNat e.to) true) (fun x => if x = e.to then some e else by_ x) := by
      unfold Ma.put toMa
      congr 1
      funext x
      show (if x = e.to then some (x2 + e.cost) else if idx z.2 x = some true then idx z.1 x else none) = if idx (z.2.set (Int.toNat e.to) true) x = some true then idx (z.1.set (Int.toNat e.to) (x2 + e.cost)) x else none
      by_cases h0 : 0 ≤ x
      · rw [idx_set ht.1 (by rw [h.l2]; exact ht.2) h0, idx_set ht.1 (by rw [h.l1]; exact ht.2) h0]
        by_cases hx : x = e.to
        · rw [if_pos hx, if_pos hx, if_pos hx, if_pos rfl]
        · rw [if_neg hx, if_neg hx, if_neg hx]
      · rw [if_neg (by omega)]
        simp [idx_neg h0]
    rw [heq] at this
    exact this
  cases x3 with
  | false =>
    simp only [Bool.false_eq_true, if_false, Option.bind_some]
    exact keep fun a ha => by rw [hcf] at ha; cases ha
  | true =>
    cases x4 with
    | false =>
      simp only [if_true, h4, h5, Option.bind_some, Bool.not_false]
      exact low rfl (fun h => by cases h)
    | true =>
      simp only [if_true, h4, h5, Option.bind_some, Bool.not_true, Bool.false_eq_true, if_false]
      by_cases hlt : x2 + e.cost < x5
      · rw [if_pos (decide_eq_true hlt)]
        exact low rfl (fun _ => hlt)
      · rw [if_neg (by simpa using hlt)]
        refine keep fun a ha => ?_
        rw [hcf] at ha
        cases ha
        exact ⟨x5, by rw [hct]; rfl, by show x5 ≤ x2 + e.cost; omega⟩
theorem lround {n : Nat} : ∀ (l : List GEdge) (i : Int) (B : Int) (z : Lz) (by_ : Int → Option GEdge), LOk n B z → 0 ≤ B → B + 2000000000 * (l.length : Int) ≤ 4000000000000000000 → (∀ e ∈ l, (0 ≤ e.from_ ∧ e.from_ < (n : Int)) ∧ (0 ≤ e.to ∧ e.to < (n : Int)) ∧ -2000000000 ≤ e.cost ∧ e.cost ≤ 2000000000) →
    ∃ z' by', rangeL (α := GEdge) (S := Lz) (X := Lz) (fun _ e z => (lbody e z).bind fun z => some (Step.cont z)) (fun z => z) l i z = some z' ∧ LOk n (B + 2000000000 * (l.length : Int)) z' ∧ Pushes edgeP (toMa z by_) l (toMa z' by')
  | [], i, B, z, by_, h, _, _, _ => ⟨z, by_, rfl, by simpa using h, .nil _⟩
  | e :: l, i, B, z, by_, h, hB, hB2, hl => by
    rw [List.length_cons] at hB2
    obtain ⟨h1, h2, h3⟩ := hl e (List.mem_cons_self ..)
    obtain ⟨z1, b1, k1, k2, k3⟩ := lbody_ok h hB (by omega) h1 h2 h3 by_
    obtain ⟨z2, b2, k4, k5, k6⟩ := lround l (i + 1) (B + 2000000000) z1 b1 k2 (by omega) (by omega) fun e he => hl e (List.mem_cons_of_mem _ he)
    refine ⟨z2, b2, ?_, ?_, .cons k3 k6⟩
    · rw [rangeL, k1]
      exact k4
    · rw [List.length_cons]
      have e : B + 2000000000 * ((l.length + 1 : Nat) : Int) = B + 2000000000 + 2000000000 * (l.length : Int) := by omega
      rw [e]; exact k5
theorem lrounds {n : Nat} {st : List GEdge} (hst : ∀ e ∈ st, (0 ≤ e.from_ ∧ e.from_ < (n : Int)) ∧ (0 ≤ e.to ∧ e.to < (n : Int)) ∧ -2000000000 ≤ e.cost ∧ e.cost ≤ 2000000000) (hm : st.length ≤ 1000000) (z0 : Lz) (_ : LOk n 0 z0) :
    ∀ (k : Nat) (i : Int) (j : Nat) (z : Lz) (by_ : Int → Option GEdge), j + k ≤ 1000 → LOk n (2000000000000000 * (j : Int)) z → Rounds edgeP st j (toMa z0 (fun _ => none)) (toMa z by_) →
    ∃ z' by', rangeN (S := Lz) (X := Lz) (fun _ z => (rangeL (α := GEdge) (S := Lz) (X := Lz) (fun _ e z => (lbody e z).bind fun z => some (Step.cont z)) (fun z => z) st 0 z).bind fun z => some (Step.cont z)) (fun z => z) k i z = some z' ∧ LOk n (2000000000000000 * ((j + k : Nat) : Int)) z' ∧ Rounds edgeP st (j + k) (toMa z0 (fun _ => none)) (toMa z' by') := by
  intro k
  induction k with
  | zero => intro i j z by_ _ hz hr; exact ⟨z, by_, rfl, hz, hr⟩
  | succ k ih =>
    intro i j z by_ hj hz hr
    obtain ⟨z1, b1, k1, k2, k3⟩ := lround st 0 _ z by_ hz (by omega) (by omega) hst
    obtain ⟨z2, b2, k4, k5, k6⟩ := ih (i + 1) (j + 1) z1 b1 (by omega) ⟨k2.l1, k2.l2, fun i x hx => by have := k2.bound i x hx; omega, k2.zero⟩ (.snoc hr k3)
    rw [show j + 1 + k = j + (k + 1) by omega] at k5 k6
    refine ⟨z2, b2, ?_, k5, k6⟩
    rw [rangeN, k1]
    exact k4
theorem stepE_perm {st st' : List GEdge} (h : st'.Perm st) : edgeE st' = edgeE st := by
  funext u v c
  exact propext ⟨fun ⟨e, he, h1⟩ => ⟨e, h.mem_iff.1 he, h1⟩, fun ⟨e, he, h1⟩ => ⟨e, h.mem_iff.2 he, h1⟩⟩
theorem least_eq (kv : List (GPoint × Int)) (st : List GEdge) (p q : GPoint) : sight_graph_least kv st p q =
    (makI (0 : Int) ((kv.length : Nat) : Int)).bind fun t1 => (makI (false : Bool) ((kv.length : Nat) : Int)).bind fun t2 => (idx t2 ((mget kv p).getD 0)).bind fun _ =>
    (chkI ((kv.length : Nat) : Int) (rangeN (S := Lz) (X := Lz) (fun _ z => (rangeL (α := GEdge) (S := Lz) (X := Lz) (fun _ e z => (lbody e z).bind fun z => some (Step.cont z)) (fun z => z) st 0 z).bind fun z => some (Step.cont z)) (fun z => z) (Int.toNat ((kv.length : Nat) : Int)) 0 (t1, t2.set (Int.toNat ((mget kv p).getD 0)) true))).bind fun z =>
    (idx z.1 ((mget kv q).getD 0)).bind fun x8 => (idx z.2 ((mget kv q).getD 0)).bind fun x9 => some (x8, x9) := by
  unfold sight_graph_least
  congr 1; funext t1
  congr 1; funext t2
  congr 1; funext x1
  congr 1
  congr 1
  refine rangeN_congr (fun _ => rfl) _ _ _ fun j s _ _ => ?_
  obtain ⟨z3, z4⟩ := s
  refine (congrArg (fun o => Option.bind (Option.bind o _) _) (rangeL_congr (body' := fun _ e z => (lbody e z).bind fun z => some (Step.cont z)) (fin' := fun z => z) (fun _ => rfl) st 0 (z3, z4) fun i x s _ => ?_)).trans ?_
  · obtain ⟨z9, z10⟩ := s
    unfold lbody
    dsimp only
    cases idx z9 x.from_ with
    | none => rfl
    | some a =>
      dsimp only [Option.bind_some]
      cases addI a x.cost with
      | none => rfl
      | some t =>
        dsimp only [Option.bind_some]
        cases idx z10 x.from_ with
        | none => rfl
        | some k =>
          dsimp only [Option.bind_some]
          cases k with
          | false => rfl
          | true =>
            cases idx z10 x.to with
            | none => rfl
            | some k2 =>
              cases k2 with
              | false => cases idx z9 x.to <;> rfl
              | true =>
                cases idx z9 x.to with
                | none => rfl
                | some b => by_cases h : t < b <;> simp [h]
  · generalize rangeL (α := GEdge) (S := Lz) (X := Lz) _ _ st 0 (z3, z4) = o
    cases o <;> rfl
/-- What the pushing of costs yields: the least cost of the ways, in whatever order the steps come. -/
theorem least_spec {kv : List (GPoint × Int)} {st : List GEdge} {p q : GPoint} {ip iq : Int} (hp : mget kv p = some ip) (hq : mget kv q = some iq) (hip : 0 ≤ ip ∧ ip < (kv.length : Int)) (hiq : 0 ≤ iq ∧ iq < (kv.length : Int))
    (ho : okSteps kv.length st = true) (hn : NoNeg (edgeE st)) :
    ∃ c k, sight_graph_least kv st p q = some (c, k) ∧ (-(2000000000000000 * (kv.length : Int)) ≤ c ∧ c ≤ 2000000000000000 * (kv.length : Int)) ∧ (k = true → Least (edgeE st) ip iq c) ∧ (k = false → c = 0 ∧ ∀ d, ¬ Wy (edgeE st) ip iq d) := by
  obtain ⟨h1, h2, h3⟩ := okSteps_iff.1 ho
  rw [least_eq, hp, hq]
  dsimp only [Option.getD_some]
  have m1 : makI (0 : Int) ((kv.length : Nat) : Int) = some (List.replicate kv.length 0) := by unfold makI; rw [if_pos (by omega)]; simp
  have m2 : makI (false : Bool) ((kv.length : Nat) : Int) = some (List.replicate kv.length false) := by unfold makI; rw [if_pos (by omega)]; simp
  rw [m1, m2, Option.bind_some, Option.bind_some]
  obtain ⟨x, hx⟩ := idx_ok (l := List.replicate kv.length false) hip.1 (by simpa using hip.2)
  rw [hx, Option.bind_some, chkI, if_pos (inI_iff.2 (by omega))]
  have hrep : ∀ {α : Type} (a : α) (i : Int) (y : α), idx (List.replicate kv.length a) i = some y → y = a := by
    intro α a i y hy
    obtain ⟨_, _, h⟩ := idx_some hy
    rw [List.getElem?_replicate] at h
    split at h
    · exact (Option.some.inj h).symm
    · cases h
  have hz0 : LOk kv.length 0 (List.replicate kv.length 0, (List.replicate kv.length false).set (Int.toNat ip) true) := by
    refine ⟨by simp, by simp, fun i y hy => ?_, fun i hi => ?_⟩
    · have := hrep _ _ _ hy; omega
    · by_cases h0 : 0 ≤ i
      · have hlt : i < (kv.length : Int) := by
          have := (idx_some hi).2.1
          simpa using this
        obtain ⟨y, hy⟩ := idx_ok (l := List.replicate kv.length (0 : Int)) h0 (by simpa using hlt)
        have := hrep _ _ _ hy
        subst this
        exact hy
      · rw [idx_neg h0] at hi; cases hi
  obtain ⟨z, by_, k1, k2, k3⟩ := lrounds h3 h2 _ hz0 kv.length 0 0 _ (fun _ => none) (by omega) (by simpa using hz0) (.nil _)
  rw [Int.toNat_natCast, k1, Option.bind_some]
  obtain ⟨c, hc⟩ := idx_ok (l := z.1) hiq.1 (by rw [k2.l1]; exact hiq.2)
  obtain ⟨k, hk⟩ := idx_ok (l := z.2) hiq.1 (by rw [k2.l2]; exact hiq.2)
  rw [hc, hk]
  refine ⟨c, k, rfl, by have := k2.bound _ _ hc; omega, ?_⟩
  have hstart : toMa (List.replicate kv.length 0, (List.replicate kv.length false).set (Int.toNat ip) true) (fun _ => none) = (⟨fun x => if x = ip then some 0 else none, fun _ => none⟩ : Ma GEdge Int) := by
    unfold toMa
    congr 1
    funext y
    by_cases h0 : 0 ≤ y
    · rw [idx_set hip.1 (by simpa using hip.2) h0]
      by_cases hy : y = ip
      · subst hy
        obtain ⟨v, hv⟩ := idx_ok (l := List.replicate kv.length (0 : Int)) hip.1 (by simpa using hip.2)
        have := hrep _ _ _ hv
        subst this
        simp [hv]
      · rw [if_neg hy, if_neg hy]
        rw [if_neg]
        intro h
        have := hrep _ _ _ h
        cases this
    · simp only [idx_neg h0]
      have : ¬ y = ip := by omega
      simp [this]
  rw [hstart, Nat.zero_add] at k3
  have hV : ∀ s ∈ st, edgeP.fr s ∈ (List.range kv.length).map (fun i : Nat => (i : Int)) := by
    intro s hs
    have := (h3 s hs).1
    exact List.mem_map.2 ⟨s.from_.toNat, List.mem_range.2 (by omega), by show ((s.from_.toNat : Nat) : Int) = s.from_; omega⟩
  have hl : ((List.range kv.length).map (fun i : Nat => (i : Int))).length = kv.length := by simp
  have := Rounds.least (P := edgeP) (steps := st) (m' := toMa z by_) ((List.range kv.length).map (fun i : Nat => (i : Int))) hV ip (by rw [hl]; exact k3) hn iq
  have hcost : (toMa z by_).cost iq = if k = true then some c else none := by
    show (if idx z.2 iq = some true then idx z.1 iq else none) = _
    rw [hk, hc]
    cases k <;> simp
  rw [hcost] at this
  refine ⟨fun h => this.1 c (by rw [if_pos h]), fun h => ⟨?_, this.2 (by rw [h]; rfl)⟩⟩
  have := k2.zero iq (by rw [hk, h])
  rw [hc] at this
  exact Option.some.inj this
open Classical in
/-- The least cost, where the steps are as they should be and no circle is below 0. -/
noncomputable def leastG (kv : List (GPoint × Int)) (st : List GEdge) (p q : GPoint) : Option (Int × Bool) :=
  if okSteps kv.length st = true ∧ NoNeg (edgeE st) ∧ (∃ i, mget kv p = some i ∧ 0 ≤ i ∧ i < (kv.length : Int)) ∧ (∃ i, mget kv q = some i ∧ 0 ≤ i ∧ i < (kv.length : Int)) then sight_graph_least kv st p q else none
theorem least_perm {kv : List (GPoint × Int)} {st st' : List GEdge} {p q : GPoint} {r : Int × Bool} (h : st'.Perm st) (hm : leastG kv st p q = some r) : sight_graph_least kv st' p q = some r := by
  unfold leastG at hm
  split at hm
  case isFalse => cases hm
  rename_i hc
  obtain ⟨h1, h2, ⟨ip, h3, h4⟩, iq, h5, h6⟩ := hc
  obtain ⟨c, k, e1, _, e2, e3⟩ := least_spec h3 h5 h4 h6 h1 h2
  obtain ⟨c', k', e4, _, e5, e6⟩ := least_spec (st := st') h3 h5 h4 h6 (okSteps_perm h h1) (by rw [stepE_perm h]; exact h2)
  rw [stepE_perm h] at e5 e6
  rw [e1] at hm
  rw [e4, ← hm]
  cases k with
  | true =>
    cases k' with
    | true => rw [(e5 rfl).uniq (e2 rfl)]
    | false => exact absurd (e2 rfl).1 ((e6 rfl).2 _)
  | false =>
    cases k' with
    | true => exact absurd (e5 rfl).1 ((e3 rfl).2 _)
    | false => rw [(e3 rfl).1, (e6 rfl).1]
end Go.Fw
