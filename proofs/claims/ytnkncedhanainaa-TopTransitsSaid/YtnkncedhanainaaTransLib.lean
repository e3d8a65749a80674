/-
  Stars at the wires, plain: what the functions of transits compute, for valid stars and tubes. No condition.
-/
import Derived.Test.YtnkncedhanainaaM2
import Derived.Test.YtnkncedhanainaaFwN
import Derived.Test.YtnkncedhanainaaAwake5
namespace Go.Fw
def inB (a b x : Int) : Bool := decide (a ≤ x) && decide (x ≤ b)
theorem inB_iff {a b x : Int} : inB a b x = true ↔ a ≤ x ∧ x ≤ b := by simp [inB]
theorem within_eq (x a b : Int) : transit_within x a b = some (inB a b x) := rfl
theorem bind_id {α : Type} (o : Option α) : (o.bind fun t => some t) = o := by cases o <;> rfl
/-- A loop that looks for something. -/
theorem rangeN_srch {X : Type} {body : Int → Unit → Option (Step Unit X)} {fin : Unit → X} (p : Nat → Bool) (y : X) : ∀ (k i : Nat), (∀ j, i ≤ j → j < i + k → body (j : Int) () = some (if p j = true then .done y else .cont ())) →
    rangeN body fin k (i : Int) () = some (if (List.range' i k).any p = true then y else fin ())
  | 0, i, _ => by simp [rangeN]
  | k + 1, i, h => by
    rw [rangeN, h i (Nat.le_refl _) (by omega), Option.bind_some, List.range'_succ, List.any_cons]
    cases hp : p i with
    | true => simp
    | false =>
      have := rangeN_srch (fin := fin) p y k (i + 1) (fun j h1 h2 => h j (by omega) (by omega))
      rw [Bool.false_or]
      exact this
/-- A loop that grows a list, or ends. -/
theorem rangeL_grow {α β R : Type} {body : Int → α → List β → Option (Step (List β) (Ctl (List β) R))} (bad : α → Bool) (g : α → β) (rt : R) : ∀ (l : List α) (i : Int) (z : List β), z.length + l.length ≤ 1000 →
    (∀ i y z, y ∈ l → z.length < 1000 → body i y z = some (if bad y = true then .done (.ret rt) else .cont (z ++ [g y]))) →
    rangeL body (fun z => .next z) l i z = some (if l.any bad = true then .ret rt else .next (z ++ l.map g))
  | [], i, z, _, _ => by simp [rangeL]
  | y :: l, i, z, hl, h => by
    rw [List.length_cons] at hl
    rw [rangeL, h i y z (List.mem_cons_self ..) (by omega), Option.bind_some, List.any_cons]
    cases hp : bad y with
    | true => simp
    | false =>
      have := rangeL_grow bad g rt l (i + 1) (z ++ [g y]) (by rw [List.length_append, List.length_singleton]; omega) (fun i x z hx hz => h i x z (List.mem_cons_of_mem _ hx) hz)
      simpa using this
theorem app1 {α : Type} {z : List α} {x : α} (h : z.length < 1000) : appI z [x] = some (z ++ [x]) := appI_ok (by rw [List.length_singleton]; omega)
/-! Numbers. -/
theorem down_eq {a b : Int} (hb : 0 < b) (hb2 : b ≤ 1000000000000) (ha : -1000000000000000000 ≤ a ∧ a ≤ 1000000000000000000) : transit_down a b = some (a / b) := by
  have h1 := Int.mul_tdiv_add_tmod a b
  have h2 : (a.tmod b).natAbs < b.natAbs := by
    rw [Int.natAbs_tmod]
    exact Nat.mod_lt _ (by omega)
  generalize hq : a.tdiv b = q at h1
  generalize hr : a.tmod b = r at h1 h2
  have hc : q * b = b * q := Int.mul_comm _ _
  have hs : (0 ≤ a → 0 ≤ r) ∧ (a ≤ 0 → r ≤ 0) := by
    constructor
    · intro h; rw [← hr]; exact Int.tmod_nonneg b h
    · intro h
      rw [← hr, ← Int.neg_neg a, Int.neg_tmod]
      have := Int.tmod_nonneg (a := -a) b (by omega)
      omega
  have hqb : -1000000000000000000 ≤ q ∧ q ≤ 1000000000000000000 := by
    have h3 : (a.tdiv b).natAbs ≤ a.natAbs := by rw [Int.natAbs_tdiv]; exact Nat.div_le_self _ _
    rw [hq] at h3
    omega
  unfold transit_down
  rw [quoI_ok (by omega) (by rw [hq]; omega), hq, Option.bind_some, mulI_ok (by rw [hc]; omega), Option.bind_some, hc]
  by_cases hl : a < b * q
  · rw [decide_eq_true hl, if_pos rfl, subI_ok (by omega)]
    have : a / b = q - 1 := (Int.ediv_emod_unique hb (r := r + b) (q := q - 1)).2 ⟨by rw [Int.mul_sub]; omega, by omega, by omega⟩ |>.1
    rw [this]
    rfl
  · rw [decide_eq_false hl, if_neg (by decide)]
    have : a / b = q := (Int.ediv_emod_unique hb (r := r) (q := q)).2 ⟨by omega, by omega, by omega⟩ |>.1
    rw [this]
    rfl
theorem folded_eq {d : Int} (h : -40000000 ≤ d ∧ d ≤ 40000000) : transit_folded d = some d := by
  unfold transit_folded
  rw [addI_ok (by omega), Option.bind_some, down_eq (by decide) (by decide) (by omega), Option.bind_some]
  have : (d + 43200000) / 86400000 = 0 := by omega
  rw [this]
  rw [mulI_ok (by decide), Option.bind_some, subI_ok (by omega)]
  simp
/-! Tubes and stars. -/
theorem tube_ex (x : GTube) (hl : x.Wires.length ≤ 20) : ∃ b, transit_ValidTube x = some b ∧ (b = true → (1 ≤ x.Wires.length ∧ x.Wires.length ≤ 7) ∧ (∀ n ∈ x.Wires, -100000 ≤ n ∧ n ≤ 100000) ∧ (0 ≤ x.Error ∧ x.Error ≤ 10000)) := by
  have hk := rangeN_srch (X := Ctl Unit Bool) (fin := fun _ => Ctl.next ()) (body := fun ik1 _ =>
    (idx x.Wires (ik1 : Int)).bind (fun x1 =>
    (transit_within x1 (-100000) 100000).bind (fun t1 =>
    ((if (!t1) = true then
      some true
    else
      ((if (decide (0 < (ik1 : Int))) = true then
        (subI (ik1 : Int) 1).bind (fun t2 =>
        (idx x.Wires t2).bind (fun x2 =>
        some (decide (x1 ≤ x2))))
      else
        some false) : Option Bool).bind (fun b3 =>
      some b3)) : Option Bool).bind (fun b2 =>
    (if b2 = true then
      some (Step.done (Ctl.ret false))
    else
      some (Step.cont ()))))))
    (fun j => !inB (-100000) 100000 (x.Wires.getD j 0) || (decide (0 < j) && decide (x.Wires.getD j 0 ≤ x.Wires.getD (j - 1) 0))) (Ctl.ret false) x.Wires.length 0 (by
    intro j _ hj
    have hj' : j < x.Wires.length := by omega
    have e1 : x.Wires.getD j 0 = x.Wires[j] := by rw [List.getD_eq_getElem?_getD, List.getElem?_eq_getElem hj']; rfl
    rw [idx_nat, List.getElem?_eq_getElem hj', Option.bind_some, within_eq, Option.bind_some, e1]
    cases hw : inB (-100000) 100000 x.Wires[j] with
    | false => rfl
    | true =>
      by_cases h0 : 0 < j
      · have e2 : x.Wires.getD (j - 1) 0 = x.Wires[j - 1]'(by omega) := by rw [List.getD_eq_getElem?_getD, List.getElem?_eq_getElem (by omega)]; rfl
        rw [decide_eq_true (show (0 : Int) < (j : Int) by omega), if_pos rfl, if_neg (by decide), subI_ok (by omega), Option.bind_some, show ((j : Int) - 1) = ((j - 1 : Nat) : Int) by omega, idx_nat, List.getElem?_eq_getElem (by omega), e2, decide_eq_true h0]
        simp only [Option.bind_some]
        cases decide (x.Wires[j] ≤ x.Wires[j - 1]) <;> rfl
      · rw [decide_eq_false (show ¬ (0 : Int) < (j : Int) by omega), decide_eq_false h0]
        rfl)
  have hn : Int.toNat ((x.Wires.length : Nat) : Int) = x.Wires.length := Int.toNat_natCast _
  unfold transit_ValidTube
  rw [hn]
  have hk0 := hk
  rw [show ((0 : Nat) : Int) = 0 from rfl] at hk0
  rw [hk0, Option.bind_some]
  cases ha : (List.range' 0 x.Wires.length).any fun j => !inB (-100000) 100000 (x.Wires.getD j 0) || (decide (0 < j) && decide (x.Wires.getD j 0 ≤ x.Wires.getD (j - 1) 0)) with
  | true => exact ⟨false, rfl, fun h => by cases h⟩
  | false =>
    refine ⟨inB 1 7 ((x.Wires.length : Nat) : Int) && inB 0 10000 x.Error, ?_, fun h => ?_⟩
    · rw [if_neg (by decide)]
      dsimp only
      rw [within_eq, Option.bind_some, within_eq]
      cases inB 1 7 ((x.Wires.length : Nat) : Int) <;> rfl
    · rw [Bool.and_eq_true, inB_iff, inB_iff] at h
      refine ⟨by omega, fun n hn => ?_, h.2⟩
      obtain ⟨j, hj, rfl⟩ := List.mem_iff_getElem.1 hn
      rw [List.any_eq_false] at ha
      have := ha j (by simp [List.mem_range']; omega)
      have e1 : x.Wires.getD j 0 = x.Wires[j] := by rw [List.getD_eq_getElem?_getD, List.getElem?_eq_getElem hj]; rfl
      rw [e1] at this
      rw [← inB_iff]
      cases hb : inB (-100000) 100000 x.Wires[j] with
      | true => rfl
      | false => rw [hb] at this; simp at this
theorem cv_byte (x : UInt8) : cvI .i64 (x.toNat : Int) = some (x.toNat : Int) := by
  unfold cvI
  rw [if_pos]
  exact wrap_of_inI (by rw [inI_iff]; have := x.toNat_lt; omega)
theorem name_ex (s : ByteArray) (hl : s.size ≤ 50) : ∃ b, transit_name s = some b := by
  unfold transit_name bytesI
  rw [if_pos (by omega), Option.bind_some]
  rw [Int.toNat_natCast]
  have hk := rangeN_srch (X := Ctl Unit Bool) (fin := fun _ => Ctl.next ()) (body := fun ik1 _ =>
    (idx (bytes s) (ik1 : Int)).bind (fun x1 =>
    ((if (!((decide (97 ≤ (x1.toNat : Int))) && (decide ((x1.toNat : Int) ≤ 122)))) = true then
      ((if ((ik1 : Int) == 0) = true then
        some true
      else
        ((if ((x1.toNat : Int) != 95) = true then
          (cvI .i64 (x1.toNat : Int)).bind (fun t2 =>
          (transit_within t2 48 57).bind (fun t3 =>
          some (!t3)))
        else
          some false) : Option Bool).bind (fun b3 =>
        some b3)) : Option Bool).bind (fun b2 =>
      some b2)
    else
      some false) : Option Bool).bind (fun b1 =>
    (if b1 = true then
      some (Step.done (Ctl.ret false))
    else
      some (Step.cont ())))))
    (fun j => !inB 97 122 (((bytes s).getD j 0).toNat : Int) && (((j : Int) == 0) || ((((bytes s).getD j 0).toNat : Int) != 95) && !inB 48 57 (((bytes s).getD j 0).toNat : Int))) (Ctl.ret false) (bytes s).length 0 (by
    intro j _ hj
    have hj' : j < (bytes s).length := by omega
    have e1 : (bytes s).getD j 0 = (bytes s)[j] := by rw [List.getD_eq_getElem?_getD, List.getElem?_eq_getElem hj']; rfl
    rw [idx_nat, List.getElem?_eq_getElem hj', Option.bind_some, e1, cv_byte]
    show _ = some (if (!(decide (97 ≤ ((bytes s)[j].toNat : Int)) && decide (((bytes s)[j].toNat : Int) ≤ 122)) && _) = true then _ else _)
    cases (decide (97 ≤ ((bytes s)[j].toNat : Int)) && decide (((bytes s)[j].toNat : Int) ≤ 122)) <;> cases ((j : Int) == 0) <;> cases (((bytes s)[j].toNat : Int) != 95) <;> simp [within_eq] <;> (cases inB 48 57 ((bytes s)[j].toNat : Int) <;> rfl))
  rw [show ((0 : Nat) : Int) = 0 from rfl] at hk
  rw [hk, Option.bind_some]
  generalize ((List.range' 0 (bytes s).length).any _) = c
  cases c
  · exact ⟨_, rfl⟩
  · exact ⟨_, rfl⟩
theorem star_ex (s : GStar) (hl : s.Name.size ≤ 50) : ∃ b, transit_ValidStar s = some b ∧ (b = true → (0 ≤ s.Ascension ∧ s.Ascension ≤ 86399999) ∧ (-10000 ≤ s.Shift ∧ s.Shift ≤ 10000) ∧ (1000 ≤ s.Slow ∧ s.Slow ≤ 10000)) := by
  obtain ⟨b, hb⟩ := name_ex s.Name hl
  refine ⟨b && inB 0 86399999 s.Ascension && inB (-10000) 10000 s.Shift && inB 1000 10000 s.Slow, ?_, fun h => ?_⟩
  · unfold transit_ValidStar
    rw [hb]
    simp only [Option.bind_some, within_eq]
    cases b <;> cases inB 0 86399999 s.Ascension <;> cases inB (-10000) 10000 s.Shift <;> cases inB 1000 10000 s.Slow <;> rfl
  · simp only [Bool.and_eq_true, inB_iff] at h
    exact ⟨h.1.1.2, h.1.2, h.2⟩
/-- A transit as Wired makes it. -/
structure Good (x : GTube) (e a : Int) (t : GTransit) : Prop where
  star : transit_ValidStar t.Star = some true
  asc : 0 ≤ t.Star.Ascension ∧ t.Star.Ascension ≤ 86399999
  sh : -10000 ≤ t.Star.Shift ∧ t.Star.Shift ≤ 10000
  slow : 1000 ≤ t.Star.Slow ∧ t.Star.Slow ≤ 10000
  wires : t.Wires = x.Wires.map fun n => (t.Star.Ascension - e - (t.Star.Shift * a).tdiv 1000) + (n * t.Star.Slow) / 1000
  times : ∀ v ∈ t.Wires, 0 ≤ v ∧ v ≤ 86399999
theorem mul_in {n m A B : Int} (h1 : -A ≤ n ∧ n ≤ A) (h2 : 0 ≤ m ∧ m ≤ B) (hA : 0 ≤ A) : -(A * B) ≤ n * m ∧ n * m ≤ A * B := by
  have a1 : n * m ≤ A * m := Int.mul_le_mul_of_nonneg_right h1.2 h2.1
  have a2 : A * m ≤ A * B := Int.mul_le_mul_of_nonneg_left h2.2 hA
  have a3 : (-A) * m ≤ n * m := Int.mul_le_mul_of_nonneg_right h1.1 h2.1
  rw [Int.neg_mul] at a3
  omega
theorem wired_ex (x : GTube) (s : GStar) (at_ : Int) (hx : x.Wires.length ≤ 20) (hs : s.Name.size ≤ 50) : ∃ r : GTransit × Int, transit_Wired x s at_ = some r ∧
    (r.2 = 0 → transit_ValidTube x = some true ∧ transit_ValidStar s = some true ∧ (-1000000000000 ≤ at_ ∧ at_ ≤ 1000000000000) ∧ r.1 = ⟨s, x.Wires.map fun n => at_ + (n * s.Slow) / 1000⟩ ∧ ∀ v ∈ r.1.Wires, 0 ≤ v ∧ v ≤ 86399999) := by
  obtain ⟨bt, ht1, ht2⟩ := tube_ex x hx
  obtain ⟨bs, hs1, hs2⟩ := star_ex s hs
  unfold transit_Wired
  rw [show GTube.mk x.Wires x.Error = x from rfl, ht1, Option.bind_some, hs1]
  cases bt with
  | false => exact ⟨_, rfl, fun h => absurd h (by decide)⟩
  | true =>
    cases bs with
    | false => exact ⟨_, rfl, fun h => absurd h (by decide)⟩
    | true =>
      simp only [Option.bind_some, Bool.not_true, Bool.false_eq_true, if_false, within_eq]
      cases hat : inB (-1000000000000) 1000000000000 at_ with
      | false => exact ⟨_, rfl, fun h => absurd h (by decide)⟩
      | true =>
        obtain ⟨⟨q1, q2⟩, q3, _⟩ := ht2 rfl
        obtain ⟨p1, p2, p3⟩ := hs2 rfl
        have hat' := inB_iff.1 hat
        rw [rangeL_grow (fun n => !inB 0 86399999 (at_ + (n * s.Slow) / 1000)) (fun n => at_ + (n * s.Slow) / 1000) (GTransit.mk (GStar.mk ByteArray.empty 0 0 0) ([] : List Int), 7) x.Wires 0 [] (by simp; omega) (by
          intro i n z hn hz
          have hn' := q3 n hn
          have hm := mul_in (A := 100000) (B := 10000) hn' (by omega : 0 ≤ s.Slow ∧ s.Slow ≤ 10000) (by decide)
          rw [mulI_ok (by omega), Option.bind_some, down_eq (by decide) (by decide) (by omega), Option.bind_some, addI_ok (by omega), Option.bind_some, app1 hz]
          cases inB 0 86399999 (at_ + n * s.Slow / 1000) <;> rfl)]
        cases hany : x.Wires.any fun n => !inB 0 86399999 (at_ + (n * s.Slow) / 1000) with
        | true => exact ⟨_, rfl, fun h => absurd h (by decide)⟩
        | false =>
          refine ⟨_, rfl, fun _ => ⟨trivial, trivial, hat', rfl, fun v hv => ?_⟩⟩
          have hv' : v ∈ x.Wires.map fun n => at_ + (n * s.Slow) / 1000 := by simpa using hv
          obtain ⟨n, hn, rfl⟩ := List.mem_map.1 hv'
          rw [List.any_eq_false] at hany
          have := hany n hn
          rw [← inB_iff]
          simpa using this
/-! Searches by a function. -/
theorem containsI_eq (l : List Int) (f : Int → Option Bool) (p : Int → Bool) (h : ∀ x ∈ l, f x = some (p x)) : slices_ContainsFunc_int l f = some (l.any p) := by
  unfold slices_ContainsFunc_int slices_IndexFunc_int
  rw [index_loop p]
  · rw [← findIdx_any]
    cases l.findIdx? p with
    | none => rfl
    | some i => simp
  · intro i x hx
    simp only [idx_at hx, Option.bind_some, h x (List.mem_of_getElem? hx)]
    cases p x <;> rfl
theorem containsT_eq (l : List GTransit) (f : GTransit → Option Bool) (p : GTransit → Bool) (h : ∀ x ∈ l, f x = some (p x)) : slices_ContainsFunc_Transit l f = some (l.any p) := by
  unfold slices_ContainsFunc_Transit slices_IndexFunc_Transit
  rw [index_loop p]
  · rw [← findIdx_any]
    cases l.findIdx? p with
    | none => rfl
    | some i => simp
  · intro i x hx
    simp only [idx_at hx, Option.bind_some, h x (List.mem_of_getElem? hx)]
    cases p x <;> rfl
end Go.Fw
