/-
  RateBuys, plain: the document looks at the same purchases as the search, and no set that can be paid is better.
-/
import Derived.Test.YtohbkbimgfkblaaLibB
namespace Go.Fw
theorem ofInt_nat (a : Nat) : BitVec.ofInt 64 (a : Int) = BitVec.ofNat 64 a := by
  apply BitVec.eq_of_toNat_eq
  simp
theorem bits_and (a b : Nat) (ha : a < 2 ^ 62) (hb : b < 2 ^ 62) : bits .and .i64 (a : Int) (b : Int) = ((a &&& b : Nat) : Int) := by
  unfold bits
  have hle : a &&& b ≤ a := Nat.and_le_left
  show IntKind.i64.wrap (((BitVec.ofInt 64 (a : Int) &&& BitVec.ofInt 64 (b : Int)).toNat : Nat) : Int) = _
  rw [ofInt_nat, ofInt_nat, BitVec.toNat_and, BitVec.toNat_ofNat, BitVec.toNat_ofNat, Nat.mod_eq_of_lt (by omega), Nat.mod_eq_of_lt (by omega), wrap_inI (by rw [inI_iff]; omega)]
theorem bit_of (a f : Nat) (ha : a < 2 ^ 62) : (bits .and .i64 ((a : Int) / 2 ^ f) 1 == 0) = !a.testBit f := by
  have e : ((a : Int) / 2 ^ f) = ((a / 2 ^ f : Nat) : Int) := by push_cast; rfl
  have hle : a / 2 ^ f ≤ a := Nat.div_le_self _ _
  rw [e, show (1 : Int) = ((1 : Nat) : Int) from rfl, bits_and _ _ (by omega) (by decide), Nat.and_one_is_mod, Nat.testBit_eq_decide_div_mod_eq]
  rcases Nat.mod_two_eq_zero_or_one (a / 2 ^ f) with h | h <;> rw [h] <;> rfl
theorem bit_of1 (a f : Nat) (ha : a < 2 ^ 62) : (bits .and .i64 ((a : Int) / 2 ^ f) 1 == 1) = a.testBit f := by
  have e : ((a : Int) / 2 ^ f) = ((a / 2 ^ f : Nat) : Int) := by push_cast; rfl
  have hle : a / 2 ^ f ≤ a := Nat.div_le_self _ _
  rw [e, show (1 : Int) = ((1 : Nat) : Int) from rfl, bits_and _ _ (by omega) (by decide), Nat.and_one_is_mod, Nat.testBit_eq_decide_div_mod_eq]
  rcases Nat.mod_two_eq_zero_or_one (a / 2 ^ f) with h | h <;> rw [h] <;> rfl
theorem shr_of (a : Int) (f : Nat) (hf : f < 13) : shrI a (f : Int) = some (a / 2 ^ f) := by
  unfold shrI
  rw [if_pos (by omega), Int.toNat_natCast]
theorem shl_of (f : Nat) (hf : f < 13) : shlI 1 (f : Int) = some (((2 ^ f : Nat)) : Int) := by
  unfold shlI
  have : ∀ y : Nat, y < 13 → inI (1 * 2 ^ y) = true := by decide
  rw [if_pos ⟨by omega, by rw [Int.toNat_natCast]; exact this f hf⟩, Int.toNat_natCast, Int.one_mul]
  push_cast; rfl
theorem pow13 (f : Nat) (hf : f < 13) : 2 ^ f < 8192 := by
  have : 2 ^ f ≤ 2 ^ 12 := Nat.pow_le_pow_right (by decide) (by omega)
  have e : (2 : Nat) ^ 12 = 4096 := by decide
  omega
theorem rangeN_search' {X : Type} {body : Int → Unit → Option (Step Unit X)} {fin : Unit → X} (y : X) (p : Nat → Bool) : ∀ (k i : Nat), (∀ j, i ≤ j → j < i + k → body (j : Int) () = some (if p j = true then .done y else .cont ())) → rangeN body fin k (i : Int) () = some (if (List.range' i k).any p = true then y else fin ())
  | 0, _, _ => rfl
  | k + 1, i, h => by
    rw [rangeN, h i (Nat.le_refl _) (by omega), Option.bind_some, List.range'_succ, List.any_cons]
    cases hp : p i with
    | true => rfl
    | false =>
      rw [if_neg (by decide), Bool.false_or]
      exact rangeN_search' y p k (i + 1) fun j h1 h2 => h j (by omega) (by omega)
theorem before_from (x y : List Int) : ∀ (k i : Nat), i + k = x.length → i ≤ y.length ∨ y.length < i → ∃ c : Ctl Unit Bool, rangeN (S := Unit) (X := Ctl (Unit) (Bool)) (fun ik1 _ =>
      (if (decide (((y.length : Nat) : Int) ≤ (ik1 : Int))) = true then
        some (Step.done (Ctl.ret false))
      else
        (idx x (ik1 : Int)).bind (fun x1 =>
        (idx y (ik1 : Int)).bind (fun x2 =>
        (if (x1 != x2) = true then
          (idx x (ik1 : Int)).bind (fun x3 =>
          (idx y (ik1 : Int)).bind (fun x4 =>
          some (Step.done (Ctl.ret (decide (x3 < x4))))))
        else
          some (Step.cont ())))))) (fun _ => Ctl.next ()) k (i : Int) () = some c ∧ (match c with | .next _ => decide (((x.length : Nat) : Int) < ((y.length : Nat) : Int)) | .ret r => r | .exit _ _ => false) = ltL (x.drop i) (y.drop i) ∧ (∀ j s, c ≠ .exit j s)
  | 0, i, hk, _ => by
    refine ⟨.next (), rfl, ?_, fun j s e => by cases e⟩
    rw [List.drop_of_length_le (show x.length ≤ i by omega)]
    show decide _ = _
    by_cases h : x.length < y.length
    · rw [decide_eq_true (by omega), List.drop_eq_getElem_cons (show i < y.length by omega)]
      rfl
    · rw [decide_eq_false (by omega), List.drop_of_length_le (show y.length ≤ i by omega)]
      rfl
  | k + 1, i, hk, _ => by
    have hx : i < x.length := by omega
    have e1 : x[i]? = some x[i] := List.getElem?_eq_getElem hx
    by_cases hy : y.length ≤ i
    · refine ⟨.ret false, ?_, ?_, fun j s e => by cases e⟩
      · rw [rangeN, if_pos (decide_eq_true (by omega))]; rfl
      · rw [List.drop_of_length_le hy]
        show false = _
        rw [ltL]
    · have hy' : i < y.length := by omega
      have e2 : y[i]? = some y[i] := List.getElem?_eq_getElem hy'
      have d1 : x.drop i = x[i] :: x.drop (i + 1) := List.drop_eq_getElem_cons hx
      have d2 : y.drop i = y[i] :: y.drop (i + 1) := List.drop_eq_getElem_cons hy'
      by_cases hne : x[i] = y[i]
      · obtain ⟨c, h1, h2, h3⟩ := before_from x y k (i + 1) (by omega) (by omega)
        refine ⟨c, ?_, ?_, h3⟩
        · rw [rangeN, if_neg (by rw [decide_eq_true_eq]; omega), idx_at e1, Option.bind_some, idx_at e2, Option.bind_some, hne, bne_self_eq_false, if_neg (by decide)]
          exact h1
        · rw [h2, d1, d2, ltL, hne]
          simp
      · refine ⟨.ret (decide (x[i] < y[i])), ?_, ?_, fun j s e => by cases e⟩
        · rw [rangeN, if_neg (by rw [decide_eq_true_eq]; omega), idx_at e1, Option.bind_some, idx_at e2, Option.bind_some, if_pos (by simpa using hne)]
          rfl
        · rw [d1, d2, ltL, decide_eq_false hne]
          simp
theorem before_eq (x y : List Int) : noongunref06_before x y = some (ltL x y) := by
  unfold noongunref06_before
  rw [Int.toNat_natCast]
  obtain ⟨c, h1, h2, h3⟩ := before_from x y x.length 0 (by omega) (by omega)
  refine (congrArg (Option.bind · _) h1).trans ?_
  cases c with
  | next s => exact congrArg some h2
  | ret r => exact congrArg some h2
  | exit j s => exact absurd rfl (h3 j s)
/-! The items. -/
theorem items_get {a0 : List GTrial} {a1 : List Int} (hl : a1.length = a0.length) {j : Nat} (hj : j < a0.length) : (itemsF a0 a1)[j]? = some (j, a1[j]'(by omega), a0[j].Number) := by
  unfold itemsF
  rw [List.getElem?_map, List.getElem?_zipIdx, List.getElem?_eq_getElem (by rw [List.length_zip]; omega), List.getElem_zip]
  simp
theorem items_len {a0 : List GTrial} {a1 : List Int} (hl : a1.length = a0.length) : (itemsF a0 a1).length = a0.length := by
  unfold itemsF
  rw [List.length_map, List.length_zipIdx, List.length_zip]
  omega
theorem items_fst {a0 : List GTrial} {a1 : List Int} (hl : a1.length = a0.length) : (itemsF a0 a1).map (fun t => t.1) = List.range a0.length := by
  refine List.ext_getElem? fun j => ?_
  rw [List.getElem?_map]
  by_cases hj : j < a0.length
  · rw [items_get hl hj, List.getElem?_range hj]; rfl
  · rw [List.getElem?_eq_none (by rw [items_len hl]; omega), List.getElem?_eq_none (by rw [List.length_range]; omega)]; rfl
theorem items_mem {a0 : List GTrial} {a1 : List Int} (hl : a1.length = a0.length) {t : It} (h : t ∈ itemsF a0 a1) : ∃ j, ∃ hj : j < a0.length, t = (j, a1[j]'(by omega), a0[j].Number) := by
  obtain ⟨j, hj, e⟩ := List.getElem_of_mem h
  rw [items_len hl] at hj
  have := items_get hl hj
  rw [List.getElem?_eq_getElem (by rw [items_len hl]; exact hj), e] at this
  exact ⟨j, hj, Option.some.inj this⟩
structure FitsP (a0 : List GTrial) (a1 : List Int) (a2 : Int) : Prop where
  one : 1 ≤ a0.length
  most : a0.length ≤ 16
  len : a1.length = a0.length
  price : ∀ p ∈ a1, 0 ≤ p ∧ p ≤ 1000000
  num : ∀ t ∈ a0, 0 ≤ t.Number ∧ t.Number ≤ 1000000000000
  lo : 0 ≤ a2
  hi : a2 ≤ 1000000000
theorem fitsF_iff (a0 : List GTrial) (a1 : List Int) (a2 : Int) : fitsF a0 a1 a2 = true ↔ FitsP a0 a1 a2 := by
  unfold fitsF
  simp only [Bool.and_eq_true, decide_eq_true_eq, List.all_eq_true]
  exact ⟨fun ⟨⟨⟨⟨⟨⟨h1, h2⟩, h3⟩, h4⟩, h5⟩, h6⟩, h7⟩ => ⟨h1, h2, h3, h4, h5, h6, h7⟩, fun ⟨h1, h2, h3, h4, h5, h6, h7⟩ => ⟨⟨⟨⟨⟨⟨h1, h2⟩, h3⟩, h4⟩, h5⟩, h6⟩, h7⟩⟩
theorem pick_take {a0 : List GTrial} {a1 : List Int} (hl : a1.length = a0.length) (s j : Nat) (hj : j < a0.length) : pick ((itemsF a0 a1).take (j + 1)) s = pick ((itemsF a0 a1).take j) s ++ if s.testBit j = true then [(j, a1[j]'(by omega), a0[j].Number)] else [] := by
  unfold pick
  rw [List.take_add_one, items_get hl hj, List.filter_append]
  simp only [Option.toList_some, List.filter_cons, List.filter_nil]
theorem sum_bd {l : List Int} {B : Int} (hB : 0 ≤ B) (h : ∀ x ∈ l, 0 ≤ x ∧ x ≤ B) : 0 ≤ l.sum ∧ l.sum ≤ B * l.length := by
  induction l with
  | nil => simp
  | cons x l ih =>
    have h1 := h x (by simp)
    have h2 := ih fun y hy => h y (by simp [hy])
    rw [List.sum_cons, List.length_cons, Int.natCast_add, Int.mul_add]
    omega
theorem pick_bd {a0 : List GTrial} {a1 : List Int} {a2 : Int} (h : FitsP a0 a1 a2) (s j : Nat) : (pick ((itemsF a0 a1).take j) s).length ≤ 16 ∧ (0 ≤ cost (pick ((itemsF a0 a1).take j) s) ∧ cost (pick ((itemsF a0 a1).take j) s) ≤ 16000000) ∧
    0 ≤ ((pick ((itemsF a0 a1).take j) s).map fun t => t.2.2).sum ∧ ((pick ((itemsF a0 a1).take j) s).map fun t => t.2.2).sum ≤ 16000000000000 := by
  have hlen : (pick ((itemsF a0 a1).take j) s).length ≤ 16 := by
    have h1 : (pick ((itemsF a0 a1).take j) s).length ≤ ((itemsF a0 a1).take j).length := List.length_filter_le _ _
    rw [List.length_take, items_len h.len] at h1
    have := h.most
    omega
  have hmem : ∀ t ∈ pick ((itemsF a0 a1).take j) s, (0 ≤ t.2.1 ∧ t.2.1 ≤ 1000000) ∧ 0 ≤ t.2.2 ∧ t.2.2 ≤ 1000000000000 := by
    intro t ht
    obtain ⟨i, hi, rfl⟩ := items_mem h.len (List.mem_of_mem_take (List.mem_filter.1 ht).1)
    exact ⟨h.price _ (List.getElem_mem _), h.num _ (List.getElem_mem _)⟩
  have h1 := sum_bd (l := (pick ((itemsF a0 a1).take j) s).map fun t => t.2.1) (B := 1000000) (by decide) (fun x hx => by obtain ⟨t, ht, rfl⟩ := List.mem_map.1 hx; exact (hmem t ht).1)
  have h2 := sum_bd (l := (pick ((itemsF a0 a1).take j) s).map fun t => t.2.2) (B := 1000000000000) (by decide) (fun x hx => by obtain ⟨t, ht, rfl⟩ := List.mem_map.1 hx; exact (hmem t ht).2)
  rw [List.length_map] at h1 h2
  unfold cost
  refine ⟨hlen, ⟨h1.1, by omega⟩, h2.1, by omega⟩
theorem pick_loop {a0 : List GTrial} {a1 : List Int} {a2 : Int} (h : FitsP a0 a1 a2) (h10 : a0.length ≤ 10) (s : Nat) (hs : s < 2 ^ 62) : rangeN (S := Int × Int × (List Int)) (X := Int × Int × (List Int)) (fun ik3 st =>
                match st with
                  | (z10, z11, z12) =>
                    ((
                      (idx a0 (ik3 : Int)).bind (fun x4 =>
                      (shrI (s : Int) (ik3 : Int)).bind (fun t2 =>
                      ((
                        (if ((bits .and .i64 t2 1) == 1) = true then
                          (appI z12 ([(ik3 : Int)] : List Int)).bind (fun t3 =>
                          (idx a1 (ik3 : Int)).bind (fun x5 =>
                          (addI z10 x5).bind (fun t4 =>
                          (addI z11 x4.Number).bind (fun t5 =>
                          some (t4, t5, t3)))))
                        else
                          some (z10, z11, z12))) : Option (Int × Int × (List Int))).bind (fun o => match o with
                        | (s10, s11, s12) =>
                          some (s10, s11, s12))))) : Option (Int × Int × (List Int))).bind (fun o => match o with
                      | (s7, s8, s9) =>
                        some (Step.cont (s7, s8, s9)))) (fun st => match st with | (z10, z11, z12) => (z10, z11, z12)) (Int.toNat ((a0.length : Nat) : Int)) 0 (0, 0, ([] : List Int)) =
      some (cost (pick (itemsF a0 a1) s), ((pick (itemsF a0 a1) s).map fun t => t.2.2).sum, (pick (itemsF a0 a1) s).map fun t => (t.1 : Int)) := by
  rw [Int.toNat_natCast]
  obtain ⟨st, h1, h2⟩ := rangeN_inv (S := Int × Int × (List Int)) (X := Int × Int × (List Int)) (body := fun ik3 st =>
                match st with
                  | (z10, z11, z12) =>
                    ((
                      (idx a0 (ik3 : Int)).bind (fun x4 =>
                      (shrI (s : Int) (ik3 : Int)).bind (fun t2 =>
                      ((
                        (if ((bits .and .i64 t2 1) == 1) = true then
                          (appI z12 ([(ik3 : Int)] : List Int)).bind (fun t3 =>
                          (idx a1 (ik3 : Int)).bind (fun x5 =>
                          (addI z10 x5).bind (fun t4 =>
                          (addI z11 x4.Number).bind (fun t5 =>
                          some (t4, t5, t3)))))
                        else
                          some (z10, z11, z12))) : Option (Int × Int × (List Int))).bind (fun o => match o with
                        | (s10, s11, s12) =>
                          some (s10, s11, s12))))) : Option (Int × Int × (List Int))).bind (fun o => match o with
                      | (s7, s8, s9) =>
                        some (Step.cont (s7, s8, s9)))) (fin := fun st => match st with | (z10, z11, z12) => (z10, z11, z12))
    (fun j st => st = (cost (pick ((itemsF a0 a1).take j) s), ((pick ((itemsF a0 a1).take j) s).map fun t => t.2.2).sum, (pick ((itemsF a0 a1).take j) s).map fun t => (t.1 : Int))) a0.length (0, 0, []) (fun j st hj hst => by
      subst hst
      have hb := pick_bd h s j
      have hp := pick_take h.len s j hj
      have hlen := h.len
      have hmost := h.most
      have e0 : a0[j]? = some a0[j] := List.getElem?_eq_getElem hj
      have e1 : a1[j]? = some (a1[j]'(by omega)) := List.getElem?_eq_getElem (by omega)
      have b1 := h.price _ (List.getElem_mem (show j < a1.length by omega))
      have b2 := h.num _ (List.getElem_mem hj)
      refine ⟨_, ?_, rfl⟩
      dsimp only
      rw [idx_at e0, Option.bind_some, shr_of s j (by omega), Option.bind_some, bit_of1 s j (by omega), hp]
      cases s.testBit j with
      | false =>
        rw [if_neg (by decide), if_neg (by decide), List.append_nil]
        rfl
      | true =>
        rw [if_pos rfl, if_pos rfl, appI_ok (by simp; omega), Option.bind_some, idx_at e1, Option.bind_some, addI_ok (by omega), Option.bind_some, addI_ok (by omega), Option.bind_some]
        unfold cost
        simp) (by simp [pick, cost])
  rw [h1, h2, List.take_of_length_le (by rw [items_len h.len]; exact Nat.le_refl _)]
theorem bind2 {α β γ : Type} {o o' : Option α} (h : o = o') (f : α → Option β) (g : β → Option γ) : (o.bind f).bind g = (o'.bind f).bind g := by rw [h]
theorem bet_eq (p q : Pu) : ((if (decide (((q.list.length : Nat) : Int) < ((p.list.length : Nat) : Int))) = true then
                    some true
                  else
                    ((if (((p.list.length : Nat) : Int) == ((q.list.length : Nat) : Int)) = true then
                      ((if (decide (p.sum < q.sum)) = true then
                        some true
                      else
                        ((if (p.sum == q.sum) = true then
                          (noongunref06_before p.list q.list).bind (fun t6 =>
                          some t6)
                        else
                          some false) : Option Bool).bind (fun b7 =>
                        some b7)) : Option Bool).bind (fun b6 =>
                      some b6)
                    else
                      some false) : Option Bool).bind (fun b5 =>
                    some b5)) : Option Bool) = some (betF p q) := by
  rw [before_eq]
  unfold betF
  by_cases h1 : q.list.length < p.list.length
  · simp [h1]
  · by_cases h2 : q.list.length = p.list.length
    · by_cases h3 : p.sum < q.sum
      · simp [h2, h3]
      · by_cases h4 : p.sum = q.sum
        · simp [h2, h4]
        · simp [h2, h3, h4]
    · have h2' : ¬ ((p.list.length : Nat) : Int) = ((q.list.length : Nat) : Int) := by omega
      simp [h1, h2, h2']
def Rs (items : List It) (a2 : Int) (s : Nat) : List Pu := ((List.range s).filter fun t => decide (cost (pick items t) ≤ a2)).map fun t => addS ⟨[], 0⟩ (pick items t)
theorem Rs_succ (items : List It) (a2 : Int) (s : Nat) : Rs items a2 (s + 1) = Rs items a2 s ++ if cost (pick items s) ≤ a2 then [addS ⟨[], 0⟩ (pick items s)] else [] := by
  unfold Rs
  rw [List.range_succ, List.filter_append, List.map_append]
  congr 1
  by_cases h : cost (pick items s) ≤ a2 <;> simp [h]
def bestR (items : List It) (a2 : Int) (s : Nat) : Pu := (Rs items a2 s).foldl updF ⟨[], 0⟩
theorem bestR_succ (items : List It) (a2 : Int) (s : Nat) : bestR items a2 (s + 1) = if (decide (cost (pick items s) ≤ a2) && betF (addS ⟨[], 0⟩ (pick items s)) (bestR items a2 s)) = true then addS ⟨[], 0⟩ (pick items s) else bestR items a2 s := by
  unfold bestR
  rw [Rs_succ, List.foldl_append]
  by_cases h : cost (pick items s) ≤ a2
  · rw [if_pos h, decide_eq_true h, Bool.true_and]
    rfl
  · rw [if_neg h, decide_eq_false h, Bool.false_and, if_neg (by decide)]
    rfl
theorem addS_zero (S : List It) : addS ⟨[], 0⟩ S = ⟨S.map fun t => (t.1 : Int), (S.map fun t => t.2.2).sum⟩ := by
  unfold addS
  simp
theorem sets_loop {a0 : List GTrial} {a1 : List Int} {a2 : Int} (h : FitsP a0 a1 a2) (h10 : a0.length ≤ 10) : rangeN (S := Int × (List Int)) (X := (List Int)) (fun ik2 s =>
        match s with
          | (z3, z4) =>
            ((
              ((
                rangeN (S := Int × Int × (List Int)) (X := Int × Int × (List Int)) (fun ik3 s =>
                match s with
                  | (z10, z11, z12) =>
                    ((
                      (idx a0 (ik3 : Int)).bind (fun x4 =>
                      (shrI (ik2 : Int) (ik3 : Int)).bind (fun t2 =>
                      ((
                        (if ((bits .and .i64 t2 1) == 1) = true then
                          (appI z12 ([(ik3 : Int)] : List Int)).bind (fun t3 =>
                          (idx a1 (ik3 : Int)).bind (fun x5 =>
                          (addI z10 x5).bind (fun t4 =>
                          (addI z11 x4.Number).bind (fun t5 =>
                          some (t4, t5, t3)))))
                        else
                          some (z10, z11, z12))) : Option (Int × Int × (List Int))).bind (fun o => match o with
                        | (s10, s11, s12) =>
                          some (s10, s11, s12))))) : Option (Int × Int × (List Int))).bind (fun o => match o with
                      | (s7, s8, s9) =>
                        some (Step.cont (s7, s8, s9)))) (fun s => match s with | (z10, z11, z12) => (z10, z11, z12)) (Int.toNat ((a0.length : Nat) : Int)) 0 (0, 0, ([] : List Int))) : Option (Int × Int × (List Int))).bind (fun o => match o with
                | (s4, s5, s6) =>
                  ((if (decide (((z4.length : Nat) : Int) < ((s6.length : Nat) : Int))) = true then
                    some true
                  else
                    ((if (((s6.length : Nat) : Int) == ((z4.length : Nat) : Int)) = true then
                      ((if (decide (s5 < z3)) = true then
                        some true
                      else
                        ((if (s5 == z3) = true then
                          (noongunref06_before s6 z4).bind (fun t6 =>
                          some t6)
                        else
                          some false) : Option Bool).bind (fun b7 =>
                        some b7)) : Option Bool).bind (fun b6 =>
                      some b6)
                    else
                      some false) : Option Bool).bind (fun b5 =>
                    some b5)) : Option Bool).bind (fun b4 =>
                  ((
                    (if ((decide (s4 ≤ a2)) && b4) = true then
                      some (s5, s6)
                    else
                      some (z3, z4))) : Option (Int × (List Int))).bind (fun o => match o with
                    | (s13, s14) =>
                      some (s13, s14))))) : Option (Int × (List Int))).bind (fun o => match o with
              | (s2, s3) =>
                some (Step.cont (s2, s3)))) (fun s => match s with | (z3, z4) => z4) (2 ^ a0.length) 0 (0, ([] : List Int)) = some (bestR (itemsF a0 a1) a2 (2 ^ a0.length)).list := by
  obtain ⟨st, h1, h2⟩ := rangeN_inv (S := Int × (List Int)) (X := (List Int)) (body := fun ik2 s =>
        match s with
          | (z3, z4) =>
            ((
              ((
                rangeN (S := Int × Int × (List Int)) (X := Int × Int × (List Int)) (fun ik3 s =>
                match s with
                  | (z10, z11, z12) =>
                    ((
                      (idx a0 (ik3 : Int)).bind (fun x4 =>
                      (shrI (ik2 : Int) (ik3 : Int)).bind (fun t2 =>
                      ((
                        (if ((bits .and .i64 t2 1) == 1) = true then
                          (appI z12 ([(ik3 : Int)] : List Int)).bind (fun t3 =>
                          (idx a1 (ik3 : Int)).bind (fun x5 =>
                          (addI z10 x5).bind (fun t4 =>
                          (addI z11 x4.Number).bind (fun t5 =>
                          some (t4, t5, t3)))))
                        else
                          some (z10, z11, z12))) : Option (Int × Int × (List Int))).bind (fun o => match o with
                        | (s10, s11, s12) =>
                          some (s10, s11, s12))))) : Option (Int × Int × (List Int))).bind (fun o => match o with
                      | (s7, s8, s9) =>
                        some (Step.cont (s7, s8, s9)))) (fun s => match s with | (z10, z11, z12) => (z10, z11, z12)) (Int.toNat ((a0.length : Nat) : Int)) 0 (0, 0, ([] : List Int))) : Option (Int × Int × (List Int))).bind (fun o => match o with
                | (s4, s5, s6) =>
                  ((if (decide (((z4.length : Nat) : Int) < ((s6.length : Nat) : Int))) = true then
                    some true
                  else
                    ((if (((s6.length : Nat) : Int) == ((z4.length : Nat) : Int)) = true then
                      ((if (decide (s5 < z3)) = true then
                        some true
                      else
                        ((if (s5 == z3) = true then
                          (noongunref06_before s6 z4).bind (fun t6 =>
                          some t6)
                        else
                          some false) : Option Bool).bind (fun b7 =>
                        some b7)) : Option Bool).bind (fun b6 =>
                      some b6)
                    else
                      some false) : Option Bool).bind (fun b5 =>
                    some b5)) : Option Bool).bind (fun b4 =>
                  ((
                    (if ((decide (s4 ≤ a2)) && b4) = true then
                      some (s5, s6)
                    else
                      some (z3, z4))) : Option (Int × (List Int))).bind (fun o => match o with
                    | (s13, s14) =>
                      some (s13, s14))))) : Option (Int × (List Int))).bind (fun o => match o with
              | (s2, s3) =>
                some (Step.cont (s2, s3)))) (fin := fun s => match s with | (z3, z4) => z4)
    (fun j st => st = ((bestR (itemsF a0 a1) a2 j).sum, (bestR (itemsF a0 a1) a2 j).list)) (2 ^ a0.length) (0, []) (fun j st hj hst => by
      subst hst
      have hj2 : j < 2 ^ 62 := Nat.lt_of_lt_of_le hj (Nat.pow_le_pow_right (by decide) (by omega))
      refine ⟨_, ?_, rfl⟩
      have hl := pick_loop h h10 j hj2
      dsimp only
      refine (bind2 hl _ _).trans ?_
      dsimp only [Option.bind_some]
      have hb := bet_eq (addS ⟨[], 0⟩ (pick (itemsF a0 a1) j)) (bestR (itemsF a0 a1) a2 j)
      rw [addS_zero] at hb
      refine (bind2 hb _ _).trans ?_
      dsimp only [Option.bind_some]
      rw [bestR_succ, addS_zero]
      generalize (decide (cost (pick (itemsF a0 a1) j) ≤ a2) && betF ⟨(pick (itemsF a0 a1) j).map fun t => (t.1 : Int), ((pick (itemsF a0 a1) j).map fun t => t.2.2).sum⟩ (bestR (itemsF a0 a1) a2 j)) = c
      cases c <;> rfl) rfl
  rw [h1, h2]
theorem items_nodup {a0 : List GTrial} {a1 : List Int} (hl : a1.length = a0.length) : ((itemsF a0 a1).map fun t => t.1).Nodup := by
  rw [items_fst hl]
  exact List.nodup_range
theorem mem_all {a0 : List GTrial} {a1 : List Int} {a2 : Int} (h : FitsP a0 a1 a2) (q : Pu) : q ∈ (⟨[], 0⟩ : Pu) :: buyE (itemsF a0 a1) a2 ⟨[], 0⟩ ↔ ∃ S, S.Sublist (itemsF a0 a1) ∧ cost S ≤ a2 ∧ q = addS ⟨[], 0⟩ S :=
  mem_buyE _ _ _ _ (fun t ht => by
    obtain ⟨j, hj, rfl⟩ := items_mem h.len ht
    exact (h.price _ (List.getElem_mem _)).1) h.lo
theorem best_eq {a0 : List GTrial} {a1 : List Int} {a2 : Int} (h : FitsP a0 a1 a2) : bestR (itemsF a0 a1) a2 (2 ^ a0.length) = (buyE (itemsF a0 a1) a2 ⟨[], 0⟩).foldl updF ⟨[], 0⟩ := by
  unfold bestR
  refine best_same fun x => ?_
  rw [mem_all h]
  have hp := fun S => sub_pick (S := S) (items := itemsF a0 a1) (n := a0.length) (items_nodup h.len) (fun t ht => by
    obtain ⟨j, hj, rfl⟩ := items_mem h.len ht
    exact hj)
  constructor
  · intro hx
    rcases List.mem_cons.1 hx with rfl | hx
    · exact ⟨[], List.nil_sublist _, by simpa [cost] using h.lo, (addS_nil _).symm⟩
    · unfold Rs at hx
      obtain ⟨s, hs, rfl⟩ := List.mem_map.1 hx
      obtain ⟨h1, h2⟩ := List.mem_filter.1 hs
      exact ⟨pick (itemsF a0 a1) s, (hp _).2 ⟨s, List.mem_range.1 h1, rfl⟩, of_decide_eq_true h2, rfl⟩
  · rintro ⟨S, hS, hc, rfl⟩
    obtain ⟨s, h1, rfl⟩ := (hp S).1 hS
    refine List.mem_cons_of_mem _ ?_
    unfold Rs
    exact List.mem_map.2 ⟨s, List.mem_filter.2 ⟨List.mem_range.2 h1, decide_eq_true hc⟩, rfl⟩
def badJ (a0 : List GTrial) (a1 : List Int) (j : Nat) : Bool := match a0[j]?, a1[j]? with
  | some t, some q => ((decide (q < 0) || decide (1000000 < q)) || decide (t.Number < 0)) || decide (1000000000000 < t.Number)
  | _, _ => false
theorem rBought_eq (a0 : List GTrial) (a1 : List Int) (a2 : Int) (hn : a0.length ≤ 10 ∨ 16 < a0.length) (h20 : a0.length ≤ 1000) : noongunref06_Bought a0 a1 a2 = rate_Bought a0 a1 a2 := by
  unfold noongunref06_Bought rate_Bought
  by_cases hh : (((((decide (((a0.length : Nat) : Int) < 1)) || (decide (16 < ((a0.length : Nat) : Int)))) || (((a1.length : Nat) : Int) != ((a0.length : Nat) : Int))) || (decide (a2 < 0))) || (decide (1000000000 < a2))) = true
  · rw [if_pos hh, if_neg]
    intro hf
    have f := (fitsF_iff a0 a1 a2).1 hf
    have f1 := f.one
    have f2 := f.most
    have f3 := f.len
    have f4 := f.lo
    have f5 := f.hi
    simp only [Bool.or_eq_true, decide_eq_true_eq, bne_iff_ne] at hh
    omega
  · rw [if_neg hh]
    simp only [Bool.or_eq_true, decide_eq_true_eq, bne_iff_ne, not_or, Decidable.not_not] at hh
    obtain ⟨⟨⟨⟨g1, g2⟩, g3⟩, g4⟩, g5⟩ := hh
    have hl : a1.length = a0.length := by omega
    rw [Int.toNat_natCast]
    have hchk := rangeN_search' (fin := fun (_ : Unit) => (Ctl.next () : Ctl Unit ((List Int) × Int))) (Ctl.ret (([] : List Int), (7 : Int))) (badJ a0 a1) (body := fun ik1 _ =>
      (idx a0 (ik1 : Int)).bind (fun x1 =>
      (idx a1 (ik1 : Int)).bind (fun x2 =>
      ((if (decide (x2 < 0)) = true then
        some true
      else
        (idx a1 (ik1 : Int)).bind (fun x3 =>
        some (decide (1000000 < x3)))) : Option Bool).bind (fun b2 =>
      (if ((b2 || (decide (x1.Number < 0))) || (decide (1000000000000 < x1.Number))) = true then
        some (Step.done (Ctl.ret (([] : List Int), 7)))
      else
        some (Step.cont ())))))) a0.length 0 (fun j _ hj => by
      have e0 : a0[j]? = some a0[j] := List.getElem?_eq_getElem (by omega)
      have e1 : a1[j]? = some (a1[j]'(by omega)) := List.getElem?_eq_getElem (by omega)
      unfold badJ
      rw [idx_at e0, Option.bind_some, idx_at e1, Option.bind_some, e0, e1]
      dsimp only
      generalize (a1[j]'(by omega)) = q
      generalize a0[j] = t
      by_cases hq : q < 0
      · simp [hq]
      · by_cases hq2 : 1000000 < q
        · simp [hq, hq2]
        · by_cases ht : t.Number < 0
          · simp [hq, hq2, ht]
          · by_cases ht2 : 1000000000000 < t.Number
            · simp [hq, hq2, ht, ht2]
            · simp [hq, hq2, ht, ht2])
    refine (congrArg (Option.bind · _) hchk).trans ?_
    dsimp only [Option.bind_some]
    cases hany : (List.range' 0 a0.length).any (badJ a0 a1) with
    | true =>
      rw [if_pos rfl, if_neg]
      intro hf
      have f := (fitsF_iff a0 a1 a2).1 hf
      obtain ⟨j, hj, hb⟩ := List.any_eq_true.1 hany
      rw [List.mem_range'_1] at hj
      have e0 : a0[j]? = some a0[j] := List.getElem?_eq_getElem (by omega)
      have e1 : a1[j]? = some (a1[j]'(by omega)) := List.getElem?_eq_getElem (by omega)
      unfold badJ at hb
      rw [e0, e1] at hb
      have b1 := f.price _ (List.getElem_mem (show j < a1.length by omega))
      have b2 := f.num _ (List.getElem_mem (show j < a0.length by omega))
      simp only [Bool.or_eq_true, decide_eq_true_eq] at hb
      omega
    | false =>
      rw [if_neg (by decide)]
      have hgood : ∀ j, (hj : j < a0.length) → (0 ≤ a1[j]'(by omega) ∧ a1[j]'(by omega) ≤ 1000000) ∧ 0 ≤ a0[j].Number ∧ a0[j].Number ≤ 1000000000000 := by
        intro j hj
        have hb : badJ a0 a1 j = false := by
          cases hb : badJ a0 a1 j with
          | false => rfl
          | true =>
            have : (List.range' 0 a0.length).any (badJ a0 a1) = true := List.any_eq_true.2 ⟨j, by rw [List.mem_range'_1]; omega, hb⟩
            rw [this] at hany
            cases hany
        have e0 : a0[j]? = some a0[j] := List.getElem?_eq_getElem hj
        have e1 : a1[j]? = some (a1[j]'(by omega)) := List.getElem?_eq_getElem (by omega)
        unfold badJ at hb
        rw [e0, e1] at hb
        simp only [Bool.or_eq_false_iff, decide_eq_false_iff_not] at hb
        omega
      have f : FitsP a0 a1 a2 := ⟨by omega, by omega, hl, fun p hp => by
          obtain ⟨j, hj, rfl⟩ := List.getElem_of_mem hp
          exact (hgood j (by omega)).1, fun t ht => by
          obtain ⟨j, hj, rfl⟩ := List.getElem_of_mem ht
          exact (hgood j hj).2, by omega, by omega⟩
      have h10 : a0.length ≤ 10 := by omega
      rw [if_pos ((fitsF_iff a0 a1 a2).2 f), shl_of _ (by omega)]
      dsimp only [Option.bind_some]
      have hpow : 2 ^ a0.length ≤ 2 ^ 10 := Nat.pow_le_pow_right (by decide) h10
      have hN : inI (((2 ^ a0.length : Nat)) : Int) = true := by
        generalize 2 ^ a0.length = N at hpow
        rw [inI_iff]
        omega
      unfold chkI
      rw [if_pos hN, Int.toNat_natCast]
      refine (congrArg (Option.bind · _) (sets_loop f h10)).trans ?_
      rw [Option.bind_some, best_eq f]
theorem sameInts_eq (a b : List Int) : noongunref06_SameInts a b = some (decide (a = b)) := by
  unfold noongunref06_SameInts
  exact same_fun (fun x y => x != y) (fun x y => by cases h : decide (x = y) <;> simp_all) a b
def numS (S : List It) : Int := (S.map fun t => t.2.2).sum
theorem numS_cons (t : It) (S : List It) : numS (t :: S) = t.2.2 + numS S := by unfold numS; rw [List.map_cons, List.sum_cons]
theorem numS_bd {a0 : List GTrial} {a1 : List Int} {a2 : Int} (h : FitsP a0 a1 a2) {S : List It} (hS : S.Sublist (itemsF a0 a1)) : (0 ≤ numS S ∧ numS S ≤ 16000000000000) ∧ 0 ≤ cost S ∧ cost S ≤ 16000000 := by
  have hlen := hS.length_le
  rw [items_len h.len] at hlen
  have hm := h.most
  have hmem : ∀ t ∈ S, (0 ≤ t.2.1 ∧ t.2.1 ≤ 1000000) ∧ 0 ≤ t.2.2 ∧ t.2.2 ≤ 1000000000000 := by
    intro t ht
    obtain ⟨i, hi, rfl⟩ := items_mem h.len (hS.subset ht)
    exact ⟨h.price _ (List.getElem_mem _), h.num _ (List.getElem_mem _)⟩
  have h1 := sum_bd (l := S.map fun t => t.2.1) (B := 1000000) (by decide) (fun x hx => by obtain ⟨t, ht, rfl⟩ := List.mem_map.1 hx; exact (hmem t ht).1)
  have h2 := sum_bd (l := S.map fun t => t.2.2) (B := 1000000000000) (by decide) (fun x hx => by obtain ⟨t, ht, rfl⟩ := List.mem_map.1 hx; exact (hmem t ht).2)
  rw [List.length_map] at h1 h2
  unfold numS cost
  exact ⟨⟨h2.1, by omega⟩, h1.1, by omega⟩
theorem sum_loop {a0 : List GTrial} {a1 : List Int} {a2 : Int} (h : FitsP a0 a1 a2) : ∀ (S : List It) (i z : Int), (∀ t ∈ S, t ∈ itemsF a0 a1) → (0 ≤ z ∧ z + 1000000000000 * S.length ≤ 100000000000000) → rangeL (α := Int) (S := Int) (X := Int) (fun ik1 yk1 z2 =>
                  (idx a0 yk1).bind (fun x1 =>
                  (addI z2 x1.Number).bind (fun t8 =>
                  some (Step.cont t8)))) (fun z2 => z2) (S.map fun t => (t.1 : Int)) i z = some (z + numS S)
  | [], i, z, _, _ => by simp [rangeL, numS]
  | t :: S, i, z, hm, hz => by
    obtain ⟨j, hj, rfl⟩ := items_mem h.len (hm t (by simp))
    have e0 : a0[j]? = some a0[j] := List.getElem?_eq_getElem hj
    have b := h.num _ (List.getElem_mem hj)
    rw [List.length_cons] at hz
    rw [List.map_cons, rangeL, idx_at e0, Option.bind_some, addI_ok (by omega)]
    dsimp only [Option.bind_some]
    rw [sum_loop h S (i + 1) _ (fun x hx => hm x (by simp [hx])) (by omega), numS_cons]
    dsimp only
    congr 1
    omega
theorem set_from {a0 : List GTrial} {a1 : List Int} {a2 : Int} (h : FitsP a0 a1 a2) (a3 : List Int) (h3 : a3.length ≤ 1000) : ∀ (k i : Nat) (S : List It) (m : Nat), i + k = a3.length → S.map (fun t => (t.1 : Int)) = a3.take i → S.Sublist ((itemsF a0 a1).take m) → (∀ x, 0 < i → a3[i - 1]? = some x → (m : Int) = x + 1) → (i = 0 → m = 0) →
    ∃ c : Ctl (Int × Int) Bool, rangeN (S := Int × Int) (X := Ctl (Int × Int) (Bool)) (fun ik2 s =>
                match s with
                  | (z6, z7) =>
                    (idx a3 (ik2 : Int)).bind (fun x2 =>
                    ((if ((decide (x2 < 0)) || (decide (((a0.length : Nat) : Int) ≤ x2))) = true then
                      some true
                    else
                      ((if (decide (0 < (ik2 : Int))) = true then
                        (subI (ik2 : Int) 1).bind (fun t9 =>
                        (idx a3 t9).bind (fun x3 =>
                        some (decide (x2 ≤ x3))))
                      else
                        some false) : Option Bool).bind (fun b2 =>
                      some b2)) : Option Bool).bind (fun b1 =>
                    (if b1 = true then
                      (noongunlaw06_awake ).bind (fun t10 =>
                      some (Step.done (Ctl.ret t10)))
                    else
                      (idx a1 x2).bind (fun x4 =>
                      (addI z6 x4).bind (fun t11 =>
                      (idx a0 x2).bind (fun x5 =>
                      (addI z7 x5.Number).bind (fun t12 =>
                      some (Step.cont (t11, t12)))))))))) (fun s => match s with | (z6, z7) => Ctl.next (z6, z7)) k (i : Int) (cost S, numS S) = some c ∧ (c = .ret true ∨ ∃ S' : List It, S'.Sublist (itemsF a0 a1) ∧ S'.map (fun t => (t.1 : Int)) = a3 ∧ c = .next (cost S', numS S'))
  | 0, i, S, m, hk, hS, hs, _, _ => by
    refine ⟨.next (cost S, numS S), rfl, .inr ⟨S, hs.trans (List.take_sublist _ _), ?_, rfl⟩⟩
    rw [hS, List.take_of_length_le (by omega)]
  | k + 1, i, S, m, hk, hS, hs, hm, hm0 => by
    have hi : i < a3.length := by omega
    have e3 : a3[i]? = some a3[i] := List.getElem?_eq_getElem hi
    have hbS := numS_bd h (hs.trans (List.take_sublist _ _))
    rw [rangeN]
    dsimp only
    rw [idx_at e3, Option.bind_some]
    have hb1 : ∃ b : Bool, ((if ((decide (a3[i] < 0)) || (decide (((a0.length : Nat) : Int) ≤ a3[i]))) = true then
                      some true
                    else
                      ((if (decide (0 < (i : Int))) = true then
                        (subI (i : Int) 1).bind (fun t9 =>
                        (idx a3 t9).bind (fun x3 =>
                        some (decide (a3[i] ≤ x3))))
                      else
                        some false) : Option Bool).bind (fun b2 =>
                      some b2)) : Option Bool) = some b ∧ (b = false → 0 ≤ a3[i] ∧ a3[i] < (a0.length : Int) ∧ (m : Int) ≤ a3[i]) := by
      by_cases q1 : a3[i] < 0
      · exact ⟨true, by simp [q1], fun e => by cases e⟩
      · by_cases q2 : ((a0.length : Nat) : Int) ≤ a3[i]
        · exact ⟨true, by simp [q2], fun e => by cases e⟩
        · by_cases q3 : 0 < i
          · have e4 : a3[i - 1]? = some (a3[i - 1]'(by omega)) := List.getElem?_eq_getElem (by omega)
            have hsub : subI (i : Int) 1 = some ((i - 1 : Nat) : Int) := by rw [subI_ok (by omega)]; congr 1; omega
            have hmm := hm _ q3 e4
            refine ⟨decide (a3[i] ≤ a3[i - 1]'(by omega)), ?_, fun e => ?_⟩
            · rw [if_neg (by simp only [Bool.or_eq_true, decide_eq_true_eq]; omega), if_pos (decide_eq_true (by omega)), hsub, Option.bind_some, idx_at e4]
              rfl
            · rw [decide_eq_false_iff_not] at e
              omega
          · refine ⟨false, ?_, fun _ => ?_⟩
            · rw [if_neg (by simp only [Bool.or_eq_true, decide_eq_true_eq]; omega), if_neg (by rw [decide_eq_true_eq]; omega)]
              rfl
            · have := hm0 (by omega)
              omega
    obtain ⟨b, hb, hbf⟩ := hb1
    rw [hb, Option.bind_some]
    cases b with
    | true =>
      rw [if_pos rfl, awake_eq]
      exact ⟨.ret true, rfl, .inl rfl⟩
    | false =>
      obtain ⟨c1, c2, c3⟩ := hbf rfl
      rw [if_neg (by decide)]
      obtain ⟨x, hx⟩ : ∃ x : Nat, a3[i] = (x : Int) := ⟨a3[i].toNat, by omega⟩
      have hxl : x < a0.length := by omega
      have hlen := h.len
      have e0 : a0[x]? = some a0[x] := List.getElem?_eq_getElem hxl
      have e1 : a1[x]? = some (a1[x]'(by omega)) := List.getElem?_eq_getElem (by omega)
      have p1 := h.price _ (List.getElem_mem (show x < a1.length by omega))
      have p2 := h.num _ (List.getElem_mem hxl)
      rw [hx, idx_at e1, Option.bind_some, addI_ok (by omega), Option.bind_some, idx_at e0, Option.bind_some, addI_ok (by omega)]
      dsimp only [Option.bind_some]
      have hS' : (S ++ [(x, a1[x]'(by omega), a0[x].Number)]).Sublist ((itemsF a0 a1).take (x + 1)) := by
        rw [List.take_add_one, items_get hlen hxl]
        exact List.Sublist.append (hs.trans (List.take_sublist_take_left (by omega))) (List.Sublist.refl _)
      have hc : cost (S ++ [(x, a1[x]'(by omega), a0[x].Number)]) = cost S + a1[x]'(by omega) := by unfold cost; simp
      have hn : numS (S ++ [(x, a1[x]'(by omega), a0[x].Number)]) = numS S + a0[x].Number := by unfold numS; simp
      have := set_from h a3 h3 k (i + 1) (S ++ [(x, a1[x]'(by omega), a0[x].Number)]) (x + 1) (by omega) (by
        rw [List.map_append, hS, List.take_add_one, e3, hx]
        rfl) hS' (fun y _ hy => by
        rw [Nat.add_sub_cancel, e3] at hy
        have := Option.some.inj hy
        omega) (fun e => by omega)
      rw [hc, hn] at this
      exact this
theorem betF_false {p q : Pu} (h : betF p q = false) : p.list.length < q.list.length ∨ p.list.length = q.list.length ∧ q.sum ≤ p.sum := by
  unfold betF at h
  simp only [Bool.or_eq_false_iff, decide_eq_false_iff_not, Bool.and_eq_false_iff] at h
  omega
theorem law_noongunlaw06_RateBuys (a0 : (List GTrial)) (_ : ∀ a ∈ a0, okGTrial a) (_ : a0.length ≤ maxLen) (a1 : (List Int)) (_ : ∀ a ∈ a1, (fun a => inI a = true) a) (_ : a1.length ≤ maxLen) (a2 : Int) (_ : inI a2 = true) (a3 : (List Int)) (_ : ∀ a ∈ a3, (fun a => inI a = true) a) (_ : a3.length ≤ maxLen) : noongunlaw06_RateBuys a0 a1 a2 a3 = some true := by
  unfold noongunlaw06_RateBuys
  split
  · rw [awake_eq]; rfl
  · rename_i hg
    simp only [Bool.or_eq_true, Bool.and_eq_true, decide_eq_true_eq, not_or, not_and] at hg
    obtain ⟨⟨⟨g1, g2⟩, g3⟩, g4⟩ := hg
    rw [rBought_eq a0 a1 a2 (by omega) (by omega)]
    unfold rate_Bought
    by_cases hf : fitsF a0 a1 a2 = true
    · have f := (fitsF_iff a0 a1 a2).1 hf
      rw [if_pos hf]
      have hmem := best_mem (buyE (itemsF a0 a1) a2 ⟨[], 0⟩) ⟨[], 0⟩
      have htop := best_top (buyE (itemsF a0 a1) a2 ⟨[], 0⟩) ⟨[], 0⟩
      generalize (buyE (itemsF a0 a1) a2 ⟨[], 0⟩).foldl updF ⟨[], 0⟩ = r at hmem htop ⊢
      obtain ⟨S, hS, hc, rfl⟩ := (mem_all f r).1 hmem
      rw [addS_zero] at htop ⊢
      dsimp only [Option.bind_some]
      rw [sameInts_eq, decide_eq_true rfl, Option.bind_some, bne_self_eq_false, if_neg (by decide), if_neg (by decide)]
      have hsl := hS.length_le
      rw [items_len f.len] at hsl
      have hm := f.most
      refine (congrArg (Option.bind · _) (sum_loop f S 0 0 (fun t ht => hS.subset ht) (by omega))).trans ?_
      dsimp only [Option.bind_some]
      rw [Int.toNat_natCast]
      obtain ⟨c, h1, h2⟩ := set_from f a3 (by omega) a3.length 0 [] 0 (by omega) rfl (List.nil_sublist _) (fun x h => by omega) (fun _ => rfl)
      refine (congrArg (Option.bind · _) h1).trans ?_
      rcases h2 with rfl | ⟨T, hT, hTl, rfl⟩
      · rfl
      · dsimp only [Option.bind_some]
        have key : (((decide (a2 < cost T)) || (decide (((a3.length : Nat) : Int) < (((S.map fun t => (t.1 : Int)).length : Nat) : Int)))) || ((((a3.length : Nat) : Int) == (((S.map fun t => (t.1 : Int)).length : Nat) : Int)) && (decide (0 + numS S ≤ numS T)))) = true := by
          by_cases hcT : a2 < cost T
          · simp [hcT]
          · have hq := htop _ ((mem_all f (addS ⟨[], 0⟩ T)).2 ⟨T, hT, by omega, rfl⟩)
            rw [addS_zero] at hq
            have hl : (T.map fun t => (t.1 : Int)).length = a3.length := by rw [hTl]
            rcases betF_false hq with h | ⟨h, h'⟩
            · dsimp only at h
              rw [hl] at h
              simp only [Bool.or_eq_true, decide_eq_true_eq, Bool.and_eq_true, beq_iff_eq]
              left; right; omega
            · dsimp only at h h'
              rw [hl] at h
              have h'' : numS S ≤ numS T := h'
              simp only [Bool.or_eq_true, decide_eq_true_eq, Bool.and_eq_true, beq_iff_eq]
              right; exact ⟨by omega, by omega⟩
        rw [key, if_pos rfl, awake_eq]
        rfl
    · rw [if_neg hf]
      dsimp only [Option.bind_some]
      rw [sameInts_eq, decide_eq_true rfl, Option.bind_some, bne_self_eq_false, if_neg (by decide), if_pos (by decide), awake_eq]
      rfl
end Go.Fw
