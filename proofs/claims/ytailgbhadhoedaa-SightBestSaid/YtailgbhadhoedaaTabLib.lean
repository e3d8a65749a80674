/-
  Tables as slices of slices, plain. No program in it.
-/
import Derived.Test.YtailgbhadhoedaaBetLib
import Derived.Test.YtailgbhadhoedaaFloyd
namespace Go.Fw
open Go.Gr
abbrev NN : Int := 1152921504606846976
structure Shape (n : Nat) (z : List (List Int)) : Prop where
  len : z.length = n
  rows : ∀ (i : Nat) row, z[i]? = some row → row.length = n
def tb (z : List (List Int)) : Tb := fun i j => (((z[i]?).getD [])[j]?).getD 0
theorem Shape.row {n : Nat} {z : List (List Int)} (h : Shape n z) {i : Nat} (hi : i < n) : ∃ row, idx z (i : Int) = some row ∧ z[i]? = some row ∧ row.length = n := by
  obtain ⟨row, hr⟩ : ∃ row, z[i]? = some row := ⟨_, List.getElem?_eq_getElem (by rw [h.len]; exact hi)⟩
  exact ⟨row, idx_at hr, hr, h.rows i row hr⟩
theorem Shape.cell {n : Nat} {z : List (List Int)} (_ : Shape n z) {i j : Nat} {row : List Int} (hr : z[i]? = some row) (hl : row.length = n) (hj : j < n) : idx row (j : Int) = some (tb z i j) := by
  obtain ⟨v, hv⟩ : ∃ v, row[j]? = some v := ⟨_, List.getElem?_eq_getElem (by omega)⟩
  rw [idx_at hv]
  unfold tb
  rw [hr, Option.getD_some, hv, Option.getD_some]
theorem Shape.set {n : Nat} {z : List (List Int)} (h : Shape n z) {i j : Nat} {row : List Int} (hr : z[i]? = some row) (hi : i < n) (hj : j < n) (v : Int) :
    Shape n (z.set i (row.set j v)) ∧ tb (z.set i (row.set j v)) = upd2 (tb z) i j v := by
  have hl := h.rows i row hr
  have hzl := h.len
  refine ⟨⟨by simp [hzl], fun a r ha => ?_⟩, ?_⟩
  · rw [List.getElem?_set] at ha
    split at ha
    · split at ha
      · cases ha; simp [hl]
      · cases ha
    · exact h.rows a r ha
  · funext a b
    unfold tb upd2
    rw [List.getElem?_set]
    by_cases ha : i = a
    · subst ha
      rw [if_pos rfl, if_pos (by omega), Option.getD_some, List.getElem?_set]
      show _ = if i = i ∧ b = j then v else (((z[i]?).getD [])[b]?).getD 0
      rw [hr, Option.getD_some]
      by_cases hb : j = b
      · subst hb
        rw [if_pos rfl, if_pos (by omega), if_pos ⟨rfl, rfl⟩, Option.getD_some]
      · rw [if_neg hb, if_neg (fun h => hb h.2.symm)]
    · rw [if_neg ha, if_neg (fun h => ha h.1.symm)]
theorem upd2_self (c : Tb) (i j : Nat) : upd2 c i j (c i j) = c := by
  funext a b
  unfold upd2
  split
  · rename_i h; rw [h.1, h.2]
  · rfl
/-! The loops over a table. -/
def jbody (k i j : Nat) (z23 : List (List Int)) : Option (List (List Int)) :=
  (idx z23 (i : Int)).bind (fun x10 =>
  (idx x10 (k : Int)).bind (fun x11 =>
  ((if (decide (x11 < 1152921504606846976)) = true then
    (idx z23 (k : Int)).bind (fun x12 =>
    (idx x12 (j : Int)).bind (fun x13 =>
    some (decide (x13 < 1152921504606846976))))
  else
    some false) : Option Bool).bind (fun b10 =>
  ((
    (if b10 = true then
      (idx z23 (i : Int)).bind (fun x14 =>
      (idx z23 (i : Int)).bind (fun x15 =>
      (idx x15 (j : Int)).bind (fun x16 =>
      (idx z23 (i : Int)).bind (fun x17 =>
      (idx x17 (k : Int)).bind (fun x18 =>
      (idx z23 (k : Int)).bind (fun x19 =>
      (idx x19 (j : Int)).bind (fun x20 =>
      (addI x18 x20).bind (fun t18 =>
      (idx x14 (j : Int)).bind (fun _ =>
      some (z23.set (Int.toNat (i : Int)) (x14.set (Int.toNat (j : Int)) (max (-1152921504606846976) (min x16 t18)))))))))))))
    else
      some z23)) : Option ((List (List Int)))).bind (fun s19 =>
  some s19))))
theorem jbody_ok {n k i j : Nat} {z : List (List Int)} (h : Shape n z) (hI : InN NN (tb z)) (hk : k < n) (hi : i < n) (hj : j < n) : ∃ z', jbody k i j z = some z' ∧ Shape n z' ∧ tb z' = upd2 (tb z) i j (fwv NN (tb z) k i j) ∧ InN NN (tb z') := by
  obtain ⟨ri, a1, a2, a3⟩ := h.row hi
  obtain ⟨rk, b1, b2, b3⟩ := h.row hk
  have c1 := h.cell a2 a3 hk
  have c2 := h.cell a2 a3 hj
  have c3 := h.cell b2 b3 hj
  have hI2 := inN_upd (N := NN) (by decide) hI k i j
  unfold jbody
  rw [a1, Option.bind_some, c1, Option.bind_some]
  by_cases h1 : tb z i k < NN ∧ tb z k j < NN
  · have e1 : -1152921504606846976 ≤ tb z i k ∧ tb z i k ≤ 1152921504606846976 := hI i k
    have e2 : -1152921504606846976 ≤ tb z k j ∧ tb z k j ≤ 1152921504606846976 := hI k j
    rw [if_pos (decide_eq_true h1.1), b1, Option.bind_some, c3, Option.bind_some, Option.bind_some, if_pos (decide_eq_true h1.2)]
    simp only [c1, c2, c3, Option.bind_some]
    rw [addI_ok (by omega), Option.bind_some, Option.bind_some]
    obtain ⟨s1, s2⟩ := h.set a2 hi hj (max (-NN) (min (tb z i j) (tb z i k + tb z k j)))
    have hf : fwv NN (tb z) k i j = max (-NN) (min (tb z i j) (tb z i k + tb z k j)) := by unfold fwv; rw [if_pos h1]
    rw [hf] at hI2 ⊢
    exact ⟨_, rfl, s1, s2, s2 ▸ hI2⟩
  · have hf : fwv NN (tb z) k i j = tb z i j := by unfold fwv; rw [if_neg h1]
    rw [hf, upd2_self] at hI2 ⊢
    refine ⟨z, ?_, h, rfl, hI⟩
    by_cases h2 : tb z i k < NN
    · rw [if_pos (decide_eq_true h2), b1, Option.bind_some, c3, Option.bind_some, Option.bind_some, if_neg (by rw [decide_eq_true_eq]; exact fun h3 => h1 ⟨h2, h3⟩)]
      rfl
    · rw [if_neg (by rw [decide_eq_true_eq]; exact h2)]
      rfl
abbrev Zt := List (List Int)
theorem jloop {n k i : Nat} (hk : k < n) (hi : i < n) {z : Zt} (h : Shape n z) (hI : InN NN (tb z)) : ∃ z', rangeN (S := Zt) (X := Zt) (fun j z => (jbody k i j.toNat z).bind fun s => some (Step.cont s)) (fun z => z) n 0 z = some z' ∧ Shape n z' ∧ InN NN (tb z') ∧ tb z' = fwJ NN k i n 0 (tb z) := by
  obtain ⟨z', h1, h2, h3, h4⟩ := rangeN_inv (S := Zt) (X := Zt) (body := fun j z => (jbody k i j.toNat z).bind fun s => some (Step.cont s)) (fin := fun z => z) (fun j z' => Shape n z' ∧ InN NN (tb z') ∧ (j ≤ n → fwJ NN k i (n - j) j (tb z') = fwJ NN k i n 0 (tb z))) n z (fun j z1 hj ⟨q1, q2, q3⟩ => by
    obtain ⟨z2, r1, r2, r3, r4⟩ := jbody_ok q1 q2 hk hi hj
    rw [Int.toNat_natCast, r1]
    refine ⟨z2, rfl, r2, r4, fun _ => ?_⟩
    rw [r3, ← q3 (by omega), show n - j = (n - (j + 1)) + 1 by omega]
    rfl) ⟨h, hI, fun _ => rfl⟩
  refine ⟨z', h1, h2, h3, ?_⟩
  have := h4 (Nat.le_refl n)
  rw [Nat.sub_self] at this
  exact this
theorem iloop {n k : Nat} (hk : k < n) {z : Zt} (h : Shape n z) (hI : InN NN (tb z)) : ∃ z', rangeN (S := Zt) (X := Zt) (fun i z => (rangeN (S := Zt) (X := Zt) (fun j z => (jbody k i.toNat j.toNat z).bind fun s => some (Step.cont s)) (fun z => z) n 0 z).bind fun s => some (Step.cont s)) (fun z => z) n 0 z = some z' ∧ Shape n z' ∧ InN NN (tb z') ∧ tb z' = fwI NN k n n 0 (tb z) := by
  obtain ⟨z', h1, h2, h3, h4⟩ := rangeN_inv (S := Zt) (X := Zt) (body := fun i z => (rangeN (S := Zt) (X := Zt) (fun j z => (jbody k i.toNat j.toNat z).bind fun s => some (Step.cont s)) (fun z => z) n 0 z).bind fun s => some (Step.cont s)) (fin := fun z => z) (fun i z' => Shape n z' ∧ InN NN (tb z') ∧ (i ≤ n → fwI NN k n (n - i) i (tb z') = fwI NN k n n 0 (tb z))) n z (fun i z1 hi ⟨q1, q2, q3⟩ => by
    obtain ⟨z2, r1, r2, r3, r4⟩ := jloop hk hi q1 q2
    rw [Int.toNat_natCast, r1]
    refine ⟨z2, rfl, r2, r3, fun _ => ?_⟩
    rw [r4, ← q3 (by omega), show n - i = (n - (i + 1)) + 1 by omega]
    rfl) ⟨h, hI, fun _ => rfl⟩
  refine ⟨z', h1, h2, h3, ?_⟩
  have := h4 (Nat.le_refl n)
  rw [Nat.sub_self] at this
  exact this
theorem kloop {n : Nat} {z : Zt} (h : Shape n z) (hI : InN NN (tb z)) : ∃ z', rangeN (S := Zt) (X := Zt) (fun k z => (rangeN (S := Zt) (X := Zt) (fun i z => (rangeN (S := Zt) (X := Zt) (fun j z => (jbody k.toNat i.toNat j.toNat z).bind fun s => some (Step.cont s)) (fun z => z) n 0 z).bind fun s => some (Step.cont s)) (fun z => z) n 0 z).bind fun s => some (Step.cont s)) (fun z => z) n 0 z = some z' ∧ Shape n z' ∧ InN NN (tb z') ∧ tb z' = fwK NN n n 0 (tb z) := by
  obtain ⟨z', h1, h2, h3, h4⟩ := rangeN_inv (S := Zt) (X := Zt) (body := fun k z => (rangeN (S := Zt) (X := Zt) (fun i z => (rangeN (S := Zt) (X := Zt) (fun j z => (jbody k.toNat i.toNat j.toNat z).bind fun s => some (Step.cont s)) (fun z => z) n 0 z).bind fun s => some (Step.cont s)) (fun z => z) n 0 z).bind fun s => some (Step.cont s)) (fin := fun z => z) (fun k z' => Shape n z' ∧ InN NN (tb z') ∧ (k ≤ n → fwK NN n (n - k) k (tb z') = fwK NN n n 0 (tb z))) n z (fun k z1 hk ⟨q1, q2, q3⟩ => by
    obtain ⟨z2, r1, r2, r3, r4⟩ := iloop hk q1 q2
    rw [Int.toNat_natCast, r1]
    refine ⟨z2, rfl, r2, r3, fun _ => ?_⟩
    rw [r4, ← q3 (by omega), show n - k = (n - (k + 1)) + 1 by omega]
    rfl) ⟨h, hI, fun _ => rfl⟩
  refine ⟨z', h1, h2, h3, ?_⟩
  have := h4 (Nat.le_refl n)
  rw [Nat.sub_self] at this
  exact this
end Go.Fw
