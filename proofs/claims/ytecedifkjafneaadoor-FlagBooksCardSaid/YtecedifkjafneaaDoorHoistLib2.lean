/-
  Hoists, plain: what the exported functions give. No condition.
-/
import Derived.Test.YtecedifkjafneaaDoorHoistLib
namespace Go.Fw

def ask (d : List Int) (a : Int) : Int := if vD d = true then (if inB 0 8191 a = true then 0 else 7) else 1
theorem set_nat {a : Int} (h : inB 0 8191 a = true) : ∃ fl : Nat, a = (fl : Int) ∧ fl < 8192 := by
  unfold inB at h
  simp only [Bool.and_eq_true, decide_eq_true_eq] at h
  exact ⟨a.toNat, by omega, by omega⟩
theorem vD_len {d : List Int} (h : vD d = true) : d.length ≤ 4 ∧ 1 ≤ d.length := by
  have := ((vD_iff d).1 h).1; omega
theorem RH_len (d : List Int) (fl : Nat) (hd : d.length ≤ 4) : (RH d fl).length ≤ 28561 := by
  have e : RH d fl = iterH d fl d.length [[]] := by
    rw [iterH_flat]; simp only [RH, List.flatMap_cons, List.flatMap_nil, List.append_nil]
  have hlen : ∀ i, (iterH d fl i [[]]).length ≤ 13 ^ i := by
    intro i
    induction i with
    | zero => simp [iterH]
    | succ i ih =>
      rw [iterH_succ]
      have h1 := stepH_len d fl (iterH d fl i [[]])
      rw [Nat.pow_succ]; omega
  rw [e]
  exact Nat.le_trans (hlen _) (Nat.le_trans (Nat.pow_le_pow_right (by decide) hd) (by decide))
theorem RH_row (d : List Int) (fl : Nat) {x : List Int} (h : x ∈ RH d fl) : x.length = d.length := by
  have := congrArg List.length ((mem_RH d fl x).1 h).2.1
  rw [meansL_len] at this
  simpa using this
def withR (d : List Int) (a : Int) : List Int × Int := if ask d a = 0 then (match RH d a.toNat with | [] => ([], 10) | h :: _ => (h, 0)) else ([], ask d a)
theorem ask_zero {d : List Int} {a : Int} (h : ask d a = 0) : vD d = true ∧ inB 0 8191 a = true := by
  unfold ask at h
  split at h
  · split at h
    · exact ⟨by assumption, by assumption⟩
    · cases h
  · cases h
def hoistsR (d : List Int) (a : Int) : List (List Int) × Int := if ask d a = 0 then (RH d a.toNat, 0) else ([], ask d a)
theorem RH_more (d : List Int) (fl m : Nat) (h : (RH d fl).isEmpty = false) : (RH d (fl ||| m)).isEmpty = false := by
  cases hR : RH d fl with
  | nil => rw [hR] at h; cases h
  | cons x l =>
    have hx := (mem_RH d fl x).1 (by rw [hR]; simp)
    have : x ∈ RH d (fl ||| m) := (mem_RH d _ x).2 ⟨hx.1, hx.2.1, fun f hf => by rw [Nat.testBit_or, hx.2.2 f hf, Bool.true_or]⟩
    cases hR2 : RH d (fl ||| m) with
    | nil => rw [hR2] at this; simp at this
    | cons y l => rfl
def missR (d : List Int) (a : Int) : List Int × Int :=
  if ask d a = 0 then (if (RH d a.toNat).isEmpty = true then ((List.range 13).flatMap fun (f : Nat) => if (RH d (a.toNat ||| 2 ^ f)).isEmpty = true then [] else [(f : Int)], 0) else ([], 9)) else ([], ask d a)
theorem empty_len {α : Type} (l : List α) : decide (0 < ((l.length : Nat) : Int)) = !l.isEmpty := by
  cases l with
  | nil => rfl
  | cons a l => simp
/-- The set of a hoist's flags. -/
theorem uses_bits (h : List Int) (S fl : Nat) (hS : S < 8192) (hb : ∀ i, S.testBit i = h.any fun f => f.toNat == i) : (bits .andNot .i64 (S : Int) (fl : Int) == 0) = h.all fun f => fl.testBit f.toNat := by
  rw [bits_andNot S fl (by omega), Bool.eq_iff_iff]
  simp only [beq_iff_eq, List.all_eq_true]
  have e : ((andNotN S fl : Nat) : Int) = 0 ↔ andNotN S fl = 0 := by omega
  rw [e]
  constructor
  · intro h0 f hf
    have := andNotN_bit S fl (by omega) f.toNat
    rw [h0, Nat.zero_testBit, hb, List.any_eq_true.2 ⟨f, hf, by simp⟩] at this
    simpa using this.symm
  · intro hu
    apply Nat.eq_of_testBit_eq
    intro i
    rw [andNotN_bit S fl (by omega), Nat.zero_testBit, hb]
    cases hany : h.any fun f => f.toNat == i with
    | false => rfl
    | true =>
      obtain ⟨f, hf, he⟩ := List.any_eq_true.1 hany
      have : f.toNat = i := by simpa using he
      rw [← this, hu f hf]; rfl
end Go.Fw
