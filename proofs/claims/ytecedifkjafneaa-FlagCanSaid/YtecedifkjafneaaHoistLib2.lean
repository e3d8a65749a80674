/-
  Hoists, plain: what the exported functions give. No condition.
-/
import Derived.Test.YtecedifkjafneaaHoistLib
namespace Go.Fw

theorem isSet_eq (a : Int) : flag_isSet a = some (inB 0 8191 a) := by unfold flag_isSet; rw [within_eq]; rfl
theorem rset_eq (a : Int) : noongunref07_set a = some (inB 0 8191 a) := by
  unfold noongunref07_set inB
  congr 1
  rw [Bool.eq_iff_iff]
  simp only [Bool.and_eq_true, decide_eq_true_eq]
  omega
def ask (d : List Int) (a : Int) : Int := if vD d = true then (if inB 0 8191 a = true then 0 else 7) else 1
theorem asked_eq (d : List Int) (a : Int) : flag_asked d a = some (ask d a) := by
  unfold flag_asked ask
  rw [ValidDigits_eq]
  simp only [Option.bind_some, isSet_eq]
  cases vD d <;> cases inB 0 8191 a <;> rfl
theorem set_nat {a : Int} (h : inB 0 8191 a = true) : ∃ fl : Nat, a = (fl : Int) ∧ fl < 8192 := by
  unfold inB at h
  simp only [Bool.and_eq_true, decide_eq_true_eq] at h
  exact ⟨a.toNat, by omega, by omega⟩
theorem vD_len {d : List Int} (h : vD d = true) : d.length ≤ 4 ∧ 1 ≤ d.length := by
  have := ((vD_iff d).1 h).1; omega
theorem RH_len (d : List Int) (fl : Nat) (hd : d.length ≤ 4) : (RH d fl).length ≤ 28561 := by
  have e : RH d fl = iterH d fl d.length [[]] := by
    rw [iterH_flat]; simp only [RH, List.flatMap_cons, List.flatMap_nil, List.append_nil]
  have hlen : ∀ i, (iterH d fl i [[]]).length ≤ 13 ^ i := by
    intro i
    induction i with
    | zero => simp [iterH]
    | succ i ih =>
      rw [iterH_succ]
      have h1 := stepH_len d fl (iterH d fl i [[]])
      rw [Nat.pow_succ]; omega
  rw [e]
  exact Nat.le_trans (hlen _) (Nat.le_trans (Nat.pow_le_pow_right (by decide) hd) (by decide))
theorem RH_row (d : List Int) (fl : Nat) {x : List Int} (h : x ∈ RH d fl) : x.length = d.length := by
  have := congrArg List.length ((mem_RH d fl x).1 h).2.1
  rw [meansL_len] at this
  simpa using this
theorem can_eq (d : List Int) (fl : Nat) (hfl : fl < 8192) (hd : d.length ≤ 1000) : flag_can d (fl : Int) = some (!(RH d fl).isEmpty) := by
  unfold flag_can
  rw [hoists_eq d fl hfl hd, Option.bind_some]
  cases RH d fl with
  | nil => rfl
  | cons a l => rfl
def withR (d : List Int) (a : Int) : List Int × Int := if ask d a = 0 then (match RH d a.toNat with | [] => ([], 10) | h :: _ => (h, 0)) else ([], ask d a)
theorem ask_zero {d : List Int} {a : Int} (h : ask d a = 0) : vD d = true ∧ inB 0 8191 a = true := by
  unfold ask at h
  split at h
  · split at h
    · exact ⟨by assumption, by assumption⟩
    · cases h
  · cases h
theorem With_eq (d : List Int) (a : Int) : flag_With d a = some (withR d a) := by
  unfold flag_With withR
  rw [asked_eq, Option.bind_some]
  by_cases h : ask d a = 0
  · obtain ⟨h1, h2⟩ := ask_zero h
    obtain ⟨fl, rfl, hfl⟩ := set_nat h2
    have hl := vD_len h1
    rw [if_neg (by simp [h]), if_pos h, hoists_eq d fl hfl (by omega), Option.bind_some, Int.toNat_natCast]
    cases hR : RH d fl with
    | nil => rfl
    | cons x l =>
      have hx := RH_row d fl (x := x) (by rw [hR]; simp)
      simp only [rangeL]
      rw [clone_eq x (by omega)]
      rfl
  · rw [if_pos (by simp [h]), if_neg h]
def hoistsR (d : List Int) (a : Int) : List (List Int) × Int := if ask d a = 0 then (RH d a.toNat, 0) else ([], ask d a)
theorem Hoists_eq (d : List Int) (a : Int) : flag_Hoists d a = some (hoistsR d a) := by
  unfold flag_Hoists hoistsR
  rw [asked_eq, Option.bind_some]
  by_cases h : ask d a = 0
  · obtain ⟨h1, h2⟩ := ask_zero h
    obtain ⟨fl, rfl, hfl⟩ := set_nat h2
    have hl := vD_len h1
    rw [if_neg (by simp [h]), if_pos h, hoists_eq d fl hfl (by omega), Option.bind_some, Int.toNat_natCast, rangeL_flat (fun x => [x]) 0 1]
    · simp
    · intro x _; simp
    · intro j x s hx hs
      have hx := RH_row d fl hx
      have hlen := RH_len d fl (by omega)
      rw [clone_eq x (by omega), Option.bind_some, appI_ok (by simp; omega)]
      rfl
    · simp
  · rw [if_pos (by simp [h]), if_neg h]
theorem rHoists_eq (d : List Int) (a : Int) : noongunref07_Hoists d a = some (hoistsR d a) := by
  unfold noongunref07_Hoists hoistsR ask
  rw [rValidDigits_eq, Option.bind_some]
  cases h1 : vD d with
  | false => rfl
  | true =>
    simp only [Bool.not_true, Bool.false_eq_true, if_false, if_true, rset_eq, Option.bind_some]
    cases h2 : inB 0 8191 a with
    | false => rfl
    | true =>
      obtain ⟨fl, rfl, hfl⟩ := set_nat h2
      simp only [Bool.not_true, Bool.false_eq_true, if_false, if_true, rhoists_eq d fl hfl h1, Option.bind_some, Int.toNat_natCast]
theorem rWith_eq (d : List Int) (a : Int) : noongunref07_With d a = some (withR d a) := by
  unfold noongunref07_With withR
  rw [rHoists_eq, Option.bind_some]
  unfold hoistsR
  by_cases h : ask d a = 0
  · rw [if_pos h, if_pos h]
    cases RH d a.toNat with
    | nil => rfl
    | cons x l =>
      have e : ((((x :: l).length : Nat) : Int) == 0) = false := by rw [beq_eq_false_iff_ne]; simp; omega
      simp only [e, bne_self_eq_false, Bool.false_eq_true, if_false]
      rfl
  · rw [if_neg h, if_neg h]
    simp [h]
theorem RH_more (d : List Int) (fl m : Nat) (h : (RH d fl).isEmpty = false) : (RH d (fl ||| m)).isEmpty = false := by
  cases hR : RH d fl with
  | nil => rw [hR] at h; cases h
  | cons x l =>
    have hx := (mem_RH d fl x).1 (by rw [hR]; simp)
    have : x ∈ RH d (fl ||| m) := (mem_RH d _ x).2 ⟨hx.1, hx.2.1, fun f hf => by rw [Nat.testBit_or, hx.2.2 f hf, Bool.true_or]⟩
    cases hR2 : RH d (fl ||| m) with
    | nil => rw [hR2] at this; simp at this
    | cons y l => rfl
def missR (d : List Int) (a : Int) : List Int × Int :=
  if ask d a = 0 then (if (RH d a.toNat).isEmpty = true then ((List.range 13).flatMap fun (f : Nat) => if (RH d (a.toNat ||| 2 ^ f)).isEmpty = true then [] else [(f : Int)], 0) else ([], 9)) else ([], ask d a)
theorem Missed_eq (d : List Int) (a : Int) : flag_Missed d a = some (missR d a) := by
  unfold flag_Missed missR
  rw [asked_eq, Option.bind_some]
  by_cases h : ask d a = 0
  · obtain ⟨h1, h2⟩ := ask_zero h
    obtain ⟨fl, rfl, hfl⟩ := set_nat h2
    have hl := vD_len h1
    rw [if_neg (by simp [h]), if_pos h, can_eq d fl hfl (by omega), Option.bind_some, Int.toNat_natCast]
    cases hR : (RH d fl).isEmpty with
    | false => rfl
    | true =>
      simp only [Bool.not_true, Bool.false_eq_true, if_false, if_true]
      rw [show Int.toNat 13 = 13 from rfl, rangeN_flat (fun f => if (RH d (fl ||| 2 ^ f)).isEmpty = true then [] else [(f : Int)]) 0 13]
      · rfl
      · intro f _; split <;> simp
      · intro f s hf hs
        have hp := pow13 f hf
        have ho : fl ||| 2 ^ f < 2 ^ 13 := Nat.or_lt_two_pow (n := 13) (by omega) (by omega)
        rw [shl_of f hf, Option.bind_some, bits_or fl (2 ^ f) (by omega) (by omega), can_eq d _ (by omega) (by omega), Option.bind_some]
        cases (RH d (fl ||| 2 ^ f)).isEmpty with
        | false => simp only [Bool.not_false, if_true, Bool.false_eq_true, if_false]; rw [appI_ok (by simp; omega)]; rfl
        | true => simp
      · simp
  · rw [if_pos (by simp [h]), if_neg h]
theorem empty_len {α : Type} (l : List α) : decide (0 < ((l.length : Nat) : Int)) = !l.isEmpty := by
  cases l with
  | nil => rfl
  | cons a l => simp
theorem rMissed_eq (d : List Int) (a : Int) : noongunref07_Missed d a = some (missR d a) := by
  unfold noongunref07_Missed missR
  rw [rHoists_eq, Option.bind_some]
  unfold hoistsR
  by_cases h : ask d a = 0
  · obtain ⟨h1, h2⟩ := ask_zero h
    obtain ⟨fl, rfl, hfl⟩ := set_nat h2
    rw [if_pos h, if_pos h, Int.toNat_natCast]
    simp only [bne_self_eq_false, Bool.false_eq_true, if_false, empty_len]
    cases hR : (RH d fl).isEmpty with
    | false => rfl
    | true =>
      simp only [Bool.not_true, Bool.false_eq_true, if_false, if_true]
      rw [show Int.toNat 13 = 13 from rfl, rangeN_flat (fun f => if (RH d (fl ||| 2 ^ f)).isEmpty = true then [] else [(f : Int)]) 0 13]
      · rfl
      · intro f _; split <;> simp
      · intro f s hf hs
        have hp := pow13 f hf
        have ho : fl ||| 2 ^ f < 2 ^ 13 := Nat.or_lt_two_pow (n := 13) (by omega) (by omega)
        rw [shl_of f hf, Option.bind_some, bits_or fl (2 ^ f) (by omega) (by omega), rhoists_eq d _ (by omega) h1, Option.bind_some]
        cases (RH d (fl ||| 2 ^ f)).isEmpty with
        | false => simp only [Bool.not_false, if_true, Bool.false_eq_true, if_false]; rw [appI_ok (by simp; omega)]; rfl
        | true => simp
      · simp
  · rw [if_neg h, if_neg h]
    simp [h]
theorem sameHoists_refl (a : List (List Int)) : noongunref07_SameHoists a a = some true := by
  unfold noongunref07_SameHoists
  rw [if_neg (by simp), Int.toNat_natCast, rangeN_step (fun _ => ()) a.length () rfl]
  · rfl
  · intro j hj
    rw [idx_at (List.getElem?_eq_getElem hj)]
    simp [same_eq]
/-- The set of a hoist's flags. -/
theorem Flags_eq (h : List Int) (hv : vH h = true) : ∃ S : Nat, flag_Flags h = some ((S : Int), 0) ∧ S < 8192 ∧ ∀ i, S.testBit i = h.any fun f => f.toNat == i := by
  obtain ⟨_, hp⟩ := (vH_iff h).1 hv
  unfold flag_Flags
  rw [ValidHoist_eq, hv]
  simp only [Option.bind_some, Bool.not_true, Bool.false_eq_true, if_false]
  obtain ⟨s, h1, S, h2, h3, h4⟩ := rangeL_inv (body := fun (_ : Int) (yk1 : Int) (z2 : Int) => (shlI 1 yk1).bind (fun t2 => some (Step.cont (bits .or .i64 z2 t2)))) (fin := fun z => z)
    (fun j s => ∃ S : Nat, s = (S : Int) ∧ S < 8192 ∧ ∀ i, S.testBit i = (h.take j).any fun f => f.toNat == i) h 0 (fun j x s hj ⟨S, h2, h3, h4⟩ => by
      have hx : inB 0 12 x = true := List.all_eq_true.1 hp.2 x (List.mem_of_getElem? hj)
      simp only [inB, Bool.and_eq_true, decide_eq_true_eq] at hx
      obtain ⟨f, rfl⟩ : ∃ f : Nat, x = (f : Int) := ⟨x.toNat, by omega⟩
      have hf : f < 13 := by omega
      have hpw := pow13 f hf
      have ho : S ||| 2 ^ f < 2 ^ 13 := Nat.or_lt_two_pow (n := 13) (by omega) (by omega)
      subst h2
      refine ⟨_, by rw [shl_of f hf, Option.bind_some, bits_or S (2 ^ f) (by omega) (by omega)], _, rfl, by omega, fun i => ?_⟩
      rw [Nat.testBit_or, h4 i, Nat.testBit_two_pow, List.take_add_one, hj, List.any_append]
      simp
      by_cases e : f = i <;> simp [e]) ⟨0, rfl, by decide, fun i => by simp⟩
  rw [h1, h2]
  rw [List.take_length] at h4
  exact ⟨S, rfl, h3, h4⟩
theorem uses_bits (h : List Int) (S fl : Nat) (hS : S < 8192) (hb : ∀ i, S.testBit i = h.any fun f => f.toNat == i) : (bits .andNot .i64 (S : Int) (fl : Int) == 0) = h.all fun f => fl.testBit f.toNat := by
  rw [bits_andNot S fl (by omega), Bool.eq_iff_iff]
  simp only [beq_iff_eq, List.all_eq_true]
  have e : ((andNotN S fl : Nat) : Int) = 0 ↔ andNotN S fl = 0 := by omega
  rw [e]
  constructor
  · intro h0 f hf
    have := andNotN_bit S fl (by omega) f.toNat
    rw [h0, Nat.zero_testBit, hb, List.any_eq_true.2 ⟨f, hf, by simp⟩] at this
    simpa using this.symm
  · intro hu
    apply Nat.eq_of_testBit_eq
    intro i
    rw [andNotN_bit S fl (by omega), Nat.zero_testBit, hb]
    cases hany : h.any fun f => f.toNat == i with
    | false => rfl
    | true =>
      obtain ⟨f, hf, he⟩ := List.any_eq_true.1 hany
      have : f.toNat = i := by simpa using he
      rw [← this, hu f hf]; rfl
end Go.Fw
