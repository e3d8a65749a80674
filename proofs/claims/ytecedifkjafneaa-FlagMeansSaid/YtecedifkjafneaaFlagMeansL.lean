/-
  FlagMeans, the plain law: what the code computes answers true, for digits and hoists.
-/
import Derived.Test.YtecedifkjafneaaLib
namespace Go.Fw
def flagsL (h : List Int) : Int := h.foldl (fun z f => bits .or .i64 z (1 * 2 ^ f.toNat)) 0
theorem shl1 {f : Int} (h : inB 0 12 f = true) : shlI 1 f = some (1 * 2 ^ f.toNat) := by
  simp only [inB, Bool.and_eq_true, decide_eq_true_eq] at h
  unfold shlI
  have h2 : ∀ n : Nat, n ≤ 12 → inI (1 * 2 ^ n) = true := by decide
  rw [if_pos ⟨by omega, h2 _ (by omega)⟩]
theorem flags_loop (h : List Int) (hall : h.all (inB 0 12) = true) :
    rangeL (fun _ yk1 z2 => (shlI 1 yk1).bind (fun t2 => some (Step.cont (bits .or .i64 z2 t2)))) (fun z2 => z2) h 0 0 = some (flagsL h) := by
  rw [rangeL_fold (fun z f => bits .or .i64 z (1 * 2 ^ f.toNat))]
  · rfl
  · intro i x s hx
    rw [shl1 (List.all_eq_true.1 hall x hx)]
    rfl
def flagsR (h : List Int) : Int × Int := if vH h = true then (flagsL h, 0) else (0, 1)
theorem Flags_eq (h : List Int) : flag_Flags h = some (flagsR h) := by
  unfold flag_Flags flagsR
  rw [ValidHoist_eq]
  simp only [Option.bind_some]
  cases hv : vH h with
  | false => simp
  | true => simp [flags_loop h (vH_parts hv).2.2.1]
theorem rFlags_eq (h : List Int) : noongunref07_Flags h = some (flagsR h) := by
  unfold noongunref07_Flags flagsR
  rw [rValidHoist_eq]
  simp only [Option.bind_some]
  cases hv : vH h with
  | false => simp
  | true => simp [flags_loop h (vH_parts hv).2.2.1]
theorem law_noongunlaw07_FlagMeans (a0 : (List Int)) (_ : ∀ a ∈ a0, (fun a => inI a = true) a) (_ : a0.length ≤ maxLen) (a1 : (List Int)) (_ : ∀ a ∈ a1, (fun a => inI a = true) a) (_ : a1.length ≤ maxLen) : noongunlaw07_FlagMeans a0 a1 = some true := by
  unfold noongunlaw07_FlagMeans
  simp only [awake_eq, Means_eq, rMeans_eq, Flags_eq, rFlags_eq, ValidDigits_eq, rValidDigits_eq, ValidHoist_eq, rValidHoist_eq, same_eq, Option.bind_some, beq_self_eq_true, if_true, decide_true, Bool.and_self, ite_self]
end Go.Fw
