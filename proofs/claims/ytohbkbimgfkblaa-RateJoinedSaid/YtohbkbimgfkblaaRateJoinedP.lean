/-
  RateJoined, proved: for every input it returns true. No condition.
-/
import Derived.Test.YtohbkbimgfkblaaW1
import Derived.Test.YtohbkbimgfkblaaRateJoinedL
import Derived.ProofKit
namespace Go.Proofs.Ytohbkbimgfkblaa
open Go.Fw Go.Proofs Go.RowKit Go.ChangeShapes Go.WideShapes Go.ChangeAt
open Go.ChangeMaps (open_string)
theorem Try.own : ownKnob Try.prog.godebug = none := by kernel_rfl
theorem Try.laidOut : laidOutB Try.prog = true := by kernel_rfl
theorem len_2 {α : Type} {cs : List α} (h : cs.length = 2) : ∃ c0 c1, cs = [c0, c1] := by
  match cs, h with
  | [c0, c1], _ => exact ⟨_, _, rfl⟩
theorem opens_GBox : Opens (α := GBox) Try.prog 24 okGBox := by
  intro H enc w base spare held fuel cs x h
  obtain ⟨xs, n, _, _, hlen, hxl, hf⟩ := DataW.trod_struct Try.underlying24 h
  have hlen : cs.length = 2 := hlen.trans (by kernel_rfl)
  obtain ⟨c0, c1, rfl⟩ := len_2 hlen
  obtain ⟨y0, f0⟩ := struct_field hf hxl 0 (by decide) rfl (k := 1) (by kernel_rfl)
  obtain ⟨g0, h0, k0⟩ := (Opens.string Try.underlying9) f0
  obtain ⟨y1, f1⟩ := struct_field hf hxl 1 (by decide) rfl (k := 1) (by kernel_rfl)
  obtain ⟨v1, h1, g1, s1, k1⟩ := open_list (ok := (fun a => inI a = true)) (Opens.int Try.underlying3) Try.underlying22 (by kernel_rfl) f1
  cases h0
  cases h1
  exact ⟨⟨g0, g1⟩, ⟨_, rfl, s1⟩, k0, ⟨s1.1, k1⟩⟩

set_option maxRecDepth 100000 in
theorem rateJoined_lifted (os : Os) (started : os.Started) (H : Type) (enc : TypeId × Value → H) :
    ReturnsInHanded {} Try.checked os 6 .any (Rows.rateJoinedSpec.pre6 enc Try.prog Try.f6 Rows.rateJoinedRow.domain false) (Rows.rateJoinedSpec.post enc Try.prog Try.f6 false true false false) := by
  refine returnsInHanded_of_change (C := Try.checked) Try.own started (by kernel_rfl) Try.func6
    (ChangeSpec.witness6 (enc := enc) (C := Try.checked) false ⟨#[], #[.agg #[(.string ByteArray.empty), (.slice none 0 0)], .agg #[(.string ByteArray.empty), (.slice none 0 0)]], []⟩ 8 (by kernel_rfl) (by kernel_rfl) (by kernel_rfl) (by kernel_rfl)) ?_
  intro W base args ds gs before hval0 hW _ _
  have hval : ∀ (j : Nat) t v, Try.f6.params[j]? = some t → args[j]? = some v → Value.okWide Try.prog W .any base t v := hval0
  have hW' := hW
  obtain ⟨p, q, hA0, hV, rfl, _, _⟩ := hW
  have hA : DataW.TrodAll enc Try.prog W 0 (fun _ => true) true Try.f6.params.toList args.toList ds p := hA0
  rw [Try.params6] at hA hval
  obtain ⟨v0, v1, d0, d1, p0, p1, rfl, rfl, rfl, h0, h1⟩ := trodAll_two hA
  obtain ⟨rfl, rfl⟩ := trodVars_none hV
  clear hA0 hval0
  obtain ⟨cs0, a0, rfl, hr0, ok0⟩ := open_tyV opens_GBox Try.underlying24 (hval 0 24 v0 rfl rfl) h0
  obtain ⟨va0_0, rfl, ha0_0⟩ := hr0
  obtain ⟨cs1, a1, rfl, hr1, ok1⟩ := open_tyV opens_GBox Try.underlying24 (hval 1 24 v1 rfl rfl) h1
  obtain ⟨va1_0, rfl, ha1_0⟩ := hr1
  refine (c_noongunlaw06_RateJoined va0_0 a0 ha0_0 va1_0 a1 ha1_0 (law_noongunlaw06_RateJoined a0 ok0 a1 ok1)).mono fun e W' hR => ?_
  obtain ⟨v, rfl, hb, rfl⟩ := hR
  exact ⟨_, rfl, post_true Try.laidOut (by kernel_rfl) rfl Try.underlying4 rfl hW' rfl hb⟩

set_option maxRecDepth 100000 in
theorem rateJoined_holds : Rows.RateJoinedSaid :=
  OpenClaim.holds_of_wide 6 Try.f6 rfl rfl rfl rfl rfl rfl rfl ⟨rfl, rfl, rfl, rfl, rfl⟩ rfl rfl rfl rfl rfl (by kernel_rfl) Try.func6 (by kernel_rfl)
    (of_decide_eq_true (by kernel_rfl)) (by unfold Func.isWrapper; first | (rw [if_pos (by decide +kernel)]; kernel_rfl) | (rw [if_neg (by decide +kernel)]; exact ⟨rfl, rfl⟩))
    (fun os started H enc _ => rateJoined_lifted os started H enc)

#print axioms rateJoined_holds
end Go.Proofs.Ytohbkbimgfkblaa
