/-
  FlagUsual, proved: for every input it returns true. No condition.
-/
import Derived.Test.YtecedifkjafneaaW2
import Derived.Test.YtecedifkjafneaaFlagUsualL
import Derived.ProofKit
namespace Go.Proofs.Ytecedifkjafneaa
open Go.Fw Go.Proofs Go.RowKit Go.ChangeShapes Go.WideShapes Go.ChangeAt
open Go.ChangeMaps (open_string)
theorem Try.own : ownKnob Try.prog.godebug = none := by kernel_rfl
theorem Try.laidOut : laidOutB Try.prog = true := by kernel_rfl

set_option maxRecDepth 100000 in
theorem flagUsual_lifted (os : Os) (started : os.Started) (H : Type) (enc : TypeId × Value → H) :
    ReturnsInHanded {} Try.checked os 6 .any (Rows.flagUsualSpec.pre6 enc Try.prog Try.f6 Rows.flagUsualRow.domain false) (Rows.flagUsualSpec.post enc Try.prog Try.f6 false true false false) := by
  refine returnsInHanded_of_change (C := Try.checked) Try.own started (by kernel_rfl) Try.func6
    (ChangeSpec.witness6 (enc := enc) (C := Try.checked) false ⟨#[], #[.slice none 0 0], []⟩ 8 (by kernel_rfl) (by kernel_rfl) (by kernel_rfl) (by kernel_rfl)) ?_
  intro W base args ds gs before hval0 hW _ _
  have hval : ∀ (j : Nat) t v, Try.f6.params[j]? = some t → args[j]? = some v → Value.okWide Try.prog W .any base t v := hval0
  have hW' := hW
  obtain ⟨p, q, hA0, hV, rfl, _, _⟩ := hW
  have hA : DataW.TrodAll enc Try.prog W 0 (fun _ => true) true Try.f6.params.toList args.toList ds p := hA0
  rw [Try.params6] at hA hval
  obtain ⟨v0, d0, rfl, rfl, h0⟩ := trodAll_one hA
  obtain ⟨rfl, rfl⟩ := trodVars_none hV
  clear hA0 hval0
  obtain ⟨a0, ha0, ok0⟩ := open_listV (ok := (fun a => inI a = true)) (Opens.int Try.underlying3) Try.underlying22 (by kernel_rfl) (hval 0 22 v0 rfl rfl) h0
  refine (c_noongunlaw07_FlagUsual v0 a0 ha0 (law_noongunlaw07_FlagUsual a0 ok0 ha0.1)).mono fun e W' hR => ?_
  obtain ⟨v, rfl, hb, rfl⟩ := hR
  exact ⟨_, rfl, post_true Try.laidOut (by kernel_rfl) rfl Try.underlying4 rfl hW' rfl hb⟩

set_option maxRecDepth 100000 in
theorem flagUsual_holds : Rows.FlagUsualSaid :=
  OpenClaim.holds_of_wide 6 Try.f6 rfl rfl rfl rfl rfl rfl rfl ⟨rfl, rfl, rfl, rfl, rfl⟩ rfl rfl rfl rfl rfl (by kernel_rfl) Try.func6 (by kernel_rfl)
    (of_decide_eq_true (by kernel_rfl)) (by unfold Func.isWrapper; first | (rw [if_pos (by decide +kernel)]; kernel_rfl) | (rw [if_neg (by decide +kernel)]; exact ⟨rfl, rfl⟩))
    (fun os started H enc _ => flagUsual_lifted os started H enc)

#print axioms flagUsual_holds
end Go.Proofs.Ytecedifkjafneaa
