/-
  LedgerLast, proved: for every input it returns true. No condition.
-/
import Derived.Test.YtokfcbpfhojdkaaW0
import Derived.Test.YtokfcbpfhojdkaaLedgerLastL
import Derived.ProofKit
namespace Go.Proofs.Ytokfcbpfhojdkaa
open Go.Fw Go.Proofs Go.RowKit Go.ChangeShapes Go.WideShapes Go.ChangeAt
open Go.ChangeMaps (open_string)
theorem Try.own : ownKnob Try.prog.godebug = none := by kernel_rfl
theorem Try.laidOut : laidOutB Try.prog = true := by kernel_rfl
theorem len_3 {α : Type} {cs : List α} (h : cs.length = 3) : ∃ c0 c1 c2, cs = [c0, c1, c2] := by
  match cs, h with
  | [c0, c1, c2], _ => exact ⟨_, _, _, rfl⟩
theorem opens_GEntry : Opens (α := GEntry) Try.prog 36 okGEntry := by
  intro H enc w base spare held fuel cs x h
  obtain ⟨xs, n, _, _, hlen, hxl, hf⟩ := DataW.trod_struct Try.underlying36 h
  have hlen : cs.length = 3 := hlen.trans (by kernel_rfl)
  obtain ⟨c0, c1, c2, rfl⟩ := len_3 hlen
  obtain ⟨y0, f0⟩ := struct_field hf hxl 0 (by decide) rfl (k := 1) (by kernel_rfl)
  obtain ⟨g0, h0, k0⟩ := (Opens.int Try.underlying3) f0
  obtain ⟨y1, f1⟩ := struct_field hf hxl 1 (by decide) rfl (k := 1) (by kernel_rfl)
  obtain ⟨g1, h1, k1⟩ := (Opens.bool Try.underlying4) f1
  obtain ⟨y2, f2⟩ := struct_field hf hxl 2 (by decide) rfl (k := 1) (by kernel_rfl)
  obtain ⟨g2, h2, k2⟩ := (Opens.int Try.underlying3) f2
  cases h0
  cases h1
  cases h2
  exact ⟨⟨g0, g1, g2⟩, rfl, k0, k1, k2⟩

set_option maxRecDepth 100000 in
theorem ledgerLast_lifted (os : Os) (started : os.Started) (H : Type) (enc : TypeId × Value → H) :
    ReturnsInHanded {} Try.checked os 3 .any (Rows.ledgerLastSpec.pre6 enc Try.prog Try.f3 Rows.ledgerLastRow.domain false) (Rows.ledgerLastSpec.post enc Try.prog Try.f3 false true false false) := by
  refine returnsInHanded_of_change (C := Try.checked) Try.own started (by kernel_rfl) Try.func3
    (ChangeSpec.witness6 (enc := enc) (C := Try.checked) false ⟨#[], #[.slice none 0 0, .int .i64 0], []⟩ 8 (by kernel_rfl) (by kernel_rfl) (by kernel_rfl) (by kernel_rfl)) ?_
  intro W base args ds gs before hval0 hW _ _
  have hval : ∀ (j : Nat) t v, Try.f3.params[j]? = some t → args[j]? = some v → Value.okWide Try.prog W .any base t v := hval0
  have hW' := hW
  obtain ⟨p, q, hA0, hV, rfl, _, _⟩ := hW
  have hA : DataW.TrodAll enc Try.prog W 0 (fun _ => true) true Try.f3.params.toList args.toList ds p := hA0
  rw [Try.params3] at hA hval
  obtain ⟨v0, v1, d0, d1, p0, p1, rfl, rfl, rfl, h0, h1⟩ := trodAll_two hA
  obtain ⟨rfl, rfl⟩ := trodVars_none hV
  clear hA0 hval0
  obtain ⟨a0, ha0, ok0⟩ := open_listV (ok := okGEntry) opens_GEntry Try.underlying22 (by kernel_rfl) (hval 0 22 v0 rfl rfl) h0
  obtain ⟨a1, rfl, rfl, rfl, wf1⟩ := open_int Try.underlying3 (hval 1 3 v1 rfl rfl) h1
  have ok1 : inI a1 = true := inI_of_wf wf1
  refine (c_noongunlaw09_LedgerLast v0 a0 ha0 a1 (law_noongunlaw09_LedgerLast a0 ok0 ha0.1 a1 ok1)).mono fun e W' hR => ?_
  obtain ⟨v, rfl, hb, rfl⟩ := hR
  exact ⟨_, rfl, post_true Try.laidOut (by kernel_rfl) rfl Try.underlying4 rfl hW' rfl hb⟩

set_option maxRecDepth 100000 in
theorem ledgerLast_holds : Rows.LedgerLastSaid :=
  OpenClaim.holds_of_wide 3 Try.f3 rfl rfl rfl rfl rfl rfl rfl ⟨rfl, rfl, rfl, rfl, rfl⟩ rfl rfl rfl rfl rfl (by kernel_rfl) Try.func3 (by kernel_rfl)
    (of_decide_eq_true (by kernel_rfl)) (by unfold Func.isWrapper; first | (rw [if_pos (by decide +kernel)]; kernel_rfl) | (rw [if_neg (by decide +kernel)]; exact ⟨rfl, rfl⟩))
    (fun os started H enc _ => ledgerLast_lifted os started H enc)

#print axioms ledgerLast_holds
end Go.Proofs.Ytokfcbpfhojdkaa
