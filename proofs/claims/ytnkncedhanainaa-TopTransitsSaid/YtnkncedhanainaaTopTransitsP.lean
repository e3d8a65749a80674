/-
  TopTransits, proved: for every input it returns true. No condition.
-/
import Derived.Test.YtnkncedhanainaaW2
import Derived.Test.YtnkncedhanainaaTopTransitsL
import Derived.ProofKit
namespace Go.Proofs.Ytnkncedhanainaa
open Go.Fw Go.Proofs Go.RowKit Go.ChangeShapes Go.WideShapes Go.ChangeAt
open Go.ChangeMaps (open_string)
theorem Try.own : ownKnob Try.prog.godebug = none := by kernel_rfl
theorem Try.laidOut : laidOutB Try.prog = true := by kernel_rfl
theorem len_2 {α : Type} {cs : List α} (h : cs.length = 2) : ∃ c0 c1, cs = [c0, c1] := by
  match cs, h with
  | [c0, c1], _ => exact ⟨_, _, rfl⟩
theorem opens_GTube : Opens (α := GTube) Try.prog 24 okGTube := by
  intro H enc w base spare held fuel cs x h
  obtain ⟨xs, n, _, _, hlen, hxl, hf⟩ := DataW.trod_struct Try.underlying24 h
  have hlen : cs.length = 2 := hlen.trans (by kernel_rfl)
  obtain ⟨c0, c1, rfl⟩ := len_2 hlen
  obtain ⟨y0, f0⟩ := struct_field hf hxl 0 (by decide) rfl (k := 1) (by kernel_rfl)
  obtain ⟨v0, h0, g0, s0, k0⟩ := open_list (ok := (fun a => inI a = true)) (Opens.int Try.underlying3) Try.underlying22 (by kernel_rfl) f0
  obtain ⟨y1, f1⟩ := struct_field hf hxl 1 (by decide) rfl (k := 1) (by kernel_rfl)
  obtain ⟨g1, h1, k1⟩ := (Opens.int Try.underlying3) f1
  cases h0
  cases h1
  exact ⟨⟨g0, g1⟩, ⟨_, rfl, s0⟩, ⟨s0.1, k0⟩, k1⟩
theorem len_4 {α : Type} {cs : List α} (h : cs.length = 4) : ∃ c0 c1 c2 c3, cs = [c0, c1, c2, c3] := by
  match cs, h with
  | [c0, c1, c2, c3], _ => exact ⟨_, _, _, _, rfl⟩
theorem opens_GStar : Opens (α := GStar) Try.prog 29 okGStar := by
  intro H enc w base spare held fuel cs x h
  obtain ⟨xs, n, _, _, hlen, hxl, hf⟩ := DataW.trod_struct Try.underlying29 h
  have hlen : cs.length = 4 := hlen.trans (by kernel_rfl)
  obtain ⟨c0, c1, c2, c3, rfl⟩ := len_4 hlen
  obtain ⟨y0, f0⟩ := struct_field hf hxl 0 (by decide) rfl (k := 1) (by kernel_rfl)
  obtain ⟨g0, h0, k0⟩ := (Opens.string Try.underlying9) f0
  obtain ⟨y1, f1⟩ := struct_field hf hxl 1 (by decide) rfl (k := 1) (by kernel_rfl)
  obtain ⟨g1, h1, k1⟩ := (Opens.int Try.underlying3) f1
  obtain ⟨y2, f2⟩ := struct_field hf hxl 2 (by decide) rfl (k := 1) (by kernel_rfl)
  obtain ⟨g2, h2, k2⟩ := (Opens.int Try.underlying3) f2
  obtain ⟨y3, f3⟩ := struct_field hf hxl 3 (by decide) rfl (k := 1) (by kernel_rfl)
  obtain ⟨g3, h3, k3⟩ := (Opens.int Try.underlying3) f3
  cases h0
  cases h1
  cases h2
  cases h3
  exact ⟨⟨g0, g1, g2, g3⟩, rfl, k0, k1, k2, k3⟩

set_option maxRecDepth 100000 in
theorem topTransits_lifted (os : Os) (started : os.Started) (H : Type) (enc : TypeId × Value → H) :
    ReturnsInHanded {} Try.checked os 3 .any (Rows.topTransitsSpec.pre6 enc Try.prog Try.f3 Rows.topTransitsRow.domain false) (Rows.topTransitsSpec.post enc Try.prog Try.f3 false true false false) := by
  refine returnsInHanded_of_change (C := Try.checked) Try.own started (by kernel_rfl) Try.func3
    (ChangeSpec.witness6 (enc := enc) (C := Try.checked) false ⟨#[], #[.agg #[(.slice none 0 0), (.int .i64 (0))], .slice none 0 0, .int .i64 0, .int .i64 0], []⟩ 8 (by kernel_rfl) (by kernel_rfl) (by kernel_rfl) (by kernel_rfl)) ?_
  intro W base args ds gs before hval0 hW _ _
  have hval : ∀ (j : Nat) t v, Try.f3.params[j]? = some t → args[j]? = some v → Value.okWide Try.prog W .any base t v := hval0
  have hW' := hW
  obtain ⟨p, q, hA0, hV, rfl, _, _⟩ := hW
  have hA : DataW.TrodAll enc Try.prog W 0 (fun _ => true) true Try.f3.params.toList args.toList ds p := hA0
  rw [Try.params3] at hA hval
  obtain ⟨v0, v1, v2, v3, d0, d1, d2, d3, p0, p1, p2, p3, rfl, rfl, rfl, h0, h1, h2, h3⟩ := trodAll_four hA
  obtain ⟨rfl, rfl⟩ := trodVars_none hV
  clear hA0 hval0
  obtain ⟨cs0, a0, rfl, hr0, ok0⟩ := open_tyV opens_GTube Try.underlying24 (hval 0 24 v0 rfl rfl) h0
  obtain ⟨va0_0, rfl, ha0_0⟩ := hr0
  obtain ⟨a1, ha1, ok1⟩ := open_listV (ok := okGStar) opens_GStar Try.underlying25 (by kernel_rfl) (hval 1 25 v1 rfl rfl) h1
  obtain ⟨a2, rfl, rfl, rfl, wf2⟩ := open_int Try.underlying3 (hval 2 3 v2 rfl rfl) h2
  have ok2 : inI a2 = true := inI_of_wf wf2
  obtain ⟨a3, rfl, rfl, rfl, wf3⟩ := open_int Try.underlying3 (hval 3 3 v3 rfl rfl) h3
  have ok3 : inI a3 = true := inI_of_wf wf3
  refine (c_noonguntop_TopTransits va0_0 a0 ha0_0 v1 a1 ha1 a2 a3 (law_noonguntop_TopTransits a0 ok0 a1 ok1 ha1.1 a2 ok2 a3 ok3)).mono fun e W' hR => ?_
  obtain ⟨v, rfl, hb, rfl⟩ := hR
  exact ⟨_, rfl, post_true Try.laidOut (by kernel_rfl) rfl Try.underlying4 rfl hW' rfl hb⟩

set_option maxRecDepth 100000 in
theorem topTransits_holds : Rows.TopTransitsSaid :=
  OpenClaim.holds_of_wide 3 Try.f3 rfl rfl rfl rfl rfl rfl rfl ⟨rfl, rfl, rfl, rfl, rfl⟩ rfl rfl rfl rfl rfl (by kernel_rfl) Try.func3 (by kernel_rfl)
    (of_decide_eq_true (by kernel_rfl)) (by unfold Func.isWrapper; first | (rw [if_pos (by decide +kernel)]; kernel_rfl) | (rw [if_neg (by decide +kernel)]; exact ⟨rfl, rfl⟩))
    (fun os started H enc _ => topTransits_lifted os started H enc)

#print axioms topTransits_holds
end Go.Proofs.Ytnkncedhanainaa
