/-
  SightTightens, proved: for every input it returns true. No condition.
-/
import Derived.Test.YtailgbhadhoedaaW4
import Derived.Test.YtailgbhadhoedaaSightTightensL
import Derived.ProofKit
namespace Go.Proofs.Ytailgbhadhoedaa
open Go.Fw Go.Proofs Go.RowKit Go.ChangeShapes Go.WideShapes Go.ChangeAt
open Go.ChangeMaps (open_string)
theorem Try.own : ownKnob Try.prog.godebug = none := by kernel_rfl
theorem Try.laidOut : laidOutB Try.prog = true := by kernel_rfl
theorem len_5 {α : Type} {cs : List α} (h : cs.length = 5) : ∃ c0 c1 c2 c3 c4, cs = [c0, c1, c2, c3, c4] := by
  match cs, h with
  | [c0, c1, c2, c3, c4], _ => exact ⟨_, _, _, _, _, rfl⟩
theorem opens_GSight : Opens (α := GSight) Try.prog 39 okGSight := by
  intro H enc w base spare held fuel cs x h
  obtain ⟨xs, n, _, _, hlen, hxl, hf⟩ := DataW.trod_struct Try.underlying39 h
  have hlen : cs.length = 5 := hlen.trans (by kernel_rfl)
  obtain ⟨c0, c1, c2, c3, c4, rfl⟩ := len_5 hlen
  obtain ⟨y0, f0⟩ := struct_field hf hxl 0 (by decide) rfl (k := 1) (by kernel_rfl)
  obtain ⟨g0, h0, k0⟩ := (Opens.int Try.underlying3) f0
  obtain ⟨y1, f1⟩ := struct_field hf hxl 1 (by decide) rfl (k := 1) (by kernel_rfl)
  obtain ⟨g1, h1, k1⟩ := (Opens.int Try.underlying3) f1
  obtain ⟨y2, f2⟩ := struct_field hf hxl 2 (by decide) rfl (k := 1) (by kernel_rfl)
  obtain ⟨g2, h2, k2⟩ := (Opens.int Try.underlying3) f2
  obtain ⟨y3, f3⟩ := struct_field hf hxl 3 (by decide) rfl (k := 1) (by kernel_rfl)
  obtain ⟨g3, h3, k3⟩ := (Opens.int Try.underlying3) f3
  obtain ⟨y4, f4⟩ := struct_field hf hxl 4 (by decide) rfl (k := 1) (by kernel_rfl)
  obtain ⟨g4, h4, k4⟩ := (Opens.int Try.underlying3) f4
  cases h0
  cases h1
  cases h2
  cases h3
  cases h4
  exact ⟨⟨g0, g1, g2, g3, g4⟩, rfl, k0, k1, k2, k3, k4⟩
theorem len_2 {α : Type} {cs : List α} (h : cs.length = 2) : ∃ c0 c1, cs = [c0, c1] := by
  match cs, h with
  | [c0, c1], _ => exact ⟨_, _, rfl⟩
theorem opens_GNet : Opens (α := GNet) Try.prog 25 okGNet := by
  intro H enc w base spare held fuel cs x h
  obtain ⟨xs, n, _, _, hlen, hxl, hf⟩ := DataW.trod_struct Try.underlying25 h
  have hlen : cs.length = 2 := hlen.trans (by kernel_rfl)
  obtain ⟨c0, c1, rfl⟩ := len_2 hlen
  obtain ⟨y0, f0⟩ := struct_field hf hxl 0 (by decide) rfl (k := 1) (by kernel_rfl)
  obtain ⟨v0, h0, g0, s0, k0⟩ := open_list (ok := (fun a => inI a = true)) (Opens.int Try.underlying3) Try.underlying22 (by kernel_rfl) f0
  obtain ⟨y1, f1⟩ := struct_field hf hxl 1 (by decide) rfl (k := 1) (by kernel_rfl)
  obtain ⟨v1, h1, g1, s1, k1⟩ := open_list (ok := okGSight) opens_GSight Try.underlying23 (by kernel_rfl) f1
  cases h0
  cases h1
  exact ⟨⟨g0, g1⟩, ⟨_, _, rfl, s0, s1⟩, ⟨s0.1, k0⟩, ⟨s1.1, k1⟩⟩

set_option maxRecDepth 100000 in
theorem sightTightens_lifted (os : Os) (started : os.Started) (H : Type) (enc : TypeId × Value → H) :
    ReturnsInHanded {} Try.checked os 13 .any (Rows.sightTightensSpec.pre6 enc Try.prog Try.f13 Rows.sightTightensRow.domain false) (Rows.sightTightensSpec.post enc Try.prog Try.f13 false true false false) := by
  refine returnsInHanded_of_change (C := Try.checked) Try.own started (by kernel_rfl) Try.func13
    (ChangeSpec.witness6 (enc := enc) (C := Try.checked) false ⟨#[], #[.agg #[(.slice none 0 0), (.slice none 0 0)], .int .i64 0], []⟩ 8 (by kernel_rfl) (by kernel_rfl) (by kernel_rfl) (by kernel_rfl)) ?_
  intro W base args ds gs before hval0 hW _ _
  have hval : ∀ (j : Nat) t v, Try.f13.params[j]? = some t → args[j]? = some v → Value.okWide Try.prog W .any base t v := hval0
  have hW' := hW
  obtain ⟨p, q, hA0, hV, rfl, _, _⟩ := hW
  have hA : DataW.TrodAll enc Try.prog W 0 (fun _ => true) true Try.f13.params.toList args.toList ds p := hA0
  rw [Try.params13] at hA hval
  obtain ⟨v0, v1, d0, d1, p0, p1, rfl, rfl, rfl, h0, h1⟩ := trodAll_two hA
  obtain ⟨rfl, rfl⟩ := trodVars_none hV
  clear hA0 hval0
  obtain ⟨cs0, a0, rfl, hr0, ok0⟩ := open_tyV opens_GNet Try.underlying25 (hval 0 25 v0 rfl rfl) h0
  obtain ⟨va0_0, va0_1, rfl, ha0_0, ha0_1⟩ := hr0
  obtain ⟨a1, rfl, rfl, rfl, wf1⟩ := open_int Try.underlying3 (hval 1 3 v1 rfl rfl) h1
  have ok1 : inI a1 = true := inI_of_wf wf1
  refine (c_noongunlaw02_SightTightens va0_0 va0_1 a0 ha0_0 ha0_1 a1 (law_noongunlaw02_SightTightens a0 ok0 a1 ok1)).mono fun e W' hR => ?_
  obtain ⟨v, rfl, hb, rfl⟩ := hR
  exact ⟨_, rfl, post_true Try.laidOut (by kernel_rfl) rfl Try.underlying4 rfl hW' rfl hb⟩

set_option maxRecDepth 100000 in
theorem sightTightens_holds : Rows.SightTightensSaid :=
  OpenClaim.holds_of_wide 13 Try.f13 rfl rfl rfl rfl rfl rfl rfl ⟨rfl, rfl, rfl, rfl, rfl⟩ rfl rfl rfl rfl rfl (by kernel_rfl) Try.func13 (by kernel_rfl)
    (of_decide_eq_true (by kernel_rfl)) (by unfold Func.isWrapper; first | (rw [if_pos (by decide +kernel)]; kernel_rfl) | (rw [if_neg (by decide +kernel)]; exact ⟨rfl, rfl⟩))
    (fun os started H enc _ => sightTightens_lifted os started H enc)

#print axioms sightTightens_holds
end Go.Proofs.Ytailgbhadhoedaa
