/-
  RateBuys, proved: for every input it returns true. No condition.
-/
import Derived.Test.YtohbkbimgfkblaaW1
import Derived.Test.YtohbkbimgfkblaaRateBuysL
import Derived.ProofKit
namespace Go.Proofs.Ytohbkbimgfkblaa
open Go.Fw Go.Proofs Go.RowKit Go.ChangeShapes Go.WideShapes Go.ChangeAt
open Go.ChangeMaps (open_string)
theorem Try.own : ownKnob Try.prog.godebug = none := by kernel_rfl
theorem Try.laidOut : laidOutB Try.prog = true := by kernel_rfl
theorem len_5 {α : Type} {cs : List α} (h : cs.length = 5) : ∃ c0 c1 c2 c3 c4, cs = [c0, c1, c2, c3, c4] := by
  match cs, h with
  | [c0, c1, c2, c3, c4], _ => exact ⟨_, _, _, _, _, rfl⟩
theorem opens_GTrial : Opens (α := GTrial) Try.prog 28 okGTrial := by
  intro H enc w base spare held fuel cs x h
  obtain ⟨xs, n, _, _, hlen, hxl, hf⟩ := DataW.trod_struct Try.underlying28 h
  have hlen : cs.length = 5 := hlen.trans (by kernel_rfl)
  obtain ⟨c0, c1, c2, c3, c4, rfl⟩ := len_5 hlen
  obtain ⟨y0, f0⟩ := struct_field hf hxl 0 (by decide) rfl (k := 1) (by kernel_rfl)
  obtain ⟨g0, h0, k0⟩ := (Opens.string Try.underlying9) f0
  obtain ⟨y1, f1⟩ := struct_field hf hxl 1 (by decide) rfl (k := 1) (by kernel_rfl)
  obtain ⟨g1, h1, k1⟩ := (Opens.int Try.underlying3) f1
  obtain ⟨y2, f2⟩ := struct_field hf hxl 2 (by decide) rfl (k := 1) (by kernel_rfl)
  obtain ⟨g2, h2, k2⟩ := (Opens.int Try.underlying3) f2
  obtain ⟨y3, f3⟩ := struct_field hf hxl 3 (by decide) rfl (k := 1) (by kernel_rfl)
  obtain ⟨g3, h3, k3⟩ := (Opens.int Try.underlying3) f3
  obtain ⟨y4, f4⟩ := struct_field hf hxl 4 (by decide) rfl (k := 1) (by kernel_rfl)
  obtain ⟨g4, h4, k4⟩ := (Opens.int Try.underlying3) f4
  cases h0
  cases h1
  cases h2
  cases h3
  cases h4
  exact ⟨⟨g0, g1, g2, g3, g4⟩, rfl, k0, k1, k2, k3, k4⟩

set_option maxRecDepth 100000 in
theorem rateBuys_lifted (os : Os) (started : os.Started) (H : Type) (enc : TypeId × Value → H) :
    ReturnsInHanded {} Try.checked os 11 .any (Rows.rateBuysSpec.pre6 enc Try.prog Try.f11 Rows.rateBuysRow.domain false) (Rows.rateBuysSpec.post enc Try.prog Try.f11 false true false false) := by
  refine returnsInHanded_of_change (C := Try.checked) Try.own started (by kernel_rfl) Try.func11
    (ChangeSpec.witness6 (enc := enc) (C := Try.checked) false ⟨#[], #[.slice none 0 0, .slice none 0 0, .int .i64 0, .slice none 0 0], []⟩ 8 (by kernel_rfl) (by kernel_rfl) (by kernel_rfl) (by kernel_rfl)) ?_
  intro W base args ds gs before hval0 hW _ _
  have hval : ∀ (j : Nat) t v, Try.f11.params[j]? = some t → args[j]? = some v → Value.okWide Try.prog W .any base t v := hval0
  have hW' := hW
  obtain ⟨p, q, hA0, hV, rfl, _, _⟩ := hW
  have hA : DataW.TrodAll enc Try.prog W 0 (fun _ => true) true Try.f11.params.toList args.toList ds p := hA0
  rw [Try.params11] at hA hval
  obtain ⟨v0, v1, v2, v3, d0, d1, d2, d3, p0, p1, p2, p3, rfl, rfl, rfl, h0, h1, h2, h3⟩ := trodAll_four hA
  obtain ⟨rfl, rfl⟩ := trodVars_none hV
  clear hA0 hval0
  obtain ⟨a0, ha0, ok0⟩ := open_listV (ok := okGTrial) opens_GTrial Try.underlying62 (by kernel_rfl) (hval 0 62 v0 rfl rfl) h0
  obtain ⟨a1, ha1, ok1⟩ := open_listV (ok := (fun a => inI a = true)) (Opens.int Try.underlying3) Try.underlying22 (by kernel_rfl) (hval 1 22 v1 rfl rfl) h1
  obtain ⟨a2, rfl, rfl, rfl, wf2⟩ := open_int Try.underlying3 (hval 2 3 v2 rfl rfl) h2
  have ok2 : inI a2 = true := inI_of_wf wf2
  obtain ⟨a3, ha3, ok3⟩ := open_listV (ok := (fun a => inI a = true)) (Opens.int Try.underlying3) Try.underlying22 (by kernel_rfl) (hval 3 22 v3 rfl rfl) h3
  refine (c_noongunlaw06_RateBuys v0 a0 ha0 v1 a1 ha1 a2 v3 a3 ha3 (law_noongunlaw06_RateBuys a0 ok0 ha0.1 a1 ok1 ha1.1 a2 ok2 a3 ok3 ha3.1)).mono fun e W' hR => ?_
  obtain ⟨v, rfl, hb, rfl⟩ := hR
  exact ⟨_, rfl, post_true Try.laidOut (by kernel_rfl) rfl Try.underlying4 rfl hW' rfl hb⟩

set_option maxRecDepth 100000 in
theorem rateBuys_holds : Rows.RateBuysSaid :=
  OpenClaim.holds_of_wide 11 Try.f11 rfl rfl rfl rfl rfl rfl rfl ⟨rfl, rfl, rfl, rfl, rfl⟩ rfl rfl rfl rfl rfl (by kernel_rfl) Try.func11 (by kernel_rfl)
    (of_decide_eq_true (by kernel_rfl)) (by unfold Func.isWrapper; first | (rw [if_pos (by decide +kernel)]; kernel_rfl) | (rw [if_neg (by decide +kernel)]; exact ⟨rfl, rfl⟩))
    (fun os started H enc _ => rateBuys_lifted os started H enc)

#print axioms rateBuys_holds
end Go.Proofs.Ytohbkbimgfkblaa
