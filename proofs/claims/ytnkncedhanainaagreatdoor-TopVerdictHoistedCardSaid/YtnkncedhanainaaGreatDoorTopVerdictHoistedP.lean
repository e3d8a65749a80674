/-
  TopVerdictHoisted, proved: for every input it returns true. No condition.
-/
import Derived.Test.YtnkncedhanainaaGreatDoorW2
import Derived.Test.YtnkncedhanainaaGreatDoorTopVerdictHoistedL
import Derived.ProofKit
import Derived.Test.YtnkncedhanainaaGreatDoorCards
import Derived.Test.YtnkncedhanainaaGreatDoorTie
import Derived.SevenTiedAt
import Derived.LaidMore
import Derived.Stop.LaidErr
import Derived.Lib.LaidTab
import Derived.Lay
namespace Go.Proofs.YtnkncedhanainaaGreatDoor
open Go.Fw Go.Proofs Go.RowKit Go.ChangeShapes Go.WideShapes Go.ChangeAt
open Go.ChangeMaps (open_string)
theorem Tryz.own : ownKnob Tryz.prog.godebug = none := by kernel_rfl
theorem Tryz.laidOut : laidOutB Tryz.prog = true := by kernel_rfl
theorem len_6 {α : Type} {cs : List α} (h : cs.length = 6) : ∃ c0 c1 c2 c3 c4 c5, cs = [c0, c1, c2, c3, c4, c5] := by
  match cs, h with
  | [c0, c1, c2, c3, c4, c5], _ => exact ⟨_, _, _, _, _, _, rfl⟩
theorem opens_GMast : Opens (α := GMast) Tryz.prog 23 okGMast := by
  intro H enc w base spare held fuel cs x h
  obtain ⟨xs, n, _, _, hlen, hxl, hf⟩ := DataW.trod_struct Tryz.underlying23 h
  have hlen : cs.length = 6 := hlen.trans (by kernel_rfl)
  obtain ⟨c0, c1, c2, c3, c4, c5, rfl⟩ := len_6 hlen
  obtain ⟨y0, f0⟩ := struct_field hf hxl 0 (by decide) rfl (k := 1) (by kernel_rfl)
  obtain ⟨g0, h0, k0⟩ := (Opens.int Tryz.underlying3) f0
  obtain ⟨y1, f1⟩ := struct_field hf hxl 1 (by decide) rfl (k := 1) (by kernel_rfl)
  obtain ⟨g1, h1, k1⟩ := (Opens.int Tryz.underlying3) f1
  obtain ⟨y2, f2⟩ := struct_field hf hxl 2 (by decide) rfl (k := 1) (by kernel_rfl)
  obtain ⟨g2, h2, k2⟩ := (Opens.int Tryz.underlying3) f2
  obtain ⟨y3, f3⟩ := struct_field hf hxl 3 (by decide) rfl (k := 1) (by kernel_rfl)
  obtain ⟨g3, h3, k3⟩ := (Opens.int Tryz.underlying3) f3
  obtain ⟨y4, f4⟩ := struct_field hf hxl 4 (by decide) rfl (k := 1) (by kernel_rfl)
  obtain ⟨g4, h4, k4⟩ := (Opens.int Tryz.underlying3) f4
  obtain ⟨y5, f5⟩ := struct_field hf hxl 5 (by decide) rfl (k := 1) (by kernel_rfl)
  obtain ⟨g5, h5, k5⟩ := (Opens.int Tryz.underlying3) f5
  cases h0
  cases h1
  cases h2
  cases h3
  cases h4
  cases h5
  exact ⟨⟨g0, g1, g2, g3, g4, g5⟩, rfl, k0, k1, k2, k3, k4, k5⟩
theorem len_3 {α : Type} {cs : List α} (h : cs.length = 3) : ∃ c0 c1 c2, cs = [c0, c1, c2] := by
  match cs, h with
  | [c0, c1, c2], _ => exact ⟨_, _, _, rfl⟩
theorem opens_GEvent : Opens (α := GEvent) Tryz.prog 86 okGEvent := by
  intro H enc w base spare held fuel cs x h
  obtain ⟨xs, n, _, _, hlen, hxl, hf⟩ := DataW.trod_struct Tryz.underlying86 h
  have hlen : cs.length = 3 := hlen.trans (by kernel_rfl)
  obtain ⟨c0, c1, c2, rfl⟩ := len_3 hlen
  obtain ⟨y0, f0⟩ := struct_field hf hxl 0 (by decide) rfl (k := 1) (by kernel_rfl)
  obtain ⟨g0, h0, k0⟩ := (Opens.int Tryz.underlying3) f0
  obtain ⟨y1, f1⟩ := struct_field hf hxl 1 (by decide) rfl (k := 1) (by kernel_rfl)
  obtain ⟨g1, h1, k1⟩ := (Opens.int Tryz.underlying3) f1
  obtain ⟨y2, f2⟩ := struct_field hf hxl 2 (by decide) rfl (k := 1) (by kernel_rfl)
  obtain ⟨g2, h2, k2⟩ := (Opens.int Tryz.underlying3) f2
  cases h0
  cases h1
  cases h2
  exact ⟨⟨g0, g1, g2⟩, rfl, k0, k1, k2⟩

set_option maxRecDepth 100000 in
theorem topVerdictHoisted_door (os : Os) (args : Array Value) : laidMetH Tryz.prog Rows.topVerdictHoistedRow.laid ((World.doorLaid Tryz.prog 400 os).forCall (fun _ _ => 0) ⟨#[], args, []⟩).memory :=
  laidMetH_of_parts3 (fuel := 8) (laidMet_of_run' 8 (by kernel_rfl) (by kernel_rfl)) (by kernel_rfl) (by kernel_rfl)
theorem topVerdictHoisted_tab {W : World} (h : laidMetH Tryz.prog Rows.topVerdictHoistedRow.laid W) : TabH Tryz.prog W := by
  rw [MakeChecks.laidMetH_plain _ _ _ (by kernel_rfl)] at h
  have hL0 : laidMet Tryz.prog Rows.topVerdictHoistedRow.laid W := h
  exact Lib.tabIs_of_head (g := 0) (by kernel_rfl) (by kernel_rfl) Tryz.underlying141 Tryz.underlying113 (by kernel_rfl) (by kernel_rfl) hL0.tail.tail
set_option maxRecDepth 100000 in
theorem topVerdictHoisted_lifted (os : Os) (started : os.Started) (H : Type) (enc : TypeId × Value → H) :
    ReturnsInHanded {} Tryz.checked os 3 .any (fun w args => (Rows.topVerdictHoistedSpec.pre enc Tryz.prog Tryz.f3 [] false w args ∧ laidMetH Tryz.prog Rows.topVerdictHoistedRow.laid w) ∧ sizedMet enc Tryz.prog Tryz.f3 (OpenSpec.ofChange Rows.topVerdictHoistedSpec) false w args) (Rows.topVerdictHoistedSpec.post enc Tryz.prog Tryz.f3 false true false false) := by
  refine returnsInHanded_of_change_and (C := Tryz.checked) (X := fun w _ => laidMetH Tryz.prog Rows.topVerdictHoistedRow.laid w) (fun _ _ _ hh h => h.of_heap hh) Tryz.own started (by kernel_rfl) Tryz.func3
    (ChangeSpec.witness_shaped (enc := enc) (C := Tryz.checked) (os := os) (X := fun w _ => laidMetH Tryz.prog Rows.topVerdictHoistedRow.laid w) false (World.doorLaid Tryz.prog 400 os) #[.agg #[(.int .i64 (0)), (.int .i64 (0)), (.int .i64 (0)), (.int .i64 (0)), (.int .i64 (0)), (.int .i64 (0))], .slice none 0 0, .int .i64 0] 8 rfl (World.shaped_of_RefB (by kernel_rfl) (by kernel_rfl)) (by kernel_rfl) (by kernel_rfl) (by kernel_rfl) (topVerdictHoisted_door os _)) ?_
  intro W base args ds gs before hval0 hW _ _ hL _
  have hval : ∀ (j : Nat) t v, Tryz.f3.params[j]? = some t → args[j]? = some v → Value.okWide Tryz.prog W .any base t v := hval0
  have hW' := hW
  have hT := topVerdictHoisted_tab hL
  obtain ⟨p, q, hA0, hV, rfl, _, _⟩ := hW
  have hA : DataW.TrodAll enc Tryz.prog W 0 (fun _ => true) true Tryz.f3.params.toList args.toList ds p := hA0
  rw [Tryz.params3] at hA hval
  obtain ⟨v0, v1, v2, d0, d1, d2, p0, p1, p2, rfl, rfl, rfl, h0, h1, h2⟩ := trodAll_three hA
  obtain ⟨rfl, rfl⟩ := trodVars_none hV
  clear hA0 hval0
  obtain ⟨a0, rfl, ok0⟩ := open_flatV opens_GMast Tryz.underlying23 (hval 0 23 v0 rfl rfl) h0
  obtain ⟨a1, ha1, ok1⟩ := open_listV (ok := okGEvent) opens_GEvent Tryz.underlying24 (by kernel_rfl) (hval 1 24 v1 rfl rfl) h1
  obtain ⟨a2, rfl, rfl, rfl, wf2⟩ := open_int Tryz.underlying3 (hval 2 3 v2 rfl rfl) h2
  have ok2 : inI a2 = true := inI_of_wf wf2
  refine (c_noonguntop_TopVerdictHoisted hT a0 v1 a1 ha1 a2 (law_noonguntop_TopVerdictHoisted a0 ok0 a1 ok1 ha1.1 a2 ok2)).mono fun e W' hR => ?_
  obtain ⟨v, rfl, hb, rfl⟩ := hR
  exact ⟨_, rfl, post_true Tryz.laidOut (by kernel_rfl) rfl Tryz.underlying4 rfl hW' rfl hb⟩

set_option maxRecDepth 100000 in
theorem topVerdictHoisted_holds : Rows.TopVerdictHoistedSaid :=
  OpenClaim.holds_of_wide 3 Tryz.f3 rfl rfl rfl rfl rfl rfl rfl ⟨rfl, rfl, rfl, rfl, rfl⟩ rfl rfl rfl rfl rfl (by kernel_rfl) Tryz.func3 (by kernel_rfl)
    (of_decide_eq_true (by kernel_rfl)) (by unfold Func.isWrapper; first | (rw [if_pos (by decide +kernel)]; kernel_rfl) | (rw [if_neg (by decide +kernel)]; exact ⟨rfl, rfl⟩))
    (fun os started H enc _ => topVerdictHoisted_lifted os started H enc)
set_option maxRecDepth 100000 in
theorem topVerdictHoisted_card_holds : Rows.TopVerdictHoistedCardSaid :=
  Claim7.holds_tied_plain_at .later [] [.data, .data, .data] true (true, "01f136feb394abad30a77777e71c3fdddab448147f58f6a2d43271e4b50fd432") false
    topVerdictHoisted_holds (fun _ h => by cases h) (by kernel_rfl) (fun _ h => by cases h) topVerdictHoisted_row_tie rfl ⟨rfl, rfl⟩ (by kernel_rfl) rfl
    (fun f fn hf hfn => by
      obtain rfl : f = 3 := Option.some.inj ((show Tryz.prog.funcNamed "noongun/noonguntop.TopVerdictHoisted" = some 3 by kernel_rfl).symm.trans hf) |>.symm
      obtain rfl : fn = Tryz.f3 := (Option.some.inj (Tryz.func3.symm.trans hfn)).symm
      exact ⟨by kernel_rfl, fun j t ht => by
        rw [Tryz.params3] at ht
        have hm : t ∈ [23, 24, 3] := by simpa using Array.mem_of_getElem? ht
        have hall : ([23, 24, 3].all fun u => !Tryz.prog.wantsStandIn u) = true := by kernel_rfl
        exact (show Tryz.prog.wantsStandIn t = false by simpa using List.all_eq_true.1 hall t hm)⟩)
    (by kernel_rfl)

#print axioms topVerdictHoisted_card_holds
end Go.Proofs.YtnkncedhanainaaGreatDoor
