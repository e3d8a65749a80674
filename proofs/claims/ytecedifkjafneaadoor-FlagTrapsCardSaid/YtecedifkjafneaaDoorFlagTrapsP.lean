/-
  FlagTraps, proved: for every input it returns true. No condition.
-/
import Derived.Test.YtecedifkjafneaaDoorW1
import Derived.Test.YtecedifkjafneaaDoorFlagTrapsL
import Derived.ProofKit
import Derived.Test.YtecedifkjafneaaDoorCards
import Derived.Test.YtecedifkjafneaaDoorTie
import Derived.SevenTiedAt
import Derived.LaidMore
import Derived.Stop.LaidErr
import Derived.Lib.LaidTab
import Derived.Lay
namespace Go.Proofs.YtecedifkjafneaaDoor
open Go.Fw Go.Proofs Go.RowKit Go.ChangeShapes Go.WideShapes Go.ChangeAt
open Go.ChangeMaps (open_string)
theorem Tryd.own : ownKnob Tryd.prog.godebug = none := by kernel_rfl
theorem Tryd.laidOut : laidOutB Tryd.prog = true := by kernel_rfl
theorem len_2 {α : Type} {cs : List α} (h : cs.length = 2) : ∃ c0 c1, cs = [c0, c1] := by
  match cs, h with
  | [c0, c1], _ => exact ⟨_, _, rfl⟩
theorem opens_GMeaning : Opens (α := GMeaning) Tryd.prog 39 okGMeaning := by
  intro H enc w base spare held fuel cs x h
  obtain ⟨xs, n, _, _, hlen, hxl, hf⟩ := DataW.trod_struct Tryd.underlying39 h
  have hlen : cs.length = 2 := hlen.trans (by kernel_rfl)
  obtain ⟨c0, c1, rfl⟩ := len_2 hlen
  obtain ⟨y0, f0⟩ := struct_field hf hxl 0 (by decide) rfl (k := 1) (by kernel_rfl)
  obtain ⟨g0, h0, k0⟩ := (Opens.int Tryd.underlying3) f0
  obtain ⟨y1, f1⟩ := struct_field hf hxl 1 (by decide) rfl (k := 1) (by kernel_rfl)
  obtain ⟨g1, h1, k1⟩ := (Opens.string Tryd.underlying9) f1
  cases h0
  cases h1
  exact ⟨⟨g0, g1⟩, rfl, k0, k1⟩

set_option maxRecDepth 100000 in
theorem flagTraps_door (os : Os) (args : Array Value) : laidMetH Tryd.prog Rows.flagTrapsRow.laid ((World.doorLaid Tryd.prog 400 os).forCall (fun _ _ => 0) ⟨#[], args, []⟩).memory :=
  laidMetH_of_parts3 (fuel := 8) (laidMet_of_run' 8 (by kernel_rfl) (by kernel_rfl)) (by kernel_rfl) (by kernel_rfl)
theorem flagTraps_tab {W : World} (h : laidMetH Tryd.prog Rows.flagTrapsRow.laid W) : TabH Tryd.prog W := by
  rw [MakeChecks.laidMetH_plain _ _ _ (by kernel_rfl)] at h
  have hL0 : laidMet Tryd.prog Rows.flagTrapsRow.laid W := h
  exact Lib.tabIs_of_head (g := 3) (by kernel_rfl) (by kernel_rfl) Tryd.underlying148 Tryd.underlying121 (by kernel_rfl) (by kernel_rfl) hL0.tail.tail
set_option maxRecDepth 100000 in
theorem flagTraps_lifted (os : Os) (started : os.Started) (H : Type) (enc : TypeId × Value → H) :
    ReturnsInHanded {} Tryd.checked os 6 .any (fun w args => (Rows.flagTrapsSpec.pre enc Tryd.prog Tryd.f6 [] false w args ∧ laidMetH Tryd.prog Rows.flagTrapsRow.laid w) ∧ sizedMet enc Tryd.prog Tryd.f6 (OpenSpec.ofChange Rows.flagTrapsSpec) false w args) (Rows.flagTrapsSpec.post enc Tryd.prog Tryd.f6 false true false false) := by
  refine returnsInHanded_of_change_and (C := Tryd.checked) (X := fun w _ => laidMetH Tryd.prog Rows.flagTrapsRow.laid w) (fun _ _ _ hh h => h.of_heap hh) Tryd.own started (by kernel_rfl) Tryd.func6
    (ChangeSpec.witness_shaped (enc := enc) (C := Tryd.checked) (os := os) (X := fun w _ => laidMetH Tryd.prog Rows.flagTrapsRow.laid w) false (World.doorLaid Tryd.prog 400 os) #[.slice none 0 0, .int .i64 0, .int .i64 0] 8 rfl (World.shaped_of_RefB (by kernel_rfl) (by kernel_rfl)) (by kernel_rfl) (by kernel_rfl) (by kernel_rfl) (flagTraps_door os _)) ?_
  intro W base args ds gs before hval0 hW _ _ hL _
  have hval : ∀ (j : Nat) t v, Tryd.f6.params[j]? = some t → args[j]? = some v → Value.okWide Tryd.prog W .any base t v := hval0
  have hW' := hW
  have hT := flagTraps_tab hL
  obtain ⟨p, q, hA0, hV, rfl, _, _⟩ := hW
  have hA : DataW.TrodAll enc Tryd.prog W 0 (fun _ => true) true Tryd.f6.params.toList args.toList ds p := hA0
  rw [Tryd.params6] at hA hval
  obtain ⟨v0, v1, v2, d0, d1, d2, p0, p1, p2, rfl, rfl, rfl, h0, h1, h2⟩ := trodAll_three hA
  obtain ⟨rfl, rfl⟩ := trodVars_none hV
  clear hA0 hval0
  obtain ⟨a0, ha0, ok0⟩ := open_listV (ok := okGMeaning) opens_GMeaning Tryd.underlying33 (by kernel_rfl) (hval 0 33 v0 rfl rfl) h0
  obtain ⟨a1, rfl, rfl, rfl, wf1⟩ := open_int Tryd.underlying3 (hval 1 3 v1 rfl rfl) h1
  have ok1 : inI a1 = true := inI_of_wf wf1
  obtain ⟨a2, rfl, rfl, rfl, wf2⟩ := open_int Tryd.underlying3 (hval 2 3 v2 rfl rfl) h2
  have ok2 : inI a2 = true := inI_of_wf wf2
  refine (c_noongunlaw07_FlagTraps hT v0 a0 ha0 a1 a2 (law_noongunlaw07_FlagTraps a0 ok0 ha0.1 a1 ok1 a2 ok2)).mono fun e W' hR => ?_
  obtain ⟨v, rfl, hb, rfl⟩ := hR
  exact ⟨_, rfl, post_true Tryd.laidOut (by kernel_rfl) rfl Tryd.underlying4 rfl hW' rfl hb⟩

set_option maxRecDepth 100000 in
theorem flagTraps_holds : Rows.FlagTrapsSaid :=
  OpenClaim.holds_of_wide 6 Tryd.f6 rfl rfl rfl rfl rfl rfl rfl ⟨rfl, rfl, rfl, rfl, rfl⟩ rfl rfl rfl rfl rfl (by kernel_rfl) Tryd.func6 (by kernel_rfl)
    (of_decide_eq_true (by kernel_rfl)) (by unfold Func.isWrapper; first | (rw [if_pos (by decide +kernel)]; kernel_rfl) | (rw [if_neg (by decide +kernel)]; exact ⟨rfl, rfl⟩))
    (fun os started H enc _ => flagTraps_lifted os started H enc)
set_option maxRecDepth 100000 in
theorem flagTraps_card_holds : Rows.FlagTrapsCardSaid :=
  Claim7.holds_tied_plain_at .later [] [.data, .data, .data] true (true, "edcd024b90508b6c0bdeaf89fe8669e1d8ca34e15214fa097ba2fc14bb1d4f64") true
    flagTraps_holds (fun _ h => by cases h) (by kernel_rfl) (fun _ h => by cases h) flagTraps_row_tie rfl ⟨rfl, rfl⟩ (by kernel_rfl) rfl
    (fun f fn hf hfn => by
      obtain rfl : f = 6 := Option.some.inj ((show Tryd.prog.funcNamed "noongun/noongunlaw07.FlagTraps" = some 6 by kernel_rfl).symm.trans hf) |>.symm
      obtain rfl : fn = Tryd.f6 := (Option.some.inj (Tryd.func6.symm.trans hfn)).symm
      exact ⟨by kernel_rfl, fun j t ht => by
        rw [Tryd.params6] at ht
        have hm : t ∈ [33, 3, 3] := by simpa using Array.mem_of_getElem? ht
        have hall : ([33, 3, 3].all fun u => !Tryd.prog.wantsStandIn u) = true := by kernel_rfl
        exact (show Tryd.prog.wantsStandIn t = false by simpa using List.all_eq_true.1 hall t hm)⟩)
    (by kernel_rfl)

#print axioms flagTraps_card_holds
end Go.Proofs.YtecedifkjafneaaDoor
