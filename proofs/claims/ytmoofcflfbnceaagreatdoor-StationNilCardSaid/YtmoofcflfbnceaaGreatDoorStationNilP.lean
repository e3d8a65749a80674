/-
  StationNil, proved: for every input it returns true. No condition.
-/
import Derived.Test.YtmoofcflfbnceaaGreatDoorW5
import Derived.Test.YtmoofcflfbnceaaGreatDoorStationNilL
import Derived.ProofKit
import Derived.Test.YtmoofcflfbnceaaGreatDoorCards
import Derived.Test.YtmoofcflfbnceaaGreatDoorTie
import Derived.SevenTiedAt
import Derived.LaidMore
import Derived.Stop.LaidErr
import Derived.Lib.LaidTab
import Derived.Lay
namespace Go.Proofs.YtmoofcflfbnceaaGreatDoor
open Go.Fw Go.Proofs Go.RowKit Go.ChangeShapes Go.WideShapes Go.ChangeAt
open Go.ChangeMaps (open_string)
theorem Tryz.own : ownKnob Tryz.prog.godebug = none := by kernel_rfl
theorem Tryz.laidOut : laidOutB Tryz.prog = true := by kernel_rfl

set_option maxRecDepth 100000 in
theorem stationNil_door (os : Os) (args : Array Value) : laidMetH Tryz.prog Rows.stationNilRow.laid ((World.laidAll Tryz.prog os Rows.stationNilRow.laid).forCall (fun _ _ => 0) ⟨#[], args, []⟩).memory :=
  by rw [MakeChecks.laidMetH_plain _ _ _ (by kernel_rfl)]; exact laidMet_laidAll _ (by kernel_rfl) (by kernel_rfl)
theorem stationNil_tab {W : World} (h : laidMetH Tryz.prog Rows.stationNilRow.laid W) : TabH Tryz.prog W := by
  rw [MakeChecks.laidMetH_plain _ _ _ (by kernel_rfl)] at h
  have hL0 : laidMet Tryz.prog Rows.stationNilRow.laid W := h
  exact Lib.tabIs_of_head (g := 1) (by kernel_rfl) (by kernel_rfl) Tryz.underlying243 Tryz.underlying63 (by kernel_rfl) (by kernel_rfl) hL0.tail.tail
theorem handed_env {H : Type} {enc : TypeId × Value → H} {a : Assume} {C : Checked} {os : Os} {f : FuncId} {fn : Func} {s : ChangeSpec} {conds : List PathCond} {apart fresh handsOn again : Bool} {X : World → Array Value → Prop}
    (hX : ∀ (w w' : World) (args : Array Value), w.heap = w'.heap → X w args → X w' args)
    (own : ownKnob C.prog.godebug = none) (started : os.Started) (noInit : C.prog.inits.idxOf? f = none) (hfn : C.prog.funcs[f]? = some fn)
    (witness : ∃ (w : World) (tape : Tape) (i : Input), w.os = os ∧ (w.forCall tape i).Shaped C.prog ∧ i.vars = [] ∧ Input.okWide C.prog (w.forCall tape i) .any w.heap.size f i ∧
      ((s.pre enc C.prog fn conds apart (w.forCall tape i).memory i.args ∧ X (w.forCall tape i).memory i.args) ∧ sizedMet enc C.prog fn (OpenSpec.ofChange s) apart (w.forCall tape i).memory i.args) ∧ a.holds C.prog (lone (Frame.enter C.prog f i.args .normal) [] (w.forCall tape i)))
    (contract : ∀ (W : World) (base : Nat) (args : Array Value) (ds gs : List (DataW H)) (before : List MemPlace),
      (∀ (j : Nat) t v, fn.params[j]? = some t → args[j]? = some v → Value.okWide C.prog W .any base t v) → DataW.Whole enc C.prog fn.params.toList s.vars apart W args.toList ds gs before → X W args → W.ShapedOpen C.prog →
      Calls C.prog f args W fun e W' => ∃ v, e = .returned v ∧ s.post enc C.prog fn apart fresh handsOn again W args v W') :
    ReturnsInHanded a C os f .any (fun w args => (s.pre enc C.prog fn conds apart w args ∧ X w args) ∧ sizedMet enc C.prog fn (OpenSpec.ofChange s) apart w args) (s.post enc C.prog fn apart fresh handsOn again) := by
  refine returnsInHanded_of_calls own started noInit witness ?_
  intro w tape i _ hsh _ hok hpre _
  obtain ⟨_, _, _, fn', hfn', _, _, _, _, hval⟩ := hok
  obtain rfl : fn' = fn := Option.some.inj (hfn'.symm.trans hfn)
  obtain ⟨⟨⟨ds, gs, before, hw, _⟩, hx⟩, _⟩ := hpre
  have hw' := DataW.Whole.of_heap (w' := w.forCall tape i) (by rfl) hw
  refine (contract (w.forCall tape i) w.heap.size i.args ds gs before hval hw' (hX _ _ _ (by rfl) hx) hsh).mono fun e W' ⟨v, he, hp⟩ => ?_
  subst he
  exact ChangeSpec.post_blind hp
theorem Tryz.estar : "*" ++ "errors.errorString" = "*errors.errorString" := by decide
theorem Tryz.erow (u : TypeId) (h : Tryz.prog.typeName? 3 u = some "*errors.errorString") : u = 283 :=
  typeName_ptr_named (nm := "errors.errorString") (by rw [Tryz.estar]; kernel_rfl) (by kernel_rfl) (by decide) u (by rw [Tryz.estar]; exact h)
theorem stationNil_env {W : World} (h : laidMetH Tryz.prog Rows.stationNilRow.laid W) (hsh : W.ShapedOpen Tryz.prog) : EnvH Tryz.prog 0 4 5 W := by
  have hT := stationNil_tab h
  rw [MakeChecks.laidMetH_plain _ _ _ (by kernel_rfl)] at h
  have hL0 : laidMet Tryz.prog Rows.stationNilRow.laid W := h
  refine ⟨hT, Go.Proofs.cell_of_shapedOpen_int (P := Tryz.prog) (g := 0) (t := 3) (zero := #[.int .i64 0]) hsh (of_decide_eq_true (by kernel_rfl)) (by kernel_rfl) rfl (by kernel_rfl) (by kernel_rfl) Tryz.underlying3, ?_, ?_⟩
  · obtain ⟨a, s, hv, _⟩ := laid_sentinel hL0.tail.tail.tail.tail.tail (g := 4) (by kernel_rfl) (ti := 98) (by kernel_rfl) Tryz.underlying98 Tryz.erow Tryz.underlying283 Tryz.underlying285 rfl rfl Tryz.underlying9 (by kernel_rfl) (by kernel_rfl)
    exact ⟨_, by simpa using World.var?_cell (show Tryz.prog.globalNamed "strconv.ErrSyntax" = some 4 by kernel_rfl) hv 0, .inr ⟨_, _, rfl⟩⟩
  · obtain ⟨a, s, hv, _⟩ := laid_sentinel hL0.tail.tail.tail.tail (g := 5) (by kernel_rfl) (ti := 98) (by kernel_rfl) Tryz.underlying98 Tryz.erow Tryz.underlying283 Tryz.underlying285 rfl rfl Tryz.underlying9 (by kernel_rfl) (by kernel_rfl)
    exact ⟨_, by simpa using World.var?_cell (show Tryz.prog.globalNamed "strconv.ErrRange" = some 5 by kernel_rfl) hv 0, .inr ⟨_, _, rfl⟩⟩
theorem stationNil_envS {W : World} (h : laidMetH Tryz.prog Rows.stationNilRow.laid W) (hsh : W.ShapedOpen Tryz.prog) : EnvS Tryz.prog 0 4 5 7 W := by
  refine ⟨stationNil_env h hsh, ?_⟩
  rw [MakeChecks.laidMetH_plain _ _ _ (by kernel_rfl)] at h
  have hL0 : laidMet Tryz.prog Rows.stationNilRow.laid W := h
  have ht : Lib.TabIs Tryz.prog W "math/bits.deBruijn64tab" .u8 [0, 1, 56, 2, 57, 49, 28, 3, 61, 58, 42, 50, 38, 29, 17, 4, 62, 47, 59, 36, 45, 43, 51, 22, 53, 39, 33, 30, 24, 18, 12, 5, 63, 55, 48, 27, 60, 41, 37, 16, 46, 35, 44, 21, 52, 32, 23, 11, 54, 26, 40, 15, 34, 20, 31, 10, 25, 14, 19, 9, 13, 8, 7, 6] := Lib.tabIs_of_head (g := 7) (by kernel_rfl) (by kernel_rfl) Tryz.underlying281 Tryz.underlying5 (by kernel_rfl) (by kernel_rfl) hL0.tail
  exact ht.cell (g := 7) (by kernel_rfl) 15 (by decide)
set_option maxRecDepth 100000 in
theorem stationNil_lifted (os : Os) (started : os.Started) (H : Type) (enc : TypeId × Value → H) :
    ReturnsInHanded {} Tryz.checked os 3 .any (fun w args => (Rows.stationNilSpec.pre enc Tryz.prog Tryz.f3 [] false w args ∧ laidMetH Tryz.prog Rows.stationNilRow.laid w) ∧ sizedMet enc Tryz.prog Tryz.f3 (OpenSpec.ofChange Rows.stationNilSpec) false w args) (Rows.stationNilSpec.post enc Tryz.prog Tryz.f3 false true false false) := by
  refine handed_env (C := Tryz.checked) (X := fun w _ => laidMetH Tryz.prog Rows.stationNilRow.laid w) (fun _ _ _ hh h => h.of_heap hh) Tryz.own started (by kernel_rfl) Tryz.func3
    (ChangeSpec.witness_shaped (enc := enc) (C := Tryz.checked) (os := os) (X := fun w _ => laidMetH Tryz.prog Rows.stationNilRow.laid w) false (World.laidAll Tryz.prog os Rows.stationNilRow.laid) #[.string ByteArray.empty] 8 (World.laidAll_os _ _ _) (World.shaped_of_ZipB (by kernel_rfl) (by kernel_rfl)) (by kernel_rfl) (by kernel_rfl) (by kernel_rfl) (stationNil_door os _)) ?_
  intro W base args ds gs before hval0 hW hL hsh
  have hval : ∀ (j : Nat) t v, Tryz.f3.params[j]? = some t → args[j]? = some v → Value.okWide Tryz.prog W .any base t v := hval0
  have hW' := hW
  have hT := stationNil_envS hL hsh
  obtain ⟨p, q, hA0, hV, rfl, _, _⟩ := hW
  have hA : DataW.TrodAll enc Tryz.prog W 0 (fun _ => true) true Tryz.f3.params.toList args.toList ds p := hA0
  rw [Tryz.params3] at hA hval
  obtain ⟨v0, d0, rfl, rfl, h0⟩ := trodAll_one hA
  obtain ⟨rfl, rfl⟩ := trodVars_none hV
  clear hA0 hval0
  obtain ⟨a0, rfl, rfl, rfl, ok0⟩ := open_string Tryz.underlying9 (hval 0 9 v0 rfl rfl) h0
  refine (c_noongunlaw10_StationNil hT a0 (law_noongunlaw10_StationNil a0 ok0)).mono fun e W' hR => ?_
  obtain ⟨v, rfl, hb, rfl⟩ := hR
  exact ⟨_, rfl, post_true Tryz.laidOut (by kernel_rfl) rfl Tryz.underlying4 rfl hW' rfl hb⟩

set_option maxRecDepth 100000 in
theorem stationNil_holds : Rows.StationNilSaid :=
  OpenClaim.holds_of_wide 3 Tryz.f3 rfl rfl rfl rfl rfl rfl rfl ⟨rfl, rfl, rfl, rfl, rfl⟩ rfl rfl rfl rfl rfl (by kernel_rfl) Tryz.func3 (by kernel_rfl)
    (of_decide_eq_true (by kernel_rfl)) (by unfold Func.isWrapper; first | (rw [if_pos (by decide +kernel)]; kernel_rfl) | (rw [if_neg (by decide +kernel)]; exact ⟨rfl, rfl⟩))
    (fun os started H enc _ => stationNil_lifted os started H enc)
set_option maxRecDepth 100000 in
theorem stationNil_card_holds : Rows.StationNilCardSaid :=
  Claim7.holds_tied_plain_at .later [] [.data, .data, .data, .data, .sentinel, .sentinel, .pinned] true (true, "f4ebb254ad9ecb9cbd385d870debaaaf0a2f9c41fa7e41e51b66d9f5c0d4d265") true
    stationNil_holds (fun _ h => by cases h) (by kernel_rfl) (fun _ h => by cases h) stationNil_row_tie rfl ⟨rfl, rfl⟩ (by kernel_rfl) rfl
    (fun f fn hf hfn => by
      obtain rfl : f = 3 := Option.some.inj ((show Tryz.prog.funcNamed "noongun/noongunlaw10.StationNil" = some 3 by kernel_rfl).symm.trans hf) |>.symm
      obtain rfl : fn = Tryz.f3 := (Option.some.inj (Tryz.func3.symm.trans hfn)).symm
      exact ⟨by kernel_rfl, fun j t ht => by
        rw [Tryz.params3] at ht
        have hm : t ∈ [9] := by simpa using Array.mem_of_getElem? ht
        have hall : ([9].all fun u => !Tryz.prog.wantsStandIn u) = true := by kernel_rfl
        exact (show Tryz.prog.wantsStandIn t = false by simpa using List.all_eq_true.1 hall t hm)⟩)
    (by kernel_rfl)

#print axioms stationNil_card_holds
end Go.Proofs.YtmoofcflfbnceaaGreatDoor
