/-
  FlagTexts, proved: for every input it returns true. No condition.
-/
import Derived.Test.YtecedifkjafneaaDoorW0
import Derived.Test.YtecedifkjafneaaDoorFlagTextsL
import Derived.ProofKit
import Derived.Test.YtecedifkjafneaaDoorCards
import Derived.Test.YtecedifkjafneaaDoorTie
import Derived.SevenTiedAt
import Derived.LaidMore
import Derived.Stop.LaidErr
import Derived.Lib.LaidTab
import Derived.Lay
namespace Go.Proofs.YtecedifkjafneaaDoor
open Go.Fw Go.Proofs Go.RowKit Go.ChangeShapes Go.WideShapes Go.ChangeAt
open Go.ChangeMaps (open_string)
theorem Tryd.own : ownKnob Tryd.prog.godebug = none := by kernel_rfl
theorem Tryd.laidOut : laidOutB Tryd.prog = true := by kernel_rfl
theorem len_2 {α : Type} {cs : List α} (h : cs.length = 2) : ∃ c0 c1, cs = [c0, c1] := by
  match cs, h with
  | [c0, c1], _ => exact ⟨_, _, rfl⟩
theorem opens_GMeaning : Opens (α := GMeaning) Tryd.prog 39 okGMeaning := by
  intro H enc w base spare held fuel cs x h
  obtain ⟨xs, n, _, _, hlen, hxl, hf⟩ := DataW.trod_struct Tryd.underlying39 h
  have hlen : cs.length = 2 := hlen.trans (by kernel_rfl)
  obtain ⟨c0, c1, rfl⟩ := len_2 hlen
  obtain ⟨y0, f0⟩ := struct_field hf hxl 0 (by decide) rfl (k := 1) (by kernel_rfl)
  obtain ⟨g0, h0, k0⟩ := (Opens.int Tryd.underlying3) f0
  obtain ⟨y1, f1⟩ := struct_field hf hxl 1 (by decide) rfl (k := 1) (by kernel_rfl)
  obtain ⟨g1, h1, k1⟩ := (Opens.string Tryd.underlying9) f1
  cases h0
  cases h1
  exact ⟨⟨g0, g1⟩, rfl, k0, k1⟩

set_option maxRecDepth 100000 in
theorem flagTexts_door (os : Os) (args : Array Value) : laidMetH Tryd.prog Rows.flagTextsRow.laid ((World.laidAll Tryd.prog os Rows.flagTextsRow.laid).forCall (fun _ _ => 0) ⟨#[], args, []⟩).memory :=
  by rw [MakeChecks.laidMetH_plain _ _ _ (by kernel_rfl)]; exact laidMet_laidAll _ (by kernel_rfl) (by kernel_rfl)
theorem flagTexts_tab {W : World} (h : laidMetH Tryd.prog Rows.flagTextsRow.laid W) : TabH Tryd.prog W := by
  rw [MakeChecks.laidMetH_plain _ _ _ (by kernel_rfl)] at h
  have hL0 : laidMet Tryd.prog Rows.flagTextsRow.laid W := h
  exact Lib.tabIs_of_head (g := 3) (by kernel_rfl) (by kernel_rfl) Tryd.underlying148 Tryd.underlying121 (by kernel_rfl) (by kernel_rfl) hL0.tail.tail
theorem handed_env {H : Type} {enc : TypeId × Value → H} {a : Assume} {C : Checked} {os : Os} {f : FuncId} {fn : Func} {s : ChangeSpec} {conds : List PathCond} {apart fresh handsOn again : Bool} {X : World → Array Value → Prop}
    (hX : ∀ (w w' : World) (args : Array Value), w.heap = w'.heap → X w args → X w' args)
    (own : ownKnob C.prog.godebug = none) (started : os.Started) (noInit : C.prog.inits.idxOf? f = none) (hfn : C.prog.funcs[f]? = some fn)
    (witness : ∃ (w : World) (tape : Tape) (i : Input), w.os = os ∧ (w.forCall tape i).Shaped C.prog ∧ i.vars = [] ∧ Input.okWide C.prog (w.forCall tape i) .any w.heap.size f i ∧
      ((s.pre enc C.prog fn conds apart (w.forCall tape i).memory i.args ∧ X (w.forCall tape i).memory i.args) ∧ sizedMet enc C.prog fn (OpenSpec.ofChange s) apart (w.forCall tape i).memory i.args) ∧ a.holds C.prog (lone (Frame.enter C.prog f i.args .normal) [] (w.forCall tape i)))
    (contract : ∀ (W : World) (base : Nat) (args : Array Value) (ds gs : List (DataW H)) (before : List MemPlace),
      (∀ (j : Nat) t v, fn.params[j]? = some t → args[j]? = some v → Value.okWide C.prog W .any base t v) → DataW.Whole enc C.prog fn.params.toList s.vars apart W args.toList ds gs before → X W args → W.ShapedOpen C.prog →
      Calls C.prog f args W fun e W' => ∃ v, e = .returned v ∧ s.post enc C.prog fn apart fresh handsOn again W args v W') :
    ReturnsInHanded a C os f .any (fun w args => (s.pre enc C.prog fn conds apart w args ∧ X w args) ∧ sizedMet enc C.prog fn (OpenSpec.ofChange s) apart w args) (s.post enc C.prog fn apart fresh handsOn again) := by
  refine returnsInHanded_of_calls own started noInit witness ?_
  intro w tape i _ hsh _ hok hpre _
  obtain ⟨_, _, _, fn', hfn', _, _, _, _, hval⟩ := hok
  obtain rfl : fn' = fn := Option.some.inj (hfn'.symm.trans hfn)
  obtain ⟨⟨⟨ds, gs, before, hw, _⟩, hx⟩, _⟩ := hpre
  have hw' := DataW.Whole.of_heap (w' := w.forCall tape i) (by rfl) hw
  refine (contract (w.forCall tape i) w.heap.size i.args ds gs before hval hw' (hX _ _ _ (by rfl) hx) hsh).mono fun e W' ⟨v, he, hp⟩ => ?_
  subst he
  exact ChangeSpec.post_blind hp
theorem Tryd.estar : "*" ++ "errors.errorString" = "*errors.errorString" := by decide
theorem Tryd.erow (u : TypeId) (h : Tryd.prog.typeName? 3 u = some "*errors.errorString") : u = 144 :=
  typeName_ptr_named (nm := "errors.errorString") (by rw [Tryd.estar]; kernel_rfl) (by kernel_rfl) (by decide) u (by rw [Tryd.estar]; exact h)
theorem flagTexts_env {W : World} (h : laidMetH Tryd.prog Rows.flagTextsRow.laid W) (hsh : W.ShapedOpen Tryd.prog) : EnvH Tryd.prog 0 1 2 W := by
  have hT := flagTexts_tab h
  rw [MakeChecks.laidMetH_plain _ _ _ (by kernel_rfl)] at h
  have hL0 : laidMet Tryd.prog Rows.flagTextsRow.laid W := h
  refine ⟨hT, Go.Proofs.cell_of_shapedOpen_int (P := Tryd.prog) (g := 0) (t := 3) (zero := #[.int .i64 0]) hsh (of_decide_eq_true (by kernel_rfl)) (by kernel_rfl) rfl (by kernel_rfl) (by kernel_rfl) Tryd.underlying3, ?_, ?_⟩
  · obtain ⟨a, s, hv, _⟩ := laid_sentinel hL0.tail.tail.tail.tail (g := 1) (by kernel_rfl) (ti := 72) (by kernel_rfl) Tryd.underlying72 Tryd.erow Tryd.underlying144 Tryd.underlying146 rfl rfl Tryd.underlying9 (by kernel_rfl) (by kernel_rfl)
    exact ⟨_, by simpa using World.var?_cell (show Tryd.prog.globalNamed "strconv.ErrSyntax" = some 1 by kernel_rfl) hv 0, .inr ⟨_, _, rfl⟩⟩
  · obtain ⟨a, s, hv, _⟩ := laid_sentinel hL0.tail.tail.tail (g := 2) (by kernel_rfl) (ti := 72) (by kernel_rfl) Tryd.underlying72 Tryd.erow Tryd.underlying144 Tryd.underlying146 rfl rfl Tryd.underlying9 (by kernel_rfl) (by kernel_rfl)
    exact ⟨_, by simpa using World.var?_cell (show Tryd.prog.globalNamed "strconv.ErrRange" = some 2 by kernel_rfl) hv 0, .inr ⟨_, _, rfl⟩⟩
set_option maxRecDepth 100000 in
theorem flagTexts_lifted (os : Os) (started : os.Started) (H : Type) (enc : TypeId × Value → H) :
    ReturnsInHanded {} Tryd.checked os 5 .any (fun w args => (Rows.flagTextsSpec.pre enc Tryd.prog Tryd.f5 [] false w args ∧ laidMetH Tryd.prog Rows.flagTextsRow.laid w) ∧ sizedMet enc Tryd.prog Tryd.f5 (OpenSpec.ofChange Rows.flagTextsSpec) false w args) (Rows.flagTextsSpec.post enc Tryd.prog Tryd.f5 false true false false) := by
  refine handed_env (C := Tryd.checked) (X := fun w _ => laidMetH Tryd.prog Rows.flagTextsRow.laid w) (fun _ _ _ hh h => h.of_heap hh) Tryd.own started (by kernel_rfl) Tryd.func5
    (ChangeSpec.witness_shaped (enc := enc) (C := Tryd.checked) (os := os) (X := fun w _ => laidMetH Tryd.prog Rows.flagTextsRow.laid w) false (World.laidAll Tryd.prog os Rows.flagTextsRow.laid) #[.slice none 0 0, .string ByteArray.empty] 8 (World.laidAll_os _ _ _) (World.shaped_of_ZipB (by kernel_rfl) (by kernel_rfl)) (by kernel_rfl) (by kernel_rfl) (by kernel_rfl) (flagTexts_door os _)) ?_
  intro W base args ds gs before hval0 hW hL hsh
  have hval : ∀ (j : Nat) t v, Tryd.f5.params[j]? = some t → args[j]? = some v → Value.okWide Tryd.prog W .any base t v := hval0
  have hW' := hW
  have hT := flagTexts_env hL hsh
  obtain ⟨p, q, hA0, hV, rfl, _, _⟩ := hW
  have hA : DataW.TrodAll enc Tryd.prog W 0 (fun _ => true) true Tryd.f5.params.toList args.toList ds p := hA0
  rw [Tryd.params5] at hA hval
  obtain ⟨v0, v1, d0, d1, p0, p1, rfl, rfl, rfl, h0, h1⟩ := trodAll_two hA
  obtain ⟨rfl, rfl⟩ := trodVars_none hV
  clear hA0 hval0
  obtain ⟨a0, ha0, ok0⟩ := open_listV (ok := okGMeaning) opens_GMeaning Tryd.underlying33 (by kernel_rfl) (hval 0 33 v0 rfl rfl) h0
  obtain ⟨a1, rfl, rfl, rfl, ok1⟩ := open_string Tryd.underlying9 (hval 1 9 v1 rfl rfl) h1
  refine (c_noongunlaw07_FlagTexts hT v0 a0 ha0 a1 (law_noongunlaw07_FlagTexts a0 ok0 ha0.1 a1 ok1)).mono fun e W' hR => ?_
  obtain ⟨v, rfl, hb, rfl⟩ := hR
  exact ⟨_, rfl, post_true Tryd.laidOut (by kernel_rfl) rfl Tryd.underlying4 rfl hW' rfl hb⟩

set_option maxRecDepth 100000 in
theorem flagTexts_holds : Rows.FlagTextsSaid :=
  OpenClaim.holds_of_wide 5 Tryd.f5 rfl rfl rfl rfl rfl rfl rfl ⟨rfl, rfl, rfl, rfl, rfl⟩ rfl rfl rfl rfl rfl (by kernel_rfl) Tryd.func5 (by kernel_rfl)
    (of_decide_eq_true (by kernel_rfl)) (by unfold Func.isWrapper; first | (rw [if_pos (by decide +kernel)]; kernel_rfl) | (rw [if_neg (by decide +kernel)]; exact ⟨rfl, rfl⟩))
    (fun os started H enc _ => flagTexts_lifted os started H enc)
set_option maxRecDepth 100000 in
theorem flagTexts_card_holds : Rows.FlagTextsCardSaid :=
  Claim7.holds_tied_plain_at .later [] [.data, .data, .data, .sentinel, .sentinel] true (true, "edcd024b90508b6c0bdeaf89fe8669e1d8ca34e15214fa097ba2fc14bb1d4f64") true
    flagTexts_holds (fun _ h => by cases h) (by kernel_rfl) (fun _ h => by cases h) flagTexts_row_tie rfl ⟨rfl, rfl⟩ (by kernel_rfl) rfl
    (fun f fn hf hfn => by
      obtain rfl : f = 5 := Option.some.inj ((show Tryd.prog.funcNamed "noongun/noongunlaw07.FlagTexts" = some 5 by kernel_rfl).symm.trans hf) |>.symm
      obtain rfl : fn = Tryd.f5 := (Option.some.inj (Tryd.func5.symm.trans hfn)).symm
      exact ⟨by kernel_rfl, fun j t ht => by
        rw [Tryd.params5] at ht
        have hm : t ∈ [33, 9] := by simpa using Array.mem_of_getElem? ht
        have hall : ([33, 9].all fun u => !Tryd.prog.wantsStandIn u) = true := by kernel_rfl
        exact (show Tryd.prog.wantsStandIn t = false by simpa using List.all_eq_true.1 hall t hm)⟩)
    (by kernel_rfl)

#print axioms flagTexts_card_holds
end Go.Proofs.YtecedifkjafneaaDoor
