/-
  The walks: each function does what its model says, where the model has a value. No other condition.
-/
import Derived.Test.YtecedifkjafneaaDoorRows
import Derived.Test.YtecedifkjafneaaDoorM
import Derived.Test.YtecedifkjafneaaDoorFwX
import Derived.Test.YtecedifkjafneaaDoorShelf
namespace Go.Proofs
open Go.Fw Go.RowKit Go.Shelf
theorem sc3 : ScalarT Tryd.prog 3 := ScalarT.mk Tryd.underlying3 rfl
theorem sz3 : SizeT Tryd.prog 3 1 := SizeT.mk (by kernel_rfl)
theorem el3 : ElemT Tryd.prog 3 1 8 := ElemT.mk (z := (.int .i64 (0))) (by kernel_rfl) rfl
theorem fol : Tryd.prog.follows .mixedOrders = true := by kernel_rfl
theorem sz5 : SizeT Tryd.prog 5 1 := SizeT.mk (by kernel_rfl)
theorem sc5 : ScalarT Tryd.prog 5 := ScalarT.mk Tryd.underlying5 rfl
theorem sz39 : SizeT Tryd.prog 39 2 := SizeT.mk (by kernel_rfl)
theorem ag39 : AggT Tryd.prog 39 2 := AggT.mk Tryd.underlying39 rfl (by kernel_rfl)
theorem ze39 : ZeroT Tryd.prog 39 (.agg #[(.int .i64 (0)), (.string ByteArray.empty)]) := ZeroT.mk (by kernel_rfl)
theorem fd39_1 : FieldT Tryd.prog 39 1 1 := FieldT.mk (k := 1) Tryd.underlying39 rfl rfl (by kernel_rfl) (by decide)
theorem sc9 : ScalarT Tryd.prog 9 := ScalarT.mk Tryd.underlying9 rfl
theorem fd39_0 : FieldT Tryd.prog 39 0 0 := FieldT.mk (k := 1) Tryd.underlying39 rfl rfl (by kernel_rfl) (by decide)
theorem key3 : KeyT Tryd.prog 3 Int := KeyT.int Tryd.underlying3
theorem ze9 : ZeroT Tryd.prog 9 (.string ByteArray.empty) := ZeroT.mk (by kernel_rfl)
theorem c_flag_within {w0 : World} (a0 : Int) (a1 : Int) (a2 : Int) {r0 : Bool} (hm : flag_within a0 a1 a2 = some r0) :
    Calls Tryd.prog 58 #[(.int .i64 a0), (.int .i64 a1), (.int .i64 a2)] w0 (Ret w0 fun _ v => v = (.bool r0)) := by
  unfold flag_within at hm
  refine calls_of_W Tryd.func58 rfl Tryd.ntmps58 (Nat.le_of_ble_eq_true rfl) ?_
  have H := Inv.start (w := w0)
  refine W.seq ?_
  refine W.region ?_
  refine O.assign (v := (.bool false)) rfl rfl rfl ?_
  refine WL.nil ?_
  refine W.seq ?_
  refine W.region ?_
  refine O.move (v := (.int .i64 a0)) rfl rfl rfl ?_
  refine O.move (v := (.int .i64 a1)) rfl rfl rfl ?_
  refine O.geq rfl rfl rfl rfl ?_
  refine O.move (v := (.bool (decide (a1 ≤ a0)))) rfl rfl rfl ?_
  refine WL.cut 4 (fun f w => f 14 = .bool ((decide (a1 ≤ a0)) && (decide (a0 ≤ a2))) ∧ Inv w0 w []) ?_ ?_
  · skip
    rcases bool_ft (decide (a1 ≤ a0)) with hc1 | hc1
    · skip
      refine WL.reset (i := 10) (v := .bool false) (congrArg Value.bool hc1) ?_
      refine O.skip rfl rfl ?_
      refine O.skip rfl rfl ?_
      refine O.skip rfl rfl ?_
      refine O.pick_false (v := (.bool false)) rfl rfl rfl rfl ?_
      refine WL.nil ?_
      exact ⟨congrArg Value.bool (and_f hc1), H⟩
    · skip
      refine WL.reset (i := 10) (v := .bool true) (congrArg Value.bool hc1) ?_
      refine O.move (v := (.int .i64 a0)) rfl rfl rfl ?_
      refine O.move (v := (.int .i64 a2)) rfl rfl rfl ?_
      refine O.leq rfl rfl rfl rfl ?_
      refine O.pick_true (v := (.bool (decide (a0 ≤ a2)))) rfl rfl rfl rfl ?_
      refine WL.nil ?_
      exact ⟨congrArg Value.bool (and_t hc1), H⟩
  · skip
    rintro f w ⟨hf14, H⟩
    obtain ⟨u1, rfl⟩ : ∃ u1, f = (upd u1 14 (.bool ((decide (a1 ≤ a0)) && (decide (a0 ≤ a2))))) := ⟨f, by rw [upd_self hf14]⟩
    refine O.assign (v := (.bool ((decide (a1 ≤ a0)) && (decide (a0 ≤ a2))))) rfl rfl rfl ?_
    refine WL.nil ?_
    refine W.ret ?_
    have hq : ((decide (a1 ≤ a0)) && (decide (a0 ≤ a2))) = r0 := Option.some.inj (show some ((decide (a1 ≤ a0)) && (decide (a0 ≤ a2))) = some r0 from hm)
    subst hq
    exact ends1 Tryd.results58 rfl ⟨_, rfl, H.base, rfl⟩

theorem c_flag_listed_c1 {w0 : World} (a0 : Int) (pc0 : Addr) (c0 : Int) (hc0 : ∀ j c, (Flat.cells c0)[j]? = some c → w0.cell? (pc0.add j) = some c) {r0 : Bool} (hm : flag_listed_c1 a0 c0 = some r0) :
    Calls Tryd.prog 94 #[(.int .i64 a0), (.pointer (some pc0))] w0 (Ret w0 fun _ v => v = (.bool r0)) := by
  unfold flag_listed_c1 at hm
  refine calls_of_W Tryd.func94 rfl Tryd.ntmps94 (Nat.le_of_ble_eq_true rfl) ?_
  have H := Inv.start (w := w0)
  refine W.seq ?_
  refine W.region ?_
  refine O.assign (v := (.bool false)) rfl rfl rfl ?_
  refine WL.nil ?_
  refine W.seq ?_
  refine W.region ?_
  refine O.move (v := (.int .i64 a0)) rfl rfl rfl ?_
  refine O.load sc3 rfl rfl rfl (cells_mono hc0 H.base 0 _ rfl) ?_
  obtain ⟨t1, hy1, hm⟩ := bind_some hm
  refine O.call Tryd.call58 rfl rfl rfl (c_flag_within _ _ _ hy1) ?_
  rintro _ w1 hb1 rfl
  have H := H.ext hb1
  refine O.not rfl rfl rfl ?_
  refine O.assign (v := (.bool (!t1))) rfl rfl rfl ?_
  refine WL.nil ?_
  refine W.ret ?_
  have hq : (!t1) = r0 := Option.some.inj (show some (!t1) = some r0 from hm)
  subst hq
  exact ends1 Tryd.results94 rfl ⟨_, rfl, H.base, rfl⟩

theorem c_slices_IndexFunc_int {w0 : World} (va0 : Value) (a0 : (List Int)) (ha0 : SliceR w0 va0 a0) (va1 : Value) (a1 : Int → Option (Bool)) (ha1 : ∀ (w : World), Below w0.heap.size w0 w → ∀ (x0 : Int) (y0 : Bool), a1 x0 = some y0 → CallsV Tryd.prog va1 #[(.int .i64 x0)] w (Ret w fun _ v => v = (.bool y0))) {r0 : Int} (hm : slices_IndexFunc_int a0 a1 = some r0) :
    Calls Tryd.prog 116 #[va0, va1] w0 (Ret w0 fun _ v => v = (.int .i64 r0)) := by
  unfold slices_IndexFunc_int at hm
  refine calls_of_W Tryd.func116 rfl Tryd.ntmps116 (Nat.le_of_ble_eq_true rfl) ?_
  have H := Inv.start (w := w0)
  refine W.seq ?_
  refine W.region ?_
  refine O.assign (v := (.int .i64 0)) rfl rfl rfl ?_
  refine WL.nil ?_
  refine W.seq ?_
  refine W.seq ?_
  refine W.region ?_
  refine O.move (v := va0) rfl rfl rfl ?_
  refine O.lenS Tryd.underlying22 (H.arg ha0) rfl rfl rfl ?_
  refine O.move (v := (.int .i64 0)) rfl rfl rfl ?_
  refine WL.nil ?_
  obtain ⟨o1, hm1, hm⟩ := bind_some hm
  refine W.via (fun f w => o1 = .next () ∧ Inv w0 w []) ?_ ?_
  · skip
    refine W.block ?_
    have hbdik1 := (H.arg ha0).len_le
    refine W.rangeN (i := 0) hm1 (fun rem ik1 s f w => () = s ∧ (ik1 : Int) + rem = max 0 ((a0.length : Nat) : Int) ∧ f 8 = .int .i64 (ik1 : Int) ∧ f 7 = (.int .i64 ((a0.length : Nat) : Int)) ∧ f 0 = va0 ∧ f 1 = va1 ∧ Inv w0 w []) ?_ ?_ ?_
    · skip
      exact ⟨rfl, rangeN_start, rfl, rfl, rfl, rfl, H⟩
    · skip
      rintro k ik1 _ st f w ⟨rfl, hdropk1, hf8, hf7, hf0, hf1, H⟩ hm2
      have hltk1 := rangeN_lt hdropk1
      obtain ⟨u1, rfl⟩ : ∃ u1, f = (upd (upd (upd (upd u1 8 (.int .i64 (ik1 : Int))) 7 (.int .i64 ((a0.length : Nat) : Int))) 0 va0) 1 va1) := ⟨f, by rw [upd_self hf8, upd_self hf7, upd_self hf0, upd_self hf1]⟩
      have hinck1 := addI_lt hltk1 hbdik1
      refine W.seq ?_
      refine W.region ?_
      refine O.lss rfl rfl rfl rfl ?_
      refine WL.nil ?_
      refine W.seq ?_
      refine W.cond_true (congrArg Value.bool (decide_eq_true hltk1)) ?_
      refine W.skip ?_
      refine W.seq ?_
      refine W.block ?_
      refine W.seq ?_
      refine W.region ?_
      refine O.move (v := (.int .i64 (ik1 : Int))) rfl rfl rfl ?_
      refine O.assign (v := (.int .i64 (ik1 : Int))) rfl rfl rfl ?_
      refine WL.nil ?_
      refine W.seq ?_
      refine W.region ?_
      refine O.move (v := va1) rfl rfl rfl ?_
      refine O.move (v := va0) rfl rfl rfl ?_
      refine O.move (v := (.int .i64 (ik1 : Int))) rfl rfl rfl ?_
      obtain ⟨x1, hx1, hm2⟩ := bind_some hm2
      obtain ⟨p1, hp1, hrp1⟩ := fix_indexAddr Tryd.underlying22 sz3 ha0 hx1
      refine hrp1 rfl rfl rfl rfl ?_
      refine O.load sc3 rfl rfl rfl ((hp1.mono H.base).flat 0 _ rfl) ?_
      obtain ⟨t1, hy1, hm2⟩ := bind_some hm2
      refine O.callV rfl rfl rfl rfl (ha1 _ H.base _ _ hy1) ?_
      rintro _ w1 hb1 rfl
      have H := H.ext hb1
      refine WL.nil ?_
      rcases ite_some hm2 with ⟨hc1, hm2⟩ | ⟨hc1, hm2⟩
      · refine W.cond_true (congrArg Value.bool hc1) ?_
        refine W.seq ?_
        refine W.region ?_
        refine O.move (v := (.int .i64 (ik1 : Int))) rfl rfl rfl ?_
        refine O.assign (v := (.int .i64 (ik1 : Int))) rfl rfl rfl ?_
        refine WL.nil ?_
        refine W.ret ?_
        obtain rfl := Option.some.inj hm2
        refine ⟨_, rfl, ?_⟩
        rintro rfl
        have hq : (ik1 : Int) = r0 := Option.some.inj (show some (ik1 : Int) = some r0 from hm)
        subst hq
        exact ends1 Tryd.results116 rfl ⟨_, rfl, H.base, rfl⟩
      · refine W.cond_false (congrArg Value.bool hc1) ?_
        refine W.skip ?_
        refine W.region ?_
        refine O.add rfl rfl rfl rfl hinck1 ?_
        refine O.move (v := .int .i64 ((ik1 : Int) + 1)) rfl rfl rfl ?_
        refine WL.nil ?_
        obtain rfl := Option.some.inj hm2
        exact ⟨_, rfl, rfl, rangeN_next hdropk1, rfl, rfl, rfl, rfl, H⟩
    · skip
      rintro ik1 _ f w ⟨rfl, hdropk1, hf8, hf7, hf0, hf1, H⟩ hfin
      have hltk1 := rangeN_end hdropk1
      obtain ⟨u2, rfl⟩ : ∃ u2, f = (upd (upd (upd (upd u2 8 (.int .i64 (ik1 : Int))) 7 (.int .i64 ((a0.length : Nat) : Int))) 0 va0) 1 va1) := ⟨f, by rw [upd_self hf8, upd_self hf7, upd_self hf0, upd_self hf1]⟩
      refine W.seq ?_
      refine W.region ?_
      refine O.lss rfl rfl rfl rfl ?_
      refine WL.nil ?_
      refine W.seq ?_
      refine W.cond_false (congrArg Value.bool (decide_eq_false hltk1)) ?_
      refine W.exit ?_
      obtain rfl : Ctl.next () = o1 := hfin
      refine xT rfl ?_
      exact ⟨rfl, H⟩
  · skip
    rintro f w ⟨rfl, H⟩
    refine W.seq ?_
    refine W.region ?_
    refine O.assign (v := (.int .i64 (-1))) rfl rfl rfl ?_
    refine WL.nil ?_
    refine W.ret ?_
    have hq : (-1) = r0 := Option.some.inj (show some (-1) = some r0 from hm)
    subst hq
    exact ends1 Tryd.results116 rfl ⟨_, rfl, H.base, rfl⟩

theorem c_slices_ContainsFunc_int {w0 : World} (va0 : Value) (a0 : (List Int)) (ha0 : SliceR w0 va0 a0) (va1 : Value) (a1 : Int → Option (Bool)) (ha1 : ∀ (w : World), Below w0.heap.size w0 w → ∀ (x0 : Int) (y0 : Bool), a1 x0 = some y0 → CallsV Tryd.prog va1 #[(.int .i64 x0)] w (Ret w fun _ v => v = (.bool y0))) {r0 : Bool} (hm : slices_ContainsFunc_int a0 a1 = some r0) :
    Calls Tryd.prog 93 #[va0, va1] w0 (Ret w0 fun _ v => v = (.bool r0)) := by
  unfold slices_ContainsFunc_int at hm
  refine calls_of_W Tryd.func93 rfl Tryd.ntmps93 (Nat.le_of_ble_eq_true rfl) ?_
  have H := Inv.start (w := w0)
  refine W.seq ?_
  refine W.region ?_
  refine O.assign (v := (.bool false)) rfl rfl rfl ?_
  refine WL.nil ?_
  refine W.seq ?_
  refine W.region ?_
  refine O.move (v := va0) rfl rfl rfl ?_
  refine O.move (v := va1) rfl rfl rfl ?_
  obtain ⟨t1, hy1, hm⟩ := bind_some hm
  refine O.call Tryd.call116 rfl rfl rfl (c_slices_IndexFunc_int _ _ (H.arg ha0) va1 a1 (fun w hw => ha1 w (H.base.trans (hw.mono H.base.size))) hy1) ?_
  rintro _ w1 hb1 rfl
  have H := H.ext hb1
  refine O.geq rfl rfl rfl rfl ?_
  refine O.assign (v := (.bool (decide (0 ≤ t1)))) rfl rfl rfl ?_
  refine WL.nil ?_
  refine W.ret ?_
  have hq : (decide (0 ≤ t1)) = r0 := Option.some.inj (show some (decide (0 ≤ t1)) = some r0 from hm)
  subst hq
  exact ends1 Tryd.results93 rfl ⟨_, rfl, H.base, rfl⟩

theorem c_flag_listed {w0 : World} (va0 : Value) (a0 : (List Int)) (ha0 : SliceR w0 va0 a0) (a1 : Int) {r0 : Bool} (hm : flag_listed a0 a1 = some r0) :
    Calls Tryd.prog 78 #[va0, (.int .i64 a1)] w0 (Ret w0 fun _ v => v = (.bool r0)) := by
  unfold flag_listed at hm
  refine calls_of_W Tryd.func78 rfl Tryd.ntmps78 (Nat.le_of_ble_eq_true rfl) ?_
  have H := Inv.start (w := w0)
  refine W.seq ?_
  refine W.region ?_
  refine O.box [(.int .i64 a1)] H rfl rfl rfl rfl ?_
  intro b1 w1 H hb1
  refine O.assign (v := (.bool false)) rfl rfl rfl ?_
  refine WL.nil ?_
  refine W.seq ?_
  refine W.region ?_
  refine O.move (v := va0) rfl rfl rfl ?_
  refine O.lenS Tryd.underlying22 (H.arg ha0) rfl rfl rfl ?_
  obtain ⟨t1, hy1, hm⟩ := bind_some hm
  refine O.call Tryd.call58 rfl rfl rfl (c_flag_within _ _ _ hy1) ?_
  rintro _ w2 hb2 rfl
  have H := H.ext hb2
  refine O.move (v := (.bool t1)) rfl rfl rfl ?_
  obtain ⟨b2, hm1, hm⟩ := bind_some hm
  refine WL.cut 5 (fun f w => f 13 = .bool b2 ∧ Inv w0 w [boxI b1 3 [(.int .i64 a1)]]) ?_ ?_
  · skip
    rcases ite_some hm1 with ⟨hc1, hm1⟩ | ⟨hc1, hm1⟩
    · skip
      refine WL.reset (i := 8) (v := .bool true) (congrArg Value.bool hc1) ?_
      refine O.move (v := va0) rfl rfl rfl ?_
      refine O.makeFunc rfl rfl rfl rfl ?_
      obtain ⟨t2, hy2, hm1⟩ := bind_some hm1
      refine O.call Tryd.call93 rfl rfl rfl (c_slices_ContainsFunc_int _ _ (H.arg ha0) _ (fun x0 => flag_listed_c1 x0 a1) (fun w hw x0 _ hy => callsV_mk Tryd.call94 (c_flag_listed_c1 x0 _ a1 (cells_mono (H.cell 0 rfl) hw) hy)) hy2) ?_
      rintro _ w3 hb3 rfl
      have H := H.ext hb3
      refine O.not rfl rfl rfl ?_
      refine O.pick_true (v := (.bool (!t2))) rfl rfl rfl rfl ?_
      refine WL.nil ?_
      have hq : (!t2) = b2 := Option.some.inj (show some (!t2) = some b2 from hm1)
      subst hq
      exact ⟨rfl, H⟩
    · skip
      refine WL.reset (i := 8) (v := .bool false) (congrArg Value.bool hc1) ?_
      refine O.skip rfl rfl ?_
      refine O.skip rfl rfl ?_
      refine O.skip rfl rfl ?_
      refine O.skip rfl rfl ?_
      refine O.pick_false (v := (.bool false)) rfl rfl rfl rfl ?_
      refine WL.nil ?_
      have hq : false = b2 := Option.some.inj (show some false = some b2 from hm1)
      subst hq
      exact ⟨rfl, H⟩
  · skip
    rintro f w ⟨hf13, H⟩
    obtain ⟨u1, rfl⟩ : ∃ u1, f = (upd u1 13 (.bool b2)) := ⟨f, by rw [upd_self hf13]⟩
    refine O.assign (v := (.bool b2)) rfl rfl rfl ?_
    refine WL.nil ?_
    refine W.ret ?_
    have hq : b2 = r0 := Option.some.inj (show some b2 = some r0 from hm)
    subst hq
    exact ends1 Tryd.results78 rfl ⟨_, rfl, H.base, rfl⟩

theorem c_flag_ValidDigits {w0 : World} (va0 : Value) (a0 : (List Int)) (ha0 : SliceR w0 va0 a0) {r0 : Bool} (hm : flag_ValidDigits a0 = some r0) :
    Calls Tryd.prog 41 #[va0] w0 (Ret w0 fun _ v => v = (.bool r0)) := by
  unfold flag_ValidDigits at hm
  refine calls_of_W Tryd.func41 rfl Tryd.ntmps41 (Nat.le_of_ble_eq_true rfl) ?_
  have H := Inv.start (w := w0)
  refine W.seq ?_
  refine W.region ?_
  refine O.assign (v := (.bool false)) rfl rfl rfl ?_
  refine WL.nil ?_
  refine W.seq ?_
  refine W.region ?_
  refine O.move (v := va0) rfl rfl rfl ?_
  obtain ⟨t1, hy1, hm⟩ := bind_some hm
  refine O.call Tryd.call78 rfl rfl rfl (c_flag_listed _ _ (H.arg ha0) _ hy1) ?_
  rintro _ w1 hb1 rfl
  have H := H.ext hb1
  refine O.assign (v := (.bool t1)) rfl rfl rfl ?_
  refine WL.nil ?_
  refine W.ret ?_
  have hq : t1 = r0 := Option.some.inj (show some t1 = some r0 from hm)
  subst hq
  exact ends1 Tryd.results41 rfl ⟨_, rfl, H.base, rfl⟩

theorem c_slices_Index_int {w0 : World} (va0 : Value) (a0 : (List Int)) (ha0 : SliceR w0 va0 a0) (a1 : Int) {r0 : Int} (hm : slices_Index_int a0 a1 = some r0) :
    Calls Tryd.prog 82 #[va0, (.int .i64 a1)] w0 (Ret w0 fun _ v => v = (.int .i64 r0)) := by
  unfold slices_Index_int at hm
  refine calls_of_W Tryd.func82 rfl Tryd.ntmps82 (Nat.le_of_ble_eq_true rfl) ?_
  have H := Inv.start (w := w0)
  refine W.seq ?_
  refine W.region ?_
  refine O.assign (v := (.int .i64 0)) rfl rfl rfl ?_
  refine WL.nil ?_
  refine W.seq ?_
  refine W.seq ?_
  refine W.region ?_
  refine O.move (v := va0) rfl rfl rfl ?_
  refine O.lenS Tryd.underlying22 (H.arg ha0) rfl rfl rfl ?_
  refine O.move (v := (.int .i64 0)) rfl rfl rfl ?_
  refine WL.nil ?_
  obtain ⟨o1, hm1, hm⟩ := bind_some hm
  refine W.via (fun f w => o1 = .next () ∧ Inv w0 w []) ?_ ?_
  · skip
    refine W.block ?_
    have hbdik1 := (H.arg ha0).len_le
    refine W.rangeN (i := 0) hm1 (fun rem ik1 s f w => () = s ∧ (ik1 : Int) + rem = max 0 ((a0.length : Nat) : Int) ∧ f 8 = .int .i64 (ik1 : Int) ∧ f 7 = (.int .i64 ((a0.length : Nat) : Int)) ∧ f 0 = va0 ∧ f 1 = (.int .i64 a1) ∧ Inv w0 w []) ?_ ?_ ?_
    · skip
      exact ⟨rfl, rangeN_start, rfl, rfl, rfl, rfl, H⟩
    · skip
      rintro k ik1 _ st f w ⟨rfl, hdropk1, hf8, hf7, hf0, hf1, H⟩ hm2
      have hltk1 := rangeN_lt hdropk1
      obtain ⟨u1, rfl⟩ : ∃ u1, f = (upd (upd (upd (upd u1 8 (.int .i64 (ik1 : Int))) 7 (.int .i64 ((a0.length : Nat) : Int))) 0 va0) 1 (.int .i64 a1)) := ⟨f, by rw [upd_self hf8, upd_self hf7, upd_self hf0, upd_self hf1]⟩
      have hinck1 := addI_lt hltk1 hbdik1
      refine W.seq ?_
      refine W.region ?_
      refine O.lss rfl rfl rfl rfl ?_
      refine WL.nil ?_
      refine W.seq ?_
      refine W.cond_true (congrArg Value.bool (decide_eq_true hltk1)) ?_
      refine W.skip ?_
      refine W.seq ?_
      refine W.block ?_
      refine W.seq ?_
      refine W.region ?_
      refine O.move (v := (.int .i64 (ik1 : Int))) rfl rfl rfl ?_
      refine O.assign (v := (.int .i64 (ik1 : Int))) rfl rfl rfl ?_
      refine WL.nil ?_
      refine W.seq ?_
      refine W.region ?_
      refine O.move (v := (.int .i64 a1)) rfl rfl rfl ?_
      refine O.move (v := va0) rfl rfl rfl ?_
      refine O.move (v := (.int .i64 (ik1 : Int))) rfl rfl rfl ?_
      obtain ⟨x1, hx1, hm2⟩ := bind_some hm2
      obtain ⟨p1, hp1, hrp1⟩ := fix_indexAddr Tryd.underlying22 sz3 ha0 hx1
      refine hrp1 rfl rfl rfl rfl ?_
      refine O.load sc3 rfl rfl rfl ((hp1.mono H.base).flat 0 _ rfl) ?_
      refine O.eql rfl rfl rfl rfl ?_
      refine WL.nil ?_
      rcases ite_some hm2 with ⟨hc1, hm2⟩ | ⟨hc1, hm2⟩
      · refine W.cond_true (congrArg Value.bool hc1) ?_
        refine W.seq ?_
        refine W.region ?_
        refine O.move (v := (.int .i64 (ik1 : Int))) rfl rfl rfl ?_
        refine O.assign (v := (.int .i64 (ik1 : Int))) rfl rfl rfl ?_
        refine WL.nil ?_
        refine W.ret ?_
        obtain rfl := Option.some.inj hm2
        refine ⟨_, rfl, ?_⟩
        rintro rfl
        have hq : (ik1 : Int) = r0 := Option.some.inj (show some (ik1 : Int) = some r0 from hm)
        subst hq
        exact ends1 Tryd.results82 rfl ⟨_, rfl, H.base, rfl⟩
      · refine W.cond_false (congrArg Value.bool hc1) ?_
        refine W.skip ?_
        refine W.region ?_
        refine O.add rfl rfl rfl rfl hinck1 ?_
        refine O.move (v := .int .i64 ((ik1 : Int) + 1)) rfl rfl rfl ?_
        refine WL.nil ?_
        obtain rfl := Option.some.inj hm2
        exact ⟨_, rfl, rfl, rangeN_next hdropk1, rfl, rfl, rfl, rfl, H⟩
    · skip
      rintro ik1 _ f w ⟨rfl, hdropk1, hf8, hf7, hf0, hf1, H⟩ hfin
      have hltk1 := rangeN_end hdropk1
      obtain ⟨u2, rfl⟩ : ∃ u2, f = (upd (upd (upd (upd u2 8 (.int .i64 (ik1 : Int))) 7 (.int .i64 ((a0.length : Nat) : Int))) 0 va0) 1 (.int .i64 a1)) := ⟨f, by rw [upd_self hf8, upd_self hf7, upd_self hf0, upd_self hf1]⟩
      refine W.seq ?_
      refine W.region ?_
      refine O.lss rfl rfl rfl rfl ?_
      refine WL.nil ?_
      refine W.seq ?_
      refine W.cond_false (congrArg Value.bool (decide_eq_false hltk1)) ?_
      refine W.exit ?_
      obtain rfl : Ctl.next () = o1 := hfin
      refine xT rfl ?_
      exact ⟨rfl, H⟩
  · skip
    rintro f w ⟨rfl, H⟩
    refine W.seq ?_
    refine W.region ?_
    refine O.assign (v := (.int .i64 (-1))) rfl rfl rfl ?_
    refine WL.nil ?_
    refine W.ret ?_
    have hq : (-1) = r0 := Option.some.inj (show some (-1) = some r0 from hm)
    subst hq
    exact ends1 Tryd.results82 rfl ⟨_, rfl, H.base, rfl⟩

theorem c_slices_Contains_int {w0 : World} (va0 : Value) (a0 : (List Int)) (ha0 : SliceR w0 va0 a0) (a1 : Int) {r0 : Bool} (hm : slices_Contains_int a0 a1 = some r0) :
    Calls Tryd.prog 61 #[va0, (.int .i64 a1)] w0 (Ret w0 fun _ v => v = (.bool r0)) := by
  unfold slices_Contains_int at hm
  refine calls_of_W Tryd.func61 rfl Tryd.ntmps61 (Nat.le_of_ble_eq_true rfl) ?_
  have H := Inv.start (w := w0)
  refine W.seq ?_
  refine W.region ?_
  refine O.assign (v := (.bool false)) rfl rfl rfl ?_
  refine WL.nil ?_
  refine W.seq ?_
  refine W.region ?_
  refine O.move (v := va0) rfl rfl rfl ?_
  refine O.move (v := (.int .i64 a1)) rfl rfl rfl ?_
  obtain ⟨t1, hy1, hm⟩ := bind_some hm
  refine O.call Tryd.call82 rfl rfl rfl (c_slices_Index_int _ _ (H.arg ha0) _ hy1) ?_
  rintro _ w1 hb1 rfl
  have H := H.ext hb1
  refine O.geq rfl rfl rfl rfl ?_
  refine O.assign (v := (.bool (decide (0 ≤ t1)))) rfl rfl rfl ?_
  refine WL.nil ?_
  refine W.ret ?_
  have hq : (decide (0 ≤ t1)) = r0 := Option.some.inj (show some (decide (0 ≤ t1)) = some r0 from hm)
  subst hq
  exact ends1 Tryd.results61 rfl ⟨_, rfl, H.base, rfl⟩

theorem c_flag_place {w0 : World} (a0 : Int) {r0 : Int} (hm : flag_place a0 = some r0) :
    Calls Tryd.prog 62 #[(.int .i64 a0)] w0 (Ret w0 fun _ v => v = (.int .i64 r0)) := by
  unfold flag_place at hm
  refine calls_of_W Tryd.func62 rfl Tryd.ntmps62 (Nat.le_of_ble_eq_true rfl) ?_
  have H := Inv.start (w := w0)
  refine W.seq ?_
  refine W.region ?_
  refine O.assign (v := (.int .i64 0)) rfl rfl rfl ?_
  refine WL.nil ?_
  refine W.seq ?_
  refine W.region ?_
  refine O.move (v := (.int .i64 a0)) rfl rfl rfl ?_
  obtain ⟨t1, ht1, hm⟩ := bind_some hm
  refine O.sub rfl rfl rfl rfl ht1 ?_
  refine O.assign (v := (.int .i64 t1)) rfl rfl rfl ?_
  refine WL.nil ?_
  refine W.ret ?_
  have hq : t1 = r0 := Option.some.inj (show some t1 = some r0 from hm)
  subst hq
  exact ends1 Tryd.results62 rfl ⟨_, rfl, H.base, rfl⟩

set_option maxRecDepth 20000 in
theorem c_flag_Hoist {w0 : World} (va0 : Value) (a0 : (List Int)) (ha0 : SliceR w0 va0 a0) {r0 : (List Int)} {r1 : Int} (hm : flag_Hoist a0 = some (r0, r1)) :
    Calls Tryd.prog 24 #[va0] w0 (Ret w0 fun w v => ∃ vr0 : Value, v = .tuple #[vr0, (.int .i64 r1)] ∧ OwnR w0 w vr0 3 r0) := by
  unfold flag_Hoist at hm
  refine calls_of_W Tryd.func24 rfl Tryd.ntmps24 (Nat.le_of_ble_eq_true rfl) ?_
  have H := Inv.start (w := w0)
  refine W.seq ?_
  refine W.region ?_
  have H := H.addNil (α := Int) (E := 3)
  refine O.assign (v := (.slice none 0 0)) rfl rfl rfl ?_
  refine O.assign (v := (.int .i64 0)) rfl rfl rfl ?_
  refine WL.nil ?_
  refine W.seq ?_
  refine W.seq ?_
  refine W.region ?_
  refine O.move (v := va0) rfl rfl rfl ?_
  obtain ⟨t1, hy1, hm⟩ := bind_some hm
  refine O.call Tryd.call41 rfl rfl rfl (c_flag_ValidDigits _ _ (H.arg ha0) hy1) ?_
  rintro _ w1 hb1 rfl
  have H := H.ext hb1
  refine O.not rfl rfl rfl ?_
  refine WL.nil ?_
  rcases ite_some hm with ⟨hc1, hm⟩ | ⟨hc1, hm⟩
  · refine W.cond_true (congrArg Value.bool hc1) ?_
    refine W.seq ?_
    refine W.region ?_
    have H := H.addNil (α := Int) (E := 3)
    refine O.assign (v := (.slice none 0 0)) rfl rfl rfl ?_
    refine O.assign (v := (.int .i64 1)) rfl rfl rfl ?_
    refine WL.nil ?_
    refine W.ret ?_
    have hq : (([] : List Int), 1) = (r0, r1) := Option.some.inj (show some (([] : List Int), 1) = some (r0, r1) from hm)
    obtain ⟨he0, hq0⟩ := Prod.mk.inj hq; clear hq; subst he0
    subst hq0
    exact ends2 Tryd.results24 rfl rfl ⟨_, rfl, H.base, ⟨_, rfl, H.ownR 1 rfl⟩⟩
  · refine W.cond_false (congrArg Value.bool hc1) ?_
    refine W.skip ?_
    refine W.seq ?_
    refine W.region ?_
    have H := H.addNil (α := Int) (E := 3)
    refine O.assign (v := (.slice none 0 0)) rfl rfl rfl ?_
    refine WL.nil ?_
    refine W.seq ?_
    refine W.seq ?_
    refine W.region ?_
    refine O.move (v := va0) rfl rfl rfl ?_
    refine O.lenS Tryd.underlying22 (H.arg ha0) rfl rfl rfl ?_
    refine O.move (v := (.int .i64 0)) rfl rfl rfl ?_
    refine WL.nil ?_
    obtain ⟨s1, hm1, hm⟩ := bind_some hm
    refine W.via (fun f w => ∃ v4 : Value, f 4 = v4 ∧ Inv w0 w [ownI (α := Int) v4 3 s1]) ?_ ?_
    · skip
      refine W.block ?_
      have hbdik1 := (H.arg ha0).len_le
      have H := H.keep [1] [ownI (α := Int) (.slice none 0 0) 3 ([] : List Int)] rfl (by decide)
      refine W.rangeN (i := 0) hm1 (fun rem ik1 s f w => ∃ z2 : (List Int), ∃ v2 : Value, z2 = s ∧ (ik1 : Int) + rem = max 0 ((a0.length : Nat) : Int) ∧ f 13 = .int .i64 (ik1 : Int) ∧ f 12 = (.int .i64 ((a0.length : Nat) : Int)) ∧ f 0 = va0 ∧ f 4 = v2 ∧ f 11 = va0 ∧ Inv w0 w [ownI (α := Int) v2 3 z2]) ?_ ?_ ?_
      · skip
        exact ⟨_, (.slice none 0 0), rfl, rangeN_start, rfl, rfl, rfl, rfl, rfl, H⟩
      · skip
        rintro k ik1 _ st f w ⟨z2, v2, rfl, hdropk1, hf13, hf12, hf0, hf4, hf11, H⟩ hm2
        have hltk1 := rangeN_lt hdropk1
        obtain ⟨u1, rfl⟩ : ∃ u1, f = (upd (upd (upd (upd (upd u1 13 (.int .i64 (ik1 : Int))) 12 (.int .i64 ((a0.length : Nat) : Int))) 0 va0) 4 v2) 11 va0) := ⟨f, by rw [upd_self hf13, upd_self hf12, upd_self hf0, upd_self hf4, upd_self hf11]⟩
        have hinck1 := addI_lt hltk1 hbdik1
        refine W.seq ?_
        refine W.region ?_
        refine O.lss rfl rfl rfl rfl ?_
        refine WL.nil ?_
        refine W.seq ?_
        refine W.cond_true (congrArg Value.bool (decide_eq_true hltk1)) ?_
        refine W.skip ?_
        refine W.seq ?_
        obtain ⟨s2, hm3, hm2⟩ := bind_some hm2
        refine W.via (fun f w => ∃ v5 : Value, f 0 = va0 ∧ f 4 = v5 ∧ f 11 = va0 ∧ f 12 = (.int .i64 ((a0.length : Nat) : Int)) ∧ f 13 = (.int .i64 (ik1 : Int)) ∧ Inv w0 w [ownI (α := Int) v5 3 s2]) ?_ ?_
        · skip
          refine W.block ?_
          refine W.seq ?_
          refine W.region ?_
          refine O.move (v := (.int .i64 (ik1 : Int))) rfl rfl rfl ?_
          obtain ⟨x1, hx1, hm3⟩ := bind_some hm3
          obtain ⟨p1, hp1, hrp1⟩ := fix_indexAddr Tryd.underlying22 sz3 ha0 hx1
          refine hrp1 rfl rfl rfl rfl ?_
          refine O.load sc3 rfl rfl rfl ((hp1.mono H.base).flat 0 _ rfl) ?_
          refine O.assign (v := (.int .i64 (ik1 : Int))) rfl rfl rfl ?_
          refine O.assign (v := (.int .i64 x1)) rfl rfl rfl ?_
          refine WL.nil ?_
          refine W.seq ?_
          refine W.region ?_
          refine O.move (v := (.int .i64 x1)) rfl rfl rfl ?_
          refine O.assign (v := (.int .i64 x1)) rfl rfl rfl ?_
          refine WL.nil ?_
          refine W.seq ?_
          refine W.seq ?_
          refine W.region ?_
          refine O.move (v := v2) rfl rfl rfl ?_
          refine O.move (v := (.int .i64 x1)) rfl rfl rfl ?_
          obtain ⟨t2, hy2, hm3⟩ := bind_some hm3
          refine O.call Tryd.call61 rfl rfl rfl (c_slices_Contains_int _ _ (H.own 0 rfl) _ hy2) ?_
          rintro _ w2 hb2 rfl
          have H := H.ext hb2
          refine WL.nil ?_
          obtain ⟨s3, hm4, hm3⟩ := bind_some hm3
          refine W.via (fun f w => f 0 = va0 ∧ f 4 = v2 ∧ f 7 = (.int .i64 s3) ∧ f 11 = va0 ∧ f 12 = (.int .i64 ((a0.length : Nat) : Int)) ∧ f 13 = (.int .i64 (ik1 : Int)) ∧ Inv w0 w [ownI (α := Int) v2 3 z2]) ?_ ?_
          · skip
            rcases ite_some hm4 with ⟨hc2, hm4⟩ | ⟨hc2, hm4⟩
            · refine W.cond_true (congrArg Value.bool hc2) ?_
              refine W.seq ?_
              refine W.region ?_
              refine O.assign (v := (.int .i64 10)) rfl rfl rfl ?_
              refine WL.nil ?_
              obtain ⟨s4, hm5, hm4⟩ := bind_some hm4
              refine W.via (fun f w => f 0 = va0 ∧ f 4 = v2 ∧ f 7 = (.int .i64 s4) ∧ f 11 = va0 ∧ f 12 = (.int .i64 ((a0.length : Nat) : Int)) ∧ f 13 = (.int .i64 (ik1 : Int)) ∧ Inv w0 w [ownI (α := Int) v2 3 z2]) ?_ ?_
              · skip
                refine W.block ?_
                refine W.loopR hm5 (fun s f w => ∃ z5 : Int, z5 = s ∧ f 0 = va0 ∧ f 4 = v2 ∧ f 5 = (.int .i64 (ik1 : Int)) ∧ f 6 = (.int .i64 x1) ∧ f 7 = (.int .i64 z5) ∧ f 11 = va0 ∧ f 12 = (.int .i64 ((a0.length : Nat) : Int)) ∧ f 13 = (.int .i64 (ik1 : Int)) ∧ Inv w0 w [ownI (α := Int) v2 3 z2]) ?_ ?_
                · skip
                  exact ⟨_, rfl, rfl, rfl, rfl, rfl, rfl, rfl, rfl, rfl, H⟩
                · skip
                  rintro _ st f w ⟨z5, rfl, hf0, hf4, hf5, hf6, hf7, hf11, hf12, hf13, H⟩ hm6
                  obtain ⟨u2, rfl⟩ : ∃ u2, f = (upd (upd (upd (upd (upd (upd (upd (upd u2 0 va0) 4 v2) 5 (.int .i64 (ik1 : Int))) 6 (.int .i64 x1)) 7 (.int .i64 z5)) 11 va0) 12 (.int .i64 ((a0.length : Nat) : Int))) 13 (.int .i64 (ik1 : Int))) := ⟨f, by rw [upd_self hf0, upd_self hf4, upd_self hf5, upd_self hf6, upd_self hf7, upd_self hf11, upd_self hf12, upd_self hf13]⟩
                  refine W.seq ?_
                  refine W.seq ?_
                  refine W.region ?_
                  refine O.move (v := v2) rfl rfl rfl ?_
                  refine O.move (v := (.int .i64 z5)) rfl rfl rfl ?_
                  obtain ⟨t3, hy3, hm6⟩ := bind_some hm6
                  refine O.call Tryd.call61 rfl rfl rfl (c_slices_Contains_int _ _ (H.own 0 rfl) _ hy3) ?_
                  rintro _ w3 hb3 rfl
                  have H := H.ext hb3
                  refine O.move (v := (.bool t3)) rfl rfl rfl ?_
                  obtain ⟨b1, hm7, hm6⟩ := bind_some hm6
                  refine WL.cut 5 (fun f w => f 0 = va0 ∧ f 4 = v2 ∧ f 5 = (.int .i64 (ik1 : Int)) ∧ f 6 = (.int .i64 x1) ∧ f 7 = (.int .i64 z5) ∧ f 11 = va0 ∧ f 12 = (.int .i64 ((a0.length : Nat) : Int)) ∧ f 13 = (.int .i64 (ik1 : Int)) ∧ f 30 = .bool b1 ∧ Inv w0 w [ownI (α := Int) v2 3 z2]) ?_ ?_
                  · skip
                    rcases ite_some hm7 with ⟨hc3, hm7⟩ | ⟨hc3, hm7⟩
                    · skip
                      refine WL.reset (i := 25) (v := .bool true) (congrArg Value.bool hc3) ?_
                      refine O.skip rfl rfl ?_
                      refine O.skip rfl rfl ?_
                      refine O.skip rfl rfl ?_
                      refine O.skip rfl rfl ?_
                      refine O.pick_true (v := (.bool true)) rfl rfl rfl rfl ?_
                      refine WL.nil ?_
                      have hq : true = b1 := Option.some.inj (show some true = some b1 from hm7)
                      subst hq
                      exact ⟨rfl, rfl, rfl, rfl, rfl, rfl, rfl, rfl, rfl, H⟩
                    · skip
                      refine WL.reset (i := 25) (v := .bool false) (congrArg Value.bool hc3) ?_
                      refine O.move (v := (.int .i64 z5)) rfl rfl rfl ?_
                      obtain ⟨t4, hy4, hm7⟩ := bind_some hm7
                      refine O.call Tryd.call62 rfl rfl rfl (c_flag_place _ hy4) ?_
                      rintro _ w4 hb4 rfl
                      have H := H.ext hb4
                      refine O.move (v := (.int .i64 (ik1 : Int))) rfl rfl rfl ?_
                      refine O.geq rfl rfl rfl rfl ?_
                      refine O.pick_false (v := (.bool (decide ((ik1 : Int) ≤ t4)))) rfl rfl rfl rfl ?_
                      refine WL.nil ?_
                      have hq : (decide ((ik1 : Int) ≤ t4)) = b1 := Option.some.inj (show some (decide ((ik1 : Int) ≤ t4)) = some b1 from hm7)
                      subst hq
                      exact ⟨rfl, rfl, rfl, rfl, rfl, rfl, rfl, rfl, rfl, H⟩
                  · skip
                    rintro f w ⟨hf0, hf4, hf5, hf6, hf7, hf11, hf12, hf13, hf30, H⟩
                    obtain ⟨u3, rfl⟩ : ∃ u3, f = (upd (upd (upd (upd (upd (upd (upd (upd (upd u3 0 va0) 4 v2) 5 (.int .i64 (ik1 : Int))) 6 (.int .i64 x1)) 7 (.int .i64 z5)) 11 va0) 12 (.int .i64 ((a0.length : Nat) : Int))) 13 (.int .i64 (ik1 : Int))) 30 (.bool b1)) := ⟨f, by rw [upd_self hf0, upd_self hf4, upd_self hf5, upd_self hf6, upd_self hf7, upd_self hf11, upd_self hf12, upd_self hf13, upd_self hf30]⟩
                    refine O.move (v := (.bool b1)) rfl rfl rfl ?_
                    obtain ⟨b2, hm8, hm6⟩ := bind_some hm6
                    refine WL.cut 8 (fun f w => f 0 = va0 ∧ f 4 = v2 ∧ f 5 = (.int .i64 (ik1 : Int)) ∧ f 6 = (.int .i64 x1) ∧ f 7 = (.int .i64 z5) ∧ f 11 = va0 ∧ f 12 = (.int .i64 ((a0.length : Nat) : Int)) ∧ f 13 = (.int .i64 (ik1 : Int)) ∧ f 39 = .bool b2 ∧ Inv w0 w [ownI (α := Int) v2 3 z2]) ?_ ?_
                    · skip
                      rcases ite_some hm8 with ⟨hc4, hm8⟩ | ⟨hc4, hm8⟩
                      · skip
                        refine WL.reset (i := 31) (v := .bool true) (congrArg Value.bool hc4) ?_
                        refine O.skip rfl rfl ?_
                        refine O.skip rfl rfl ?_
                        refine O.skip rfl rfl ?_
                        refine O.skip rfl rfl ?_
                        refine O.skip rfl rfl ?_
                        refine O.skip rfl rfl ?_
                        refine O.skip rfl rfl ?_
                        refine O.pick_true (v := (.bool true)) rfl rfl rfl rfl ?_
                        refine WL.nil ?_
                        have hq : true = b2 := Option.some.inj (show some true = some b2 from hm8)
                        subst hq
                        exact ⟨rfl, rfl, rfl, rfl, rfl, rfl, rfl, rfl, rfl, H⟩
                      · skip
                        refine WL.reset (i := 31) (v := .bool false) (congrArg Value.bool hc4) ?_
                        refine O.move (v := va0) rfl rfl rfl ?_
                        refine O.move (v := (.int .i64 z5)) rfl rfl rfl ?_
                        obtain ⟨t5, hy5, hm8⟩ := bind_some hm8
                        refine O.call Tryd.call62 rfl rfl rfl (c_flag_place _ hy5) ?_
                        rintro _ w5 hb5 rfl
                        have H := H.ext hb5
                        obtain ⟨x2, hx2, hm8⟩ := bind_some hm8
                        obtain ⟨p2, hp2, hrp2⟩ := fix_indexAddr Tryd.underlying22 sz3 ha0 hx2
                        refine hrp2 rfl rfl rfl rfl ?_
                        refine O.load sc3 rfl rfl rfl ((hp2.mono H.base).flat 0 _ rfl) ?_
                        refine O.move (v := (.int .i64 x1)) rfl rfl rfl ?_
                        refine O.neq rfl rfl rfl rfl ?_
                        refine O.pick_false (v := (.bool (x2 != x1))) rfl rfl rfl rfl ?_
                        refine WL.nil ?_
                        have hq : (x2 != x1) = b2 := Option.some.inj (show some (x2 != x1) = some b2 from hm8)
                        subst hq
                        exact ⟨rfl, rfl, rfl, rfl, rfl, rfl, rfl, rfl, rfl, H⟩
                    · skip
                      rintro f w ⟨hf0, hf4, hf5, hf6, hf7, hf11, hf12, hf13, hf39, H⟩
                      obtain ⟨u4, rfl⟩ : ∃ u4, f = (upd (upd (upd (upd (upd (upd (upd (upd (upd u4 0 va0) 4 v2) 5 (.int .i64 (ik1 : Int))) 6 (.int .i64 x1)) 7 (.int .i64 z5)) 11 va0) 12 (.int .i64 ((a0.length : Nat) : Int))) 13 (.int .i64 (ik1 : Int))) 39 (.bool b2)) := ⟨f, by rw [upd_self hf0, upd_self hf4, upd_self hf5, upd_self hf6, upd_self hf7, upd_self hf11, upd_self hf12, upd_self hf13, upd_self hf39]⟩
                      refine WL.nil ?_
                      rcases ite_some hm6 with ⟨hc5, hm6⟩ | ⟨hc5, hm6⟩
                      · refine W.cond_true (congrArg Value.bool hc5) ?_
                        refine W.skip ?_
                        refine W.seq ?_
                        refine W.block ?_
                        refine W.skip ?_
                        refine W.region ?_
                        refine O.move (v := (.int .i64 z5)) rfl rfl rfl ?_
                        obtain ⟨t6, ht6, hm6⟩ := bind_some hm6
                        refine O.add rfl rfl rfl rfl ht6 ?_
                        refine O.assign (v := (.int .i64 t6)) rfl rfl rfl ?_
                        refine WL.nil ?_
                        obtain rfl := Option.some.inj hm6
                        exact ⟨_, rfl, _, rfl, rfl, rfl, rfl, rfl, rfl, rfl, rfl, rfl, H⟩
                      · refine W.cond_false (congrArg Value.bool hc5) ?_
                        refine W.exit ?_
                        obtain rfl := Option.some.inj hm6
                        refine ⟨_, rfl, ?_⟩
                        intro hy
                        have hq : z5 = s4 := hy
                        subst hq
                        refine xT rfl ?_
                        exact ⟨rfl, rfl, rfl, rfl, rfl, rfl, H⟩
              · skip
                rintro f w ⟨hf0, hf4, hf7, hf11, hf12, hf13, H⟩
                obtain ⟨u5, rfl⟩ : ∃ u5, f = (upd (upd (upd (upd (upd (upd u5 0 va0) 4 v2) 7 (.int .i64 s4)) 11 va0) 12 (.int .i64 ((a0.length : Nat) : Int))) 13 (.int .i64 (ik1 : Int))) := ⟨f, by rw [upd_self hf0, upd_self hf4, upd_self hf7, upd_self hf11, upd_self hf12, upd_self hf13]⟩
                have hq : s4 = s3 := Option.some.inj (show some s4 = some s3 from hm4)
                subst hq
                exact ⟨rfl, rfl, rfl, rfl, rfl, rfl, H⟩
            · refine W.cond_false (congrArg Value.bool hc2) ?_
              refine W.skip ?_
              have hq : x1 = s3 := Option.some.inj (show some x1 = some s3 from hm4)
              subst hq
              exact ⟨rfl, rfl, rfl, rfl, rfl, rfl, H⟩
          · skip
            rintro f w ⟨hf0, hf4, hf7, hf11, hf12, hf13, H⟩
            obtain ⟨u6, rfl⟩ : ∃ u6, f = (upd (upd (upd (upd (upd (upd u6 0 va0) 4 v2) 7 (.int .i64 s3)) 11 va0) 12 (.int .i64 ((a0.length : Nat) : Int))) 13 (.int .i64 (ik1 : Int))) := ⟨f, by rw [upd_self hf0, upd_self hf4, upd_self hf7, upd_self hf11, upd_self hf12, upd_self hf13]⟩
            refine W.region ?_
            refine O.move (v := v2) rfl rfl rfl ?_
            refine O.move (v := (.int .i64 s3)) rfl rfl rfl ?_
            refine O.buildSlice (α := Int) [(.int .i64 s3)] [s3] Tryd.underlying22 el3 H rfl rfl rfl rfl rfl rfl rfl ?_
            intro v6 w6 H hb6
            obtain ⟨t7, ht7, hm3⟩ := bind_some hm3
            refine O.append 0 Tryd.underlying22 el3 rfl H rfl (H.own 1 rfl) ht7 rfl rfl rfl rfl ?_
            intro v7 w7 H
            refine O.assign (v := v7) rfl rfl rfl ?_
            refine WL.nil ?_
            have H := H.keep [0] [ownI (α := Int) v7 3 t7] rfl (by decide)
            have hq : t7 = s2 := Option.some.inj (show some t7 = some s2 from hm3)
            subst hq
            exact ⟨v7, rfl, rfl, rfl, rfl, rfl, H⟩
        · skip
          rintro f w ⟨v5, hf0, hf4, hf11, hf12, hf13, H⟩
          obtain ⟨u7, rfl⟩ : ∃ u7, f = (upd (upd (upd (upd (upd u7 0 va0) 4 v5) 11 va0) 12 (.int .i64 ((a0.length : Nat) : Int))) 13 (.int .i64 (ik1 : Int))) := ⟨f, by rw [upd_self hf0, upd_self hf4, upd_self hf11, upd_self hf12, upd_self hf13]⟩
          refine W.region ?_
          refine O.add rfl rfl rfl rfl hinck1 ?_
          refine O.move (v := .int .i64 ((ik1 : Int) + 1)) rfl rfl rfl ?_
          refine WL.nil ?_
          obtain rfl := Option.some.inj hm2
          exact ⟨_, rfl, _, v5, rfl, rangeN_next hdropk1, rfl, rfl, rfl, rfl, rfl, H⟩
      · skip
        rintro ik1 _ f w ⟨z2, v2, rfl, hdropk1, hf13, hf12, hf0, hf4, hf11, H⟩ hfin
        have hltk1 := rangeN_end hdropk1
        obtain ⟨u8, rfl⟩ : ∃ u8, f = (upd (upd (upd (upd (upd u8 13 (.int .i64 (ik1 : Int))) 12 (.int .i64 ((a0.length : Nat) : Int))) 0 va0) 4 v2) 11 va0) := ⟨f, by rw [upd_self hf13, upd_self hf12, upd_self hf0, upd_self hf4, upd_self hf11]⟩
        refine W.seq ?_
        refine W.region ?_
        refine O.lss rfl rfl rfl rfl ?_
        refine WL.nil ?_
        refine W.seq ?_
        refine W.cond_false (congrArg Value.bool (decide_eq_false hltk1)) ?_
        refine W.exit ?_
        have hq : z2 = s1 := hfin
        subst hq
        refine xT rfl ?_
        exact ⟨v2, rfl, H⟩
    · skip
      rintro f w ⟨v4, hf4, H⟩
      obtain ⟨u9, rfl⟩ : ∃ u9, f = (upd u9 4 v4) := ⟨f, by rw [upd_self hf4]⟩
      refine W.seq ?_
      refine W.region ?_
      refine O.move (v := v4) rfl rfl rfl ?_
      refine O.assign (v := v4) rfl rfl rfl ?_
      refine O.assign (v := (.int .i64 0)) rfl rfl rfl ?_
      refine WL.nil ?_
      refine W.ret ?_
      have hq : (s1, 0) = (r0, r1) := Option.some.inj (show some (s1, 0) = some (r0, r1) from hm)
      obtain ⟨he0, hq0⟩ := Prod.mk.inj hq; clear hq; subst he0
      subst hq0
      exact ends2 Tryd.results24 rfl rfl ⟨_, rfl, H.base, ⟨_, rfl, H.ownR 0 rfl⟩⟩

set_option maxRecDepth 20000 in
theorem c_flag_ValidHoist {w0 : World} (va0 : Value) (a0 : (List Int)) (ha0 : SliceR w0 va0 a0) {r0 : Bool} (hm : flag_ValidHoist a0 = some r0) :
    Calls Tryd.prog 49 #[va0] w0 (Ret w0 fun _ v => v = (.bool r0)) := by
  unfold flag_ValidHoist at hm
  refine calls_of_W Tryd.func49 rfl Tryd.ntmps49 (Nat.le_of_ble_eq_true rfl) ?_
  have H := Inv.start (w := w0)
  refine W.seq ?_
  refine W.region ?_
  refine O.assign (v := (.bool false)) rfl rfl rfl ?_
  refine WL.nil ?_
  refine W.seq ?_
  refine W.seq ?_
  refine W.region ?_
  refine O.move (v := va0) rfl rfl rfl ?_
  obtain ⟨t1, hy1, hm⟩ := bind_some hm
  refine O.call Tryd.call78 rfl rfl rfl (c_flag_listed _ _ (H.arg ha0) _ hy1) ?_
  rintro _ w1 hb1 rfl
  have H := H.ext hb1
  refine O.not rfl rfl rfl ?_
  refine WL.nil ?_
  rcases ite_some hm with ⟨hc1, hm⟩ | ⟨hc1, hm⟩
  · refine W.cond_true (congrArg Value.bool hc1) ?_
    refine W.seq ?_
    refine W.region ?_
    refine O.assign (v := (.bool false)) rfl rfl rfl ?_
    refine WL.nil ?_
    refine W.ret ?_
    have hq : false = r0 := Option.some.inj (show some false = some r0 from hm)
    subst hq
    exact ends1 Tryd.results49 rfl ⟨_, rfl, H.base, rfl⟩
  · refine W.cond_false (congrArg Value.bool hc1) ?_
    refine W.skip ?_
    refine W.seq ?_
    refine W.seq ?_
    refine W.region ?_
    refine O.move (v := va0) rfl rfl rfl ?_
    refine O.lenS Tryd.underlying22 (H.arg ha0) rfl rfl rfl ?_
    refine O.move (v := (.int .i64 0)) rfl rfl rfl ?_
    refine WL.nil ?_
    obtain ⟨o1, hm1, hm⟩ := bind_some hm
    refine W.via (fun f w => o1 = .next () ∧ Inv w0 w []) ?_ ?_
    · skip
      refine W.block ?_
      have hbdik1 := (H.arg ha0).len_le
      refine W.rangeN (i := 0) hm1 (fun rem ik1 s f w => () = s ∧ (ik1 : Int) + rem = max 0 ((a0.length : Nat) : Int) ∧ f 10 = .int .i64 (ik1 : Int) ∧ f 9 = (.int .i64 ((a0.length : Nat) : Int)) ∧ f 0 = va0 ∧ f 8 = va0 ∧ Inv w0 w []) ?_ ?_ ?_
      · skip
        exact ⟨rfl, rangeN_start, rfl, rfl, rfl, rfl, H⟩
      · skip
        rintro k ik1 _ st f w ⟨rfl, hdropk1, hf10, hf9, hf0, hf8, H⟩ hm2
        have hltk1 := rangeN_lt hdropk1
        obtain ⟨u1, rfl⟩ : ∃ u1, f = (upd (upd (upd (upd u1 10 (.int .i64 (ik1 : Int))) 9 (.int .i64 ((a0.length : Nat) : Int))) 0 va0) 8 va0) := ⟨f, by rw [upd_self hf10, upd_self hf9, upd_self hf0, upd_self hf8]⟩
        have hinck1 := addI_lt hltk1 hbdik1
        refine W.seq ?_
        refine W.region ?_
        refine O.lss rfl rfl rfl rfl ?_
        refine WL.nil ?_
        refine W.seq ?_
        refine W.cond_true (congrArg Value.bool (decide_eq_true hltk1)) ?_
        refine W.skip ?_
        refine W.seq ?_
        refine W.block ?_
        refine W.seq ?_
        refine W.region ?_
        refine O.move (v := (.int .i64 (ik1 : Int))) rfl rfl rfl ?_
        obtain ⟨x1, hx1, hm2⟩ := bind_some hm2
        obtain ⟨p1, hp1, hrp1⟩ := fix_indexAddr Tryd.underlying22 sz3 ha0 hx1
        refine hrp1 rfl rfl rfl rfl ?_
        refine O.load sc3 rfl rfl rfl ((hp1.mono H.base).flat 0 _ rfl) ?_
        refine O.assign (v := (.int .i64 (ik1 : Int))) rfl rfl rfl ?_
        refine O.assign (v := (.int .i64 x1)) rfl rfl rfl ?_
        refine WL.nil ?_
        refine W.seq ?_
        refine W.region ?_
        refine O.move (v := va0) rfl rfl rfl ?_
        refine O.move (v := (.int .i64 (ik1 : Int))) rfl rfl rfl ?_
        obtain ⟨t2, ht2, hm2⟩ := bind_some hm2
        obtain ⟨v1, hs1, hrv1⟩ := fix_sliceH Tryd.underlying22 sz3 ha0 ht2
        refine hrv1 rfl rfl rfl rfl ?_
        refine O.move (v := (.int .i64 x1)) rfl rfl rfl ?_
        obtain ⟨t3, hy2, hm2⟩ := bind_some hm2
        refine O.call Tryd.call61 rfl rfl rfl (c_slices_Contains_int _ _ (H.arg hs1) _ hy2) ?_
        rintro _ w2 hb2 rfl
        have H := H.ext hb2
        refine O.move (v := (.bool t3)) rfl rfl rfl ?_
        obtain ⟨b1, hm3, hm2⟩ := bind_some hm2
        refine WL.cut 9 (fun f w => f 0 = va0 ∧ f 8 = va0 ∧ f 9 = (.int .i64 ((a0.length : Nat) : Int)) ∧ f 10 = (.int .i64 (ik1 : Int)) ∧ f 29 = .bool b1 ∧ Inv w0 w []) ?_ ?_
        · skip
          rcases ite_some hm3 with ⟨hc2, hm3⟩ | ⟨hc2, hm3⟩
          · skip
            refine WL.reset (i := 20) (v := .bool true) (congrArg Value.bool hc2) ?_
            refine O.skip rfl rfl ?_
            refine O.skip rfl rfl ?_
            refine O.skip rfl rfl ?_
            refine O.skip rfl rfl ?_
            refine O.skip rfl rfl ?_
            refine O.skip rfl rfl ?_
            refine O.skip rfl rfl ?_
            refine O.skip rfl rfl ?_
            refine O.pick_true (v := (.bool true)) rfl rfl rfl rfl ?_
            refine WL.nil ?_
            have hq : true = b1 := Option.some.inj (show some true = some b1 from hm3)
            subst hq
            exact ⟨rfl, rfl, rfl, rfl, rfl, H⟩
          · skip
            refine WL.reset (i := 20) (v := .bool false) (congrArg Value.bool hc2) ?_
            refine O.move (v := (.int .i64 x1)) rfl rfl rfl ?_
            refine O.geq rfl rfl rfl rfl ?_
            refine O.move (v := (.bool (decide (10 ≤ x1)))) rfl rfl rfl ?_
            obtain ⟨b2, hm4, hm3⟩ := bind_some hm3
            refine WL.cut 5 (fun f w => f 0 = va0 ∧ f 8 = va0 ∧ f 9 = (.int .i64 ((a0.length : Nat) : Int)) ∧ f 10 = (.int .i64 (ik1 : Int)) ∧ f 20 = (.bool false) ∧ f 21 = (.int .i64 x1) ∧ f 22 = (.bool (decide (10 ≤ x1))) ∧ f 23 = (.bool (decide (10 ≤ x1))) ∧ f 28 = .bool b2 ∧ Inv w0 w []) ?_ ?_
            · skip
              rcases ite_some hm4 with ⟨hc3, hm4⟩ | ⟨hc3, hm4⟩
              · skip
                refine WL.reset (i := 23) (v := .bool true) (congrArg Value.bool hc3) ?_
                refine O.move (v := (.int .i64 x1)) rfl rfl rfl ?_
                obtain ⟨t4, hy3, hm4⟩ := bind_some hm4
                refine O.call Tryd.call62 rfl rfl rfl (c_flag_place _ hy3) ?_
                rintro _ w3 hb3 rfl
                have H := H.ext hb3
                refine O.move (v := (.int .i64 (ik1 : Int))) rfl rfl rfl ?_
                refine O.geq rfl rfl rfl rfl ?_
                refine O.pick_true (v := (.bool (decide ((ik1 : Int) ≤ t4)))) rfl rfl rfl rfl ?_
                refine WL.nil ?_
                have hq : (decide ((ik1 : Int) ≤ t4)) = b2 := Option.some.inj (show some (decide ((ik1 : Int) ≤ t4)) = some b2 from hm4)
                subst hq
                exact ⟨rfl, rfl, rfl, rfl, rfl, rfl, rfl, (congrArg Value.bool hc3).symm, rfl, H⟩
              · skip
                refine WL.reset (i := 23) (v := .bool false) (congrArg Value.bool hc3) ?_
                refine O.skip rfl rfl ?_
                refine O.skip rfl rfl ?_
                refine O.skip rfl rfl ?_
                refine O.skip rfl rfl ?_
                refine O.pick_false (v := (.bool false)) rfl rfl rfl rfl ?_
                refine WL.nil ?_
                have hq : false = b2 := Option.some.inj (show some false = some b2 from hm4)
                subst hq
                exact ⟨rfl, rfl, rfl, rfl, rfl, rfl, rfl, (congrArg Value.bool hc3).symm, rfl, H⟩
            · skip
              rintro f w ⟨hf0, hf8, hf9, hf10, hf20, hf21, hf22, hf23, hf28, H⟩
              obtain ⟨u2, rfl⟩ : ∃ u2, f = (upd (upd (upd (upd (upd (upd (upd (upd (upd u2 0 va0) 8 va0) 9 (.int .i64 ((a0.length : Nat) : Int))) 10 (.int .i64 (ik1 : Int))) 20 (.bool false)) 21 (.int .i64 x1)) 22 (.bool (decide (10 ≤ x1)))) 23 (.bool (decide (10 ≤ x1)))) 28 (.bool b2)) := ⟨f, by rw [upd_self hf0, upd_self hf8, upd_self hf9, upd_self hf10, upd_self hf20, upd_self hf21, upd_self hf22, upd_self hf23, upd_self hf28]⟩
              refine O.pick_false (v := (.bool b2)) rfl rfl rfl rfl ?_
              refine WL.nil ?_
              have hq : b2 = b1 := Option.some.inj (show some b2 = some b1 from hm3)
              subst hq
              exact ⟨rfl, rfl, rfl, rfl, rfl, H⟩
        · skip
          rintro f w ⟨hf0, hf8, hf9, hf10, hf29, H⟩
          obtain ⟨u3, rfl⟩ : ∃ u3, f = (upd (upd (upd (upd (upd u3 0 va0) 8 va0) 9 (.int .i64 ((a0.length : Nat) : Int))) 10 (.int .i64 (ik1 : Int))) 29 (.bool b1)) := ⟨f, by rw [upd_self hf0, upd_self hf8, upd_self hf9, upd_self hf10, upd_self hf29]⟩
          refine WL.nil ?_
          rcases ite_some hm2 with ⟨hc4, hm2⟩ | ⟨hc4, hm2⟩
          · refine W.cond_true (congrArg Value.bool hc4) ?_
            refine W.seq ?_
            refine W.region ?_
            refine O.assign (v := (.bool false)) rfl rfl rfl ?_
            refine WL.nil ?_
            refine W.ret ?_
            obtain rfl := Option.some.inj hm2
            refine ⟨_, rfl, ?_⟩
            rintro rfl
            have hq : false = r0 := Option.some.inj (show some false = some r0 from hm)
            subst hq
            exact ends1 Tryd.results49 rfl ⟨_, rfl, H.base, rfl⟩
          · refine W.cond_false (congrArg Value.bool hc4) ?_
            refine W.skip ?_
            refine W.region ?_
            refine O.add rfl rfl rfl rfl hinck1 ?_
            refine O.move (v := .int .i64 ((ik1 : Int) + 1)) rfl rfl rfl ?_
            refine WL.nil ?_
            obtain rfl := Option.some.inj hm2
            exact ⟨_, rfl, rfl, rangeN_next hdropk1, rfl, rfl, rfl, rfl, H⟩
      · skip
        rintro ik1 _ f w ⟨rfl, hdropk1, hf10, hf9, hf0, hf8, H⟩ hfin
        have hltk1 := rangeN_end hdropk1
        obtain ⟨u4, rfl⟩ : ∃ u4, f = (upd (upd (upd (upd u4 10 (.int .i64 (ik1 : Int))) 9 (.int .i64 ((a0.length : Nat) : Int))) 0 va0) 8 va0) := ⟨f, by rw [upd_self hf10, upd_self hf9, upd_self hf0, upd_self hf8]⟩
        refine W.seq ?_
        refine W.region ?_
        refine O.lss rfl rfl rfl rfl ?_
        refine WL.nil ?_
        refine W.seq ?_
        refine W.cond_false (congrArg Value.bool (decide_eq_false hltk1)) ?_
        refine W.exit ?_
        obtain rfl : Ctl.next () = o1 := hfin
        refine xT rfl ?_
        exact ⟨rfl, H⟩
    · skip
      rintro f w ⟨rfl, H⟩
      refine W.seq ?_
      refine W.region ?_
      refine O.assign (v := (.bool true)) rfl rfl rfl ?_
      refine WL.nil ?_
      refine W.ret ?_
      have hq : true = r0 := Option.some.inj (show some true = some r0 from hm)
      subst hq
      exact ends1 Tryd.results49 rfl ⟨_, rfl, H.base, rfl⟩

set_option maxRecDepth 20000 in
theorem c_flag_means {w0 : World} (va0 : Value) (a0 : (List Int)) (ha0 : SliceR w0 va0 a0) {r0 : (List Int)} (hm : flag_means a0 = some r0) :
    Calls Tryd.prog 50 #[va0] w0 (Ret w0 fun w v => OwnR w0 w v 3 r0) := by
  unfold flag_means at hm
  refine calls_of_W Tryd.func50 rfl Tryd.ntmps50 (Nat.le_of_ble_eq_true rfl) ?_
  have H := Inv.start (w := w0)
  refine W.seq ?_
  refine W.region ?_
  have H := H.addNil (α := Int) (E := 3)
  refine O.assign (v := (.slice none 0 0)) rfl rfl rfl ?_
  refine WL.nil ?_
  refine W.seq ?_
  refine W.region ?_
  have H := H.addNil (α := Int) (E := 3)
  refine O.assign (v := (.slice none 0 0)) rfl rfl rfl ?_
  refine WL.nil ?_
  refine W.seq ?_
  refine W.seq ?_
  refine W.region ?_
  refine O.move (v := va0) rfl rfl rfl ?_
  refine O.lenS Tryd.underlying22 (H.arg ha0) rfl rfl rfl ?_
  refine O.move (v := (.int .i64 0)) rfl rfl rfl ?_
  refine WL.nil ?_
  obtain ⟨s1, hm1, hm⟩ := bind_some hm
  refine W.via (fun f w => ∃ v4 : Value, f 3 = v4 ∧ Inv w0 w [ownI (α := Int) v4 3 s1]) ?_ ?_
  · skip
    refine W.block ?_
    have H := H.keep [1] [ownI (α := Int) (.slice none 0 0) 3 ([] : List Int)] rfl (by decide)
    refine W.rangeL (i := 0) hm1 (fun rem ik1 s f w => ∃ z2 : (List Int), ∃ v2 : Value, z2 = s ∧ a0.drop ik1 = rem ∧ f 8 = .int .i64 (ik1 : Int) ∧ f 7 = (.int .i64 ((a0.length : Nat) : Int)) ∧ f 3 = v2 ∧ f 6 = va0 ∧ Inv w0 w [ownI (α := Int) v2 3 z2]) ?_ ?_ ?_
    · skip
      exact ⟨_, (.slice none 0 0), rfl, List.drop_zero, rfl, rfl, rfl, rfl, H⟩
    · skip
      rintro yk1 xs ik1 _ st f w ⟨z2, v2, rfl, hdropk1, hf8, hf7, hf3, hf6, H⟩ hm2
      have hltk1 := drop_lt hdropk1; have hixk1 := drop_idx hdropk1
      obtain ⟨u1, rfl⟩ : ∃ u1, f = (upd (upd (upd (upd u1 8 (.int .i64 (ik1 : Int))) 7 (.int .i64 ((a0.length : Nat) : Int))) 3 v2) 6 va0) := ⟨f, by rw [upd_self hf8, upd_self hf7, upd_self hf3, upd_self hf6]⟩
      have hinck1 := addI_lt hltk1 (H.arg ha0).len_le
      refine W.seq ?_
      refine W.region ?_
      refine O.lss rfl rfl rfl rfl ?_
      refine WL.nil ?_
      refine W.seq ?_
      refine W.cond_true (congrArg Value.bool (decide_eq_true hltk1)) ?_
      refine W.skip ?_
      refine W.seq ?_
      obtain ⟨s2, hm3, hm2⟩ := bind_some hm2
      refine W.via (fun f w => ∃ v5 : Value, f 3 = v5 ∧ f 6 = va0 ∧ f 7 = (.int .i64 ((a0.length : Nat) : Int)) ∧ f 8 = (.int .i64 (ik1 : Int)) ∧ Inv w0 w [ownI (α := Int) v5 3 s2]) ?_ ?_
      · skip
        refine W.block ?_
        refine W.seq ?_
        refine W.region ?_
        obtain ⟨p1, hp1, hrp1⟩ := fix_indexAddr Tryd.underlying22 sz3 ha0 hixk1
        refine hrp1 rfl rfl rfl rfl ?_
        refine O.load sc3 rfl rfl rfl ((hp1.mono H.base).flat 0 _ rfl) ?_
        refine O.assign (v := (.int .i64 yk1)) rfl rfl rfl ?_
        refine WL.nil ?_
        refine W.seq ?_
        refine W.seq ?_
        refine W.region ?_
        refine O.move (v := (.int .i64 yk1)) rfl rfl rfl ?_
        refine O.geq rfl rfl rfl rfl ?_
        refine WL.nil ?_
        obtain ⟨s3, hm4, hm3⟩ := bind_some hm3
        refine W.via (fun f w => f 3 = v2 ∧ f 5 = (.int .i64 s3) ∧ f 6 = va0 ∧ f 7 = (.int .i64 ((a0.length : Nat) : Int)) ∧ f 8 = (.int .i64 (ik1 : Int)) ∧ Inv w0 w [ownI (α := Int) v2 3 z2]) ?_ ?_
        · skip
          rcases ite_some hm4 with ⟨hc1, hm4⟩ | ⟨hc1, hm4⟩
          · refine W.cond_true (congrArg Value.bool hc1) ?_
            refine W.region ?_
            refine O.move (v := v2) rfl rfl rfl ?_
            refine O.move (v := (.int .i64 yk1)) rfl rfl rfl ?_
            obtain ⟨t1, hy1, hm4⟩ := bind_some hm4
            refine O.call Tryd.call62 rfl rfl rfl (c_flag_place _ hy1) ?_
            rintro _ w1 hb1 rfl
            have H := H.ext hb1
            obtain ⟨x1, hx1, hm4⟩ := bind_some hm4
            refine O.indexAddr Tryd.underlying22 sz3 (H.own 0 rfl) hx1 rfl rfl rfl rfl ?_
            intro p2 hp2
            refine O.load sc3 rfl rfl rfl (hp2.flat 0 _ rfl) ?_
            refine O.assign (v := (.int .i64 x1)) rfl rfl rfl ?_
            refine WL.nil ?_
            have hq : x1 = s3 := Option.some.inj (show some x1 = some s3 from hm4)
            subst hq
            exact ⟨rfl, rfl, rfl, rfl, rfl, H⟩
          · refine W.cond_false (congrArg Value.bool hc1) ?_
            refine W.skip ?_
            have hq : yk1 = s3 := Option.some.inj (show some yk1 = some s3 from hm4)
            subst hq
            exact ⟨rfl, rfl, rfl, rfl, rfl, H⟩
        · skip
          rintro f w ⟨hf3, hf5, hf6, hf7, hf8, H⟩
          obtain ⟨u2, rfl⟩ : ∃ u2, f = (upd (upd (upd (upd (upd u2 3 v2) 5 (.int .i64 s3)) 6 va0) 7 (.int .i64 ((a0.length : Nat) : Int))) 8 (.int .i64 (ik1 : Int))) := ⟨f, by rw [upd_self hf3, upd_self hf5, upd_self hf6, upd_self hf7, upd_self hf8]⟩
          refine W.region ?_
          refine O.move (v := v2) rfl rfl rfl ?_
          refine O.move (v := (.int .i64 s3)) rfl rfl rfl ?_
          refine O.buildSlice (α := Int) [(.int .i64 s3)] [s3] Tryd.underlying22 el3 H rfl rfl rfl rfl rfl rfl rfl ?_
          intro v6 w2 H hb2
          obtain ⟨t2, ht2, hm3⟩ := bind_some hm3
          refine O.append 0 Tryd.underlying22 el3 rfl H rfl (H.own 1 rfl) ht2 rfl rfl rfl rfl ?_
          intro v7 w3 H
          refine O.assign (v := v7) rfl rfl rfl ?_
          refine WL.nil ?_
          have H := H.keep [0] [ownI (α := Int) v7 3 t2] rfl (by decide)
          have hq : t2 = s2 := Option.some.inj (show some t2 = some s2 from hm3)
          subst hq
          exact ⟨v7, rfl, rfl, rfl, rfl, H⟩
      · skip
        rintro f w ⟨v5, hf3, hf6, hf7, hf8, H⟩
        obtain ⟨u3, rfl⟩ : ∃ u3, f = (upd (upd (upd (upd u3 3 v5) 6 va0) 7 (.int .i64 ((a0.length : Nat) : Int))) 8 (.int .i64 (ik1 : Int))) := ⟨f, by rw [upd_self hf3, upd_self hf6, upd_self hf7, upd_self hf8]⟩
        refine W.region ?_
        refine O.add rfl rfl rfl rfl hinck1 ?_
        refine O.move (v := .int .i64 ((ik1 : Int) + 1)) rfl rfl rfl ?_
        refine WL.nil ?_
        obtain rfl := Option.some.inj hm2
        exact ⟨_, rfl, _, v5, rfl, drop_next hdropk1, rfl, rfl, rfl, rfl, H⟩
    · skip
      rintro ik1 _ f w ⟨z2, v2, rfl, hdropk1, hf8, hf7, hf3, hf6, H⟩ hfin
      have hltk1 := drop_end hdropk1
      obtain ⟨u4, rfl⟩ : ∃ u4, f = (upd (upd (upd (upd u4 8 (.int .i64 (ik1 : Int))) 7 (.int .i64 ((a0.length : Nat) : Int))) 3 v2) 6 va0) := ⟨f, by rw [upd_self hf8, upd_self hf7, upd_self hf3, upd_self hf6]⟩
      refine W.seq ?_
      refine W.region ?_
      refine O.lss rfl rfl rfl rfl ?_
      refine WL.nil ?_
      refine W.seq ?_
      refine W.cond_false (congrArg Value.bool (decide_eq_false hltk1)) ?_
      refine W.exit ?_
      have hq : z2 = s1 := hfin
      subst hq
      refine xT rfl ?_
      exact ⟨v2, rfl, H⟩
  · skip
    rintro f w ⟨v4, hf3, H⟩
    obtain ⟨u5, rfl⟩ : ∃ u5, f = (upd u5 3 v4) := ⟨f, by rw [upd_self hf3]⟩
    refine W.seq ?_
    refine W.region ?_
    refine O.move (v := v4) rfl rfl rfl ?_
    refine O.assign (v := v4) rfl rfl rfl ?_
    refine WL.nil ?_
    refine W.ret ?_
    have hq : s1 = r0 := Option.some.inj (show some s1 = some r0 from hm)
    subst hq
    exact ends1 Tryd.results50 rfl ⟨_, rfl, H.base, H.ownR 0 rfl⟩

theorem c_flag_Means {w0 : World} (va0 : Value) (a0 : (List Int)) (ha0 : SliceR w0 va0 a0) {r0 : (List Int)} {r1 : Int} (hm : flag_Means a0 = some (r0, r1)) :
    Calls Tryd.prog 37 #[va0] w0 (Ret w0 fun w v => ∃ vr0 : Value, v = .tuple #[vr0, (.int .i64 r1)] ∧ OwnR w0 w vr0 3 r0) := by
  unfold flag_Means at hm
  refine calls_of_W Tryd.func37 rfl Tryd.ntmps37 (Nat.le_of_ble_eq_true rfl) ?_
  have H := Inv.start (w := w0)
  refine W.seq ?_
  refine W.region ?_
  have H := H.addNil (α := Int) (E := 3)
  refine O.assign (v := (.slice none 0 0)) rfl rfl rfl ?_
  refine O.assign (v := (.int .i64 0)) rfl rfl rfl ?_
  refine WL.nil ?_
  refine W.seq ?_
  refine W.seq ?_
  refine W.region ?_
  refine O.move (v := va0) rfl rfl rfl ?_
  obtain ⟨t1, hy1, hm⟩ := bind_some hm
  refine O.call Tryd.call49 rfl rfl rfl (c_flag_ValidHoist _ _ (H.arg ha0) hy1) ?_
  rintro _ w1 hb1 rfl
  have H := H.ext hb1
  refine O.not rfl rfl rfl ?_
  refine WL.nil ?_
  rcases ite_some hm with ⟨hc1, hm⟩ | ⟨hc1, hm⟩
  · refine W.cond_true (congrArg Value.bool hc1) ?_
    refine W.seq ?_
    refine W.region ?_
    have H := H.addNil (α := Int) (E := 3)
    refine O.assign (v := (.slice none 0 0)) rfl rfl rfl ?_
    refine O.assign (v := (.int .i64 1)) rfl rfl rfl ?_
    refine WL.nil ?_
    refine W.ret ?_
    have hq : (([] : List Int), 1) = (r0, r1) := Option.some.inj (show some (([] : List Int), 1) = some (r0, r1) from hm)
    obtain ⟨he0, hq0⟩ := Prod.mk.inj hq; clear hq; subst he0
    subst hq0
    exact ends2 Tryd.results37 rfl rfl ⟨_, rfl, H.base, ⟨_, rfl, H.ownR 1 rfl⟩⟩
  · refine W.cond_false (congrArg Value.bool hc1) ?_
    refine W.skip ?_
    refine W.seq ?_
    refine W.region ?_
    refine O.move (v := va0) rfl rfl rfl ?_
    obtain ⟨t2, hy2, hm⟩ := bind_some hm
    refine O.call Tryd.call50 rfl rfl rfl (c_flag_means _ _ (H.arg ha0) hy2) ?_
    rintro v1 w2 hb2 ho1
    have H := H.addOwn hb2 ho1
    refine O.assign (v := v1) rfl rfl rfl ?_
    refine O.assign (v := (.int .i64 0)) rfl rfl rfl ?_
    refine WL.nil ?_
    refine W.ret ?_
    have hq : (t2, 0) = (r0, r1) := Option.some.inj (show some (t2, 0) = some (r0, r1) from hm)
    obtain ⟨he0, hq0⟩ := Prod.mk.inj hq; clear hq; subst he0
    subst hq0
    exact ends2 Tryd.results37 rfl rfl ⟨_, rfl, H.base, ⟨_, rfl, H.ownR 1 rfl⟩⟩

set_option maxRecDepth 20000 in
theorem c_noongunref07_SameInts {w0 : World} (va0 : Value) (a0 : (List Int)) (ha0 : SliceR w0 va0 a0) (va1 : Value) (a1 : (List Int)) (ha1 : SliceR w0 va1 a1) {r0 : Bool} (hm : noongunref07_SameInts a0 a1 = some r0) :
    Calls Tryd.prog 16 #[va0, va1] w0 (Ret w0 fun _ v => v = (.bool r0)) := by
  unfold noongunref07_SameInts at hm
  refine calls_of_W Tryd.func16 rfl Tryd.ntmps16 (Nat.le_of_ble_eq_true rfl) ?_
  have H := Inv.start (w := w0)
  refine W.seq ?_
  refine W.region ?_
  refine O.assign (v := (.bool false)) rfl rfl rfl ?_
  refine WL.nil ?_
  refine W.seq ?_
  refine W.seq ?_
  refine W.region ?_
  refine O.move (v := va0) rfl rfl rfl ?_
  refine O.lenS Tryd.underlying22 (H.arg ha0) rfl rfl rfl ?_
  refine O.move (v := va1) rfl rfl rfl ?_
  refine O.lenS Tryd.underlying22 (H.arg ha1) rfl rfl rfl ?_
  refine O.neq rfl rfl rfl rfl ?_
  refine WL.nil ?_
  rcases ite_some hm with ⟨hc1, hm⟩ | ⟨hc1, hm⟩
  · refine W.cond_true (congrArg Value.bool hc1) ?_
    refine W.seq ?_
    refine W.region ?_
    refine O.assign (v := (.bool false)) rfl rfl rfl ?_
    refine WL.nil ?_
    refine W.ret ?_
    have hq : false = r0 := Option.some.inj (show some false = some r0 from hm)
    subst hq
    exact ends1 Tryd.results16 rfl ⟨_, rfl, H.base, rfl⟩
  · refine W.cond_false (congrArg Value.bool hc1) ?_
    refine W.skip ?_
    refine W.seq ?_
    refine W.seq ?_
    refine W.region ?_
    refine O.move (v := va0) rfl rfl rfl ?_
    refine O.lenS Tryd.underlying22 (H.arg ha0) rfl rfl rfl ?_
    refine O.move (v := (.int .i64 0)) rfl rfl rfl ?_
    refine WL.nil ?_
    obtain ⟨o1, hm1, hm⟩ := bind_some hm
    refine W.via (fun f w => o1 = .next () ∧ Inv w0 w []) ?_ ?_
    · skip
      refine W.block ?_
      have hbdik1 := (H.arg ha0).len_le
      refine W.rangeN (i := 0) hm1 (fun rem ik1 s f w => () = s ∧ (ik1 : Int) + rem = max 0 ((a0.length : Nat) : Int) ∧ f 13 = .int .i64 (ik1 : Int) ∧ f 12 = (.int .i64 ((a0.length : Nat) : Int)) ∧ f 0 = va0 ∧ f 1 = va1 ∧ Inv w0 w []) ?_ ?_ ?_
      · skip
        exact ⟨rfl, rangeN_start, rfl, rfl, rfl, rfl, H⟩
      · skip
        rintro k ik1 _ st f w ⟨rfl, hdropk1, hf13, hf12, hf0, hf1, H⟩ hm2
        have hltk1 := rangeN_lt hdropk1
        obtain ⟨u1, rfl⟩ : ∃ u1, f = (upd (upd (upd (upd u1 13 (.int .i64 (ik1 : Int))) 12 (.int .i64 ((a0.length : Nat) : Int))) 0 va0) 1 va1) := ⟨f, by rw [upd_self hf13, upd_self hf12, upd_self hf0, upd_self hf1]⟩
        have hinck1 := addI_lt hltk1 hbdik1
        refine W.seq ?_
        refine W.region ?_
        refine O.lss rfl rfl rfl rfl ?_
        refine WL.nil ?_
        refine W.seq ?_
        refine W.cond_true (congrArg Value.bool (decide_eq_true hltk1)) ?_
        refine W.skip ?_
        refine W.seq ?_
        refine W.block ?_
        refine W.seq ?_
        refine W.region ?_
        refine O.move (v := (.int .i64 (ik1 : Int))) rfl rfl rfl ?_
        refine O.assign (v := (.int .i64 (ik1 : Int))) rfl rfl rfl ?_
        refine WL.nil ?_
        refine W.seq ?_
        obtain ⟨x1, hx1, hm2⟩ := bind_some hm2
        obtain ⟨p1, hp1, hrp1⟩ := fix_indexAddr Tryd.underlying22 sz3 (H.arg ha0) hx1
        obtain ⟨x2, hx2, hm2⟩ := bind_some hm2
        obtain ⟨p2, hp2, hrp2⟩ := fix_indexAddr Tryd.underlying22 sz3 (H.arg ha1) hx2
        refine W.drawN 8 (fun f => f 0 = va0 ∧ f 1 = va1 ∧ f 12 = (.int .i64 ((a0.length : Nat) : Int)) ∧ f 13 = (.int .i64 (ik1 : Int)) ∧ f 19 = (.int .i64 x1) ∧ f 23 = (.int .i64 x2)) fol (by kernel_rfl) ?_ ?_
        · skip
          refine PL.of (fun _ w8 _ hx => O.move (v := va0) rfl rfl rfl (WL.nil ⟨rfl, hx⟩)) ?_
          refine PL.of (fun _ w8 _ hx => O.move (v := (.int .i64 (ik1 : Int))) rfl rfl rfl (WL.nil ⟨rfl, hx⟩)) ?_
          refine PL.of (fun _ w8 _ hx => hrp1 rfl rfl rfl rfl (WL.nil ⟨rfl, hx⟩)) ?_
          refine PL.of (fun _ w8 _ hx => by have hp1 := hp1.mono hx; exact O.load sc3 rfl rfl rfl (hp1.flat 0 _ rfl) (WL.nil ⟨rfl, hx⟩)) ?_
          refine PL.of (fun _ w8 _ hx => O.move (v := va1) rfl rfl rfl (WL.nil ⟨rfl, hx⟩)) ?_
          refine PL.of (fun _ w8 _ hx => O.move (v := (.int .i64 (ik1 : Int))) rfl rfl rfl (WL.nil ⟨rfl, hx⟩)) ?_
          refine PL.of (fun _ w8 _ hx => hrp2 rfl rfl rfl rfl (WL.nil ⟨rfl, hx⟩)) ?_
          refine PL.of (fun _ w8 _ hx => by have hp2 := hp2.mono hx; exact O.load sc3 rfl rfl rfl (hp2.flat 0 _ rfl) (WL.nil ⟨rfl, hx⟩)) ?_
          refine PL.nil ?_
          exact ⟨rfl, rfl, rfl, rfl, rfl, rfl⟩
        · skip
          rintro f w ⟨hf0, hf1, hf12, hf13, hf19, hf23⟩ hmd hx
          have H := H.ext hx
          have hp1 := hp1.mono hx
          have hp2 := hp2.mono hx
          obtain ⟨u2, rfl⟩ : ∃ u2, f = (upd (upd (upd (upd (upd (upd u2 0 va0) 1 va1) 12 (.int .i64 ((a0.length : Nat) : Int))) 13 (.int .i64 (ik1 : Int))) 19 (.int .i64 x1)) 23 (.int .i64 x2)) := ⟨f, by rw [upd_self hf0, upd_self hf1, upd_self hf12, upd_self hf13, upd_self hf19, upd_self hf23]⟩
          refine O.neq rfl rfl rfl rfl ?_
          refine WL.nil ?_
          rcases ite_some hm2 with ⟨hc2, hm2⟩ | ⟨hc2, hm2⟩
          · refine W.cond_true (congrArg Value.bool hc2) ?_
            refine W.seq ?_
            refine W.region ?_
            refine O.assign (v := (.bool false)) rfl rfl rfl ?_
            refine WL.nil ?_
            refine W.ret ?_
            obtain rfl := Option.some.inj hm2
            refine ⟨_, rfl, ?_⟩
            rintro rfl
            have hq : false = r0 := Option.some.inj (show some false = some r0 from hm)
            subst hq
            exact ends1 Tryd.results16 rfl ⟨_, rfl, H.base, rfl⟩
          · refine W.cond_false (congrArg Value.bool hc2) ?_
            refine W.skip ?_
            refine W.region ?_
            refine O.add rfl rfl rfl rfl hinck1 ?_
            refine O.move (v := .int .i64 ((ik1 : Int) + 1)) rfl rfl rfl ?_
            refine WL.nil ?_
            obtain rfl := Option.some.inj hm2
            exact ⟨_, rfl, rfl, rangeN_next hdropk1, rfl, rfl, rfl, rfl, H⟩
      · skip
        rintro ik1 _ f w ⟨rfl, hdropk1, hf13, hf12, hf0, hf1, H⟩ hfin
        have hltk1 := rangeN_end hdropk1
        obtain ⟨u3, rfl⟩ : ∃ u3, f = (upd (upd (upd (upd u3 13 (.int .i64 (ik1 : Int))) 12 (.int .i64 ((a0.length : Nat) : Int))) 0 va0) 1 va1) := ⟨f, by rw [upd_self hf13, upd_self hf12, upd_self hf0, upd_self hf1]⟩
        refine W.seq ?_
        refine W.region ?_
        refine O.lss rfl rfl rfl rfl ?_
        refine WL.nil ?_
        refine W.seq ?_
        refine W.cond_false (congrArg Value.bool (decide_eq_false hltk1)) ?_
        refine W.exit ?_
        obtain rfl : Ctl.next () = o1 := hfin
        refine xT rfl ?_
        exact ⟨rfl, H⟩
    · skip
      rintro f w ⟨rfl, H⟩
      refine W.seq ?_
      refine W.region ?_
      refine O.assign (v := (.bool true)) rfl rfl rfl ?_
      refine WL.nil ?_
      refine W.ret ?_
      have hq : true = r0 := Option.some.inj (show some true = some r0 from hm)
      subst hq
      exact ends1 Tryd.results16 rfl ⟨_, rfl, H.base, rfl⟩

set_option maxRecDepth 20000 in
theorem c_noongunlaw07_awake {w0 : World}  {r0 : Bool} (hm : noongunlaw07_awake  = some r0) :
    Calls Tryd.prog 7 #[] w0 (Ret w0 fun _ v => v = (.bool r0)) := by
  unfold noongunlaw07_awake at hm
  refine calls_of_W Tryd.func7 rfl Tryd.ntmps7 (Nat.le_of_ble_eq_true rfl) ?_
  have H := Inv.start (w := w0)
  refine W.seq ?_
  refine W.region ?_
  refine O.assign (v := (.bool false)) rfl rfl rfl ?_
  refine WL.nil ?_
  refine W.seq ?_
  refine W.region ?_
  refine O.buildSlice (α := Int) [(.int .i64 1), (.int .i64 2), (.int .i64 1), (.int .i64 1)] [1, 2, 1, 1] Tryd.underlying22 el3 H rfl rfl rfl rfl rfl rfl rfl ?_
  intro v1 w1 H hb1
  obtain ⟨⟨t1, t2⟩, hy1, hm⟩ := bind_some hm
  refine O.call Tryd.call24 rfl rfl rfl (c_flag_Hoist _ _ (H.own 0 rfl) hy1) ?_
  rintro _ w2 hb2 ⟨v2, rfl, ho1⟩
  have H := H.addOwn hb2 ho1
  refine O.move (v := (.tuple #[v2, (.int .i64 t2)])) rfl rfl rfl ?_
  refine O.extract (v := v2) rfl rfl rfl rfl ?_
  refine O.extract (v := (.int .i64 t2)) rfl rfl rfl rfl ?_
  refine O.assign (v := v2) rfl rfl rfl ?_
  refine O.assign (v := (.int .i64 t2)) rfl rfl rfl ?_
  refine WL.nil ?_
  refine W.seq ?_
  refine W.region ?_
  refine O.buildSlice (α := Int) [(.int .i64 1), (.int .i64 2), (.int .i64 10), (.int .i64 12)] [1, 2, 10, 12] Tryd.underlying22 el3 H rfl rfl rfl rfl rfl rfl rfl ?_
  intro v3 w3 H hb3
  obtain ⟨⟨t3, t4⟩, hy2, hm⟩ := bind_some hm
  refine O.call Tryd.call37 rfl rfl rfl (c_flag_Means _ _ (H.own 2 rfl) hy2) ?_
  rintro _ w4 hb4 ⟨v4, rfl, ho2⟩
  have H := H.addOwn hb4 ho2
  refine O.move (v := (.tuple #[v4, (.int .i64 t4)])) rfl rfl rfl ?_
  refine O.extract (v := v4) rfl rfl rfl rfl ?_
  refine O.extract (v := (.int .i64 t4)) rfl rfl rfl rfl ?_
  refine O.assign (v := v4) rfl rfl rfl ?_
  refine O.assign (v := (.int .i64 t4)) rfl rfl rfl ?_
  refine WL.nil ?_
  refine W.seq ?_
  refine W.region ?_
  refine O.move (v := (.int .i64 t2)) rfl rfl rfl ?_
  refine O.eql rfl rfl rfl rfl ?_
  refine O.move (v := (.bool (t2 == 0))) rfl rfl rfl ?_
  obtain ⟨b1, hm1, hm⟩ := bind_some hm
  refine WL.cut 4 (fun f w => f 3 = v4 ∧ f 4 = (.int .i64 t4) ∧ f 21 = .bool b1 ∧ Inv w0 w [ownI (α := Int) v1 3 ([1, 2, 1, 1] : List Int), ownI (α := Int) v2 3 t1, ownI (α := Int) v3 3 ([1, 2, 10, 12] : List Int), ownI (α := Int) v4 3 t3]) ?_ ?_
  · skip
    rcases ite_some hm1 with ⟨hc1, hm1⟩ | ⟨hc1, hm1⟩
    · skip
      refine WL.reset (i := 17) (v := .bool true) (congrArg Value.bool hc1) ?_
      refine O.move (v := v2) rfl rfl rfl ?_
      refine O.buildSlice (α := Int) [(.int .i64 1), (.int .i64 2), (.int .i64 10), (.int .i64 12)] [1, 2, 10, 12] Tryd.underlying22 el3 H rfl rfl rfl rfl rfl rfl rfl ?_
      intro v5 w5 H hb5
      obtain ⟨t5, hy3, hm1⟩ := bind_some hm1
      refine O.call Tryd.call16 rfl rfl rfl (c_noongunref07_SameInts _ _ (H.own 1 rfl) _ _ (H.own 4 rfl) hy3) ?_
      rintro _ w6 hb6 rfl
      have H := H.ext hb6
      refine O.pick_true (v := (.bool t5)) rfl rfl rfl rfl ?_
      refine WL.nil ?_
      have H := H.keep [0, 1, 2, 3] [ownI (α := Int) v1 3 ([1, 2, 1, 1] : List Int), ownI (α := Int) v2 3 t1, ownI (α := Int) v3 3 ([1, 2, 10, 12] : List Int), ownI (α := Int) v4 3 t3] rfl (by decide)
      have hq : t5 = b1 := Option.some.inj (show some t5 = some b1 from hm1)
      subst hq
      exact ⟨rfl, rfl, rfl, H⟩
    · skip
      refine WL.reset (i := 17) (v := .bool false) (congrArg Value.bool hc1) ?_
      refine O.skip rfl rfl ?_
      refine O.skip rfl rfl ?_
      refine O.skip rfl rfl ?_
      refine O.pick_false (v := (.bool false)) rfl rfl rfl rfl ?_
      refine WL.nil ?_
      have hq : false = b1 := Option.some.inj (show some false = some b1 from hm1)
      subst hq
      exact ⟨rfl, rfl, rfl, H⟩
  · skip
    rintro f w ⟨hf3, hf4, hf21, H⟩
    obtain ⟨u1, rfl⟩ : ∃ u1, f = (upd (upd (upd u1 3 v4) 4 (.int .i64 t4)) 21 (.bool b1)) := ⟨f, by rw [upd_self hf3, upd_self hf4, upd_self hf21]⟩
    refine O.move (v := (.bool b1)) rfl rfl rfl ?_
    refine WL.cut 3 (fun f w => f 3 = v4 ∧ f 25 = .bool (b1 && (t4 == 0)) ∧ Inv w0 w [ownI (α := Int) v1 3 ([1, 2, 1, 1] : List Int), ownI (α := Int) v2 3 t1, ownI (α := Int) v3 3 ([1, 2, 10, 12] : List Int), ownI (α := Int) v4 3 t3]) ?_ ?_
    · skip
      rcases bool_ft b1 with hc2 | hc2
      · skip
        refine WL.reset (i := 22) (v := .bool false) (congrArg Value.bool hc2) ?_
        refine O.skip rfl rfl ?_
        refine O.skip rfl rfl ?_
        refine O.pick_false (v := (.bool false)) rfl rfl rfl rfl ?_
        refine WL.nil ?_
        exact ⟨rfl, congrArg Value.bool (and_f hc2), H⟩
      · skip
        refine WL.reset (i := 22) (v := .bool true) (congrArg Value.bool hc2) ?_
        refine O.move (v := (.int .i64 t4)) rfl rfl rfl ?_
        refine O.eql rfl rfl rfl rfl ?_
        refine O.pick_true (v := (.bool (t4 == 0))) rfl rfl rfl rfl ?_
        refine WL.nil ?_
        exact ⟨rfl, congrArg Value.bool (and_t hc2), H⟩
    · skip
      rintro f w ⟨hf3, hf25, H⟩
      obtain ⟨u2, rfl⟩ : ∃ u2, f = (upd (upd u2 3 v4) 25 (.bool (b1 && (t4 == 0)))) := ⟨f, by rw [upd_self hf3, upd_self hf25]⟩
      refine O.move (v := (.bool (b1 && (t4 == 0)))) rfl rfl rfl ?_
      obtain ⟨b2, hm2, hm⟩ := bind_some hm
      refine WL.cut 4 (fun f w => f 30 = .bool b2 ∧ Inv w0 w [ownI (α := Int) v1 3 ([1, 2, 1, 1] : List Int), ownI (α := Int) v2 3 t1, ownI (α := Int) v3 3 ([1, 2, 10, 12] : List Int), ownI (α := Int) v4 3 t3]) ?_ ?_
      · skip
        rcases ite_some hm2 with ⟨hc3, hm2⟩ | ⟨hc3, hm2⟩
        · skip
          refine WL.reset (i := 26) (v := .bool true) (congrArg Value.bool hc3) ?_
          refine O.move (v := v4) rfl rfl rfl ?_
          refine O.buildSlice (α := Int) [(.int .i64 1), (.int .i64 2), (.int .i64 1), (.int .i64 1)] [1, 2, 1, 1] Tryd.underlying22 el3 H rfl rfl rfl rfl rfl rfl rfl ?_
          intro v6 w7 H hb7
          obtain ⟨t6, hy4, hm2⟩ := bind_some hm2
          refine O.call Tryd.call16 rfl rfl rfl (c_noongunref07_SameInts _ _ (H.own 3 rfl) _ _ (H.own 4 rfl) hy4) ?_
          rintro _ w8 hb8 rfl
          have H := H.ext hb8
          refine O.pick_true (v := (.bool t6)) rfl rfl rfl rfl ?_
          refine WL.nil ?_
          have H := H.keep [0, 1, 2, 3] [ownI (α := Int) v1 3 ([1, 2, 1, 1] : List Int), ownI (α := Int) v2 3 t1, ownI (α := Int) v3 3 ([1, 2, 10, 12] : List Int), ownI (α := Int) v4 3 t3] rfl (by decide)
          have hq : t6 = b2 := Option.some.inj (show some t6 = some b2 from hm2)
          subst hq
          exact ⟨rfl, H⟩
        · skip
          refine WL.reset (i := 26) (v := .bool false) (congrArg Value.bool hc3) ?_
          refine O.skip rfl rfl ?_
          refine O.skip rfl rfl ?_
          refine O.skip rfl rfl ?_
          refine O.pick_false (v := (.bool false)) rfl rfl rfl rfl ?_
          refine WL.nil ?_
          have hq : false = b2 := Option.some.inj (show some false = some b2 from hm2)
          subst hq
          exact ⟨rfl, H⟩
      · skip
        rintro f w ⟨hf30, H⟩
        obtain ⟨u3, rfl⟩ : ∃ u3, f = (upd u3 30 (.bool b2)) := ⟨f, by rw [upd_self hf30]⟩
        refine O.assign (v := (.bool b2)) rfl rfl rfl ?_
        refine WL.nil ?_
        refine W.ret ?_
        have hq : b2 = r0 := Option.some.inj (show some b2 = some r0 from hm)
        subst hq
        exact ends1 Tryd.results7 rfl ⟨_, rfl, H.base, rfl⟩

theorem c_flag_isNumber {w0 : World} (a0 : Int) {r0 : Bool} (hm : flag_isNumber a0 = some r0) :
    Calls Tryd.prog 38 #[(.int .i64 a0)] w0 (Ret w0 fun _ v => v = (.bool r0)) := by
  unfold flag_isNumber at hm
  refine calls_of_W Tryd.func38 rfl Tryd.ntmps38 (Nat.le_of_ble_eq_true rfl) ?_
  have H := Inv.start (w := w0)
  refine W.seq ?_
  refine W.region ?_
  refine O.assign (v := (.bool false)) rfl rfl rfl ?_
  refine WL.nil ?_
  refine W.seq ?_
  refine W.region ?_
  refine O.move (v := (.int .i64 a0)) rfl rfl rfl ?_
  obtain ⟨t1, hy1, hm⟩ := bind_some hm
  refine O.call Tryd.call58 rfl rfl rfl (c_flag_within _ _ _ hy1) ?_
  rintro _ w1 hb1 rfl
  have H := H.ext hb1
  refine O.assign (v := (.bool t1)) rfl rfl rfl ?_
  refine WL.nil ?_
  refine W.ret ?_
  have hq : t1 = r0 := Option.some.inj (show some t1 = some r0 from hm)
  subst hq
  exact ends1 Tryd.results38 rfl ⟨_, rfl, H.base, rfl⟩

theorem c_strconv_Itoa {w0 : World} (hT : TabH Tryd.prog w0) (a0 : Int) {r0 : ByteArray} (hm : strconv_Itoa a0 = some r0) :
    Calls Tryd.prog 66 #[(.int .i64 a0)] w0 (Ret w0 fun _ v => v = (.string r0)) := by
  unfold strconv_Itoa at hm
  split at hm
  case isFalse => cases hm
  rename_i hn
  obtain ⟨m, rfl⟩ : ∃ m : Nat, a0 = (m : Int) := ⟨a0.toNat, by omega⟩
  obtain rfl := Option.some.inj hm
  exact c_Itoa Tryd.itoaT hT m hn.2
theorem sub48 : ∀ b : Nat, 48 ≤ b → b ≤ 57 → IntKind.i32.wrap ((b : Int) - 48) = (b : Int) - 48 ∧ cvI .i64 ((b : Int) - 48) = some ((b : Int) - 48) := by
  intro b h1 h2
  have : ∀ c : Nat, c < 10 → IntKind.i32.wrap (c : Int) = c ∧ cvI .i64 (c : Int) = some (c : Int) := by decide
  have h := this (b - 48) (by omega)
  rw [show ((b - 48 : Nat) : Int) = (b : Int) - 48 by omega] at h
  exact h
theorem c_flag_digitsOf {w0 : World} (hT : TabH Tryd.prog w0) (a0 : Int) {r0 : (List Int)} (hm : flag_digitsOf a0 = some r0) :
    Calls Tryd.prog 39 #[(.int .i64 a0)] w0 (Ret w0 fun w v => OwnR w0 w v 3 r0) := by
  unfold flag_digitsOf at hm
  split at hm
  case isFalse => cases hm
  rename_i hn
  obtain ⟨m, rfl⟩ : ∃ m : Nat, a0 = (m : Int) := ⟨a0.toNat, by omega⟩
  have hm' : digsOf m = r0 := Option.some.inj hm
  obtain ⟨s, hs⟩ : ∃ s : ByteArray, s = ⟨(Lib.decDigits m).toArray⟩ := ⟨_, rfl⟩
  have hsz : s.size = (Lib.decDigits m).length := by rw [hs]; rfl
  have hlen : (Lib.decDigits m).length ≤ 21 := by
    have := Lib.itoa_length_le (m : Int) (by omega) hn.2
    rw [Lib.itoa_nonneg] at this
    exact this
  refine calls_of_W Tryd.func39 rfl Tryd.ntmps39 (Nat.le_of_ble_eq_true rfl) ?_
  have H := Inv.start (w := w0)
  refine W.seq ?_
  refine W.region ?_
  have H := H.addNil (α := Int) (E := 3)
  refine O.assign (v := (.slice none 0 0)) rfl rfl rfl ?_
  refine WL.nil ?_
  refine W.seq ?_
  refine W.region ?_
  have H := H.addNil (α := Int) (E := 3)
  refine O.assign (v := (.slice none 0 0)) rfl rfl rfl ?_
  refine WL.nil ?_
  refine W.seq ?_
  refine W.via (fun f w => ∃ vz : Value, f 3 = vz ∧ Inv w0 w [ownI vz 3 (digsOf m)]) ?_ ?_
  · refine W.seq ?_
    refine W.region ?_
    refine O.move (v := (.int .i64 (m : Int))) rfl rfl rfl ?_
    refine O.call (φ := fun _ v => v = .string s) Tryd.call66 rfl rfl rfl (by rw [hs]; exact c_Itoa Tryd.itoaT hT m hn.2) ?_
    rintro _ w1 hb1 rfl
    have H := H.ext hb1
    refine O.rangeS Tryd.underlying9 H rfl rfl rfl ?_
    intro bi w2 H hb2
    refine WL.nil ?_
    have H := H.keep [1, 2] [ownI (α := Int) (.slice none 0 0) 3 ([] : List Int), strI bi s 0] rfl (by decide)
    refine W.block ?_
    refine W.loopL (l := Lib.decDigits m) (fun rem f w => ∃ (at_ : Nat) (vz : Value), (Lib.decDigits m).drop at_ = rem ∧ f 8 = .pointer (some ⟨bi, 0, none⟩) ∧ f 3 = vz ∧ Inv w0 w [ownI vz 3 ((digsOf m).take at_), strI bi s at_]) ?_ ?_ ?_
    · exact ⟨0, _, List.drop_zero, rfl, rfl, H⟩
    · rintro y ys f w ⟨at_, vz, hd, hf8, hf3, H⟩
      obtain ⟨u1, rfl⟩ : ∃ u1, f = (upd (upd u1 8 (.pointer (some ⟨bi, 0, none⟩))) 3 vz) := ⟨f, by rw [upd_self hf8, upd_self hf3]⟩
      have hlt : at_ < (Lib.decDigits m).length := (by have h9 := congrArg List.length hd; rw [List.length_drop, List.length_cons] at h9; omega)
      have hy : (Lib.decDigits m)[at_] = y := by
        have := List.drop_eq_getElem_cons hlt
        rw [hd] at this
        exact (List.cons.inj this).1.symm
      have hyb := dec_bytes m y (by rw [← hy]; exact List.getElem_mem hlt)
      have hlt2 : at_ < s.size := by rw [hsz]; exact hlt
      have hsy : s[at_]'hlt2 = y := by subst hs; exact hy
      obtain ⟨k1, k2⟩ := sub48 y.toNat hyb.1 hyb.2
      refine W.seq ?_
      refine W.region ?_
      refine O.nextS 1 H rfl hlt2 (by rw [hsy]; omega) rfl rfl rfl ?_
      intro w1 H
      rw [hsy]
      refine O.extract (v := .bool true) rfl rfl rfl rfl ?_
      refine WL.nil ?_
      refine W.seq ?_
      refine W.cond_true rfl ?_
      refine W.skip ?_
      refine W.block ?_
      refine W.seq ?_
      refine W.region ?_
      refine O.extract (v := (.int .i32 (y.toNat : Int))) rfl rfl rfl rfl ?_
      refine O.assign (v := (.int .i32 (y.toNat : Int))) rfl rfl rfl ?_
      refine WL.nil ?_
      refine W.region ?_
      refine O.move (v := vz) rfl rfl rfl ?_
      refine O.move (v := (.int .i32 (y.toNat : Int))) rfl rfl rfl ?_
      refine O.sub32 rfl rfl rfl rfl k1 ?_
      refine O.convI (by rw [Tryd.underlying21]; rfl) Tryd.underlying3 k2 rfl rfl rfl ?_
      refine O.buildSlice (α := Int) [(.int .i64 ((y.toNat : Int) - 48))] [(y.toNat : Int) - 48] Tryd.underlying22 el3 H rfl rfl rfl rfl rfl rfl rfl ?_
      intro v7 w6 H hb6
      have ht3 : appI ((digsOf m).take at_) [(y.toNat : Int) - 48] = some ((digsOf m).take (at_ + 1)) := by
        rw [appI_ok (by rw [List.length_take]; simp; omega), List.take_add_one]
        have : (digsOf m)[at_]? = some ((y.toNat : Int) - 48) := by
          unfold digsOf
          rw [List.getElem?_map, List.getElem?_eq_getElem hlt, hy]
          rfl
        rw [this]
        rfl
      refine O.append 0 Tryd.underlying22 el3 rfl H rfl (H.own 2 rfl) ht3 rfl rfl rfl rfl ?_
      intro v8 w7 H
      refine O.assign (v := v8) rfl rfl rfl ?_
      refine WL.nil ?_
      have H := H.keep [0, 1] [ownI v8 3 ((digsOf m).take (at_ + 1)), strI bi s (at_ + 1)] rfl (by decide)
      refine ⟨at_ + 1, _, ?_, rfl, rfl, H⟩
      have := List.drop_eq_getElem_cons hlt
      rw [hd] at this
      exact (List.cons.inj this).2.symm
    · rintro f w ⟨at_, vz, hd, hf8, hf3, H⟩
      obtain ⟨u1, rfl⟩ : ∃ u1, f = (upd (upd u1 8 (.pointer (some ⟨bi, 0, none⟩))) 3 vz) := ⟨f, by rw [upd_self hf8, upd_self hf3]⟩
      have hge : (Lib.decDigits m).length ≤ at_ := List.drop_eq_nil_iff.1 hd
      refine W.seq ?_
      refine W.region ?_
      refine O.endS 1 H rfl (by rw [hsz]; omega) rfl rfl rfl ?_
      refine O.extract (v := .bool false) rfl rfl rfl rfl ?_
      refine WL.nil ?_
      refine W.seq ?_
      refine W.cond_false rfl ?_
      refine W.exit ?_
      refine xT rfl ?_
      have ht : (digsOf m).take at_ = digsOf m := List.take_of_length_le (by unfold digsOf; rw [List.length_map]; exact hge)
      rw [ht] at H
      exact ⟨_, rfl, H.keep [0] _ rfl (by decide)⟩
  · rintro f w ⟨vz, hf3, H⟩
    obtain ⟨u1, rfl⟩ : ∃ u1, f = upd u1 3 vz := ⟨f, by rw [upd_self hf3]⟩
    refine W.seq ?_
    refine W.region ?_
    refine O.move (v := vz) rfl rfl rfl ?_
    refine O.assign (v := vz) rfl rfl rfl ?_
    refine WL.nil ?_
    refine W.ret ?_
    subst hm'
    exact ends1 Tryd.results39 rfl ⟨_, rfl, H.base, H.ownR 0 rfl⟩

theorem c_flag_Digits {w0 : World} (hT : TabH Tryd.prog w0) (a0 : Int) {r0 : (List Int)} {r1 : Int} (hm : flag_Digits a0 = some (r0, r1)) :
    Calls Tryd.prog 8 #[(.int .i64 a0)] w0 (Ret w0 fun w v => ∃ vr0 : Value, v = .tuple #[vr0, (.int .i64 r1)] ∧ OwnR w0 w vr0 3 r0) := by
  unfold flag_Digits at hm
  refine calls_of_W Tryd.func8 rfl Tryd.ntmps8 (Nat.le_of_ble_eq_true rfl) ?_
  have H := Inv.start (w := w0)
  refine W.seq ?_
  refine W.region ?_
  have H := H.addNil (α := Int) (E := 3)
  refine O.assign (v := (.slice none 0 0)) rfl rfl rfl ?_
  refine O.assign (v := (.int .i64 0)) rfl rfl rfl ?_
  refine WL.nil ?_
  refine W.seq ?_
  refine W.seq ?_
  refine W.region ?_
  refine O.move (v := (.int .i64 a0)) rfl rfl rfl ?_
  obtain ⟨t1, hy1, hm⟩ := bind_some hm
  refine O.call Tryd.call38 rfl rfl rfl (c_flag_isNumber _ hy1) ?_
  rintro _ w1 hb1 rfl
  have H := H.ext hb1
  refine O.not rfl rfl rfl ?_
  refine WL.nil ?_
  rcases ite_some hm with ⟨hc1, hm⟩ | ⟨hc1, hm⟩
  · refine W.cond_true (congrArg Value.bool hc1) ?_
    refine W.seq ?_
    refine W.region ?_
    have H := H.addNil (α := Int) (E := 3)
    refine O.assign (v := (.slice none 0 0)) rfl rfl rfl ?_
    refine O.assign (v := (.int .i64 7)) rfl rfl rfl ?_
    refine WL.nil ?_
    refine W.ret ?_
    have hq : (([] : List Int), 7) = (r0, r1) := Option.some.inj (show some (([] : List Int), 7) = some (r0, r1) from hm)
    obtain ⟨he0, hq0⟩ := Prod.mk.inj hq; clear hq; subst he0
    subst hq0
    exact ends2 Tryd.results8 rfl rfl ⟨_, rfl, H.base, ⟨_, rfl, H.ownR 1 rfl⟩⟩
  · refine W.cond_false (congrArg Value.bool hc1) ?_
    refine W.skip ?_
    refine W.seq ?_
    refine W.region ?_
    refine O.move (v := (.int .i64 a0)) rfl rfl rfl ?_
    obtain ⟨t2, hy2, hm⟩ := bind_some hm
    refine O.call Tryd.call39 rfl rfl rfl (c_flag_digitsOf (hT.mono H.base) _ hy2) ?_
    rintro v1 w2 hb2 ho1
    have H := H.addOwn hb2 ho1
    refine O.assign (v := v1) rfl rfl rfl ?_
    refine O.assign (v := (.int .i64 0)) rfl rfl rfl ?_
    refine WL.nil ?_
    refine W.ret ?_
    have hq : (t2, 0) = (r0, r1) := Option.some.inj (show some (t2, 0) = some (r0, r1) from hm)
    obtain ⟨he0, hq0⟩ := Prod.mk.inj hq; clear hq; subst he0
    subst hq0
    exact ends2 Tryd.results8 rfl rfl ⟨_, rfl, H.base, ⟨_, rfl, H.ownR 1 rfl⟩⟩

theorem c_noongunref07_digitsOf {w0 : World} (hT : TabH Tryd.prog w0) (a0 : Int) {r0 : (List Int)} (hm : noongunref07_digitsOf a0 = some r0) :
    Calls Tryd.prog 40 #[(.int .i64 a0)] w0 (Ret w0 fun w v => OwnR w0 w v 3 r0) := by
  unfold noongunref07_digitsOf at hm
  refine calls_of_W Tryd.func40 rfl Tryd.ntmps40 (Nat.le_of_ble_eq_true rfl) ?_
  have H := Inv.start (w := w0)
  refine W.seq ?_
  refine W.region ?_
  have H := H.addNil (α := Int) (E := 3)
  refine O.assign (v := (.slice none 0 0)) rfl rfl rfl ?_
  refine WL.nil ?_
  refine W.seq ?_
  refine W.region ?_
  have H := H.addNil (α := Int) (E := 3)
  refine O.assign (v := (.slice none 0 0)) rfl rfl rfl ?_
  refine WL.nil ?_
  refine W.seq ?_
  refine W.seq ?_
  refine W.region ?_
  refine O.move (v := (.int .i64 a0)) rfl rfl rfl ?_
  obtain ⟨t1, hy1, hm⟩ := bind_some hm
  refine O.call Tryd.call66 rfl rfl rfl (c_strconv_Itoa (hT.mono H.base) _ hy1) ?_
  rintro _ w1 hb1 rfl
  have H := H.ext hb1
  obtain ⟨t2, ht2, hm⟩ := bind_some hm
  refine O.bytesHeld Tryd.underlying9 Tryd.underlying78 Tryd.underlying5 ht2 H rfl rfl rfl ?_
  intro v1 w2 b1 ob1 H hb2 hsl1
  refine O.lenS Tryd.underlying78 (hsl1 _ (H.items _ (List.mem_of_getElem? (i := 2) rfl)).1) rfl rfl rfl ?_
  refine O.move (v := (.int .i64 0)) rfl rfl rfl ?_
  refine WL.nil ?_
  obtain ⟨s1, hm1, hm⟩ := bind_some hm
  refine W.via (fun f w => ∃ v5 : Value, f 3 = v5 ∧ Inv w0 w [ownI (α := Int) v5 3 s1]) ?_ ?_
  · skip
    refine W.block ?_
    have H := H.keep [1, 2] [ownI (α := Int) (.slice none 0 0) 3 ([] : List Int), heldI b1 ob1] rfl (by decide)
    refine W.rangeL (i := 0) hm1 (fun rem ik1 s f w => ∃ z2 : (List Int), ∃ v3 : Value, z2 = s ∧ t2.drop ik1 = rem ∧ f 10 = .int .i64 (ik1 : Int) ∧ f 9 = (.int .i64 ((t2.length : Nat) : Int)) ∧ f 3 = v3 ∧ f 8 = v1 ∧ Inv w0 w [ownI (α := Int) v3 3 z2, heldI b1 ob1]) ?_ ?_ ?_
    · skip
      exact ⟨_, (.slice none 0 0), rfl, List.drop_zero, rfl, rfl, rfl, rfl, H⟩
    · skip
      rintro yk1 xs ik1 _ st f w ⟨z2, v3, rfl, hdropk1, hf10, hf9, hf3, hf8, H⟩ hm2
      have hltk1 := drop_lt hdropk1; have hixk1 := drop_idx hdropk1
      obtain ⟨u1, rfl⟩ : ∃ u1, f = (upd (upd (upd (upd u1 10 (.int .i64 (ik1 : Int))) 9 (.int .i64 ((t2.length : Nat) : Int))) 3 v3) 8 v1) := ⟨f, by rw [upd_self hf10, upd_self hf9, upd_self hf3, upd_self hf8]⟩
      have hinck1 := addI_lt hltk1 (hsl1 _ (H.items _ (List.mem_of_getElem? (i := 1) rfl)).1).len_le
      refine W.seq ?_
      refine W.region ?_
      refine O.lss rfl rfl rfl rfl ?_
      refine WL.nil ?_
      refine W.seq ?_
      refine W.cond_true (congrArg Value.bool (decide_eq_true hltk1)) ?_
      refine W.skip ?_
      refine W.seq ?_
      refine W.block ?_
      refine W.seq ?_
      refine W.region ?_
      refine O.indexAddr Tryd.underlying78 sz5 (hsl1 _ (H.items _ (List.mem_of_getElem? (i := 1) rfl)).1) hixk1 rfl rfl rfl rfl ?_
      intro p1 hp1
      refine O.load sc5 rfl rfl rfl (hp1.flat 0 _ rfl) ?_
      refine O.assign (v := (.int .u8 (yk1.toNat : Int))) rfl rfl rfl ?_
      refine WL.nil ?_
      refine W.region ?_
      refine O.move (v := v3) rfl rfl rfl ?_
      refine O.move (v := (.int .u8 (yk1.toNat : Int))) rfl rfl rfl ?_
      obtain ⟨t3, ht3, hm2⟩ := bind_some hm2
      refine O.subK rfl rfl rfl rfl ht3 ?_
      obtain ⟨t4, ht4, hm2⟩ := bind_some hm2
      refine O.convI (by rw [Tryd.underlying5]; rfl) Tryd.underlying3 ht4 rfl rfl rfl ?_
      refine O.buildSlice (α := Int) [(.int .i64 t4)] [t4] Tryd.underlying22 el3 H rfl rfl rfl rfl rfl rfl rfl ?_
      intro v6 w3 H hb3
      have hp1 := hp1.mono hb3
      obtain ⟨t5, ht5, hm2⟩ := bind_some hm2
      refine O.append 0 Tryd.underlying22 el3 rfl H rfl (H.own 2 rfl) ht5 rfl rfl rfl rfl ?_
      intro v7 w4 H
      clear hp1
      refine O.assign (v := v7) rfl rfl rfl ?_
      refine WL.nil ?_
      refine W.region ?_
      refine O.add rfl rfl rfl rfl hinck1 ?_
      refine O.move (v := .int .i64 ((ik1 : Int) + 1)) rfl rfl rfl ?_
      refine WL.nil ?_
      have H := H.keep [0, 1] [ownI (α := Int) v7 3 t5, heldI b1 ob1] rfl (by decide)
      obtain rfl := Option.some.inj hm2
      exact ⟨_, rfl, _, v7, rfl, drop_next hdropk1, rfl, rfl, rfl, rfl, H⟩
    · skip
      rintro ik1 _ f w ⟨z2, v3, rfl, hdropk1, hf10, hf9, hf3, hf8, H⟩ hfin
      have hltk1 := drop_end hdropk1
      obtain ⟨u2, rfl⟩ : ∃ u2, f = (upd (upd (upd (upd u2 10 (.int .i64 (ik1 : Int))) 9 (.int .i64 ((t2.length : Nat) : Int))) 3 v3) 8 v1) := ⟨f, by rw [upd_self hf10, upd_self hf9, upd_self hf3, upd_self hf8]⟩
      refine W.seq ?_
      refine W.region ?_
      refine O.lss rfl rfl rfl rfl ?_
      refine WL.nil ?_
      refine W.seq ?_
      refine W.cond_false (congrArg Value.bool (decide_eq_false hltk1)) ?_
      refine W.exit ?_
      have hq : z2 = s1 := hfin
      subst hq
      have H := H.keep [0] [ownI (α := Int) v3 3 z2] rfl (by decide)
      refine xT rfl ?_
      exact ⟨v3, rfl, H⟩
  · skip
    rintro f w ⟨v5, hf3, H⟩
    obtain ⟨u3, rfl⟩ : ∃ u3, f = (upd u3 3 v5) := ⟨f, by rw [upd_self hf3]⟩
    refine W.seq ?_
    refine W.region ?_
    refine O.move (v := v5) rfl rfl rfl ?_
    refine O.assign (v := v5) rfl rfl rfl ?_
    refine WL.nil ?_
    refine W.ret ?_
    have hq : s1 = r0 := Option.some.inj (show some s1 = some r0 from hm)
    subst hq
    exact ends1 Tryd.results40 rfl ⟨_, rfl, H.base, H.ownR 0 rfl⟩

theorem c_noongunref07_Digits {w0 : World} (hT : TabH Tryd.prog w0) (a0 : Int) {r0 : (List Int)} {r1 : Int} (hm : noongunref07_Digits a0 = some (r0, r1)) :
    Calls Tryd.prog 9 #[(.int .i64 a0)] w0 (Ret w0 fun w v => ∃ vr0 : Value, v = .tuple #[vr0, (.int .i64 r1)] ∧ OwnR w0 w vr0 3 r0) := by
  unfold noongunref07_Digits at hm
  refine calls_of_W Tryd.func9 rfl Tryd.ntmps9 (Nat.le_of_ble_eq_true rfl) ?_
  have H := Inv.start (w := w0)
  refine W.seq ?_
  refine W.region ?_
  have H := H.addNil (α := Int) (E := 3)
  refine O.assign (v := (.slice none 0 0)) rfl rfl rfl ?_
  refine O.assign (v := (.int .i64 0)) rfl rfl rfl ?_
  refine WL.nil ?_
  refine W.seq ?_
  refine W.seq ?_
  refine W.region ?_
  refine O.move (v := (.int .i64 a0)) rfl rfl rfl ?_
  refine O.lss rfl rfl rfl rfl ?_
  refine O.move (v := (.bool (decide (a0 < 0)))) rfl rfl rfl ?_
  refine WL.cut 3 (fun f w => f 0 = (.int .i64 a0) ∧ f 9 = .bool ((decide (a0 < 0)) || (decide (9999 < a0))) ∧ Inv w0 w [ownI (α := Int) (.slice none 0 0) 3 ([] : List Int)]) ?_ ?_
  · skip
    rcases bool_ft (decide (a0 < 0)) with hc1 | hc1
    · skip
      refine WL.reset (i := 6) (v := .bool false) (congrArg Value.bool hc1) ?_
      refine O.move (v := (.int .i64 a0)) rfl rfl rfl ?_
      refine O.gtr rfl rfl rfl rfl ?_
      refine O.pick_false (v := (.bool (decide (9999 < a0)))) rfl rfl rfl rfl ?_
      refine WL.nil ?_
      exact ⟨rfl, congrArg Value.bool (or_f hc1), H⟩
    · skip
      refine WL.reset (i := 6) (v := .bool true) (congrArg Value.bool hc1) ?_
      refine O.skip rfl rfl ?_
      refine O.skip rfl rfl ?_
      refine O.pick_true (v := (.bool true)) rfl rfl rfl rfl ?_
      refine WL.nil ?_
      exact ⟨rfl, congrArg Value.bool (or_t hc1), H⟩
  · skip
    rintro f w ⟨hf0, hf9, H⟩
    obtain ⟨u1, rfl⟩ : ∃ u1, f = (upd (upd u1 0 (.int .i64 a0)) 9 (.bool ((decide (a0 < 0)) || (decide (9999 < a0))))) := ⟨f, by rw [upd_self hf0, upd_self hf9]⟩
    refine WL.nil ?_
    rcases ite_some hm with ⟨hc2, hm⟩ | ⟨hc2, hm⟩
    · refine W.cond_true (congrArg Value.bool hc2) ?_
      refine W.seq ?_
      refine W.region ?_
      have H := H.addNil (α := Int) (E := 3)
      refine O.assign (v := (.slice none 0 0)) rfl rfl rfl ?_
      refine O.assign (v := (.int .i64 7)) rfl rfl rfl ?_
      refine WL.nil ?_
      refine W.ret ?_
      have hq : (([] : List Int), 7) = (r0, r1) := Option.some.inj (show some (([] : List Int), 7) = some (r0, r1) from hm)
      obtain ⟨he0, hq0⟩ := Prod.mk.inj hq; clear hq; subst he0
      subst hq0
      exact ends2 Tryd.results9 rfl rfl ⟨_, rfl, H.base, ⟨_, rfl, H.ownR 1 rfl⟩⟩
    · refine W.cond_false (congrArg Value.bool hc2) ?_
      refine W.skip ?_
      refine W.seq ?_
      refine W.region ?_
      refine O.move (v := (.int .i64 a0)) rfl rfl rfl ?_
      obtain ⟨t1, hy1, hm⟩ := bind_some hm
      refine O.call Tryd.call40 rfl rfl rfl (c_noongunref07_digitsOf (hT.mono H.base) _ hy1) ?_
      rintro v1 w1 hb1 ho1
      have H := H.addOwn hb1 ho1
      refine O.assign (v := v1) rfl rfl rfl ?_
      refine O.assign (v := (.int .i64 0)) rfl rfl rfl ?_
      refine WL.nil ?_
      refine W.ret ?_
      have hq : (t1, 0) = (r0, r1) := Option.some.inj (show some (t1, 0) = some (r0, r1) from hm)
      obtain ⟨he0, hq0⟩ := Prod.mk.inj hq; clear hq; subst he0
      subst hq0
      exact ends2 Tryd.results9 rfl rfl ⟨_, rfl, H.base, ⟨_, rfl, H.ownR 1 rfl⟩⟩

theorem c_flag_number {w0 : World} (va0 : Value) (a0 : (List Int)) (ha0 : SliceR w0 va0 a0) {r0 : Int} (hm : flag_number a0 = some r0) :
    Calls Tryd.prog 42 #[va0] w0 (Ret w0 fun _ v => v = (.int .i64 r0)) := by
  unfold flag_number at hm
  refine calls_of_W Tryd.func42 rfl Tryd.ntmps42 (Nat.le_of_ble_eq_true rfl) ?_
  have H := Inv.start (w := w0)
  refine W.seq ?_
  refine W.region ?_
  refine O.assign (v := (.int .i64 0)) rfl rfl rfl ?_
  refine WL.nil ?_
  refine W.seq ?_
  refine W.region ?_
  refine O.assign (v := (.int .i64 0)) rfl rfl rfl ?_
  refine WL.nil ?_
  refine W.seq ?_
  refine W.seq ?_
  refine W.region ?_
  refine O.move (v := va0) rfl rfl rfl ?_
  refine O.lenS Tryd.underlying22 (H.arg ha0) rfl rfl rfl ?_
  refine O.move (v := (.int .i64 0)) rfl rfl rfl ?_
  refine WL.nil ?_
  obtain ⟨s1, hm1, hm⟩ := bind_some hm
  refine W.via (fun f w => f 3 = (.int .i64 s1) ∧ Inv w0 w []) ?_ ?_
  · skip
    refine W.block ?_
    refine W.rangeL (i := 0) hm1 (fun rem ik1 s f w => ∃ z2 : Int, z2 = s ∧ a0.drop ik1 = rem ∧ f 8 = .int .i64 (ik1 : Int) ∧ f 7 = (.int .i64 ((a0.length : Nat) : Int)) ∧ f 3 = (.int .i64 z2) ∧ f 6 = va0 ∧ Inv w0 w []) ?_ ?_ ?_
    · skip
      exact ⟨_, rfl, List.drop_zero, rfl, rfl, rfl, rfl, H⟩
    · skip
      rintro yk1 xs ik1 _ st f w ⟨z2, rfl, hdropk1, hf8, hf7, hf3, hf6, H⟩ hm2
      have hltk1 := drop_lt hdropk1; have hixk1 := drop_idx hdropk1
      obtain ⟨u1, rfl⟩ : ∃ u1, f = (upd (upd (upd (upd u1 8 (.int .i64 (ik1 : Int))) 7 (.int .i64 ((a0.length : Nat) : Int))) 3 (.int .i64 z2)) 6 va0) := ⟨f, by rw [upd_self hf8, upd_self hf7, upd_self hf3, upd_self hf6]⟩
      have hinck1 := addI_lt hltk1 (H.arg ha0).len_le
      refine W.seq ?_
      refine W.region ?_
      refine O.lss rfl rfl rfl rfl ?_
      refine WL.nil ?_
      refine W.seq ?_
      refine W.cond_true (congrArg Value.bool (decide_eq_true hltk1)) ?_
      refine W.skip ?_
      refine W.seq ?_
      refine W.block ?_
      refine W.seq ?_
      refine W.region ?_
      obtain ⟨p1, hp1, hrp1⟩ := fix_indexAddr Tryd.underlying22 sz3 ha0 hixk1
      refine hrp1 rfl rfl rfl rfl ?_
      refine O.load sc3 rfl rfl rfl ((hp1.mono H.base).flat 0 _ rfl) ?_
      refine O.assign (v := (.int .i64 yk1)) rfl rfl rfl ?_
      refine WL.nil ?_
      refine W.region ?_
      refine O.move (v := (.int .i64 z2)) rfl rfl rfl ?_
      obtain ⟨t1, ht1, hm2⟩ := bind_some hm2
      refine O.mul rfl rfl rfl rfl ht1 ?_
      refine O.move (v := (.int .i64 yk1)) rfl rfl rfl ?_
      obtain ⟨t2, ht2, hm2⟩ := bind_some hm2
      refine O.add rfl rfl rfl rfl ht2 ?_
      refine O.assign (v := (.int .i64 t2)) rfl rfl rfl ?_
      refine WL.nil ?_
      refine W.region ?_
      refine O.add rfl rfl rfl rfl hinck1 ?_
      refine O.move (v := .int .i64 ((ik1 : Int) + 1)) rfl rfl rfl ?_
      refine WL.nil ?_
      obtain rfl := Option.some.inj hm2
      exact ⟨_, rfl, _, rfl, drop_next hdropk1, rfl, rfl, rfl, rfl, H⟩
    · skip
      rintro ik1 _ f w ⟨z2, rfl, hdropk1, hf8, hf7, hf3, hf6, H⟩ hfin
      have hltk1 := drop_end hdropk1
      obtain ⟨u2, rfl⟩ : ∃ u2, f = (upd (upd (upd (upd u2 8 (.int .i64 (ik1 : Int))) 7 (.int .i64 ((a0.length : Nat) : Int))) 3 (.int .i64 z2)) 6 va0) := ⟨f, by rw [upd_self hf8, upd_self hf7, upd_self hf3, upd_self hf6]⟩
      refine W.seq ?_
      refine W.region ?_
      refine O.lss rfl rfl rfl rfl ?_
      refine WL.nil ?_
      refine W.seq ?_
      refine W.cond_false (congrArg Value.bool (decide_eq_false hltk1)) ?_
      refine W.exit ?_
      have hq : z2 = s1 := hfin
      subst hq
      refine xT rfl ?_
      exact ⟨rfl, H⟩
  · skip
    rintro f w ⟨hf3, H⟩
    obtain ⟨u3, rfl⟩ : ∃ u3, f = (upd u3 3 (.int .i64 s1)) := ⟨f, by rw [upd_self hf3]⟩
    refine W.seq ?_
    refine W.region ?_
    refine O.move (v := (.int .i64 s1)) rfl rfl rfl ?_
    refine O.assign (v := (.int .i64 s1)) rfl rfl rfl ?_
    refine WL.nil ?_
    refine W.ret ?_
    have hq : s1 = r0 := Option.some.inj (show some s1 = some r0 from hm)
    subst hq
    exact ends1 Tryd.results42 rfl ⟨_, rfl, H.base, rfl⟩

theorem c_flag_Number {w0 : World} (va0 : Value) (a0 : (List Int)) (ha0 : SliceR w0 va0 a0) {r0 : Int} {r1 : Int} (hm : flag_Number a0 = some (r0, r1)) :
    Calls Tryd.prog 10 #[va0] w0 (Ret w0 fun _ v => v = .tuple #[(.int .i64 r0), (.int .i64 r1)]) := by
  unfold flag_Number at hm
  refine calls_of_W Tryd.func10 rfl Tryd.ntmps10 (Nat.le_of_ble_eq_true rfl) ?_
  have H := Inv.start (w := w0)
  refine W.seq ?_
  refine W.region ?_
  refine O.assign (v := (.int .i64 0)) rfl rfl rfl ?_
  refine O.assign (v := (.int .i64 0)) rfl rfl rfl ?_
  refine WL.nil ?_
  refine W.seq ?_
  refine W.seq ?_
  refine W.region ?_
  refine O.move (v := va0) rfl rfl rfl ?_
  obtain ⟨t1, hy1, hm⟩ := bind_some hm
  refine O.call Tryd.call41 rfl rfl rfl (c_flag_ValidDigits _ _ (H.arg ha0) hy1) ?_
  rintro _ w1 hb1 rfl
  have H := H.ext hb1
  refine O.not rfl rfl rfl ?_
  refine WL.nil ?_
  rcases ite_some hm with ⟨hc1, hm⟩ | ⟨hc1, hm⟩
  · refine W.cond_true (congrArg Value.bool hc1) ?_
    refine W.seq ?_
    refine W.region ?_
    refine O.assign (v := (.int .i64 0)) rfl rfl rfl ?_
    refine O.assign (v := (.int .i64 1)) rfl rfl rfl ?_
    refine WL.nil ?_
    refine W.ret ?_
    have hq : (0, 1) = (r0, r1) := Option.some.inj (show some (0, 1) = some (r0, r1) from hm)
    obtain ⟨he0, hq0⟩ := Prod.mk.inj hq; clear hq; subst he0
    subst hq0
    exact ends2 Tryd.results10 rfl rfl ⟨_, rfl, H.base, rfl⟩
  · refine W.cond_false (congrArg Value.bool hc1) ?_
    refine W.skip ?_
    refine W.seq ?_
    refine W.region ?_
    refine O.move (v := va0) rfl rfl rfl ?_
    obtain ⟨t2, hy2, hm⟩ := bind_some hm
    refine O.call Tryd.call42 rfl rfl rfl (c_flag_number _ _ (H.arg ha0) hy2) ?_
    rintro _ w2 hb2 rfl
    have H := H.ext hb2
    refine O.assign (v := (.int .i64 t2)) rfl rfl rfl ?_
    refine O.assign (v := (.int .i64 0)) rfl rfl rfl ?_
    refine WL.nil ?_
    refine W.ret ?_
    have hq : (t2, 0) = (r0, r1) := Option.some.inj (show some (t2, 0) = some (r0, r1) from hm)
    obtain ⟨he0, hq0⟩ := Prod.mk.inj hq; clear hq; subst he0
    subst hq0
    exact ends2 Tryd.results10 rfl rfl ⟨_, rfl, H.base, rfl⟩

set_option maxRecDepth 20000 in
theorem c_noongunref07_ValidDigits {w0 : World} (va0 : Value) (a0 : (List Int)) (ha0 : SliceR w0 va0 a0) {r0 : Bool} (hm : noongunref07_ValidDigits a0 = some r0) :
    Calls Tryd.prog 43 #[va0] w0 (Ret w0 fun _ v => v = (.bool r0)) := by
  unfold noongunref07_ValidDigits at hm
  refine calls_of_W Tryd.func43 rfl Tryd.ntmps43 (Nat.le_of_ble_eq_true rfl) ?_
  have H := Inv.start (w := w0)
  refine W.seq ?_
  refine W.region ?_
  refine O.assign (v := (.bool false)) rfl rfl rfl ?_
  refine WL.nil ?_
  refine W.seq ?_
  refine W.seq ?_
  refine W.region ?_
  refine O.move (v := va0) rfl rfl rfl ?_
  refine O.lenS Tryd.underlying22 (H.arg ha0) rfl rfl rfl ?_
  refine O.move (v := (.int .i64 0)) rfl rfl rfl ?_
  refine WL.nil ?_
  obtain ⟨o1, hm1, hm⟩ := bind_some hm
  refine W.via (fun f w => o1 = .next () ∧ f 0 = va0 ∧ Inv w0 w []) ?_ ?_
  · skip
    refine W.block ?_
    refine W.rangeL (i := 0) hm1 (fun rem ik1 s f w => () = s ∧ a0.drop ik1 = rem ∧ f 7 = .int .i64 (ik1 : Int) ∧ f 6 = (.int .i64 ((a0.length : Nat) : Int)) ∧ f 0 = va0 ∧ f 5 = va0 ∧ Inv w0 w []) ?_ ?_ ?_
    · skip
      exact ⟨rfl, List.drop_zero, rfl, rfl, rfl, rfl, H⟩
    · skip
      rintro yk1 xs ik1 _ st f w ⟨rfl, hdropk1, hf7, hf6, hf0, hf5, H⟩ hm2
      have hltk1 := drop_lt hdropk1; have hixk1 := drop_idx hdropk1
      obtain ⟨u1, rfl⟩ : ∃ u1, f = (upd (upd (upd (upd u1 7 (.int .i64 (ik1 : Int))) 6 (.int .i64 ((a0.length : Nat) : Int))) 0 va0) 5 va0) := ⟨f, by rw [upd_self hf7, upd_self hf6, upd_self hf0, upd_self hf5]⟩
      have hinck1 := addI_lt hltk1 (H.arg ha0).len_le
      refine W.seq ?_
      refine W.region ?_
      refine O.lss rfl rfl rfl rfl ?_
      refine WL.nil ?_
      refine W.seq ?_
      refine W.cond_true (congrArg Value.bool (decide_eq_true hltk1)) ?_
      refine W.skip ?_
      refine W.seq ?_
      refine W.block ?_
      refine W.seq ?_
      refine W.region ?_
      obtain ⟨p1, hp1, hrp1⟩ := fix_indexAddr Tryd.underlying22 sz3 ha0 hixk1
      refine hrp1 rfl rfl rfl rfl ?_
      refine O.load sc3 rfl rfl rfl ((hp1.mono H.base).flat 0 _ rfl) ?_
      refine O.assign (v := (.int .i64 yk1)) rfl rfl rfl ?_
      refine WL.nil ?_
      refine W.seq ?_
      refine W.region ?_
      refine O.move (v := (.int .i64 yk1)) rfl rfl rfl ?_
      refine O.lss rfl rfl rfl rfl ?_
      refine O.move (v := (.bool (decide (yk1 < 0)))) rfl rfl rfl ?_
      refine WL.cut 3 (fun f w => f 0 = va0 ∧ f 5 = va0 ∧ f 6 = (.int .i64 ((a0.length : Nat) : Int)) ∧ f 7 = (.int .i64 (ik1 : Int)) ∧ f 16 = .bool ((decide (yk1 < 0)) || (decide (9 < yk1))) ∧ Inv w0 w []) ?_ ?_
      · skip
        rcases bool_ft (decide (yk1 < 0)) with hc1 | hc1
        · skip
          refine WL.reset (i := 13) (v := .bool false) (congrArg Value.bool hc1) ?_
          refine O.move (v := (.int .i64 yk1)) rfl rfl rfl ?_
          refine O.gtr rfl rfl rfl rfl ?_
          refine O.pick_false (v := (.bool (decide (9 < yk1)))) rfl rfl rfl rfl ?_
          refine WL.nil ?_
          exact ⟨rfl, rfl, rfl, rfl, congrArg Value.bool (or_f hc1), H⟩
        · skip
          refine WL.reset (i := 13) (v := .bool true) (congrArg Value.bool hc1) ?_
          refine O.skip rfl rfl ?_
          refine O.skip rfl rfl ?_
          refine O.pick_true (v := (.bool true)) rfl rfl rfl rfl ?_
          refine WL.nil ?_
          exact ⟨rfl, rfl, rfl, rfl, congrArg Value.bool (or_t hc1), H⟩
      · skip
        rintro f w ⟨hf0, hf5, hf6, hf7, hf16, H⟩
        obtain ⟨u2, rfl⟩ : ∃ u2, f = (upd (upd (upd (upd (upd u2 0 va0) 5 va0) 6 (.int .i64 ((a0.length : Nat) : Int))) 7 (.int .i64 (ik1 : Int))) 16 (.bool ((decide (yk1 < 0)) || (decide (9 < yk1))))) := ⟨f, by rw [upd_self hf0, upd_self hf5, upd_self hf6, upd_self hf7, upd_self hf16]⟩
        refine WL.nil ?_
        rcases ite_some hm2 with ⟨hc2, hm2⟩ | ⟨hc2, hm2⟩
        · refine W.cond_true (congrArg Value.bool hc2) ?_
          refine W.seq ?_
          refine W.region ?_
          refine O.assign (v := (.bool false)) rfl rfl rfl ?_
          refine WL.nil ?_
          refine W.ret ?_
          obtain rfl := Option.some.inj hm2
          refine ⟨_, rfl, ?_⟩
          rintro rfl
          have hq : false = r0 := Option.some.inj (show some false = some r0 from hm)
          subst hq
          exact ends1 Tryd.results43 rfl ⟨_, rfl, H.base, rfl⟩
        · refine W.cond_false (congrArg Value.bool hc2) ?_
          refine W.skip ?_
          refine W.region ?_
          refine O.add rfl rfl rfl rfl hinck1 ?_
          refine O.move (v := .int .i64 ((ik1 : Int) + 1)) rfl rfl rfl ?_
          refine WL.nil ?_
          obtain rfl := Option.some.inj hm2
          exact ⟨_, rfl, rfl, drop_next hdropk1, rfl, rfl, rfl, rfl, H⟩
    · skip
      rintro ik1 _ f w ⟨rfl, hdropk1, hf7, hf6, hf0, hf5, H⟩ hfin
      have hltk1 := drop_end hdropk1
      obtain ⟨u3, rfl⟩ : ∃ u3, f = (upd (upd (upd (upd u3 7 (.int .i64 (ik1 : Int))) 6 (.int .i64 ((a0.length : Nat) : Int))) 0 va0) 5 va0) := ⟨f, by rw [upd_self hf7, upd_self hf6, upd_self hf0, upd_self hf5]⟩
      refine W.seq ?_
      refine W.region ?_
      refine O.lss rfl rfl rfl rfl ?_
      refine WL.nil ?_
      refine W.seq ?_
      refine W.cond_false (congrArg Value.bool (decide_eq_false hltk1)) ?_
      refine W.exit ?_
      obtain rfl : Ctl.next () = o1 := hfin
      refine xT rfl ?_
      exact ⟨rfl, rfl, H⟩
  · skip
    rintro f w ⟨rfl, hf0, H⟩
    obtain ⟨u4, rfl⟩ : ∃ u4, f = (upd u4 0 va0) := ⟨f, by rw [upd_self hf0]⟩
    refine W.seq ?_
    refine W.region ?_
    refine O.move (v := va0) rfl rfl rfl ?_
    refine O.lenS Tryd.underlying22 (H.arg ha0) rfl rfl rfl ?_
    refine O.geq rfl rfl rfl rfl ?_
    refine O.move (v := (.bool (decide (1 ≤ ((a0.length : Nat) : Int))))) rfl rfl rfl ?_
    refine WL.cut 4 (fun f w => f 25 = .bool ((decide (1 ≤ ((a0.length : Nat) : Int))) && (decide (((a0.length : Nat) : Int) ≤ 4))) ∧ Inv w0 w []) ?_ ?_
    · skip
      rcases bool_ft (decide (1 ≤ ((a0.length : Nat) : Int))) with hc3 | hc3
      · skip
        refine WL.reset (i := 21) (v := .bool false) (congrArg Value.bool hc3) ?_
        refine O.skip rfl rfl ?_
        refine O.skip rfl rfl ?_
        refine O.skip rfl rfl ?_
        refine O.pick_false (v := (.bool false)) rfl rfl rfl rfl ?_
        refine WL.nil ?_
        exact ⟨congrArg Value.bool (and_f hc3), H⟩
      · skip
        refine WL.reset (i := 21) (v := .bool true) (congrArg Value.bool hc3) ?_
        refine O.move (v := va0) rfl rfl rfl ?_
        refine O.lenS Tryd.underlying22 (H.arg ha0) rfl rfl rfl ?_
        refine O.leq rfl rfl rfl rfl ?_
        refine O.pick_true (v := (.bool (decide (((a0.length : Nat) : Int) ≤ 4)))) rfl rfl rfl rfl ?_
        refine WL.nil ?_
        exact ⟨congrArg Value.bool (and_t hc3), H⟩
    · skip
      rintro f w ⟨hf25, H⟩
      obtain ⟨u5, rfl⟩ : ∃ u5, f = (upd u5 25 (.bool ((decide (1 ≤ ((a0.length : Nat) : Int))) && (decide (((a0.length : Nat) : Int) ≤ 4))))) := ⟨f, by rw [upd_self hf25]⟩
      refine O.assign (v := (.bool ((decide (1 ≤ ((a0.length : Nat) : Int))) && (decide (((a0.length : Nat) : Int) ≤ 4))))) rfl rfl rfl ?_
      refine WL.nil ?_
      refine W.ret ?_
      have hq : ((decide (1 ≤ ((a0.length : Nat) : Int))) && (decide (((a0.length : Nat) : Int) ≤ 4))) = r0 := Option.some.inj (show some ((decide (1 ≤ ((a0.length : Nat) : Int))) && (decide (((a0.length : Nat) : Int) ≤ 4))) = some r0 from hm)
      subst hq
      exact ends1 Tryd.results43 rfl ⟨_, rfl, H.base, rfl⟩

theorem c_noongunref07_number {w0 : World} (va0 : Value) (a0 : (List Int)) (ha0 : SliceR w0 va0 a0) {r0 : Int} (hm : noongunref07_number a0 = some r0) :
    Calls Tryd.prog 44 #[va0] w0 (Ret w0 fun _ v => v = (.int .i64 r0)) := by
  unfold noongunref07_number at hm
  refine calls_of_W Tryd.func44 rfl Tryd.ntmps44 (Nat.le_of_ble_eq_true rfl) ?_
  have H := Inv.start (w := w0)
  refine W.seq ?_
  refine W.region ?_
  refine O.assign (v := (.int .i64 0)) rfl rfl rfl ?_
  refine WL.nil ?_
  refine W.seq ?_
  refine W.region ?_
  refine O.assign (v := (.int .i64 0)) rfl rfl rfl ?_
  refine WL.nil ?_
  refine W.seq ?_
  refine W.seq ?_
  refine W.region ?_
  refine O.move (v := va0) rfl rfl rfl ?_
  refine O.lenS Tryd.underlying22 (H.arg ha0) rfl rfl rfl ?_
  refine O.move (v := (.int .i64 0)) rfl rfl rfl ?_
  refine WL.nil ?_
  obtain ⟨s1, hm1, hm⟩ := bind_some hm
  refine W.via (fun f w => f 3 = (.int .i64 s1) ∧ Inv w0 w []) ?_ ?_
  · skip
    refine W.block ?_
    refine W.rangeL (i := 0) hm1 (fun rem ik1 s f w => ∃ z2 : Int, z2 = s ∧ a0.drop ik1 = rem ∧ f 8 = .int .i64 (ik1 : Int) ∧ f 7 = (.int .i64 ((a0.length : Nat) : Int)) ∧ f 3 = (.int .i64 z2) ∧ f 6 = va0 ∧ Inv w0 w []) ?_ ?_ ?_
    · skip
      exact ⟨_, rfl, List.drop_zero, rfl, rfl, rfl, rfl, H⟩
    · skip
      rintro yk1 xs ik1 _ st f w ⟨z2, rfl, hdropk1, hf8, hf7, hf3, hf6, H⟩ hm2
      have hltk1 := drop_lt hdropk1; have hixk1 := drop_idx hdropk1
      obtain ⟨u1, rfl⟩ : ∃ u1, f = (upd (upd (upd (upd u1 8 (.int .i64 (ik1 : Int))) 7 (.int .i64 ((a0.length : Nat) : Int))) 3 (.int .i64 z2)) 6 va0) := ⟨f, by rw [upd_self hf8, upd_self hf7, upd_self hf3, upd_self hf6]⟩
      have hinck1 := addI_lt hltk1 (H.arg ha0).len_le
      refine W.seq ?_
      refine W.region ?_
      refine O.lss rfl rfl rfl rfl ?_
      refine WL.nil ?_
      refine W.seq ?_
      refine W.cond_true (congrArg Value.bool (decide_eq_true hltk1)) ?_
      refine W.skip ?_
      refine W.seq ?_
      refine W.block ?_
      refine W.seq ?_
      refine W.region ?_
      obtain ⟨p1, hp1, hrp1⟩ := fix_indexAddr Tryd.underlying22 sz3 ha0 hixk1
      refine hrp1 rfl rfl rfl rfl ?_
      refine O.load sc3 rfl rfl rfl ((hp1.mono H.base).flat 0 _ rfl) ?_
      refine O.assign (v := (.int .i64 yk1)) rfl rfl rfl ?_
      refine WL.nil ?_
      refine W.region ?_
      refine O.move (v := (.int .i64 z2)) rfl rfl rfl ?_
      obtain ⟨t1, ht1, hm2⟩ := bind_some hm2
      refine O.mul rfl rfl rfl rfl ht1 ?_
      refine O.move (v := (.int .i64 yk1)) rfl rfl rfl ?_
      obtain ⟨t2, ht2, hm2⟩ := bind_some hm2
      refine O.add rfl rfl rfl rfl ht2 ?_
      refine O.assign (v := (.int .i64 t2)) rfl rfl rfl ?_
      refine WL.nil ?_
      refine W.region ?_
      refine O.add rfl rfl rfl rfl hinck1 ?_
      refine O.move (v := .int .i64 ((ik1 : Int) + 1)) rfl rfl rfl ?_
      refine WL.nil ?_
      obtain rfl := Option.some.inj hm2
      exact ⟨_, rfl, _, rfl, drop_next hdropk1, rfl, rfl, rfl, rfl, H⟩
    · skip
      rintro ik1 _ f w ⟨z2, rfl, hdropk1, hf8, hf7, hf3, hf6, H⟩ hfin
      have hltk1 := drop_end hdropk1
      obtain ⟨u2, rfl⟩ : ∃ u2, f = (upd (upd (upd (upd u2 8 (.int .i64 (ik1 : Int))) 7 (.int .i64 ((a0.length : Nat) : Int))) 3 (.int .i64 z2)) 6 va0) := ⟨f, by rw [upd_self hf8, upd_self hf7, upd_self hf3, upd_self hf6]⟩
      refine W.seq ?_
      refine W.region ?_
      refine O.lss rfl rfl rfl rfl ?_
      refine WL.nil ?_
      refine W.seq ?_
      refine W.cond_false (congrArg Value.bool (decide_eq_false hltk1)) ?_
      refine W.exit ?_
      have hq : z2 = s1 := hfin
      subst hq
      refine xT rfl ?_
      exact ⟨rfl, H⟩
  · skip
    rintro f w ⟨hf3, H⟩
    obtain ⟨u3, rfl⟩ : ∃ u3, f = (upd u3 3 (.int .i64 s1)) := ⟨f, by rw [upd_self hf3]⟩
    refine W.seq ?_
    refine W.region ?_
    refine O.move (v := (.int .i64 s1)) rfl rfl rfl ?_
    refine O.assign (v := (.int .i64 s1)) rfl rfl rfl ?_
    refine WL.nil ?_
    refine W.ret ?_
    have hq : s1 = r0 := Option.some.inj (show some s1 = some r0 from hm)
    subst hq
    exact ends1 Tryd.results44 rfl ⟨_, rfl, H.base, rfl⟩

theorem c_noongunref07_Number {w0 : World} (va0 : Value) (a0 : (List Int)) (ha0 : SliceR w0 va0 a0) {r0 : Int} {r1 : Int} (hm : noongunref07_Number a0 = some (r0, r1)) :
    Calls Tryd.prog 11 #[va0] w0 (Ret w0 fun _ v => v = .tuple #[(.int .i64 r0), (.int .i64 r1)]) := by
  unfold noongunref07_Number at hm
  refine calls_of_W Tryd.func11 rfl Tryd.ntmps11 (Nat.le_of_ble_eq_true rfl) ?_
  have H := Inv.start (w := w0)
  refine W.seq ?_
  refine W.region ?_
  refine O.assign (v := (.int .i64 0)) rfl rfl rfl ?_
  refine O.assign (v := (.int .i64 0)) rfl rfl rfl ?_
  refine WL.nil ?_
  refine W.seq ?_
  refine W.seq ?_
  refine W.region ?_
  refine O.move (v := va0) rfl rfl rfl ?_
  obtain ⟨t1, hy1, hm⟩ := bind_some hm
  refine O.call Tryd.call43 rfl rfl rfl (c_noongunref07_ValidDigits _ _ (H.arg ha0) hy1) ?_
  rintro _ w1 hb1 rfl
  have H := H.ext hb1
  refine O.not rfl rfl rfl ?_
  refine WL.nil ?_
  rcases ite_some hm with ⟨hc1, hm⟩ | ⟨hc1, hm⟩
  · refine W.cond_true (congrArg Value.bool hc1) ?_
    refine W.seq ?_
    refine W.region ?_
    refine O.assign (v := (.int .i64 0)) rfl rfl rfl ?_
    refine O.assign (v := (.int .i64 1)) rfl rfl rfl ?_
    refine WL.nil ?_
    refine W.ret ?_
    have hq : (0, 1) = (r0, r1) := Option.some.inj (show some (0, 1) = some (r0, r1) from hm)
    obtain ⟨he0, hq0⟩ := Prod.mk.inj hq; clear hq; subst he0
    subst hq0
    exact ends2 Tryd.results11 rfl rfl ⟨_, rfl, H.base, rfl⟩
  · refine W.cond_false (congrArg Value.bool hc1) ?_
    refine W.skip ?_
    refine W.seq ?_
    refine W.region ?_
    refine O.move (v := va0) rfl rfl rfl ?_
    obtain ⟨t2, hy2, hm⟩ := bind_some hm
    refine O.call Tryd.call44 rfl rfl rfl (c_noongunref07_number _ _ (H.arg ha0) hy2) ?_
    rintro _ w2 hb2 rfl
    have H := H.ext hb2
    refine O.assign (v := (.int .i64 t2)) rfl rfl rfl ?_
    refine O.assign (v := (.int .i64 0)) rfl rfl rfl ?_
    refine WL.nil ?_
    refine W.ret ?_
    have hq : (t2, 0) = (r0, r1) := Option.some.inj (show some (t2, 0) = some (r0, r1) from hm)
    obtain ⟨he0, hq0⟩ := Prod.mk.inj hq; clear hq; subst he0
    subst hq0
    exact ends2 Tryd.results11 rfl rfl ⟨_, rfl, H.base, rfl⟩

theorem c_slices_Clone_int {w0 : World} (va0 : Value) (a0 : (List Int)) (ha0 : SliceR w0 va0 a0) {r0 : (List Int)} (hm : slices_Clone_int a0 = some r0) :
    Calls Tryd.prog 79 #[va0] w0 (Ret w0 fun w v => OwnR w0 w v 3 r0) := by
  unfold slices_Clone_int at hm
  refine calls_of_W Tryd.func79 rfl Tryd.ntmps79 (Nat.le_of_ble_eq_true rfl) ?_
  have H := Inv.start (w := w0)
  refine W.seq ?_
  refine W.region ?_
  have H := H.addNil (α := Int) (E := 3)
  refine O.assign (v := (.slice none 0 0)) rfl rfl rfl ?_
  refine WL.nil ?_
  refine W.seq ?_
  refine W.seq ?_
  refine W.region ?_
  refine O.move (v := va0) rfl rfl rfl ?_
  rcases ha0.nil_or with ⟨rfl, rfl⟩ | ⟨ad, cap, rfl⟩
  · skip
    replace hm : (some ([] : List Int)) = some r0 := by simpa [appI] using hm
    refine O.eqlNil Tryd.underlying22 rfl rfl rfl rfl ?_
    refine WL.reset (i := 4) (v := .bool true) rfl ?_
    refine WL.nil ?_
    refine W.cond_true rfl ?_
    refine W.seq ?_
    refine W.region ?_
    have H := H.addNil (α := Int) (E := 3)
    refine O.assign (v := (.slice none 0 0)) rfl rfl rfl ?_
    refine WL.nil ?_
    refine W.ret ?_
    have hq : ([] : List Int) = r0 := Option.some.inj (show some ([] : List Int) = some r0 from hm)
    subst hq
    exact ends1 Tryd.results79 rfl ⟨_, rfl, H.base, H.ownR 1 rfl⟩
  · skip
    refine O.eqlNil Tryd.underlying22 rfl rfl rfl rfl ?_
    refine WL.reset (i := 4) (v := .bool false) rfl ?_
    refine WL.nil ?_
    refine W.cond_false rfl ?_
    refine W.skip ?_
    refine W.seq ?_
    refine W.region ?_
    refine O.buildEmpty (α := Int) Tryd.underlying22 el3 H rfl rfl ?_
    intro b1 w1 H hb1
    refine O.move (v := (.slice (some ad) a0.length cap)) rfl rfl rfl ?_
    obtain ⟨t1, ht1, hm⟩ := bind_some hm
    refine O.append 1 Tryd.underlying22 el3 rfl H rfl (H.arg ha0) ht1 rfl rfl rfl rfl ?_
    intro v1 w2 H
    refine O.assign (v := v1) rfl rfl rfl ?_
    refine WL.nil ?_
    refine W.ret ?_
    have hq : t1 = r0 := Option.some.inj (show some t1 = some r0 from hm)
    subst hq
    exact ends1 Tryd.results79 rfl ⟨_, rfl, H.base, H.ownR 1 rfl⟩

theorem rev_turns : TurnsI Tryd.prog 80 List.reverse := turns_reverse Tryd.revT

theorem c_flag_turned {w0 : World} (va0 : Value) (a0 : (List Int)) (ha0 : SliceR w0 va0 a0) {r0 : (List Int)} (hm : flag_turned a0 = some r0) :
    Calls Tryd.prog 45 #[va0] w0 (Ret w0 fun w v => OwnR w0 w v 3 r0) := by
  unfold flag_turned at hm
  refine calls_of_W Tryd.func45 rfl Tryd.ntmps45 (Nat.le_of_ble_eq_true rfl) ?_
  have H := Inv.start (w := w0)
  refine W.seq ?_
  refine W.region ?_
  have H := H.addNil (α := Int) (E := 3)
  refine O.assign (v := (.slice none 0 0)) rfl rfl rfl ?_
  refine WL.nil ?_
  refine W.seq ?_
  refine W.region ?_
  refine O.move (v := va0) rfl rfl rfl ?_
  obtain ⟨t1, hy1, hm⟩ := bind_some hm
  refine O.call Tryd.call79 rfl rfl rfl (c_slices_Clone_int _ _ (H.arg ha0) hy1) ?_
  rintro v1 w1 hb1 ho1
  have H := H.addOwn hb1 ho1
  refine O.assign (v := v1) rfl rfl rfl ?_
  refine WL.nil ?_
  refine W.seq ?_
  refine W.region ?_
  refine O.move (v := v1) rfl rfl rfl ?_
  obtain ⟨t2, hy2, hm⟩ := bind_some hm
  refine O.turnI2 1 H rfl rev_turns hy2 Tryd.call80 rfl rfl rfl ?_
  intro w2 H
  refine WL.nil ?_
  refine W.seq ?_
  refine W.region ?_
  refine O.move (v := v1) rfl rfl rfl ?_
  refine O.assign (v := v1) rfl rfl rfl ?_
  refine WL.nil ?_
  refine W.ret ?_
  have hq : t2 = r0 := Option.some.inj (show some t2 = some r0 from hm)
  subst hq
  exact ends1 Tryd.results45 rfl ⟨_, rfl, H.base, H.ownR 1 rfl⟩

theorem c_flag_Turned {w0 : World} (va0 : Value) (a0 : (List Int)) (ha0 : SliceR w0 va0 a0) {r0 : (List Int)} {r1 : Int} (hm : flag_Turned a0 = some (r0, r1)) :
    Calls Tryd.prog 12 #[va0] w0 (Ret w0 fun w v => ∃ vr0 : Value, v = .tuple #[vr0, (.int .i64 r1)] ∧ OwnR w0 w vr0 3 r0) := by
  unfold flag_Turned at hm
  refine calls_of_W Tryd.func12 rfl Tryd.ntmps12 (Nat.le_of_ble_eq_true rfl) ?_
  have H := Inv.start (w := w0)
  refine W.seq ?_
  refine W.region ?_
  have H := H.addNil (α := Int) (E := 3)
  refine O.assign (v := (.slice none 0 0)) rfl rfl rfl ?_
  refine O.assign (v := (.int .i64 0)) rfl rfl rfl ?_
  refine WL.nil ?_
  refine W.seq ?_
  refine W.seq ?_
  refine W.region ?_
  refine O.move (v := va0) rfl rfl rfl ?_
  obtain ⟨t1, hy1, hm⟩ := bind_some hm
  refine O.call Tryd.call41 rfl rfl rfl (c_flag_ValidDigits _ _ (H.arg ha0) hy1) ?_
  rintro _ w1 hb1 rfl
  have H := H.ext hb1
  refine O.not rfl rfl rfl ?_
  refine WL.nil ?_
  rcases ite_some hm with ⟨hc1, hm⟩ | ⟨hc1, hm⟩
  · refine W.cond_true (congrArg Value.bool hc1) ?_
    refine W.seq ?_
    refine W.region ?_
    have H := H.addNil (α := Int) (E := 3)
    refine O.assign (v := (.slice none 0 0)) rfl rfl rfl ?_
    refine O.assign (v := (.int .i64 1)) rfl rfl rfl ?_
    refine WL.nil ?_
    refine W.ret ?_
    have hq : (([] : List Int), 1) = (r0, r1) := Option.some.inj (show some (([] : List Int), 1) = some (r0, r1) from hm)
    obtain ⟨he0, hq0⟩ := Prod.mk.inj hq; clear hq; subst he0
    subst hq0
    exact ends2 Tryd.results12 rfl rfl ⟨_, rfl, H.base, ⟨_, rfl, H.ownR 1 rfl⟩⟩
  · refine W.cond_false (congrArg Value.bool hc1) ?_
    refine W.skip ?_
    refine W.seq ?_
    refine W.region ?_
    refine O.move (v := va0) rfl rfl rfl ?_
    obtain ⟨t2, hy2, hm⟩ := bind_some hm
    refine O.call Tryd.call45 rfl rfl rfl (c_flag_turned _ _ (H.arg ha0) hy2) ?_
    rintro v1 w2 hb2 ho1
    have H := H.addOwn hb2 ho1
    refine O.assign (v := v1) rfl rfl rfl ?_
    refine O.assign (v := (.int .i64 0)) rfl rfl rfl ?_
    refine WL.nil ?_
    refine W.ret ?_
    have hq : (t2, 0) = (r0, r1) := Option.some.inj (show some (t2, 0) = some (r0, r1) from hm)
    obtain ⟨he0, hq0⟩ := Prod.mk.inj hq; clear hq; subst he0
    subst hq0
    exact ends2 Tryd.results12 rfl rfl ⟨_, rfl, H.base, ⟨_, rfl, H.ownR 1 rfl⟩⟩

theorem c_noongunref07_turned {w0 : World} (va0 : Value) (a0 : (List Int)) (ha0 : SliceR w0 va0 a0) {r0 : (List Int)} (hm : noongunref07_turned a0 = some r0) :
    Calls Tryd.prog 46 #[va0] w0 (Ret w0 fun w v => OwnR w0 w v 3 r0) := by
  unfold noongunref07_turned at hm
  refine calls_of_W Tryd.func46 rfl Tryd.ntmps46 (Nat.le_of_ble_eq_true rfl) ?_
  have H := Inv.start (w := w0)
  refine W.seq ?_
  refine W.region ?_
  have H := H.addNil (α := Int) (E := 3)
  refine O.assign (v := (.slice none 0 0)) rfl rfl rfl ?_
  refine WL.nil ?_
  refine W.seq ?_
  refine W.region ?_
  have H := H.addNil (α := Int) (E := 3)
  refine O.assign (v := (.slice none 0 0)) rfl rfl rfl ?_
  refine WL.nil ?_
  refine W.seq ?_
  refine W.seq ?_
  refine W.region ?_
  refine O.move (v := va0) rfl rfl rfl ?_
  refine O.lenS Tryd.underlying22 (H.arg ha0) rfl rfl rfl ?_
  refine O.move (v := (.int .i64 0)) rfl rfl rfl ?_
  refine WL.nil ?_
  obtain ⟨s1, hm1, hm⟩ := bind_some hm
  refine W.via (fun f w => ∃ v4 : Value, f 3 = v4 ∧ Inv w0 w [ownI (α := Int) v4 3 s1]) ?_ ?_
  · skip
    refine W.block ?_
    have H := H.keep [1] [ownI (α := Int) (.slice none 0 0) 3 ([] : List Int)] rfl (by decide)
    refine W.rangeL (i := 0) hm1 (fun rem ik1 s f w => ∃ z2 : (List Int), ∃ v2 : Value, z2 = s ∧ a0.drop ik1 = rem ∧ f 8 = .int .i64 (ik1 : Int) ∧ f 7 = (.int .i64 ((a0.length : Nat) : Int)) ∧ f 3 = v2 ∧ f 6 = va0 ∧ Inv w0 w [ownI (α := Int) v2 3 z2]) ?_ ?_ ?_
    · skip
      exact ⟨_, (.slice none 0 0), rfl, List.drop_zero, rfl, rfl, rfl, rfl, H⟩
    · skip
      rintro yk1 xs ik1 _ st f w ⟨z2, v2, rfl, hdropk1, hf8, hf7, hf3, hf6, H⟩ hm2
      have hltk1 := drop_lt hdropk1; have hixk1 := drop_idx hdropk1
      obtain ⟨u1, rfl⟩ : ∃ u1, f = (upd (upd (upd (upd u1 8 (.int .i64 (ik1 : Int))) 7 (.int .i64 ((a0.length : Nat) : Int))) 3 v2) 6 va0) := ⟨f, by rw [upd_self hf8, upd_self hf7, upd_self hf3, upd_self hf6]⟩
      have hinck1 := addI_lt hltk1 (H.arg ha0).len_le
      refine W.seq ?_
      refine W.region ?_
      refine O.lss rfl rfl rfl rfl ?_
      refine WL.nil ?_
      refine W.seq ?_
      refine W.cond_true (congrArg Value.bool (decide_eq_true hltk1)) ?_
      refine W.skip ?_
      refine W.seq ?_
      refine W.block ?_
      refine W.seq ?_
      refine W.region ?_
      obtain ⟨p1, hp1, hrp1⟩ := fix_indexAddr Tryd.underlying22 sz3 ha0 hixk1
      refine hrp1 rfl rfl rfl rfl ?_
      refine O.load sc3 rfl rfl rfl ((hp1.mono H.base).flat 0 _ rfl) ?_
      refine O.assign (v := (.int .i64 yk1)) rfl rfl rfl ?_
      refine WL.nil ?_
      refine W.region ?_
      refine O.move (v := (.int .i64 yk1)) rfl rfl rfl ?_
      refine O.buildSlice (α := Int) [(.int .i64 yk1)] [yk1] Tryd.underlying22 el3 H rfl rfl rfl rfl rfl rfl rfl ?_
      intro v5 w1 H hb1
      refine O.move (v := v2) rfl rfl rfl ?_
      obtain ⟨t1, ht1, hm2⟩ := bind_some hm2
      refine O.append 1 Tryd.underlying22 el3 rfl H rfl (H.own 0 rfl) ht1 rfl rfl rfl rfl ?_
      intro v6 w2 H
      refine O.assign (v := v6) rfl rfl rfl ?_
      refine WL.nil ?_
      refine W.region ?_
      refine O.add rfl rfl rfl rfl hinck1 ?_
      refine O.move (v := .int .i64 ((ik1 : Int) + 1)) rfl rfl rfl ?_
      refine WL.nil ?_
      have H := H.keep [1] [ownI (α := Int) v6 3 t1] rfl (by decide)
      obtain rfl := Option.some.inj hm2
      exact ⟨_, rfl, _, v6, rfl, drop_next hdropk1, rfl, rfl, rfl, rfl, H⟩
    · skip
      rintro ik1 _ f w ⟨z2, v2, rfl, hdropk1, hf8, hf7, hf3, hf6, H⟩ hfin
      have hltk1 := drop_end hdropk1
      obtain ⟨u2, rfl⟩ : ∃ u2, f = (upd (upd (upd (upd u2 8 (.int .i64 (ik1 : Int))) 7 (.int .i64 ((a0.length : Nat) : Int))) 3 v2) 6 va0) := ⟨f, by rw [upd_self hf8, upd_self hf7, upd_self hf3, upd_self hf6]⟩
      refine W.seq ?_
      refine W.region ?_
      refine O.lss rfl rfl rfl rfl ?_
      refine WL.nil ?_
      refine W.seq ?_
      refine W.cond_false (congrArg Value.bool (decide_eq_false hltk1)) ?_
      refine W.exit ?_
      have hq : z2 = s1 := hfin
      subst hq
      refine xT rfl ?_
      exact ⟨v2, rfl, H⟩
  · skip
    rintro f w ⟨v4, hf3, H⟩
    obtain ⟨u3, rfl⟩ : ∃ u3, f = (upd u3 3 v4) := ⟨f, by rw [upd_self hf3]⟩
    refine W.seq ?_
    refine W.region ?_
    refine O.move (v := v4) rfl rfl rfl ?_
    refine O.assign (v := v4) rfl rfl rfl ?_
    refine WL.nil ?_
    refine W.ret ?_
    have hq : s1 = r0 := Option.some.inj (show some s1 = some r0 from hm)
    subst hq
    exact ends1 Tryd.results46 rfl ⟨_, rfl, H.base, H.ownR 0 rfl⟩

theorem c_noongunref07_Turned {w0 : World} (va0 : Value) (a0 : (List Int)) (ha0 : SliceR w0 va0 a0) {r0 : (List Int)} {r1 : Int} (hm : noongunref07_Turned a0 = some (r0, r1)) :
    Calls Tryd.prog 13 #[va0] w0 (Ret w0 fun w v => ∃ vr0 : Value, v = .tuple #[vr0, (.int .i64 r1)] ∧ OwnR w0 w vr0 3 r0) := by
  unfold noongunref07_Turned at hm
  refine calls_of_W Tryd.func13 rfl Tryd.ntmps13 (Nat.le_of_ble_eq_true rfl) ?_
  have H := Inv.start (w := w0)
  refine W.seq ?_
  refine W.region ?_
  have H := H.addNil (α := Int) (E := 3)
  refine O.assign (v := (.slice none 0 0)) rfl rfl rfl ?_
  refine O.assign (v := (.int .i64 0)) rfl rfl rfl ?_
  refine WL.nil ?_
  refine W.seq ?_
  refine W.seq ?_
  refine W.region ?_
  refine O.move (v := va0) rfl rfl rfl ?_
  obtain ⟨t1, hy1, hm⟩ := bind_some hm
  refine O.call Tryd.call43 rfl rfl rfl (c_noongunref07_ValidDigits _ _ (H.arg ha0) hy1) ?_
  rintro _ w1 hb1 rfl
  have H := H.ext hb1
  refine O.not rfl rfl rfl ?_
  refine WL.nil ?_
  rcases ite_some hm with ⟨hc1, hm⟩ | ⟨hc1, hm⟩
  · refine W.cond_true (congrArg Value.bool hc1) ?_
    refine W.seq ?_
    refine W.region ?_
    have H := H.addNil (α := Int) (E := 3)
    refine O.assign (v := (.slice none 0 0)) rfl rfl rfl ?_
    refine O.assign (v := (.int .i64 1)) rfl rfl rfl ?_
    refine WL.nil ?_
    refine W.ret ?_
    have hq : (([] : List Int), 1) = (r0, r1) := Option.some.inj (show some (([] : List Int), 1) = some (r0, r1) from hm)
    obtain ⟨he0, hq0⟩ := Prod.mk.inj hq; clear hq; subst he0
    subst hq0
    exact ends2 Tryd.results13 rfl rfl ⟨_, rfl, H.base, ⟨_, rfl, H.ownR 1 rfl⟩⟩
  · refine W.cond_false (congrArg Value.bool hc1) ?_
    refine W.skip ?_
    refine W.seq ?_
    refine W.region ?_
    refine O.move (v := va0) rfl rfl rfl ?_
    obtain ⟨t2, hy2, hm⟩ := bind_some hm
    refine O.call Tryd.call46 rfl rfl rfl (c_noongunref07_turned _ _ (H.arg ha0) hy2) ?_
    rintro v1 w2 hb2 ho1
    have H := H.addOwn hb2 ho1
    refine O.assign (v := v1) rfl rfl rfl ?_
    refine O.assign (v := (.int .i64 0)) rfl rfl rfl ?_
    refine WL.nil ?_
    refine W.ret ?_
    have hq : (t2, 0) = (r0, r1) := Option.some.inj (show some (t2, 0) = some (r0, r1) from hm)
    obtain ⟨he0, hq0⟩ := Prod.mk.inj hq; clear hq; subst he0
    subst hq0
    exact ends2 Tryd.results13 rfl rfl ⟨_, rfl, H.base, ⟨_, rfl, H.ownR 1 rfl⟩⟩

set_option maxRecDepth 20000 in
theorem c_flag_distance {w0 : World} (hT : TabH Tryd.prog w0) (a0 : Int) (a1 : Int) {r0 : Int} (hm : flag_distance a0 a1 = some r0) :
    Calls Tryd.prog 47 #[(.int .i64 a0), (.int .i64 a1)] w0 (Ret w0 fun _ v => v = (.int .i64 r0)) := by
  unfold flag_distance at hm
  refine calls_of_W Tryd.func47 rfl Tryd.ntmps47 (Nat.le_of_ble_eq_true rfl) ?_
  have H := Inv.start (w := w0)
  refine W.seq ?_
  refine W.region ?_
  refine O.assign (v := (.int .i64 0)) rfl rfl rfl ?_
  refine WL.nil ?_
  refine W.seq ?_
  refine W.region ?_
  refine O.move (v := (.int .i64 a0)) rfl rfl rfl ?_
  obtain ⟨t1, hy1, hm⟩ := bind_some hm
  refine O.call Tryd.call39 rfl rfl rfl (c_flag_digitsOf (hT.mono H.base) _ hy1) ?_
  rintro v1 w1 hb1 ho1
  have H := H.addOwn hb1 ho1
  refine O.move (v := (.int .i64 a1)) rfl rfl rfl ?_
  obtain ⟨t2, hy2, hm⟩ := bind_some hm
  refine O.call Tryd.call39 rfl rfl rfl (c_flag_digitsOf (hT.mono H.base) _ hy2) ?_
  rintro v2 w2 hb2 ho2
  have H := H.addOwn hb2 ho2
  refine O.assign (v := v1) rfl rfl rfl ?_
  refine O.assign (v := v2) rfl rfl rfl ?_
  refine WL.nil ?_
  refine W.seq ?_
  refine W.seq ?_
  refine W.region ?_
  refine O.move (v := v1) rfl rfl rfl ?_
  refine O.lenS Tryd.underlying22 (H.own 0 rfl) rfl rfl rfl ?_
  refine O.move (v := v2) rfl rfl rfl ?_
  refine O.lenS Tryd.underlying22 (H.own 1 rfl) rfl rfl rfl ?_
  refine O.neq rfl rfl rfl rfl ?_
  refine WL.nil ?_
  rcases ite_some hm with ⟨hc1, hm⟩ | ⟨hc1, hm⟩
  · refine W.cond_true (congrArg Value.bool hc1) ?_
    refine W.seq ?_
    refine W.region ?_
    refine O.assign (v := (.int .i64 4)) rfl rfl rfl ?_
    refine WL.nil ?_
    refine W.ret ?_
    have hq : 4 = r0 := Option.some.inj (show some 4 = some r0 from hm)
    subst hq
    exact ends1 Tryd.results47 rfl ⟨_, rfl, H.base, rfl⟩
  · refine W.cond_false (congrArg Value.bool hc1) ?_
    refine W.skip ?_
    refine W.seq ?_
    refine W.region ?_
    refine O.assign (v := (.int .i64 0)) rfl rfl rfl ?_
    refine WL.nil ?_
    refine W.seq ?_
    refine W.seq ?_
    refine W.region ?_
    refine O.move (v := v1) rfl rfl rfl ?_
    refine O.lenS Tryd.underlying22 (H.own 0 rfl) rfl rfl rfl ?_
    refine O.move (v := (.int .i64 0)) rfl rfl rfl ?_
    refine WL.nil ?_
    obtain ⟨s1, hm1, hm⟩ := bind_some hm
    refine W.via (fun f w => f 7 = (.int .i64 s1) ∧ Inv w0 w []) ?_ ?_
    · skip
      refine W.block ?_
      have hbdik1 := (H.own 0 rfl).len_le
      refine W.rangeN (i := 0) hm1 (fun rem ik1 s f w => ∃ z2 : Int, z2 = s ∧ (ik1 : Int) + rem = max 0 ((t1.length : Nat) : Int) ∧ f 21 = .int .i64 (ik1 : Int) ∧ f 20 = (.int .i64 ((t1.length : Nat) : Int)) ∧ f 6 = v2 ∧ f 7 = (.int .i64 z2) ∧ f 19 = v1 ∧ Inv w0 w [ownI (α := Int) v1 3 t1, ownI (α := Int) v2 3 t2]) ?_ ?_ ?_
      · skip
        exact ⟨_, rfl, rangeN_start, rfl, rfl, rfl, rfl, rfl, H⟩
      · skip
        rintro k ik1 _ st f w ⟨z2, rfl, hdropk1, hf21, hf20, hf6, hf7, hf19, H⟩ hm2
        have hltk1 := rangeN_lt hdropk1
        obtain ⟨u1, rfl⟩ : ∃ u1, f = (upd (upd (upd (upd (upd u1 21 (.int .i64 (ik1 : Int))) 20 (.int .i64 ((t1.length : Nat) : Int))) 6 v2) 7 (.int .i64 z2)) 19 v1) := ⟨f, by rw [upd_self hf21, upd_self hf20, upd_self hf6, upd_self hf7, upd_self hf19]⟩
        have hinck1 := addI_lt hltk1 hbdik1
        refine W.seq ?_
        refine W.region ?_
        refine O.lss rfl rfl rfl rfl ?_
        refine WL.nil ?_
        refine W.seq ?_
        refine W.cond_true (congrArg Value.bool (decide_eq_true hltk1)) ?_
        refine W.skip ?_
        refine W.seq ?_
        obtain ⟨s2, hm3, hm2⟩ := bind_some hm2
        refine W.via (fun f w => f 6 = v2 ∧ f 7 = (.int .i64 s2) ∧ f 19 = v1 ∧ f 20 = (.int .i64 ((t1.length : Nat) : Int)) ∧ f 21 = (.int .i64 (ik1 : Int)) ∧ Inv w0 w [ownI (α := Int) v1 3 t1, ownI (α := Int) v2 3 t2]) ?_ ?_
        · skip
          refine W.block ?_
          refine W.seq ?_
          refine W.region ?_
          refine O.move (v := (.int .i64 (ik1 : Int))) rfl rfl rfl ?_
          obtain ⟨x1, hx1, hm3⟩ := bind_some hm3
          refine O.indexAddr Tryd.underlying22 sz3 (H.own 0 rfl) hx1 rfl rfl rfl rfl ?_
          intro p1 hp1
          refine O.load sc3 rfl rfl rfl (hp1.flat 0 _ rfl) ?_
          refine O.assign (v := (.int .i64 (ik1 : Int))) rfl rfl rfl ?_
          refine O.assign (v := (.int .i64 x1)) rfl rfl rfl ?_
          refine WL.nil ?_
          refine W.seq ?_
          refine W.region ?_
          refine O.move (v := (.int .i64 x1)) rfl rfl rfl ?_
          refine O.move (v := v2) rfl rfl rfl ?_
          refine O.move (v := (.int .i64 (ik1 : Int))) rfl rfl rfl ?_
          obtain ⟨x2, hx2, hm3⟩ := bind_some hm3
          refine O.indexAddr Tryd.underlying22 sz3 (H.own 1 rfl) hx2 rfl rfl rfl rfl ?_
          intro p2 hp2
          refine O.load sc3 rfl rfl rfl (hp2.flat 0 _ rfl) ?_
          refine O.neq rfl rfl rfl rfl ?_
          refine WL.nil ?_
          obtain ⟨s3, hm4, hm3⟩ := bind_some hm3
          refine W.via (fun f w => f 6 = v2 ∧ f 7 = (.int .i64 s3) ∧ f 19 = v1 ∧ f 20 = (.int .i64 ((t1.length : Nat) : Int)) ∧ f 21 = (.int .i64 (ik1 : Int)) ∧ Inv w0 w [ownI (α := Int) v1 3 t1, ownI (α := Int) v2 3 t2]) ?_ ?_
          · skip
            rcases ite_some hm4 with ⟨hc2, hm4⟩ | ⟨hc2, hm4⟩
            · refine W.cond_true (congrArg Value.bool hc2) ?_
              refine W.region ?_
              refine O.move (v := (.int .i64 z2)) rfl rfl rfl ?_
              obtain ⟨t3, ht3, hm4⟩ := bind_some hm4
              refine O.add rfl rfl rfl rfl ht3 ?_
              refine O.assign (v := (.int .i64 t3)) rfl rfl rfl ?_
              refine WL.nil ?_
              have hq : t3 = s3 := Option.some.inj (show some t3 = some s3 from hm4)
              subst hq
              exact ⟨rfl, rfl, rfl, rfl, rfl, H⟩
            · refine W.cond_false (congrArg Value.bool hc2) ?_
              refine W.skip ?_
              have hq : z2 = s3 := Option.some.inj (show some z2 = some s3 from hm4)
              subst hq
              exact ⟨rfl, rfl, rfl, rfl, rfl, H⟩
          · skip
            rintro f w ⟨hf6, hf7, hf19, hf20, hf21, H⟩
            obtain ⟨u2, rfl⟩ : ∃ u2, f = (upd (upd (upd (upd (upd u2 6 v2) 7 (.int .i64 s3)) 19 v1) 20 (.int .i64 ((t1.length : Nat) : Int))) 21 (.int .i64 (ik1 : Int))) := ⟨f, by rw [upd_self hf6, upd_self hf7, upd_self hf19, upd_self hf20, upd_self hf21]⟩
            have hq : s3 = s2 := Option.some.inj (show some s3 = some s2 from hm3)
            subst hq
            exact ⟨rfl, rfl, rfl, rfl, rfl, H⟩
        · skip
          rintro f w ⟨hf6, hf7, hf19, hf20, hf21, H⟩
          obtain ⟨u3, rfl⟩ : ∃ u3, f = (upd (upd (upd (upd (upd u3 6 v2) 7 (.int .i64 s2)) 19 v1) 20 (.int .i64 ((t1.length : Nat) : Int))) 21 (.int .i64 (ik1 : Int))) := ⟨f, by rw [upd_self hf6, upd_self hf7, upd_self hf19, upd_self hf20, upd_self hf21]⟩
          refine W.region ?_
          refine O.add rfl rfl rfl rfl hinck1 ?_
          refine O.move (v := .int .i64 ((ik1 : Int) + 1)) rfl rfl rfl ?_
          refine WL.nil ?_
          obtain rfl := Option.some.inj hm2
          exact ⟨_, rfl, _, rfl, rangeN_next hdropk1, rfl, rfl, rfl, rfl, rfl, H⟩
      · skip
        rintro ik1 _ f w ⟨z2, rfl, hdropk1, hf21, hf20, hf6, hf7, hf19, H⟩ hfin
        have hltk1 := rangeN_end hdropk1
        obtain ⟨u4, rfl⟩ : ∃ u4, f = (upd (upd (upd (upd (upd u4 21 (.int .i64 (ik1 : Int))) 20 (.int .i64 ((t1.length : Nat) : Int))) 6 v2) 7 (.int .i64 z2)) 19 v1) := ⟨f, by rw [upd_self hf21, upd_self hf20, upd_self hf6, upd_self hf7, upd_self hf19]⟩
        refine W.seq ?_
        refine W.region ?_
        refine O.lss rfl rfl rfl rfl ?_
        refine WL.nil ?_
        refine W.seq ?_
        refine W.cond_false (congrArg Value.bool (decide_eq_false hltk1)) ?_
        refine W.exit ?_
        have hq : z2 = s1 := hfin
        subst hq
        have H := H.keep [] [] rfl (by decide)
        refine xT rfl ?_
        exact ⟨rfl, H⟩
    · skip
      rintro f w ⟨hf7, H⟩
      obtain ⟨u5, rfl⟩ : ∃ u5, f = (upd u5 7 (.int .i64 s1)) := ⟨f, by rw [upd_self hf7]⟩
      refine W.seq ?_
      refine W.region ?_
      refine O.move (v := (.int .i64 s1)) rfl rfl rfl ?_
      refine O.assign (v := (.int .i64 s1)) rfl rfl rfl ?_
      refine WL.nil ?_
      refine W.ret ?_
      have hq : s1 = r0 := Option.some.inj (show some s1 = some r0 from hm)
      subst hq
      exact ends1 Tryd.results47 rfl ⟨_, rfl, H.base, rfl⟩

theorem c_flag_Distance {w0 : World} (hT : TabH Tryd.prog w0) (a0 : Int) (a1 : Int) {r0 : Int} {r1 : Int} (hm : flag_Distance a0 a1 = some (r0, r1)) :
    Calls Tryd.prog 14 #[(.int .i64 a0), (.int .i64 a1)] w0 (Ret w0 fun _ v => v = .tuple #[(.int .i64 r0), (.int .i64 r1)]) := by
  unfold flag_Distance at hm
  refine calls_of_W Tryd.func14 rfl Tryd.ntmps14 (Nat.le_of_ble_eq_true rfl) ?_
  have H := Inv.start (w := w0)
  refine W.seq ?_
  refine W.region ?_
  refine O.assign (v := (.int .i64 0)) rfl rfl rfl ?_
  refine O.assign (v := (.int .i64 0)) rfl rfl rfl ?_
  refine WL.nil ?_
  refine W.seq ?_
  refine W.seq ?_
  refine W.region ?_
  refine O.move (v := (.int .i64 a0)) rfl rfl rfl ?_
  obtain ⟨t1, hy1, hm⟩ := bind_some hm
  refine O.call Tryd.call38 rfl rfl rfl (c_flag_isNumber _ hy1) ?_
  rintro _ w1 hb1 rfl
  have H := H.ext hb1
  refine O.not rfl rfl rfl ?_
  refine O.move (v := (.bool (!t1))) rfl rfl rfl ?_
  obtain ⟨b1, hm1, hm⟩ := bind_some hm
  refine WL.cut 4 (fun f w => f 0 = (.int .i64 a0) ∧ f 1 = (.int .i64 a1) ∧ f 13 = .bool b1 ∧ Inv w0 w []) ?_ ?_
  · skip
    rcases ite_some hm1 with ⟨hc1, hm1⟩ | ⟨hc1, hm1⟩
    · skip
      refine WL.reset (i := 9) (v := .bool true) (congrArg Value.bool hc1) ?_
      refine O.skip rfl rfl ?_
      refine O.skip rfl rfl ?_
      refine O.skip rfl rfl ?_
      refine O.pick_true (v := (.bool true)) rfl rfl rfl rfl ?_
      refine WL.nil ?_
      have hq : true = b1 := Option.some.inj (show some true = some b1 from hm1)
      subst hq
      exact ⟨rfl, rfl, rfl, H⟩
    · skip
      refine WL.reset (i := 9) (v := .bool false) (congrArg Value.bool hc1) ?_
      refine O.move (v := (.int .i64 a1)) rfl rfl rfl ?_
      obtain ⟨t2, hy2, hm1⟩ := bind_some hm1
      refine O.call Tryd.call38 rfl rfl rfl (c_flag_isNumber _ hy2) ?_
      rintro _ w2 hb2 rfl
      have H := H.ext hb2
      refine O.not rfl rfl rfl ?_
      refine O.pick_false (v := (.bool (!t2))) rfl rfl rfl rfl ?_
      refine WL.nil ?_
      have hq : (!t2) = b1 := Option.some.inj (show some (!t2) = some b1 from hm1)
      subst hq
      exact ⟨rfl, rfl, rfl, H⟩
  · skip
    rintro f w ⟨hf0, hf1, hf13, H⟩
    obtain ⟨u1, rfl⟩ : ∃ u1, f = (upd (upd (upd u1 0 (.int .i64 a0)) 1 (.int .i64 a1)) 13 (.bool b1)) := ⟨f, by rw [upd_self hf0, upd_self hf1, upd_self hf13]⟩
    refine WL.nil ?_
    rcases ite_some hm with ⟨hc2, hm⟩ | ⟨hc2, hm⟩
    · refine W.cond_true (congrArg Value.bool hc2) ?_
      refine W.seq ?_
      refine W.region ?_
      refine O.assign (v := (.int .i64 0)) rfl rfl rfl ?_
      refine O.assign (v := (.int .i64 7)) rfl rfl rfl ?_
      refine WL.nil ?_
      refine W.ret ?_
      have hq : (0, 7) = (r0, r1) := Option.some.inj (show some (0, 7) = some (r0, r1) from hm)
      obtain ⟨he0, hq0⟩ := Prod.mk.inj hq; clear hq; subst he0
      subst hq0
      exact ends2 Tryd.results14 rfl rfl ⟨_, rfl, H.base, rfl⟩
    · refine W.cond_false (congrArg Value.bool hc2) ?_
      refine W.skip ?_
      refine W.seq ?_
      refine W.region ?_
      refine O.move (v := (.int .i64 a0)) rfl rfl rfl ?_
      refine O.move (v := (.int .i64 a1)) rfl rfl rfl ?_
      obtain ⟨t3, hy3, hm⟩ := bind_some hm
      refine O.call Tryd.call47 rfl rfl rfl (c_flag_distance (hT.mono H.base) _ _ hy3) ?_
      rintro _ w3 hb3 rfl
      have H := H.ext hb3
      refine O.assign (v := (.int .i64 t3)) rfl rfl rfl ?_
      refine O.assign (v := (.int .i64 0)) rfl rfl rfl ?_
      refine WL.nil ?_
      refine W.ret ?_
      have hq : (t3, 0) = (r0, r1) := Option.some.inj (show some (t3, 0) = some (r0, r1) from hm)
      obtain ⟨he0, hq0⟩ := Prod.mk.inj hq; clear hq; subst he0
      subst hq0
      exact ends2 Tryd.results14 rfl rfl ⟨_, rfl, H.base, rfl⟩

set_option maxRecDepth 20000 in
theorem c_noongunref07_distance {w0 : World} (hT : TabH Tryd.prog w0) (a0 : Int) (a1 : Int) {r0 : Int} (hm : noongunref07_distance a0 a1 = some r0) :
    Calls Tryd.prog 48 #[(.int .i64 a0), (.int .i64 a1)] w0 (Ret w0 fun _ v => v = (.int .i64 r0)) := by
  unfold noongunref07_distance at hm
  refine calls_of_W Tryd.func48 rfl Tryd.ntmps48 (Nat.le_of_ble_eq_true rfl) ?_
  have H := Inv.start (w := w0)
  refine W.seq ?_
  refine W.region ?_
  refine O.assign (v := (.int .i64 0)) rfl rfl rfl ?_
  refine WL.nil ?_
  refine W.seq ?_
  refine W.region ?_
  refine O.move (v := (.int .i64 a0)) rfl rfl rfl ?_
  obtain ⟨t1, hy1, hm⟩ := bind_some hm
  refine O.call Tryd.call40 rfl rfl rfl (c_noongunref07_digitsOf (hT.mono H.base) _ hy1) ?_
  rintro v1 w1 hb1 ho1
  have H := H.addOwn hb1 ho1
  refine O.move (v := (.int .i64 a1)) rfl rfl rfl ?_
  obtain ⟨t2, hy2, hm⟩ := bind_some hm
  refine O.call Tryd.call40 rfl rfl rfl (c_noongunref07_digitsOf (hT.mono H.base) _ hy2) ?_
  rintro v2 w2 hb2 ho2
  have H := H.addOwn hb2 ho2
  refine O.assign (v := v1) rfl rfl rfl ?_
  refine O.assign (v := v2) rfl rfl rfl ?_
  refine WL.nil ?_
  refine W.seq ?_
  refine W.seq ?_
  refine W.region ?_
  refine O.move (v := v1) rfl rfl rfl ?_
  refine O.lenS Tryd.underlying22 (H.own 0 rfl) rfl rfl rfl ?_
  refine O.move (v := v2) rfl rfl rfl ?_
  refine O.lenS Tryd.underlying22 (H.own 1 rfl) rfl rfl rfl ?_
  refine O.neq rfl rfl rfl rfl ?_
  refine WL.nil ?_
  rcases ite_some hm with ⟨hc1, hm⟩ | ⟨hc1, hm⟩
  · refine W.cond_true (congrArg Value.bool hc1) ?_
    refine W.seq ?_
    refine W.region ?_
    refine O.assign (v := (.int .i64 4)) rfl rfl rfl ?_
    refine WL.nil ?_
    refine W.ret ?_
    have hq : 4 = r0 := Option.some.inj (show some 4 = some r0 from hm)
    subst hq
    exact ends1 Tryd.results48 rfl ⟨_, rfl, H.base, rfl⟩
  · refine W.cond_false (congrArg Value.bool hc1) ?_
    refine W.skip ?_
    refine W.seq ?_
    refine W.region ?_
    refine O.assign (v := (.int .i64 0)) rfl rfl rfl ?_
    refine WL.nil ?_
    refine W.seq ?_
    refine W.seq ?_
    refine W.region ?_
    refine O.move (v := v1) rfl rfl rfl ?_
    refine O.lenS Tryd.underlying22 (H.own 0 rfl) rfl rfl rfl ?_
    refine O.move (v := (.int .i64 0)) rfl rfl rfl ?_
    refine WL.nil ?_
    obtain ⟨s1, hm1, hm⟩ := bind_some hm
    refine W.via (fun f w => f 7 = (.int .i64 s1) ∧ Inv w0 w []) ?_ ?_
    · skip
      refine W.block ?_
      have hbdik1 := (H.own 0 rfl).len_le
      refine W.rangeN (i := 0) hm1 (fun rem ik1 s f w => ∃ z2 : Int, z2 = s ∧ (ik1 : Int) + rem = max 0 ((t1.length : Nat) : Int) ∧ f 20 = .int .i64 (ik1 : Int) ∧ f 19 = (.int .i64 ((t1.length : Nat) : Int)) ∧ f 5 = v1 ∧ f 6 = v2 ∧ f 7 = (.int .i64 z2) ∧ Inv w0 w [ownI (α := Int) v1 3 t1, ownI (α := Int) v2 3 t2]) ?_ ?_ ?_
      · skip
        exact ⟨_, rfl, rangeN_start, rfl, rfl, rfl, rfl, rfl, H⟩
      · skip
        rintro k ik1 _ st f w ⟨z2, rfl, hdropk1, hf20, hf19, hf5, hf6, hf7, H⟩ hm2
        have hltk1 := rangeN_lt hdropk1
        obtain ⟨u1, rfl⟩ : ∃ u1, f = (upd (upd (upd (upd (upd u1 20 (.int .i64 (ik1 : Int))) 19 (.int .i64 ((t1.length : Nat) : Int))) 5 v1) 6 v2) 7 (.int .i64 z2)) := ⟨f, by rw [upd_self hf20, upd_self hf19, upd_self hf5, upd_self hf6, upd_self hf7]⟩
        have hinck1 := addI_lt hltk1 hbdik1
        refine W.seq ?_
        refine W.region ?_
        refine O.lss rfl rfl rfl rfl ?_
        refine WL.nil ?_
        refine W.seq ?_
        refine W.cond_true (congrArg Value.bool (decide_eq_true hltk1)) ?_
        refine W.skip ?_
        refine W.seq ?_
        obtain ⟨s2, hm3, hm2⟩ := bind_some hm2
        refine W.via (fun f w => f 5 = v1 ∧ f 6 = v2 ∧ f 7 = (.int .i64 s2) ∧ f 19 = (.int .i64 ((t1.length : Nat) : Int)) ∧ f 20 = (.int .i64 (ik1 : Int)) ∧ Inv w0 w [ownI (α := Int) v1 3 t1, ownI (α := Int) v2 3 t2]) ?_ ?_
        · skip
          refine W.block ?_
          refine W.seq ?_
          refine W.region ?_
          refine O.move (v := (.int .i64 (ik1 : Int))) rfl rfl rfl ?_
          refine O.assign (v := (.int .i64 (ik1 : Int))) rfl rfl rfl ?_
          refine WL.nil ?_
          refine W.seq ?_
          obtain ⟨x1, hx1, hm3⟩ := bind_some hm3
          obtain ⟨p1, hp1, hrp1⟩ := fix_indexAddr Tryd.underlying22 sz3 (H.own 0 rfl) hx1
          obtain ⟨x2, hx2, hm3⟩ := bind_some hm3
          obtain ⟨p2, hp2, hrp2⟩ := fix_indexAddr Tryd.underlying22 sz3 (H.own 1 rfl) hx2
          refine W.drawN 8 (fun f => f 5 = v1 ∧ f 6 = v2 ∧ f 7 = (.int .i64 z2) ∧ f 19 = (.int .i64 ((t1.length : Nat) : Int)) ∧ f 20 = (.int .i64 (ik1 : Int)) ∧ f 26 = (.int .i64 x1) ∧ f 30 = (.int .i64 x2)) fol (by kernel_rfl) ?_ ?_
          · skip
            refine PL.of (fun _ w8 _ hx => O.move (v := v1) rfl rfl rfl (WL.nil ⟨rfl, hx⟩)) ?_
            refine PL.of (fun _ w8 _ hx => O.move (v := (.int .i64 (ik1 : Int))) rfl rfl rfl (WL.nil ⟨rfl, hx⟩)) ?_
            refine PL.of (fun _ w8 _ hx => hrp1 rfl rfl rfl rfl (WL.nil ⟨rfl, hx⟩)) ?_
            refine PL.of (fun _ w8 _ hx => by have hp1 := hp1.mono hx; exact O.load sc3 rfl rfl rfl (hp1.flat 0 _ rfl) (WL.nil ⟨rfl, hx⟩)) ?_
            refine PL.of (fun _ w8 _ hx => O.move (v := v2) rfl rfl rfl (WL.nil ⟨rfl, hx⟩)) ?_
            refine PL.of (fun _ w8 _ hx => O.move (v := (.int .i64 (ik1 : Int))) rfl rfl rfl (WL.nil ⟨rfl, hx⟩)) ?_
            refine PL.of (fun _ w8 _ hx => hrp2 rfl rfl rfl rfl (WL.nil ⟨rfl, hx⟩)) ?_
            refine PL.of (fun _ w8 _ hx => by have hp2 := hp2.mono hx; exact O.load sc3 rfl rfl rfl (hp2.flat 0 _ rfl) (WL.nil ⟨rfl, hx⟩)) ?_
            refine PL.nil ?_
            exact ⟨rfl, rfl, rfl, rfl, rfl, rfl, rfl⟩
          · skip
            rintro f w ⟨hf5, hf6, hf7, hf19, hf20, hf26, hf30⟩ hmd hx
            have H := H.ext hx
            have hp1 := hp1.mono hx
            have hp2 := hp2.mono hx
            obtain ⟨u2, rfl⟩ : ∃ u2, f = (upd (upd (upd (upd (upd (upd (upd u2 5 v1) 6 v2) 7 (.int .i64 z2)) 19 (.int .i64 ((t1.length : Nat) : Int))) 20 (.int .i64 (ik1 : Int))) 26 (.int .i64 x1)) 30 (.int .i64 x2)) := ⟨f, by rw [upd_self hf5, upd_self hf6, upd_self hf7, upd_self hf19, upd_self hf20, upd_self hf26, upd_self hf30]⟩
            refine O.neq rfl rfl rfl rfl ?_
            refine WL.nil ?_
            obtain ⟨s3, hm4, hm3⟩ := bind_some hm3
            refine W.via (fun f w => f 5 = v1 ∧ f 6 = v2 ∧ f 7 = (.int .i64 s3) ∧ f 19 = (.int .i64 ((t1.length : Nat) : Int)) ∧ f 20 = (.int .i64 (ik1 : Int)) ∧ Inv w0 w [ownI (α := Int) v1 3 t1, ownI (α := Int) v2 3 t2]) ?_ ?_
            · skip
              rcases ite_some hm4 with ⟨hc2, hm4⟩ | ⟨hc2, hm4⟩
              · refine W.cond_true (congrArg Value.bool hc2) ?_
                refine W.region ?_
                refine O.move (v := (.int .i64 z2)) rfl rfl rfl ?_
                obtain ⟨t3, ht3, hm4⟩ := bind_some hm4
                refine O.add rfl rfl rfl rfl ht3 ?_
                refine O.assign (v := (.int .i64 t3)) rfl rfl rfl ?_
                refine WL.nil ?_
                have hq : t3 = s3 := Option.some.inj (show some t3 = some s3 from hm4)
                subst hq
                exact ⟨rfl, rfl, rfl, rfl, rfl, H⟩
              · refine W.cond_false (congrArg Value.bool hc2) ?_
                refine W.skip ?_
                have hq : z2 = s3 := Option.some.inj (show some z2 = some s3 from hm4)
                subst hq
                exact ⟨rfl, rfl, rfl, rfl, rfl, H⟩
            · skip
              rintro f w ⟨hf5, hf6, hf7, hf19, hf20, H⟩
              obtain ⟨u3, rfl⟩ : ∃ u3, f = (upd (upd (upd (upd (upd u3 5 v1) 6 v2) 7 (.int .i64 s3)) 19 (.int .i64 ((t1.length : Nat) : Int))) 20 (.int .i64 (ik1 : Int))) := ⟨f, by rw [upd_self hf5, upd_self hf6, upd_self hf7, upd_self hf19, upd_self hf20]⟩
              have hq : s3 = s2 := Option.some.inj (show some s3 = some s2 from hm3)
              subst hq
              exact ⟨rfl, rfl, rfl, rfl, rfl, H⟩
        · skip
          rintro f w ⟨hf5, hf6, hf7, hf19, hf20, H⟩
          obtain ⟨u4, rfl⟩ : ∃ u4, f = (upd (upd (upd (upd (upd u4 5 v1) 6 v2) 7 (.int .i64 s2)) 19 (.int .i64 ((t1.length : Nat) : Int))) 20 (.int .i64 (ik1 : Int))) := ⟨f, by rw [upd_self hf5, upd_self hf6, upd_self hf7, upd_self hf19, upd_self hf20]⟩
          refine W.region ?_
          refine O.add rfl rfl rfl rfl hinck1 ?_
          refine O.move (v := .int .i64 ((ik1 : Int) + 1)) rfl rfl rfl ?_
          refine WL.nil ?_
          obtain rfl := Option.some.inj hm2
          exact ⟨_, rfl, _, rfl, rangeN_next hdropk1, rfl, rfl, rfl, rfl, rfl, H⟩
      · skip
        rintro ik1 _ f w ⟨z2, rfl, hdropk1, hf20, hf19, hf5, hf6, hf7, H⟩ hfin
        have hltk1 := rangeN_end hdropk1
        obtain ⟨u5, rfl⟩ : ∃ u5, f = (upd (upd (upd (upd (upd u5 20 (.int .i64 (ik1 : Int))) 19 (.int .i64 ((t1.length : Nat) : Int))) 5 v1) 6 v2) 7 (.int .i64 z2)) := ⟨f, by rw [upd_self hf20, upd_self hf19, upd_self hf5, upd_self hf6, upd_self hf7]⟩
        refine W.seq ?_
        refine W.region ?_
        refine O.lss rfl rfl rfl rfl ?_
        refine WL.nil ?_
        refine W.seq ?_
        refine W.cond_false (congrArg Value.bool (decide_eq_false hltk1)) ?_
        refine W.exit ?_
        have hq : z2 = s1 := hfin
        subst hq
        have H := H.keep [] [] rfl (by decide)
        refine xT rfl ?_
        exact ⟨rfl, H⟩
    · skip
      rintro f w ⟨hf7, H⟩
      obtain ⟨u6, rfl⟩ : ∃ u6, f = (upd u6 7 (.int .i64 s1)) := ⟨f, by rw [upd_self hf7]⟩
      refine W.seq ?_
      refine W.region ?_
      refine O.move (v := (.int .i64 s1)) rfl rfl rfl ?_
      refine O.assign (v := (.int .i64 s1)) rfl rfl rfl ?_
      refine WL.nil ?_
      refine W.ret ?_
      have hq : s1 = r0 := Option.some.inj (show some s1 = some r0 from hm)
      subst hq
      exact ends1 Tryd.results48 rfl ⟨_, rfl, H.base, rfl⟩

theorem c_noongunref07_Distance {w0 : World} (hT : TabH Tryd.prog w0) (a0 : Int) (a1 : Int) {r0 : Int} {r1 : Int} (hm : noongunref07_Distance a0 a1 = some (r0, r1)) :
    Calls Tryd.prog 15 #[(.int .i64 a0), (.int .i64 a1)] w0 (Ret w0 fun _ v => v = .tuple #[(.int .i64 r0), (.int .i64 r1)]) := by
  unfold noongunref07_Distance at hm
  refine calls_of_W Tryd.func15 rfl Tryd.ntmps15 (Nat.le_of_ble_eq_true rfl) ?_
  have H := Inv.start (w := w0)
  refine W.seq ?_
  refine W.region ?_
  refine O.assign (v := (.int .i64 0)) rfl rfl rfl ?_
  refine O.assign (v := (.int .i64 0)) rfl rfl rfl ?_
  refine WL.nil ?_
  refine W.seq ?_
  refine W.seq ?_
  refine W.region ?_
  refine O.move (v := (.int .i64 a0)) rfl rfl rfl ?_
  refine O.lss rfl rfl rfl rfl ?_
  refine O.move (v := (.bool (decide (a0 < 0)))) rfl rfl rfl ?_
  refine WL.cut 3 (fun f w => f 0 = (.int .i64 a0) ∧ f 1 = (.int .i64 a1) ∧ f 11 = .bool ((decide (a0 < 0)) || (decide (9999 < a0))) ∧ Inv w0 w []) ?_ ?_
  · skip
    rcases bool_ft (decide (a0 < 0)) with hc1 | hc1
    · skip
      refine WL.reset (i := 8) (v := .bool false) (congrArg Value.bool hc1) ?_
      refine O.move (v := (.int .i64 a0)) rfl rfl rfl ?_
      refine O.gtr rfl rfl rfl rfl ?_
      refine O.pick_false (v := (.bool (decide (9999 < a0)))) rfl rfl rfl rfl ?_
      refine WL.nil ?_
      exact ⟨rfl, rfl, congrArg Value.bool (or_f hc1), H⟩
    · skip
      refine WL.reset (i := 8) (v := .bool true) (congrArg Value.bool hc1) ?_
      refine O.skip rfl rfl ?_
      refine O.skip rfl rfl ?_
      refine O.pick_true (v := (.bool true)) rfl rfl rfl rfl ?_
      refine WL.nil ?_
      exact ⟨rfl, rfl, congrArg Value.bool (or_t hc1), H⟩
  · skip
    rintro f w ⟨hf0, hf1, hf11, H⟩
    obtain ⟨u1, rfl⟩ : ∃ u1, f = (upd (upd (upd u1 0 (.int .i64 a0)) 1 (.int .i64 a1)) 11 (.bool ((decide (a0 < 0)) || (decide (9999 < a0))))) := ⟨f, by rw [upd_self hf0, upd_self hf1, upd_self hf11]⟩
    refine O.move (v := (.bool ((decide (a0 < 0)) || (decide (9999 < a0))))) rfl rfl rfl ?_
    refine WL.cut 3 (fun f w => f 0 = (.int .i64 a0) ∧ f 1 = (.int .i64 a1) ∧ f 15 = .bool (((decide (a0 < 0)) || (decide (9999 < a0))) || (decide (a1 < 0))) ∧ Inv w0 w []) ?_ ?_
    · skip
      rcases bool_ft ((decide (a0 < 0)) || (decide (9999 < a0))) with hc2 | hc2
      · skip
        refine WL.reset (i := 12) (v := .bool false) (congrArg Value.bool hc2) ?_
        refine O.move (v := (.int .i64 a1)) rfl rfl rfl ?_
        refine O.lss rfl rfl rfl rfl ?_
        refine O.pick_false (v := (.bool (decide (a1 < 0)))) rfl rfl rfl rfl ?_
        refine WL.nil ?_
        exact ⟨rfl, rfl, congrArg Value.bool (or_f hc2), H⟩
      · skip
        refine WL.reset (i := 12) (v := .bool true) (congrArg Value.bool hc2) ?_
        refine O.skip rfl rfl ?_
        refine O.skip rfl rfl ?_
        refine O.pick_true (v := (.bool true)) rfl rfl rfl rfl ?_
        refine WL.nil ?_
        exact ⟨rfl, rfl, congrArg Value.bool (or_t hc2), H⟩
    · skip
      rintro f w ⟨hf0, hf1, hf15, H⟩
      obtain ⟨u2, rfl⟩ : ∃ u2, f = (upd (upd (upd u2 0 (.int .i64 a0)) 1 (.int .i64 a1)) 15 (.bool (((decide (a0 < 0)) || (decide (9999 < a0))) || (decide (a1 < 0))))) := ⟨f, by rw [upd_self hf0, upd_self hf1, upd_self hf15]⟩
      refine O.move (v := (.bool (((decide (a0 < 0)) || (decide (9999 < a0))) || (decide (a1 < 0))))) rfl rfl rfl ?_
      refine WL.cut 3 (fun f w => f 0 = (.int .i64 a0) ∧ f 1 = (.int .i64 a1) ∧ f 19 = .bool ((((decide (a0 < 0)) || (decide (9999 < a0))) || (decide (a1 < 0))) || (decide (9999 < a1))) ∧ Inv w0 w []) ?_ ?_
      · skip
        rcases bool_ft (((decide (a0 < 0)) || (decide (9999 < a0))) || (decide (a1 < 0))) with hc3 | hc3
        · skip
          refine WL.reset (i := 16) (v := .bool false) (congrArg Value.bool hc3) ?_
          refine O.move (v := (.int .i64 a1)) rfl rfl rfl ?_
          refine O.gtr rfl rfl rfl rfl ?_
          refine O.pick_false (v := (.bool (decide (9999 < a1)))) rfl rfl rfl rfl ?_
          refine WL.nil ?_
          exact ⟨rfl, rfl, congrArg Value.bool (or_f hc3), H⟩
        · skip
          refine WL.reset (i := 16) (v := .bool true) (congrArg Value.bool hc3) ?_
          refine O.skip rfl rfl ?_
          refine O.skip rfl rfl ?_
          refine O.pick_true (v := (.bool true)) rfl rfl rfl rfl ?_
          refine WL.nil ?_
          exact ⟨rfl, rfl, congrArg Value.bool (or_t hc3), H⟩
      · skip
        rintro f w ⟨hf0, hf1, hf19, H⟩
        obtain ⟨u3, rfl⟩ : ∃ u3, f = (upd (upd (upd u3 0 (.int .i64 a0)) 1 (.int .i64 a1)) 19 (.bool ((((decide (a0 < 0)) || (decide (9999 < a0))) || (decide (a1 < 0))) || (decide (9999 < a1))))) := ⟨f, by rw [upd_self hf0, upd_self hf1, upd_self hf19]⟩
        refine WL.nil ?_
        rcases ite_some hm with ⟨hc4, hm⟩ | ⟨hc4, hm⟩
        · refine W.cond_true (congrArg Value.bool hc4) ?_
          refine W.seq ?_
          refine W.region ?_
          refine O.assign (v := (.int .i64 0)) rfl rfl rfl ?_
          refine O.assign (v := (.int .i64 7)) rfl rfl rfl ?_
          refine WL.nil ?_
          refine W.ret ?_
          have hq : (0, 7) = (r0, r1) := Option.some.inj (show some (0, 7) = some (r0, r1) from hm)
          obtain ⟨he0, hq0⟩ := Prod.mk.inj hq; clear hq; subst he0
          subst hq0
          exact ends2 Tryd.results15 rfl rfl ⟨_, rfl, H.base, rfl⟩
        · refine W.cond_false (congrArg Value.bool hc4) ?_
          refine W.skip ?_
          refine W.seq ?_
          refine W.region ?_
          refine O.move (v := (.int .i64 a0)) rfl rfl rfl ?_
          refine O.move (v := (.int .i64 a1)) rfl rfl rfl ?_
          obtain ⟨t1, hy1, hm⟩ := bind_some hm
          refine O.call Tryd.call48 rfl rfl rfl (c_noongunref07_distance (hT.mono H.base) _ _ hy1) ?_
          rintro _ w1 hb1 rfl
          have H := H.ext hb1
          refine O.assign (v := (.int .i64 t1)) rfl rfl rfl ?_
          refine O.assign (v := (.int .i64 0)) rfl rfl rfl ?_
          refine WL.nil ?_
          refine W.ret ?_
          have hq : (t1, 0) = (r0, r1) := Option.some.inj (show some (t1, 0) = some (r0, r1) from hm)
          obtain ⟨he0, hq0⟩ := Prod.mk.inj hq; clear hq; subst he0
          subst hq0
          exact ends2 Tryd.results15 rfl rfl ⟨_, rfl, H.base, rfl⟩

set_option maxRecDepth 20000 in
theorem c_noongunlaw07_FlagDigits {w0 : World} (hT : TabH Tryd.prog w0) (va0 : Value) (a0 : (List Int)) (ha0 : SliceR w0 va0 a0) (a1 : Int) (a2 : Int) {r0 : Bool} (hm : noongunlaw07_FlagDigits a0 a1 a2 = some r0) :
    Calls Tryd.prog 3 #[va0, (.int .i64 a1), (.int .i64 a2)] w0 (Ret w0 fun _ v => v = (.bool r0)) := by
  unfold noongunlaw07_FlagDigits at hm
  refine calls_of_W Tryd.func3 rfl Tryd.ntmps3 (Nat.le_of_ble_eq_true rfl) ?_
  have H := Inv.start (w := w0)
  refine W.seq ?_
  refine W.region ?_
  refine O.assign (v := (.bool false)) rfl rfl rfl ?_
  refine WL.nil ?_
  refine W.seq ?_
  refine W.seq ?_
  refine W.region ?_
  refine O.move (v := va0) rfl rfl rfl ?_
  refine O.lenS Tryd.underlying22 (H.arg ha0) rfl rfl rfl ?_
  refine O.gtr rfl rfl rfl rfl ?_
  refine WL.nil ?_
  rcases ite_some hm with ⟨hc1, hm⟩ | ⟨hc1, hm⟩
  · refine W.cond_true (congrArg Value.bool hc1) ?_
    refine W.seq ?_
    refine W.region ?_
    obtain ⟨t1, hy1, hm⟩ := bind_some hm
    refine O.call Tryd.call7 rfl rfl rfl (c_noongunlaw07_awake  hy1) ?_
    rintro _ w1 hb1 rfl
    have H := H.ext hb1
    refine O.assign (v := (.bool t1)) rfl rfl rfl ?_
    refine WL.nil ?_
    refine W.ret ?_
    have hq : t1 = r0 := Option.some.inj (show some t1 = some r0 from hm)
    subst hq
    exact ends1 Tryd.results3 rfl ⟨_, rfl, H.base, rfl⟩
  · refine W.cond_false (congrArg Value.bool hc1) ?_
    refine W.skip ?_
    refine W.seq ?_
    refine W.region ?_
    refine O.move (v := (.int .i64 a1)) rfl rfl rfl ?_
    obtain ⟨⟨t2, t3⟩, hy2, hm⟩ := bind_some hm
    refine O.call Tryd.call8 rfl rfl rfl (c_flag_Digits (hT.mono H.base) _ hy2) ?_
    rintro _ w2 hb2 ⟨v1, rfl, ho1⟩
    have H := H.addOwn hb2 ho1
    refine O.move (v := (.tuple #[v1, (.int .i64 t3)])) rfl rfl rfl ?_
    refine O.extract (v := v1) rfl rfl rfl rfl ?_
    refine O.extract (v := (.int .i64 t3)) rfl rfl rfl rfl ?_
    refine O.assign (v := v1) rfl rfl rfl ?_
    refine O.assign (v := (.int .i64 t3)) rfl rfl rfl ?_
    refine WL.nil ?_
    refine W.seq ?_
    refine W.region ?_
    refine O.move (v := (.int .i64 a1)) rfl rfl rfl ?_
    obtain ⟨⟨t4, t5⟩, hy3, hm⟩ := bind_some hm
    refine O.call Tryd.call9 rfl rfl rfl (c_noongunref07_Digits (hT.mono H.base) _ hy3) ?_
    rintro _ w3 hb3 ⟨v2, rfl, ho2⟩
    have H := H.addOwn hb3 ho2
    refine O.move (v := (.tuple #[v2, (.int .i64 t5)])) rfl rfl rfl ?_
    refine O.extract (v := v2) rfl rfl rfl rfl ?_
    refine O.extract (v := (.int .i64 t5)) rfl rfl rfl rfl ?_
    refine O.assign (v := v2) rfl rfl rfl ?_
    refine O.assign (v := (.int .i64 t5)) rfl rfl rfl ?_
    refine WL.nil ?_
    refine W.seq ?_
    refine W.region ?_
    refine O.move (v := va0) rfl rfl rfl ?_
    obtain ⟨⟨t6, t7⟩, hy4, hm⟩ := bind_some hm
    refine O.call Tryd.call10 rfl rfl rfl (c_flag_Number _ _ (H.arg ha0) hy4) ?_
    rintro _ w4 hb4 rfl
    have H := H.ext hb4
    refine O.move (v := (.tuple #[(.int .i64 t6), (.int .i64 t7)])) rfl rfl rfl ?_
    refine O.extract (v := (.int .i64 t6)) rfl rfl rfl rfl ?_
    refine O.extract (v := (.int .i64 t7)) rfl rfl rfl rfl ?_
    refine O.assign (v := (.int .i64 t6)) rfl rfl rfl ?_
    refine O.assign (v := (.int .i64 t7)) rfl rfl rfl ?_
    refine WL.nil ?_
    refine W.seq ?_
    refine W.region ?_
    refine O.move (v := va0) rfl rfl rfl ?_
    obtain ⟨⟨t8, t9⟩, hy5, hm⟩ := bind_some hm
    refine O.call Tryd.call11 rfl rfl rfl (c_noongunref07_Number _ _ (H.arg ha0) hy5) ?_
    rintro _ w5 hb5 rfl
    have H := H.ext hb5
    refine O.move (v := (.tuple #[(.int .i64 t8), (.int .i64 t9)])) rfl rfl rfl ?_
    refine O.extract (v := (.int .i64 t8)) rfl rfl rfl rfl ?_
    refine O.extract (v := (.int .i64 t9)) rfl rfl rfl rfl ?_
    refine O.assign (v := (.int .i64 t8)) rfl rfl rfl ?_
    refine O.assign (v := (.int .i64 t9)) rfl rfl rfl ?_
    refine WL.nil ?_
    refine W.seq ?_
    refine W.region ?_
    refine O.move (v := va0) rfl rfl rfl ?_
    obtain ⟨⟨t10, t11⟩, hy6, hm⟩ := bind_some hm
    refine O.call Tryd.call12 rfl rfl rfl (c_flag_Turned _ _ (H.arg ha0) hy6) ?_
    rintro _ w6 hb6 ⟨v3, rfl, ho3⟩
    have H := H.addOwn hb6 ho3
    refine O.move (v := (.tuple #[v3, (.int .i64 t11)])) rfl rfl rfl ?_
    refine O.extract (v := v3) rfl rfl rfl rfl ?_
    refine O.extract (v := (.int .i64 t11)) rfl rfl rfl rfl ?_
    refine O.assign (v := v3) rfl rfl rfl ?_
    refine O.assign (v := (.int .i64 t11)) rfl rfl rfl ?_
    refine WL.nil ?_
    refine W.seq ?_
    refine W.region ?_
    refine O.move (v := va0) rfl rfl rfl ?_
    obtain ⟨⟨t12, t13⟩, hy7, hm⟩ := bind_some hm
    refine O.call Tryd.call13 rfl rfl rfl (c_noongunref07_Turned _ _ (H.arg ha0) hy7) ?_
    rintro _ w7 hb7 ⟨v4, rfl, ho4⟩
    have H := H.addOwn hb7 ho4
    refine O.move (v := (.tuple #[v4, (.int .i64 t13)])) rfl rfl rfl ?_
    refine O.extract (v := v4) rfl rfl rfl rfl ?_
    refine O.extract (v := (.int .i64 t13)) rfl rfl rfl rfl ?_
    refine O.assign (v := v4) rfl rfl rfl ?_
    refine O.assign (v := (.int .i64 t13)) rfl rfl rfl ?_
    refine WL.nil ?_
    refine W.seq ?_
    refine W.region ?_
    refine O.move (v := (.int .i64 a1)) rfl rfl rfl ?_
    refine O.move (v := (.int .i64 a2)) rfl rfl rfl ?_
    obtain ⟨⟨t14, t15⟩, hy8, hm⟩ := bind_some hm
    refine O.call Tryd.call14 rfl rfl rfl (c_flag_Distance (hT.mono H.base) _ _ hy8) ?_
    rintro _ w8 hb8 rfl
    have H := H.ext hb8
    refine O.move (v := (.tuple #[(.int .i64 t14), (.int .i64 t15)])) rfl rfl rfl ?_
    refine O.extract (v := (.int .i64 t14)) rfl rfl rfl rfl ?_
    refine O.extract (v := (.int .i64 t15)) rfl rfl rfl rfl ?_
    refine O.assign (v := (.int .i64 t14)) rfl rfl rfl ?_
    refine O.assign (v := (.int .i64 t15)) rfl rfl rfl ?_
    refine WL.nil ?_
    refine W.seq ?_
    refine W.region ?_
    refine O.move (v := (.int .i64 a1)) rfl rfl rfl ?_
    refine O.move (v := (.int .i64 a2)) rfl rfl rfl ?_
    obtain ⟨⟨t16, t17⟩, hy9, hm⟩ := bind_some hm
    refine O.call Tryd.call15 rfl rfl rfl (c_noongunref07_Distance (hT.mono H.base) _ _ hy9) ?_
    rintro _ w9 hb9 rfl
    have H := H.ext hb9
    refine O.move (v := (.tuple #[(.int .i64 t16), (.int .i64 t17)])) rfl rfl rfl ?_
    refine O.extract (v := (.int .i64 t16)) rfl rfl rfl rfl ?_
    refine O.extract (v := (.int .i64 t17)) rfl rfl rfl rfl ?_
    refine O.assign (v := (.int .i64 t16)) rfl rfl rfl ?_
    refine O.assign (v := (.int .i64 t17)) rfl rfl rfl ?_
    refine WL.nil ?_
    refine W.seq ?_
    refine W.seq ?_
    refine W.region ?_
    refine O.move (v := v1) rfl rfl rfl ?_
    refine O.move (v := v2) rfl rfl rfl ?_
    obtain ⟨t18, hy10, hm⟩ := bind_some hm
    refine O.call Tryd.call16 rfl rfl rfl (c_noongunref07_SameInts _ _ (H.own 0 rfl) _ _ (H.own 1 rfl) hy10) ?_
    rintro _ w10 hb10 rfl
    have H := H.ext hb10
    refine O.not rfl rfl rfl ?_
    refine O.move (v := (.bool (!t18))) rfl rfl rfl ?_
    refine WL.cut 4 (fun f w => f 0 = va0 ∧ f 1 = (.int .i64 a1) ∧ f 2 = (.int .i64 a2) ∧ f 7 = v1 ∧ f 8 = (.int .i64 t3) ∧ f 11 = (.int .i64 t6) ∧ f 12 = (.int .i64 t7) ∧ f 13 = (.int .i64 t8) ∧ f 14 = (.int .i64 t9) ∧ f 15 = v3 ∧ f 16 = (.int .i64 t11) ∧ f 17 = v4 ∧ f 18 = (.int .i64 t13) ∧ f 19 = (.int .i64 t14) ∧ f 20 = (.int .i64 t15) ∧ f 21 = (.int .i64 t16) ∧ f 22 = (.int .i64 t17) ∧ f 83 = .bool ((!t18) || (t3 != t5)) ∧ Inv w0 w [ownI (α := Int) v1 3 t2, ownI (α := Int) v2 3 t4, ownI (α := Int) v3 3 t10, ownI (α := Int) v4 3 t12]) ?_ ?_
    · skip
      rcases bool_ft (!t18) with hc2 | hc2
      · skip
        refine WL.reset (i := 79) (v := .bool false) (congrArg Value.bool hc2) ?_
        refine O.move (v := (.int .i64 t3)) rfl rfl rfl ?_
        refine O.move (v := (.int .i64 t5)) rfl rfl rfl ?_
        refine O.neq rfl rfl rfl rfl ?_
        refine O.pick_false (v := (.bool (t3 != t5))) rfl rfl rfl rfl ?_
        refine WL.nil ?_
        exact ⟨rfl, rfl, rfl, rfl, rfl, rfl, rfl, rfl, rfl, rfl, rfl, rfl, rfl, rfl, rfl, rfl, rfl, congrArg Value.bool (or_f hc2), H⟩
      · skip
        refine WL.reset (i := 79) (v := .bool true) (congrArg Value.bool hc2) ?_
        refine O.skip rfl rfl ?_
        refine O.skip rfl rfl ?_
        refine O.skip rfl rfl ?_
        refine O.pick_true (v := (.bool true)) rfl rfl rfl rfl ?_
        refine WL.nil ?_
        exact ⟨rfl, rfl, rfl, rfl, rfl, rfl, rfl, rfl, rfl, rfl, rfl, rfl, rfl, rfl, rfl, rfl, rfl, congrArg Value.bool (or_t hc2), H⟩
    · skip
      rintro f w ⟨hf0, hf1, hf2, hf7, hf8, hf11, hf12, hf13, hf14, hf15, hf16, hf17, hf18, hf19, hf20, hf21, hf22, hf83, H⟩
      obtain ⟨u1, rfl⟩ : ∃ u1, f = (upd (upd (upd (upd (upd (upd (upd (upd (upd (upd (upd (upd (upd (upd (upd (upd (upd (upd u1 0 va0) 1 (.int .i64 a1)) 2 (.int .i64 a2)) 7 v1) 8 (.int .i64 t3)) 11 (.int .i64 t6)) 12 (.int .i64 t7)) 13 (.int .i64 t8)) 14 (.int .i64 t9)) 15 v3) 16 (.int .i64 t11)) 17 v4) 18 (.int .i64 t13)) 19 (.int .i64 t14)) 20 (.int .i64 t15)) 21 (.int .i64 t16)) 22 (.int .i64 t17)) 83 (.bool ((!t18) || (t3 != t5)))) := ⟨f, by rw [upd_self hf0, upd_self hf1, upd_self hf2, upd_self hf7, upd_self hf8, upd_self hf11, upd_self hf12, upd_self hf13, upd_self hf14, upd_self hf15, upd_self hf16, upd_self hf17, upd_self hf18, upd_self hf19, upd_self hf20, upd_self hf21, upd_self hf22, upd_self hf83]⟩
      refine O.move (v := (.bool ((!t18) || (t3 != t5)))) rfl rfl rfl ?_
      refine WL.cut 4 (fun f w => f 0 = va0 ∧ f 1 = (.int .i64 a1) ∧ f 2 = (.int .i64 a2) ∧ f 7 = v1 ∧ f 8 = (.int .i64 t3) ∧ f 12 = (.int .i64 t7) ∧ f 14 = (.int .i64 t9) ∧ f 15 = v3 ∧ f 16 = (.int .i64 t11) ∧ f 17 = v4 ∧ f 18 = (.int .i64 t13) ∧ f 19 = (.int .i64 t14) ∧ f 20 = (.int .i64 t15) ∧ f 21 = (.int .i64 t16) ∧ f 22 = (.int .i64 t17) ∧ f 88 = .bool (((!t18) || (t3 != t5)) || (t6 != t8)) ∧ Inv w0 w [ownI (α := Int) v1 3 t2, ownI (α := Int) v2 3 t4, ownI (α := Int) v3 3 t10, ownI (α := Int) v4 3 t12]) ?_ ?_
      · skip
        rcases bool_ft ((!t18) || (t3 != t5)) with hc3 | hc3
        · skip
          refine WL.reset (i := 84) (v := .bool false) (congrArg Value.bool hc3) ?_
          refine O.move (v := (.int .i64 t6)) rfl rfl rfl ?_
          refine O.move (v := (.int .i64 t8)) rfl rfl rfl ?_
          refine O.neq rfl rfl rfl rfl ?_
          refine O.pick_false (v := (.bool (t6 != t8))) rfl rfl rfl rfl ?_
          refine WL.nil ?_
          exact ⟨rfl, rfl, rfl, rfl, rfl, rfl, rfl, rfl, rfl, rfl, rfl, rfl, rfl, rfl, rfl, congrArg Value.bool (or_f hc3), H⟩
        · skip
          refine WL.reset (i := 84) (v := .bool true) (congrArg Value.bool hc3) ?_
          refine O.skip rfl rfl ?_
          refine O.skip rfl rfl ?_
          refine O.skip rfl rfl ?_
          refine O.pick_true (v := (.bool true)) rfl rfl rfl rfl ?_
          refine WL.nil ?_
          exact ⟨rfl, rfl, rfl, rfl, rfl, rfl, rfl, rfl, rfl, rfl, rfl, rfl, rfl, rfl, rfl, congrArg Value.bool (or_t hc3), H⟩
      · skip
        rintro f w ⟨hf0, hf1, hf2, hf7, hf8, hf12, hf14, hf15, hf16, hf17, hf18, hf19, hf20, hf21, hf22, hf88, H⟩
        obtain ⟨u2, rfl⟩ : ∃ u2, f = (upd (upd (upd (upd (upd (upd (upd (upd (upd (upd (upd (upd (upd (upd (upd (upd u2 0 va0) 1 (.int .i64 a1)) 2 (.int .i64 a2)) 7 v1) 8 (.int .i64 t3)) 12 (.int .i64 t7)) 14 (.int .i64 t9)) 15 v3) 16 (.int .i64 t11)) 17 v4) 18 (.int .i64 t13)) 19 (.int .i64 t14)) 20 (.int .i64 t15)) 21 (.int .i64 t16)) 22 (.int .i64 t17)) 88 (.bool (((!t18) || (t3 != t5)) || (t6 != t8)))) := ⟨f, by rw [upd_self hf0, upd_self hf1, upd_self hf2, upd_self hf7, upd_self hf8, upd_self hf12, upd_self hf14, upd_self hf15, upd_self hf16, upd_self hf17, upd_self hf18, upd_self hf19, upd_self hf20, upd_self hf21, upd_self hf22, upd_self hf88]⟩
        refine O.move (v := (.bool (((!t18) || (t3 != t5)) || (t6 != t8)))) rfl rfl rfl ?_
        refine WL.cut 4 (fun f w => f 0 = va0 ∧ f 1 = (.int .i64 a1) ∧ f 2 = (.int .i64 a2) ∧ f 7 = v1 ∧ f 8 = (.int .i64 t3) ∧ f 15 = v3 ∧ f 16 = (.int .i64 t11) ∧ f 17 = v4 ∧ f 18 = (.int .i64 t13) ∧ f 19 = (.int .i64 t14) ∧ f 20 = (.int .i64 t15) ∧ f 21 = (.int .i64 t16) ∧ f 22 = (.int .i64 t17) ∧ f 93 = .bool ((((!t18) || (t3 != t5)) || (t6 != t8)) || (t7 != t9)) ∧ Inv w0 w [ownI (α := Int) v1 3 t2, ownI (α := Int) v2 3 t4, ownI (α := Int) v3 3 t10, ownI (α := Int) v4 3 t12]) ?_ ?_
        · skip
          rcases bool_ft (((!t18) || (t3 != t5)) || (t6 != t8)) with hc4 | hc4
          · skip
            refine WL.reset (i := 89) (v := .bool false) (congrArg Value.bool hc4) ?_
            refine O.move (v := (.int .i64 t7)) rfl rfl rfl ?_
            refine O.move (v := (.int .i64 t9)) rfl rfl rfl ?_
            refine O.neq rfl rfl rfl rfl ?_
            refine O.pick_false (v := (.bool (t7 != t9))) rfl rfl rfl rfl ?_
            refine WL.nil ?_
            exact ⟨rfl, rfl, rfl, rfl, rfl, rfl, rfl, rfl, rfl, rfl, rfl, rfl, rfl, congrArg Value.bool (or_f hc4), H⟩
          · skip
            refine WL.reset (i := 89) (v := .bool true) (congrArg Value.bool hc4) ?_
            refine O.skip rfl rfl ?_
            refine O.skip rfl rfl ?_
            refine O.skip rfl rfl ?_
            refine O.pick_true (v := (.bool true)) rfl rfl rfl rfl ?_
            refine WL.nil ?_
            exact ⟨rfl, rfl, rfl, rfl, rfl, rfl, rfl, rfl, rfl, rfl, rfl, rfl, rfl, congrArg Value.bool (or_t hc4), H⟩
        · skip
          rintro f w ⟨hf0, hf1, hf2, hf7, hf8, hf15, hf16, hf17, hf18, hf19, hf20, hf21, hf22, hf93, H⟩
          obtain ⟨u3, rfl⟩ : ∃ u3, f = (upd (upd (upd (upd (upd (upd (upd (upd (upd (upd (upd (upd (upd (upd u3 0 va0) 1 (.int .i64 a1)) 2 (.int .i64 a2)) 7 v1) 8 (.int .i64 t3)) 15 v3) 16 (.int .i64 t11)) 17 v4) 18 (.int .i64 t13)) 19 (.int .i64 t14)) 20 (.int .i64 t15)) 21 (.int .i64 t16)) 22 (.int .i64 t17)) 93 (.bool ((((!t18) || (t3 != t5)) || (t6 != t8)) || (t7 != t9)))) := ⟨f, by rw [upd_self hf0, upd_self hf1, upd_self hf2, upd_self hf7, upd_self hf8, upd_self hf15, upd_self hf16, upd_self hf17, upd_self hf18, upd_self hf19, upd_self hf20, upd_self hf21, upd_self hf22, upd_self hf93]⟩
          refine O.move (v := (.bool ((((!t18) || (t3 != t5)) || (t6 != t8)) || (t7 != t9)))) rfl rfl rfl ?_
          obtain ⟨b1, hm1, hm⟩ := bind_some hm
          refine WL.cut 5 (fun f w => f 0 = va0 ∧ f 1 = (.int .i64 a1) ∧ f 2 = (.int .i64 a2) ∧ f 7 = v1 ∧ f 8 = (.int .i64 t3) ∧ f 15 = v3 ∧ f 16 = (.int .i64 t11) ∧ f 18 = (.int .i64 t13) ∧ f 19 = (.int .i64 t14) ∧ f 20 = (.int .i64 t15) ∧ f 21 = (.int .i64 t16) ∧ f 22 = (.int .i64 t17) ∧ f 99 = .bool b1 ∧ Inv w0 w [ownI (α := Int) v1 3 t2, ownI (α := Int) v2 3 t4, ownI (α := Int) v3 3 t10, ownI (α := Int) v4 3 t12]) ?_ ?_
          · skip
            rcases ite_some hm1 with ⟨hc5, hm1⟩ | ⟨hc5, hm1⟩
            · skip
              refine WL.reset (i := 94) (v := .bool true) (congrArg Value.bool hc5) ?_
              refine O.skip rfl rfl ?_
              refine O.skip rfl rfl ?_
              refine O.skip rfl rfl ?_
              refine O.skip rfl rfl ?_
              refine O.pick_true (v := (.bool true)) rfl rfl rfl rfl ?_
              refine WL.nil ?_
              have hq : true = b1 := Option.some.inj (show some true = some b1 from hm1)
              subst hq
              exact ⟨rfl, rfl, rfl, rfl, rfl, rfl, rfl, rfl, rfl, rfl, rfl, rfl, rfl, H⟩
            · skip
              refine WL.reset (i := 94) (v := .bool false) (congrArg Value.bool hc5) ?_
              refine O.move (v := v3) rfl rfl rfl ?_
              refine O.move (v := v4) rfl rfl rfl ?_
              obtain ⟨t19, hy11, hm1⟩ := bind_some hm1
              refine O.call Tryd.call16 rfl rfl rfl (c_noongunref07_SameInts _ _ (H.own 2 rfl) _ _ (H.own 3 rfl) hy11) ?_
              rintro _ w11 hb11 rfl
              have H := H.ext hb11
              refine O.not rfl rfl rfl ?_
              refine O.pick_false (v := (.bool (!t19))) rfl rfl rfl rfl ?_
              refine WL.nil ?_
              have hq : (!t19) = b1 := Option.some.inj (show some (!t19) = some b1 from hm1)
              subst hq
              exact ⟨rfl, rfl, rfl, rfl, rfl, rfl, rfl, rfl, rfl, rfl, rfl, rfl, rfl, H⟩
          · skip
            rintro f w ⟨hf0, hf1, hf2, hf7, hf8, hf15, hf16, hf18, hf19, hf20, hf21, hf22, hf99, H⟩
            obtain ⟨u4, rfl⟩ : ∃ u4, f = (upd (upd (upd (upd (upd (upd (upd (upd (upd (upd (upd (upd (upd u4 0 va0) 1 (.int .i64 a1)) 2 (.int .i64 a2)) 7 v1) 8 (.int .i64 t3)) 15 v3) 16 (.int .i64 t11)) 18 (.int .i64 t13)) 19 (.int .i64 t14)) 20 (.int .i64 t15)) 21 (.int .i64 t16)) 22 (.int .i64 t17)) 99 (.bool b1)) := ⟨f, by rw [upd_self hf0, upd_self hf1, upd_self hf2, upd_self hf7, upd_self hf8, upd_self hf15, upd_self hf16, upd_self hf18, upd_self hf19, upd_self hf20, upd_self hf21, upd_self hf22, upd_self hf99]⟩
            refine O.move (v := (.bool b1)) rfl rfl rfl ?_
            refine WL.cut 4 (fun f w => f 0 = va0 ∧ f 1 = (.int .i64 a1) ∧ f 2 = (.int .i64 a2) ∧ f 7 = v1 ∧ f 8 = (.int .i64 t3) ∧ f 15 = v3 ∧ f 16 = (.int .i64 t11) ∧ f 19 = (.int .i64 t14) ∧ f 20 = (.int .i64 t15) ∧ f 21 = (.int .i64 t16) ∧ f 22 = (.int .i64 t17) ∧ f 104 = .bool (b1 || (t11 != t13)) ∧ Inv w0 w [ownI (α := Int) v1 3 t2, ownI (α := Int) v2 3 t4, ownI (α := Int) v3 3 t10, ownI (α := Int) v4 3 t12]) ?_ ?_
            · skip
              rcases bool_ft b1 with hc6 | hc6
              · skip
                refine WL.reset (i := 100) (v := .bool false) (congrArg Value.bool hc6) ?_
                refine O.move (v := (.int .i64 t11)) rfl rfl rfl ?_
                refine O.move (v := (.int .i64 t13)) rfl rfl rfl ?_
                refine O.neq rfl rfl rfl rfl ?_
                refine O.pick_false (v := (.bool (t11 != t13))) rfl rfl rfl rfl ?_
                refine WL.nil ?_
                exact ⟨rfl, rfl, rfl, rfl, rfl, rfl, rfl, rfl, rfl, rfl, rfl, congrArg Value.bool (or_f hc6), H⟩
              · skip
                refine WL.reset (i := 100) (v := .bool true) (congrArg Value.bool hc6) ?_
                refine O.skip rfl rfl ?_
                refine O.skip rfl rfl ?_
                refine O.skip rfl rfl ?_
                refine O.pick_true (v := (.bool true)) rfl rfl rfl rfl ?_
                refine WL.nil ?_
                exact ⟨rfl, rfl, rfl, rfl, rfl, rfl, rfl, rfl, rfl, rfl, rfl, congrArg Value.bool (or_t hc6), H⟩
            · skip
              rintro f w ⟨hf0, hf1, hf2, hf7, hf8, hf15, hf16, hf19, hf20, hf21, hf22, hf104, H⟩
              obtain ⟨u5, rfl⟩ : ∃ u5, f = (upd (upd (upd (upd (upd (upd (upd (upd (upd (upd (upd (upd u5 0 va0) 1 (.int .i64 a1)) 2 (.int .i64 a2)) 7 v1) 8 (.int .i64 t3)) 15 v3) 16 (.int .i64 t11)) 19 (.int .i64 t14)) 20 (.int .i64 t15)) 21 (.int .i64 t16)) 22 (.int .i64 t17)) 104 (.bool (b1 || (t11 != t13)))) := ⟨f, by rw [upd_self hf0, upd_self hf1, upd_self hf2, upd_self hf7, upd_self hf8, upd_self hf15, upd_self hf16, upd_self hf19, upd_self hf20, upd_self hf21, upd_self hf22, upd_self hf104]⟩
              refine O.move (v := (.bool (b1 || (t11 != t13)))) rfl rfl rfl ?_
              refine WL.cut 4 (fun f w => f 0 = va0 ∧ f 1 = (.int .i64 a1) ∧ f 2 = (.int .i64 a2) ∧ f 7 = v1 ∧ f 8 = (.int .i64 t3) ∧ f 15 = v3 ∧ f 16 = (.int .i64 t11) ∧ f 19 = (.int .i64 t14) ∧ f 20 = (.int .i64 t15) ∧ f 22 = (.int .i64 t17) ∧ f 109 = .bool ((b1 || (t11 != t13)) || (t14 != t16)) ∧ Inv w0 w [ownI (α := Int) v1 3 t2, ownI (α := Int) v2 3 t4, ownI (α := Int) v3 3 t10, ownI (α := Int) v4 3 t12]) ?_ ?_
              · skip
                rcases bool_ft (b1 || (t11 != t13)) with hc7 | hc7
                · skip
                  refine WL.reset (i := 105) (v := .bool false) (congrArg Value.bool hc7) ?_
                  refine O.move (v := (.int .i64 t14)) rfl rfl rfl ?_
                  refine O.move (v := (.int .i64 t16)) rfl rfl rfl ?_
                  refine O.neq rfl rfl rfl rfl ?_
                  refine O.pick_false (v := (.bool (t14 != t16))) rfl rfl rfl rfl ?_
                  refine WL.nil ?_
                  exact ⟨rfl, rfl, rfl, rfl, rfl, rfl, rfl, rfl, rfl, rfl, congrArg Value.bool (or_f hc7), H⟩
                · skip
                  refine WL.reset (i := 105) (v := .bool true) (congrArg Value.bool hc7) ?_
                  refine O.skip rfl rfl ?_
                  refine O.skip rfl rfl ?_
                  refine O.skip rfl rfl ?_
                  refine O.pick_true (v := (.bool true)) rfl rfl rfl rfl ?_
                  refine WL.nil ?_
                  exact ⟨rfl, rfl, rfl, rfl, rfl, rfl, rfl, rfl, rfl, rfl, congrArg Value.bool (or_t hc7), H⟩
              · skip
                rintro f w ⟨hf0, hf1, hf2, hf7, hf8, hf15, hf16, hf19, hf20, hf22, hf109, H⟩
                obtain ⟨u6, rfl⟩ : ∃ u6, f = (upd (upd (upd (upd (upd (upd (upd (upd (upd (upd (upd u6 0 va0) 1 (.int .i64 a1)) 2 (.int .i64 a2)) 7 v1) 8 (.int .i64 t3)) 15 v3) 16 (.int .i64 t11)) 19 (.int .i64 t14)) 20 (.int .i64 t15)) 22 (.int .i64 t17)) 109 (.bool ((b1 || (t11 != t13)) || (t14 != t16)))) := ⟨f, by rw [upd_self hf0, upd_self hf1, upd_self hf2, upd_self hf7, upd_self hf8, upd_self hf15, upd_self hf16, upd_self hf19, upd_self hf20, upd_self hf22, upd_self hf109]⟩
                refine O.move (v := (.bool ((b1 || (t11 != t13)) || (t14 != t16)))) rfl rfl rfl ?_
                refine WL.cut 4 (fun f w => f 0 = va0 ∧ f 1 = (.int .i64 a1) ∧ f 2 = (.int .i64 a2) ∧ f 7 = v1 ∧ f 8 = (.int .i64 t3) ∧ f 15 = v3 ∧ f 16 = (.int .i64 t11) ∧ f 19 = (.int .i64 t14) ∧ f 20 = (.int .i64 t15) ∧ f 114 = .bool (((b1 || (t11 != t13)) || (t14 != t16)) || (t15 != t17)) ∧ Inv w0 w [ownI (α := Int) v1 3 t2, ownI (α := Int) v2 3 t4, ownI (α := Int) v3 3 t10, ownI (α := Int) v4 3 t12]) ?_ ?_
                · skip
                  rcases bool_ft ((b1 || (t11 != t13)) || (t14 != t16)) with hc8 | hc8
                  · skip
                    refine WL.reset (i := 110) (v := .bool false) (congrArg Value.bool hc8) ?_
                    refine O.move (v := (.int .i64 t15)) rfl rfl rfl ?_
                    refine O.move (v := (.int .i64 t17)) rfl rfl rfl ?_
                    refine O.neq rfl rfl rfl rfl ?_
                    refine O.pick_false (v := (.bool (t15 != t17))) rfl rfl rfl rfl ?_
                    refine WL.nil ?_
                    exact ⟨rfl, rfl, rfl, rfl, rfl, rfl, rfl, rfl, rfl, congrArg Value.bool (or_f hc8), H⟩
                  · skip
                    refine WL.reset (i := 110) (v := .bool true) (congrArg Value.bool hc8) ?_
                    refine O.skip rfl rfl ?_
                    refine O.skip rfl rfl ?_
                    refine O.skip rfl rfl ?_
                    refine O.pick_true (v := (.bool true)) rfl rfl rfl rfl ?_
                    refine WL.nil ?_
                    exact ⟨rfl, rfl, rfl, rfl, rfl, rfl, rfl, rfl, rfl, congrArg Value.bool (or_t hc8), H⟩
                · skip
                  rintro f w ⟨hf0, hf1, hf2, hf7, hf8, hf15, hf16, hf19, hf20, hf114, H⟩
                  obtain ⟨u7, rfl⟩ : ∃ u7, f = (upd (upd (upd (upd (upd (upd (upd (upd (upd (upd u7 0 va0) 1 (.int .i64 a1)) 2 (.int .i64 a2)) 7 v1) 8 (.int .i64 t3)) 15 v3) 16 (.int .i64 t11)) 19 (.int .i64 t14)) 20 (.int .i64 t15)) 114 (.bool (((b1 || (t11 != t13)) || (t14 != t16)) || (t15 != t17)))) := ⟨f, by rw [upd_self hf0, upd_self hf1, upd_self hf2, upd_self hf7, upd_self hf8, upd_self hf15, upd_self hf16, upd_self hf19, upd_self hf20, upd_self hf114]⟩
                  refine WL.nil ?_
                  rcases ite_some hm with ⟨hc9, hm⟩ | ⟨hc9, hm⟩
                  · refine W.cond_true (congrArg Value.bool hc9) ?_
                    refine W.seq ?_
                    refine W.region ?_
                    refine O.assign (v := (.bool false)) rfl rfl rfl ?_
                    refine WL.nil ?_
                    refine W.ret ?_
                    have hq : false = r0 := Option.some.inj (show some false = some r0 from hm)
                    subst hq
                    exact ends1 Tryd.results3 rfl ⟨_, rfl, H.base, rfl⟩
                  · refine W.cond_false (congrArg Value.bool hc9) ?_
                    refine W.skip ?_
                    refine W.seq ?_
                    refine W.seq ?_
                    refine W.region ?_
                    refine O.move (v := (.int .i64 t3)) rfl rfl rfl ?_
                    refine O.eql rfl rfl rfl rfl ?_
                    refine WL.nil ?_
                    obtain ⟨o1, hm2, hm⟩ := bind_some hm
                    refine W.via (fun f w => o1 = .next () ∧ f 0 = va0 ∧ f 1 = (.int .i64 a1) ∧ f 2 = (.int .i64 a2) ∧ f 15 = v3 ∧ f 16 = (.int .i64 t11) ∧ f 19 = (.int .i64 t14) ∧ f 20 = (.int .i64 t15) ∧ Inv w0 w [ownI (α := Int) v3 3 t10]) ?_ ?_
                    · skip
                      rcases ite_some hm2 with ⟨hc10, hm2⟩ | ⟨hc10, hm2⟩
                      · refine W.cond_true (congrArg Value.bool hc10) ?_
                        refine W.seq ?_
                        refine W.region ?_
                        refine O.move (v := v1) rfl rfl rfl ?_
                        obtain ⟨⟨t20, t21⟩, hy12, hm2⟩ := bind_some hm2
                        refine O.call Tryd.call10 rfl rfl rfl (c_flag_Number _ _ (H.own 0 rfl) hy12) ?_
                        rintro _ w12 hb12 rfl
                        have H := H.ext hb12
                        refine O.move (v := (.tuple #[(.int .i64 t20), (.int .i64 t21)])) rfl rfl rfl ?_
                        refine O.extract (v := (.int .i64 t20)) rfl rfl rfl rfl ?_
                        refine O.extract (v := (.int .i64 t21)) rfl rfl rfl rfl ?_
                        refine O.assign (v := (.int .i64 t20)) rfl rfl rfl ?_
                        refine O.assign (v := (.int .i64 t21)) rfl rfl rfl ?_
                        refine WL.nil ?_
                        refine W.seq ?_
                        refine W.region ?_
                        refine O.move (v := (.int .i64 t21)) rfl rfl rfl ?_
                        refine O.neq rfl rfl rfl rfl ?_
                        refine O.move (v := (.bool (t21 != 0))) rfl rfl rfl ?_
                        refine WL.cut 4 (fun f w => f 0 = va0 ∧ f 1 = (.int .i64 a1) ∧ f 2 = (.int .i64 a2) ∧ f 15 = v3 ∧ f 16 = (.int .i64 t11) ∧ f 19 = (.int .i64 t14) ∧ f 20 = (.int .i64 t15) ∧ f 128 = .bool ((t21 != 0) || (t20 != a1)) ∧ Inv w0 w [ownI (α := Int) v1 3 t2, ownI (α := Int) v2 3 t4, ownI (α := Int) v3 3 t10, ownI (α := Int) v4 3 t12]) ?_ ?_
                        · skip
                          rcases bool_ft (t21 != 0) with hc11 | hc11
                          · skip
                            refine WL.reset (i := 124) (v := .bool false) (congrArg Value.bool hc11) ?_
                            refine O.move (v := (.int .i64 t20)) rfl rfl rfl ?_
                            refine O.move (v := (.int .i64 a1)) rfl rfl rfl ?_
                            refine O.neq rfl rfl rfl rfl ?_
                            refine O.pick_false (v := (.bool (t20 != a1))) rfl rfl rfl rfl ?_
                            refine WL.nil ?_
                            exact ⟨rfl, rfl, rfl, rfl, rfl, rfl, rfl, congrArg Value.bool (or_f hc11), H⟩
                          · skip
                            refine WL.reset (i := 124) (v := .bool true) (congrArg Value.bool hc11) ?_
                            refine O.skip rfl rfl ?_
                            refine O.skip rfl rfl ?_
                            refine O.skip rfl rfl ?_
                            refine O.pick_true (v := (.bool true)) rfl rfl rfl rfl ?_
                            refine WL.nil ?_
                            exact ⟨rfl, rfl, rfl, rfl, rfl, rfl, rfl, congrArg Value.bool (or_t hc11), H⟩
                        · skip
                          rintro f w ⟨hf0, hf1, hf2, hf15, hf16, hf19, hf20, hf128, H⟩
                          obtain ⟨u8, rfl⟩ : ∃ u8, f = (upd (upd (upd (upd (upd (upd (upd (upd u8 0 va0) 1 (.int .i64 a1)) 2 (.int .i64 a2)) 15 v3) 16 (.int .i64 t11)) 19 (.int .i64 t14)) 20 (.int .i64 t15)) 128 (.bool ((t21 != 0) || (t20 != a1)))) := ⟨f, by rw [upd_self hf0, upd_self hf1, upd_self hf2, upd_self hf15, upd_self hf16, upd_self hf19, upd_self hf20, upd_self hf128]⟩
                          refine WL.nil ?_
                          rcases ite_some hm2 with ⟨hc12, hm2⟩ | ⟨hc12, hm2⟩
                          · refine W.cond_true (congrArg Value.bool hc12) ?_
                            refine W.seq ?_
                            refine W.region ?_
                            refine O.assign (v := (.bool false)) rfl rfl rfl ?_
                            refine WL.nil ?_
                            refine W.ret ?_
                            obtain rfl := Option.some.inj hm2
                            have hq : false = r0 := Option.some.inj (show some false = some r0 from hm)
                            subst hq
                            exact ends1 Tryd.results3 rfl ⟨_, rfl, H.base, rfl⟩
                          · refine W.cond_false (congrArg Value.bool hc12) ?_
                            refine W.skip ?_
                            have H := H.keep [2] [ownI (α := Int) v3 3 t10] rfl (by decide)
                            obtain rfl := Option.some.inj hm2
                            exact ⟨rfl, rfl, rfl, rfl, rfl, rfl, rfl, rfl, H⟩
                      · refine W.cond_false (congrArg Value.bool hc10) ?_
                        refine W.skip ?_
                        have H := H.keep [2] [ownI (α := Int) v3 3 t10] rfl (by decide)
                        obtain rfl := Option.some.inj hm2
                        exact ⟨rfl, rfl, rfl, rfl, rfl, rfl, rfl, rfl, H⟩
                    · skip
                      rintro f w ⟨rfl, hf0, hf1, hf2, hf15, hf16, hf19, hf20, H⟩
                      obtain ⟨u9, rfl⟩ : ∃ u9, f = (upd (upd (upd (upd (upd (upd (upd u9 0 va0) 1 (.int .i64 a1)) 2 (.int .i64 a2)) 15 v3) 16 (.int .i64 t11)) 19 (.int .i64 t14)) 20 (.int .i64 t15)) := ⟨f, by rw [upd_self hf0, upd_self hf1, upd_self hf2, upd_self hf15, upd_self hf16, upd_self hf19, upd_self hf20]⟩
                      refine W.seq ?_
                      refine W.seq ?_
                      refine W.region ?_
                      refine O.move (v := (.int .i64 t15)) rfl rfl rfl ?_
                      refine O.eql rfl rfl rfl rfl ?_
                      refine WL.nil ?_
                      obtain ⟨o2, hm3, hm⟩ := bind_some hm
                      refine W.via (fun f w => o2 = .next () ∧ f 0 = va0 ∧ f 15 = v3 ∧ f 16 = (.int .i64 t11) ∧ Inv w0 w [ownI (α := Int) v3 3 t10]) ?_ ?_
                      · skip
                        rcases ite_some hm3 with ⟨hc13, hm3⟩ | ⟨hc13, hm3⟩
                        · refine W.cond_true (congrArg Value.bool hc13) ?_
                          refine W.seq ?_
                          refine W.region ?_
                          refine O.move (v := (.int .i64 a2)) rfl rfl rfl ?_
                          refine O.move (v := (.int .i64 a1)) rfl rfl rfl ?_
                          obtain ⟨⟨t22, t23⟩, hy13, hm3⟩ := bind_some hm3
                          refine O.call Tryd.call14 rfl rfl rfl (c_flag_Distance (hT.mono H.base) _ _ hy13) ?_
                          rintro _ w13 hb13 rfl
                          have H := H.ext hb13
                          refine O.move (v := (.tuple #[(.int .i64 t22), (.int .i64 t23)])) rfl rfl rfl ?_
                          refine O.extract (v := (.int .i64 t22)) rfl rfl rfl rfl ?_
                          refine O.extract (v := (.int .i64 t23)) rfl rfl rfl rfl ?_
                          refine O.assign (v := (.int .i64 t22)) rfl rfl rfl ?_
                          refine O.assign (v := (.int .i64 t23)) rfl rfl rfl ?_
                          refine WL.nil ?_
                          refine W.seq ?_
                          refine W.region ?_
                          refine O.move (v := (.int .i64 t23)) rfl rfl rfl ?_
                          refine O.neq rfl rfl rfl rfl ?_
                          refine O.move (v := (.bool (t23 != 0))) rfl rfl rfl ?_
                          refine WL.cut 4 (fun f w => f 0 = va0 ∧ f 1 = (.int .i64 a1) ∧ f 2 = (.int .i64 a2) ∧ f 15 = v3 ∧ f 16 = (.int .i64 t11) ∧ f 19 = (.int .i64 t14) ∧ f 143 = .bool ((t23 != 0) || (t22 != t14)) ∧ Inv w0 w [ownI (α := Int) v3 3 t10]) ?_ ?_
                          · skip
                            rcases bool_ft (t23 != 0) with hc14 | hc14
                            · skip
                              refine WL.reset (i := 139) (v := .bool false) (congrArg Value.bool hc14) ?_
                              refine O.move (v := (.int .i64 t22)) rfl rfl rfl ?_
                              refine O.move (v := (.int .i64 t14)) rfl rfl rfl ?_
                              refine O.neq rfl rfl rfl rfl ?_
                              refine O.pick_false (v := (.bool (t22 != t14))) rfl rfl rfl rfl ?_
                              refine WL.nil ?_
                              exact ⟨rfl, rfl, rfl, rfl, rfl, rfl, congrArg Value.bool (or_f hc14), H⟩
                            · skip
                              refine WL.reset (i := 139) (v := .bool true) (congrArg Value.bool hc14) ?_
                              refine O.skip rfl rfl ?_
                              refine O.skip rfl rfl ?_
                              refine O.skip rfl rfl ?_
                              refine O.pick_true (v := (.bool true)) rfl rfl rfl rfl ?_
                              refine WL.nil ?_
                              exact ⟨rfl, rfl, rfl, rfl, rfl, rfl, congrArg Value.bool (or_t hc14), H⟩
                          · skip
                            rintro f w ⟨hf0, hf1, hf2, hf15, hf16, hf19, hf143, H⟩
                            obtain ⟨u10, rfl⟩ : ∃ u10, f = (upd (upd (upd (upd (upd (upd (upd u10 0 va0) 1 (.int .i64 a1)) 2 (.int .i64 a2)) 15 v3) 16 (.int .i64 t11)) 19 (.int .i64 t14)) 143 (.bool ((t23 != 0) || (t22 != t14)))) := ⟨f, by rw [upd_self hf0, upd_self hf1, upd_self hf2, upd_self hf15, upd_self hf16, upd_self hf19, upd_self hf143]⟩
                            refine O.move (v := (.bool ((t23 != 0) || (t22 != t14)))) rfl rfl rfl ?_
                            refine WL.cut 7 (fun f w => f 0 = va0 ∧ f 15 = v3 ∧ f 16 = (.int .i64 t11) ∧ f 151 = .bool (((t23 != 0) || (t22 != t14)) || ((t14 == 0) != (a1 == a2))) ∧ Inv w0 w [ownI (α := Int) v3 3 t10]) ?_ ?_
                            · skip
                              rcases bool_ft ((t23 != 0) || (t22 != t14)) with hc15 | hc15
                              · skip
                                refine WL.reset (i := 144) (v := .bool false) (congrArg Value.bool hc15) ?_
                                refine O.move (v := (.int .i64 t14)) rfl rfl rfl ?_
                                refine O.eql rfl rfl rfl rfl ?_
                                refine O.move (v := (.int .i64 a1)) rfl rfl rfl ?_
                                refine O.move (v := (.int .i64 a2)) rfl rfl rfl ?_
                                refine O.eql rfl rfl rfl rfl ?_
                                refine O.neqB Tryd.underlying4 rfl rfl rfl rfl ?_
                                refine O.pick_false (v := (.bool ((t14 == 0) != (a1 == a2)))) rfl rfl rfl rfl ?_
                                refine WL.nil ?_
                                exact ⟨rfl, rfl, rfl, congrArg Value.bool (or_f hc15), H⟩
                              · skip
                                refine WL.reset (i := 144) (v := .bool true) (congrArg Value.bool hc15) ?_
                                refine O.skip rfl rfl ?_
                                refine O.skip rfl rfl ?_
                                refine O.skip rfl rfl ?_
                                refine O.skip rfl rfl ?_
                                refine O.skip rfl rfl ?_
                                refine O.skip rfl rfl ?_
                                refine O.pick_true (v := (.bool true)) rfl rfl rfl rfl ?_
                                refine WL.nil ?_
                                exact ⟨rfl, rfl, rfl, congrArg Value.bool (or_t hc15), H⟩
                            · skip
                              rintro f w ⟨hf0, hf15, hf16, hf151, H⟩
                              obtain ⟨u11, rfl⟩ : ∃ u11, f = (upd (upd (upd (upd u11 0 va0) 15 v3) 16 (.int .i64 t11)) 151 (.bool (((t23 != 0) || (t22 != t14)) || ((t14 == 0) != (a1 == a2))))) := ⟨f, by rw [upd_self hf0, upd_self hf15, upd_self hf16, upd_self hf151]⟩
                              refine WL.nil ?_
                              rcases ite_some hm3 with ⟨hc16, hm3⟩ | ⟨hc16, hm3⟩
                              · refine W.cond_true (congrArg Value.bool hc16) ?_
                                refine W.seq ?_
                                refine W.region ?_
                                refine O.assign (v := (.bool false)) rfl rfl rfl ?_
                                refine WL.nil ?_
                                refine W.ret ?_
                                obtain rfl := Option.some.inj hm3
                                have hq : false = r0 := Option.some.inj (show some false = some r0 from hm)
                                subst hq
                                exact ends1 Tryd.results3 rfl ⟨_, rfl, H.base, rfl⟩
                              · refine W.cond_false (congrArg Value.bool hc16) ?_
                                refine W.skip ?_
                                obtain rfl := Option.some.inj hm3
                                exact ⟨rfl, rfl, rfl, rfl, H⟩
                        · refine W.cond_false (congrArg Value.bool hc13) ?_
                          refine W.skip ?_
                          obtain rfl := Option.some.inj hm3
                          exact ⟨rfl, rfl, rfl, rfl, H⟩
                      · skip
                        rintro f w ⟨rfl, hf0, hf15, hf16, H⟩
                        obtain ⟨u12, rfl⟩ : ∃ u12, f = (upd (upd (upd u12 0 va0) 15 v3) 16 (.int .i64 t11)) := ⟨f, by rw [upd_self hf0, upd_self hf15, upd_self hf16]⟩
                        refine W.seq ?_
                        refine W.seq ?_
                        refine W.region ?_
                        refine O.move (v := (.int .i64 t11)) rfl rfl rfl ?_
                        refine O.neq rfl rfl rfl rfl ?_
                        refine WL.nil ?_
                        rcases ite_some hm with ⟨hc17, hm⟩ | ⟨hc17, hm⟩
                        · refine W.cond_true (congrArg Value.bool hc17) ?_
                          refine W.seq ?_
                          refine W.region ?_
                          obtain ⟨t24, hy14, hm⟩ := bind_some hm
                          refine O.call Tryd.call7 rfl rfl rfl (c_noongunlaw07_awake  hy14) ?_
                          rintro _ w14 hb14 rfl
                          have H := H.ext hb14
                          refine O.assign (v := (.bool t24)) rfl rfl rfl ?_
                          refine WL.nil ?_
                          refine W.ret ?_
                          have hq : t24 = r0 := Option.some.inj (show some t24 = some r0 from hm)
                          subst hq
                          exact ends1 Tryd.results3 rfl ⟨_, rfl, H.base, rfl⟩
                        · refine W.cond_false (congrArg Value.bool hc17) ?_
                          refine W.skip ?_
                          refine W.seq ?_
                          refine W.region ?_
                          refine O.move (v := v3) rfl rfl rfl ?_
                          obtain ⟨⟨t25, t26⟩, hy15, hm⟩ := bind_some hm
                          refine O.call Tryd.call12 rfl rfl rfl (c_flag_Turned _ _ (H.own 0 rfl) hy15) ?_
                          rintro _ w15 hb15 ⟨v5, rfl, ho5⟩
                          have H := H.addOwn hb15 ho5
                          refine O.move (v := (.tuple #[v5, (.int .i64 t26)])) rfl rfl rfl ?_
                          refine O.extract (v := v5) rfl rfl rfl rfl ?_
                          refine O.extract (v := (.int .i64 t26)) rfl rfl rfl rfl ?_
                          refine O.assign (v := v5) rfl rfl rfl ?_
                          refine O.assign (v := (.int .i64 t26)) rfl rfl rfl ?_
                          refine WL.nil ?_
                          refine W.seq ?_
                          refine W.region ?_
                          refine O.move (v := (.int .i64 t26)) rfl rfl rfl ?_
                          refine O.eql rfl rfl rfl rfl ?_
                          refine O.move (v := (.bool (t26 == 0))) rfl rfl rfl ?_
                          obtain ⟨b2, hm4, hm⟩ := bind_some hm
                          refine WL.cut 4 (fun f w => f 166 = .bool b2 ∧ Inv w0 w [ownI (α := Int) v3 3 t10, ownI (α := Int) v5 3 t25]) ?_ ?_
                          · skip
                            rcases ite_some hm4 with ⟨hc18, hm4⟩ | ⟨hc18, hm4⟩
                            · skip
                              refine WL.reset (i := 162) (v := .bool true) (congrArg Value.bool hc18) ?_
                              refine O.move (v := v5) rfl rfl rfl ?_
                              refine O.move (v := va0) rfl rfl rfl ?_
                              obtain ⟨t27, hy16, hm4⟩ := bind_some hm4
                              refine O.call Tryd.call16 rfl rfl rfl (c_noongunref07_SameInts _ _ (H.own 1 rfl) _ _ (H.arg ha0) hy16) ?_
                              rintro _ w16 hb16 rfl
                              have H := H.ext hb16
                              refine O.pick_true (v := (.bool t27)) rfl rfl rfl rfl ?_
                              refine WL.nil ?_
                              have hq : t27 = b2 := Option.some.inj (show some t27 = some b2 from hm4)
                              subst hq
                              exact ⟨rfl, H⟩
                            · skip
                              refine WL.reset (i := 162) (v := .bool false) (congrArg Value.bool hc18) ?_
                              refine O.skip rfl rfl ?_
                              refine O.skip rfl rfl ?_
                              refine O.skip rfl rfl ?_
                              refine O.pick_false (v := (.bool false)) rfl rfl rfl rfl ?_
                              refine WL.nil ?_
                              have hq : false = b2 := Option.some.inj (show some false = some b2 from hm4)
                              subst hq
                              exact ⟨rfl, H⟩
                          · skip
                            rintro f w ⟨hf166, H⟩
                            obtain ⟨u13, rfl⟩ : ∃ u13, f = (upd u13 166 (.bool b2)) := ⟨f, by rw [upd_self hf166]⟩
                            refine O.move (v := (.bool b2)) rfl rfl rfl ?_
                            obtain ⟨b3, hm5, hm⟩ := bind_some hm
                            refine WL.cut 2 (fun f w => f 169 = .bool b3 ∧ Inv w0 w [ownI (α := Int) v3 3 t10, ownI (α := Int) v5 3 t25]) ?_ ?_
                            · skip
                              rcases ite_some hm5 with ⟨hc19, hm5⟩ | ⟨hc19, hm5⟩
                              · skip
                                refine WL.reset (i := 167) (v := .bool true) (congrArg Value.bool hc19) ?_
                                obtain ⟨t28, hy17, hm5⟩ := bind_some hm5
                                refine O.call Tryd.call7 rfl rfl rfl (c_noongunlaw07_awake  hy17) ?_
                                rintro _ w17 hb17 rfl
                                have H := H.ext hb17
                                refine O.pick_true (v := (.bool t28)) rfl rfl rfl rfl ?_
                                refine WL.nil ?_
                                have hq : t28 = b3 := Option.some.inj (show some t28 = some b3 from hm5)
                                subst hq
                                exact ⟨rfl, H⟩
                              · skip
                                refine WL.reset (i := 167) (v := .bool false) (congrArg Value.bool hc19) ?_
                                refine O.skip rfl rfl ?_
                                refine O.pick_false (v := (.bool false)) rfl rfl rfl rfl ?_
                                refine WL.nil ?_
                                have hq : false = b3 := Option.some.inj (show some false = some b3 from hm5)
                                subst hq
                                exact ⟨rfl, H⟩
                            · skip
                              rintro f w ⟨hf169, H⟩
                              obtain ⟨u14, rfl⟩ : ∃ u14, f = (upd u14 169 (.bool b3)) := ⟨f, by rw [upd_self hf169]⟩
                              refine O.assign (v := (.bool b3)) rfl rfl rfl ?_
                              refine WL.nil ?_
                              refine W.ret ?_
                              have hq : b3 = r0 := Option.some.inj (show some b3 = some r0 from hm)
                              subst hq
                              exact ends1 Tryd.results3 rfl ⟨_, rfl, H.base, rfl⟩

set_option maxRecDepth 20000 in
theorem c_noongunlaw07_fit {w0 : World} (va0 : Value) (a0 : (List GMeaning)) (ha0 : SliceR w0 va0 a0) {r0 : Bool} (hm : noongunlaw07_fit a0 = some r0) :
    Calls Tryd.prog 17 #[va0] w0 (Ret w0 fun _ v => v = (.bool r0)) := by
  unfold noongunlaw07_fit at hm
  refine calls_of_W Tryd.func17 rfl Tryd.ntmps17 (Nat.le_of_ble_eq_true rfl) ?_
  have H := Inv.start (w := w0)
  refine W.seq ?_
  refine W.region ?_
  refine O.assign (v := (.bool false)) rfl rfl rfl ?_
  refine WL.nil ?_
  refine W.seq ?_
  refine W.seq ?_
  refine W.region ?_
  refine O.move (v := va0) rfl rfl rfl ?_
  refine O.lenS Tryd.underlying33 (H.arg ha0) rfl rfl rfl ?_
  refine O.move (v := (.int .i64 0)) rfl rfl rfl ?_
  refine WL.nil ?_
  obtain ⟨o1, hm1, hm⟩ := bind_some hm
  refine W.via (fun f w => o1 = .next () ∧ f 0 = va0 ∧ Inv w0 w []) ?_ ?_
  · skip
    refine W.block ?_
    refine W.rangeL (i := 0) hm1 (fun rem ik1 s f w => () = s ∧ a0.drop ik1 = rem ∧ f 7 = .int .i64 (ik1 : Int) ∧ f 6 = (.int .i64 ((a0.length : Nat) : Int)) ∧ f 0 = va0 ∧ f 5 = va0 ∧ Inv w0 w []) ?_ ?_ ?_
    · skip
      exact ⟨rfl, List.drop_zero, rfl, rfl, rfl, rfl, H⟩
    · skip
      rintro yk1 xs ik1 _ st f w ⟨rfl, hdropk1, hf7, hf6, hf0, hf5, H⟩ hm2
      have hltk1 := drop_lt hdropk1; have hixk1 := drop_idx hdropk1
      obtain ⟨u1, rfl⟩ : ∃ u1, f = (upd (upd (upd (upd u1 7 (.int .i64 (ik1 : Int))) 6 (.int .i64 ((a0.length : Nat) : Int))) 0 va0) 5 va0) := ⟨f, by rw [upd_self hf7, upd_self hf6, upd_self hf0, upd_self hf5]⟩
      have hinck1 := addI_lt hltk1 (H.arg ha0).len_le
      refine W.seq ?_
      refine W.region ?_
      refine O.lss rfl rfl rfl rfl ?_
      refine WL.nil ?_
      refine W.seq ?_
      refine W.cond_true (congrArg Value.bool (decide_eq_true hltk1)) ?_
      refine W.skip ?_
      refine W.seq ?_
      refine W.block ?_
      refine W.seq ?_
      refine W.region ?_
      obtain ⟨p1, hp1, hrp1⟩ := fix_indexAddr Tryd.underlying33 sz39 ha0 hixk1
      refine hrp1 rfl rfl rfl rfl ?_
      refine O.loadA [(.int .i64 yk1.Number), (.string yk1.Text)] ag39 rfl rfl rfl rfl ((hp1.mono H.base).flat) ?_
      refine O.alloc [(.int .i64 0), (.string ByteArray.empty)] ze39 H rfl rfl rfl ?_
      intro b1 w1 H hb1
      refine O.store 0 0 [(.int .i64 yk1.Number), (.string yk1.Text)] [(.int .i64 yk1.Number), (.string yk1.Text)] sz39 H rfl rfl rfl rfl rfl rfl ⟨⟨rfl, rfl⟩, rfl⟩ (one_cons rfl (one_cons rfl one_nil)) ?_
      intro w2 H
      refine WL.nil ?_
      refine W.seq ?_
      refine W.region ?_
      refine O.fieldAddr fd39_1 rfl rfl rfl ?_
      refine O.load sc9 rfl rfl rfl (H.cell 0 rfl 1 _ rfl) ?_
      refine O.lenStr Tryd.underlying9 rfl rfl rfl ?_
      refine O.gtr rfl rfl rfl rfl ?_
      refine WL.nil ?_
      rcases ite_some hm2 with ⟨hc1, hm2⟩ | ⟨hc1, hm2⟩
      · refine W.cond_true (congrArg Value.bool hc1) ?_
        refine W.seq ?_
        refine W.region ?_
        refine O.assign (v := (.bool false)) rfl rfl rfl ?_
        refine WL.nil ?_
        refine W.ret ?_
        obtain rfl := Option.some.inj hm2
        refine ⟨_, rfl, ?_⟩
        rintro rfl
        have hq : false = r0 := Option.some.inj (show some false = some r0 from hm)
        subst hq
        exact ends1 Tryd.results17 rfl ⟨_, rfl, H.base, rfl⟩
      · refine W.cond_false (congrArg Value.bool hc1) ?_
        refine W.skip ?_
        refine W.region ?_
        refine O.add rfl rfl rfl rfl hinck1 ?_
        refine O.move (v := .int .i64 ((ik1 : Int) + 1)) rfl rfl rfl ?_
        refine WL.nil ?_
        have H := H.keep [] [] rfl (by decide)
        obtain rfl := Option.some.inj hm2
        exact ⟨_, rfl, rfl, drop_next hdropk1, rfl, rfl, rfl, rfl, H⟩
    · skip
      rintro ik1 _ f w ⟨rfl, hdropk1, hf7, hf6, hf0, hf5, H⟩ hfin
      have hltk1 := drop_end hdropk1
      obtain ⟨u2, rfl⟩ : ∃ u2, f = (upd (upd (upd (upd u2 7 (.int .i64 (ik1 : Int))) 6 (.int .i64 ((a0.length : Nat) : Int))) 0 va0) 5 va0) := ⟨f, by rw [upd_self hf7, upd_self hf6, upd_self hf0, upd_self hf5]⟩
      refine W.seq ?_
      refine W.region ?_
      refine O.lss rfl rfl rfl rfl ?_
      refine WL.nil ?_
      refine W.seq ?_
      refine W.cond_false (congrArg Value.bool (decide_eq_false hltk1)) ?_
      refine W.exit ?_
      obtain rfl : Ctl.next () = o1 := hfin
      refine xT rfl ?_
      exact ⟨rfl, rfl, H⟩
  · skip
    rintro f w ⟨rfl, hf0, H⟩
    obtain ⟨u3, rfl⟩ : ∃ u3, f = (upd u3 0 va0) := ⟨f, by rw [upd_self hf0]⟩
    refine W.seq ?_
    refine W.region ?_
    refine O.move (v := va0) rfl rfl rfl ?_
    refine O.lenS Tryd.underlying33 (H.arg ha0) rfl rfl rfl ?_
    refine O.leq rfl rfl rfl rfl ?_
    refine O.move (v := (.bool (decide (((a0.length : Nat) : Int) ≤ 40)))) rfl rfl rfl ?_
    refine WL.cut 9 (fun f w => f 28 = .bool ((decide (((a0.length : Nat) : Int) ≤ 40)) || ((decide (200 ≤ ((a0.length : Nat) : Int))) && (decide (((a0.length : Nat) : Int) ≤ 203)))) ∧ Inv w0 w []) ?_ ?_
    · skip
      rcases bool_ft (decide (((a0.length : Nat) : Int) ≤ 40)) with hc2 | hc2
      · skip
        refine WL.reset (i := 19) (v := .bool false) (congrArg Value.bool hc2) ?_
        refine O.move (v := va0) rfl rfl rfl ?_
        refine O.lenS Tryd.underlying33 (H.arg ha0) rfl rfl rfl ?_
        refine O.geq rfl rfl rfl rfl ?_
        refine O.move (v := (.bool (decide (200 ≤ ((a0.length : Nat) : Int))))) rfl rfl rfl ?_
        refine WL.cut 4 (fun f w => f 19 = (.bool false) ∧ f 27 = .bool ((decide (200 ≤ ((a0.length : Nat) : Int))) && (decide (((a0.length : Nat) : Int) ≤ 203))) ∧ Inv w0 w []) ?_ ?_
        · skip
          rcases bool_ft (decide (200 ≤ ((a0.length : Nat) : Int))) with hc3 | hc3
          · skip
            refine WL.reset (i := 23) (v := .bool false) (congrArg Value.bool hc3) ?_
            refine O.skip rfl rfl ?_
            refine O.skip rfl rfl ?_
            refine O.skip rfl rfl ?_
            refine O.pick_false (v := (.bool false)) rfl rfl rfl rfl ?_
            refine WL.nil ?_
            exact ⟨rfl, congrArg Value.bool (and_f hc3), H⟩
          · skip
            refine WL.reset (i := 23) (v := .bool true) (congrArg Value.bool hc3) ?_
            refine O.move (v := va0) rfl rfl rfl ?_
            refine O.lenS Tryd.underlying33 (H.arg ha0) rfl rfl rfl ?_
            refine O.leq rfl rfl rfl rfl ?_
            refine O.pick_true (v := (.bool (decide (((a0.length : Nat) : Int) ≤ 203)))) rfl rfl rfl rfl ?_
            refine WL.nil ?_
            exact ⟨rfl, congrArg Value.bool (and_t hc3), H⟩
        · skip
          rintro f w ⟨hf19, hf27, H⟩
          obtain ⟨u4, rfl⟩ : ∃ u4, f = (upd (upd u4 19 (.bool false)) 27 (.bool ((decide (200 ≤ ((a0.length : Nat) : Int))) && (decide (((a0.length : Nat) : Int) ≤ 203))))) := ⟨f, by rw [upd_self hf19, upd_self hf27]⟩
          refine O.pick_false (v := (.bool ((decide (200 ≤ ((a0.length : Nat) : Int))) && (decide (((a0.length : Nat) : Int) ≤ 203))))) rfl rfl rfl rfl ?_
          refine WL.nil ?_
          exact ⟨congrArg Value.bool (or_f hc2), H⟩
      · skip
        refine WL.reset (i := 19) (v := .bool true) (congrArg Value.bool hc2) ?_
        refine O.skip rfl rfl ?_
        refine O.skip rfl rfl ?_
        refine O.skip rfl rfl ?_
        refine O.skip rfl rfl ?_
        refine O.skip rfl rfl ?_
        refine O.skip rfl rfl ?_
        refine O.skip rfl rfl ?_
        refine O.skip rfl rfl ?_
        refine O.pick_true (v := (.bool true)) rfl rfl rfl rfl ?_
        refine WL.nil ?_
        exact ⟨congrArg Value.bool (or_t hc2), H⟩
    · skip
      rintro f w ⟨hf28, H⟩
      obtain ⟨u5, rfl⟩ : ∃ u5, f = (upd u5 28 (.bool ((decide (((a0.length : Nat) : Int) ≤ 40)) || ((decide (200 ≤ ((a0.length : Nat) : Int))) && (decide (((a0.length : Nat) : Int) ≤ 203)))))) := ⟨f, by rw [upd_self hf28]⟩
      refine O.assign (v := (.bool ((decide (((a0.length : Nat) : Int) ≤ 40)) || ((decide (200 ≤ ((a0.length : Nat) : Int))) && (decide (((a0.length : Nat) : Int) ≤ 203)))))) rfl rfl rfl ?_
      refine WL.nil ?_
      refine W.ret ?_
      have hq : ((decide (((a0.length : Nat) : Int) ≤ 40)) || ((decide (200 ≤ ((a0.length : Nat) : Int))) && (decide (((a0.length : Nat) : Int) ≤ 203)))) = r0 := Option.some.inj (show some ((decide (((a0.length : Nat) : Int) ≤ 40)) || ((decide (200 ≤ ((a0.length : Nat) : Int))) && (decide (((a0.length : Nat) : Int) ≤ 203)))) = some r0 from hm)
      subst hq
      exact ends1 Tryd.results17 rfl ⟨_, rfl, H.base, rfl⟩

theorem c_flag_ValidBook_c1 {w0 : World} (a0 : Int) {r0 : Bool} (hm : flag_ValidBook_c1 a0 = some r0) :
    Calls Tryd.prog 57 #[(.int .i32 a0)] w0 (Ret w0 fun _ v => v = (.bool r0)) := by
  unfold flag_ValidBook_c1 at hm
  refine calls_of_W Tryd.func57 rfl Tryd.ntmps57 (Nat.le_of_ble_eq_true rfl) ?_
  have H := Inv.start (w := w0)
  refine W.seq ?_
  refine W.region ?_
  refine O.assign (v := (.bool false)) rfl rfl rfl ?_
  refine WL.nil ?_
  refine W.seq ?_
  refine W.region ?_
  refine O.move (v := (.int .i32 a0)) rfl rfl rfl ?_
  refine O.lss rfl rfl rfl rfl ?_
  refine O.move (v := (.bool (decide (a0 < 32)))) rfl rfl rfl ?_
  refine WL.cut 3 (fun f w => f 8 = .bool ((decide (a0 < 32)) || (decide (126 < a0))) ∧ Inv w0 w []) ?_ ?_
  · skip
    rcases bool_ft (decide (a0 < 32)) with hc1 | hc1
    · skip
      refine WL.reset (i := 5) (v := .bool false) (congrArg Value.bool hc1) ?_
      refine O.move (v := (.int .i32 a0)) rfl rfl rfl ?_
      refine O.gtr rfl rfl rfl rfl ?_
      refine O.pick_false (v := (.bool (decide (126 < a0)))) rfl rfl rfl rfl ?_
      refine WL.nil ?_
      exact ⟨congrArg Value.bool (or_f hc1), H⟩
    · skip
      refine WL.reset (i := 5) (v := .bool true) (congrArg Value.bool hc1) ?_
      refine O.skip rfl rfl ?_
      refine O.skip rfl rfl ?_
      refine O.pick_true (v := (.bool true)) rfl rfl rfl rfl ?_
      refine WL.nil ?_
      exact ⟨congrArg Value.bool (or_t hc1), H⟩
  · skip
    rintro f w ⟨hf8, H⟩
    obtain ⟨u1, rfl⟩ : ∃ u1, f = (upd u1 8 (.bool ((decide (a0 < 32)) || (decide (126 < a0))))) := ⟨f, by rw [upd_self hf8]⟩
    refine O.assign (v := (.bool ((decide (a0 < 32)) || (decide (126 < a0))))) rfl rfl rfl ?_
    refine WL.nil ?_
    refine W.ret ?_
    have hq : ((decide (a0 < 32)) || (decide (126 < a0))) = r0 := Option.some.inj (show some ((decide (a0 < 32)) || (decide (126 < a0))) = some r0 from hm)
    subst hq
    exact ends1 Tryd.results57 rfl ⟨_, rfl, H.base, rfl⟩

theorem c_strings_indexFunc {w0 : World} (a0 : ByteArray) (va1 : Value) (a1 : Int → Option (Bool)) (ha1 : ∀ (w : World), Below w0.heap.size w0 w → ∀ (x0 : Int) (y0 : Bool), a1 x0 = some y0 → CallsV Tryd.prog va1 #[(.int .i32 x0)] w (Ret w fun _ v => v = (.bool y0))) (a2 : Bool) {r0 : Int} (hm : strings_indexFunc a0 a1 a2 = some r0) :
    Calls Tryd.prog 95 #[(.string a0), va1, (.bool a2)] w0 (Ret w0 fun _ v => v = (.int .i64 r0)) := by
  unfold strings_indexFunc at hm
  split at hm
  case isFalse => cases hm
  rename_i hsz
  refine calls_of_W Tryd.func95 rfl Tryd.ntmps95 (Nat.le_of_ble_eq_true rfl) ?_
  have H := Inv.start (w := w0)
  refine W.seq ?_
  refine W.region ?_
  refine O.assign (v := (.int .i64 0)) rfl rfl rfl ?_
  refine WL.nil ?_
  refine W.seq ?_
  refine W.via (fun f w => r0 = -1 ∧ Inv w0 w []) ?_ ?_
  · refine W.seq ?_
    refine W.region ?_
    refine O.move (v := (.string a0)) rfl rfl rfl ?_
    refine O.rangeS Tryd.underlying9 H rfl rfl rfl ?_
    intro bi w2 H hb2
    refine WL.nil ?_
    refine W.block ?_
    refine W.loopL (l := runesL a0 (a0.size + 1) 0) (fun rem f w => ∃ (n at_ : Nat), runesL a0 n at_ = rem ∧ a0.size + 1 ≤ n + at_ ∧ idxR a1 a2 rem = some r0 ∧ f 10 = .pointer (some ⟨bi, 0, none⟩) ∧ f 1 = va1 ∧ f 2 = (.bool a2) ∧ Inv w0 w [strI bi a0 at_]) ?_ ?_ ?_
    · exact ⟨_, 0, rfl, Nat.le_refl _, hm, rfl, rfl, rfl, H⟩
    · rintro ⟨y, r⟩ ys f w ⟨n, at_, hd, hn, hi, hf10, hf1, hf2, H⟩
      obtain ⟨u1, rfl⟩ : ∃ u1, f = (upd (upd (upd u1 10 (.pointer (some ⟨bi, 0, none⟩))) 1 va1) 2 (.bool a2)) := ⟨f, by rw [upd_self hf10, upd_self hf1, upd_self hf2]⟩
      cases n with
      | zero => simp [runesL] at hd
      | succ n =>
        rw [runesL] at hd
        split at hd
        case isFalse => cases hd
        rename_i hlt
        have hw := dec_w a0 at_
        obtain ⟨hd1, hd2⟩ := List.cons.inj hd
        obtain ⟨rfl, rfl⟩ := Prod.mk.inj hd1
        rw [idxR] at hi
        obtain ⟨t, ht, hi⟩ := bind_some hi
        refine W.seq ?_
        refine W.region ?_
        refine O.nextR 0 H rfl hlt rfl rfl rfl ?_
        intro w1 H
        refine O.extract (v := .bool true) rfl rfl rfl rfl ?_
        refine WL.nil ?_
        refine W.seq ?_
        refine W.cond_true rfl ?_
        refine W.skip ?_
        refine W.block ?_
        refine W.seq ?_
        refine W.region ?_
        refine O.extract (v := (.int .i64 (at_ : Int))) rfl rfl rfl rfl ?_
        refine O.extract (v := (.int .i32 ((Utf8.decode a0 at_).1 : Int))) rfl rfl rfl rfl ?_
        refine O.assign (v := (.int .i64 (at_ : Int))) rfl rfl rfl ?_
        refine O.assign (v := (.int .i32 ((Utf8.decode a0 at_).1 : Int))) rfl rfl rfl ?_
        refine WL.nil ?_
        refine W.seq ?_
        refine W.region ?_
        refine O.move (v := va1) rfl rfl rfl ?_
        refine O.move (v := (.int .i32 ((Utf8.decode a0 at_).1 : Int))) rfl rfl rfl ?_
        refine O.callV rfl rfl rfl rfl (ha1 _ H.base _ _ ht) ?_
        rintro _ w3 hb3 rfl
        have H := H.ext hb3
        refine O.move (v := (.bool a2)) rfl rfl rfl ?_
        refine O.eqlB Tryd.underlying4 rfl rfl rfl rfl ?_
        refine WL.nil ?_
        rcases ite_some hi with ⟨hc, hi⟩ | ⟨hc, hi⟩
        · refine W.cond_true (congrArg Value.bool hc) ?_
          refine W.seq ?_
          refine W.region ?_
          refine O.move (v := (.int .i64 (at_ : Int))) rfl rfl rfl ?_
          refine O.assign (v := (.int .i64 (at_ : Int))) rfl rfl rfl ?_
          refine WL.nil ?_
          refine W.ret ?_
          obtain rfl := Option.some.inj hi
          exact ends1 Tryd.results95 rfl ⟨_, rfl, H.base, rfl⟩
        · refine W.cond_false (congrArg Value.bool hc) ?_
          refine W.skip ?_
          exact ⟨n, at_ + (Utf8.decode a0 at_).2, hd2, by omega, hi, rfl, rfl, rfl, H⟩
    · rintro f w ⟨n, at_, hd, hn, hi, hf10, hf1, hf2, H⟩
      obtain ⟨u1, rfl⟩ : ∃ u1, f = (upd u1 10 (.pointer (some ⟨bi, 0, none⟩))) := ⟨f, by rw [upd_self hf10]⟩
      have hge : ¬ at_ < a0.size := by
        intro h
        cases n with
        | zero => omega
        | succ n => rw [runesL, if_pos h] at hd; cases hd
      refine W.seq ?_
      refine W.region ?_
      refine O.endS 0 H rfl hge rfl rfl rfl ?_
      refine O.extract (v := .bool false) rfl rfl rfl rfl ?_
      refine WL.nil ?_
      refine W.seq ?_
      refine W.cond_false rfl ?_
      refine W.exit ?_
      refine xT rfl ?_
      exact ⟨(Option.some.inj hi).symm, H.keep [] [] rfl (by decide)⟩
  · rintro f w ⟨rfl, H⟩
    refine W.seq ?_
    refine W.region ?_
    refine O.assign (v := (.int .i64 (-1))) rfl rfl rfl ?_
    refine WL.nil ?_
    refine W.ret ?_
    exact ends1 Tryd.results95 rfl ⟨_, rfl, H.base, rfl⟩

theorem c_strings_IndexFunc {w0 : World} (a0 : ByteArray) (va1 : Value) (a1 : Int → Option (Bool)) (ha1 : ∀ (w : World), Below w0.heap.size w0 w → ∀ (x0 : Int) (y0 : Bool), a1 x0 = some y0 → CallsV Tryd.prog va1 #[(.int .i32 x0)] w (Ret w fun _ v => v = (.bool y0))) {r0 : Int} (hm : strings_IndexFunc a0 a1 = some r0) :
    Calls Tryd.prog 81 #[(.string a0), va1] w0 (Ret w0 fun _ v => v = (.int .i64 r0)) := by
  unfold strings_IndexFunc at hm
  refine calls_of_W Tryd.func81 rfl Tryd.ntmps81 (Nat.le_of_ble_eq_true rfl) ?_
  have H := Inv.start (w := w0)
  refine W.seq ?_
  refine W.region ?_
  refine O.assign (v := (.int .i64 0)) rfl rfl rfl ?_
  refine WL.nil ?_
  refine W.seq ?_
  refine W.region ?_
  refine O.move (v := (.string a0)) rfl rfl rfl ?_
  refine O.move (v := va1) rfl rfl rfl ?_
  obtain ⟨t1, hy1, hm⟩ := bind_some hm
  refine O.call Tryd.call95 rfl rfl rfl (c_strings_indexFunc _ va1 a1 (fun w hw => ha1 w (H.base.trans (hw.mono H.base.size))) _ hy1) ?_
  rintro _ w1 hb1 rfl
  have H := H.ext hb1
  refine O.assign (v := (.int .i64 t1)) rfl rfl rfl ?_
  refine WL.nil ?_
  refine W.ret ?_
  have hq : t1 = r0 := Option.some.inj (show some t1 = some r0 from hm)
  subst hq
  exact ends1 Tryd.results81 rfl ⟨_, rfl, H.base, rfl⟩

theorem c_strings_ContainsFunc {w0 : World} (a0 : ByteArray) (va1 : Value) (a1 : Int → Option (Bool)) (ha1 : ∀ (w : World), Below w0.heap.size w0 w → ∀ (x0 : Int) (y0 : Bool), a1 x0 = some y0 → CallsV Tryd.prog va1 #[(.int .i32 x0)] w (Ret w fun _ v => v = (.bool y0))) {r0 : Bool} (hm : strings_ContainsFunc a0 a1 = some r0) :
    Calls Tryd.prog 59 #[(.string a0), va1] w0 (Ret w0 fun _ v => v = (.bool r0)) := by
  unfold strings_ContainsFunc at hm
  refine calls_of_W Tryd.func59 rfl Tryd.ntmps59 (Nat.le_of_ble_eq_true rfl) ?_
  have H := Inv.start (w := w0)
  refine W.seq ?_
  refine W.region ?_
  refine O.assign (v := (.bool false)) rfl rfl rfl ?_
  refine WL.nil ?_
  refine W.seq ?_
  refine W.region ?_
  refine O.move (v := (.string a0)) rfl rfl rfl ?_
  refine O.move (v := va1) rfl rfl rfl ?_
  obtain ⟨t1, hy1, hm⟩ := bind_some hm
  refine O.call Tryd.call81 rfl rfl rfl (c_strings_IndexFunc _ va1 a1 (fun w hw => ha1 w (H.base.trans (hw.mono H.base.size))) hy1) ?_
  rintro _ w1 hb1 rfl
  have H := H.ext hb1
  refine O.geq rfl rfl rfl rfl ?_
  refine O.assign (v := (.bool (decide (0 ≤ t1)))) rfl rfl rfl ?_
  refine WL.nil ?_
  refine W.ret ?_
  have hq : (decide (0 ≤ t1)) = r0 := Option.some.inj (show some (decide (0 ≤ t1)) = some r0 from hm)
  subst hq
  exact ends1 Tryd.results59 rfl ⟨_, rfl, H.base, rfl⟩

set_option maxRecDepth 20000 in
theorem c_flag_ValidBook {w0 : World} (va0 : Value) (a0 : (List GMeaning)) (ha0 : SliceR w0 va0 a0) {r0 : Bool} (hm : flag_ValidBook a0 = some r0) :
    Calls Tryd.prog 22 #[va0] w0 (Ret w0 fun _ v => v = (.bool r0)) := by
  unfold flag_ValidBook at hm
  refine calls_of_W Tryd.func22 rfl Tryd.ntmps22 (Nat.le_of_ble_eq_true rfl) ?_
  have H := Inv.start (w := w0)
  refine W.seq ?_
  refine W.region ?_
  refine O.assign (v := (.bool false)) rfl rfl rfl ?_
  refine WL.nil ?_
  refine W.seq ?_
  refine W.region ?_
  refine O.assign (v := (.func (.func 57) #[] #[])) rfl rfl rfl ?_
  refine WL.nil ?_
  refine W.seq ?_
  refine W.seq ?_
  refine W.region ?_
  refine O.move (v := va0) rfl rfl rfl ?_
  refine O.lenS Tryd.underlying33 (H.arg ha0) rfl rfl rfl ?_
  refine O.move (v := (.int .i64 0)) rfl rfl rfl ?_
  refine WL.nil ?_
  obtain ⟨o1, hm1, hm⟩ := bind_some hm
  refine W.via (fun f w => o1 = .next () ∧ f 0 = va0 ∧ Inv w0 w []) ?_ ?_
  · skip
    refine W.block ?_
    have hbdik1 := (H.arg ha0).len_le
    refine W.rangeN (i := 0) hm1 (fun rem ik1 s f w => () = s ∧ (ik1 : Int) + rem = max 0 ((a0.length : Nat) : Int) ∧ f 8 = .int .i64 (ik1 : Int) ∧ f 7 = (.int .i64 ((a0.length : Nat) : Int)) ∧ f 0 = va0 ∧ f 3 = (.func (.func 57) #[] #[]) ∧ f 6 = va0 ∧ Inv w0 w []) ?_ ?_ ?_
    · skip
      exact ⟨rfl, rangeN_start, rfl, rfl, rfl, rfl, rfl, H⟩
    · skip
      rintro k ik1 _ st f w ⟨rfl, hdropk1, hf8, hf7, hf0, hf3, hf6, H⟩ hm2
      have hltk1 := rangeN_lt hdropk1
      obtain ⟨u1, rfl⟩ : ∃ u1, f = (upd (upd (upd (upd (upd u1 8 (.int .i64 (ik1 : Int))) 7 (.int .i64 ((a0.length : Nat) : Int))) 0 va0) 3 (.func (.func 57) #[] #[])) 6 va0) := ⟨f, by rw [upd_self hf8, upd_self hf7, upd_self hf0, upd_self hf3, upd_self hf6]⟩
      have hinck1 := addI_lt hltk1 hbdik1
      refine W.seq ?_
      refine W.region ?_
      refine O.lss rfl rfl rfl rfl ?_
      refine WL.nil ?_
      refine W.seq ?_
      refine W.cond_true (congrArg Value.bool (decide_eq_true hltk1)) ?_
      refine W.skip ?_
      refine W.seq ?_
      refine W.block ?_
      refine W.seq ?_
      refine W.region ?_
      refine O.move (v := (.int .i64 (ik1 : Int))) rfl rfl rfl ?_
      obtain ⟨x1, hx1, hm2⟩ := bind_some hm2
      obtain ⟨p1, hp1, hrp1⟩ := fix_indexAddr Tryd.underlying33 sz39 ha0 hx1
      refine hrp1 rfl rfl rfl rfl ?_
      refine O.loadA [(.int .i64 x1.Number), (.string x1.Text)] ag39 rfl rfl rfl rfl ((hp1.mono H.base).flat) ?_
      refine O.alloc [(.int .i64 0), (.string ByteArray.empty)] ze39 H rfl rfl rfl ?_
      intro b1 w1 H hb1
      refine O.assign (v := (.int .i64 (ik1 : Int))) rfl rfl rfl ?_
      refine O.store 0 0 [(.int .i64 x1.Number), (.string x1.Text)] [(.int .i64 x1.Number), (.string x1.Text)] sz39 H rfl rfl rfl rfl rfl rfl ⟨⟨rfl, rfl⟩, rfl⟩ (one_cons rfl (one_cons rfl one_nil)) ?_
      intro w2 H
      refine WL.nil ?_
      refine W.seq ?_
      obtain ⟨t1, hy1, hm2⟩ := bind_some hm2
      obtain ⟨b2, hm3, hm2⟩ := bind_some hm2
      obtain ⟨b4, hm5, hm2⟩ := bind_some hm2
      obtain ⟨b5, hm6, hm2⟩ := bind_some hm2
      refine W.drawN 32 (fun f => f 0 = va0 ∧ f 3 = (.func (.func 57) #[] #[]) ∧ f 6 = va0 ∧ f 7 = (.int .i64 ((a0.length : Nat) : Int)) ∧ f 8 = (.int .i64 (ik1 : Int)) ∧ f 44 = (.bool b5)) fol (by kernel_rfl) ?_ ?_
      · skip
        refine PL.of (fun _ w8 _ hx => O.fieldAddr fd39_0 rfl rfl rfl (WL.nil ⟨rfl, hx⟩)) ?_
        refine PL.of (fun _ w8 _ hx => by have H := H.ext hx; exact O.load sc3 rfl rfl rfl (H.cell 0 rfl 0 _ rfl) (WL.nil ⟨rfl, hx⟩)) ?_
        refine PL.of (fun _ w8 _ hx => O.call Tryd.call38 rfl rfl rfl (c_flag_isNumber _ hy1) (by rintro _ _ hb rfl; exact WL.nil ⟨rfl, hx.trans (hb.mono hx.size)⟩)) ?_
        refine PL.of (fun _ w8 _ hx => O.not rfl rfl rfl (WL.nil ⟨rfl, hx⟩)) ?_
        refine PL.of (fun _ w8 _ hx => O.move (v := (.bool (!t1))) rfl rfl rfl (WL.nil ⟨rfl, hx⟩)) ?_
        refine PL.cut 14 (fun f => f 0 = va0 ∧ f 3 = (.func (.func 57) #[] #[]) ∧ f 5 = (.pointer (some ⟨b1, 0, none⟩)) ∧ f 6 = va0 ∧ f 7 = (.int .i64 ((a0.length : Nat) : Int)) ∧ f 8 = (.int .i64 (ik1 : Int)) ∧ f 31 = .bool b2) ?_ ?_
        · skip
          rcases ite_some hm3 with ⟨hc1, hm3⟩ | ⟨hc1, hm3⟩
          · skip
            refine PL.reset (i := 17) (v := .bool true) (congrArg Value.bool hc1) ?_
            refine PL.of (fun _ w8 _ hx => O.skip rfl rfl (WL.nil ⟨rfl, hx⟩)) ?_
            refine PL.of (fun _ w8 _ hx => O.skip rfl rfl (WL.nil ⟨rfl, hx⟩)) ?_
            refine PL.of (fun _ w8 _ hx => O.skip rfl rfl (WL.nil ⟨rfl, hx⟩)) ?_
            refine PL.of (fun _ w8 _ hx => O.skip rfl rfl (WL.nil ⟨rfl, hx⟩)) ?_
            refine PL.of (fun _ w8 _ hx => O.skip rfl rfl (WL.nil ⟨rfl, hx⟩)) ?_
            refine PL.of (fun _ w8 _ hx => O.skip rfl rfl (WL.nil ⟨rfl, hx⟩)) ?_
            refine PL.of (fun _ w8 _ hx => O.skip rfl rfl (WL.nil ⟨rfl, hx⟩)) ?_
            refine PL.of (fun _ w8 _ hx => O.skip rfl rfl (WL.nil ⟨rfl, hx⟩)) ?_
            refine PL.of (fun _ w8 _ hx => O.skip rfl rfl (WL.nil ⟨rfl, hx⟩)) ?_
            refine PL.of (fun _ w8 _ hx => O.skip rfl rfl (WL.nil ⟨rfl, hx⟩)) ?_
            refine PL.of (fun _ w8 _ hx => O.skip rfl rfl (WL.nil ⟨rfl, hx⟩)) ?_
            refine PL.of (fun _ w8 _ hx => O.skip rfl rfl (WL.nil ⟨rfl, hx⟩)) ?_
            refine PL.of (fun _ w8 _ hx => O.skip rfl rfl (WL.nil ⟨rfl, hx⟩)) ?_
            refine PL.of (fun _ w8 _ hx => O.pick_true (v := (.bool true)) rfl rfl rfl rfl (WL.nil ⟨rfl, hx⟩)) ?_
            refine PL.nil ?_
            have hq : true = b2 := Option.some.inj (show some true = some b2 from hm3)
            subst hq
            exact ⟨rfl, rfl, rfl, rfl, rfl, rfl, rfl⟩
          · skip
            refine PL.reset (i := 17) (v := .bool false) (congrArg Value.bool hc1) ?_
            refine PL.of (fun _ w8 _ hx => O.move (v := (.int .i64 (ik1 : Int))) rfl rfl rfl (WL.nil ⟨rfl, hx⟩)) ?_
            refine PL.of (fun _ w8 _ hx => O.gtr rfl rfl rfl rfl (WL.nil ⟨rfl, hx⟩)) ?_
            refine PL.of (fun _ w8 _ hx => O.move (v := (.bool (decide (0 < (ik1 : Int))))) rfl rfl rfl (WL.nil ⟨rfl, hx⟩)) ?_
            obtain ⟨b3, hm4, hm3⟩ := bind_some hm3
            refine PL.cut 10 (fun f => f 0 = va0 ∧ f 3 = (.func (.func 57) #[] #[]) ∧ f 5 = (.pointer (some ⟨b1, 0, none⟩)) ∧ f 6 = va0 ∧ f 7 = (.int .i64 ((a0.length : Nat) : Int)) ∧ f 8 = (.int .i64 (ik1 : Int)) ∧ f 17 = (.bool false) ∧ f 18 = (.int .i64 (ik1 : Int)) ∧ f 19 = (.bool (decide (0 < (ik1 : Int)))) ∧ f 20 = (.bool (decide (0 < (ik1 : Int)))) ∧ f 30 = .bool b3) ?_ ?_
            · skip
              rcases ite_some hm4 with ⟨hc2, hm4⟩ | ⟨hc2, hm4⟩
              · skip
                refine PL.reset (i := 20) (v := .bool true) (congrArg Value.bool hc2) ?_
                refine PL.of (fun _ w8 _ hx => O.fieldAddr fd39_0 rfl rfl rfl (WL.nil ⟨rfl, hx⟩)) ?_
                refine PL.of (fun _ w8 _ hx => by have H := H.ext hx; exact O.load sc3 rfl rfl rfl (H.cell 0 rfl 0 _ rfl) (WL.nil ⟨rfl, hx⟩)) ?_
                refine PL.of (fun _ w8 _ hx => O.move (v := va0) rfl rfl rfl (WL.nil ⟨rfl, hx⟩)) ?_
                refine PL.of (fun _ w8 _ hx => O.move (v := (.int .i64 (ik1 : Int))) rfl rfl rfl (WL.nil ⟨rfl, hx⟩)) ?_
                obtain ⟨t2, ht2, hm4⟩ := bind_some hm4
                refine PL.of (fun _ w8 _ hx => O.sub rfl rfl rfl rfl ht2 (WL.nil ⟨rfl, hx⟩)) ?_
                obtain ⟨x2, hx2, hm4⟩ := bind_some hm4
                obtain ⟨p2, hp2, hrp2⟩ := fix_indexAddr Tryd.underlying33 sz39 (H.arg ha0) hx2
                refine PL.of (fun _ w8 _ hx => hrp2 rfl rfl rfl rfl (WL.nil ⟨rfl, hx⟩)) ?_
                refine PL.of (fun _ w8 _ hx => O.fieldAddr fd39_0 rfl rfl rfl (WL.nil ⟨rfl, hx⟩)) ?_
                refine PL.of (fun _ w8 _ hx => by have hp2 := hp2.mono hx; exact O.load sc3 rfl rfl rfl (hp2.flat 0 _ rfl) (WL.nil ⟨rfl, hx⟩)) ?_
                refine PL.of (fun _ w8 _ hx => O.leq rfl rfl rfl rfl (WL.nil ⟨rfl, hx⟩)) ?_
                refine PL.of (fun _ w8 _ hx => O.pick_true (v := (.bool (decide (x1.Number ≤ x2.Number)))) rfl rfl rfl rfl (WL.nil ⟨rfl, hx⟩)) ?_
                refine PL.nil ?_
                have hq : (decide (x1.Number ≤ x2.Number)) = b3 := Option.some.inj (show some (decide (x1.Number ≤ x2.Number)) = some b3 from hm4)
                subst hq
                exact ⟨rfl, rfl, rfl, rfl, rfl, rfl, rfl, rfl, rfl, (congrArg Value.bool hc2).symm, rfl⟩
              · skip
                refine PL.reset (i := 20) (v := .bool false) (congrArg Value.bool hc2) ?_
                refine PL.of (fun _ w8 _ hx => O.skip rfl rfl (WL.nil ⟨rfl, hx⟩)) ?_
                refine PL.of (fun _ w8 _ hx => O.skip rfl rfl (WL.nil ⟨rfl, hx⟩)) ?_
                refine PL.of (fun _ w8 _ hx => O.skip rfl rfl (WL.nil ⟨rfl, hx⟩)) ?_
                refine PL.of (fun _ w8 _ hx => O.skip rfl rfl (WL.nil ⟨rfl, hx⟩)) ?_
                refine PL.of (fun _ w8 _ hx => O.skip rfl rfl (WL.nil ⟨rfl, hx⟩)) ?_
                refine PL.of (fun _ w8 _ hx => O.skip rfl rfl (WL.nil ⟨rfl, hx⟩)) ?_
                refine PL.of (fun _ w8 _ hx => O.skip rfl rfl (WL.nil ⟨rfl, hx⟩)) ?_
                refine PL.of (fun _ w8 _ hx => O.skip rfl rfl (WL.nil ⟨rfl, hx⟩)) ?_
                refine PL.of (fun _ w8 _ hx => O.skip rfl rfl (WL.nil ⟨rfl, hx⟩)) ?_
                refine PL.of (fun _ w8 _ hx => O.pick_false (v := (.bool false)) rfl rfl rfl rfl (WL.nil ⟨rfl, hx⟩)) ?_
                refine PL.nil ?_
                have hq : false = b3 := Option.some.inj (show some false = some b3 from hm4)
                subst hq
                exact ⟨rfl, rfl, rfl, rfl, rfl, rfl, rfl, rfl, rfl, (congrArg Value.bool hc2).symm, rfl⟩
            · skip
              rintro f ⟨hf0, hf3, hf5, hf6, hf7, hf8, hf17, hf18, hf19, hf20, hf30⟩
              obtain ⟨u2, rfl⟩ : ∃ u2, f = (upd (upd (upd (upd (upd (upd (upd (upd (upd (upd (upd u2 0 va0) 3 (.func (.func 57) #[] #[])) 5 (.pointer (some ⟨b1, 0, none⟩))) 6 va0) 7 (.int .i64 ((a0.length : Nat) : Int))) 8 (.int .i64 (ik1 : Int))) 17 (.bool false)) 18 (.int .i64 (ik1 : Int))) 19 (.bool (decide (0 < (ik1 : Int))))) 20 (.bool (decide (0 < (ik1 : Int))))) 30 (.bool b3)) := ⟨f, by rw [upd_self hf0, upd_self hf3, upd_self hf5, upd_self hf6, upd_self hf7, upd_self hf8, upd_self hf17, upd_self hf18, upd_self hf19, upd_self hf20, upd_self hf30]⟩
              refine PL.of (fun _ w8 _ hx => O.pick_false (v := (.bool b3)) rfl rfl rfl rfl (WL.nil ⟨rfl, hx⟩)) ?_
              refine PL.nil ?_
              have hq : b3 = b2 := Option.some.inj (show some b3 = some b2 from hm3)
              subst hq
              exact ⟨rfl, rfl, rfl, rfl, rfl, rfl, rfl⟩
        · skip
          rintro f ⟨hf0, hf3, hf5, hf6, hf7, hf8, hf31⟩
          obtain ⟨u3, rfl⟩ : ∃ u3, f = (upd (upd (upd (upd (upd (upd (upd u3 0 va0) 3 (.func (.func 57) #[] #[])) 5 (.pointer (some ⟨b1, 0, none⟩))) 6 va0) 7 (.int .i64 ((a0.length : Nat) : Int))) 8 (.int .i64 (ik1 : Int))) 31 (.bool b2)) := ⟨f, by rw [upd_self hf0, upd_self hf3, upd_self hf5, upd_self hf6, upd_self hf7, upd_self hf8, upd_self hf31]⟩
          refine PL.of (fun _ w8 _ hx => O.move (v := (.bool b2)) rfl rfl rfl (WL.nil ⟨rfl, hx⟩)) ?_
          refine PL.cut 6 (fun f => f 0 = va0 ∧ f 3 = (.func (.func 57) #[] #[]) ∧ f 5 = (.pointer (some ⟨b1, 0, none⟩)) ∧ f 6 = va0 ∧ f 7 = (.int .i64 ((a0.length : Nat) : Int)) ∧ f 8 = (.int .i64 (ik1 : Int)) ∧ f 38 = .bool b4) ?_ ?_
          · skip
            rcases ite_some hm5 with ⟨hc3, hm5⟩ | ⟨hc3, hm5⟩
            · skip
              refine PL.reset (i := 32) (v := .bool true) (congrArg Value.bool hc3) ?_
              refine PL.of (fun _ w8 _ hx => O.skip rfl rfl (WL.nil ⟨rfl, hx⟩)) ?_
              refine PL.of (fun _ w8 _ hx => O.skip rfl rfl (WL.nil ⟨rfl, hx⟩)) ?_
              refine PL.of (fun _ w8 _ hx => O.skip rfl rfl (WL.nil ⟨rfl, hx⟩)) ?_
              refine PL.of (fun _ w8 _ hx => O.skip rfl rfl (WL.nil ⟨rfl, hx⟩)) ?_
              refine PL.of (fun _ w8 _ hx => O.skip rfl rfl (WL.nil ⟨rfl, hx⟩)) ?_
              refine PL.of (fun _ w8 _ hx => O.pick_true (v := (.bool true)) rfl rfl rfl rfl (WL.nil ⟨rfl, hx⟩)) ?_
              refine PL.nil ?_
              have hq : true = b4 := Option.some.inj (show some true = some b4 from hm5)
              subst hq
              exact ⟨rfl, rfl, rfl, rfl, rfl, rfl, rfl⟩
            · skip
              refine PL.reset (i := 32) (v := .bool false) (congrArg Value.bool hc3) ?_
              refine PL.of (fun _ w8 _ hx => O.fieldAddr fd39_1 rfl rfl rfl (WL.nil ⟨rfl, hx⟩)) ?_
              refine PL.of (fun _ w8 _ hx => by have H := H.ext hx; exact O.load sc9 rfl rfl rfl (H.cell 0 rfl 1 _ rfl) (WL.nil ⟨rfl, hx⟩)) ?_
              refine PL.of (fun _ w8 _ hx => O.lenStr Tryd.underlying9 rfl rfl rfl (WL.nil ⟨rfl, hx⟩)) ?_
              obtain ⟨t3, hy2, hm5⟩ := bind_some hm5
              refine PL.of (fun _ w8 _ hx => O.call Tryd.call58 rfl rfl rfl (c_flag_within _ _ _ hy2) (by rintro _ _ hb rfl; exact WL.nil ⟨rfl, hx.trans (hb.mono hx.size)⟩)) ?_
              refine PL.of (fun _ w8 _ hx => O.not rfl rfl rfl (WL.nil ⟨rfl, hx⟩)) ?_
              refine PL.of (fun _ w8 _ hx => O.pick_false (v := (.bool (!t3))) rfl rfl rfl rfl (WL.nil ⟨rfl, hx⟩)) ?_
              refine PL.nil ?_
              have hq : (!t3) = b4 := Option.some.inj (show some (!t3) = some b4 from hm5)
              subst hq
              exact ⟨rfl, rfl, rfl, rfl, rfl, rfl, rfl⟩
          · skip
            rintro f ⟨hf0, hf3, hf5, hf6, hf7, hf8, hf38⟩
            obtain ⟨u4, rfl⟩ : ∃ u4, f = (upd (upd (upd (upd (upd (upd (upd u4 0 va0) 3 (.func (.func 57) #[] #[])) 5 (.pointer (some ⟨b1, 0, none⟩))) 6 va0) 7 (.int .i64 ((a0.length : Nat) : Int))) 8 (.int .i64 (ik1 : Int))) 38 (.bool b4)) := ⟨f, by rw [upd_self hf0, upd_self hf3, upd_self hf5, upd_self hf6, upd_self hf7, upd_self hf8, upd_self hf38]⟩
            refine PL.of (fun _ w8 _ hx => O.move (v := (.bool b4)) rfl rfl rfl (WL.nil ⟨rfl, hx⟩)) ?_
            refine PL.cut 5 (fun f => f 0 = va0 ∧ f 3 = (.func (.func 57) #[] #[]) ∧ f 6 = va0 ∧ f 7 = (.int .i64 ((a0.length : Nat) : Int)) ∧ f 8 = (.int .i64 (ik1 : Int)) ∧ f 44 = .bool b5) ?_ ?_
            · skip
              rcases ite_some hm6 with ⟨hc4, hm6⟩ | ⟨hc4, hm6⟩
              · skip
                refine PL.reset (i := 39) (v := .bool true) (congrArg Value.bool hc4) ?_
                refine PL.of (fun _ w8 _ hx => O.skip rfl rfl (WL.nil ⟨rfl, hx⟩)) ?_
                refine PL.of (fun _ w8 _ hx => O.skip rfl rfl (WL.nil ⟨rfl, hx⟩)) ?_
                refine PL.of (fun _ w8 _ hx => O.skip rfl rfl (WL.nil ⟨rfl, hx⟩)) ?_
                refine PL.of (fun _ w8 _ hx => O.skip rfl rfl (WL.nil ⟨rfl, hx⟩)) ?_
                refine PL.of (fun _ w8 _ hx => O.pick_true (v := (.bool true)) rfl rfl rfl rfl (WL.nil ⟨rfl, hx⟩)) ?_
                refine PL.nil ?_
                have hq : true = b5 := Option.some.inj (show some true = some b5 from hm6)
                subst hq
                exact ⟨rfl, rfl, rfl, rfl, rfl, rfl⟩
              · skip
                refine PL.reset (i := 39) (v := .bool false) (congrArg Value.bool hc4) ?_
                refine PL.of (fun _ w8 _ hx => O.fieldAddr fd39_1 rfl rfl rfl (WL.nil ⟨rfl, hx⟩)) ?_
                refine PL.of (fun _ w8 _ hx => by have H := H.ext hx; exact O.load sc9 rfl rfl rfl (H.cell 0 rfl 1 _ rfl) (WL.nil ⟨rfl, hx⟩)) ?_
                refine PL.of (fun _ w8 _ hx => O.move (v := (.func (.func 57) #[] #[])) rfl rfl rfl (WL.nil ⟨rfl, hx⟩)) ?_
                obtain ⟨t4, hy3, hm6⟩ := bind_some hm6
                refine PL.of (fun _ w8 _ hx => O.call Tryd.call59 rfl rfl rfl (c_strings_ContainsFunc _ _ (fun x0 => flag_ValidBook_c1 x0) (fun w hw x0 _ hy => callsV_mk Tryd.call57 (c_flag_ValidBook_c1 x0 hy)) hy3) (by rintro _ _ hb rfl; exact WL.nil ⟨rfl, hx.trans (hb.mono hx.size)⟩)) ?_
                refine PL.of (fun _ w8 _ hx => O.pick_false (v := (.bool t4)) rfl rfl rfl rfl (WL.nil ⟨rfl, hx⟩)) ?_
                refine PL.nil ?_
                have hq : t4 = b5 := Option.some.inj (show some t4 = some b5 from hm6)
                subst hq
                exact ⟨rfl, rfl, rfl, rfl, rfl, rfl⟩
            · skip
              rintro f ⟨hf0, hf3, hf6, hf7, hf8, hf44⟩
              obtain ⟨u5, rfl⟩ : ∃ u5, f = (upd (upd (upd (upd (upd (upd u5 0 va0) 3 (.func (.func 57) #[] #[])) 6 va0) 7 (.int .i64 ((a0.length : Nat) : Int))) 8 (.int .i64 (ik1 : Int))) 44 (.bool b5)) := ⟨f, by rw [upd_self hf0, upd_self hf3, upd_self hf6, upd_self hf7, upd_self hf8, upd_self hf44]⟩
              refine PL.nil ?_
              exact ⟨rfl, rfl, rfl, rfl, rfl, rfl⟩
      · skip
        rintro f w ⟨hf0, hf3, hf6, hf7, hf8, hf44⟩ hmd hx
        have H := H.ext hx
        obtain ⟨u6, rfl⟩ : ∃ u6, f = (upd (upd (upd (upd (upd (upd u6 0 va0) 3 (.func (.func 57) #[] #[])) 6 va0) 7 (.int .i64 ((a0.length : Nat) : Int))) 8 (.int .i64 (ik1 : Int))) 44 (.bool b5)) := ⟨f, by rw [upd_self hf0, upd_self hf3, upd_self hf6, upd_self hf7, upd_self hf8, upd_self hf44]⟩
        refine WL.nil ?_
        rcases ite_some hm2 with ⟨hc5, hm2⟩ | ⟨hc5, hm2⟩
        · refine W.cond_true (congrArg Value.bool hc5) ?_
          refine W.seq ?_
          refine W.region ?_
          refine O.assign (v := (.bool false)) rfl rfl rfl ?_
          refine WL.nil ?_
          refine W.ret ?_
          obtain rfl := Option.some.inj hm2
          refine ⟨_, rfl, ?_⟩
          rintro rfl
          have hq : false = r0 := Option.some.inj (show some false = some r0 from hm)
          subst hq
          exact ends1 Tryd.results22 rfl ⟨_, rfl, H.base, rfl⟩
        · refine W.cond_false (congrArg Value.bool hc5) ?_
          refine W.skip ?_
          refine W.region ?_
          refine O.add rfl rfl rfl rfl hinck1 ?_
          refine O.move (v := .int .i64 ((ik1 : Int) + 1)) rfl rfl rfl ?_
          refine WL.nil ?_
          have H := H.keep [] [] rfl (by decide)
          obtain rfl := Option.some.inj hm2
          exact ⟨_, rfl, rfl, rangeN_next hdropk1, rfl, rfl, rfl, rfl, rfl, H⟩
    · skip
      rintro ik1 _ f w ⟨rfl, hdropk1, hf8, hf7, hf0, hf3, hf6, H⟩ hfin
      have hltk1 := rangeN_end hdropk1
      obtain ⟨u7, rfl⟩ : ∃ u7, f = (upd (upd (upd (upd (upd u7 8 (.int .i64 (ik1 : Int))) 7 (.int .i64 ((a0.length : Nat) : Int))) 0 va0) 3 (.func (.func 57) #[] #[])) 6 va0) := ⟨f, by rw [upd_self hf8, upd_self hf7, upd_self hf0, upd_self hf3, upd_self hf6]⟩
      refine W.seq ?_
      refine W.region ?_
      refine O.lss rfl rfl rfl rfl ?_
      refine WL.nil ?_
      refine W.seq ?_
      refine W.cond_false (congrArg Value.bool (decide_eq_false hltk1)) ?_
      refine W.exit ?_
      obtain rfl : Ctl.next () = o1 := hfin
      refine xT rfl ?_
      exact ⟨rfl, rfl, H⟩
  · skip
    rintro f w ⟨rfl, hf0, H⟩
    obtain ⟨u8, rfl⟩ : ∃ u8, f = (upd u8 0 va0) := ⟨f, by rw [upd_self hf0]⟩
    refine W.seq ?_
    refine W.region ?_
    refine O.move (v := va0) rfl rfl rfl ?_
    refine O.lenS Tryd.underlying33 (H.arg ha0) rfl rfl rfl ?_
    refine O.leq rfl rfl rfl rfl ?_
    refine O.assign (v := (.bool (decide (((a0.length : Nat) : Int) ≤ 200)))) rfl rfl rfl ?_
    refine WL.nil ?_
    refine W.ret ?_
    have hq : (decide (((a0.length : Nat) : Int) ≤ 200)) = r0 := Option.some.inj (show some (decide (((a0.length : Nat) : Int) ≤ 200)) = some r0 from hm)
    subst hq
    exact ends1 Tryd.results22 rfl ⟨_, rfl, H.base, rfl⟩

theorem c_flag_texts {w0 : World} (va0 : Value) (a0 : (List GMeaning)) (ha0 : SliceR w0 va0 a0) {r0 : (List (Int × ByteArray))} (hm : flag_texts a0 = some r0) :
    Calls Tryd.prog 51 #[va0] w0 (Ret w0 fun w v => OwnM w0 w v r0) := by
  unfold flag_texts at hm
  refine calls_of_W Tryd.func51 rfl Tryd.ntmps51 (Nat.le_of_ble_eq_true rfl) ?_
  have H := Inv.start (w := w0)
  refine W.seq ?_
  refine W.region ?_
  refine O.assign (v := (.map none)) rfl rfl rfl ?_
  refine WL.nil ?_
  refine W.seq ?_
  refine W.region ?_
  refine O.makeMap (α := Int) (β := ByteArray) H rfl rfl ?_
  intro m1 w1 H hb1
  refine O.assign (v := (.map (some m1))) rfl rfl rfl ?_
  refine WL.nil ?_
  refine W.seq ?_
  refine W.seq ?_
  refine W.region ?_
  refine O.move (v := va0) rfl rfl rfl ?_
  refine O.lenS Tryd.underlying33 (H.arg ha0) rfl rfl rfl ?_
  refine O.move (v := (.int .i64 0)) rfl rfl rfl ?_
  refine WL.nil ?_
  obtain ⟨s1, hm1, hm⟩ := bind_some hm
  refine W.via (fun f w => f 3 = (.map (some m1)) ∧ Inv w0 w [mapI (K := Int) (V := ByteArray) m1 s1]) ?_ ?_
  · skip
    refine W.block ?_
    refine W.rangeL (i := 0) hm1 (fun rem ik1 s f w => ∃ z2 : (List (Int × ByteArray)), z2 = s ∧ a0.drop ik1 = rem ∧ f 9 = .int .i64 (ik1 : Int) ∧ f 8 = (.int .i64 ((a0.length : Nat) : Int)) ∧ f 3 = (.map (some m1)) ∧ f 7 = va0 ∧ Inv w0 w [mapI (K := Int) (V := ByteArray) m1 z2]) ?_ ?_ ?_
    · skip
      exact ⟨_, rfl, List.drop_zero, rfl, rfl, rfl, rfl, H⟩
    · skip
      rintro yk1 xs ik1 _ st f w ⟨z2, rfl, hdropk1, hf9, hf8, hf3, hf7, H⟩ hm2
      have hltk1 := drop_lt hdropk1; have hixk1 := drop_idx hdropk1
      obtain ⟨u1, rfl⟩ : ∃ u1, f = (upd (upd (upd (upd u1 9 (.int .i64 (ik1 : Int))) 8 (.int .i64 ((a0.length : Nat) : Int))) 3 (.map (some m1))) 7 va0) := ⟨f, by rw [upd_self hf9, upd_self hf8, upd_self hf3, upd_self hf7]⟩
      have hinck1 := addI_lt hltk1 (H.arg ha0).len_le
      refine W.seq ?_
      refine W.region ?_
      refine O.lss rfl rfl rfl rfl ?_
      refine WL.nil ?_
      refine W.seq ?_
      refine W.cond_true (congrArg Value.bool (decide_eq_true hltk1)) ?_
      refine W.skip ?_
      refine W.seq ?_
      refine W.block ?_
      refine W.seq ?_
      refine W.region ?_
      obtain ⟨p1, hp1, hrp1⟩ := fix_indexAddr Tryd.underlying33 sz39 ha0 hixk1
      refine hrp1 rfl rfl rfl rfl ?_
      refine O.loadA [(.int .i64 yk1.Number), (.string yk1.Text)] ag39 rfl rfl rfl rfl ((hp1.mono H.base).flat) ?_
      refine O.alloc [(.int .i64 0), (.string ByteArray.empty)] ze39 H rfl rfl rfl ?_
      intro b1 w2 H hb2
      refine O.store 1 0 [(.int .i64 yk1.Number), (.string yk1.Text)] [(.int .i64 yk1.Number), (.string yk1.Text)] sz39 H rfl rfl rfl rfl rfl rfl ⟨⟨rfl, rfl⟩, rfl⟩ (one_cons rfl (one_cons rfl one_nil)) ?_
      intro w3 H
      refine WL.nil ?_
      refine W.region ?_
      refine O.move (v := (.map (some m1))) rfl rfl rfl ?_
      refine O.fieldAddr fd39_0 rfl rfl rfl ?_
      refine O.load sc3 rfl rfl rfl (H.cell 1 rfl 0 _ rfl) ?_
      refine O.fieldAddr fd39_1 rfl rfl rfl ?_
      refine O.load sc9 rfl rfl rfl (H.cell 1 rfl 1 _ rfl) ?_
      refine O.mapUpdate 0 yk1.Number yk1.Text Tryd.underlying60 key3 H rfl rfl rfl rfl rfl ?_
      intro w4 H
      refine WL.nil ?_
      refine W.region ?_
      refine O.add rfl rfl rfl rfl hinck1 ?_
      refine O.move (v := .int .i64 ((ik1 : Int) + 1)) rfl rfl rfl ?_
      refine WL.nil ?_
      have H := H.keep [0] [mapI (K := Int) (V := ByteArray) m1 (mput z2 yk1.Number yk1.Text)] rfl (by decide)
      obtain rfl := Option.some.inj hm2
      exact ⟨_, rfl, _, rfl, drop_next hdropk1, rfl, rfl, rfl, rfl, H⟩
    · skip
      rintro ik1 _ f w ⟨z2, rfl, hdropk1, hf9, hf8, hf3, hf7, H⟩ hfin
      have hltk1 := drop_end hdropk1
      obtain ⟨u2, rfl⟩ : ∃ u2, f = (upd (upd (upd (upd u2 9 (.int .i64 (ik1 : Int))) 8 (.int .i64 ((a0.length : Nat) : Int))) 3 (.map (some m1))) 7 va0) := ⟨f, by rw [upd_self hf9, upd_self hf8, upd_self hf3, upd_self hf7]⟩
      refine W.seq ?_
      refine W.region ?_
      refine O.lss rfl rfl rfl rfl ?_
      refine WL.nil ?_
      refine W.seq ?_
      refine W.cond_false (congrArg Value.bool (decide_eq_false hltk1)) ?_
      refine W.exit ?_
      have hq : z2 = s1 := hfin
      subst hq
      refine xT rfl ?_
      exact ⟨rfl, H⟩
  · skip
    rintro f w ⟨hf3, H⟩
    obtain ⟨u3, rfl⟩ : ∃ u3, f = (upd u3 3 (.map (some m1))) := ⟨f, by rw [upd_self hf3]⟩
    refine W.seq ?_
    refine W.region ?_
    refine O.move (v := (.map (some m1))) rfl rfl rfl ?_
    refine O.assign (v := (.map (some m1))) rfl rfl rfl ?_
    refine WL.nil ?_
    refine W.ret ?_
    have hq : s1 = r0 := Option.some.inj (show some s1 = some r0 from hm)
    subst hq
    exact ends1 Tryd.results51 rfl ⟨_, rfl, H.base, H.ownM 0 rfl⟩

set_option maxRecDepth 20000 in
theorem c_slices_Equal_int {w0 : World} (va0 : Value) (a0 : (List Int)) (ha0 : SliceR w0 va0 a0) (va1 : Value) (a1 : (List Int)) (ha1 : SliceR w0 va1 a1) {r0 : Bool} (hm : slices_Equal_int a0 a1 = some r0) :
    Calls Tryd.prog 52 #[va0, va1] w0 (Ret w0 fun _ v => v = (.bool r0)) := by
  unfold slices_Equal_int at hm
  refine calls_of_W Tryd.func52 rfl Tryd.ntmps52 (Nat.le_of_ble_eq_true rfl) ?_
  have H := Inv.start (w := w0)
  refine W.seq ?_
  refine W.region ?_
  refine O.assign (v := (.bool false)) rfl rfl rfl ?_
  refine WL.nil ?_
  refine W.seq ?_
  refine W.seq ?_
  refine W.region ?_
  refine O.move (v := va0) rfl rfl rfl ?_
  refine O.lenS Tryd.underlying22 (H.arg ha0) rfl rfl rfl ?_
  refine O.move (v := va1) rfl rfl rfl ?_
  refine O.lenS Tryd.underlying22 (H.arg ha1) rfl rfl rfl ?_
  refine O.neq rfl rfl rfl rfl ?_
  refine WL.nil ?_
  rcases ite_some hm with ⟨hc1, hm⟩ | ⟨hc1, hm⟩
  · refine W.cond_true (congrArg Value.bool hc1) ?_
    refine W.seq ?_
    refine W.region ?_
    refine O.assign (v := (.bool false)) rfl rfl rfl ?_
    refine WL.nil ?_
    refine W.ret ?_
    have hq : false = r0 := Option.some.inj (show some false = some r0 from hm)
    subst hq
    exact ends1 Tryd.results52 rfl ⟨_, rfl, H.base, rfl⟩
  · refine W.cond_false (congrArg Value.bool hc1) ?_
    refine W.skip ?_
    refine W.seq ?_
    refine W.seq ?_
    refine W.region ?_
    refine O.move (v := va0) rfl rfl rfl ?_
    refine O.lenS Tryd.underlying22 (H.arg ha0) rfl rfl rfl ?_
    refine O.move (v := (.int .i64 0)) rfl rfl rfl ?_
    refine WL.nil ?_
    obtain ⟨o1, hm1, hm⟩ := bind_some hm
    refine W.via (fun f w => o1 = .next () ∧ Inv w0 w []) ?_ ?_
    · skip
      refine W.block ?_
      have hbdik1 := (H.arg ha0).len_le
      refine W.rangeN (i := 0) hm1 (fun rem ik1 s f w => () = s ∧ (ik1 : Int) + rem = max 0 ((a0.length : Nat) : Int) ∧ f 13 = .int .i64 (ik1 : Int) ∧ f 12 = (.int .i64 ((a0.length : Nat) : Int)) ∧ f 0 = va0 ∧ f 1 = va1 ∧ Inv w0 w []) ?_ ?_ ?_
      · skip
        exact ⟨rfl, rangeN_start, rfl, rfl, rfl, rfl, H⟩
      · skip
        rintro k ik1 _ st f w ⟨rfl, hdropk1, hf13, hf12, hf0, hf1, H⟩ hm2
        have hltk1 := rangeN_lt hdropk1
        obtain ⟨u1, rfl⟩ : ∃ u1, f = (upd (upd (upd (upd u1 13 (.int .i64 (ik1 : Int))) 12 (.int .i64 ((a0.length : Nat) : Int))) 0 va0) 1 va1) := ⟨f, by rw [upd_self hf13, upd_self hf12, upd_self hf0, upd_self hf1]⟩
        have hinck1 := addI_lt hltk1 hbdik1
        refine W.seq ?_
        refine W.region ?_
        refine O.lss rfl rfl rfl rfl ?_
        refine WL.nil ?_
        refine W.seq ?_
        refine W.cond_true (congrArg Value.bool (decide_eq_true hltk1)) ?_
        refine W.skip ?_
        refine W.seq ?_
        refine W.block ?_
        refine W.seq ?_
        refine W.region ?_
        refine O.move (v := (.int .i64 (ik1 : Int))) rfl rfl rfl ?_
        refine O.assign (v := (.int .i64 (ik1 : Int))) rfl rfl rfl ?_
        refine WL.nil ?_
        refine W.seq ?_
        obtain ⟨x1, hx1, hm2⟩ := bind_some hm2
        obtain ⟨p1, hp1, hrp1⟩ := fix_indexAddr Tryd.underlying22 sz3 (H.arg ha0) hx1
        obtain ⟨x2, hx2, hm2⟩ := bind_some hm2
        obtain ⟨p2, hp2, hrp2⟩ := fix_indexAddr Tryd.underlying22 sz3 (H.arg ha1) hx2
        refine W.drawN 8 (fun f => f 0 = va0 ∧ f 1 = va1 ∧ f 12 = (.int .i64 ((a0.length : Nat) : Int)) ∧ f 13 = (.int .i64 (ik1 : Int)) ∧ f 19 = (.int .i64 x1) ∧ f 23 = (.int .i64 x2)) fol (by kernel_rfl) ?_ ?_
        · skip
          refine PL.of (fun _ w8 _ hx => O.move (v := va0) rfl rfl rfl (WL.nil ⟨rfl, hx⟩)) ?_
          refine PL.of (fun _ w8 _ hx => O.move (v := (.int .i64 (ik1 : Int))) rfl rfl rfl (WL.nil ⟨rfl, hx⟩)) ?_
          refine PL.of (fun _ w8 _ hx => hrp1 rfl rfl rfl rfl (WL.nil ⟨rfl, hx⟩)) ?_
          refine PL.of (fun _ w8 _ hx => by have hp1 := hp1.mono hx; exact O.load sc3 rfl rfl rfl (hp1.flat 0 _ rfl) (WL.nil ⟨rfl, hx⟩)) ?_
          refine PL.of (fun _ w8 _ hx => O.move (v := va1) rfl rfl rfl (WL.nil ⟨rfl, hx⟩)) ?_
          refine PL.of (fun _ w8 _ hx => O.move (v := (.int .i64 (ik1 : Int))) rfl rfl rfl (WL.nil ⟨rfl, hx⟩)) ?_
          refine PL.of (fun _ w8 _ hx => hrp2 rfl rfl rfl rfl (WL.nil ⟨rfl, hx⟩)) ?_
          refine PL.of (fun _ w8 _ hx => by have hp2 := hp2.mono hx; exact O.load sc3 rfl rfl rfl (hp2.flat 0 _ rfl) (WL.nil ⟨rfl, hx⟩)) ?_
          refine PL.nil ?_
          exact ⟨rfl, rfl, rfl, rfl, rfl, rfl⟩
        · skip
          rintro f w ⟨hf0, hf1, hf12, hf13, hf19, hf23⟩ hmd hx
          have H := H.ext hx
          have hp1 := hp1.mono hx
          have hp2 := hp2.mono hx
          obtain ⟨u2, rfl⟩ : ∃ u2, f = (upd (upd (upd (upd (upd (upd u2 0 va0) 1 va1) 12 (.int .i64 ((a0.length : Nat) : Int))) 13 (.int .i64 (ik1 : Int))) 19 (.int .i64 x1)) 23 (.int .i64 x2)) := ⟨f, by rw [upd_self hf0, upd_self hf1, upd_self hf12, upd_self hf13, upd_self hf19, upd_self hf23]⟩
          refine O.neq rfl rfl rfl rfl ?_
          refine WL.nil ?_
          rcases ite_some hm2 with ⟨hc2, hm2⟩ | ⟨hc2, hm2⟩
          · refine W.cond_true (congrArg Value.bool hc2) ?_
            refine W.seq ?_
            refine W.region ?_
            refine O.assign (v := (.bool false)) rfl rfl rfl ?_
            refine WL.nil ?_
            refine W.ret ?_
            obtain rfl := Option.some.inj hm2
            refine ⟨_, rfl, ?_⟩
            rintro rfl
            have hq : false = r0 := Option.some.inj (show some false = some r0 from hm)
            subst hq
            exact ends1 Tryd.results52 rfl ⟨_, rfl, H.base, rfl⟩
          · refine W.cond_false (congrArg Value.bool hc2) ?_
            refine W.skip ?_
            refine W.region ?_
            refine O.add rfl rfl rfl rfl hinck1 ?_
            refine O.move (v := .int .i64 ((ik1 : Int) + 1)) rfl rfl rfl ?_
            refine WL.nil ?_
            obtain rfl := Option.some.inj hm2
            exact ⟨_, rfl, rfl, rangeN_next hdropk1, rfl, rfl, rfl, rfl, H⟩
      · skip
        rintro ik1 _ f w ⟨rfl, hdropk1, hf13, hf12, hf0, hf1, H⟩ hfin
        have hltk1 := rangeN_end hdropk1
        obtain ⟨u3, rfl⟩ : ∃ u3, f = (upd (upd (upd (upd u3 13 (.int .i64 (ik1 : Int))) 12 (.int .i64 ((a0.length : Nat) : Int))) 0 va0) 1 va1) := ⟨f, by rw [upd_self hf13, upd_self hf12, upd_self hf0, upd_self hf1]⟩
        refine W.seq ?_
        refine W.region ?_
        refine O.lss rfl rfl rfl rfl ?_
        refine WL.nil ?_
        refine W.seq ?_
        refine W.cond_false (congrArg Value.bool (decide_eq_false hltk1)) ?_
        refine W.exit ?_
        obtain rfl : Ctl.next () = o1 := hfin
        refine xT rfl ?_
        exact ⟨rfl, H⟩
    · skip
      rintro f w ⟨rfl, H⟩
      refine W.seq ?_
      refine W.region ?_
      refine O.assign (v := (.bool true)) rfl rfl rfl ?_
      refine WL.nil ?_
      refine W.ret ?_
      have hq : true = r0 := Option.some.inj (show some true = some r0 from hm)
      subst hq
      exact ends1 Tryd.results52 rfl ⟨_, rfl, H.base, rfl⟩

set_option maxRecDepth 20000 in
theorem c_flag_Look {w0 : World} (hT : TabH Tryd.prog w0) (va0 : Value) (a0 : (List GMeaning)) (ha0 : SliceR w0 va0 a0) (va1 : Value) (a1 : (List Int)) (ha1 : SliceR w0 va1 a1) {r0 : ByteArray} {r1 : Int} (hm : flag_Look a0 a1 = some (r0, r1)) :
    Calls Tryd.prog 18 #[va0, va1] w0 (Ret w0 fun _ v => v = .tuple #[(.string r0), (.int .i64 r1)]) := by
  unfold flag_Look at hm
  refine calls_of_W Tryd.func18 rfl Tryd.ntmps18 (Nat.le_of_ble_eq_true rfl) ?_
  have H := Inv.start (w := w0)
  refine W.seq ?_
  refine W.region ?_
  refine O.assign (v := (.string (bs []))) rfl rfl rfl ?_
  refine O.assign (v := (.int .i64 0)) rfl rfl rfl ?_
  refine WL.nil ?_
  refine W.seq ?_
  refine W.seq ?_
  refine W.region ?_
  refine O.move (v := va0) rfl rfl rfl ?_
  obtain ⟨t1, hy1, hm⟩ := bind_some hm
  refine O.call Tryd.call22 rfl rfl rfl (c_flag_ValidBook _ _ (H.arg ha0) hy1) ?_
  rintro _ w1 hb1 rfl
  have H := H.ext hb1
  refine O.not rfl rfl rfl ?_
  refine O.move (v := (.bool (!t1))) rfl rfl rfl ?_
  obtain ⟨b1, hm1, hm⟩ := bind_some hm
  refine WL.cut 4 (fun f w => f 0 = va0 ∧ f 1 = va1 ∧ f 16 = .bool b1 ∧ Inv w0 w []) ?_ ?_
  · skip
    rcases ite_some hm1 with ⟨hc1, hm1⟩ | ⟨hc1, hm1⟩
    · skip
      refine WL.reset (i := 12) (v := .bool true) (congrArg Value.bool hc1) ?_
      refine O.skip rfl rfl ?_
      refine O.skip rfl rfl ?_
      refine O.skip rfl rfl ?_
      refine O.pick_true (v := (.bool true)) rfl rfl rfl rfl ?_
      refine WL.nil ?_
      have hq : true = b1 := Option.some.inj (show some true = some b1 from hm1)
      subst hq
      exact ⟨rfl, rfl, rfl, H⟩
    · skip
      refine WL.reset (i := 12) (v := .bool false) (congrArg Value.bool hc1) ?_
      refine O.move (v := va1) rfl rfl rfl ?_
      obtain ⟨t2, hy2, hm1⟩ := bind_some hm1
      refine O.call Tryd.call49 rfl rfl rfl (c_flag_ValidHoist _ _ (H.arg ha1) hy2) ?_
      rintro _ w2 hb2 rfl
      have H := H.ext hb2
      refine O.not rfl rfl rfl ?_
      refine O.pick_false (v := (.bool (!t2))) rfl rfl rfl rfl ?_
      refine WL.nil ?_
      have hq : (!t2) = b1 := Option.some.inj (show some (!t2) = some b1 from hm1)
      subst hq
      exact ⟨rfl, rfl, rfl, H⟩
  · skip
    rintro f w ⟨hf0, hf1, hf16, H⟩
    obtain ⟨u1, rfl⟩ : ∃ u1, f = (upd (upd (upd u1 0 va0) 1 va1) 16 (.bool b1)) := ⟨f, by rw [upd_self hf0, upd_self hf1, upd_self hf16]⟩
    refine WL.nil ?_
    rcases ite_some hm with ⟨hc2, hm⟩ | ⟨hc2, hm⟩
    · refine W.cond_true (congrArg Value.bool hc2) ?_
      refine W.seq ?_
      refine W.region ?_
      refine O.assign (v := (.string (bs []))) rfl rfl rfl ?_
      refine O.assign (v := (.int .i64 1)) rfl rfl rfl ?_
      refine WL.nil ?_
      refine W.ret ?_
      have hq : ((bs []), 1) = (r0, r1) := Option.some.inj (show some ((bs []), 1) = some (r0, r1) from hm)
      obtain ⟨he0, hq0⟩ := Prod.mk.inj hq; clear hq; subst he0
      subst hq0
      exact ends2 Tryd.results18 rfl rfl ⟨_, rfl, H.base, rfl⟩
    · refine W.cond_false (congrArg Value.bool hc2) ?_
      refine W.skip ?_
      refine W.seq ?_
      refine W.region ?_
      refine O.move (v := va1) rfl rfl rfl ?_
      obtain ⟨t3, hy3, hm⟩ := bind_some hm
      refine O.call Tryd.call50 rfl rfl rfl (c_flag_means _ _ (H.arg ha1) hy3) ?_
      rintro v1 w3 hb3 ho1
      have H := H.addOwn hb3 ho1
      refine O.assign (v := v1) rfl rfl rfl ?_
      refine WL.nil ?_
      refine W.seq ?_
      refine W.region ?_
      refine O.move (v := va0) rfl rfl rfl ?_
      obtain ⟨t4, hy4, hm⟩ := bind_some hm
      refine O.call Tryd.call51 rfl rfl rfl (c_flag_texts _ _ (H.arg ha0) hy4) ?_
      rintro _ w4 hb4 ⟨m1, rfl, ho2a, ho2b⟩
      have H := H.addMap hb4 ho2a ho2b
      refine O.move (v := v1) rfl rfl rfl ?_
      obtain ⟨t5, hy5, hm⟩ := bind_some hm
      refine O.call Tryd.call42 rfl rfl rfl (c_flag_number _ _ (H.own 0 rfl) hy5) ?_
      rintro _ w5 hb5 rfl
      have H := H.ext hb5
      refine O.lookup2 (z := ByteArray.empty) t5 Tryd.underlying60 key3 ze9 (H.map 1 rfl) rfl rfl rfl rfl ?_
      refine O.move (v := (.tuple #[(.string ((mget t4 t5).getD ByteArray.empty)), (.bool (mget t4 t5).isSome)])) rfl rfl rfl ?_
      refine O.extract (v := (.string ((mget t4 t5).getD ByteArray.empty))) rfl rfl rfl rfl ?_
      refine O.extract (v := (.bool (mget t4 t5).isSome)) rfl rfl rfl rfl ?_
      refine O.assign (v := (.string ((mget t4 t5).getD ByteArray.empty))) rfl rfl rfl ?_
      refine O.assign (v := (.bool (mget t4 t5).isSome)) rfl rfl rfl ?_
      refine WL.nil ?_
      refine W.seq ?_
      refine W.seq ?_
      refine W.region ?_
      refine O.move (v := (.bool (mget t4 t5).isSome)) rfl rfl rfl ?_
      refine O.not rfl rfl rfl ?_
      refine O.move (v := (.bool (!(mget t4 t5).isSome))) rfl rfl rfl ?_
      obtain ⟨b2, hm2, hm⟩ := bind_some hm
      refine WL.cut 7 (fun f w => f 7 = (.string ((mget t4 t5).getD ByteArray.empty)) ∧ f 36 = .bool b2 ∧ Inv w0 w [ownI (α := Int) v1 3 t3, mapI (K := Int) (V := ByteArray) m1 t4]) ?_ ?_
      · skip
        rcases ite_some hm2 with ⟨hc3, hm2⟩ | ⟨hc3, hm2⟩
        · skip
          refine WL.reset (i := 29) (v := .bool true) (congrArg Value.bool hc3) ?_
          refine O.skip rfl rfl ?_
          refine O.skip rfl rfl ?_
          refine O.skip rfl rfl ?_
          refine O.skip rfl rfl ?_
          refine O.skip rfl rfl ?_
          refine O.skip rfl rfl ?_
          refine O.pick_true (v := (.bool true)) rfl rfl rfl rfl ?_
          refine WL.nil ?_
          have hq : true = b2 := Option.some.inj (show some true = some b2 from hm2)
          subst hq
          exact ⟨rfl, rfl, H⟩
        · skip
          refine WL.reset (i := 29) (v := .bool false) (congrArg Value.bool hc3) ?_
          refine O.move (v := v1) rfl rfl rfl ?_
          refine O.move (v := v1) rfl rfl rfl ?_
          obtain ⟨t6, hy6, hm2⟩ := bind_some hm2
          refine O.call Tryd.call42 rfl rfl rfl (c_flag_number _ _ (H.own 0 rfl) hy6) ?_
          rintro _ w6 hb6 rfl
          have H := H.ext hb6
          obtain ⟨t7, hy7, hm2⟩ := bind_some hm2
          refine O.call Tryd.call39 rfl rfl rfl (c_flag_digitsOf (hT.mono H.base) _ hy7) ?_
          rintro v2 w7 hb7 ho3
          have H := H.addOwn hb7 ho3
          obtain ⟨t8, hy8, hm2⟩ := bind_some hm2
          refine O.call Tryd.call52 rfl rfl rfl (c_slices_Equal_int _ _ (H.own 0 rfl) _ _ (H.own 2 rfl) hy8) ?_
          rintro _ w8 hb8 rfl
          have H := H.ext hb8
          refine O.not rfl rfl rfl ?_
          refine O.pick_false (v := (.bool (!t8))) rfl rfl rfl rfl ?_
          refine WL.nil ?_
          have H := H.keep [0, 1] [ownI (α := Int) v1 3 t3, mapI (K := Int) (V := ByteArray) m1 t4] rfl (by decide)
          have hq : (!t8) = b2 := Option.some.inj (show some (!t8) = some b2 from hm2)
          subst hq
          exact ⟨rfl, rfl, H⟩
      · skip
        rintro f w ⟨hf7, hf36, H⟩
        obtain ⟨u2, rfl⟩ : ∃ u2, f = (upd (upd u2 7 (.string ((mget t4 t5).getD ByteArray.empty))) 36 (.bool b2)) := ⟨f, by rw [upd_self hf7, upd_self hf36]⟩
        refine WL.nil ?_
        rcases ite_some hm with ⟨hc4, hm⟩ | ⟨hc4, hm⟩
        · refine W.cond_true (congrArg Value.bool hc4) ?_
          refine W.seq ?_
          refine W.region ?_
          refine O.assign (v := (.string (bs []))) rfl rfl rfl ?_
          refine O.assign (v := (.int .i64 8)) rfl rfl rfl ?_
          refine WL.nil ?_
          refine W.ret ?_
          have hq : ((bs []), 8) = (r0, r1) := Option.some.inj (show some ((bs []), 8) = some (r0, r1) from hm)
          obtain ⟨he0, hq0⟩ := Prod.mk.inj hq; clear hq; subst he0
          subst hq0
          exact ends2 Tryd.results18 rfl rfl ⟨_, rfl, H.base, rfl⟩
        · refine W.cond_false (congrArg Value.bool hc4) ?_
          refine W.skip ?_
          refine W.seq ?_
          refine W.region ?_
          refine O.move (v := (.string ((mget t4 t5).getD ByteArray.empty))) rfl rfl rfl ?_
          refine O.assign (v := (.string ((mget t4 t5).getD ByteArray.empty))) rfl rfl rfl ?_
          refine O.assign (v := (.int .i64 0)) rfl rfl rfl ?_
          refine WL.nil ?_
          refine W.ret ?_
          have hq : (((mget t4 t5).getD ByteArray.empty), 0) = (r0, r1) := Option.some.inj (show some (((mget t4 t5).getD ByteArray.empty), 0) = some (r0, r1) from hm)
          obtain ⟨he0, hq0⟩ := Prod.mk.inj hq; clear hq; subst he0
          subst hq0
          exact ends2 Tryd.results18 rfl rfl ⟨_, rfl, H.base, rfl⟩

end Go.Proofs
