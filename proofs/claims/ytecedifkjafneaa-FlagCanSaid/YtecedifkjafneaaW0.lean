/-
  The walks: each function does what its model says, where the model has a value. No other condition.
-/
import Derived.Test.YtecedifkjafneaaRows
import Derived.Test.YtecedifkjafneaaM
namespace Go.Proofs
open Go.Fw Go.RowKit
theorem sc3 : ScalarT Try.prog 3 := ScalarT.mk Try.underlying3 rfl
theorem sz3 : SizeT Try.prog 3 1 := SizeT.mk (by kernel_rfl)
theorem el3 : ElemT Try.prog 3 1 8 := ElemT.mk (z := (.int .i64 (0))) (by kernel_rfl) rfl
theorem fol : Try.prog.follows .mixedOrders = true := by kernel_rfl
theorem sc22 : ScalarT Try.prog 22 := ScalarT.mk Try.underlying22 rfl
theorem sc29 : ScalarT Try.prog 29 := ScalarT.mk Try.underlying29 rfl
theorem sc48 : ScalarT Try.prog 48 := ScalarT.mk Try.underlying48 rfl
theorem sz22 : SizeT Try.prog 22 1 := SizeT.mk (by kernel_rfl)
theorem sz48 : SizeT Try.prog 48 1 := SizeT.mk (by kernel_rfl)
theorem ze22 : ZeroT Try.prog 22 (.slice none 0 0) := ZeroT.mk (by kernel_rfl)
theorem ze48 : ZeroT Try.prog 48 .nilFunc := ZeroT.mk (by kernel_rfl)
theorem shl1_flag : ∀ {y : Nat}, y < 13 → shlI 1 (y : Int) = some (2 ^ y) := by
  intro y h
  unfold shlI
  have : ∀ y : Nat, y < 13 → inI (1 * 2 ^ y) = true := by decide
  rw [if_pos ⟨by omega, by rw [Int.toNat_natCast]; exact this y h⟩, Int.toNat_natCast, Int.one_mul]
theorem ze24 : ZeroT Try.prog 24 (.int .i64 (0)) := ZeroT.mk (by kernel_rfl)
theorem sz24 : SizeT Try.prog 24 1 := SizeT.mk (by kernel_rfl)
theorem sc24 : ScalarT Try.prog 24 := ScalarT.mk Try.underlying24 rfl
theorem ze4 : ZeroT Try.prog 4 (.bool false) := ZeroT.mk (by kernel_rfl)
theorem sz4 : SizeT Try.prog 4 1 := SizeT.mk (by kernel_rfl)
theorem sc4 : ScalarT Try.prog 4 := ScalarT.mk Try.underlying4 rfl
theorem zel3 : ZElemT Try.prog 3 (0 : Int) 8 := ZElemT.mk (z := (.int .i64 (0))) (by kernel_rfl) rfl
theorem el22 : ElemT Try.prog 22 1 24 := ElemT.mk (z := (.slice none 0 0)) (by kernel_rfl) rfl
theorem zel4 : ZElemT Try.prog 4 (false : Bool) 1 := ZElemT.mk (z := (.bool false)) (by kernel_rfl) rfl
theorem ze36 : ZeroT Try.prog 36 (.slice none 0 0) := ZeroT.mk (by kernel_rfl)
theorem sc36 : ScalarT Try.prog 36 := ScalarT.mk Try.underlying36 rfl
theorem sz36 : SizeT Try.prog 36 1 := SizeT.mk (by kernel_rfl)
theorem c_flag_within {w0 : World} (a0 : Int) (a1 : Int) (a2 : Int) {r0 : Bool} (hm : flag_within a0 a1 a2 = some r0) :
    Calls Try.prog 42 #[(.int .i64 a0), (.int .i64 a1), (.int .i64 a2)] w0 (Ret w0 fun _ v => v = (.bool r0)) := by
  unfold flag_within at hm
  refine calls_of_W Try.func42 rfl Try.ntmps42 (Nat.le_of_ble_eq_true rfl) ?_
  have H := Inv.start (w := w0)
  refine W.seq ?_
  refine W.region ?_
  refine O.assign (v := (.bool false)) rfl rfl rfl ?_
  refine WL.nil ?_
  refine W.seq ?_
  refine W.region ?_
  refine O.move (v := (.int .i64 a0)) rfl rfl rfl ?_
  refine O.move (v := (.int .i64 a1)) rfl rfl rfl ?_
  refine O.geq rfl rfl rfl rfl ?_
  refine O.move (v := (.bool (decide (a1 ≤ a0)))) rfl rfl rfl ?_
  refine WL.cut 4 (fun f w => f 14 = .bool ((decide (a1 ≤ a0)) && (decide (a0 ≤ a2))) ∧ Inv w0 w []) ?_ ?_
  · skip
    rcases bool_ft (decide (a1 ≤ a0)) with hc1 | hc1
    · skip
      refine WL.reset (i := 10) (v := .bool false) (congrArg Value.bool hc1) ?_
      refine O.skip rfl rfl ?_
      refine O.skip rfl rfl ?_
      refine O.skip rfl rfl ?_
      refine O.pick_false (v := (.bool false)) rfl rfl rfl rfl ?_
      refine WL.nil ?_
      exact ⟨congrArg Value.bool (and_f hc1), H⟩
    · skip
      refine WL.reset (i := 10) (v := .bool true) (congrArg Value.bool hc1) ?_
      refine O.move (v := (.int .i64 a0)) rfl rfl rfl ?_
      refine O.move (v := (.int .i64 a2)) rfl rfl rfl ?_
      refine O.leq rfl rfl rfl rfl ?_
      refine O.pick_true (v := (.bool (decide (a0 ≤ a2)))) rfl rfl rfl rfl ?_
      refine WL.nil ?_
      exact ⟨congrArg Value.bool (and_t hc1), H⟩
  · skip
    rintro f w ⟨hf14, H⟩
    obtain ⟨u1, rfl⟩ : ∃ u1, f = (upd u1 14 (.bool ((decide (a1 ≤ a0)) && (decide (a0 ≤ a2))))) := ⟨f, by rw [upd_self hf14]⟩
    refine O.assign (v := (.bool ((decide (a1 ≤ a0)) && (decide (a0 ≤ a2))))) rfl rfl rfl ?_
    refine WL.nil ?_
    refine W.ret ?_
    have hq : ((decide (a1 ≤ a0)) && (decide (a0 ≤ a2))) = r0 := Option.some.inj (show some ((decide (a1 ≤ a0)) && (decide (a0 ≤ a2))) = some r0 from hm)
    subst hq
    exact ends1 Try.results42 rfl ⟨_, rfl, H.base, rfl⟩

theorem c_flag_listed_c1 {w0 : World} (a0 : Int) (pc0 : Addr) (c0 : Int) (hc0 : ∀ j c, (Flat.cells c0)[j]? = some c → w0.cell? (pc0.add j) = some c) {r0 : Bool} (hm : flag_listed_c1 a0 c0 = some r0) :
    Calls Try.prog 51 #[(.int .i64 a0), (.pointer (some pc0))] w0 (Ret w0 fun _ v => v = (.bool r0)) := by
  unfold flag_listed_c1 at hm
  refine calls_of_W Try.func51 rfl Try.ntmps51 (Nat.le_of_ble_eq_true rfl) ?_
  have H := Inv.start (w := w0)
  refine W.seq ?_
  refine W.region ?_
  refine O.assign (v := (.bool false)) rfl rfl rfl ?_
  refine WL.nil ?_
  refine W.seq ?_
  refine W.region ?_
  refine O.move (v := (.int .i64 a0)) rfl rfl rfl ?_
  refine O.load sc3 rfl rfl rfl (cells_mono hc0 H.base 0 _ rfl) ?_
  obtain ⟨t1, hy1, hm⟩ := bind_some hm
  refine O.call Try.call42 rfl rfl rfl (c_flag_within _ _ _ hy1) ?_
  rintro _ w1 hb1 rfl
  have H := H.ext hb1
  refine O.not rfl rfl rfl ?_
  refine O.assign (v := (.bool (!t1))) rfl rfl rfl ?_
  refine WL.nil ?_
  refine W.ret ?_
  have hq : (!t1) = r0 := Option.some.inj (show some (!t1) = some r0 from hm)
  subst hq
  exact ends1 Try.results51 rfl ⟨_, rfl, H.base, rfl⟩

theorem c_slices_IndexFunc_int {w0 : World} (va0 : Value) (a0 : (List Int)) (ha0 : SliceR w0 va0 a0) (va1 : Value) (a1 : Int → Option (Bool)) (ha1 : ∀ (w : World), Below w0.heap.size w0 w → ∀ (x0 : Int) (y0 : Bool), a1 x0 = some y0 → CallsV Try.prog va1 #[(.int .i64 x0)] w (Ret w fun _ v => v = (.bool y0))) {r0 : Int} (hm : slices_IndexFunc_int a0 a1 = some r0) :
    Calls Try.prog 55 #[va0, va1] w0 (Ret w0 fun _ v => v = (.int .i64 r0)) := by
  unfold slices_IndexFunc_int at hm
  refine calls_of_W Try.func55 rfl Try.ntmps55 (Nat.le_of_ble_eq_true rfl) ?_
  have H := Inv.start (w := w0)
  refine W.seq ?_
  refine W.region ?_
  refine O.assign (v := (.int .i64 0)) rfl rfl rfl ?_
  refine WL.nil ?_
  refine W.seq ?_
  refine W.seq ?_
  refine W.region ?_
  refine O.move (v := va0) rfl rfl rfl ?_
  refine O.lenS Try.underlying22 (H.arg ha0) rfl rfl rfl ?_
  refine O.move (v := (.int .i64 0)) rfl rfl rfl ?_
  refine WL.nil ?_
  obtain ⟨o1, hm1, hm⟩ := bind_some hm
  refine W.via (fun f w => o1 = .next () ∧ Inv w0 w []) ?_ ?_
  · skip
    refine W.block ?_
    have hbdik1 := (H.arg ha0).len_le
    refine W.rangeN (i := 0) hm1 (fun rem ik1 s f w => () = s ∧ (ik1 : Int) + rem = max 0 ((a0.length : Nat) : Int) ∧ f 8 = .int .i64 (ik1 : Int) ∧ f 7 = (.int .i64 ((a0.length : Nat) : Int)) ∧ f 0 = va0 ∧ f 1 = va1 ∧ Inv w0 w []) ?_ ?_ ?_
    · skip
      exact ⟨rfl, rangeN_start, rfl, rfl, rfl, rfl, H⟩
    · skip
      rintro k ik1 _ st f w ⟨rfl, hdropk1, hf8, hf7, hf0, hf1, H⟩ hm2
      have hltk1 := rangeN_lt hdropk1
      obtain ⟨u1, rfl⟩ : ∃ u1, f = (upd (upd (upd (upd u1 8 (.int .i64 (ik1 : Int))) 7 (.int .i64 ((a0.length : Nat) : Int))) 0 va0) 1 va1) := ⟨f, by rw [upd_self hf8, upd_self hf7, upd_self hf0, upd_self hf1]⟩
      have hinck1 := addI_lt hltk1 hbdik1
      refine W.seq ?_
      refine W.region ?_
      refine O.lss rfl rfl rfl rfl ?_
      refine WL.nil ?_
      refine W.seq ?_
      refine W.cond_true (congrArg Value.bool (decide_eq_true hltk1)) ?_
      refine W.skip ?_
      refine W.seq ?_
      refine W.block ?_
      refine W.seq ?_
      refine W.region ?_
      refine O.move (v := (.int .i64 (ik1 : Int))) rfl rfl rfl ?_
      refine O.assign (v := (.int .i64 (ik1 : Int))) rfl rfl rfl ?_
      refine WL.nil ?_
      refine W.seq ?_
      refine W.region ?_
      refine O.move (v := va1) rfl rfl rfl ?_
      refine O.move (v := va0) rfl rfl rfl ?_
      refine O.move (v := (.int .i64 (ik1 : Int))) rfl rfl rfl ?_
      obtain ⟨x1, hx1, hm2⟩ := bind_some hm2
      obtain ⟨p1, hp1, hrp1⟩ := fix_indexAddr Try.underlying22 sz3 ha0 hx1
      refine hrp1 rfl rfl rfl rfl ?_
      refine O.load sc3 rfl rfl rfl ((hp1.mono H.base).flat 0 _ rfl) ?_
      obtain ⟨t1, hy1, hm2⟩ := bind_some hm2
      refine O.callV rfl rfl rfl rfl (ha1 _ H.base _ _ hy1) ?_
      rintro _ w1 hb1 rfl
      have H := H.ext hb1
      refine WL.nil ?_
      rcases ite_some hm2 with ⟨hc1, hm2⟩ | ⟨hc1, hm2⟩
      · refine W.cond_true (congrArg Value.bool hc1) ?_
        refine W.seq ?_
        refine W.region ?_
        refine O.move (v := (.int .i64 (ik1 : Int))) rfl rfl rfl ?_
        refine O.assign (v := (.int .i64 (ik1 : Int))) rfl rfl rfl ?_
        refine WL.nil ?_
        refine W.ret ?_
        obtain rfl := Option.some.inj hm2
        refine ⟨_, rfl, ?_⟩
        rintro rfl
        have hq : (ik1 : Int) = r0 := Option.some.inj (show some (ik1 : Int) = some r0 from hm)
        subst hq
        exact ends1 Try.results55 rfl ⟨_, rfl, H.base, rfl⟩
      · refine W.cond_false (congrArg Value.bool hc1) ?_
        refine W.skip ?_
        refine W.region ?_
        refine O.add rfl rfl rfl rfl hinck1 ?_
        refine O.move (v := .int .i64 ((ik1 : Int) + 1)) rfl rfl rfl ?_
        refine WL.nil ?_
        obtain rfl := Option.some.inj hm2
        exact ⟨_, rfl, rfl, rangeN_next hdropk1, rfl, rfl, rfl, rfl, H⟩
    · skip
      rintro ik1 _ f w ⟨rfl, hdropk1, hf8, hf7, hf0, hf1, H⟩ hfin
      have hltk1 := rangeN_end hdropk1
      obtain ⟨u2, rfl⟩ : ∃ u2, f = (upd (upd (upd (upd u2 8 (.int .i64 (ik1 : Int))) 7 (.int .i64 ((a0.length : Nat) : Int))) 0 va0) 1 va1) := ⟨f, by rw [upd_self hf8, upd_self hf7, upd_self hf0, upd_self hf1]⟩
      refine W.seq ?_
      refine W.region ?_
      refine O.lss rfl rfl rfl rfl ?_
      refine WL.nil ?_
      refine W.seq ?_
      refine W.cond_false (congrArg Value.bool (decide_eq_false hltk1)) ?_
      refine W.exit ?_
      obtain rfl : Ctl.next () = o1 := hfin
      refine xT rfl ?_
      exact ⟨rfl, H⟩
  · skip
    rintro f w ⟨rfl, H⟩
    refine W.seq ?_
    refine W.region ?_
    refine O.assign (v := (.int .i64 (-1))) rfl rfl rfl ?_
    refine WL.nil ?_
    refine W.ret ?_
    have hq : (-1) = r0 := Option.some.inj (show some (-1) = some r0 from hm)
    subst hq
    exact ends1 Try.results55 rfl ⟨_, rfl, H.base, rfl⟩

theorem c_slices_ContainsFunc_int {w0 : World} (va0 : Value) (a0 : (List Int)) (ha0 : SliceR w0 va0 a0) (va1 : Value) (a1 : Int → Option (Bool)) (ha1 : ∀ (w : World), Below w0.heap.size w0 w → ∀ (x0 : Int) (y0 : Bool), a1 x0 = some y0 → CallsV Try.prog va1 #[(.int .i64 x0)] w (Ret w fun _ v => v = (.bool y0))) {r0 : Bool} (hm : slices_ContainsFunc_int a0 a1 = some r0) :
    Calls Try.prog 50 #[va0, va1] w0 (Ret w0 fun _ v => v = (.bool r0)) := by
  unfold slices_ContainsFunc_int at hm
  refine calls_of_W Try.func50 rfl Try.ntmps50 (Nat.le_of_ble_eq_true rfl) ?_
  have H := Inv.start (w := w0)
  refine W.seq ?_
  refine W.region ?_
  refine O.assign (v := (.bool false)) rfl rfl rfl ?_
  refine WL.nil ?_
  refine W.seq ?_
  refine W.region ?_
  refine O.move (v := va0) rfl rfl rfl ?_
  refine O.move (v := va1) rfl rfl rfl ?_
  obtain ⟨t1, hy1, hm⟩ := bind_some hm
  refine O.call Try.call55 rfl rfl rfl (c_slices_IndexFunc_int _ _ (H.arg ha0) va1 a1 (fun w hw => ha1 w (H.base.trans (hw.mono H.base.size))) hy1) ?_
  rintro _ w1 hb1 rfl
  have H := H.ext hb1
  refine O.geq rfl rfl rfl rfl ?_
  refine O.assign (v := (.bool (decide (0 ≤ t1)))) rfl rfl rfl ?_
  refine WL.nil ?_
  refine W.ret ?_
  have hq : (decide (0 ≤ t1)) = r0 := Option.some.inj (show some (decide (0 ≤ t1)) = some r0 from hm)
  subst hq
  exact ends1 Try.results50 rfl ⟨_, rfl, H.base, rfl⟩

theorem c_flag_listed {w0 : World} (va0 : Value) (a0 : (List Int)) (ha0 : SliceR w0 va0 a0) (a1 : Int) {r0 : Bool} (hm : flag_listed a0 a1 = some r0) :
    Calls Try.prog 36 #[va0, (.int .i64 a1)] w0 (Ret w0 fun _ v => v = (.bool r0)) := by
  unfold flag_listed at hm
  refine calls_of_W Try.func36 rfl Try.ntmps36 (Nat.le_of_ble_eq_true rfl) ?_
  have H := Inv.start (w := w0)
  refine W.seq ?_
  refine W.region ?_
  refine O.box [(.int .i64 a1)] H rfl rfl rfl rfl ?_
  intro b1 w1 H hb1
  refine O.assign (v := (.bool false)) rfl rfl rfl ?_
  refine WL.nil ?_
  refine W.seq ?_
  refine W.region ?_
  refine O.move (v := va0) rfl rfl rfl ?_
  refine O.lenS Try.underlying22 (H.arg ha0) rfl rfl rfl ?_
  obtain ⟨t1, hy1, hm⟩ := bind_some hm
  refine O.call Try.call42 rfl rfl rfl (c_flag_within _ _ _ hy1) ?_
  rintro _ w2 hb2 rfl
  have H := H.ext hb2
  refine O.move (v := (.bool t1)) rfl rfl rfl ?_
  obtain ⟨b2, hm1, hm⟩ := bind_some hm
  refine WL.cut 5 (fun f w => f 13 = .bool b2 ∧ Inv w0 w [boxI b1 3 [(.int .i64 a1)]]) ?_ ?_
  · skip
    rcases ite_some hm1 with ⟨hc1, hm1⟩ | ⟨hc1, hm1⟩
    · skip
      refine WL.reset (i := 8) (v := .bool true) (congrArg Value.bool hc1) ?_
      refine O.move (v := va0) rfl rfl rfl ?_
      refine O.makeFunc rfl rfl rfl rfl ?_
      obtain ⟨t2, hy2, hm1⟩ := bind_some hm1
      refine O.call Try.call50 rfl rfl rfl (c_slices_ContainsFunc_int _ _ (H.arg ha0) _ (fun x0 => flag_listed_c1 x0 a1) (fun w hw x0 _ hy => callsV_mk Try.call51 (c_flag_listed_c1 x0 _ a1 (cells_mono (H.cell 0 rfl) hw) hy)) hy2) ?_
      rintro _ w3 hb3 rfl
      have H := H.ext hb3
      refine O.not rfl rfl rfl ?_
      refine O.pick_true (v := (.bool (!t2))) rfl rfl rfl rfl ?_
      refine WL.nil ?_
      have hq : (!t2) = b2 := Option.some.inj (show some (!t2) = some b2 from hm1)
      subst hq
      exact ⟨rfl, H⟩
    · skip
      refine WL.reset (i := 8) (v := .bool false) (congrArg Value.bool hc1) ?_
      refine O.skip rfl rfl ?_
      refine O.skip rfl rfl ?_
      refine O.skip rfl rfl ?_
      refine O.skip rfl rfl ?_
      refine O.pick_false (v := (.bool false)) rfl rfl rfl rfl ?_
      refine WL.nil ?_
      have hq : false = b2 := Option.some.inj (show some false = some b2 from hm1)
      subst hq
      exact ⟨rfl, H⟩
  · skip
    rintro f w ⟨hf13, H⟩
    obtain ⟨u1, rfl⟩ : ∃ u1, f = (upd u1 13 (.bool b2)) := ⟨f, by rw [upd_self hf13]⟩
    refine O.assign (v := (.bool b2)) rfl rfl rfl ?_
    refine WL.nil ?_
    refine W.ret ?_
    have hq : b2 = r0 := Option.some.inj (show some b2 = some r0 from hm)
    subst hq
    exact ends1 Try.results36 rfl ⟨_, rfl, H.base, rfl⟩

theorem c_flag_ValidDigits {w0 : World} (va0 : Value) (a0 : (List Int)) (ha0 : SliceR w0 va0 a0) {r0 : Bool} (hm : flag_ValidDigits a0 = some r0) :
    Calls Try.prog 14 #[va0] w0 (Ret w0 fun _ v => v = (.bool r0)) := by
  unfold flag_ValidDigits at hm
  refine calls_of_W Try.func14 rfl Try.ntmps14 (Nat.le_of_ble_eq_true rfl) ?_
  have H := Inv.start (w := w0)
  refine W.seq ?_
  refine W.region ?_
  refine O.assign (v := (.bool false)) rfl rfl rfl ?_
  refine WL.nil ?_
  refine W.seq ?_
  refine W.region ?_
  refine O.move (v := va0) rfl rfl rfl ?_
  obtain ⟨t1, hy1, hm⟩ := bind_some hm
  refine O.call Try.call36 rfl rfl rfl (c_flag_listed _ _ (H.arg ha0) _ hy1) ?_
  rintro _ w1 hb1 rfl
  have H := H.ext hb1
  refine O.assign (v := (.bool t1)) rfl rfl rfl ?_
  refine WL.nil ?_
  refine W.ret ?_
  have hq : t1 = r0 := Option.some.inj (show some t1 = some r0 from hm)
  subst hq
  exact ends1 Try.results14 rfl ⟨_, rfl, H.base, rfl⟩

theorem c_slices_Index_int {w0 : World} (va0 : Value) (a0 : (List Int)) (ha0 : SliceR w0 va0 a0) (a1 : Int) {r0 : Int} (hm : slices_Index_int a0 a1 = some r0) :
    Calls Try.prog 52 #[va0, (.int .i64 a1)] w0 (Ret w0 fun _ v => v = (.int .i64 r0)) := by
  unfold slices_Index_int at hm
  refine calls_of_W Try.func52 rfl Try.ntmps52 (Nat.le_of_ble_eq_true rfl) ?_
  have H := Inv.start (w := w0)
  refine W.seq ?_
  refine W.region ?_
  refine O.assign (v := (.int .i64 0)) rfl rfl rfl ?_
  refine WL.nil ?_
  refine W.seq ?_
  refine W.seq ?_
  refine W.region ?_
  refine O.move (v := va0) rfl rfl rfl ?_
  refine O.lenS Try.underlying22 (H.arg ha0) rfl rfl rfl ?_
  refine O.move (v := (.int .i64 0)) rfl rfl rfl ?_
  refine WL.nil ?_
  obtain ⟨o1, hm1, hm⟩ := bind_some hm
  refine W.via (fun f w => o1 = .next () ∧ Inv w0 w []) ?_ ?_
  · skip
    refine W.block ?_
    have hbdik1 := (H.arg ha0).len_le
    refine W.rangeN (i := 0) hm1 (fun rem ik1 s f w => () = s ∧ (ik1 : Int) + rem = max 0 ((a0.length : Nat) : Int) ∧ f 8 = .int .i64 (ik1 : Int) ∧ f 7 = (.int .i64 ((a0.length : Nat) : Int)) ∧ f 0 = va0 ∧ f 1 = (.int .i64 a1) ∧ Inv w0 w []) ?_ ?_ ?_
    · skip
      exact ⟨rfl, rangeN_start, rfl, rfl, rfl, rfl, H⟩
    · skip
      rintro k ik1 _ st f w ⟨rfl, hdropk1, hf8, hf7, hf0, hf1, H⟩ hm2
      have hltk1 := rangeN_lt hdropk1
      obtain ⟨u1, rfl⟩ : ∃ u1, f = (upd (upd (upd (upd u1 8 (.int .i64 (ik1 : Int))) 7 (.int .i64 ((a0.length : Nat) : Int))) 0 va0) 1 (.int .i64 a1)) := ⟨f, by rw [upd_self hf8, upd_self hf7, upd_self hf0, upd_self hf1]⟩
      have hinck1 := addI_lt hltk1 hbdik1
      refine W.seq ?_
      refine W.region ?_
      refine O.lss rfl rfl rfl rfl ?_
      refine WL.nil ?_
      refine W.seq ?_
      refine W.cond_true (congrArg Value.bool (decide_eq_true hltk1)) ?_
      refine W.skip ?_
      refine W.seq ?_
      refine W.block ?_
      refine W.seq ?_
      refine W.region ?_
      refine O.move (v := (.int .i64 (ik1 : Int))) rfl rfl rfl ?_
      refine O.assign (v := (.int .i64 (ik1 : Int))) rfl rfl rfl ?_
      refine WL.nil ?_
      refine W.seq ?_
      refine W.region ?_
      refine O.move (v := (.int .i64 a1)) rfl rfl rfl ?_
      refine O.move (v := va0) rfl rfl rfl ?_
      refine O.move (v := (.int .i64 (ik1 : Int))) rfl rfl rfl ?_
      obtain ⟨x1, hx1, hm2⟩ := bind_some hm2
      obtain ⟨p1, hp1, hrp1⟩ := fix_indexAddr Try.underlying22 sz3 ha0 hx1
      refine hrp1 rfl rfl rfl rfl ?_
      refine O.load sc3 rfl rfl rfl ((hp1.mono H.base).flat 0 _ rfl) ?_
      refine O.eql rfl rfl rfl rfl ?_
      refine WL.nil ?_
      rcases ite_some hm2 with ⟨hc1, hm2⟩ | ⟨hc1, hm2⟩
      · refine W.cond_true (congrArg Value.bool hc1) ?_
        refine W.seq ?_
        refine W.region ?_
        refine O.move (v := (.int .i64 (ik1 : Int))) rfl rfl rfl ?_
        refine O.assign (v := (.int .i64 (ik1 : Int))) rfl rfl rfl ?_
        refine WL.nil ?_
        refine W.ret ?_
        obtain rfl := Option.some.inj hm2
        refine ⟨_, rfl, ?_⟩
        rintro rfl
        have hq : (ik1 : Int) = r0 := Option.some.inj (show some (ik1 : Int) = some r0 from hm)
        subst hq
        exact ends1 Try.results52 rfl ⟨_, rfl, H.base, rfl⟩
      · refine W.cond_false (congrArg Value.bool hc1) ?_
        refine W.skip ?_
        refine W.region ?_
        refine O.add rfl rfl rfl rfl hinck1 ?_
        refine O.move (v := .int .i64 ((ik1 : Int) + 1)) rfl rfl rfl ?_
        refine WL.nil ?_
        obtain rfl := Option.some.inj hm2
        exact ⟨_, rfl, rfl, rangeN_next hdropk1, rfl, rfl, rfl, rfl, H⟩
    · skip
      rintro ik1 _ f w ⟨rfl, hdropk1, hf8, hf7, hf0, hf1, H⟩ hfin
      have hltk1 := rangeN_end hdropk1
      obtain ⟨u2, rfl⟩ : ∃ u2, f = (upd (upd (upd (upd u2 8 (.int .i64 (ik1 : Int))) 7 (.int .i64 ((a0.length : Nat) : Int))) 0 va0) 1 (.int .i64 a1)) := ⟨f, by rw [upd_self hf8, upd_self hf7, upd_self hf0, upd_self hf1]⟩
      refine W.seq ?_
      refine W.region ?_
      refine O.lss rfl rfl rfl rfl ?_
      refine WL.nil ?_
      refine W.seq ?_
      refine W.cond_false (congrArg Value.bool (decide_eq_false hltk1)) ?_
      refine W.exit ?_
      obtain rfl : Ctl.next () = o1 := hfin
      refine xT rfl ?_
      exact ⟨rfl, H⟩
  · skip
    rintro f w ⟨rfl, H⟩
    refine W.seq ?_
    refine W.region ?_
    refine O.assign (v := (.int .i64 (-1))) rfl rfl rfl ?_
    refine WL.nil ?_
    refine W.ret ?_
    have hq : (-1) = r0 := Option.some.inj (show some (-1) = some r0 from hm)
    subst hq
    exact ends1 Try.results52 rfl ⟨_, rfl, H.base, rfl⟩

theorem c_slices_Contains_int {w0 : World} (va0 : Value) (a0 : (List Int)) (ha0 : SliceR w0 va0 a0) (a1 : Int) {r0 : Bool} (hm : slices_Contains_int a0 a1 = some r0) :
    Calls Try.prog 37 #[va0, (.int .i64 a1)] w0 (Ret w0 fun _ v => v = (.bool r0)) := by
  unfold slices_Contains_int at hm
  refine calls_of_W Try.func37 rfl Try.ntmps37 (Nat.le_of_ble_eq_true rfl) ?_
  have H := Inv.start (w := w0)
  refine W.seq ?_
  refine W.region ?_
  refine O.assign (v := (.bool false)) rfl rfl rfl ?_
  refine WL.nil ?_
  refine W.seq ?_
  refine W.region ?_
  refine O.move (v := va0) rfl rfl rfl ?_
  refine O.move (v := (.int .i64 a1)) rfl rfl rfl ?_
  obtain ⟨t1, hy1, hm⟩ := bind_some hm
  refine O.call Try.call52 rfl rfl rfl (c_slices_Index_int _ _ (H.arg ha0) _ hy1) ?_
  rintro _ w1 hb1 rfl
  have H := H.ext hb1
  refine O.geq rfl rfl rfl rfl ?_
  refine O.assign (v := (.bool (decide (0 ≤ t1)))) rfl rfl rfl ?_
  refine WL.nil ?_
  refine W.ret ?_
  have hq : (decide (0 ≤ t1)) = r0 := Option.some.inj (show some (decide (0 ≤ t1)) = some r0 from hm)
  subst hq
  exact ends1 Try.results37 rfl ⟨_, rfl, H.base, rfl⟩

theorem c_flag_place {w0 : World} (a0 : Int) {r0 : Int} (hm : flag_place a0 = some r0) :
    Calls Try.prog 38 #[(.int .i64 a0)] w0 (Ret w0 fun _ v => v = (.int .i64 r0)) := by
  unfold flag_place at hm
  refine calls_of_W Try.func38 rfl Try.ntmps38 (Nat.le_of_ble_eq_true rfl) ?_
  have H := Inv.start (w := w0)
  refine W.seq ?_
  refine W.region ?_
  refine O.assign (v := (.int .i64 0)) rfl rfl rfl ?_
  refine WL.nil ?_
  refine W.seq ?_
  refine W.region ?_
  refine O.move (v := (.int .i64 a0)) rfl rfl rfl ?_
  obtain ⟨t1, ht1, hm⟩ := bind_some hm
  refine O.sub rfl rfl rfl rfl ht1 ?_
  refine O.assign (v := (.int .i64 t1)) rfl rfl rfl ?_
  refine WL.nil ?_
  refine W.ret ?_
  have hq : t1 = r0 := Option.some.inj (show some t1 = some r0 from hm)
  subst hq
  exact ends1 Try.results38 rfl ⟨_, rfl, H.base, rfl⟩

set_option maxRecDepth 20000 in
theorem c_flag_Hoist {w0 : World} (va0 : Value) (a0 : (List Int)) (ha0 : SliceR w0 va0 a0) {r0 : (List Int)} {r1 : Int} (hm : flag_Hoist a0 = some (r0, r1)) :
    Calls Try.prog 25 #[va0] w0 (Ret w0 fun w v => ∃ vr0 : Value, v = .tuple #[vr0, (.int .i64 r1)] ∧ OwnR w0 w vr0 3 r0) := by
  unfold flag_Hoist at hm
  refine calls_of_W Try.func25 rfl Try.ntmps25 (Nat.le_of_ble_eq_true rfl) ?_
  have H := Inv.start (w := w0)
  refine W.seq ?_
  refine W.region ?_
  have H := H.addNil (α := Int) (E := 3)
  refine O.assign (v := (.slice none 0 0)) rfl rfl rfl ?_
  refine O.assign (v := (.int .i64 0)) rfl rfl rfl ?_
  refine WL.nil ?_
  refine W.seq ?_
  refine W.seq ?_
  refine W.region ?_
  refine O.move (v := va0) rfl rfl rfl ?_
  obtain ⟨t1, hy1, hm⟩ := bind_some hm
  refine O.call Try.call14 rfl rfl rfl (c_flag_ValidDigits _ _ (H.arg ha0) hy1) ?_
  rintro _ w1 hb1 rfl
  have H := H.ext hb1
  refine O.not rfl rfl rfl ?_
  refine WL.nil ?_
  rcases ite_some hm with ⟨hc1, hm⟩ | ⟨hc1, hm⟩
  · refine W.cond_true (congrArg Value.bool hc1) ?_
    refine W.seq ?_
    refine W.region ?_
    have H := H.addNil (α := Int) (E := 3)
    refine O.assign (v := (.slice none 0 0)) rfl rfl rfl ?_
    refine O.assign (v := (.int .i64 1)) rfl rfl rfl ?_
    refine WL.nil ?_
    refine W.ret ?_
    have hq : (([] : List Int), 1) = (r0, r1) := Option.some.inj (show some (([] : List Int), 1) = some (r0, r1) from hm)
    obtain ⟨he0, hq0⟩ := Prod.mk.inj hq; clear hq; subst he0
    subst hq0
    exact ends2 Try.results25 rfl rfl ⟨_, rfl, H.base, ⟨_, rfl, H.ownR 1 rfl⟩⟩
  · refine W.cond_false (congrArg Value.bool hc1) ?_
    refine W.skip ?_
    refine W.seq ?_
    refine W.region ?_
    have H := H.addNil (α := Int) (E := 3)
    refine O.assign (v := (.slice none 0 0)) rfl rfl rfl ?_
    refine WL.nil ?_
    refine W.seq ?_
    refine W.seq ?_
    refine W.region ?_
    refine O.move (v := va0) rfl rfl rfl ?_
    refine O.lenS Try.underlying22 (H.arg ha0) rfl rfl rfl ?_
    refine O.move (v := (.int .i64 0)) rfl rfl rfl ?_
    refine WL.nil ?_
    obtain ⟨s1, hm1, hm⟩ := bind_some hm
    refine W.via (fun f w => ∃ v4 : Value, f 4 = v4 ∧ Inv w0 w [ownI (α := Int) v4 3 s1]) ?_ ?_
    · skip
      refine W.block ?_
      have hbdik1 := (H.arg ha0).len_le
      have H := H.keep [1] [ownI (α := Int) (.slice none 0 0) 3 ([] : List Int)] rfl (by decide)
      refine W.rangeN (i := 0) hm1 (fun rem ik1 s f w => ∃ z2 : (List Int), ∃ v2 : Value, z2 = s ∧ (ik1 : Int) + rem = max 0 ((a0.length : Nat) : Int) ∧ f 13 = .int .i64 (ik1 : Int) ∧ f 12 = (.int .i64 ((a0.length : Nat) : Int)) ∧ f 0 = va0 ∧ f 4 = v2 ∧ f 11 = va0 ∧ Inv w0 w [ownI (α := Int) v2 3 z2]) ?_ ?_ ?_
      · skip
        exact ⟨_, (.slice none 0 0), rfl, rangeN_start, rfl, rfl, rfl, rfl, rfl, H⟩
      · skip
        rintro k ik1 _ st f w ⟨z2, v2, rfl, hdropk1, hf13, hf12, hf0, hf4, hf11, H⟩ hm2
        have hltk1 := rangeN_lt hdropk1
        obtain ⟨u1, rfl⟩ : ∃ u1, f = (upd (upd (upd (upd (upd u1 13 (.int .i64 (ik1 : Int))) 12 (.int .i64 ((a0.length : Nat) : Int))) 0 va0) 4 v2) 11 va0) := ⟨f, by rw [upd_self hf13, upd_self hf12, upd_self hf0, upd_self hf4, upd_self hf11]⟩
        have hinck1 := addI_lt hltk1 hbdik1
        refine W.seq ?_
        refine W.region ?_
        refine O.lss rfl rfl rfl rfl ?_
        refine WL.nil ?_
        refine W.seq ?_
        refine W.cond_true (congrArg Value.bool (decide_eq_true hltk1)) ?_
        refine W.skip ?_
        refine W.seq ?_
        obtain ⟨s2, hm3, hm2⟩ := bind_some hm2
        refine W.via (fun f w => ∃ v5 : Value, f 0 = va0 ∧ f 4 = v5 ∧ f 11 = va0 ∧ f 12 = (.int .i64 ((a0.length : Nat) : Int)) ∧ f 13 = (.int .i64 (ik1 : Int)) ∧ Inv w0 w [ownI (α := Int) v5 3 s2]) ?_ ?_
        · skip
          refine W.block ?_
          refine W.seq ?_
          refine W.region ?_
          refine O.move (v := (.int .i64 (ik1 : Int))) rfl rfl rfl ?_
          obtain ⟨x1, hx1, hm3⟩ := bind_some hm3
          obtain ⟨p1, hp1, hrp1⟩ := fix_indexAddr Try.underlying22 sz3 ha0 hx1
          refine hrp1 rfl rfl rfl rfl ?_
          refine O.load sc3 rfl rfl rfl ((hp1.mono H.base).flat 0 _ rfl) ?_
          refine O.assign (v := (.int .i64 (ik1 : Int))) rfl rfl rfl ?_
          refine O.assign (v := (.int .i64 x1)) rfl rfl rfl ?_
          refine WL.nil ?_
          refine W.seq ?_
          refine W.region ?_
          refine O.move (v := (.int .i64 x1)) rfl rfl rfl ?_
          refine O.assign (v := (.int .i64 x1)) rfl rfl rfl ?_
          refine WL.nil ?_
          refine W.seq ?_
          refine W.seq ?_
          refine W.region ?_
          refine O.move (v := v2) rfl rfl rfl ?_
          refine O.move (v := (.int .i64 x1)) rfl rfl rfl ?_
          obtain ⟨t2, hy2, hm3⟩ := bind_some hm3
          refine O.call Try.call37 rfl rfl rfl (c_slices_Contains_int _ _ (H.own 0 rfl) _ hy2) ?_
          rintro _ w2 hb2 rfl
          have H := H.ext hb2
          refine WL.nil ?_
          obtain ⟨s3, hm4, hm3⟩ := bind_some hm3
          refine W.via (fun f w => f 0 = va0 ∧ f 4 = v2 ∧ f 7 = (.int .i64 s3) ∧ f 11 = va0 ∧ f 12 = (.int .i64 ((a0.length : Nat) : Int)) ∧ f 13 = (.int .i64 (ik1 : Int)) ∧ Inv w0 w [ownI (α := Int) v2 3 z2]) ?_ ?_
          · skip
            rcases ite_some hm4 with ⟨hc2, hm4⟩ | ⟨hc2, hm4⟩
            · refine W.cond_true (congrArg Value.bool hc2) ?_
              refine W.seq ?_
              refine W.region ?_
              refine O.assign (v := (.int .i64 10)) rfl rfl rfl ?_
              refine WL.nil ?_
              obtain ⟨s4, hm5, hm4⟩ := bind_some hm4
              refine W.via (fun f w => f 0 = va0 ∧ f 4 = v2 ∧ f 7 = (.int .i64 s4) ∧ f 11 = va0 ∧ f 12 = (.int .i64 ((a0.length : Nat) : Int)) ∧ f 13 = (.int .i64 (ik1 : Int)) ∧ Inv w0 w [ownI (α := Int) v2 3 z2]) ?_ ?_
              · skip
                refine W.block ?_
                refine W.loopR hm5 (fun s f w => ∃ z5 : Int, z5 = s ∧ f 0 = va0 ∧ f 4 = v2 ∧ f 5 = (.int .i64 (ik1 : Int)) ∧ f 6 = (.int .i64 x1) ∧ f 7 = (.int .i64 z5) ∧ f 11 = va0 ∧ f 12 = (.int .i64 ((a0.length : Nat) : Int)) ∧ f 13 = (.int .i64 (ik1 : Int)) ∧ Inv w0 w [ownI (α := Int) v2 3 z2]) ?_ ?_
                · skip
                  exact ⟨_, rfl, rfl, rfl, rfl, rfl, rfl, rfl, rfl, rfl, H⟩
                · skip
                  rintro _ st f w ⟨z5, rfl, hf0, hf4, hf5, hf6, hf7, hf11, hf12, hf13, H⟩ hm6
                  obtain ⟨u2, rfl⟩ : ∃ u2, f = (upd (upd (upd (upd (upd (upd (upd (upd u2 0 va0) 4 v2) 5 (.int .i64 (ik1 : Int))) 6 (.int .i64 x1)) 7 (.int .i64 z5)) 11 va0) 12 (.int .i64 ((a0.length : Nat) : Int))) 13 (.int .i64 (ik1 : Int))) := ⟨f, by rw [upd_self hf0, upd_self hf4, upd_self hf5, upd_self hf6, upd_self hf7, upd_self hf11, upd_self hf12, upd_self hf13]⟩
                  refine W.seq ?_
                  refine W.seq ?_
                  refine W.region ?_
                  refine O.move (v := v2) rfl rfl rfl ?_
                  refine O.move (v := (.int .i64 z5)) rfl rfl rfl ?_
                  obtain ⟨t3, hy3, hm6⟩ := bind_some hm6
                  refine O.call Try.call37 rfl rfl rfl (c_slices_Contains_int _ _ (H.own 0 rfl) _ hy3) ?_
                  rintro _ w3 hb3 rfl
                  have H := H.ext hb3
                  refine O.move (v := (.bool t3)) rfl rfl rfl ?_
                  obtain ⟨b1, hm7, hm6⟩ := bind_some hm6
                  refine WL.cut 5 (fun f w => f 0 = va0 ∧ f 4 = v2 ∧ f 5 = (.int .i64 (ik1 : Int)) ∧ f 6 = (.int .i64 x1) ∧ f 7 = (.int .i64 z5) ∧ f 11 = va0 ∧ f 12 = (.int .i64 ((a0.length : Nat) : Int)) ∧ f 13 = (.int .i64 (ik1 : Int)) ∧ f 30 = .bool b1 ∧ Inv w0 w [ownI (α := Int) v2 3 z2]) ?_ ?_
                  · skip
                    rcases ite_some hm7 with ⟨hc3, hm7⟩ | ⟨hc3, hm7⟩
                    · skip
                      refine WL.reset (i := 25) (v := .bool true) (congrArg Value.bool hc3) ?_
                      refine O.skip rfl rfl ?_
                      refine O.skip rfl rfl ?_
                      refine O.skip rfl rfl ?_
                      refine O.skip rfl rfl ?_
                      refine O.pick_true (v := (.bool true)) rfl rfl rfl rfl ?_
                      refine WL.nil ?_
                      have hq : true = b1 := Option.some.inj (show some true = some b1 from hm7)
                      subst hq
                      exact ⟨rfl, rfl, rfl, rfl, rfl, rfl, rfl, rfl, rfl, H⟩
                    · skip
                      refine WL.reset (i := 25) (v := .bool false) (congrArg Value.bool hc3) ?_
                      refine O.move (v := (.int .i64 z5)) rfl rfl rfl ?_
                      obtain ⟨t4, hy4, hm7⟩ := bind_some hm7
                      refine O.call Try.call38 rfl rfl rfl (c_flag_place _ hy4) ?_
                      rintro _ w4 hb4 rfl
                      have H := H.ext hb4
                      refine O.move (v := (.int .i64 (ik1 : Int))) rfl rfl rfl ?_
                      refine O.geq rfl rfl rfl rfl ?_
                      refine O.pick_false (v := (.bool (decide ((ik1 : Int) ≤ t4)))) rfl rfl rfl rfl ?_
                      refine WL.nil ?_
                      have hq : (decide ((ik1 : Int) ≤ t4)) = b1 := Option.some.inj (show some (decide ((ik1 : Int) ≤ t4)) = some b1 from hm7)
                      subst hq
                      exact ⟨rfl, rfl, rfl, rfl, rfl, rfl, rfl, rfl, rfl, H⟩
                  · skip
                    rintro f w ⟨hf0, hf4, hf5, hf6, hf7, hf11, hf12, hf13, hf30, H⟩
                    obtain ⟨u3, rfl⟩ : ∃ u3, f = (upd (upd (upd (upd (upd (upd (upd (upd (upd u3 0 va0) 4 v2) 5 (.int .i64 (ik1 : Int))) 6 (.int .i64 x1)) 7 (.int .i64 z5)) 11 va0) 12 (.int .i64 ((a0.length : Nat) : Int))) 13 (.int .i64 (ik1 : Int))) 30 (.bool b1)) := ⟨f, by rw [upd_self hf0, upd_self hf4, upd_self hf5, upd_self hf6, upd_self hf7, upd_self hf11, upd_self hf12, upd_self hf13, upd_self hf30]⟩
                    refine O.move (v := (.bool b1)) rfl rfl rfl ?_
                    obtain ⟨b2, hm8, hm6⟩ := bind_some hm6
                    refine WL.cut 8 (fun f w => f 0 = va0 ∧ f 4 = v2 ∧ f 5 = (.int .i64 (ik1 : Int)) ∧ f 6 = (.int .i64 x1) ∧ f 7 = (.int .i64 z5) ∧ f 11 = va0 ∧ f 12 = (.int .i64 ((a0.length : Nat) : Int)) ∧ f 13 = (.int .i64 (ik1 : Int)) ∧ f 39 = .bool b2 ∧ Inv w0 w [ownI (α := Int) v2 3 z2]) ?_ ?_
                    · skip
                      rcases ite_some hm8 with ⟨hc4, hm8⟩ | ⟨hc4, hm8⟩
                      · skip
                        refine WL.reset (i := 31) (v := .bool true) (congrArg Value.bool hc4) ?_
                        refine O.skip rfl rfl ?_
                        refine O.skip rfl rfl ?_
                        refine O.skip rfl rfl ?_
                        refine O.skip rfl rfl ?_
                        refine O.skip rfl rfl ?_
                        refine O.skip rfl rfl ?_
                        refine O.skip rfl rfl ?_
                        refine O.pick_true (v := (.bool true)) rfl rfl rfl rfl ?_
                        refine WL.nil ?_
                        have hq : true = b2 := Option.some.inj (show some true = some b2 from hm8)
                        subst hq
                        exact ⟨rfl, rfl, rfl, rfl, rfl, rfl, rfl, rfl, rfl, H⟩
                      · skip
                        refine WL.reset (i := 31) (v := .bool false) (congrArg Value.bool hc4) ?_
                        refine O.move (v := va0) rfl rfl rfl ?_
                        refine O.move (v := (.int .i64 z5)) rfl rfl rfl ?_
                        obtain ⟨t5, hy5, hm8⟩ := bind_some hm8
                        refine O.call Try.call38 rfl rfl rfl (c_flag_place _ hy5) ?_
                        rintro _ w5 hb5 rfl
                        have H := H.ext hb5
                        obtain ⟨x2, hx2, hm8⟩ := bind_some hm8
                        obtain ⟨p2, hp2, hrp2⟩ := fix_indexAddr Try.underlying22 sz3 ha0 hx2
                        refine hrp2 rfl rfl rfl rfl ?_
                        refine O.load sc3 rfl rfl rfl ((hp2.mono H.base).flat 0 _ rfl) ?_
                        refine O.move (v := (.int .i64 x1)) rfl rfl rfl ?_
                        refine O.neq rfl rfl rfl rfl ?_
                        refine O.pick_false (v := (.bool (x2 != x1))) rfl rfl rfl rfl ?_
                        refine WL.nil ?_
                        have hq : (x2 != x1) = b2 := Option.some.inj (show some (x2 != x1) = some b2 from hm8)
                        subst hq
                        exact ⟨rfl, rfl, rfl, rfl, rfl, rfl, rfl, rfl, rfl, H⟩
                    · skip
                      rintro f w ⟨hf0, hf4, hf5, hf6, hf7, hf11, hf12, hf13, hf39, H⟩
                      obtain ⟨u4, rfl⟩ : ∃ u4, f = (upd (upd (upd (upd (upd (upd (upd (upd (upd u4 0 va0) 4 v2) 5 (.int .i64 (ik1 : Int))) 6 (.int .i64 x1)) 7 (.int .i64 z5)) 11 va0) 12 (.int .i64 ((a0.length : Nat) : Int))) 13 (.int .i64 (ik1 : Int))) 39 (.bool b2)) := ⟨f, by rw [upd_self hf0, upd_self hf4, upd_self hf5, upd_self hf6, upd_self hf7, upd_self hf11, upd_self hf12, upd_self hf13, upd_self hf39]⟩
                      refine WL.nil ?_
                      rcases ite_some hm6 with ⟨hc5, hm6⟩ | ⟨hc5, hm6⟩
                      · refine W.cond_true (congrArg Value.bool hc5) ?_
                        refine W.skip ?_
                        refine W.seq ?_
                        refine W.block ?_
                        refine W.skip ?_
                        refine W.region ?_
                        refine O.move (v := (.int .i64 z5)) rfl rfl rfl ?_
                        obtain ⟨t6, ht6, hm6⟩ := bind_some hm6
                        refine O.add rfl rfl rfl rfl ht6 ?_
                        refine O.assign (v := (.int .i64 t6)) rfl rfl rfl ?_
                        refine WL.nil ?_
                        obtain rfl := Option.some.inj hm6
                        exact ⟨_, rfl, _, rfl, rfl, rfl, rfl, rfl, rfl, rfl, rfl, rfl, H⟩
                      · refine W.cond_false (congrArg Value.bool hc5) ?_
                        refine W.exit ?_
                        obtain rfl := Option.some.inj hm6
                        refine ⟨_, rfl, ?_⟩
                        intro hy
                        have hq : z5 = s4 := hy
                        subst hq
                        refine xT rfl ?_
                        exact ⟨rfl, rfl, rfl, rfl, rfl, rfl, H⟩
              · skip
                rintro f w ⟨hf0, hf4, hf7, hf11, hf12, hf13, H⟩
                obtain ⟨u5, rfl⟩ : ∃ u5, f = (upd (upd (upd (upd (upd (upd u5 0 va0) 4 v2) 7 (.int .i64 s4)) 11 va0) 12 (.int .i64 ((a0.length : Nat) : Int))) 13 (.int .i64 (ik1 : Int))) := ⟨f, by rw [upd_self hf0, upd_self hf4, upd_self hf7, upd_self hf11, upd_self hf12, upd_self hf13]⟩
                have hq : s4 = s3 := Option.some.inj (show some s4 = some s3 from hm4)
                subst hq
                exact ⟨rfl, rfl, rfl, rfl, rfl, rfl, H⟩
            · refine W.cond_false (congrArg Value.bool hc2) ?_
              refine W.skip ?_
              have hq : x1 = s3 := Option.some.inj (show some x1 = some s3 from hm4)
              subst hq
              exact ⟨rfl, rfl, rfl, rfl, rfl, rfl, H⟩
          · skip
            rintro f w ⟨hf0, hf4, hf7, hf11, hf12, hf13, H⟩
            obtain ⟨u6, rfl⟩ : ∃ u6, f = (upd (upd (upd (upd (upd (upd u6 0 va0) 4 v2) 7 (.int .i64 s3)) 11 va0) 12 (.int .i64 ((a0.length : Nat) : Int))) 13 (.int .i64 (ik1 : Int))) := ⟨f, by rw [upd_self hf0, upd_self hf4, upd_self hf7, upd_self hf11, upd_self hf12, upd_self hf13]⟩
            refine W.region ?_
            refine O.move (v := v2) rfl rfl rfl ?_
            refine O.move (v := (.int .i64 s3)) rfl rfl rfl ?_
            refine O.buildSlice (α := Int) [(.int .i64 s3)] [s3] Try.underlying22 el3 H rfl rfl rfl rfl rfl rfl rfl ?_
            intro v6 w6 H hb6
            obtain ⟨t7, ht7, hm3⟩ := bind_some hm3
            refine O.append 0 Try.underlying22 el3 rfl H rfl (H.own 1 rfl) ht7 rfl rfl rfl rfl ?_
            intro v7 w7 H
            refine O.assign (v := v7) rfl rfl rfl ?_
            refine WL.nil ?_
            have H := H.keep [0] [ownI (α := Int) v7 3 t7] rfl (by decide)
            have hq : t7 = s2 := Option.some.inj (show some t7 = some s2 from hm3)
            subst hq
            exact ⟨v7, rfl, rfl, rfl, rfl, rfl, H⟩
        · skip
          rintro f w ⟨v5, hf0, hf4, hf11, hf12, hf13, H⟩
          obtain ⟨u7, rfl⟩ : ∃ u7, f = (upd (upd (upd (upd (upd u7 0 va0) 4 v5) 11 va0) 12 (.int .i64 ((a0.length : Nat) : Int))) 13 (.int .i64 (ik1 : Int))) := ⟨f, by rw [upd_self hf0, upd_self hf4, upd_self hf11, upd_self hf12, upd_self hf13]⟩
          refine W.region ?_
          refine O.add rfl rfl rfl rfl hinck1 ?_
          refine O.move (v := .int .i64 ((ik1 : Int) + 1)) rfl rfl rfl ?_
          refine WL.nil ?_
          obtain rfl := Option.some.inj hm2
          exact ⟨_, rfl, _, v5, rfl, rangeN_next hdropk1, rfl, rfl, rfl, rfl, rfl, H⟩
      · skip
        rintro ik1 _ f w ⟨z2, v2, rfl, hdropk1, hf13, hf12, hf0, hf4, hf11, H⟩ hfin
        have hltk1 := rangeN_end hdropk1
        obtain ⟨u8, rfl⟩ : ∃ u8, f = (upd (upd (upd (upd (upd u8 13 (.int .i64 (ik1 : Int))) 12 (.int .i64 ((a0.length : Nat) : Int))) 0 va0) 4 v2) 11 va0) := ⟨f, by rw [upd_self hf13, upd_self hf12, upd_self hf0, upd_self hf4, upd_self hf11]⟩
        refine W.seq ?_
        refine W.region ?_
        refine O.lss rfl rfl rfl rfl ?_
        refine WL.nil ?_
        refine W.seq ?_
        refine W.cond_false (congrArg Value.bool (decide_eq_false hltk1)) ?_
        refine W.exit ?_
        have hq : z2 = s1 := hfin
        subst hq
        refine xT rfl ?_
        exact ⟨v2, rfl, H⟩
    · skip
      rintro f w ⟨v4, hf4, H⟩
      obtain ⟨u9, rfl⟩ : ∃ u9, f = (upd u9 4 v4) := ⟨f, by rw [upd_self hf4]⟩
      refine W.seq ?_
      refine W.region ?_
      refine O.move (v := v4) rfl rfl rfl ?_
      refine O.assign (v := v4) rfl rfl rfl ?_
      refine O.assign (v := (.int .i64 0)) rfl rfl rfl ?_
      refine WL.nil ?_
      refine W.ret ?_
      have hq : (s1, 0) = (r0, r1) := Option.some.inj (show some (s1, 0) = some (r0, r1) from hm)
      obtain ⟨he0, hq0⟩ := Prod.mk.inj hq; clear hq; subst he0
      subst hq0
      exact ends2 Try.results25 rfl rfl ⟨_, rfl, H.base, ⟨_, rfl, H.ownR 0 rfl⟩⟩

set_option maxRecDepth 20000 in
theorem c_flag_ValidHoist {w0 : World} (va0 : Value) (a0 : (List Int)) (ha0 : SliceR w0 va0 a0) {r0 : Bool} (hm : flag_ValidHoist a0 = some r0) :
    Calls Try.prog 16 #[va0] w0 (Ret w0 fun _ v => v = (.bool r0)) := by
  unfold flag_ValidHoist at hm
  refine calls_of_W Try.func16 rfl Try.ntmps16 (Nat.le_of_ble_eq_true rfl) ?_
  have H := Inv.start (w := w0)
  refine W.seq ?_
  refine W.region ?_
  refine O.assign (v := (.bool false)) rfl rfl rfl ?_
  refine WL.nil ?_
  refine W.seq ?_
  refine W.seq ?_
  refine W.region ?_
  refine O.move (v := va0) rfl rfl rfl ?_
  obtain ⟨t1, hy1, hm⟩ := bind_some hm
  refine O.call Try.call36 rfl rfl rfl (c_flag_listed _ _ (H.arg ha0) _ hy1) ?_
  rintro _ w1 hb1 rfl
  have H := H.ext hb1
  refine O.not rfl rfl rfl ?_
  refine WL.nil ?_
  rcases ite_some hm with ⟨hc1, hm⟩ | ⟨hc1, hm⟩
  · refine W.cond_true (congrArg Value.bool hc1) ?_
    refine W.seq ?_
    refine W.region ?_
    refine O.assign (v := (.bool false)) rfl rfl rfl ?_
    refine WL.nil ?_
    refine W.ret ?_
    have hq : false = r0 := Option.some.inj (show some false = some r0 from hm)
    subst hq
    exact ends1 Try.results16 rfl ⟨_, rfl, H.base, rfl⟩
  · refine W.cond_false (congrArg Value.bool hc1) ?_
    refine W.skip ?_
    refine W.seq ?_
    refine W.seq ?_
    refine W.region ?_
    refine O.move (v := va0) rfl rfl rfl ?_
    refine O.lenS Try.underlying22 (H.arg ha0) rfl rfl rfl ?_
    refine O.move (v := (.int .i64 0)) rfl rfl rfl ?_
    refine WL.nil ?_
    obtain ⟨o1, hm1, hm⟩ := bind_some hm
    refine W.via (fun f w => o1 = .next () ∧ Inv w0 w []) ?_ ?_
    · skip
      refine W.block ?_
      have hbdik1 := (H.arg ha0).len_le
      refine W.rangeN (i := 0) hm1 (fun rem ik1 s f w => () = s ∧ (ik1 : Int) + rem = max 0 ((a0.length : Nat) : Int) ∧ f 10 = .int .i64 (ik1 : Int) ∧ f 9 = (.int .i64 ((a0.length : Nat) : Int)) ∧ f 0 = va0 ∧ f 8 = va0 ∧ Inv w0 w []) ?_ ?_ ?_
      · skip
        exact ⟨rfl, rangeN_start, rfl, rfl, rfl, rfl, H⟩
      · skip
        rintro k ik1 _ st f w ⟨rfl, hdropk1, hf10, hf9, hf0, hf8, H⟩ hm2
        have hltk1 := rangeN_lt hdropk1
        obtain ⟨u1, rfl⟩ : ∃ u1, f = (upd (upd (upd (upd u1 10 (.int .i64 (ik1 : Int))) 9 (.int .i64 ((a0.length : Nat) : Int))) 0 va0) 8 va0) := ⟨f, by rw [upd_self hf10, upd_self hf9, upd_self hf0, upd_self hf8]⟩
        have hinck1 := addI_lt hltk1 hbdik1
        refine W.seq ?_
        refine W.region ?_
        refine O.lss rfl rfl rfl rfl ?_
        refine WL.nil ?_
        refine W.seq ?_
        refine W.cond_true (congrArg Value.bool (decide_eq_true hltk1)) ?_
        refine W.skip ?_
        refine W.seq ?_
        refine W.block ?_
        refine W.seq ?_
        refine W.region ?_
        refine O.move (v := (.int .i64 (ik1 : Int))) rfl rfl rfl ?_
        obtain ⟨x1, hx1, hm2⟩ := bind_some hm2
        obtain ⟨p1, hp1, hrp1⟩ := fix_indexAddr Try.underlying22 sz3 ha0 hx1
        refine hrp1 rfl rfl rfl rfl ?_
        refine O.load sc3 rfl rfl rfl ((hp1.mono H.base).flat 0 _ rfl) ?_
        refine O.assign (v := (.int .i64 (ik1 : Int))) rfl rfl rfl ?_
        refine O.assign (v := (.int .i64 x1)) rfl rfl rfl ?_
        refine WL.nil ?_
        refine W.seq ?_
        refine W.region ?_
        refine O.move (v := va0) rfl rfl rfl ?_
        refine O.move (v := (.int .i64 (ik1 : Int))) rfl rfl rfl ?_
        obtain ⟨t2, ht2, hm2⟩ := bind_some hm2
        obtain ⟨v1, hs1, hrv1⟩ := fix_sliceH Try.underlying22 sz3 ha0 ht2
        refine hrv1 rfl rfl rfl rfl ?_
        refine O.move (v := (.int .i64 x1)) rfl rfl rfl ?_
        obtain ⟨t3, hy2, hm2⟩ := bind_some hm2
        refine O.call Try.call37 rfl rfl rfl (c_slices_Contains_int _ _ (H.arg hs1) _ hy2) ?_
        rintro _ w2 hb2 rfl
        have H := H.ext hb2
        refine O.move (v := (.bool t3)) rfl rfl rfl ?_
        obtain ⟨b1, hm3, hm2⟩ := bind_some hm2
        refine WL.cut 9 (fun f w => f 0 = va0 ∧ f 8 = va0 ∧ f 9 = (.int .i64 ((a0.length : Nat) : Int)) ∧ f 10 = (.int .i64 (ik1 : Int)) ∧ f 29 = .bool b1 ∧ Inv w0 w []) ?_ ?_
        · skip
          rcases ite_some hm3 with ⟨hc2, hm3⟩ | ⟨hc2, hm3⟩
          · skip
            refine WL.reset (i := 20) (v := .bool true) (congrArg Value.bool hc2) ?_
            refine O.skip rfl rfl ?_
            refine O.skip rfl rfl ?_
            refine O.skip rfl rfl ?_
            refine O.skip rfl rfl ?_
            refine O.skip rfl rfl ?_
            refine O.skip rfl rfl ?_
            refine O.skip rfl rfl ?_
            refine O.skip rfl rfl ?_
            refine O.pick_true (v := (.bool true)) rfl rfl rfl rfl ?_
            refine WL.nil ?_
            have hq : true = b1 := Option.some.inj (show some true = some b1 from hm3)
            subst hq
            exact ⟨rfl, rfl, rfl, rfl, rfl, H⟩
          · skip
            refine WL.reset (i := 20) (v := .bool false) (congrArg Value.bool hc2) ?_
            refine O.move (v := (.int .i64 x1)) rfl rfl rfl ?_
            refine O.geq rfl rfl rfl rfl ?_
            refine O.move (v := (.bool (decide (10 ≤ x1)))) rfl rfl rfl ?_
            obtain ⟨b2, hm4, hm3⟩ := bind_some hm3
            refine WL.cut 5 (fun f w => f 0 = va0 ∧ f 8 = va0 ∧ f 9 = (.int .i64 ((a0.length : Nat) : Int)) ∧ f 10 = (.int .i64 (ik1 : Int)) ∧ f 20 = (.bool false) ∧ f 21 = (.int .i64 x1) ∧ f 22 = (.bool (decide (10 ≤ x1))) ∧ f 23 = (.bool (decide (10 ≤ x1))) ∧ f 28 = .bool b2 ∧ Inv w0 w []) ?_ ?_
            · skip
              rcases ite_some hm4 with ⟨hc3, hm4⟩ | ⟨hc3, hm4⟩
              · skip
                refine WL.reset (i := 23) (v := .bool true) (congrArg Value.bool hc3) ?_
                refine O.move (v := (.int .i64 x1)) rfl rfl rfl ?_
                obtain ⟨t4, hy3, hm4⟩ := bind_some hm4
                refine O.call Try.call38 rfl rfl rfl (c_flag_place _ hy3) ?_
                rintro _ w3 hb3 rfl
                have H := H.ext hb3
                refine O.move (v := (.int .i64 (ik1 : Int))) rfl rfl rfl ?_
                refine O.geq rfl rfl rfl rfl ?_
                refine O.pick_true (v := (.bool (decide ((ik1 : Int) ≤ t4)))) rfl rfl rfl rfl ?_
                refine WL.nil ?_
                have hq : (decide ((ik1 : Int) ≤ t4)) = b2 := Option.some.inj (show some (decide ((ik1 : Int) ≤ t4)) = some b2 from hm4)
                subst hq
                exact ⟨rfl, rfl, rfl, rfl, rfl, rfl, rfl, (congrArg Value.bool hc3).symm, rfl, H⟩
              · skip
                refine WL.reset (i := 23) (v := .bool false) (congrArg Value.bool hc3) ?_
                refine O.skip rfl rfl ?_
                refine O.skip rfl rfl ?_
                refine O.skip rfl rfl ?_
                refine O.skip rfl rfl ?_
                refine O.pick_false (v := (.bool false)) rfl rfl rfl rfl ?_
                refine WL.nil ?_
                have hq : false = b2 := Option.some.inj (show some false = some b2 from hm4)
                subst hq
                exact ⟨rfl, rfl, rfl, rfl, rfl, rfl, rfl, (congrArg Value.bool hc3).symm, rfl, H⟩
            · skip
              rintro f w ⟨hf0, hf8, hf9, hf10, hf20, hf21, hf22, hf23, hf28, H⟩
              obtain ⟨u2, rfl⟩ : ∃ u2, f = (upd (upd (upd (upd (upd (upd (upd (upd (upd u2 0 va0) 8 va0) 9 (.int .i64 ((a0.length : Nat) : Int))) 10 (.int .i64 (ik1 : Int))) 20 (.bool false)) 21 (.int .i64 x1)) 22 (.bool (decide (10 ≤ x1)))) 23 (.bool (decide (10 ≤ x1)))) 28 (.bool b2)) := ⟨f, by rw [upd_self hf0, upd_self hf8, upd_self hf9, upd_self hf10, upd_self hf20, upd_self hf21, upd_self hf22, upd_self hf23, upd_self hf28]⟩
              refine O.pick_false (v := (.bool b2)) rfl rfl rfl rfl ?_
              refine WL.nil ?_
              have hq : b2 = b1 := Option.some.inj (show some b2 = some b1 from hm3)
              subst hq
              exact ⟨rfl, rfl, rfl, rfl, rfl, H⟩
        · skip
          rintro f w ⟨hf0, hf8, hf9, hf10, hf29, H⟩
          obtain ⟨u3, rfl⟩ : ∃ u3, f = (upd (upd (upd (upd (upd u3 0 va0) 8 va0) 9 (.int .i64 ((a0.length : Nat) : Int))) 10 (.int .i64 (ik1 : Int))) 29 (.bool b1)) := ⟨f, by rw [upd_self hf0, upd_self hf8, upd_self hf9, upd_self hf10, upd_self hf29]⟩
          refine WL.nil ?_
          rcases ite_some hm2 with ⟨hc4, hm2⟩ | ⟨hc4, hm2⟩
          · refine W.cond_true (congrArg Value.bool hc4) ?_
            refine W.seq ?_
            refine W.region ?_
            refine O.assign (v := (.bool false)) rfl rfl rfl ?_
            refine WL.nil ?_
            refine W.ret ?_
            obtain rfl := Option.some.inj hm2
            refine ⟨_, rfl, ?_⟩
            rintro rfl
            have hq : false = r0 := Option.some.inj (show some false = some r0 from hm)
            subst hq
            exact ends1 Try.results16 rfl ⟨_, rfl, H.base, rfl⟩
          · refine W.cond_false (congrArg Value.bool hc4) ?_
            refine W.skip ?_
            refine W.region ?_
            refine O.add rfl rfl rfl rfl hinck1 ?_
            refine O.move (v := .int .i64 ((ik1 : Int) + 1)) rfl rfl rfl ?_
            refine WL.nil ?_
            obtain rfl := Option.some.inj hm2
            exact ⟨_, rfl, rfl, rangeN_next hdropk1, rfl, rfl, rfl, rfl, H⟩
      · skip
        rintro ik1 _ f w ⟨rfl, hdropk1, hf10, hf9, hf0, hf8, H⟩ hfin
        have hltk1 := rangeN_end hdropk1
        obtain ⟨u4, rfl⟩ : ∃ u4, f = (upd (upd (upd (upd u4 10 (.int .i64 (ik1 : Int))) 9 (.int .i64 ((a0.length : Nat) : Int))) 0 va0) 8 va0) := ⟨f, by rw [upd_self hf10, upd_self hf9, upd_self hf0, upd_self hf8]⟩
        refine W.seq ?_
        refine W.region ?_
        refine O.lss rfl rfl rfl rfl ?_
        refine WL.nil ?_
        refine W.seq ?_
        refine W.cond_false (congrArg Value.bool (decide_eq_false hltk1)) ?_
        refine W.exit ?_
        obtain rfl : Ctl.next () = o1 := hfin
        refine xT rfl ?_
        exact ⟨rfl, H⟩
    · skip
      rintro f w ⟨rfl, H⟩
      refine W.seq ?_
      refine W.region ?_
      refine O.assign (v := (.bool true)) rfl rfl rfl ?_
      refine WL.nil ?_
      refine W.ret ?_
      have hq : true = r0 := Option.some.inj (show some true = some r0 from hm)
      subst hq
      exact ends1 Try.results16 rfl ⟨_, rfl, H.base, rfl⟩

set_option maxRecDepth 20000 in
theorem c_flag_means {w0 : World} (va0 : Value) (a0 : (List Int)) (ha0 : SliceR w0 va0 a0) {r0 : (List Int)} (hm : flag_means a0 = some r0) :
    Calls Try.prog 34 #[va0] w0 (Ret w0 fun w v => OwnR w0 w v 3 r0) := by
  unfold flag_means at hm
  refine calls_of_W Try.func34 rfl Try.ntmps34 (Nat.le_of_ble_eq_true rfl) ?_
  have H := Inv.start (w := w0)
  refine W.seq ?_
  refine W.region ?_
  have H := H.addNil (α := Int) (E := 3)
  refine O.assign (v := (.slice none 0 0)) rfl rfl rfl ?_
  refine WL.nil ?_
  refine W.seq ?_
  refine W.region ?_
  have H := H.addNil (α := Int) (E := 3)
  refine O.assign (v := (.slice none 0 0)) rfl rfl rfl ?_
  refine WL.nil ?_
  refine W.seq ?_
  refine W.seq ?_
  refine W.region ?_
  refine O.move (v := va0) rfl rfl rfl ?_
  refine O.lenS Try.underlying22 (H.arg ha0) rfl rfl rfl ?_
  refine O.move (v := (.int .i64 0)) rfl rfl rfl ?_
  refine WL.nil ?_
  obtain ⟨s1, hm1, hm⟩ := bind_some hm
  refine W.via (fun f w => ∃ v4 : Value, f 3 = v4 ∧ Inv w0 w [ownI (α := Int) v4 3 s1]) ?_ ?_
  · skip
    refine W.block ?_
    have H := H.keep [1] [ownI (α := Int) (.slice none 0 0) 3 ([] : List Int)] rfl (by decide)
    refine W.rangeL (i := 0) hm1 (fun rem ik1 s f w => ∃ z2 : (List Int), ∃ v2 : Value, z2 = s ∧ a0.drop ik1 = rem ∧ f 8 = .int .i64 (ik1 : Int) ∧ f 7 = (.int .i64 ((a0.length : Nat) : Int)) ∧ f 3 = v2 ∧ f 6 = va0 ∧ Inv w0 w [ownI (α := Int) v2 3 z2]) ?_ ?_ ?_
    · skip
      exact ⟨_, (.slice none 0 0), rfl, List.drop_zero, rfl, rfl, rfl, rfl, H⟩
    · skip
      rintro yk1 xs ik1 _ st f w ⟨z2, v2, rfl, hdropk1, hf8, hf7, hf3, hf6, H⟩ hm2
      have hltk1 := drop_lt hdropk1; have hixk1 := drop_idx hdropk1
      obtain ⟨u1, rfl⟩ : ∃ u1, f = (upd (upd (upd (upd u1 8 (.int .i64 (ik1 : Int))) 7 (.int .i64 ((a0.length : Nat) : Int))) 3 v2) 6 va0) := ⟨f, by rw [upd_self hf8, upd_self hf7, upd_self hf3, upd_self hf6]⟩
      have hinck1 := addI_lt hltk1 (H.arg ha0).len_le
      refine W.seq ?_
      refine W.region ?_
      refine O.lss rfl rfl rfl rfl ?_
      refine WL.nil ?_
      refine W.seq ?_
      refine W.cond_true (congrArg Value.bool (decide_eq_true hltk1)) ?_
      refine W.skip ?_
      refine W.seq ?_
      obtain ⟨s2, hm3, hm2⟩ := bind_some hm2
      refine W.via (fun f w => ∃ v5 : Value, f 3 = v5 ∧ f 6 = va0 ∧ f 7 = (.int .i64 ((a0.length : Nat) : Int)) ∧ f 8 = (.int .i64 (ik1 : Int)) ∧ Inv w0 w [ownI (α := Int) v5 3 s2]) ?_ ?_
      · skip
        refine W.block ?_
        refine W.seq ?_
        refine W.region ?_
        obtain ⟨p1, hp1, hrp1⟩ := fix_indexAddr Try.underlying22 sz3 ha0 hixk1
        refine hrp1 rfl rfl rfl rfl ?_
        refine O.load sc3 rfl rfl rfl ((hp1.mono H.base).flat 0 _ rfl) ?_
        refine O.assign (v := (.int .i64 yk1)) rfl rfl rfl ?_
        refine WL.nil ?_
        refine W.seq ?_
        refine W.seq ?_
        refine W.region ?_
        refine O.move (v := (.int .i64 yk1)) rfl rfl rfl ?_
        refine O.geq rfl rfl rfl rfl ?_
        refine WL.nil ?_
        obtain ⟨s3, hm4, hm3⟩ := bind_some hm3
        refine W.via (fun f w => f 3 = v2 ∧ f 5 = (.int .i64 s3) ∧ f 6 = va0 ∧ f 7 = (.int .i64 ((a0.length : Nat) : Int)) ∧ f 8 = (.int .i64 (ik1 : Int)) ∧ Inv w0 w [ownI (α := Int) v2 3 z2]) ?_ ?_
        · skip
          rcases ite_some hm4 with ⟨hc1, hm4⟩ | ⟨hc1, hm4⟩
          · refine W.cond_true (congrArg Value.bool hc1) ?_
            refine W.region ?_
            refine O.move (v := v2) rfl rfl rfl ?_
            refine O.move (v := (.int .i64 yk1)) rfl rfl rfl ?_
            obtain ⟨t1, hy1, hm4⟩ := bind_some hm4
            refine O.call Try.call38 rfl rfl rfl (c_flag_place _ hy1) ?_
            rintro _ w1 hb1 rfl
            have H := H.ext hb1
            obtain ⟨x1, hx1, hm4⟩ := bind_some hm4
            refine O.indexAddr Try.underlying22 sz3 (H.own 0 rfl) hx1 rfl rfl rfl rfl ?_
            intro p2 hp2
            refine O.load sc3 rfl rfl rfl (hp2.flat 0 _ rfl) ?_
            refine O.assign (v := (.int .i64 x1)) rfl rfl rfl ?_
            refine WL.nil ?_
            have hq : x1 = s3 := Option.some.inj (show some x1 = some s3 from hm4)
            subst hq
            exact ⟨rfl, rfl, rfl, rfl, rfl, H⟩
          · refine W.cond_false (congrArg Value.bool hc1) ?_
            refine W.skip ?_
            have hq : yk1 = s3 := Option.some.inj (show some yk1 = some s3 from hm4)
            subst hq
            exact ⟨rfl, rfl, rfl, rfl, rfl, H⟩
        · skip
          rintro f w ⟨hf3, hf5, hf6, hf7, hf8, H⟩
          obtain ⟨u2, rfl⟩ : ∃ u2, f = (upd (upd (upd (upd (upd u2 3 v2) 5 (.int .i64 s3)) 6 va0) 7 (.int .i64 ((a0.length : Nat) : Int))) 8 (.int .i64 (ik1 : Int))) := ⟨f, by rw [upd_self hf3, upd_self hf5, upd_self hf6, upd_self hf7, upd_self hf8]⟩
          refine W.region ?_
          refine O.move (v := v2) rfl rfl rfl ?_
          refine O.move (v := (.int .i64 s3)) rfl rfl rfl ?_
          refine O.buildSlice (α := Int) [(.int .i64 s3)] [s3] Try.underlying22 el3 H rfl rfl rfl rfl rfl rfl rfl ?_
          intro v6 w2 H hb2
          obtain ⟨t2, ht2, hm3⟩ := bind_some hm3
          refine O.append 0 Try.underlying22 el3 rfl H rfl (H.own 1 rfl) ht2 rfl rfl rfl rfl ?_
          intro v7 w3 H
          refine O.assign (v := v7) rfl rfl rfl ?_
          refine WL.nil ?_
          have H := H.keep [0] [ownI (α := Int) v7 3 t2] rfl (by decide)
          have hq : t2 = s2 := Option.some.inj (show some t2 = some s2 from hm3)
          subst hq
          exact ⟨v7, rfl, rfl, rfl, rfl, H⟩
      · skip
        rintro f w ⟨v5, hf3, hf6, hf7, hf8, H⟩
        obtain ⟨u3, rfl⟩ : ∃ u3, f = (upd (upd (upd (upd u3 3 v5) 6 va0) 7 (.int .i64 ((a0.length : Nat) : Int))) 8 (.int .i64 (ik1 : Int))) := ⟨f, by rw [upd_self hf3, upd_self hf6, upd_self hf7, upd_self hf8]⟩
        refine W.region ?_
        refine O.add rfl rfl rfl rfl hinck1 ?_
        refine O.move (v := .int .i64 ((ik1 : Int) + 1)) rfl rfl rfl ?_
        refine WL.nil ?_
        obtain rfl := Option.some.inj hm2
        exact ⟨_, rfl, _, v5, rfl, drop_next hdropk1, rfl, rfl, rfl, rfl, H⟩
    · skip
      rintro ik1 _ f w ⟨z2, v2, rfl, hdropk1, hf8, hf7, hf3, hf6, H⟩ hfin
      have hltk1 := drop_end hdropk1
      obtain ⟨u4, rfl⟩ : ∃ u4, f = (upd (upd (upd (upd u4 8 (.int .i64 (ik1 : Int))) 7 (.int .i64 ((a0.length : Nat) : Int))) 3 v2) 6 va0) := ⟨f, by rw [upd_self hf8, upd_self hf7, upd_self hf3, upd_self hf6]⟩
      refine W.seq ?_
      refine W.region ?_
      refine O.lss rfl rfl rfl rfl ?_
      refine WL.nil ?_
      refine W.seq ?_
      refine W.cond_false (congrArg Value.bool (decide_eq_false hltk1)) ?_
      refine W.exit ?_
      have hq : z2 = s1 := hfin
      subst hq
      refine xT rfl ?_
      exact ⟨v2, rfl, H⟩
  · skip
    rintro f w ⟨v4, hf3, H⟩
    obtain ⟨u5, rfl⟩ : ∃ u5, f = (upd u5 3 v4) := ⟨f, by rw [upd_self hf3]⟩
    refine W.seq ?_
    refine W.region ?_
    refine O.move (v := v4) rfl rfl rfl ?_
    refine O.assign (v := v4) rfl rfl rfl ?_
    refine WL.nil ?_
    refine W.ret ?_
    have hq : s1 = r0 := Option.some.inj (show some s1 = some r0 from hm)
    subst hq
    exact ends1 Try.results34 rfl ⟨_, rfl, H.base, H.ownR 0 rfl⟩

theorem c_flag_Means {w0 : World} (va0 : Value) (a0 : (List Int)) (ha0 : SliceR w0 va0 a0) {r0 : (List Int)} {r1 : Int} (hm : flag_Means a0 = some (r0, r1)) :
    Calls Try.prog 10 #[va0] w0 (Ret w0 fun w v => ∃ vr0 : Value, v = .tuple #[vr0, (.int .i64 r1)] ∧ OwnR w0 w vr0 3 r0) := by
  unfold flag_Means at hm
  refine calls_of_W Try.func10 rfl Try.ntmps10 (Nat.le_of_ble_eq_true rfl) ?_
  have H := Inv.start (w := w0)
  refine W.seq ?_
  refine W.region ?_
  have H := H.addNil (α := Int) (E := 3)
  refine O.assign (v := (.slice none 0 0)) rfl rfl rfl ?_
  refine O.assign (v := (.int .i64 0)) rfl rfl rfl ?_
  refine WL.nil ?_
  refine W.seq ?_
  refine W.seq ?_
  refine W.region ?_
  refine O.move (v := va0) rfl rfl rfl ?_
  obtain ⟨t1, hy1, hm⟩ := bind_some hm
  refine O.call Try.call16 rfl rfl rfl (c_flag_ValidHoist _ _ (H.arg ha0) hy1) ?_
  rintro _ w1 hb1 rfl
  have H := H.ext hb1
  refine O.not rfl rfl rfl ?_
  refine WL.nil ?_
  rcases ite_some hm with ⟨hc1, hm⟩ | ⟨hc1, hm⟩
  · refine W.cond_true (congrArg Value.bool hc1) ?_
    refine W.seq ?_
    refine W.region ?_
    have H := H.addNil (α := Int) (E := 3)
    refine O.assign (v := (.slice none 0 0)) rfl rfl rfl ?_
    refine O.assign (v := (.int .i64 1)) rfl rfl rfl ?_
    refine WL.nil ?_
    refine W.ret ?_
    have hq : (([] : List Int), 1) = (r0, r1) := Option.some.inj (show some (([] : List Int), 1) = some (r0, r1) from hm)
    obtain ⟨he0, hq0⟩ := Prod.mk.inj hq; clear hq; subst he0
    subst hq0
    exact ends2 Try.results10 rfl rfl ⟨_, rfl, H.base, ⟨_, rfl, H.ownR 1 rfl⟩⟩
  · refine W.cond_false (congrArg Value.bool hc1) ?_
    refine W.skip ?_
    refine W.seq ?_
    refine W.region ?_
    refine O.move (v := va0) rfl rfl rfl ?_
    obtain ⟨t2, hy2, hm⟩ := bind_some hm
    refine O.call Try.call34 rfl rfl rfl (c_flag_means _ _ (H.arg ha0) hy2) ?_
    rintro v1 w2 hb2 ho1
    have H := H.addOwn hb2 ho1
    refine O.assign (v := v1) rfl rfl rfl ?_
    refine O.assign (v := (.int .i64 0)) rfl rfl rfl ?_
    refine WL.nil ?_
    refine W.ret ?_
    have hq : (t2, 0) = (r0, r1) := Option.some.inj (show some (t2, 0) = some (r0, r1) from hm)
    obtain ⟨he0, hq0⟩ := Prod.mk.inj hq; clear hq; subst he0
    subst hq0
    exact ends2 Try.results10 rfl rfl ⟨_, rfl, H.base, ⟨_, rfl, H.ownR 1 rfl⟩⟩

set_option maxRecDepth 20000 in
theorem c_noongunref07_SameInts {w0 : World} (va0 : Value) (a0 : (List Int)) (ha0 : SliceR w0 va0 a0) (va1 : Value) (a1 : (List Int)) (ha1 : SliceR w0 va1 a1) {r0 : Bool} (hm : noongunref07_SameInts a0 a1 = some r0) :
    Calls Try.prog 18 #[va0, va1] w0 (Ret w0 fun _ v => v = (.bool r0)) := by
  unfold noongunref07_SameInts at hm
  refine calls_of_W Try.func18 rfl Try.ntmps18 (Nat.le_of_ble_eq_true rfl) ?_
  have H := Inv.start (w := w0)
  refine W.seq ?_
  refine W.region ?_
  refine O.assign (v := (.bool false)) rfl rfl rfl ?_
  refine WL.nil ?_
  refine W.seq ?_
  refine W.seq ?_
  refine W.region ?_
  refine O.move (v := va0) rfl rfl rfl ?_
  refine O.lenS Try.underlying22 (H.arg ha0) rfl rfl rfl ?_
  refine O.move (v := va1) rfl rfl rfl ?_
  refine O.lenS Try.underlying22 (H.arg ha1) rfl rfl rfl ?_
  refine O.neq rfl rfl rfl rfl ?_
  refine WL.nil ?_
  rcases ite_some hm with ⟨hc1, hm⟩ | ⟨hc1, hm⟩
  · refine W.cond_true (congrArg Value.bool hc1) ?_
    refine W.seq ?_
    refine W.region ?_
    refine O.assign (v := (.bool false)) rfl rfl rfl ?_
    refine WL.nil ?_
    refine W.ret ?_
    have hq : false = r0 := Option.some.inj (show some false = some r0 from hm)
    subst hq
    exact ends1 Try.results18 rfl ⟨_, rfl, H.base, rfl⟩
  · refine W.cond_false (congrArg Value.bool hc1) ?_
    refine W.skip ?_
    refine W.seq ?_
    refine W.seq ?_
    refine W.region ?_
    refine O.move (v := va0) rfl rfl rfl ?_
    refine O.lenS Try.underlying22 (H.arg ha0) rfl rfl rfl ?_
    refine O.move (v := (.int .i64 0)) rfl rfl rfl ?_
    refine WL.nil ?_
    obtain ⟨o1, hm1, hm⟩ := bind_some hm
    refine W.via (fun f w => o1 = .next () ∧ Inv w0 w []) ?_ ?_
    · skip
      refine W.block ?_
      have hbdik1 := (H.arg ha0).len_le
      refine W.rangeN (i := 0) hm1 (fun rem ik1 s f w => () = s ∧ (ik1 : Int) + rem = max 0 ((a0.length : Nat) : Int) ∧ f 13 = .int .i64 (ik1 : Int) ∧ f 12 = (.int .i64 ((a0.length : Nat) : Int)) ∧ f 0 = va0 ∧ f 1 = va1 ∧ Inv w0 w []) ?_ ?_ ?_
      · skip
        exact ⟨rfl, rangeN_start, rfl, rfl, rfl, rfl, H⟩
      · skip
        rintro k ik1 _ st f w ⟨rfl, hdropk1, hf13, hf12, hf0, hf1, H⟩ hm2
        have hltk1 := rangeN_lt hdropk1
        obtain ⟨u1, rfl⟩ : ∃ u1, f = (upd (upd (upd (upd u1 13 (.int .i64 (ik1 : Int))) 12 (.int .i64 ((a0.length : Nat) : Int))) 0 va0) 1 va1) := ⟨f, by rw [upd_self hf13, upd_self hf12, upd_self hf0, upd_self hf1]⟩
        have hinck1 := addI_lt hltk1 hbdik1
        refine W.seq ?_
        refine W.region ?_
        refine O.lss rfl rfl rfl rfl ?_
        refine WL.nil ?_
        refine W.seq ?_
        refine W.cond_true (congrArg Value.bool (decide_eq_true hltk1)) ?_
        refine W.skip ?_
        refine W.seq ?_
        refine W.block ?_
        refine W.seq ?_
        refine W.region ?_
        refine O.move (v := (.int .i64 (ik1 : Int))) rfl rfl rfl ?_
        refine O.assign (v := (.int .i64 (ik1 : Int))) rfl rfl rfl ?_
        refine WL.nil ?_
        refine W.seq ?_
        obtain ⟨x1, hx1, hm2⟩ := bind_some hm2
        obtain ⟨p1, hp1, hrp1⟩ := fix_indexAddr Try.underlying22 sz3 (H.arg ha0) hx1
        obtain ⟨x2, hx2, hm2⟩ := bind_some hm2
        obtain ⟨p2, hp2, hrp2⟩ := fix_indexAddr Try.underlying22 sz3 (H.arg ha1) hx2
        refine W.drawN 8 (fun f => f 0 = va0 ∧ f 1 = va1 ∧ f 12 = (.int .i64 ((a0.length : Nat) : Int)) ∧ f 13 = (.int .i64 (ik1 : Int)) ∧ f 19 = (.int .i64 x1) ∧ f 23 = (.int .i64 x2)) fol (by kernel_rfl) ?_ ?_
        · skip
          refine PL.of (fun _ w8 _ hx => O.move (v := va0) rfl rfl rfl (WL.nil ⟨rfl, hx⟩)) ?_
          refine PL.of (fun _ w8 _ hx => O.move (v := (.int .i64 (ik1 : Int))) rfl rfl rfl (WL.nil ⟨rfl, hx⟩)) ?_
          refine PL.of (fun _ w8 _ hx => hrp1 rfl rfl rfl rfl (WL.nil ⟨rfl, hx⟩)) ?_
          refine PL.of (fun _ w8 _ hx => by have hp1 := hp1.mono hx; exact O.load sc3 rfl rfl rfl (hp1.flat 0 _ rfl) (WL.nil ⟨rfl, hx⟩)) ?_
          refine PL.of (fun _ w8 _ hx => O.move (v := va1) rfl rfl rfl (WL.nil ⟨rfl, hx⟩)) ?_
          refine PL.of (fun _ w8 _ hx => O.move (v := (.int .i64 (ik1 : Int))) rfl rfl rfl (WL.nil ⟨rfl, hx⟩)) ?_
          refine PL.of (fun _ w8 _ hx => hrp2 rfl rfl rfl rfl (WL.nil ⟨rfl, hx⟩)) ?_
          refine PL.of (fun _ w8 _ hx => by have hp2 := hp2.mono hx; exact O.load sc3 rfl rfl rfl (hp2.flat 0 _ rfl) (WL.nil ⟨rfl, hx⟩)) ?_
          refine PL.nil ?_
          exact ⟨rfl, rfl, rfl, rfl, rfl, rfl⟩
        · skip
          rintro f w ⟨hf0, hf1, hf12, hf13, hf19, hf23⟩ hmd hx
          have H := H.ext hx
          have hp1 := hp1.mono hx
          have hp2 := hp2.mono hx
          obtain ⟨u2, rfl⟩ : ∃ u2, f = (upd (upd (upd (upd (upd (upd u2 0 va0) 1 va1) 12 (.int .i64 ((a0.length : Nat) : Int))) 13 (.int .i64 (ik1 : Int))) 19 (.int .i64 x1)) 23 (.int .i64 x2)) := ⟨f, by rw [upd_self hf0, upd_self hf1, upd_self hf12, upd_self hf13, upd_self hf19, upd_self hf23]⟩
          refine O.neq rfl rfl rfl rfl ?_
          refine WL.nil ?_
          rcases ite_some hm2 with ⟨hc2, hm2⟩ | ⟨hc2, hm2⟩
          · refine W.cond_true (congrArg Value.bool hc2) ?_
            refine W.seq ?_
            refine W.region ?_
            refine O.assign (v := (.bool false)) rfl rfl rfl ?_
            refine WL.nil ?_
            refine W.ret ?_
            obtain rfl := Option.some.inj hm2
            refine ⟨_, rfl, ?_⟩
            rintro rfl
            have hq : false = r0 := Option.some.inj (show some false = some r0 from hm)
            subst hq
            exact ends1 Try.results18 rfl ⟨_, rfl, H.base, rfl⟩
          · refine W.cond_false (congrArg Value.bool hc2) ?_
            refine W.skip ?_
            refine W.region ?_
            refine O.add rfl rfl rfl rfl hinck1 ?_
            refine O.move (v := .int .i64 ((ik1 : Int) + 1)) rfl rfl rfl ?_
            refine WL.nil ?_
            obtain rfl := Option.some.inj hm2
            exact ⟨_, rfl, rfl, rangeN_next hdropk1, rfl, rfl, rfl, rfl, H⟩
      · skip
        rintro ik1 _ f w ⟨rfl, hdropk1, hf13, hf12, hf0, hf1, H⟩ hfin
        have hltk1 := rangeN_end hdropk1
        obtain ⟨u3, rfl⟩ : ∃ u3, f = (upd (upd (upd (upd u3 13 (.int .i64 (ik1 : Int))) 12 (.int .i64 ((a0.length : Nat) : Int))) 0 va0) 1 va1) := ⟨f, by rw [upd_self hf13, upd_self hf12, upd_self hf0, upd_self hf1]⟩
        refine W.seq ?_
        refine W.region ?_
        refine O.lss rfl rfl rfl rfl ?_
        refine WL.nil ?_
        refine W.seq ?_
        refine W.cond_false (congrArg Value.bool (decide_eq_false hltk1)) ?_
        refine W.exit ?_
        obtain rfl : Ctl.next () = o1 := hfin
        refine xT rfl ?_
        exact ⟨rfl, H⟩
    · skip
      rintro f w ⟨rfl, H⟩
      refine W.seq ?_
      refine W.region ?_
      refine O.assign (v := (.bool true)) rfl rfl rfl ?_
      refine WL.nil ?_
      refine W.ret ?_
      have hq : true = r0 := Option.some.inj (show some true = some r0 from hm)
      subst hq
      exact ends1 Try.results18 rfl ⟨_, rfl, H.base, rfl⟩

set_option maxRecDepth 20000 in
theorem c_noongunlaw07_awake {w0 : World}  {r0 : Bool} (hm : noongunlaw07_awake  = some r0) :
    Calls Try.prog 9 #[] w0 (Ret w0 fun _ v => v = (.bool r0)) := by
  unfold noongunlaw07_awake at hm
  refine calls_of_W Try.func9 rfl Try.ntmps9 (Nat.le_of_ble_eq_true rfl) ?_
  have H := Inv.start (w := w0)
  refine W.seq ?_
  refine W.region ?_
  refine O.assign (v := (.bool false)) rfl rfl rfl ?_
  refine WL.nil ?_
  refine W.seq ?_
  refine W.region ?_
  refine O.buildSlice (α := Int) [(.int .i64 1), (.int .i64 2), (.int .i64 1), (.int .i64 1)] [1, 2, 1, 1] Try.underlying22 el3 H rfl rfl rfl rfl rfl rfl rfl ?_
  intro v1 w1 H hb1
  obtain ⟨⟨t1, t2⟩, hy1, hm⟩ := bind_some hm
  refine O.call Try.call25 rfl rfl rfl (c_flag_Hoist _ _ (H.own 0 rfl) hy1) ?_
  rintro _ w2 hb2 ⟨v2, rfl, ho1⟩
  have H := H.addOwn hb2 ho1
  refine O.move (v := (.tuple #[v2, (.int .i64 t2)])) rfl rfl rfl ?_
  refine O.extract (v := v2) rfl rfl rfl rfl ?_
  refine O.extract (v := (.int .i64 t2)) rfl rfl rfl rfl ?_
  refine O.assign (v := v2) rfl rfl rfl ?_
  refine O.assign (v := (.int .i64 t2)) rfl rfl rfl ?_
  refine WL.nil ?_
  refine W.seq ?_
  refine W.region ?_
  refine O.buildSlice (α := Int) [(.int .i64 1), (.int .i64 2), (.int .i64 10), (.int .i64 12)] [1, 2, 10, 12] Try.underlying22 el3 H rfl rfl rfl rfl rfl rfl rfl ?_
  intro v3 w3 H hb3
  obtain ⟨⟨t3, t4⟩, hy2, hm⟩ := bind_some hm
  refine O.call Try.call10 rfl rfl rfl (c_flag_Means _ _ (H.own 2 rfl) hy2) ?_
  rintro _ w4 hb4 ⟨v4, rfl, ho2⟩
  have H := H.addOwn hb4 ho2
  refine O.move (v := (.tuple #[v4, (.int .i64 t4)])) rfl rfl rfl ?_
  refine O.extract (v := v4) rfl rfl rfl rfl ?_
  refine O.extract (v := (.int .i64 t4)) rfl rfl rfl rfl ?_
  refine O.assign (v := v4) rfl rfl rfl ?_
  refine O.assign (v := (.int .i64 t4)) rfl rfl rfl ?_
  refine WL.nil ?_
  refine W.seq ?_
  refine W.region ?_
  refine O.move (v := (.int .i64 t2)) rfl rfl rfl ?_
  refine O.eql rfl rfl rfl rfl ?_
  refine O.move (v := (.bool (t2 == 0))) rfl rfl rfl ?_
  obtain ⟨b1, hm1, hm⟩ := bind_some hm
  refine WL.cut 4 (fun f w => f 3 = v4 ∧ f 4 = (.int .i64 t4) ∧ f 21 = .bool b1 ∧ Inv w0 w [ownI (α := Int) v1 3 ([1, 2, 1, 1] : List Int), ownI (α := Int) v2 3 t1, ownI (α := Int) v3 3 ([1, 2, 10, 12] : List Int), ownI (α := Int) v4 3 t3]) ?_ ?_
  · skip
    rcases ite_some hm1 with ⟨hc1, hm1⟩ | ⟨hc1, hm1⟩
    · skip
      refine WL.reset (i := 17) (v := .bool true) (congrArg Value.bool hc1) ?_
      refine O.move (v := v2) rfl rfl rfl ?_
      refine O.buildSlice (α := Int) [(.int .i64 1), (.int .i64 2), (.int .i64 10), (.int .i64 12)] [1, 2, 10, 12] Try.underlying22 el3 H rfl rfl rfl rfl rfl rfl rfl ?_
      intro v5 w5 H hb5
      obtain ⟨t5, hy3, hm1⟩ := bind_some hm1
      refine O.call Try.call18 rfl rfl rfl (c_noongunref07_SameInts _ _ (H.own 1 rfl) _ _ (H.own 4 rfl) hy3) ?_
      rintro _ w6 hb6 rfl
      have H := H.ext hb6
      refine O.pick_true (v := (.bool t5)) rfl rfl rfl rfl ?_
      refine WL.nil ?_
      have H := H.keep [0, 1, 2, 3] [ownI (α := Int) v1 3 ([1, 2, 1, 1] : List Int), ownI (α := Int) v2 3 t1, ownI (α := Int) v3 3 ([1, 2, 10, 12] : List Int), ownI (α := Int) v4 3 t3] rfl (by decide)
      have hq : t5 = b1 := Option.some.inj (show some t5 = some b1 from hm1)
      subst hq
      exact ⟨rfl, rfl, rfl, H⟩
    · skip
      refine WL.reset (i := 17) (v := .bool false) (congrArg Value.bool hc1) ?_
      refine O.skip rfl rfl ?_
      refine O.skip rfl rfl ?_
      refine O.skip rfl rfl ?_
      refine O.pick_false (v := (.bool false)) rfl rfl rfl rfl ?_
      refine WL.nil ?_
      have hq : false = b1 := Option.some.inj (show some false = some b1 from hm1)
      subst hq
      exact ⟨rfl, rfl, rfl, H⟩
  · skip
    rintro f w ⟨hf3, hf4, hf21, H⟩
    obtain ⟨u1, rfl⟩ : ∃ u1, f = (upd (upd (upd u1 3 v4) 4 (.int .i64 t4)) 21 (.bool b1)) := ⟨f, by rw [upd_self hf3, upd_self hf4, upd_self hf21]⟩
    refine O.move (v := (.bool b1)) rfl rfl rfl ?_
    refine WL.cut 3 (fun f w => f 3 = v4 ∧ f 25 = .bool (b1 && (t4 == 0)) ∧ Inv w0 w [ownI (α := Int) v1 3 ([1, 2, 1, 1] : List Int), ownI (α := Int) v2 3 t1, ownI (α := Int) v3 3 ([1, 2, 10, 12] : List Int), ownI (α := Int) v4 3 t3]) ?_ ?_
    · skip
      rcases bool_ft b1 with hc2 | hc2
      · skip
        refine WL.reset (i := 22) (v := .bool false) (congrArg Value.bool hc2) ?_
        refine O.skip rfl rfl ?_
        refine O.skip rfl rfl ?_
        refine O.pick_false (v := (.bool false)) rfl rfl rfl rfl ?_
        refine WL.nil ?_
        exact ⟨rfl, congrArg Value.bool (and_f hc2), H⟩
      · skip
        refine WL.reset (i := 22) (v := .bool true) (congrArg Value.bool hc2) ?_
        refine O.move (v := (.int .i64 t4)) rfl rfl rfl ?_
        refine O.eql rfl rfl rfl rfl ?_
        refine O.pick_true (v := (.bool (t4 == 0))) rfl rfl rfl rfl ?_
        refine WL.nil ?_
        exact ⟨rfl, congrArg Value.bool (and_t hc2), H⟩
    · skip
      rintro f w ⟨hf3, hf25, H⟩
      obtain ⟨u2, rfl⟩ : ∃ u2, f = (upd (upd u2 3 v4) 25 (.bool (b1 && (t4 == 0)))) := ⟨f, by rw [upd_self hf3, upd_self hf25]⟩
      refine O.move (v := (.bool (b1 && (t4 == 0)))) rfl rfl rfl ?_
      obtain ⟨b2, hm2, hm⟩ := bind_some hm
      refine WL.cut 4 (fun f w => f 30 = .bool b2 ∧ Inv w0 w [ownI (α := Int) v1 3 ([1, 2, 1, 1] : List Int), ownI (α := Int) v2 3 t1, ownI (α := Int) v3 3 ([1, 2, 10, 12] : List Int), ownI (α := Int) v4 3 t3]) ?_ ?_
      · skip
        rcases ite_some hm2 with ⟨hc3, hm2⟩ | ⟨hc3, hm2⟩
        · skip
          refine WL.reset (i := 26) (v := .bool true) (congrArg Value.bool hc3) ?_
          refine O.move (v := v4) rfl rfl rfl ?_
          refine O.buildSlice (α := Int) [(.int .i64 1), (.int .i64 2), (.int .i64 1), (.int .i64 1)] [1, 2, 1, 1] Try.underlying22 el3 H rfl rfl rfl rfl rfl rfl rfl ?_
          intro v6 w7 H hb7
          obtain ⟨t6, hy4, hm2⟩ := bind_some hm2
          refine O.call Try.call18 rfl rfl rfl (c_noongunref07_SameInts _ _ (H.own 3 rfl) _ _ (H.own 4 rfl) hy4) ?_
          rintro _ w8 hb8 rfl
          have H := H.ext hb8
          refine O.pick_true (v := (.bool t6)) rfl rfl rfl rfl ?_
          refine WL.nil ?_
          have H := H.keep [0, 1, 2, 3] [ownI (α := Int) v1 3 ([1, 2, 1, 1] : List Int), ownI (α := Int) v2 3 t1, ownI (α := Int) v3 3 ([1, 2, 10, 12] : List Int), ownI (α := Int) v4 3 t3] rfl (by decide)
          have hq : t6 = b2 := Option.some.inj (show some t6 = some b2 from hm2)
          subst hq
          exact ⟨rfl, H⟩
        · skip
          refine WL.reset (i := 26) (v := .bool false) (congrArg Value.bool hc3) ?_
          refine O.skip rfl rfl ?_
          refine O.skip rfl rfl ?_
          refine O.skip rfl rfl ?_
          refine O.pick_false (v := (.bool false)) rfl rfl rfl rfl ?_
          refine WL.nil ?_
          have hq : false = b2 := Option.some.inj (show some false = some b2 from hm2)
          subst hq
          exact ⟨rfl, H⟩
      · skip
        rintro f w ⟨hf30, H⟩
        obtain ⟨u3, rfl⟩ : ∃ u3, f = (upd u3 30 (.bool b2)) := ⟨f, by rw [upd_self hf30]⟩
        refine O.assign (v := (.bool b2)) rfl rfl rfl ?_
        refine WL.nil ?_
        refine W.ret ?_
        have hq : b2 = r0 := Option.some.inj (show some b2 = some r0 from hm)
        subst hq
        exact ends1 Try.results9 rfl ⟨_, rfl, H.base, rfl⟩

set_option maxRecDepth 20000 in
theorem c_noongunref07_ValidHoist {w0 : World} (va0 : Value) (a0 : (List Int)) (ha0 : SliceR w0 va0 a0) {r0 : Bool} (hm : noongunref07_ValidHoist a0 = some r0) :
    Calls Try.prog 17 #[va0] w0 (Ret w0 fun _ v => v = (.bool r0)) := by
  unfold noongunref07_ValidHoist at hm
  refine calls_of_W Try.func17 rfl Try.ntmps17 (Nat.le_of_ble_eq_true rfl) ?_
  have H := Inv.start (w := w0)
  refine W.seq ?_
  refine W.region ?_
  refine O.assign (v := (.bool false)) rfl rfl rfl ?_
  refine WL.nil ?_
  refine W.seq ?_
  refine W.seq ?_
  refine W.region ?_
  refine O.move (v := va0) rfl rfl rfl ?_
  refine O.lenS Try.underlying22 (H.arg ha0) rfl rfl rfl ?_
  refine O.move (v := (.int .i64 0)) rfl rfl rfl ?_
  refine WL.nil ?_
  obtain ⟨o1, hm1, hm⟩ := bind_some hm
  refine W.via (fun f w => o1 = .next () ∧ f 0 = va0 ∧ Inv w0 w []) ?_ ?_
  · skip
    refine W.block ?_
    have hbdik1 := (H.arg ha0).len_le
    refine W.rangeN (i := 0) hm1 (fun rem ik1 s f w => () = s ∧ (ik1 : Int) + rem = max 0 ((a0.length : Nat) : Int) ∧ f 9 = .int .i64 (ik1 : Int) ∧ f 8 = (.int .i64 ((a0.length : Nat) : Int)) ∧ f 0 = va0 ∧ f 7 = va0 ∧ Inv w0 w []) ?_ ?_ ?_
    · skip
      exact ⟨rfl, rangeN_start, rfl, rfl, rfl, rfl, H⟩
    · skip
      rintro k ik1 _ st f w ⟨rfl, hdropk1, hf9, hf8, hf0, hf7, H⟩ hm2
      have hltk1 := rangeN_lt hdropk1
      obtain ⟨u1, rfl⟩ : ∃ u1, f = (upd (upd (upd (upd u1 9 (.int .i64 (ik1 : Int))) 8 (.int .i64 ((a0.length : Nat) : Int))) 0 va0) 7 va0) := ⟨f, by rw [upd_self hf9, upd_self hf8, upd_self hf0, upd_self hf7]⟩
      have hinck1 := addI_lt hltk1 hbdik1
      refine W.seq ?_
      refine W.region ?_
      refine O.lss rfl rfl rfl rfl ?_
      refine WL.nil ?_
      refine W.seq ?_
      refine W.cond_true (congrArg Value.bool (decide_eq_true hltk1)) ?_
      refine W.skip ?_
      refine W.seq ?_
      obtain ⟨o2, hm3, hm2⟩ := bind_some hm2
      refine W.via (fun f w => o2 = .next () ∧ f 0 = va0 ∧ f 7 = va0 ∧ f 8 = (.int .i64 ((a0.length : Nat) : Int)) ∧ f 9 = (.int .i64 (ik1 : Int)) ∧ Inv w0 w []) ?_ ?_
      · skip
        refine W.block ?_
        refine W.seq ?_
        refine W.region ?_
        refine O.move (v := (.int .i64 (ik1 : Int))) rfl rfl rfl ?_
        obtain ⟨x1, hx1, hm3⟩ := bind_some hm3
        obtain ⟨p1, hp1, hrp1⟩ := fix_indexAddr Try.underlying22 sz3 ha0 hx1
        refine hrp1 rfl rfl rfl rfl ?_
        refine O.load sc3 rfl rfl rfl ((hp1.mono H.base).flat 0 _ rfl) ?_
        refine O.assign (v := (.int .i64 (ik1 : Int))) rfl rfl rfl ?_
        refine O.assign (v := (.int .i64 x1)) rfl rfl rfl ?_
        refine WL.nil ?_
        refine W.seq ?_
        refine W.seq ?_
        refine W.region ?_
        refine O.move (v := (.int .i64 x1)) rfl rfl rfl ?_
        refine O.lss rfl rfl rfl rfl ?_
        refine O.move (v := (.bool (decide (x1 < 0)))) rfl rfl rfl ?_
        refine WL.cut 3 (fun f w => f 0 = va0 ∧ f 3 = (.int .i64 (ik1 : Int)) ∧ f 4 = (.int .i64 x1) ∧ f 7 = va0 ∧ f 8 = (.int .i64 ((a0.length : Nat) : Int)) ∧ f 9 = (.int .i64 (ik1 : Int)) ∧ f 19 = .bool ((decide (x1 < 0)) || (decide (13 ≤ x1))) ∧ Inv w0 w []) ?_ ?_
        · skip
          rcases bool_ft (decide (x1 < 0)) with hc1 | hc1
          · skip
            refine WL.reset (i := 16) (v := .bool false) (congrArg Value.bool hc1) ?_
            refine O.move (v := (.int .i64 x1)) rfl rfl rfl ?_
            refine O.geq rfl rfl rfl rfl ?_
            refine O.pick_false (v := (.bool (decide (13 ≤ x1)))) rfl rfl rfl rfl ?_
            refine WL.nil ?_
            exact ⟨rfl, rfl, rfl, rfl, rfl, rfl, congrArg Value.bool (or_f hc1), H⟩
          · skip
            refine WL.reset (i := 16) (v := .bool true) (congrArg Value.bool hc1) ?_
            refine O.skip rfl rfl ?_
            refine O.skip rfl rfl ?_
            refine O.pick_true (v := (.bool true)) rfl rfl rfl rfl ?_
            refine WL.nil ?_
            exact ⟨rfl, rfl, rfl, rfl, rfl, rfl, congrArg Value.bool (or_t hc1), H⟩
        · skip
          rintro f w ⟨hf0, hf3, hf4, hf7, hf8, hf9, hf19, H⟩
          obtain ⟨u2, rfl⟩ : ∃ u2, f = (upd (upd (upd (upd (upd (upd (upd u2 0 va0) 3 (.int .i64 (ik1 : Int))) 4 (.int .i64 x1)) 7 va0) 8 (.int .i64 ((a0.length : Nat) : Int))) 9 (.int .i64 (ik1 : Int))) 19 (.bool ((decide (x1 < 0)) || (decide (13 ≤ x1))))) := ⟨f, by rw [upd_self hf0, upd_self hf3, upd_self hf4, upd_self hf7, upd_self hf8, upd_self hf9, upd_self hf19]⟩
          refine O.move (v := (.bool ((decide (x1 < 0)) || (decide (13 ≤ x1))))) rfl rfl rfl ?_
          obtain ⟨b1, hm4, hm3⟩ := bind_some hm3
          refine WL.cut 5 (fun f w => f 0 = va0 ∧ f 3 = (.int .i64 (ik1 : Int)) ∧ f 4 = (.int .i64 x1) ∧ f 7 = va0 ∧ f 8 = (.int .i64 ((a0.length : Nat) : Int)) ∧ f 9 = (.int .i64 (ik1 : Int)) ∧ f 25 = .bool b1 ∧ Inv w0 w []) ?_ ?_
          · skip
            rcases ite_some hm4 with ⟨hc2, hm4⟩ | ⟨hc2, hm4⟩
            · skip
              refine WL.reset (i := 20) (v := .bool true) (congrArg Value.bool hc2) ?_
              refine O.skip rfl rfl ?_
              refine O.skip rfl rfl ?_
              refine O.skip rfl rfl ?_
              refine O.skip rfl rfl ?_
              refine O.pick_true (v := (.bool true)) rfl rfl rfl rfl ?_
              refine WL.nil ?_
              have hq : true = b1 := Option.some.inj (show some true = some b1 from hm4)
              subst hq
              exact ⟨rfl, rfl, rfl, rfl, rfl, rfl, rfl, H⟩
            · skip
              refine WL.reset (i := 20) (v := .bool false) (congrArg Value.bool hc2) ?_
              refine O.move (v := (.int .i64 x1)) rfl rfl rfl ?_
              obtain ⟨t1, ht1, hm4⟩ := bind_some hm4
              refine O.sub rfl rfl rfl rfl ht1 ?_
              refine O.move (v := (.int .i64 (ik1 : Int))) rfl rfl rfl ?_
              refine O.geq rfl rfl rfl rfl ?_
              refine O.pick_false (v := (.bool (decide ((ik1 : Int) ≤ t1)))) rfl rfl rfl rfl ?_
              refine WL.nil ?_
              have hq : (decide ((ik1 : Int) ≤ t1)) = b1 := Option.some.inj (show some (decide ((ik1 : Int) ≤ t1)) = some b1 from hm4)
              subst hq
              exact ⟨rfl, rfl, rfl, rfl, rfl, rfl, rfl, H⟩
          · skip
            rintro f w ⟨hf0, hf3, hf4, hf7, hf8, hf9, hf25, H⟩
            obtain ⟨u3, rfl⟩ : ∃ u3, f = (upd (upd (upd (upd (upd (upd (upd u3 0 va0) 3 (.int .i64 (ik1 : Int))) 4 (.int .i64 x1)) 7 va0) 8 (.int .i64 ((a0.length : Nat) : Int))) 9 (.int .i64 (ik1 : Int))) 25 (.bool b1)) := ⟨f, by rw [upd_self hf0, upd_self hf3, upd_self hf4, upd_self hf7, upd_self hf8, upd_self hf9, upd_self hf25]⟩
            refine WL.nil ?_
            rcases ite_some hm3 with ⟨hc3, hm3⟩ | ⟨hc3, hm3⟩
            · refine W.cond_true (congrArg Value.bool hc3) ?_
              refine W.seq ?_
              refine W.region ?_
              refine O.assign (v := (.bool false)) rfl rfl rfl ?_
              refine WL.nil ?_
              refine W.ret ?_
              obtain rfl := Option.some.inj hm3
              obtain rfl := Option.some.inj hm2
              refine ⟨_, rfl, ?_⟩
              rintro rfl
              have hq : false = r0 := Option.some.inj (show some false = some r0 from hm)
              subst hq
              exact ends1 Try.results17 rfl ⟨_, rfl, H.base, rfl⟩
            · refine W.cond_false (congrArg Value.bool hc3) ?_
              refine W.skip ?_
              refine W.seq ?_
              refine W.region ?_
              refine O.move (v := va0) rfl rfl rfl ?_
              refine O.move (v := (.int .i64 (ik1 : Int))) rfl rfl rfl ?_
              obtain ⟨t2, ht2, hm3⟩ := bind_some hm3
              obtain ⟨v1, hs1, hrv1⟩ := fix_sliceH Try.underlying22 sz3 ha0 ht2
              refine hrv1 rfl rfl rfl rfl ?_
              refine O.lenS Try.underlying22 (H.arg hs1) rfl rfl rfl ?_
              refine O.move (v := (.int .i64 0)) rfl rfl rfl ?_
              refine WL.nil ?_
              obtain ⟨o3, hm5, hm3⟩ := bind_some hm3
              refine W.via (fun f w => o3 = .next () ∧ f 0 = va0 ∧ f 7 = va0 ∧ f 8 = (.int .i64 ((a0.length : Nat) : Int)) ∧ f 9 = (.int .i64 (ik1 : Int)) ∧ Inv w0 w []) ?_ ?_
              · skip
                refine W.block ?_
                refine W.rangeL (i := 0) hm5 (fun rem ik2 s f w => () = s ∧ t2.drop ik2 = rem ∧ f 30 = .int .i64 (ik2 : Int) ∧ f 29 = (.int .i64 ((t2.length : Nat) : Int)) ∧ f 0 = va0 ∧ f 4 = (.int .i64 x1) ∧ f 7 = va0 ∧ f 8 = (.int .i64 ((a0.length : Nat) : Int)) ∧ f 9 = (.int .i64 (ik1 : Int)) ∧ f 28 = v1 ∧ Inv w0 w []) ?_ ?_ ?_
                · skip
                  exact ⟨rfl, List.drop_zero, rfl, rfl, rfl, rfl, rfl, rfl, rfl, rfl, H⟩
                · skip
                  rintro yk2 xs ik2 _ st f w ⟨rfl, hdropk2, hf30, hf29, hf0, hf4, hf7, hf8, hf9, hf28, H⟩ hm6
                  have hltk2 := drop_lt hdropk2; have hixk2 := drop_idx hdropk2
                  obtain ⟨u4, rfl⟩ : ∃ u4, f = (upd (upd (upd (upd (upd (upd (upd (upd u4 30 (.int .i64 (ik2 : Int))) 29 (.int .i64 ((t2.length : Nat) : Int))) 0 va0) 4 (.int .i64 x1)) 7 va0) 8 (.int .i64 ((a0.length : Nat) : Int))) 9 (.int .i64 (ik1 : Int))) 28 v1) := ⟨f, by rw [upd_self hf30, upd_self hf29, upd_self hf0, upd_self hf4, upd_self hf7, upd_self hf8, upd_self hf9, upd_self hf28]⟩
                  have hinck2 := addI_lt hltk2 (H.arg hs1).len_le
                  refine W.seq ?_
                  refine W.region ?_
                  refine O.lss rfl rfl rfl rfl ?_
                  refine WL.nil ?_
                  refine W.seq ?_
                  refine W.cond_true (congrArg Value.bool (decide_eq_true hltk2)) ?_
                  refine W.skip ?_
                  refine W.seq ?_
                  refine W.block ?_
                  refine W.seq ?_
                  refine W.region ?_
                  obtain ⟨p2, hp2, hrp2⟩ := fix_indexAddr Try.underlying22 sz3 hs1 hixk2
                  refine hrp2 rfl rfl rfl rfl ?_
                  refine O.load sc3 rfl rfl rfl ((hp2.mono H.base).flat 0 _ rfl) ?_
                  refine O.assign (v := (.int .i64 yk2)) rfl rfl rfl ?_
                  refine WL.nil ?_
                  refine W.seq ?_
                  refine W.region ?_
                  refine O.move (v := (.int .i64 x1)) rfl rfl rfl ?_
                  refine O.move (v := (.int .i64 yk2)) rfl rfl rfl ?_
                  refine O.eql rfl rfl rfl rfl ?_
                  refine WL.nil ?_
                  rcases ite_some hm6 with ⟨hc4, hm6⟩ | ⟨hc4, hm6⟩
                  · refine W.cond_true (congrArg Value.bool hc4) ?_
                    refine W.seq ?_
                    refine W.region ?_
                    refine O.assign (v := (.bool false)) rfl rfl rfl ?_
                    refine WL.nil ?_
                    refine W.ret ?_
                    obtain rfl := Option.some.inj hm6
                    refine ⟨_, rfl, ?_⟩
                    rintro rfl
                    obtain rfl := Option.some.inj hm3
                    obtain rfl := Option.some.inj hm2
                    refine ⟨_, rfl, ?_⟩
                    rintro rfl
                    have hq : false = r0 := Option.some.inj (show some false = some r0 from hm)
                    subst hq
                    exact ends1 Try.results17 rfl ⟨_, rfl, H.base, rfl⟩
                  · refine W.cond_false (congrArg Value.bool hc4) ?_
                    refine W.skip ?_
                    refine W.region ?_
                    refine O.add rfl rfl rfl rfl hinck2 ?_
                    refine O.move (v := .int .i64 ((ik2 : Int) + 1)) rfl rfl rfl ?_
                    refine WL.nil ?_
                    obtain rfl := Option.some.inj hm6
                    exact ⟨_, rfl, rfl, drop_next hdropk2, rfl, rfl, rfl, rfl, rfl, rfl, rfl, rfl, H⟩
                · skip
                  rintro ik2 _ f w ⟨rfl, hdropk2, hf30, hf29, hf0, hf4, hf7, hf8, hf9, hf28, H⟩ hfin
                  have hltk2 := drop_end hdropk2
                  obtain ⟨u5, rfl⟩ : ∃ u5, f = (upd (upd (upd (upd (upd (upd (upd (upd u5 30 (.int .i64 (ik2 : Int))) 29 (.int .i64 ((t2.length : Nat) : Int))) 0 va0) 4 (.int .i64 x1)) 7 va0) 8 (.int .i64 ((a0.length : Nat) : Int))) 9 (.int .i64 (ik1 : Int))) 28 v1) := ⟨f, by rw [upd_self hf30, upd_self hf29, upd_self hf0, upd_self hf4, upd_self hf7, upd_self hf8, upd_self hf9, upd_self hf28]⟩
                  refine W.seq ?_
                  refine W.region ?_
                  refine O.lss rfl rfl rfl rfl ?_
                  refine WL.nil ?_
                  refine W.seq ?_
                  refine W.cond_false (congrArg Value.bool (decide_eq_false hltk2)) ?_
                  refine W.exit ?_
                  obtain rfl : Ctl.next () = o3 := hfin
                  refine xT rfl ?_
                  exact ⟨rfl, rfl, rfl, rfl, rfl, H⟩
              · skip
                rintro f w ⟨rfl, hf0, hf7, hf8, hf9, H⟩
                obtain ⟨u6, rfl⟩ : ∃ u6, f = (upd (upd (upd (upd u6 0 va0) 7 va0) 8 (.int .i64 ((a0.length : Nat) : Int))) 9 (.int .i64 (ik1 : Int))) := ⟨f, by rw [upd_self hf0, upd_self hf7, upd_self hf8, upd_self hf9]⟩
                obtain rfl := Option.some.inj hm3
                exact ⟨rfl, rfl, rfl, rfl, rfl, H⟩
      · skip
        rintro f w ⟨rfl, hf0, hf7, hf8, hf9, H⟩
        obtain ⟨u7, rfl⟩ : ∃ u7, f = (upd (upd (upd (upd u7 0 va0) 7 va0) 8 (.int .i64 ((a0.length : Nat) : Int))) 9 (.int .i64 (ik1 : Int))) := ⟨f, by rw [upd_self hf0, upd_self hf7, upd_self hf8, upd_self hf9]⟩
        refine W.region ?_
        refine O.add rfl rfl rfl rfl hinck1 ?_
        refine O.move (v := .int .i64 ((ik1 : Int) + 1)) rfl rfl rfl ?_
        refine WL.nil ?_
        obtain rfl := Option.some.inj hm2
        exact ⟨_, rfl, rfl, rangeN_next hdropk1, rfl, rfl, rfl, rfl, H⟩
    · skip
      rintro ik1 _ f w ⟨rfl, hdropk1, hf9, hf8, hf0, hf7, H⟩ hfin
      have hltk1 := rangeN_end hdropk1
      obtain ⟨u8, rfl⟩ : ∃ u8, f = (upd (upd (upd (upd u8 9 (.int .i64 (ik1 : Int))) 8 (.int .i64 ((a0.length : Nat) : Int))) 0 va0) 7 va0) := ⟨f, by rw [upd_self hf9, upd_self hf8, upd_self hf0, upd_self hf7]⟩
      refine W.seq ?_
      refine W.region ?_
      refine O.lss rfl rfl rfl rfl ?_
      refine WL.nil ?_
      refine W.seq ?_
      refine W.cond_false (congrArg Value.bool (decide_eq_false hltk1)) ?_
      refine W.exit ?_
      obtain rfl : Ctl.next () = o1 := hfin
      refine xT rfl ?_
      exact ⟨rfl, rfl, H⟩
  · skip
    rintro f w ⟨rfl, hf0, H⟩
    obtain ⟨u9, rfl⟩ : ∃ u9, f = (upd u9 0 va0) := ⟨f, by rw [upd_self hf0]⟩
    refine W.seq ?_
    refine W.region ?_
    refine O.move (v := va0) rfl rfl rfl ?_
    refine O.lenS Try.underlying22 (H.arg ha0) rfl rfl rfl ?_
    refine O.geq rfl rfl rfl rfl ?_
    refine O.move (v := (.bool (decide (1 ≤ ((a0.length : Nat) : Int))))) rfl rfl rfl ?_
    refine WL.cut 4 (fun f w => f 46 = .bool ((decide (1 ≤ ((a0.length : Nat) : Int))) && (decide (((a0.length : Nat) : Int) ≤ 4))) ∧ Inv w0 w []) ?_ ?_
    · skip
      rcases bool_ft (decide (1 ≤ ((a0.length : Nat) : Int))) with hc5 | hc5
      · skip
        refine WL.reset (i := 42) (v := .bool false) (congrArg Value.bool hc5) ?_
        refine O.skip rfl rfl ?_
        refine O.skip rfl rfl ?_
        refine O.skip rfl rfl ?_
        refine O.pick_false (v := (.bool false)) rfl rfl rfl rfl ?_
        refine WL.nil ?_
        exact ⟨congrArg Value.bool (and_f hc5), H⟩
      · skip
        refine WL.reset (i := 42) (v := .bool true) (congrArg Value.bool hc5) ?_
        refine O.move (v := va0) rfl rfl rfl ?_
        refine O.lenS Try.underlying22 (H.arg ha0) rfl rfl rfl ?_
        refine O.leq rfl rfl rfl rfl ?_
        refine O.pick_true (v := (.bool (decide (((a0.length : Nat) : Int) ≤ 4)))) rfl rfl rfl rfl ?_
        refine WL.nil ?_
        exact ⟨congrArg Value.bool (and_t hc5), H⟩
    · skip
      rintro f w ⟨hf46, H⟩
      obtain ⟨u10, rfl⟩ : ∃ u10, f = (upd u10 46 (.bool ((decide (1 ≤ ((a0.length : Nat) : Int))) && (decide (((a0.length : Nat) : Int) ≤ 4))))) := ⟨f, by rw [upd_self hf46]⟩
      refine O.assign (v := (.bool ((decide (1 ≤ ((a0.length : Nat) : Int))) && (decide (((a0.length : Nat) : Int) ≤ 4))))) rfl rfl rfl ?_
      refine WL.nil ?_
      refine W.ret ?_
      have hq : ((decide (1 ≤ ((a0.length : Nat) : Int))) && (decide (((a0.length : Nat) : Int) ≤ 4))) = r0 := Option.some.inj (show some ((decide (1 ≤ ((a0.length : Nat) : Int))) && (decide (((a0.length : Nat) : Int) ≤ 4))) = some r0 from hm)
      subst hq
      exact ends1 Try.results17 rfl ⟨_, rfl, H.base, rfl⟩

set_option maxRecDepth 20000 in
theorem c_noongunref07_means {w0 : World} (va0 : Value) (a0 : (List Int)) (ha0 : SliceR w0 va0 a0) {r0 : (List Int)} (hm : noongunref07_means a0 = some r0) :
    Calls Try.prog 35 #[va0] w0 (Ret w0 fun w v => OwnR w0 w v 3 r0) := by
  unfold noongunref07_means at hm
  refine calls_of_W Try.func35 rfl Try.ntmps35 (Nat.le_of_ble_eq_true rfl) ?_
  have H := Inv.start (w := w0)
  refine W.seq ?_
  refine W.region ?_
  have H := H.addNil (α := Int) (E := 3)
  refine O.assign (v := (.slice none 0 0)) rfl rfl rfl ?_
  refine WL.nil ?_
  refine W.seq ?_
  refine W.region ?_
  have H := H.addNil (α := Int) (E := 3)
  refine O.assign (v := (.slice none 0 0)) rfl rfl rfl ?_
  refine WL.nil ?_
  refine W.seq ?_
  refine W.seq ?_
  refine W.region ?_
  refine O.move (v := va0) rfl rfl rfl ?_
  refine O.lenS Try.underlying22 (H.arg ha0) rfl rfl rfl ?_
  refine O.move (v := (.int .i64 0)) rfl rfl rfl ?_
  refine WL.nil ?_
  obtain ⟨s1, hm1, hm⟩ := bind_some hm
  refine W.via (fun f w => ∃ v4 : Value, f 3 = v4 ∧ Inv w0 w [ownI (α := Int) v4 3 s1]) ?_ ?_
  · skip
    refine W.block ?_
    have H := H.keep [1] [ownI (α := Int) (.slice none 0 0) 3 ([] : List Int)] rfl (by decide)
    refine W.rangeL (i := 0) hm1 (fun rem ik1 s f w => ∃ z2 : (List Int), ∃ v2 : Value, z2 = s ∧ a0.drop ik1 = rem ∧ f 8 = .int .i64 (ik1 : Int) ∧ f 7 = (.int .i64 ((a0.length : Nat) : Int)) ∧ f 3 = v2 ∧ f 6 = va0 ∧ Inv w0 w [ownI (α := Int) v2 3 z2]) ?_ ?_ ?_
    · skip
      exact ⟨_, (.slice none 0 0), rfl, List.drop_zero, rfl, rfl, rfl, rfl, H⟩
    · skip
      rintro yk1 xs ik1 _ st f w ⟨z2, v2, rfl, hdropk1, hf8, hf7, hf3, hf6, H⟩ hm2
      have hltk1 := drop_lt hdropk1; have hixk1 := drop_idx hdropk1
      obtain ⟨u1, rfl⟩ : ∃ u1, f = (upd (upd (upd (upd u1 8 (.int .i64 (ik1 : Int))) 7 (.int .i64 ((a0.length : Nat) : Int))) 3 v2) 6 va0) := ⟨f, by rw [upd_self hf8, upd_self hf7, upd_self hf3, upd_self hf6]⟩
      have hinck1 := addI_lt hltk1 (H.arg ha0).len_le
      refine W.seq ?_
      refine W.region ?_
      refine O.lss rfl rfl rfl rfl ?_
      refine WL.nil ?_
      refine W.seq ?_
      refine W.cond_true (congrArg Value.bool (decide_eq_true hltk1)) ?_
      refine W.skip ?_
      refine W.seq ?_
      obtain ⟨s2, hm3, hm2⟩ := bind_some hm2
      refine W.via (fun f w => ∃ v5 : Value, f 3 = v5 ∧ f 6 = va0 ∧ f 7 = (.int .i64 ((a0.length : Nat) : Int)) ∧ f 8 = (.int .i64 (ik1 : Int)) ∧ Inv w0 w [ownI (α := Int) v5 3 s2]) ?_ ?_
      · skip
        refine W.block ?_
        refine W.seq ?_
        refine W.region ?_
        obtain ⟨p1, hp1, hrp1⟩ := fix_indexAddr Try.underlying22 sz3 ha0 hixk1
        refine hrp1 rfl rfl rfl rfl ?_
        refine O.load sc3 rfl rfl rfl ((hp1.mono H.base).flat 0 _ rfl) ?_
        refine O.assign (v := (.int .i64 yk1)) rfl rfl rfl ?_
        refine WL.nil ?_
        refine W.seq ?_
        refine W.seq ?_
        refine W.region ?_
        refine O.move (v := (.int .i64 yk1)) rfl rfl rfl ?_
        refine O.geq rfl rfl rfl rfl ?_
        refine WL.nil ?_
        obtain ⟨s3, hm4, hm3⟩ := bind_some hm3
        refine W.via (fun f w => f 3 = v2 ∧ f 5 = (.int .i64 s3) ∧ f 6 = va0 ∧ f 7 = (.int .i64 ((a0.length : Nat) : Int)) ∧ f 8 = (.int .i64 (ik1 : Int)) ∧ Inv w0 w [ownI (α := Int) v2 3 z2]) ?_ ?_
        · skip
          rcases ite_some hm4 with ⟨hc1, hm4⟩ | ⟨hc1, hm4⟩
          · refine W.cond_true (congrArg Value.bool hc1) ?_
            refine W.region ?_
            refine O.move (v := v2) rfl rfl rfl ?_
            refine O.move (v := (.int .i64 yk1)) rfl rfl rfl ?_
            obtain ⟨t1, ht1, hm4⟩ := bind_some hm4
            refine O.sub rfl rfl rfl rfl ht1 ?_
            obtain ⟨x1, hx1, hm4⟩ := bind_some hm4
            refine O.indexAddr Try.underlying22 sz3 (H.own 0 rfl) hx1 rfl rfl rfl rfl ?_
            intro p2 hp2
            refine O.load sc3 rfl rfl rfl (hp2.flat 0 _ rfl) ?_
            refine O.assign (v := (.int .i64 x1)) rfl rfl rfl ?_
            refine WL.nil ?_
            have hq : x1 = s3 := Option.some.inj (show some x1 = some s3 from hm4)
            subst hq
            exact ⟨rfl, rfl, rfl, rfl, rfl, H⟩
          · refine W.cond_false (congrArg Value.bool hc1) ?_
            refine W.skip ?_
            have hq : yk1 = s3 := Option.some.inj (show some yk1 = some s3 from hm4)
            subst hq
            exact ⟨rfl, rfl, rfl, rfl, rfl, H⟩
        · skip
          rintro f w ⟨hf3, hf5, hf6, hf7, hf8, H⟩
          obtain ⟨u2, rfl⟩ : ∃ u2, f = (upd (upd (upd (upd (upd u2 3 v2) 5 (.int .i64 s3)) 6 va0) 7 (.int .i64 ((a0.length : Nat) : Int))) 8 (.int .i64 (ik1 : Int))) := ⟨f, by rw [upd_self hf3, upd_self hf5, upd_self hf6, upd_self hf7, upd_self hf8]⟩
          refine W.region ?_
          refine O.move (v := v2) rfl rfl rfl ?_
          refine O.move (v := (.int .i64 s3)) rfl rfl rfl ?_
          refine O.buildSlice (α := Int) [(.int .i64 s3)] [s3] Try.underlying22 el3 H rfl rfl rfl rfl rfl rfl rfl ?_
          intro v6 w1 H hb1
          obtain ⟨t2, ht2, hm3⟩ := bind_some hm3
          refine O.append 0 Try.underlying22 el3 rfl H rfl (H.own 1 rfl) ht2 rfl rfl rfl rfl ?_
          intro v7 w2 H
          refine O.assign (v := v7) rfl rfl rfl ?_
          refine WL.nil ?_
          have H := H.keep [0] [ownI (α := Int) v7 3 t2] rfl (by decide)
          have hq : t2 = s2 := Option.some.inj (show some t2 = some s2 from hm3)
          subst hq
          exact ⟨v7, rfl, rfl, rfl, rfl, H⟩
      · skip
        rintro f w ⟨v5, hf3, hf6, hf7, hf8, H⟩
        obtain ⟨u3, rfl⟩ : ∃ u3, f = (upd (upd (upd (upd u3 3 v5) 6 va0) 7 (.int .i64 ((a0.length : Nat) : Int))) 8 (.int .i64 (ik1 : Int))) := ⟨f, by rw [upd_self hf3, upd_self hf6, upd_self hf7, upd_self hf8]⟩
        refine W.region ?_
        refine O.add rfl rfl rfl rfl hinck1 ?_
        refine O.move (v := .int .i64 ((ik1 : Int) + 1)) rfl rfl rfl ?_
        refine WL.nil ?_
        obtain rfl := Option.some.inj hm2
        exact ⟨_, rfl, _, v5, rfl, drop_next hdropk1, rfl, rfl, rfl, rfl, H⟩
    · skip
      rintro ik1 _ f w ⟨z2, v2, rfl, hdropk1, hf8, hf7, hf3, hf6, H⟩ hfin
      have hltk1 := drop_end hdropk1
      obtain ⟨u4, rfl⟩ : ∃ u4, f = (upd (upd (upd (upd u4 8 (.int .i64 (ik1 : Int))) 7 (.int .i64 ((a0.length : Nat) : Int))) 3 v2) 6 va0) := ⟨f, by rw [upd_self hf8, upd_self hf7, upd_self hf3, upd_self hf6]⟩
      refine W.seq ?_
      refine W.region ?_
      refine O.lss rfl rfl rfl rfl ?_
      refine WL.nil ?_
      refine W.seq ?_
      refine W.cond_false (congrArg Value.bool (decide_eq_false hltk1)) ?_
      refine W.exit ?_
      have hq : z2 = s1 := hfin
      subst hq
      refine xT rfl ?_
      exact ⟨v2, rfl, H⟩
  · skip
    rintro f w ⟨v4, hf3, H⟩
    obtain ⟨u5, rfl⟩ : ∃ u5, f = (upd u5 3 v4) := ⟨f, by rw [upd_self hf3]⟩
    refine W.seq ?_
    refine W.region ?_
    refine O.move (v := v4) rfl rfl rfl ?_
    refine O.assign (v := v4) rfl rfl rfl ?_
    refine WL.nil ?_
    refine W.ret ?_
    have hq : s1 = r0 := Option.some.inj (show some s1 = some r0 from hm)
    subst hq
    exact ends1 Try.results35 rfl ⟨_, rfl, H.base, H.ownR 0 rfl⟩

theorem c_noongunref07_Means {w0 : World} (va0 : Value) (a0 : (List Int)) (ha0 : SliceR w0 va0 a0) {r0 : (List Int)} {r1 : Int} (hm : noongunref07_Means a0 = some (r0, r1)) :
    Calls Try.prog 11 #[va0] w0 (Ret w0 fun w v => ∃ vr0 : Value, v = .tuple #[vr0, (.int .i64 r1)] ∧ OwnR w0 w vr0 3 r0) := by
  unfold noongunref07_Means at hm
  refine calls_of_W Try.func11 rfl Try.ntmps11 (Nat.le_of_ble_eq_true rfl) ?_
  have H := Inv.start (w := w0)
  refine W.seq ?_
  refine W.region ?_
  have H := H.addNil (α := Int) (E := 3)
  refine O.assign (v := (.slice none 0 0)) rfl rfl rfl ?_
  refine O.assign (v := (.int .i64 0)) rfl rfl rfl ?_
  refine WL.nil ?_
  refine W.seq ?_
  refine W.seq ?_
  refine W.region ?_
  refine O.move (v := va0) rfl rfl rfl ?_
  obtain ⟨t1, hy1, hm⟩ := bind_some hm
  refine O.call Try.call17 rfl rfl rfl (c_noongunref07_ValidHoist _ _ (H.arg ha0) hy1) ?_
  rintro _ w1 hb1 rfl
  have H := H.ext hb1
  refine O.not rfl rfl rfl ?_
  refine WL.nil ?_
  rcases ite_some hm with ⟨hc1, hm⟩ | ⟨hc1, hm⟩
  · refine W.cond_true (congrArg Value.bool hc1) ?_
    refine W.seq ?_
    refine W.region ?_
    have H := H.addNil (α := Int) (E := 3)
    refine O.assign (v := (.slice none 0 0)) rfl rfl rfl ?_
    refine O.assign (v := (.int .i64 1)) rfl rfl rfl ?_
    refine WL.nil ?_
    refine W.ret ?_
    have hq : (([] : List Int), 1) = (r0, r1) := Option.some.inj (show some (([] : List Int), 1) = some (r0, r1) from hm)
    obtain ⟨he0, hq0⟩ := Prod.mk.inj hq; clear hq; subst he0
    subst hq0
    exact ends2 Try.results11 rfl rfl ⟨_, rfl, H.base, ⟨_, rfl, H.ownR 1 rfl⟩⟩
  · refine W.cond_false (congrArg Value.bool hc1) ?_
    refine W.skip ?_
    refine W.seq ?_
    refine W.region ?_
    refine O.move (v := va0) rfl rfl rfl ?_
    obtain ⟨t2, hy2, hm⟩ := bind_some hm
    refine O.call Try.call35 rfl rfl rfl (c_noongunref07_means _ _ (H.arg ha0) hy2) ?_
    rintro v1 w2 hb2 ho1
    have H := H.addOwn hb2 ho1
    refine O.assign (v := v1) rfl rfl rfl ?_
    refine O.assign (v := (.int .i64 0)) rfl rfl rfl ?_
    refine WL.nil ?_
    refine W.ret ?_
    have hq : (t2, 0) = (r0, r1) := Option.some.inj (show some (t2, 0) = some (r0, r1) from hm)
    obtain ⟨he0, hq0⟩ := Prod.mk.inj hq; clear hq; subst he0
    subst hq0
    exact ends2 Try.results11 rfl rfl ⟨_, rfl, H.base, ⟨_, rfl, H.ownR 1 rfl⟩⟩

theorem c_flag_Flags {w0 : World} (va0 : Value) (a0 : (List Int)) (ha0 : SliceR w0 va0 a0) {r0 : Int} {r1 : Int} (hm : flag_Flags a0 = some (r0, r1)) :
    Calls Try.prog 12 #[va0] w0 (Ret w0 fun _ v => v = .tuple #[(.int .i64 r0), (.int .i64 r1)]) := by
  unfold flag_Flags at hm
  refine calls_of_W Try.func12 rfl Try.ntmps12 (Nat.le_of_ble_eq_true rfl) ?_
  have H := Inv.start (w := w0)
  refine W.seq ?_
  refine W.region ?_
  refine O.assign (v := (.int .i64 0)) rfl rfl rfl ?_
  refine O.assign (v := (.int .i64 0)) rfl rfl rfl ?_
  refine WL.nil ?_
  refine W.seq ?_
  refine W.seq ?_
  refine W.region ?_
  refine O.move (v := va0) rfl rfl rfl ?_
  obtain ⟨t1, hy1, hm⟩ := bind_some hm
  refine O.call Try.call16 rfl rfl rfl (c_flag_ValidHoist _ _ (H.arg ha0) hy1) ?_
  rintro _ w1 hb1 rfl
  have H := H.ext hb1
  refine O.not rfl rfl rfl ?_
  refine WL.nil ?_
  rcases ite_some hm with ⟨hc1, hm⟩ | ⟨hc1, hm⟩
  · refine W.cond_true (congrArg Value.bool hc1) ?_
    refine W.seq ?_
    refine W.region ?_
    refine O.assign (v := (.int .i64 0)) rfl rfl rfl ?_
    refine O.assign (v := (.int .i64 1)) rfl rfl rfl ?_
    refine WL.nil ?_
    refine W.ret ?_
    have hq : (0, 1) = (r0, r1) := Option.some.inj (show some (0, 1) = some (r0, r1) from hm)
    obtain ⟨he0, hq0⟩ := Prod.mk.inj hq; clear hq; subst he0
    subst hq0
    exact ends2 Try.results12 rfl rfl ⟨_, rfl, H.base, rfl⟩
  · refine W.cond_false (congrArg Value.bool hc1) ?_
    refine W.skip ?_
    refine W.seq ?_
    refine W.region ?_
    refine O.assign (v := (.int .i64 0)) rfl rfl rfl ?_
    refine WL.nil ?_
    refine W.seq ?_
    refine W.seq ?_
    refine W.region ?_
    refine O.move (v := va0) rfl rfl rfl ?_
    refine O.lenS Try.underlying22 (H.arg ha0) rfl rfl rfl ?_
    refine O.move (v := (.int .i64 0)) rfl rfl rfl ?_
    refine WL.nil ?_
    obtain ⟨s1, hm1, hm⟩ := bind_some hm
    refine W.via (fun f w => f 4 = (.int .i64 s1) ∧ Inv w0 w []) ?_ ?_
    · skip
      refine W.block ?_
      refine W.rangeL (i := 0) hm1 (fun rem ik1 s f w => ∃ z2 : Int, z2 = s ∧ a0.drop ik1 = rem ∧ f 12 = .int .i64 (ik1 : Int) ∧ f 11 = (.int .i64 ((a0.length : Nat) : Int)) ∧ f 4 = (.int .i64 z2) ∧ f 10 = va0 ∧ Inv w0 w []) ?_ ?_ ?_
      · skip
        exact ⟨_, rfl, List.drop_zero, rfl, rfl, rfl, rfl, H⟩
      · skip
        rintro yk1 xs ik1 _ st f w ⟨z2, rfl, hdropk1, hf12, hf11, hf4, hf10, H⟩ hm2
        have hltk1 := drop_lt hdropk1; have hixk1 := drop_idx hdropk1
        obtain ⟨u1, rfl⟩ : ∃ u1, f = (upd (upd (upd (upd u1 12 (.int .i64 (ik1 : Int))) 11 (.int .i64 ((a0.length : Nat) : Int))) 4 (.int .i64 z2)) 10 va0) := ⟨f, by rw [upd_self hf12, upd_self hf11, upd_self hf4, upd_self hf10]⟩
        have hinck1 := addI_lt hltk1 (H.arg ha0).len_le
        refine W.seq ?_
        refine W.region ?_
        refine O.lss rfl rfl rfl rfl ?_
        refine WL.nil ?_
        refine W.seq ?_
        refine W.cond_true (congrArg Value.bool (decide_eq_true hltk1)) ?_
        refine W.skip ?_
        refine W.seq ?_
        refine W.block ?_
        refine W.seq ?_
        refine W.region ?_
        obtain ⟨p1, hp1, hrp1⟩ := fix_indexAddr Try.underlying22 sz3 ha0 hixk1
        refine hrp1 rfl rfl rfl rfl ?_
        refine O.load sc3 rfl rfl rfl ((hp1.mono H.base).flat 0 _ rfl) ?_
        refine O.assign (v := (.int .i64 yk1)) rfl rfl rfl ?_
        refine WL.nil ?_
        refine W.region ?_
        refine O.move (v := (.int .i64 z2)) rfl rfl rfl ?_
        refine O.move (v := (.int .i64 yk1)) rfl rfl rfl ?_
        obtain ⟨t2, ht2, hm2⟩ := bind_some hm2
        refine O.shl rfl rfl rfl rfl ht2 ?_
        refine O.or rfl rfl rfl rfl ?_
        refine O.assign (v := (.int .i64 (bits .or .i64 z2 t2))) rfl rfl rfl ?_
        refine WL.nil ?_
        refine W.region ?_
        refine O.add rfl rfl rfl rfl hinck1 ?_
        refine O.move (v := .int .i64 ((ik1 : Int) + 1)) rfl rfl rfl ?_
        refine WL.nil ?_
        obtain rfl := Option.some.inj hm2
        exact ⟨_, rfl, _, rfl, drop_next hdropk1, rfl, rfl, rfl, rfl, H⟩
      · skip
        rintro ik1 _ f w ⟨z2, rfl, hdropk1, hf12, hf11, hf4, hf10, H⟩ hfin
        have hltk1 := drop_end hdropk1
        obtain ⟨u2, rfl⟩ : ∃ u2, f = (upd (upd (upd (upd u2 12 (.int .i64 (ik1 : Int))) 11 (.int .i64 ((a0.length : Nat) : Int))) 4 (.int .i64 z2)) 10 va0) := ⟨f, by rw [upd_self hf12, upd_self hf11, upd_self hf4, upd_self hf10]⟩
        refine W.seq ?_
        refine W.region ?_
        refine O.lss rfl rfl rfl rfl ?_
        refine WL.nil ?_
        refine W.seq ?_
        refine W.cond_false (congrArg Value.bool (decide_eq_false hltk1)) ?_
        refine W.exit ?_
        have hq : z2 = s1 := hfin
        subst hq
        refine xT rfl ?_
        exact ⟨rfl, H⟩
    · skip
      rintro f w ⟨hf4, H⟩
      obtain ⟨u3, rfl⟩ : ∃ u3, f = (upd u3 4 (.int .i64 s1)) := ⟨f, by rw [upd_self hf4]⟩
      refine W.seq ?_
      refine W.region ?_
      refine O.move (v := (.int .i64 s1)) rfl rfl rfl ?_
      refine O.assign (v := (.int .i64 s1)) rfl rfl rfl ?_
      refine O.assign (v := (.int .i64 0)) rfl rfl rfl ?_
      refine WL.nil ?_
      refine W.ret ?_
      have hq : (s1, 0) = (r0, r1) := Option.some.inj (show some (s1, 0) = some (r0, r1) from hm)
      obtain ⟨he0, hq0⟩ := Prod.mk.inj hq; clear hq; subst he0
      subst hq0
      exact ends2 Try.results12 rfl rfl ⟨_, rfl, H.base, rfl⟩

theorem c_noongunref07_Flags {w0 : World} (va0 : Value) (a0 : (List Int)) (ha0 : SliceR w0 va0 a0) {r0 : Int} {r1 : Int} (hm : noongunref07_Flags a0 = some (r0, r1)) :
    Calls Try.prog 13 #[va0] w0 (Ret w0 fun _ v => v = .tuple #[(.int .i64 r0), (.int .i64 r1)]) := by
  unfold noongunref07_Flags at hm
  refine calls_of_W Try.func13 rfl Try.ntmps13 (Nat.le_of_ble_eq_true rfl) ?_
  have H := Inv.start (w := w0)
  refine W.seq ?_
  refine W.region ?_
  refine O.assign (v := (.int .i64 0)) rfl rfl rfl ?_
  refine O.assign (v := (.int .i64 0)) rfl rfl rfl ?_
  refine WL.nil ?_
  refine W.seq ?_
  refine W.seq ?_
  refine W.region ?_
  refine O.move (v := va0) rfl rfl rfl ?_
  obtain ⟨t1, hy1, hm⟩ := bind_some hm
  refine O.call Try.call17 rfl rfl rfl (c_noongunref07_ValidHoist _ _ (H.arg ha0) hy1) ?_
  rintro _ w1 hb1 rfl
  have H := H.ext hb1
  refine O.not rfl rfl rfl ?_
  refine WL.nil ?_
  rcases ite_some hm with ⟨hc1, hm⟩ | ⟨hc1, hm⟩
  · refine W.cond_true (congrArg Value.bool hc1) ?_
    refine W.seq ?_
    refine W.region ?_
    refine O.assign (v := (.int .i64 0)) rfl rfl rfl ?_
    refine O.assign (v := (.int .i64 1)) rfl rfl rfl ?_
    refine WL.nil ?_
    refine W.ret ?_
    have hq : (0, 1) = (r0, r1) := Option.some.inj (show some (0, 1) = some (r0, r1) from hm)
    obtain ⟨he0, hq0⟩ := Prod.mk.inj hq; clear hq; subst he0
    subst hq0
    exact ends2 Try.results13 rfl rfl ⟨_, rfl, H.base, rfl⟩
  · refine W.cond_false (congrArg Value.bool hc1) ?_
    refine W.skip ?_
    refine W.seq ?_
    refine W.region ?_
    refine O.assign (v := (.int .i64 0)) rfl rfl rfl ?_
    refine WL.nil ?_
    refine W.seq ?_
    refine W.seq ?_
    refine W.region ?_
    refine O.move (v := va0) rfl rfl rfl ?_
    refine O.lenS Try.underlying22 (H.arg ha0) rfl rfl rfl ?_
    refine O.move (v := (.int .i64 0)) rfl rfl rfl ?_
    refine WL.nil ?_
    obtain ⟨s1, hm1, hm⟩ := bind_some hm
    refine W.via (fun f w => f 4 = (.int .i64 s1) ∧ Inv w0 w []) ?_ ?_
    · skip
      refine W.block ?_
      refine W.rangeL (i := 0) hm1 (fun rem ik1 s f w => ∃ z2 : Int, z2 = s ∧ a0.drop ik1 = rem ∧ f 12 = .int .i64 (ik1 : Int) ∧ f 11 = (.int .i64 ((a0.length : Nat) : Int)) ∧ f 4 = (.int .i64 z2) ∧ f 10 = va0 ∧ Inv w0 w []) ?_ ?_ ?_
      · skip
        exact ⟨_, rfl, List.drop_zero, rfl, rfl, rfl, rfl, H⟩
      · skip
        rintro yk1 xs ik1 _ st f w ⟨z2, rfl, hdropk1, hf12, hf11, hf4, hf10, H⟩ hm2
        have hltk1 := drop_lt hdropk1; have hixk1 := drop_idx hdropk1
        obtain ⟨u1, rfl⟩ : ∃ u1, f = (upd (upd (upd (upd u1 12 (.int .i64 (ik1 : Int))) 11 (.int .i64 ((a0.length : Nat) : Int))) 4 (.int .i64 z2)) 10 va0) := ⟨f, by rw [upd_self hf12, upd_self hf11, upd_self hf4, upd_self hf10]⟩
        have hinck1 := addI_lt hltk1 (H.arg ha0).len_le
        refine W.seq ?_
        refine W.region ?_
        refine O.lss rfl rfl rfl rfl ?_
        refine WL.nil ?_
        refine W.seq ?_
        refine W.cond_true (congrArg Value.bool (decide_eq_true hltk1)) ?_
        refine W.skip ?_
        refine W.seq ?_
        refine W.block ?_
        refine W.seq ?_
        refine W.region ?_
        obtain ⟨p1, hp1, hrp1⟩ := fix_indexAddr Try.underlying22 sz3 ha0 hixk1
        refine hrp1 rfl rfl rfl rfl ?_
        refine O.load sc3 rfl rfl rfl ((hp1.mono H.base).flat 0 _ rfl) ?_
        refine O.assign (v := (.int .i64 yk1)) rfl rfl rfl ?_
        refine WL.nil ?_
        refine W.region ?_
        refine O.move (v := (.int .i64 z2)) rfl rfl rfl ?_
        refine O.move (v := (.int .i64 yk1)) rfl rfl rfl ?_
        obtain ⟨t2, ht2, hm2⟩ := bind_some hm2
        refine O.shl rfl rfl rfl rfl ht2 ?_
        refine O.or rfl rfl rfl rfl ?_
        refine O.assign (v := (.int .i64 (bits .or .i64 z2 t2))) rfl rfl rfl ?_
        refine WL.nil ?_
        refine W.region ?_
        refine O.add rfl rfl rfl rfl hinck1 ?_
        refine O.move (v := .int .i64 ((ik1 : Int) + 1)) rfl rfl rfl ?_
        refine WL.nil ?_
        obtain rfl := Option.some.inj hm2
        exact ⟨_, rfl, _, rfl, drop_next hdropk1, rfl, rfl, rfl, rfl, H⟩
      · skip
        rintro ik1 _ f w ⟨z2, rfl, hdropk1, hf12, hf11, hf4, hf10, H⟩ hfin
        have hltk1 := drop_end hdropk1
        obtain ⟨u2, rfl⟩ : ∃ u2, f = (upd (upd (upd (upd u2 12 (.int .i64 (ik1 : Int))) 11 (.int .i64 ((a0.length : Nat) : Int))) 4 (.int .i64 z2)) 10 va0) := ⟨f, by rw [upd_self hf12, upd_self hf11, upd_self hf4, upd_self hf10]⟩
        refine W.seq ?_
        refine W.region ?_
        refine O.lss rfl rfl rfl rfl ?_
        refine WL.nil ?_
        refine W.seq ?_
        refine W.cond_false (congrArg Value.bool (decide_eq_false hltk1)) ?_
        refine W.exit ?_
        have hq : z2 = s1 := hfin
        subst hq
        refine xT rfl ?_
        exact ⟨rfl, H⟩
    · skip
      rintro f w ⟨hf4, H⟩
      obtain ⟨u3, rfl⟩ : ∃ u3, f = (upd u3 4 (.int .i64 s1)) := ⟨f, by rw [upd_self hf4]⟩
      refine W.seq ?_
      refine W.region ?_
      refine O.move (v := (.int .i64 s1)) rfl rfl rfl ?_
      refine O.assign (v := (.int .i64 s1)) rfl rfl rfl ?_
      refine O.assign (v := (.int .i64 0)) rfl rfl rfl ?_
      refine WL.nil ?_
      refine W.ret ?_
      have hq : (s1, 0) = (r0, r1) := Option.some.inj (show some (s1, 0) = some (r0, r1) from hm)
      obtain ⟨he0, hq0⟩ := Prod.mk.inj hq; clear hq; subst he0
      subst hq0
      exact ends2 Try.results13 rfl rfl ⟨_, rfl, H.base, rfl⟩

set_option maxRecDepth 20000 in
theorem c_noongunref07_ValidDigits {w0 : World} (va0 : Value) (a0 : (List Int)) (ha0 : SliceR w0 va0 a0) {r0 : Bool} (hm : noongunref07_ValidDigits a0 = some r0) :
    Calls Try.prog 15 #[va0] w0 (Ret w0 fun _ v => v = (.bool r0)) := by
  unfold noongunref07_ValidDigits at hm
  refine calls_of_W Try.func15 rfl Try.ntmps15 (Nat.le_of_ble_eq_true rfl) ?_
  have H := Inv.start (w := w0)
  refine W.seq ?_
  refine W.region ?_
  refine O.assign (v := (.bool false)) rfl rfl rfl ?_
  refine WL.nil ?_
  refine W.seq ?_
  refine W.seq ?_
  refine W.region ?_
  refine O.move (v := va0) rfl rfl rfl ?_
  refine O.lenS Try.underlying22 (H.arg ha0) rfl rfl rfl ?_
  refine O.move (v := (.int .i64 0)) rfl rfl rfl ?_
  refine WL.nil ?_
  obtain ⟨o1, hm1, hm⟩ := bind_some hm
  refine W.via (fun f w => o1 = .next () ∧ f 0 = va0 ∧ Inv w0 w []) ?_ ?_
  · skip
    refine W.block ?_
    refine W.rangeL (i := 0) hm1 (fun rem ik1 s f w => () = s ∧ a0.drop ik1 = rem ∧ f 7 = .int .i64 (ik1 : Int) ∧ f 6 = (.int .i64 ((a0.length : Nat) : Int)) ∧ f 0 = va0 ∧ f 5 = va0 ∧ Inv w0 w []) ?_ ?_ ?_
    · skip
      exact ⟨rfl, List.drop_zero, rfl, rfl, rfl, rfl, H⟩
    · skip
      rintro yk1 xs ik1 _ st f w ⟨rfl, hdropk1, hf7, hf6, hf0, hf5, H⟩ hm2
      have hltk1 := drop_lt hdropk1; have hixk1 := drop_idx hdropk1
      obtain ⟨u1, rfl⟩ : ∃ u1, f = (upd (upd (upd (upd u1 7 (.int .i64 (ik1 : Int))) 6 (.int .i64 ((a0.length : Nat) : Int))) 0 va0) 5 va0) := ⟨f, by rw [upd_self hf7, upd_self hf6, upd_self hf0, upd_self hf5]⟩
      have hinck1 := addI_lt hltk1 (H.arg ha0).len_le
      refine W.seq ?_
      refine W.region ?_
      refine O.lss rfl rfl rfl rfl ?_
      refine WL.nil ?_
      refine W.seq ?_
      refine W.cond_true (congrArg Value.bool (decide_eq_true hltk1)) ?_
      refine W.skip ?_
      refine W.seq ?_
      refine W.block ?_
      refine W.seq ?_
      refine W.region ?_
      obtain ⟨p1, hp1, hrp1⟩ := fix_indexAddr Try.underlying22 sz3 ha0 hixk1
      refine hrp1 rfl rfl rfl rfl ?_
      refine O.load sc3 rfl rfl rfl ((hp1.mono H.base).flat 0 _ rfl) ?_
      refine O.assign (v := (.int .i64 yk1)) rfl rfl rfl ?_
      refine WL.nil ?_
      refine W.seq ?_
      refine W.region ?_
      refine O.move (v := (.int .i64 yk1)) rfl rfl rfl ?_
      refine O.lss rfl rfl rfl rfl ?_
      refine O.move (v := (.bool (decide (yk1 < 0)))) rfl rfl rfl ?_
      refine WL.cut 3 (fun f w => f 0 = va0 ∧ f 5 = va0 ∧ f 6 = (.int .i64 ((a0.length : Nat) : Int)) ∧ f 7 = (.int .i64 (ik1 : Int)) ∧ f 16 = .bool ((decide (yk1 < 0)) || (decide (9 < yk1))) ∧ Inv w0 w []) ?_ ?_
      · skip
        rcases bool_ft (decide (yk1 < 0)) with hc1 | hc1
        · skip
          refine WL.reset (i := 13) (v := .bool false) (congrArg Value.bool hc1) ?_
          refine O.move (v := (.int .i64 yk1)) rfl rfl rfl ?_
          refine O.gtr rfl rfl rfl rfl ?_
          refine O.pick_false (v := (.bool (decide (9 < yk1)))) rfl rfl rfl rfl ?_
          refine WL.nil ?_
          exact ⟨rfl, rfl, rfl, rfl, congrArg Value.bool (or_f hc1), H⟩
        · skip
          refine WL.reset (i := 13) (v := .bool true) (congrArg Value.bool hc1) ?_
          refine O.skip rfl rfl ?_
          refine O.skip rfl rfl ?_
          refine O.pick_true (v := (.bool true)) rfl rfl rfl rfl ?_
          refine WL.nil ?_
          exact ⟨rfl, rfl, rfl, rfl, congrArg Value.bool (or_t hc1), H⟩
      · skip
        rintro f w ⟨hf0, hf5, hf6, hf7, hf16, H⟩
        obtain ⟨u2, rfl⟩ : ∃ u2, f = (upd (upd (upd (upd (upd u2 0 va0) 5 va0) 6 (.int .i64 ((a0.length : Nat) : Int))) 7 (.int .i64 (ik1 : Int))) 16 (.bool ((decide (yk1 < 0)) || (decide (9 < yk1))))) := ⟨f, by rw [upd_self hf0, upd_self hf5, upd_self hf6, upd_self hf7, upd_self hf16]⟩
        refine WL.nil ?_
        rcases ite_some hm2 with ⟨hc2, hm2⟩ | ⟨hc2, hm2⟩
        · refine W.cond_true (congrArg Value.bool hc2) ?_
          refine W.seq ?_
          refine W.region ?_
          refine O.assign (v := (.bool false)) rfl rfl rfl ?_
          refine WL.nil ?_
          refine W.ret ?_
          obtain rfl := Option.some.inj hm2
          refine ⟨_, rfl, ?_⟩
          rintro rfl
          have hq : false = r0 := Option.some.inj (show some false = some r0 from hm)
          subst hq
          exact ends1 Try.results15 rfl ⟨_, rfl, H.base, rfl⟩
        · refine W.cond_false (congrArg Value.bool hc2) ?_
          refine W.skip ?_
          refine W.region ?_
          refine O.add rfl rfl rfl rfl hinck1 ?_
          refine O.move (v := .int .i64 ((ik1 : Int) + 1)) rfl rfl rfl ?_
          refine WL.nil ?_
          obtain rfl := Option.some.inj hm2
          exact ⟨_, rfl, rfl, drop_next hdropk1, rfl, rfl, rfl, rfl, H⟩
    · skip
      rintro ik1 _ f w ⟨rfl, hdropk1, hf7, hf6, hf0, hf5, H⟩ hfin
      have hltk1 := drop_end hdropk1
      obtain ⟨u3, rfl⟩ : ∃ u3, f = (upd (upd (upd (upd u3 7 (.int .i64 (ik1 : Int))) 6 (.int .i64 ((a0.length : Nat) : Int))) 0 va0) 5 va0) := ⟨f, by rw [upd_self hf7, upd_self hf6, upd_self hf0, upd_self hf5]⟩
      refine W.seq ?_
      refine W.region ?_
      refine O.lss rfl rfl rfl rfl ?_
      refine WL.nil ?_
      refine W.seq ?_
      refine W.cond_false (congrArg Value.bool (decide_eq_false hltk1)) ?_
      refine W.exit ?_
      obtain rfl : Ctl.next () = o1 := hfin
      refine xT rfl ?_
      exact ⟨rfl, rfl, H⟩
  · skip
    rintro f w ⟨rfl, hf0, H⟩
    obtain ⟨u4, rfl⟩ : ∃ u4, f = (upd u4 0 va0) := ⟨f, by rw [upd_self hf0]⟩
    refine W.seq ?_
    refine W.region ?_
    refine O.move (v := va0) rfl rfl rfl ?_
    refine O.lenS Try.underlying22 (H.arg ha0) rfl rfl rfl ?_
    refine O.geq rfl rfl rfl rfl ?_
    refine O.move (v := (.bool (decide (1 ≤ ((a0.length : Nat) : Int))))) rfl rfl rfl ?_
    refine WL.cut 4 (fun f w => f 25 = .bool ((decide (1 ≤ ((a0.length : Nat) : Int))) && (decide (((a0.length : Nat) : Int) ≤ 4))) ∧ Inv w0 w []) ?_ ?_
    · skip
      rcases bool_ft (decide (1 ≤ ((a0.length : Nat) : Int))) with hc3 | hc3
      · skip
        refine WL.reset (i := 21) (v := .bool false) (congrArg Value.bool hc3) ?_
        refine O.skip rfl rfl ?_
        refine O.skip rfl rfl ?_
        refine O.skip rfl rfl ?_
        refine O.pick_false (v := (.bool false)) rfl rfl rfl rfl ?_
        refine WL.nil ?_
        exact ⟨congrArg Value.bool (and_f hc3), H⟩
      · skip
        refine WL.reset (i := 21) (v := .bool true) (congrArg Value.bool hc3) ?_
        refine O.move (v := va0) rfl rfl rfl ?_
        refine O.lenS Try.underlying22 (H.arg ha0) rfl rfl rfl ?_
        refine O.leq rfl rfl rfl rfl ?_
        refine O.pick_true (v := (.bool (decide (((a0.length : Nat) : Int) ≤ 4)))) rfl rfl rfl rfl ?_
        refine WL.nil ?_
        exact ⟨congrArg Value.bool (and_t hc3), H⟩
    · skip
      rintro f w ⟨hf25, H⟩
      obtain ⟨u5, rfl⟩ : ∃ u5, f = (upd u5 25 (.bool ((decide (1 ≤ ((a0.length : Nat) : Int))) && (decide (((a0.length : Nat) : Int) ≤ 4))))) := ⟨f, by rw [upd_self hf25]⟩
      refine O.assign (v := (.bool ((decide (1 ≤ ((a0.length : Nat) : Int))) && (decide (((a0.length : Nat) : Int) ≤ 4))))) rfl rfl rfl ?_
      refine WL.nil ?_
      refine W.ret ?_
      have hq : ((decide (1 ≤ ((a0.length : Nat) : Int))) && (decide (((a0.length : Nat) : Int) ≤ 4))) = r0 := Option.some.inj (show some ((decide (1 ≤ ((a0.length : Nat) : Int))) && (decide (((a0.length : Nat) : Int) ≤ 4))) = some r0 from hm)
      subst hq
      exact ends1 Try.results15 rfl ⟨_, rfl, H.base, rfl⟩

set_option maxRecDepth 20000 in
theorem c_noongunlaw07_FlagMeans {w0 : World} (va0 : Value) (a0 : (List Int)) (ha0 : SliceR w0 va0 a0) (va1 : Value) (a1 : (List Int)) (ha1 : SliceR w0 va1 a1) {r0 : Bool} (hm : noongunlaw07_FlagMeans a0 a1 = some r0) :
    Calls Try.prog 3 #[va0, va1] w0 (Ret w0 fun _ v => v = (.bool r0)) := by
  unfold noongunlaw07_FlagMeans at hm
  refine calls_of_W Try.func3 rfl Try.ntmps3 (Nat.le_of_ble_eq_true rfl) ?_
  have H := Inv.start (w := w0)
  refine W.seq ?_
  refine W.region ?_
  refine O.assign (v := (.bool false)) rfl rfl rfl ?_
  refine WL.nil ?_
  refine W.seq ?_
  refine W.seq ?_
  refine W.region ?_
  refine O.move (v := va0) rfl rfl rfl ?_
  refine O.lenS Try.underlying22 (H.arg ha0) rfl rfl rfl ?_
  refine O.gtr rfl rfl rfl rfl ?_
  refine O.move (v := (.bool (decide (100 < ((a0.length : Nat) : Int))))) rfl rfl rfl ?_
  refine WL.cut 4 (fun f w => f 0 = va0 ∧ f 1 = va1 ∧ f 20 = .bool ((decide (100 < ((a0.length : Nat) : Int))) || (decide (100 < ((a1.length : Nat) : Int)))) ∧ Inv w0 w []) ?_ ?_
  · skip
    rcases bool_ft (decide (100 < ((a0.length : Nat) : Int))) with hc1 | hc1
    · skip
      refine WL.reset (i := 16) (v := .bool false) (congrArg Value.bool hc1) ?_
      refine O.move (v := va1) rfl rfl rfl ?_
      refine O.lenS Try.underlying22 (H.arg ha1) rfl rfl rfl ?_
      refine O.gtr rfl rfl rfl rfl ?_
      refine O.pick_false (v := (.bool (decide (100 < ((a1.length : Nat) : Int))))) rfl rfl rfl rfl ?_
      refine WL.nil ?_
      exact ⟨rfl, rfl, congrArg Value.bool (or_f hc1), H⟩
    · skip
      refine WL.reset (i := 16) (v := .bool true) (congrArg Value.bool hc1) ?_
      refine O.skip rfl rfl ?_
      refine O.skip rfl rfl ?_
      refine O.skip rfl rfl ?_
      refine O.pick_true (v := (.bool true)) rfl rfl rfl rfl ?_
      refine WL.nil ?_
      exact ⟨rfl, rfl, congrArg Value.bool (or_t hc1), H⟩
  · skip
    rintro f w ⟨hf0, hf1, hf20, H⟩
    obtain ⟨u1, rfl⟩ : ∃ u1, f = (upd (upd (upd u1 0 va0) 1 va1) 20 (.bool ((decide (100 < ((a0.length : Nat) : Int))) || (decide (100 < ((a1.length : Nat) : Int)))))) := ⟨f, by rw [upd_self hf0, upd_self hf1, upd_self hf20]⟩
    refine WL.nil ?_
    rcases ite_some hm with ⟨hc2, hm⟩ | ⟨hc2, hm⟩
    · refine W.cond_true (congrArg Value.bool hc2) ?_
      refine W.seq ?_
      refine W.region ?_
      obtain ⟨t1, hy1, hm⟩ := bind_some hm
      refine O.call Try.call9 rfl rfl rfl (c_noongunlaw07_awake  hy1) ?_
      rintro _ w1 hb1 rfl
      have H := H.ext hb1
      refine O.assign (v := (.bool t1)) rfl rfl rfl ?_
      refine WL.nil ?_
      refine W.ret ?_
      have hq : t1 = r0 := Option.some.inj (show some t1 = some r0 from hm)
      subst hq
      exact ends1 Try.results3 rfl ⟨_, rfl, H.base, rfl⟩
    · refine W.cond_false (congrArg Value.bool hc2) ?_
      refine W.skip ?_
      refine W.seq ?_
      refine W.region ?_
      refine O.move (v := va1) rfl rfl rfl ?_
      obtain ⟨⟨t2, t3⟩, hy2, hm⟩ := bind_some hm
      refine O.call Try.call10 rfl rfl rfl (c_flag_Means _ _ (H.arg ha1) hy2) ?_
      rintro _ w2 hb2 ⟨v1, rfl, ho1⟩
      have H := H.addOwn hb2 ho1
      refine O.move (v := (.tuple #[v1, (.int .i64 t3)])) rfl rfl rfl ?_
      refine O.extract (v := v1) rfl rfl rfl rfl ?_
      refine O.extract (v := (.int .i64 t3)) rfl rfl rfl rfl ?_
      refine O.assign (v := v1) rfl rfl rfl ?_
      refine O.assign (v := (.int .i64 t3)) rfl rfl rfl ?_
      refine WL.nil ?_
      refine W.seq ?_
      refine W.region ?_
      refine O.move (v := va1) rfl rfl rfl ?_
      obtain ⟨⟨t4, t5⟩, hy3, hm⟩ := bind_some hm
      refine O.call Try.call11 rfl rfl rfl (c_noongunref07_Means _ _ (H.arg ha1) hy3) ?_
      rintro _ w3 hb3 ⟨v2, rfl, ho2⟩
      have H := H.addOwn hb3 ho2
      refine O.move (v := (.tuple #[v2, (.int .i64 t5)])) rfl rfl rfl ?_
      refine O.extract (v := v2) rfl rfl rfl rfl ?_
      refine O.extract (v := (.int .i64 t5)) rfl rfl rfl rfl ?_
      refine O.assign (v := v2) rfl rfl rfl ?_
      refine O.assign (v := (.int .i64 t5)) rfl rfl rfl ?_
      refine WL.nil ?_
      refine W.seq ?_
      refine W.region ?_
      refine O.move (v := va1) rfl rfl rfl ?_
      obtain ⟨⟨t6, t7⟩, hy4, hm⟩ := bind_some hm
      refine O.call Try.call12 rfl rfl rfl (c_flag_Flags _ _ (H.arg ha1) hy4) ?_
      rintro _ w4 hb4 rfl
      have H := H.ext hb4
      refine O.move (v := (.tuple #[(.int .i64 t6), (.int .i64 t7)])) rfl rfl rfl ?_
      refine O.extract (v := (.int .i64 t6)) rfl rfl rfl rfl ?_
      refine O.extract (v := (.int .i64 t7)) rfl rfl rfl rfl ?_
      refine O.assign (v := (.int .i64 t6)) rfl rfl rfl ?_
      refine O.assign (v := (.int .i64 t7)) rfl rfl rfl ?_
      refine WL.nil ?_
      refine W.seq ?_
      refine W.region ?_
      refine O.move (v := va1) rfl rfl rfl ?_
      obtain ⟨⟨t8, t9⟩, hy5, hm⟩ := bind_some hm
      refine O.call Try.call13 rfl rfl rfl (c_noongunref07_Flags _ _ (H.arg ha1) hy5) ?_
      rintro _ w5 hb5 rfl
      have H := H.ext hb5
      refine O.move (v := (.tuple #[(.int .i64 t8), (.int .i64 t9)])) rfl rfl rfl ?_
      refine O.extract (v := (.int .i64 t8)) rfl rfl rfl rfl ?_
      refine O.extract (v := (.int .i64 t9)) rfl rfl rfl rfl ?_
      refine O.assign (v := (.int .i64 t8)) rfl rfl rfl ?_
      refine O.assign (v := (.int .i64 t9)) rfl rfl rfl ?_
      refine WL.nil ?_
      refine W.seq ?_
      refine W.region ?_
      refine O.move (v := va0) rfl rfl rfl ?_
      obtain ⟨t10, hy6, hm⟩ := bind_some hm
      refine O.call Try.call14 rfl rfl rfl (c_flag_ValidDigits _ _ (H.arg ha0) hy6) ?_
      rintro _ w6 hb6 rfl
      have H := H.ext hb6
      refine O.move (v := va0) rfl rfl rfl ?_
      obtain ⟨t11, hy7, hm⟩ := bind_some hm
      refine O.call Try.call15 rfl rfl rfl (c_noongunref07_ValidDigits _ _ (H.arg ha0) hy7) ?_
      rintro _ w7 hb7 rfl
      have H := H.ext hb7
      refine O.eqlB Try.underlying4 rfl rfl rfl rfl ?_
      refine O.move (v := (.bool (t10 == t11))) rfl rfl rfl ?_
      obtain ⟨b1, hm1, hm⟩ := bind_some hm
      refine WL.cut 6 (fun f w => f 5 = v1 ∧ f 6 = (.int .i64 t3) ∧ f 7 = v2 ∧ f 8 = (.int .i64 t5) ∧ f 9 = (.int .i64 t6) ∧ f 10 = (.int .i64 t7) ∧ f 11 = (.int .i64 t8) ∧ f 12 = (.int .i64 t9) ∧ f 53 = .bool b1 ∧ Inv w0 w [ownI (α := Int) v1 3 t2, ownI (α := Int) v2 3 t4]) ?_ ?_
      · skip
        rcases ite_some hm1 with ⟨hc3, hm1⟩ | ⟨hc3, hm1⟩
        · skip
          refine WL.reset (i := 47) (v := .bool true) (congrArg Value.bool hc3) ?_
          refine O.move (v := va1) rfl rfl rfl ?_
          obtain ⟨t12, hy8, hm1⟩ := bind_some hm1
          refine O.call Try.call16 rfl rfl rfl (c_flag_ValidHoist _ _ (H.arg ha1) hy8) ?_
          rintro _ w8 hb8 rfl
          have H := H.ext hb8
          refine O.move (v := va1) rfl rfl rfl ?_
          obtain ⟨t13, hy9, hm1⟩ := bind_some hm1
          refine O.call Try.call17 rfl rfl rfl (c_noongunref07_ValidHoist _ _ (H.arg ha1) hy9) ?_
          rintro _ w9 hb9 rfl
          have H := H.ext hb9
          refine O.eqlB Try.underlying4 rfl rfl rfl rfl ?_
          refine O.pick_true (v := (.bool (t12 == t13))) rfl rfl rfl rfl ?_
          refine WL.nil ?_
          have hq : (t12 == t13) = b1 := Option.some.inj (show some (t12 == t13) = some b1 from hm1)
          subst hq
          exact ⟨rfl, rfl, rfl, rfl, rfl, rfl, rfl, rfl, rfl, H⟩
        · skip
          refine WL.reset (i := 47) (v := .bool false) (congrArg Value.bool hc3) ?_
          refine O.skip rfl rfl ?_
          refine O.skip rfl rfl ?_
          refine O.skip rfl rfl ?_
          refine O.skip rfl rfl ?_
          refine O.skip rfl rfl ?_
          refine O.pick_false (v := (.bool false)) rfl rfl rfl rfl ?_
          refine WL.nil ?_
          have hq : false = b1 := Option.some.inj (show some false = some b1 from hm1)
          subst hq
          exact ⟨rfl, rfl, rfl, rfl, rfl, rfl, rfl, rfl, rfl, H⟩
      · skip
        rintro f w ⟨hf5, hf6, hf7, hf8, hf9, hf10, hf11, hf12, hf53, H⟩
        obtain ⟨u2, rfl⟩ : ∃ u2, f = (upd (upd (upd (upd (upd (upd (upd (upd (upd u2 5 v1) 6 (.int .i64 t3)) 7 v2) 8 (.int .i64 t5)) 9 (.int .i64 t6)) 10 (.int .i64 t7)) 11 (.int .i64 t8)) 12 (.int .i64 t9)) 53 (.bool b1)) := ⟨f, by rw [upd_self hf5, upd_self hf6, upd_self hf7, upd_self hf8, upd_self hf9, upd_self hf10, upd_self hf11, upd_self hf12, upd_self hf53]⟩
        refine O.move (v := (.bool b1)) rfl rfl rfl ?_
        obtain ⟨b2, hm2, hm⟩ := bind_some hm
        refine WL.cut 4 (fun f w => f 6 = (.int .i64 t3) ∧ f 8 = (.int .i64 t5) ∧ f 9 = (.int .i64 t6) ∧ f 10 = (.int .i64 t7) ∧ f 11 = (.int .i64 t8) ∧ f 12 = (.int .i64 t9) ∧ f 58 = .bool b2 ∧ Inv w0 w [ownI (α := Int) v1 3 t2, ownI (α := Int) v2 3 t4]) ?_ ?_
        · skip
          rcases ite_some hm2 with ⟨hc4, hm2⟩ | ⟨hc4, hm2⟩
          · skip
            refine WL.reset (i := 54) (v := .bool true) (congrArg Value.bool hc4) ?_
            refine O.move (v := v1) rfl rfl rfl ?_
            refine O.move (v := v2) rfl rfl rfl ?_
            obtain ⟨t14, hy10, hm2⟩ := bind_some hm2
            refine O.call Try.call18 rfl rfl rfl (c_noongunref07_SameInts _ _ (H.own 0 rfl) _ _ (H.own 1 rfl) hy10) ?_
            rintro _ w10 hb10 rfl
            have H := H.ext hb10
            refine O.pick_true (v := (.bool t14)) rfl rfl rfl rfl ?_
            refine WL.nil ?_
            have hq : t14 = b2 := Option.some.inj (show some t14 = some b2 from hm2)
            subst hq
            exact ⟨rfl, rfl, rfl, rfl, rfl, rfl, rfl, H⟩
          · skip
            refine WL.reset (i := 54) (v := .bool false) (congrArg Value.bool hc4) ?_
            refine O.skip rfl rfl ?_
            refine O.skip rfl rfl ?_
            refine O.skip rfl rfl ?_
            refine O.pick_false (v := (.bool false)) rfl rfl rfl rfl ?_
            refine WL.nil ?_
            have hq : false = b2 := Option.some.inj (show some false = some b2 from hm2)
            subst hq
            exact ⟨rfl, rfl, rfl, rfl, rfl, rfl, rfl, H⟩
        · skip
          rintro f w ⟨hf6, hf8, hf9, hf10, hf11, hf12, hf58, H⟩
          obtain ⟨u3, rfl⟩ : ∃ u3, f = (upd (upd (upd (upd (upd (upd (upd u3 6 (.int .i64 t3)) 8 (.int .i64 t5)) 9 (.int .i64 t6)) 10 (.int .i64 t7)) 11 (.int .i64 t8)) 12 (.int .i64 t9)) 58 (.bool b2)) := ⟨f, by rw [upd_self hf6, upd_self hf8, upd_self hf9, upd_self hf10, upd_self hf11, upd_self hf12, upd_self hf58]⟩
          refine O.move (v := (.bool b2)) rfl rfl rfl ?_
          refine WL.cut 4 (fun f w => f 9 = (.int .i64 t6) ∧ f 10 = (.int .i64 t7) ∧ f 11 = (.int .i64 t8) ∧ f 12 = (.int .i64 t9) ∧ f 63 = .bool (b2 && (t3 == t5)) ∧ Inv w0 w [ownI (α := Int) v1 3 t2, ownI (α := Int) v2 3 t4]) ?_ ?_
          · skip
            rcases bool_ft b2 with hc5 | hc5
            · skip
              refine WL.reset (i := 59) (v := .bool false) (congrArg Value.bool hc5) ?_
              refine O.skip rfl rfl ?_
              refine O.skip rfl rfl ?_
              refine O.skip rfl rfl ?_
              refine O.pick_false (v := (.bool false)) rfl rfl rfl rfl ?_
              refine WL.nil ?_
              exact ⟨rfl, rfl, rfl, rfl, congrArg Value.bool (and_f hc5), H⟩
            · skip
              refine WL.reset (i := 59) (v := .bool true) (congrArg Value.bool hc5) ?_
              refine O.move (v := (.int .i64 t3)) rfl rfl rfl ?_
              refine O.move (v := (.int .i64 t5)) rfl rfl rfl ?_
              refine O.eql rfl rfl rfl rfl ?_
              refine O.pick_true (v := (.bool (t3 == t5))) rfl rfl rfl rfl ?_
              refine WL.nil ?_
              exact ⟨rfl, rfl, rfl, rfl, congrArg Value.bool (and_t hc5), H⟩
          · skip
            rintro f w ⟨hf9, hf10, hf11, hf12, hf63, H⟩
            obtain ⟨u4, rfl⟩ : ∃ u4, f = (upd (upd (upd (upd (upd u4 9 (.int .i64 t6)) 10 (.int .i64 t7)) 11 (.int .i64 t8)) 12 (.int .i64 t9)) 63 (.bool (b2 && (t3 == t5)))) := ⟨f, by rw [upd_self hf9, upd_self hf10, upd_self hf11, upd_self hf12, upd_self hf63]⟩
            refine O.move (v := (.bool (b2 && (t3 == t5)))) rfl rfl rfl ?_
            refine WL.cut 4 (fun f w => f 10 = (.int .i64 t7) ∧ f 12 = (.int .i64 t9) ∧ f 68 = .bool ((b2 && (t3 == t5)) && (t6 == t8)) ∧ Inv w0 w [ownI (α := Int) v1 3 t2, ownI (α := Int) v2 3 t4]) ?_ ?_
            · skip
              rcases bool_ft (b2 && (t3 == t5)) with hc6 | hc6
              · skip
                refine WL.reset (i := 64) (v := .bool false) (congrArg Value.bool hc6) ?_
                refine O.skip rfl rfl ?_
                refine O.skip rfl rfl ?_
                refine O.skip rfl rfl ?_
                refine O.pick_false (v := (.bool false)) rfl rfl rfl rfl ?_
                refine WL.nil ?_
                exact ⟨rfl, rfl, congrArg Value.bool (and_f hc6), H⟩
              · skip
                refine WL.reset (i := 64) (v := .bool true) (congrArg Value.bool hc6) ?_
                refine O.move (v := (.int .i64 t6)) rfl rfl rfl ?_
                refine O.move (v := (.int .i64 t8)) rfl rfl rfl ?_
                refine O.eql rfl rfl rfl rfl ?_
                refine O.pick_true (v := (.bool (t6 == t8))) rfl rfl rfl rfl ?_
                refine WL.nil ?_
                exact ⟨rfl, rfl, congrArg Value.bool (and_t hc6), H⟩
            · skip
              rintro f w ⟨hf10, hf12, hf68, H⟩
              obtain ⟨u5, rfl⟩ : ∃ u5, f = (upd (upd (upd u5 10 (.int .i64 t7)) 12 (.int .i64 t9)) 68 (.bool ((b2 && (t3 == t5)) && (t6 == t8)))) := ⟨f, by rw [upd_self hf10, upd_self hf12, upd_self hf68]⟩
              refine O.move (v := (.bool ((b2 && (t3 == t5)) && (t6 == t8)))) rfl rfl rfl ?_
              refine WL.cut 4 (fun f w => f 73 = .bool (((b2 && (t3 == t5)) && (t6 == t8)) && (t7 == t9)) ∧ Inv w0 w [ownI (α := Int) v1 3 t2, ownI (α := Int) v2 3 t4]) ?_ ?_
              · skip
                rcases bool_ft ((b2 && (t3 == t5)) && (t6 == t8)) with hc7 | hc7
                · skip
                  refine WL.reset (i := 69) (v := .bool false) (congrArg Value.bool hc7) ?_
                  refine O.skip rfl rfl ?_
                  refine O.skip rfl rfl ?_
                  refine O.skip rfl rfl ?_
                  refine O.pick_false (v := (.bool false)) rfl rfl rfl rfl ?_
                  refine WL.nil ?_
                  exact ⟨congrArg Value.bool (and_f hc7), H⟩
                · skip
                  refine WL.reset (i := 69) (v := .bool true) (congrArg Value.bool hc7) ?_
                  refine O.move (v := (.int .i64 t7)) rfl rfl rfl ?_
                  refine O.move (v := (.int .i64 t9)) rfl rfl rfl ?_
                  refine O.eql rfl rfl rfl rfl ?_
                  refine O.pick_true (v := (.bool (t7 == t9))) rfl rfl rfl rfl ?_
                  refine WL.nil ?_
                  exact ⟨congrArg Value.bool (and_t hc7), H⟩
              · skip
                rintro f w ⟨hf73, H⟩
                obtain ⟨u6, rfl⟩ : ∃ u6, f = (upd u6 73 (.bool (((b2 && (t3 == t5)) && (t6 == t8)) && (t7 == t9)))) := ⟨f, by rw [upd_self hf73]⟩
                refine O.move (v := (.bool (((b2 && (t3 == t5)) && (t6 == t8)) && (t7 == t9)))) rfl rfl rfl ?_
                obtain ⟨b3, hm3, hm⟩ := bind_some hm
                refine WL.cut 2 (fun f w => f 76 = .bool b3 ∧ Inv w0 w [ownI (α := Int) v1 3 t2, ownI (α := Int) v2 3 t4]) ?_ ?_
                · skip
                  rcases ite_some hm3 with ⟨hc8, hm3⟩ | ⟨hc8, hm3⟩
                  · skip
                    refine WL.reset (i := 74) (v := .bool true) (congrArg Value.bool hc8) ?_
                    obtain ⟨t15, hy11, hm3⟩ := bind_some hm3
                    refine O.call Try.call9 rfl rfl rfl (c_noongunlaw07_awake  hy11) ?_
                    rintro _ w11 hb11 rfl
                    have H := H.ext hb11
                    refine O.pick_true (v := (.bool t15)) rfl rfl rfl rfl ?_
                    refine WL.nil ?_
                    have hq : t15 = b3 := Option.some.inj (show some t15 = some b3 from hm3)
                    subst hq
                    exact ⟨rfl, H⟩
                  · skip
                    refine WL.reset (i := 74) (v := .bool false) (congrArg Value.bool hc8) ?_
                    refine O.skip rfl rfl ?_
                    refine O.pick_false (v := (.bool false)) rfl rfl rfl rfl ?_
                    refine WL.nil ?_
                    have hq : false = b3 := Option.some.inj (show some false = some b3 from hm3)
                    subst hq
                    exact ⟨rfl, H⟩
                · skip
                  rintro f w ⟨hf76, H⟩
                  obtain ⟨u7, rfl⟩ : ∃ u7, f = (upd u7 76 (.bool b3)) := ⟨f, by rw [upd_self hf76]⟩
                  refine O.assign (v := (.bool b3)) rfl rfl rfl ?_
                  refine WL.nil ?_
                  refine W.ret ?_
                  have hq : b3 = r0 := Option.some.inj (show some b3 = some r0 from hm)
                  subst hq
                  exact ends1 Try.results3 rfl ⟨_, rfl, H.base, rfl⟩

theorem c_slices_Clone_int {w0 : World} (va0 : Value) (a0 : (List Int)) (ha0 : SliceR w0 va0 a0) {r0 : (List Int)} (hm : slices_Clone_int a0 = some r0) :
    Calls Try.prog 39 #[va0] w0 (Ret w0 fun w v => OwnR w0 w v 3 r0) := by
  unfold slices_Clone_int at hm
  refine calls_of_W Try.func39 rfl Try.ntmps39 (Nat.le_of_ble_eq_true rfl) ?_
  have H := Inv.start (w := w0)
  refine W.seq ?_
  refine W.region ?_
  have H := H.addNil (α := Int) (E := 3)
  refine O.assign (v := (.slice none 0 0)) rfl rfl rfl ?_
  refine WL.nil ?_
  refine W.seq ?_
  refine W.seq ?_
  refine W.region ?_
  refine O.move (v := va0) rfl rfl rfl ?_
  rcases ha0.nil_or with ⟨rfl, rfl⟩ | ⟨ad, cap, rfl⟩
  · skip
    replace hm : (some ([] : List Int)) = some r0 := by simpa [appI] using hm
    refine O.eqlNil Try.underlying22 rfl rfl rfl rfl ?_
    refine WL.reset (i := 4) (v := .bool true) rfl ?_
    refine WL.nil ?_
    refine W.cond_true rfl ?_
    refine W.seq ?_
    refine W.region ?_
    have H := H.addNil (α := Int) (E := 3)
    refine O.assign (v := (.slice none 0 0)) rfl rfl rfl ?_
    refine WL.nil ?_
    refine W.ret ?_
    have hq : ([] : List Int) = r0 := Option.some.inj (show some ([] : List Int) = some r0 from hm)
    subst hq
    exact ends1 Try.results39 rfl ⟨_, rfl, H.base, H.ownR 1 rfl⟩
  · skip
    refine O.eqlNil Try.underlying22 rfl rfl rfl rfl ?_
    refine WL.reset (i := 4) (v := .bool false) rfl ?_
    refine WL.nil ?_
    refine W.cond_false rfl ?_
    refine W.skip ?_
    refine W.seq ?_
    refine W.region ?_
    refine O.buildEmpty (α := Int) Try.underlying22 el3 H rfl rfl ?_
    intro b1 w1 H hb1
    refine O.move (v := (.slice (some ad) a0.length cap)) rfl rfl rfl ?_
    obtain ⟨t1, ht1, hm⟩ := bind_some hm
    refine O.append 1 Try.underlying22 el3 rfl H rfl (H.arg ha0) ht1 rfl rfl rfl rfl ?_
    intro v1 w2 H
    refine O.assign (v := v1) rfl rfl rfl ?_
    refine WL.nil ?_
    refine W.ret ?_
    have hq : t1 = r0 := Option.some.inj (show some t1 = some r0 from hm)
    subst hq
    exact ends1 Try.results39 rfl ⟨_, rfl, H.base, H.ownR 1 rfl⟩

theorem c_flag_rest {w0 : World} (va0 : Value) (a0 : (List Int)) (ha0 : SliceR w0 va0 a0) {r0 : Int} (hm : flag_rest a0 = some r0) :
    Calls Try.prog 40 #[va0] w0 (Ret w0 fun _ v => v = (.int .i64 r0)) := by
  unfold flag_rest at hm
  refine calls_of_W Try.func40 rfl Try.ntmps40 (Nat.le_of_ble_eq_true rfl) ?_
  have H := Inv.start (w := w0)
  refine W.seq ?_
  refine W.region ?_
  refine O.assign (v := (.int .i64 0)) rfl rfl rfl ?_
  refine WL.nil ?_
  refine W.seq ?_
  refine W.region ?_
  refine O.assign (v := (.int .i64 0)) rfl rfl rfl ?_
  refine WL.nil ?_
  refine W.seq ?_
  refine W.seq ?_
  refine W.region ?_
  refine O.move (v := va0) rfl rfl rfl ?_
  refine O.lenS Try.underlying22 (H.arg ha0) rfl rfl rfl ?_
  refine O.move (v := (.int .i64 0)) rfl rfl rfl ?_
  refine WL.nil ?_
  obtain ⟨s1, hm1, hm⟩ := bind_some hm
  refine W.via (fun f w => f 3 = (.int .i64 s1) ∧ Inv w0 w []) ?_ ?_
  · skip
    refine W.block ?_
    refine W.rangeL (i := 0) hm1 (fun rem ik1 s f w => ∃ z2 : Int, z2 = s ∧ a0.drop ik1 = rem ∧ f 8 = .int .i64 (ik1 : Int) ∧ f 7 = (.int .i64 ((a0.length : Nat) : Int)) ∧ f 3 = (.int .i64 z2) ∧ f 6 = va0 ∧ Inv w0 w []) ?_ ?_ ?_
    · skip
      exact ⟨_, rfl, List.drop_zero, rfl, rfl, rfl, rfl, H⟩
    · skip
      rintro yk1 xs ik1 _ st f w ⟨z2, rfl, hdropk1, hf8, hf7, hf3, hf6, H⟩ hm2
      have hltk1 := drop_lt hdropk1; have hixk1 := drop_idx hdropk1
      obtain ⟨u1, rfl⟩ : ∃ u1, f = (upd (upd (upd (upd u1 8 (.int .i64 (ik1 : Int))) 7 (.int .i64 ((a0.length : Nat) : Int))) 3 (.int .i64 z2)) 6 va0) := ⟨f, by rw [upd_self hf8, upd_self hf7, upd_self hf3, upd_self hf6]⟩
      have hinck1 := addI_lt hltk1 (H.arg ha0).len_le
      refine W.seq ?_
      refine W.region ?_
      refine O.lss rfl rfl rfl rfl ?_
      refine WL.nil ?_
      refine W.seq ?_
      refine W.cond_true (congrArg Value.bool (decide_eq_true hltk1)) ?_
      refine W.skip ?_
      refine W.seq ?_
      refine W.block ?_
      refine W.seq ?_
      refine W.region ?_
      obtain ⟨p1, hp1, hrp1⟩ := fix_indexAddr Try.underlying22 sz3 ha0 hixk1
      refine hrp1 rfl rfl rfl rfl ?_
      refine O.load sc3 rfl rfl rfl ((hp1.mono H.base).flat 0 _ rfl) ?_
      refine O.assign (v := (.int .i64 yk1)) rfl rfl rfl ?_
      refine WL.nil ?_
      refine W.region ?_
      refine O.move (v := (.int .i64 z2)) rfl rfl rfl ?_
      refine O.move (v := (.int .i64 yk1)) rfl rfl rfl ?_
      obtain ⟨t1, ht1, hm2⟩ := bind_some hm2
      refine O.add rfl rfl rfl rfl ht1 ?_
      refine O.assign (v := (.int .i64 t1)) rfl rfl rfl ?_
      refine WL.nil ?_
      refine W.region ?_
      refine O.add rfl rfl rfl rfl hinck1 ?_
      refine O.move (v := .int .i64 ((ik1 : Int) + 1)) rfl rfl rfl ?_
      refine WL.nil ?_
      obtain rfl := Option.some.inj hm2
      exact ⟨_, rfl, _, rfl, drop_next hdropk1, rfl, rfl, rfl, rfl, H⟩
    · skip
      rintro ik1 _ f w ⟨z2, rfl, hdropk1, hf8, hf7, hf3, hf6, H⟩ hfin
      have hltk1 := drop_end hdropk1
      obtain ⟨u2, rfl⟩ : ∃ u2, f = (upd (upd (upd (upd u2 8 (.int .i64 (ik1 : Int))) 7 (.int .i64 ((a0.length : Nat) : Int))) 3 (.int .i64 z2)) 6 va0) := ⟨f, by rw [upd_self hf8, upd_self hf7, upd_self hf3, upd_self hf6]⟩
      refine W.seq ?_
      refine W.region ?_
      refine O.lss rfl rfl rfl rfl ?_
      refine WL.nil ?_
      refine W.seq ?_
      refine W.cond_false (congrArg Value.bool (decide_eq_false hltk1)) ?_
      refine W.exit ?_
      have hq : z2 = s1 := hfin
      subst hq
      refine xT rfl ?_
      exact ⟨rfl, H⟩
  · skip
    rintro f w ⟨hf3, H⟩
    obtain ⟨u3, rfl⟩ : ∃ u3, f = (upd u3 3 (.int .i64 s1)) := ⟨f, by rw [upd_self hf3]⟩
    refine W.seq ?_
    refine W.region ?_
    refine O.move (v := (.int .i64 s1)) rfl rfl rfl ?_
    obtain ⟨t2, ht2, hm⟩ := bind_some hm
    refine O.rem rfl rfl rfl rfl ht2 ?_
    refine O.assign (v := (.int .i64 t2)) rfl rfl rfl ?_
    refine WL.nil ?_
    refine W.ret ?_
    have hq : t2 = r0 := Option.some.inj (show some t2 = some r0 from hm)
    subst hq
    exact ends1 Try.results40 rfl ⟨_, rfl, H.base, rfl⟩

theorem c_flag_Checked {w0 : World} (va0 : Value) (a0 : (List Int)) (ha0 : SliceR w0 va0 a0) {r0 : (List Int)} {r1 : Int} (hm : flag_Checked a0 = some (r0, r1)) :
    Calls Try.prog 19 #[va0] w0 (Ret w0 fun w v => ∃ vr0 : Value, v = .tuple #[vr0, (.int .i64 r1)] ∧ OwnR w0 w vr0 3 r0) := by
  unfold flag_Checked at hm
  refine calls_of_W Try.func19 rfl Try.ntmps19 (Nat.le_of_ble_eq_true rfl) ?_
  have H := Inv.start (w := w0)
  refine W.seq ?_
  refine W.region ?_
  have H := H.addNil (α := Int) (E := 3)
  refine O.assign (v := (.slice none 0 0)) rfl rfl rfl ?_
  refine O.assign (v := (.int .i64 0)) rfl rfl rfl ?_
  refine WL.nil ?_
  refine W.seq ?_
  refine W.block ?_
  refine W.seq ?_
  refine W.region ?_
  refine O.move (v := va0) rfl rfl rfl ?_
  obtain ⟨t1, hy1, hm⟩ := bind_some hm
  refine O.call Try.call14 rfl rfl rfl (c_flag_ValidDigits _ _ (H.arg ha0) hy1) ?_
  rintro _ w1 hb1 rfl
  have H := H.ext hb1
  refine O.not rfl rfl rfl ?_
  refine O.assign (v := (.bool (!t1))) rfl rfl rfl ?_
  refine WL.nil ?_
  rcases ite_some hm with ⟨hc1, hm⟩ | ⟨hc1, hm⟩
  · refine W.cond_true (congrArg Value.bool hc1) ?_
    refine W.seq ?_
    refine W.region ?_
    have H := H.addNil (α := Int) (E := 3)
    refine O.assign (v := (.slice none 0 0)) rfl rfl rfl ?_
    refine O.assign (v := (.int .i64 1)) rfl rfl rfl ?_
    refine WL.nil ?_
    refine W.ret ?_
    have hq : (([] : List Int), 1) = (r0, r1) := Option.some.inj (show some (([] : List Int), 1) = some (r0, r1) from hm)
    obtain ⟨he0, hq0⟩ := Prod.mk.inj hq; clear hq; subst he0
    subst hq0
    exact ends2 Try.results19 rfl rfl ⟨_, rfl, H.base, ⟨_, rfl, H.ownR 1 rfl⟩⟩
  · refine W.cond_false (congrArg Value.bool hc1) ?_
    refine W.seq ?_
    refine W.region ?_
    refine O.move (v := va0) rfl rfl rfl ?_
    refine O.lenS Try.underlying22 (H.arg ha0) rfl rfl rfl ?_
    refine O.eql rfl rfl rfl rfl ?_
    refine O.assign (v := (.bool (((a0.length : Nat) : Int) == 4))) rfl rfl rfl ?_
    refine WL.nil ?_
    rcases ite_some hm with ⟨hc2, hm⟩ | ⟨hc2, hm⟩
    · refine W.cond_true (congrArg Value.bool hc2) ?_
      refine W.seq ?_
      refine W.region ?_
      have H := H.addNil (α := Int) (E := 3)
      refine O.assign (v := (.slice none 0 0)) rfl rfl rfl ?_
      refine O.assign (v := (.int .i64 7)) rfl rfl rfl ?_
      refine WL.nil ?_
      refine W.ret ?_
      have hq : (([] : List Int), 7) = (r0, r1) := Option.some.inj (show some (([] : List Int), 7) = some (r0, r1) from hm)
      obtain ⟨he0, hq0⟩ := Prod.mk.inj hq; clear hq; subst he0
      subst hq0
      exact ends2 Try.results19 rfl rfl ⟨_, rfl, H.base, ⟨_, rfl, H.ownR 1 rfl⟩⟩
    · refine W.cond_false (congrArg Value.bool hc2) ?_
      refine W.skip ?_
      refine W.seq ?_
      refine W.region ?_
      refine O.move (v := va0) rfl rfl rfl ?_
      obtain ⟨t2, hy2, hm⟩ := bind_some hm
      refine O.call Try.call39 rfl rfl rfl (c_slices_Clone_int _ _ (H.arg ha0) hy2) ?_
      rintro v1 w2 hb2 ho1
      have H := H.addOwn hb2 ho1
      refine O.move (v := va0) rfl rfl rfl ?_
      obtain ⟨t3, hy3, hm⟩ := bind_some hm
      refine O.call Try.call40 rfl rfl rfl (c_flag_rest _ _ (H.arg ha0) hy3) ?_
      rintro _ w3 hb3 rfl
      have H := H.ext hb3
      obtain ⟨t4, ht4, hm⟩ := bind_some hm
      refine O.sub rfl rfl rfl rfl ht4 ?_
      obtain ⟨t5, ht5, hm⟩ := bind_some hm
      refine O.rem rfl rfl rfl rfl ht5 ?_
      refine O.buildSlice (α := Int) [(.int .i64 t5)] [t5] Try.underlying22 el3 H rfl rfl rfl rfl rfl rfl rfl ?_
      intro v2 w4 H hb4
      obtain ⟨t6, ht6, hm⟩ := bind_some hm
      refine O.append 1 Try.underlying22 el3 rfl H rfl (H.own 2 rfl) ht6 rfl rfl rfl rfl ?_
      intro v3 w5 H
      refine O.assign (v := v3) rfl rfl rfl ?_
      refine O.assign (v := (.int .i64 0)) rfl rfl rfl ?_
      refine WL.nil ?_
      refine W.ret ?_
      have hq : (t6, 0) = (r0, r1) := Option.some.inj (show some (t6, 0) = some (r0, r1) from hm)
      obtain ⟨he0, hq0⟩ := Prod.mk.inj hq; clear hq; subst he0
      subst hq0
      exact ends2 Try.results19 rfl rfl ⟨_, rfl, H.base, ⟨_, rfl, H.ownR 1 rfl⟩⟩

theorem c_noongunref07_sum {w0 : World} (va0 : Value) (a0 : (List Int)) (ha0 : SliceR w0 va0 a0) {r0 : Int} (hm : noongunref07_sum a0 = some r0) :
    Calls Try.prog 41 #[va0] w0 (Ret w0 fun _ v => v = (.int .i64 r0)) := by
  unfold noongunref07_sum at hm
  refine calls_of_W Try.func41 rfl Try.ntmps41 (Nat.le_of_ble_eq_true rfl) ?_
  have H := Inv.start (w := w0)
  refine W.seq ?_
  refine W.region ?_
  refine O.assign (v := (.int .i64 0)) rfl rfl rfl ?_
  refine WL.nil ?_
  refine W.seq ?_
  refine W.region ?_
  refine O.assign (v := (.int .i64 0)) rfl rfl rfl ?_
  refine WL.nil ?_
  refine W.seq ?_
  refine W.seq ?_
  refine W.region ?_
  refine O.move (v := va0) rfl rfl rfl ?_
  refine O.lenS Try.underlying22 (H.arg ha0) rfl rfl rfl ?_
  refine O.move (v := (.int .i64 0)) rfl rfl rfl ?_
  refine WL.nil ?_
  obtain ⟨s1, hm1, hm⟩ := bind_some hm
  refine W.via (fun f w => f 3 = (.int .i64 s1) ∧ Inv w0 w []) ?_ ?_
  · skip
    refine W.block ?_
    refine W.rangeL (i := 0) hm1 (fun rem ik1 s f w => ∃ z2 : Int, z2 = s ∧ a0.drop ik1 = rem ∧ f 8 = .int .i64 (ik1 : Int) ∧ f 7 = (.int .i64 ((a0.length : Nat) : Int)) ∧ f 3 = (.int .i64 z2) ∧ f 6 = va0 ∧ Inv w0 w []) ?_ ?_ ?_
    · skip
      exact ⟨_, rfl, List.drop_zero, rfl, rfl, rfl, rfl, H⟩
    · skip
      rintro yk1 xs ik1 _ st f w ⟨z2, rfl, hdropk1, hf8, hf7, hf3, hf6, H⟩ hm2
      have hltk1 := drop_lt hdropk1; have hixk1 := drop_idx hdropk1
      obtain ⟨u1, rfl⟩ : ∃ u1, f = (upd (upd (upd (upd u1 8 (.int .i64 (ik1 : Int))) 7 (.int .i64 ((a0.length : Nat) : Int))) 3 (.int .i64 z2)) 6 va0) := ⟨f, by rw [upd_self hf8, upd_self hf7, upd_self hf3, upd_self hf6]⟩
      have hinck1 := addI_lt hltk1 (H.arg ha0).len_le
      refine W.seq ?_
      refine W.region ?_
      refine O.lss rfl rfl rfl rfl ?_
      refine WL.nil ?_
      refine W.seq ?_
      refine W.cond_true (congrArg Value.bool (decide_eq_true hltk1)) ?_
      refine W.skip ?_
      refine W.seq ?_
      refine W.block ?_
      refine W.seq ?_
      refine W.region ?_
      obtain ⟨p1, hp1, hrp1⟩ := fix_indexAddr Try.underlying22 sz3 ha0 hixk1
      refine hrp1 rfl rfl rfl rfl ?_
      refine O.load sc3 rfl rfl rfl ((hp1.mono H.base).flat 0 _ rfl) ?_
      refine O.assign (v := (.int .i64 yk1)) rfl rfl rfl ?_
      refine WL.nil ?_
      refine W.region ?_
      refine O.move (v := (.int .i64 z2)) rfl rfl rfl ?_
      refine O.move (v := (.int .i64 yk1)) rfl rfl rfl ?_
      obtain ⟨t1, ht1, hm2⟩ := bind_some hm2
      refine O.add rfl rfl rfl rfl ht1 ?_
      refine O.assign (v := (.int .i64 t1)) rfl rfl rfl ?_
      refine WL.nil ?_
      refine W.region ?_
      refine O.add rfl rfl rfl rfl hinck1 ?_
      refine O.move (v := .int .i64 ((ik1 : Int) + 1)) rfl rfl rfl ?_
      refine WL.nil ?_
      obtain rfl := Option.some.inj hm2
      exact ⟨_, rfl, _, rfl, drop_next hdropk1, rfl, rfl, rfl, rfl, H⟩
    · skip
      rintro ik1 _ f w ⟨z2, rfl, hdropk1, hf8, hf7, hf3, hf6, H⟩ hfin
      have hltk1 := drop_end hdropk1
      obtain ⟨u2, rfl⟩ : ∃ u2, f = (upd (upd (upd (upd u2 8 (.int .i64 (ik1 : Int))) 7 (.int .i64 ((a0.length : Nat) : Int))) 3 (.int .i64 z2)) 6 va0) := ⟨f, by rw [upd_self hf8, upd_self hf7, upd_self hf3, upd_self hf6]⟩
      refine W.seq ?_
      refine W.region ?_
      refine O.lss rfl rfl rfl rfl ?_
      refine WL.nil ?_
      refine W.seq ?_
      refine W.cond_false (congrArg Value.bool (decide_eq_false hltk1)) ?_
      refine W.exit ?_
      have hq : z2 = s1 := hfin
      subst hq
      refine xT rfl ?_
      exact ⟨rfl, H⟩
  · skip
    rintro f w ⟨hf3, H⟩
    obtain ⟨u3, rfl⟩ : ∃ u3, f = (upd u3 3 (.int .i64 s1)) := ⟨f, by rw [upd_self hf3]⟩
    refine W.seq ?_
    refine W.region ?_
    refine O.move (v := (.int .i64 s1)) rfl rfl rfl ?_
    refine O.assign (v := (.int .i64 s1)) rfl rfl rfl ?_
    refine WL.nil ?_
    refine W.ret ?_
    have hq : s1 = r0 := Option.some.inj (show some s1 = some r0 from hm)
    subst hq
    exact ends1 Try.results41 rfl ⟨_, rfl, H.base, rfl⟩

theorem c_noongunref07_Checked {w0 : World} (va0 : Value) (a0 : (List Int)) (ha0 : SliceR w0 va0 a0) {r0 : (List Int)} {r1 : Int} (hm : noongunref07_Checked a0 = some (r0, r1)) :
    Calls Try.prog 20 #[va0] w0 (Ret w0 fun w v => ∃ vr0 : Value, v = .tuple #[vr0, (.int .i64 r1)] ∧ OwnR w0 w vr0 3 r0) := by
  unfold noongunref07_Checked at hm
  refine calls_of_W Try.func20 rfl Try.ntmps20 (Nat.le_of_ble_eq_true rfl) ?_
  have H := Inv.start (w := w0)
  refine W.seq ?_
  refine W.region ?_
  have H := H.addNil (α := Int) (E := 3)
  refine O.assign (v := (.slice none 0 0)) rfl rfl rfl ?_
  refine O.assign (v := (.int .i64 0)) rfl rfl rfl ?_
  refine WL.nil ?_
  refine W.seq ?_
  refine W.seq ?_
  refine W.region ?_
  refine O.move (v := va0) rfl rfl rfl ?_
  obtain ⟨t1, hy1, hm⟩ := bind_some hm
  refine O.call Try.call15 rfl rfl rfl (c_noongunref07_ValidDigits _ _ (H.arg ha0) hy1) ?_
  rintro _ w1 hb1 rfl
  have H := H.ext hb1
  refine O.not rfl rfl rfl ?_
  refine WL.nil ?_
  rcases ite_some hm with ⟨hc1, hm⟩ | ⟨hc1, hm⟩
  · refine W.cond_true (congrArg Value.bool hc1) ?_
    refine W.seq ?_
    refine W.region ?_
    have H := H.addNil (α := Int) (E := 3)
    refine O.assign (v := (.slice none 0 0)) rfl rfl rfl ?_
    refine O.assign (v := (.int .i64 1)) rfl rfl rfl ?_
    refine WL.nil ?_
    refine W.ret ?_
    have hq : (([] : List Int), 1) = (r0, r1) := Option.some.inj (show some (([] : List Int), 1) = some (r0, r1) from hm)
    obtain ⟨he0, hq0⟩ := Prod.mk.inj hq; clear hq; subst he0
    subst hq0
    exact ends2 Try.results20 rfl rfl ⟨_, rfl, H.base, ⟨_, rfl, H.ownR 1 rfl⟩⟩
  · refine W.cond_false (congrArg Value.bool hc1) ?_
    refine W.skip ?_
    refine W.seq ?_
    refine W.seq ?_
    refine W.region ?_
    refine O.move (v := va0) rfl rfl rfl ?_
    refine O.lenS Try.underlying22 (H.arg ha0) rfl rfl rfl ?_
    refine O.eql rfl rfl rfl rfl ?_
    refine WL.nil ?_
    rcases ite_some hm with ⟨hc2, hm⟩ | ⟨hc2, hm⟩
    · refine W.cond_true (congrArg Value.bool hc2) ?_
      refine W.seq ?_
      refine W.region ?_
      have H := H.addNil (α := Int) (E := 3)
      refine O.assign (v := (.slice none 0 0)) rfl rfl rfl ?_
      refine O.assign (v := (.int .i64 7)) rfl rfl rfl ?_
      refine WL.nil ?_
      refine W.ret ?_
      have hq : (([] : List Int), 7) = (r0, r1) := Option.some.inj (show some (([] : List Int), 7) = some (r0, r1) from hm)
      obtain ⟨he0, hq0⟩ := Prod.mk.inj hq; clear hq; subst he0
      subst hq0
      exact ends2 Try.results20 rfl rfl ⟨_, rfl, H.base, ⟨_, rfl, H.ownR 1 rfl⟩⟩
    · refine W.cond_false (congrArg Value.bool hc2) ?_
      refine W.skip ?_
      refine W.seq ?_
      refine W.region ?_
      refine O.buildEmpty (α := Int) Try.underlying22 el3 H rfl rfl ?_
      intro b1 w2 H hb2
      refine O.move (v := va0) rfl rfl rfl ?_
      obtain ⟨t2, ht2, hm⟩ := bind_some hm
      refine O.append 1 Try.underlying22 el3 rfl H rfl (H.arg ha0) ht2 rfl rfl rfl rfl ?_
      intro v1 w3 H
      refine O.move (v := va0) rfl rfl rfl ?_
      obtain ⟨t3, hy2, hm⟩ := bind_some hm
      refine O.call Try.call41 rfl rfl rfl (c_noongunref07_sum _ _ (H.arg ha0) hy2) ?_
      rintro _ w4 hb3 rfl
      have H := H.ext hb3
      obtain ⟨t4, ht4, hm⟩ := bind_some hm
      refine O.rem rfl rfl rfl rfl ht4 ?_
      obtain ⟨t5, ht5, hm⟩ := bind_some hm
      refine O.sub rfl rfl rfl rfl ht5 ?_
      obtain ⟨t6, ht6, hm⟩ := bind_some hm
      refine O.rem rfl rfl rfl rfl ht6 ?_
      refine O.buildSlice (α := Int) [(.int .i64 t6)] [t6] Try.underlying22 el3 H rfl rfl rfl rfl rfl rfl rfl ?_
      intro v2 w5 H hb4
      obtain ⟨t7, ht7, hm⟩ := bind_some hm
      refine O.append 1 Try.underlying22 el3 rfl H rfl (H.own 2 rfl) ht7 rfl rfl rfl rfl ?_
      intro v3 w6 H
      refine O.assign (v := v3) rfl rfl rfl ?_
      refine O.assign (v := (.int .i64 0)) rfl rfl rfl ?_
      refine WL.nil ?_
      refine W.ret ?_
      have hq : (t7, 0) = (r0, r1) := Option.some.inj (show some (t7, 0) = some (r0, r1) from hm)
      obtain ⟨he0, hq0⟩ := Prod.mk.inj hq; clear hq; subst he0
      subst hq0
      exact ends2 Try.results20 rfl rfl ⟨_, rfl, H.base, ⟨_, rfl, H.ownR 1 rfl⟩⟩

theorem c_flag_Right {w0 : World} (va0 : Value) (a0 : (List Int)) (ha0 : SliceR w0 va0 a0) {r0 : Bool} {r1 : Int} (hm : flag_Right a0 = some (r0, r1)) :
    Calls Try.prog 21 #[va0] w0 (Ret w0 fun _ v => v = .tuple #[(.bool r0), (.int .i64 r1)]) := by
  unfold flag_Right at hm
  refine calls_of_W Try.func21 rfl Try.ntmps21 (Nat.le_of_ble_eq_true rfl) ?_
  have H := Inv.start (w := w0)
  refine W.seq ?_
  refine W.region ?_
  refine O.assign (v := (.bool false)) rfl rfl rfl ?_
  refine O.assign (v := (.int .i64 0)) rfl rfl rfl ?_
  refine WL.nil ?_
  refine W.seq ?_
  refine W.seq ?_
  refine W.region ?_
  refine O.move (v := va0) rfl rfl rfl ?_
  obtain ⟨t1, hy1, hm⟩ := bind_some hm
  refine O.call Try.call14 rfl rfl rfl (c_flag_ValidDigits _ _ (H.arg ha0) hy1) ?_
  rintro _ w1 hb1 rfl
  have H := H.ext hb1
  refine O.not rfl rfl rfl ?_
  refine WL.nil ?_
  rcases ite_some hm with ⟨hc1, hm⟩ | ⟨hc1, hm⟩
  · refine W.cond_true (congrArg Value.bool hc1) ?_
    refine W.seq ?_
    refine W.region ?_
    refine O.assign (v := (.bool false)) rfl rfl rfl ?_
    refine O.assign (v := (.int .i64 1)) rfl rfl rfl ?_
    refine WL.nil ?_
    refine W.ret ?_
    have hq : (false, 1) = (r0, r1) := Option.some.inj (show some (false, 1) = some (r0, r1) from hm)
    obtain ⟨he0, hq0⟩ := Prod.mk.inj hq; clear hq; subst he0
    subst hq0
    exact ends2 Try.results21 rfl rfl ⟨_, rfl, H.base, rfl⟩
  · refine W.cond_false (congrArg Value.bool hc1) ?_
    refine W.skip ?_
    refine W.seq ?_
    refine W.region ?_
    refine O.move (v := va0) rfl rfl rfl ?_
    obtain ⟨t2, hy2, hm⟩ := bind_some hm
    refine O.call Try.call40 rfl rfl rfl (c_flag_rest _ _ (H.arg ha0) hy2) ?_
    rintro _ w2 hb2 rfl
    have H := H.ext hb2
    refine O.eql rfl rfl rfl rfl ?_
    refine O.assign (v := (.bool (t2 == 0))) rfl rfl rfl ?_
    refine O.assign (v := (.int .i64 0)) rfl rfl rfl ?_
    refine WL.nil ?_
    refine W.ret ?_
    have hq : ((t2 == 0), 0) = (r0, r1) := Option.some.inj (show some ((t2 == 0), 0) = some (r0, r1) from hm)
    obtain ⟨he0, hq0⟩ := Prod.mk.inj hq; clear hq; subst he0
    subst hq0
    exact ends2 Try.results21 rfl rfl ⟨_, rfl, H.base, rfl⟩

theorem c_noongunref07_Right {w0 : World} (va0 : Value) (a0 : (List Int)) (ha0 : SliceR w0 va0 a0) {r0 : Bool} {r1 : Int} (hm : noongunref07_Right a0 = some (r0, r1)) :
    Calls Try.prog 22 #[va0] w0 (Ret w0 fun _ v => v = .tuple #[(.bool r0), (.int .i64 r1)]) := by
  unfold noongunref07_Right at hm
  refine calls_of_W Try.func22 rfl Try.ntmps22 (Nat.le_of_ble_eq_true rfl) ?_
  have H := Inv.start (w := w0)
  refine W.seq ?_
  refine W.region ?_
  refine O.assign (v := (.bool false)) rfl rfl rfl ?_
  refine O.assign (v := (.int .i64 0)) rfl rfl rfl ?_
  refine WL.nil ?_
  refine W.seq ?_
  refine W.seq ?_
  refine W.region ?_
  refine O.move (v := va0) rfl rfl rfl ?_
  obtain ⟨t1, hy1, hm⟩ := bind_some hm
  refine O.call Try.call15 rfl rfl rfl (c_noongunref07_ValidDigits _ _ (H.arg ha0) hy1) ?_
  rintro _ w1 hb1 rfl
  have H := H.ext hb1
  refine O.not rfl rfl rfl ?_
  refine WL.nil ?_
  rcases ite_some hm with ⟨hc1, hm⟩ | ⟨hc1, hm⟩
  · refine W.cond_true (congrArg Value.bool hc1) ?_
    refine W.seq ?_
    refine W.region ?_
    refine O.assign (v := (.bool false)) rfl rfl rfl ?_
    refine O.assign (v := (.int .i64 1)) rfl rfl rfl ?_
    refine WL.nil ?_
    refine W.ret ?_
    have hq : (false, 1) = (r0, r1) := Option.some.inj (show some (false, 1) = some (r0, r1) from hm)
    obtain ⟨he0, hq0⟩ := Prod.mk.inj hq; clear hq; subst he0
    subst hq0
    exact ends2 Try.results22 rfl rfl ⟨_, rfl, H.base, rfl⟩
  · refine W.cond_false (congrArg Value.bool hc1) ?_
    refine W.skip ?_
    refine W.seq ?_
    refine W.region ?_
    refine O.move (v := va0) rfl rfl rfl ?_
    obtain ⟨t2, hy2, hm⟩ := bind_some hm
    refine O.call Try.call41 rfl rfl rfl (c_noongunref07_sum _ _ (H.arg ha0) hy2) ?_
    rintro _ w2 hb2 rfl
    have H := H.ext hb2
    obtain ⟨t3, ht3, hm⟩ := bind_some hm
    refine O.rem rfl rfl rfl rfl ht3 ?_
    refine O.eql rfl rfl rfl rfl ?_
    refine O.assign (v := (.bool (t3 == 0))) rfl rfl rfl ?_
    refine O.assign (v := (.int .i64 0)) rfl rfl rfl ?_
    refine WL.nil ?_
    refine W.ret ?_
    have hq : ((t3 == 0), 0) = (r0, r1) := Option.some.inj (show some ((t3 == 0), 0) = some (r0, r1) from hm)
    obtain ⟨he0, hq0⟩ := Prod.mk.inj hq; clear hq; subst he0
    subst hq0
    exact ends2 Try.results22 rfl rfl ⟨_, rfl, H.base, rfl⟩

set_option maxRecDepth 20000 in
theorem c_noongunlaw07_FlagChecked {w0 : World} (va0 : Value) (a0 : (List Int)) (ha0 : SliceR w0 va0 a0) (a1 : Int) (a2 : Int) {r0 : Bool} (hm : noongunlaw07_FlagChecked a0 a1 a2 = some r0) :
    Calls Try.prog 4 #[va0, (.int .i64 a1), (.int .i64 a2)] w0 (Ret w0 fun _ v => v = (.bool r0)) := by
  unfold noongunlaw07_FlagChecked at hm
  refine calls_of_W Try.func4 rfl Try.ntmps4 (Nat.le_of_ble_eq_true rfl) ?_
  have H := Inv.start (w := w0)
  refine W.seq ?_
  refine W.region ?_
  refine O.assign (v := (.bool false)) rfl rfl rfl ?_
  refine WL.nil ?_
  refine W.seq ?_
  refine W.seq ?_
  refine W.region ?_
  refine O.move (v := va0) rfl rfl rfl ?_
  refine O.lenS Try.underlying22 (H.arg ha0) rfl rfl rfl ?_
  refine O.gtr rfl rfl rfl rfl ?_
  refine WL.nil ?_
  rcases ite_some hm with ⟨hc1, hm⟩ | ⟨hc1, hm⟩
  · refine W.cond_true (congrArg Value.bool hc1) ?_
    refine W.seq ?_
    refine W.region ?_
    obtain ⟨t1, hy1, hm⟩ := bind_some hm
    refine O.call Try.call9 rfl rfl rfl (c_noongunlaw07_awake  hy1) ?_
    rintro _ w1 hb1 rfl
    have H := H.ext hb1
    refine O.assign (v := (.bool t1)) rfl rfl rfl ?_
    refine WL.nil ?_
    refine W.ret ?_
    have hq : t1 = r0 := Option.some.inj (show some t1 = some r0 from hm)
    subst hq
    exact ends1 Try.results4 rfl ⟨_, rfl, H.base, rfl⟩
  · refine W.cond_false (congrArg Value.bool hc1) ?_
    refine W.skip ?_
    refine W.seq ?_
    refine W.region ?_
    refine O.move (v := va0) rfl rfl rfl ?_
    obtain ⟨⟨t2, t3⟩, hy2, hm⟩ := bind_some hm
    refine O.call Try.call19 rfl rfl rfl (c_flag_Checked _ _ (H.arg ha0) hy2) ?_
    rintro _ w2 hb2 ⟨v1, rfl, ho1⟩
    have H := H.addOwn hb2 ho1
    refine O.move (v := (.tuple #[v1, (.int .i64 t3)])) rfl rfl rfl ?_
    refine O.extract (v := v1) rfl rfl rfl rfl ?_
    refine O.extract (v := (.int .i64 t3)) rfl rfl rfl rfl ?_
    refine O.assign (v := v1) rfl rfl rfl ?_
    refine O.assign (v := (.int .i64 t3)) rfl rfl rfl ?_
    refine WL.nil ?_
    refine W.seq ?_
    refine W.region ?_
    refine O.move (v := va0) rfl rfl rfl ?_
    obtain ⟨⟨t4, t5⟩, hy3, hm⟩ := bind_some hm
    refine O.call Try.call20 rfl rfl rfl (c_noongunref07_Checked _ _ (H.arg ha0) hy3) ?_
    rintro _ w3 hb3 ⟨v2, rfl, ho2⟩
    have H := H.addOwn hb3 ho2
    refine O.move (v := (.tuple #[v2, (.int .i64 t5)])) rfl rfl rfl ?_
    refine O.extract (v := v2) rfl rfl rfl rfl ?_
    refine O.extract (v := (.int .i64 t5)) rfl rfl rfl rfl ?_
    refine O.assign (v := v2) rfl rfl rfl ?_
    refine O.assign (v := (.int .i64 t5)) rfl rfl rfl ?_
    refine WL.nil ?_
    refine W.seq ?_
    refine W.region ?_
    refine O.move (v := va0) rfl rfl rfl ?_
    obtain ⟨⟨t6, t7⟩, hy4, hm⟩ := bind_some hm
    refine O.call Try.call21 rfl rfl rfl (c_flag_Right _ _ (H.arg ha0) hy4) ?_
    rintro _ w4 hb4 rfl
    have H := H.ext hb4
    refine O.move (v := (.tuple #[(.bool t6), (.int .i64 t7)])) rfl rfl rfl ?_
    refine O.extract (v := (.bool t6)) rfl rfl rfl rfl ?_
    refine O.extract (v := (.int .i64 t7)) rfl rfl rfl rfl ?_
    refine O.assign (v := (.bool t6)) rfl rfl rfl ?_
    refine O.assign (v := (.int .i64 t7)) rfl rfl rfl ?_
    refine WL.nil ?_
    refine W.seq ?_
    refine W.region ?_
    refine O.move (v := va0) rfl rfl rfl ?_
    obtain ⟨⟨t8, t9⟩, hy5, hm⟩ := bind_some hm
    refine O.call Try.call22 rfl rfl rfl (c_noongunref07_Right _ _ (H.arg ha0) hy5) ?_
    rintro _ w5 hb5 rfl
    have H := H.ext hb5
    refine O.move (v := (.tuple #[(.bool t8), (.int .i64 t9)])) rfl rfl rfl ?_
    refine O.extract (v := (.bool t8)) rfl rfl rfl rfl ?_
    refine O.extract (v := (.int .i64 t9)) rfl rfl rfl rfl ?_
    refine O.assign (v := (.bool t8)) rfl rfl rfl ?_
    refine O.assign (v := (.int .i64 t9)) rfl rfl rfl ?_
    refine WL.nil ?_
    refine W.seq ?_
    refine W.seq ?_
    refine W.region ?_
    refine O.move (v := v1) rfl rfl rfl ?_
    refine O.move (v := v2) rfl rfl rfl ?_
    obtain ⟨t10, hy6, hm⟩ := bind_some hm
    refine O.call Try.call18 rfl rfl rfl (c_noongunref07_SameInts _ _ (H.own 0 rfl) _ _ (H.own 1 rfl) hy6) ?_
    rintro _ w6 hb6 rfl
    have H := H.ext hb6
    refine O.not rfl rfl rfl ?_
    refine O.move (v := (.bool (!t10))) rfl rfl rfl ?_
    refine WL.cut 4 (fun f w => f 1 = (.int .i64 a1) ∧ f 2 = (.int .i64 a2) ∧ f 7 = v1 ∧ f 8 = (.int .i64 t3) ∧ f 11 = (.bool t6) ∧ f 12 = (.int .i64 t7) ∧ f 13 = (.bool t8) ∧ f 14 = (.int .i64 t9) ∧ f 52 = .bool ((!t10) || (t3 != t5)) ∧ Inv w0 w [ownI (α := Int) v1 3 t2, ownI (α := Int) v2 3 t4]) ?_ ?_
    · skip
      rcases bool_ft (!t10) with hc2 | hc2
      · skip
        refine WL.reset (i := 48) (v := .bool false) (congrArg Value.bool hc2) ?_
        refine O.move (v := (.int .i64 t3)) rfl rfl rfl ?_
        refine O.move (v := (.int .i64 t5)) rfl rfl rfl ?_
        refine O.neq rfl rfl rfl rfl ?_
        refine O.pick_false (v := (.bool (t3 != t5))) rfl rfl rfl rfl ?_
        refine WL.nil ?_
        exact ⟨rfl, rfl, rfl, rfl, rfl, rfl, rfl, rfl, congrArg Value.bool (or_f hc2), H⟩
      · skip
        refine WL.reset (i := 48) (v := .bool true) (congrArg Value.bool hc2) ?_
        refine O.skip rfl rfl ?_
        refine O.skip rfl rfl ?_
        refine O.skip rfl rfl ?_
        refine O.pick_true (v := (.bool true)) rfl rfl rfl rfl ?_
        refine WL.nil ?_
        exact ⟨rfl, rfl, rfl, rfl, rfl, rfl, rfl, rfl, congrArg Value.bool (or_t hc2), H⟩
    · skip
      rintro f w ⟨hf1, hf2, hf7, hf8, hf11, hf12, hf13, hf14, hf52, H⟩
      obtain ⟨u1, rfl⟩ : ∃ u1, f = (upd (upd (upd (upd (upd (upd (upd (upd (upd u1 1 (.int .i64 a1)) 2 (.int .i64 a2)) 7 v1) 8 (.int .i64 t3)) 11 (.bool t6)) 12 (.int .i64 t7)) 13 (.bool t8)) 14 (.int .i64 t9)) 52 (.bool ((!t10) || (t3 != t5)))) := ⟨f, by rw [upd_self hf1, upd_self hf2, upd_self hf7, upd_self hf8, upd_self hf11, upd_self hf12, upd_self hf13, upd_self hf14, upd_self hf52]⟩
      refine O.move (v := (.bool ((!t10) || (t3 != t5)))) rfl rfl rfl ?_
      refine WL.cut 4 (fun f w => f 1 = (.int .i64 a1) ∧ f 2 = (.int .i64 a2) ∧ f 7 = v1 ∧ f 8 = (.int .i64 t3) ∧ f 12 = (.int .i64 t7) ∧ f 14 = (.int .i64 t9) ∧ f 57 = .bool (((!t10) || (t3 != t5)) || (t6 != t8)) ∧ Inv w0 w [ownI (α := Int) v1 3 t2, ownI (α := Int) v2 3 t4]) ?_ ?_
      · skip
        rcases bool_ft ((!t10) || (t3 != t5)) with hc3 | hc3
        · skip
          refine WL.reset (i := 53) (v := .bool false) (congrArg Value.bool hc3) ?_
          refine O.move (v := (.bool t6)) rfl rfl rfl ?_
          refine O.move (v := (.bool t8)) rfl rfl rfl ?_
          refine O.neqB Try.underlying4 rfl rfl rfl rfl ?_
          refine O.pick_false (v := (.bool (t6 != t8))) rfl rfl rfl rfl ?_
          refine WL.nil ?_
          exact ⟨rfl, rfl, rfl, rfl, rfl, rfl, congrArg Value.bool (or_f hc3), H⟩
        · skip
          refine WL.reset (i := 53) (v := .bool true) (congrArg Value.bool hc3) ?_
          refine O.skip rfl rfl ?_
          refine O.skip rfl rfl ?_
          refine O.skip rfl rfl ?_
          refine O.pick_true (v := (.bool true)) rfl rfl rfl rfl ?_
          refine WL.nil ?_
          exact ⟨rfl, rfl, rfl, rfl, rfl, rfl, congrArg Value.bool (or_t hc3), H⟩
      · skip
        rintro f w ⟨hf1, hf2, hf7, hf8, hf12, hf14, hf57, H⟩
        obtain ⟨u2, rfl⟩ : ∃ u2, f = (upd (upd (upd (upd (upd (upd (upd u2 1 (.int .i64 a1)) 2 (.int .i64 a2)) 7 v1) 8 (.int .i64 t3)) 12 (.int .i64 t7)) 14 (.int .i64 t9)) 57 (.bool (((!t10) || (t3 != t5)) || (t6 != t8)))) := ⟨f, by rw [upd_self hf1, upd_self hf2, upd_self hf7, upd_self hf8, upd_self hf12, upd_self hf14, upd_self hf57]⟩
        refine O.move (v := (.bool (((!t10) || (t3 != t5)) || (t6 != t8)))) rfl rfl rfl ?_
        refine WL.cut 4 (fun f w => f 1 = (.int .i64 a1) ∧ f 2 = (.int .i64 a2) ∧ f 7 = v1 ∧ f 8 = (.int .i64 t3) ∧ f 62 = .bool ((((!t10) || (t3 != t5)) || (t6 != t8)) || (t7 != t9)) ∧ Inv w0 w [ownI (α := Int) v1 3 t2, ownI (α := Int) v2 3 t4]) ?_ ?_
        · skip
          rcases bool_ft (((!t10) || (t3 != t5)) || (t6 != t8)) with hc4 | hc4
          · skip
            refine WL.reset (i := 58) (v := .bool false) (congrArg Value.bool hc4) ?_
            refine O.move (v := (.int .i64 t7)) rfl rfl rfl ?_
            refine O.move (v := (.int .i64 t9)) rfl rfl rfl ?_
            refine O.neq rfl rfl rfl rfl ?_
            refine O.pick_false (v := (.bool (t7 != t9))) rfl rfl rfl rfl ?_
            refine WL.nil ?_
            exact ⟨rfl, rfl, rfl, rfl, congrArg Value.bool (or_f hc4), H⟩
          · skip
            refine WL.reset (i := 58) (v := .bool true) (congrArg Value.bool hc4) ?_
            refine O.skip rfl rfl ?_
            refine O.skip rfl rfl ?_
            refine O.skip rfl rfl ?_
            refine O.pick_true (v := (.bool true)) rfl rfl rfl rfl ?_
            refine WL.nil ?_
            exact ⟨rfl, rfl, rfl, rfl, congrArg Value.bool (or_t hc4), H⟩
        · skip
          rintro f w ⟨hf1, hf2, hf7, hf8, hf62, H⟩
          obtain ⟨u3, rfl⟩ : ∃ u3, f = (upd (upd (upd (upd (upd u3 1 (.int .i64 a1)) 2 (.int .i64 a2)) 7 v1) 8 (.int .i64 t3)) 62 (.bool ((((!t10) || (t3 != t5)) || (t6 != t8)) || (t7 != t9)))) := ⟨f, by rw [upd_self hf1, upd_self hf2, upd_self hf7, upd_self hf8, upd_self hf62]⟩
          refine WL.nil ?_
          rcases ite_some hm with ⟨hc5, hm⟩ | ⟨hc5, hm⟩
          · refine W.cond_true (congrArg Value.bool hc5) ?_
            refine W.seq ?_
            refine W.region ?_
            refine O.assign (v := (.bool false)) rfl rfl rfl ?_
            refine WL.nil ?_
            refine W.ret ?_
            have hq : false = r0 := Option.some.inj (show some false = some r0 from hm)
            subst hq
            exact ends1 Try.results4 rfl ⟨_, rfl, H.base, rfl⟩
          · refine W.cond_false (congrArg Value.bool hc5) ?_
            refine W.skip ?_
            refine W.seq ?_
            refine W.seq ?_
            refine W.region ?_
            refine O.move (v := (.int .i64 t3)) rfl rfl rfl ?_
            refine O.neq rfl rfl rfl rfl ?_
            refine WL.nil ?_
            rcases ite_some hm with ⟨hc6, hm⟩ | ⟨hc6, hm⟩
            · refine W.cond_true (congrArg Value.bool hc6) ?_
              refine W.seq ?_
              refine W.region ?_
              obtain ⟨t11, hy7, hm⟩ := bind_some hm
              refine O.call Try.call9 rfl rfl rfl (c_noongunlaw07_awake  hy7) ?_
              rintro _ w7 hb7 rfl
              have H := H.ext hb7
              refine O.assign (v := (.bool t11)) rfl rfl rfl ?_
              refine WL.nil ?_
              refine W.ret ?_
              have hq : t11 = r0 := Option.some.inj (show some t11 = some r0 from hm)
              subst hq
              exact ends1 Try.results4 rfl ⟨_, rfl, H.base, rfl⟩
            · refine W.cond_false (congrArg Value.bool hc6) ?_
              refine W.skip ?_
              refine W.seq ?_
              refine W.seq ?_
              refine W.region ?_
              refine O.move (v := v1) rfl rfl rfl ?_
              obtain ⟨⟨t12, t13⟩, hy8, hm⟩ := bind_some hm
              refine O.call Try.call21 rfl rfl rfl (c_flag_Right _ _ (H.own 0 rfl) hy8) ?_
              rintro _ w8 hb8 rfl
              have H := H.ext hb8
              refine O.move (v := (.tuple #[(.bool t12), (.int .i64 t13)])) rfl rfl rfl ?_
              refine O.extract (v := (.bool t12)) rfl rfl rfl rfl ?_
              refine O.extract (v := (.int .i64 t13)) rfl rfl rfl rfl ?_
              refine O.assign (v := (.bool t12)) rfl rfl rfl ?_
              refine O.assign (v := (.int .i64 t13)) rfl rfl rfl ?_
              refine WL.nil ?_
              refine W.seq ?_
              refine W.region ?_
              refine O.move (v := (.int .i64 t13)) rfl rfl rfl ?_
              refine O.neq rfl rfl rfl rfl ?_
              refine O.move (v := (.bool (t13 != 0))) rfl rfl rfl ?_
              refine WL.cut 3 (fun f w => f 1 = (.int .i64 a1) ∧ f 2 = (.int .i64 a2) ∧ f 7 = v1 ∧ f 76 = .bool ((t13 != 0) || (!t12)) ∧ Inv w0 w [ownI (α := Int) v1 3 t2, ownI (α := Int) v2 3 t4]) ?_ ?_
              · skip
                rcases bool_ft (t13 != 0) with hc7 | hc7
                · skip
                  refine WL.reset (i := 73) (v := .bool false) (congrArg Value.bool hc7) ?_
                  refine O.move (v := (.bool t12)) rfl rfl rfl ?_
                  refine O.not rfl rfl rfl ?_
                  refine O.pick_false (v := (.bool (!t12))) rfl rfl rfl rfl ?_
                  refine WL.nil ?_
                  exact ⟨rfl, rfl, rfl, congrArg Value.bool (or_f hc7), H⟩
                · skip
                  refine WL.reset (i := 73) (v := .bool true) (congrArg Value.bool hc7) ?_
                  refine O.skip rfl rfl ?_
                  refine O.skip rfl rfl ?_
                  refine O.pick_true (v := (.bool true)) rfl rfl rfl rfl ?_
                  refine WL.nil ?_
                  exact ⟨rfl, rfl, rfl, congrArg Value.bool (or_t hc7), H⟩
              · skip
                rintro f w ⟨hf1, hf2, hf7, hf76, H⟩
                obtain ⟨u4, rfl⟩ : ∃ u4, f = (upd (upd (upd (upd u4 1 (.int .i64 a1)) 2 (.int .i64 a2)) 7 v1) 76 (.bool ((t13 != 0) || (!t12)))) := ⟨f, by rw [upd_self hf1, upd_self hf2, upd_self hf7, upd_self hf76]⟩
                refine WL.nil ?_
                rcases ite_some hm with ⟨hc8, hm⟩ | ⟨hc8, hm⟩
                · refine W.cond_true (congrArg Value.bool hc8) ?_
                  refine W.seq ?_
                  refine W.region ?_
                  refine O.assign (v := (.bool false)) rfl rfl rfl ?_
                  refine WL.nil ?_
                  refine W.ret ?_
                  have hq : false = r0 := Option.some.inj (show some false = some r0 from hm)
                  subst hq
                  exact ends1 Try.results4 rfl ⟨_, rfl, H.base, rfl⟩
                · refine W.cond_false (congrArg Value.bool hc8) ?_
                  refine W.skip ?_
                  refine W.seq ?_
                  refine W.seq ?_
                  refine W.region ?_
                  refine O.move (v := (.int .i64 a1)) rfl rfl rfl ?_
                  refine O.lss rfl rfl rfl rfl ?_
                  refine O.move (v := (.bool (decide (a1 < 0)))) rfl rfl rfl ?_
                  refine WL.cut 5 (fun f w => f 1 = (.int .i64 a1) ∧ f 2 = (.int .i64 a2) ∧ f 7 = v1 ∧ f 84 = .bool ((decide (a1 < 0)) || (decide (((t2.length : Nat) : Int) ≤ a1))) ∧ Inv w0 w [ownI (α := Int) v1 3 t2, ownI (α := Int) v2 3 t4]) ?_ ?_
                  · skip
                    rcases bool_ft (decide (a1 < 0)) with hc9 | hc9
                    · skip
                      refine WL.reset (i := 79) (v := .bool false) (congrArg Value.bool hc9) ?_
                      refine O.move (v := (.int .i64 a1)) rfl rfl rfl ?_
                      refine O.move (v := v1) rfl rfl rfl ?_
                      refine O.lenS Try.underlying22 (H.own 0 rfl) rfl rfl rfl ?_
                      refine O.geq rfl rfl rfl rfl ?_
                      refine O.pick_false (v := (.bool (decide (((t2.length : Nat) : Int) ≤ a1)))) rfl rfl rfl rfl ?_
                      refine WL.nil ?_
                      exact ⟨rfl, rfl, rfl, congrArg Value.bool (or_f hc9), H⟩
                    · skip
                      refine WL.reset (i := 79) (v := .bool true) (congrArg Value.bool hc9) ?_
                      refine O.skip rfl rfl ?_
                      refine O.skip rfl rfl ?_
                      refine O.skip rfl rfl ?_
                      refine O.skip rfl rfl ?_
                      refine O.pick_true (v := (.bool true)) rfl rfl rfl rfl ?_
                      refine WL.nil ?_
                      exact ⟨rfl, rfl, rfl, congrArg Value.bool (or_t hc9), H⟩
                  · skip
                    rintro f w ⟨hf1, hf2, hf7, hf84, H⟩
                    obtain ⟨u5, rfl⟩ : ∃ u5, f = (upd (upd (upd (upd u5 1 (.int .i64 a1)) 2 (.int .i64 a2)) 7 v1) 84 (.bool ((decide (a1 < 0)) || (decide (((t2.length : Nat) : Int) ≤ a1))))) := ⟨f, by rw [upd_self hf1, upd_self hf2, upd_self hf7, upd_self hf84]⟩
                    refine O.move (v := (.bool ((decide (a1 < 0)) || (decide (((t2.length : Nat) : Int) ≤ a1))))) rfl rfl rfl ?_
                    refine WL.cut 3 (fun f w => f 1 = (.int .i64 a1) ∧ f 2 = (.int .i64 a2) ∧ f 7 = v1 ∧ f 88 = .bool (((decide (a1 < 0)) || (decide (((t2.length : Nat) : Int) ≤ a1))) || (decide (a2 < 0))) ∧ Inv w0 w [ownI (α := Int) v1 3 t2, ownI (α := Int) v2 3 t4]) ?_ ?_
                    · skip
                      rcases bool_ft ((decide (a1 < 0)) || (decide (((t2.length : Nat) : Int) ≤ a1))) with hc10 | hc10
                      · skip
                        refine WL.reset (i := 85) (v := .bool false) (congrArg Value.bool hc10) ?_
                        refine O.move (v := (.int .i64 a2)) rfl rfl rfl ?_
                        refine O.lss rfl rfl rfl rfl ?_
                        refine O.pick_false (v := (.bool (decide (a2 < 0)))) rfl rfl rfl rfl ?_
                        refine WL.nil ?_
                        exact ⟨rfl, rfl, rfl, congrArg Value.bool (or_f hc10), H⟩
                      · skip
                        refine WL.reset (i := 85) (v := .bool true) (congrArg Value.bool hc10) ?_
                        refine O.skip rfl rfl ?_
                        refine O.skip rfl rfl ?_
                        refine O.pick_true (v := (.bool true)) rfl rfl rfl rfl ?_
                        refine WL.nil ?_
                        exact ⟨rfl, rfl, rfl, congrArg Value.bool (or_t hc10), H⟩
                    · skip
                      rintro f w ⟨hf1, hf2, hf7, hf88, H⟩
                      obtain ⟨u6, rfl⟩ : ∃ u6, f = (upd (upd (upd (upd u6 1 (.int .i64 a1)) 2 (.int .i64 a2)) 7 v1) 88 (.bool (((decide (a1 < 0)) || (decide (((t2.length : Nat) : Int) ≤ a1))) || (decide (a2 < 0))))) := ⟨f, by rw [upd_self hf1, upd_self hf2, upd_self hf7, upd_self hf88]⟩
                      refine O.move (v := (.bool (((decide (a1 < 0)) || (decide (((t2.length : Nat) : Int) ≤ a1))) || (decide (a2 < 0))))) rfl rfl rfl ?_
                      refine WL.cut 3 (fun f w => f 1 = (.int .i64 a1) ∧ f 2 = (.int .i64 a2) ∧ f 7 = v1 ∧ f 92 = .bool ((((decide (a1 < 0)) || (decide (((t2.length : Nat) : Int) ≤ a1))) || (decide (a2 < 0))) || (decide (9 < a2))) ∧ Inv w0 w [ownI (α := Int) v1 3 t2, ownI (α := Int) v2 3 t4]) ?_ ?_
                      · skip
                        rcases bool_ft (((decide (a1 < 0)) || (decide (((t2.length : Nat) : Int) ≤ a1))) || (decide (a2 < 0))) with hc11 | hc11
                        · skip
                          refine WL.reset (i := 89) (v := .bool false) (congrArg Value.bool hc11) ?_
                          refine O.move (v := (.int .i64 a2)) rfl rfl rfl ?_
                          refine O.gtr rfl rfl rfl rfl ?_
                          refine O.pick_false (v := (.bool (decide (9 < a2)))) rfl rfl rfl rfl ?_
                          refine WL.nil ?_
                          exact ⟨rfl, rfl, rfl, congrArg Value.bool (or_f hc11), H⟩
                        · skip
                          refine WL.reset (i := 89) (v := .bool true) (congrArg Value.bool hc11) ?_
                          refine O.skip rfl rfl ?_
                          refine O.skip rfl rfl ?_
                          refine O.pick_true (v := (.bool true)) rfl rfl rfl rfl ?_
                          refine WL.nil ?_
                          exact ⟨rfl, rfl, rfl, congrArg Value.bool (or_t hc11), H⟩
                      · skip
                        rintro f w ⟨hf1, hf2, hf7, hf92, H⟩
                        obtain ⟨u7, rfl⟩ : ∃ u7, f = (upd (upd (upd (upd u7 1 (.int .i64 a1)) 2 (.int .i64 a2)) 7 v1) 92 (.bool ((((decide (a1 < 0)) || (decide (((t2.length : Nat) : Int) ≤ a1))) || (decide (a2 < 0))) || (decide (9 < a2))))) := ⟨f, by rw [upd_self hf1, upd_self hf2, upd_self hf7, upd_self hf92]⟩
                        refine O.move (v := (.bool ((((decide (a1 < 0)) || (decide (((t2.length : Nat) : Int) ≤ a1))) || (decide (a2 < 0))) || (decide (9 < a2))))) rfl rfl rfl ?_
                        obtain ⟨b1, hm1, hm⟩ := bind_some hm
                        refine WL.cut 7 (fun f w => f 1 = (.int .i64 a1) ∧ f 2 = (.int .i64 a2) ∧ f 7 = v1 ∧ f 100 = .bool b1 ∧ Inv w0 w [ownI (α := Int) v1 3 t2, ownI (α := Int) v2 3 t4]) ?_ ?_
                        · skip
                          rcases ite_some hm1 with ⟨hc12, hm1⟩ | ⟨hc12, hm1⟩
                          · skip
                            refine WL.reset (i := 93) (v := .bool true) (congrArg Value.bool hc12) ?_
                            refine O.skip rfl rfl ?_
                            refine O.skip rfl rfl ?_
                            refine O.skip rfl rfl ?_
                            refine O.skip rfl rfl ?_
                            refine O.skip rfl rfl ?_
                            refine O.skip rfl rfl ?_
                            refine O.pick_true (v := (.bool true)) rfl rfl rfl rfl ?_
                            refine WL.nil ?_
                            have hq : true = b1 := Option.some.inj (show some true = some b1 from hm1)
                            subst hq
                            exact ⟨rfl, rfl, rfl, rfl, H⟩
                          · skip
                            refine WL.reset (i := 93) (v := .bool false) (congrArg Value.bool hc12) ?_
                            refine O.move (v := v1) rfl rfl rfl ?_
                            refine O.move (v := (.int .i64 a1)) rfl rfl rfl ?_
                            obtain ⟨x1, hx1, hm1⟩ := bind_some hm1
                            refine O.indexAddr Try.underlying22 sz3 (H.own 0 rfl) hx1 rfl rfl rfl rfl ?_
                            intro p1 hp1
                            refine O.load sc3 rfl rfl rfl (hp1.flat 0 _ rfl) ?_
                            refine O.move (v := (.int .i64 a2)) rfl rfl rfl ?_
                            refine O.eql rfl rfl rfl rfl ?_
                            refine O.pick_false (v := (.bool (x1 == a2))) rfl rfl rfl rfl ?_
                            refine WL.nil ?_
                            have hq : (x1 == a2) = b1 := Option.some.inj (show some (x1 == a2) = some b1 from hm1)
                            subst hq
                            exact ⟨rfl, rfl, rfl, rfl, H⟩
                        · skip
                          rintro f w ⟨hf1, hf2, hf7, hf100, H⟩
                          obtain ⟨u8, rfl⟩ : ∃ u8, f = (upd (upd (upd (upd u8 1 (.int .i64 a1)) 2 (.int .i64 a2)) 7 v1) 100 (.bool b1)) := ⟨f, by rw [upd_self hf1, upd_self hf2, upd_self hf7, upd_self hf100]⟩
                          refine WL.nil ?_
                          rcases ite_some hm with ⟨hc13, hm⟩ | ⟨hc13, hm⟩
                          · refine W.cond_true (congrArg Value.bool hc13) ?_
                            refine W.seq ?_
                            refine W.region ?_
                            obtain ⟨t14, hy9, hm⟩ := bind_some hm
                            refine O.call Try.call9 rfl rfl rfl (c_noongunlaw07_awake  hy9) ?_
                            rintro _ w9 hb9 rfl
                            have H := H.ext hb9
                            refine O.assign (v := (.bool t14)) rfl rfl rfl ?_
                            refine WL.nil ?_
                            refine W.ret ?_
                            have hq : t14 = r0 := Option.some.inj (show some t14 = some r0 from hm)
                            subst hq
                            exact ends1 Try.results4 rfl ⟨_, rfl, H.base, rfl⟩
                          · refine W.cond_false (congrArg Value.bool hc13) ?_
                            refine W.skip ?_
                            refine W.seq ?_
                            refine W.region ?_
                            refine O.buildEmpty (α := Int) Try.underlying22 el3 H rfl rfl ?_
                            intro b2 w10 H hb10
                            refine O.move (v := v1) rfl rfl rfl ?_
                            obtain ⟨t15, ht15, hm⟩ := bind_some hm
                            refine O.append 2 Try.underlying22 el3 rfl H rfl (H.own 0 rfl) ht15 rfl rfl rfl rfl ?_
                            intro v3 w11 H
                            refine O.assign (v := v3) rfl rfl rfl ?_
                            refine WL.nil ?_
                            refine W.seq ?_
                            refine W.region ?_
                            refine O.move (v := v3) rfl rfl rfl ?_
                            refine O.move (v := (.int .i64 a1)) rfl rfl rfl ?_
                            refine O.move (v := (.int .i64 a2)) rfl rfl rfl ?_
                            obtain ⟨x2, hx2, hm⟩ := bind_some hm
                            refine O.indexOwn 2 Try.underlying22 sz3 H rfl hx2 rfl rfl rfl rfl ?_
                            intro b3 hob1 hp2
                            refine O.storeOwn (α := Int) (i0 := a1) (x0 := x2) 2 0 a2 [(.int .i64 a2)] sz3 H rfl hob1 hx2 rfl rfl rfl rfl rfl rfl rfl rfl (one_cons rfl one_nil) ?_
                            intro w12 H
                            clear hp2
                            refine WL.nil ?_
                            refine W.seq ?_
                            refine W.region ?_
                            refine O.move (v := v3) rfl rfl rfl ?_
                            obtain ⟨⟨t16, t17⟩, hy10, hm⟩ := bind_some hm
                            refine O.call Try.call21 rfl rfl rfl (c_flag_Right _ _ (H.own 2 rfl) hy10) ?_
                            rintro _ w13 hb11 rfl
                            have H := H.ext hb11
                            refine O.move (v := (.tuple #[(.bool t16), (.int .i64 t17)])) rfl rfl rfl ?_
                            refine O.extract (v := (.bool t16)) rfl rfl rfl rfl ?_
                            refine O.extract (v := (.int .i64 t17)) rfl rfl rfl rfl ?_
                            refine O.assign (v := (.bool t16)) rfl rfl rfl ?_
                            refine O.assign (v := (.int .i64 t17)) rfl rfl rfl ?_
                            refine WL.nil ?_
                            refine W.seq ?_
                            refine W.region ?_
                            refine O.move (v := (.int .i64 t17)) rfl rfl rfl ?_
                            refine O.eql rfl rfl rfl rfl ?_
                            refine O.move (v := (.bool (t17 == 0))) rfl rfl rfl ?_
                            refine WL.cut 3 (fun f w => f 119 = .bool ((t17 == 0) && (!t16)) ∧ Inv w0 w [ownI (α := Int) v1 3 t2, ownI (α := Int) v2 3 t4, ownI (α := Int) v3 3 (t15.set (Int.toNat a1) a2)]) ?_ ?_
                            · skip
                              rcases bool_ft (t17 == 0) with hc14 | hc14
                              · skip
                                refine WL.reset (i := 116) (v := .bool false) (congrArg Value.bool hc14) ?_
                                refine O.skip rfl rfl ?_
                                refine O.skip rfl rfl ?_
                                refine O.pick_false (v := (.bool false)) rfl rfl rfl rfl ?_
                                refine WL.nil ?_
                                exact ⟨congrArg Value.bool (and_f hc14), H⟩
                              · skip
                                refine WL.reset (i := 116) (v := .bool true) (congrArg Value.bool hc14) ?_
                                refine O.move (v := (.bool t16)) rfl rfl rfl ?_
                                refine O.not rfl rfl rfl ?_
                                refine O.pick_true (v := (.bool (!t16))) rfl rfl rfl rfl ?_
                                refine WL.nil ?_
                                exact ⟨congrArg Value.bool (and_t hc14), H⟩
                            · skip
                              rintro f w ⟨hf119, H⟩
                              obtain ⟨u9, rfl⟩ : ∃ u9, f = (upd u9 119 (.bool ((t17 == 0) && (!t16)))) := ⟨f, by rw [upd_self hf119]⟩
                              refine O.move (v := (.bool ((t17 == 0) && (!t16)))) rfl rfl rfl ?_
                              obtain ⟨b4, hm2, hm⟩ := bind_some hm
                              refine WL.cut 2 (fun f w => f 122 = .bool b4 ∧ Inv w0 w [ownI (α := Int) v1 3 t2, ownI (α := Int) v2 3 t4, ownI (α := Int) v3 3 (t15.set (Int.toNat a1) a2)]) ?_ ?_
                              · skip
                                rcases ite_some hm2 with ⟨hc15, hm2⟩ | ⟨hc15, hm2⟩
                                · skip
                                  refine WL.reset (i := 120) (v := .bool true) (congrArg Value.bool hc15) ?_
                                  obtain ⟨t18, hy11, hm2⟩ := bind_some hm2
                                  refine O.call Try.call9 rfl rfl rfl (c_noongunlaw07_awake  hy11) ?_
                                  rintro _ w14 hb12 rfl
                                  have H := H.ext hb12
                                  refine O.pick_true (v := (.bool t18)) rfl rfl rfl rfl ?_
                                  refine WL.nil ?_
                                  have hq : t18 = b4 := Option.some.inj (show some t18 = some b4 from hm2)
                                  subst hq
                                  exact ⟨rfl, H⟩
                                · skip
                                  refine WL.reset (i := 120) (v := .bool false) (congrArg Value.bool hc15) ?_
                                  refine O.skip rfl rfl ?_
                                  refine O.pick_false (v := (.bool false)) rfl rfl rfl rfl ?_
                                  refine WL.nil ?_
                                  have hq : false = b4 := Option.some.inj (show some false = some b4 from hm2)
                                  subst hq
                                  exact ⟨rfl, H⟩
                              · skip
                                rintro f w ⟨hf122, H⟩
                                obtain ⟨u10, rfl⟩ : ∃ u10, f = (upd u10 122 (.bool b4)) := ⟨f, by rw [upd_self hf122]⟩
                                refine O.assign (v := (.bool b4)) rfl rfl rfl ?_
                                refine WL.nil ?_
                                refine W.ret ?_
                                have hq : b4 = r0 := Option.some.inj (show some b4 = some r0 from hm)
                                subst hq
                                exact ends1 Try.results4 rfl ⟨_, rfl, H.base, rfl⟩

theorem c_flag_isSet {w0 : World} (a0 : Int) {r0 : Bool} (hm : flag_isSet a0 = some r0) :
    Calls Try.prog 43 #[(.int .i64 a0)] w0 (Ret w0 fun _ v => v = (.bool r0)) := by
  unfold flag_isSet at hm
  refine calls_of_W Try.func43 rfl Try.ntmps43 (Nat.le_of_ble_eq_true rfl) ?_
  have H := Inv.start (w := w0)
  refine W.seq ?_
  refine W.region ?_
  refine O.assign (v := (.bool false)) rfl rfl rfl ?_
  refine WL.nil ?_
  refine W.seq ?_
  refine W.region ?_
  refine O.move (v := (.int .i64 a0)) rfl rfl rfl ?_
  obtain ⟨t1, hy1, hm⟩ := bind_some hm
  refine O.call Try.call42 rfl rfl rfl (c_flag_within _ _ _ hy1) ?_
  rintro _ w1 hb1 rfl
  have H := H.ext hb1
  refine O.assign (v := (.bool t1)) rfl rfl rfl ?_
  refine WL.nil ?_
  refine W.ret ?_
  have hq : t1 = r0 := Option.some.inj (show some t1 = some r0 from hm)
  subst hq
  exact ends1 Try.results43 rfl ⟨_, rfl, H.base, rfl⟩

theorem c_flag_asked {w0 : World} (va0 : Value) (a0 : (List Int)) (ha0 : SliceR w0 va0 a0) (a1 : Int) {r0 : Int} (hm : flag_asked a0 a1 = some r0) :
    Calls Try.prog 47 #[va0, (.int .i64 a1)] w0 (Ret w0 fun _ v => v = (.int .i64 r0)) := by
  unfold flag_asked at hm
  refine calls_of_W Try.func47 rfl Try.ntmps47 (Nat.le_of_ble_eq_true rfl) ?_
  have H := Inv.start (w := w0)
  refine W.seq ?_
  refine W.region ?_
  refine O.assign (v := (.int .i64 0)) rfl rfl rfl ?_
  refine WL.nil ?_
  refine W.seq ?_
  refine W.block ?_
  refine W.seq ?_
  refine W.region ?_
  refine O.move (v := va0) rfl rfl rfl ?_
  obtain ⟨t1, hy1, hm⟩ := bind_some hm
  refine O.call Try.call14 rfl rfl rfl (c_flag_ValidDigits _ _ (H.arg ha0) hy1) ?_
  rintro _ w1 hb1 rfl
  have H := H.ext hb1
  refine O.not rfl rfl rfl ?_
  refine O.assign (v := (.bool (!t1))) rfl rfl rfl ?_
  refine WL.nil ?_
  rcases ite_some hm with ⟨hc1, hm⟩ | ⟨hc1, hm⟩
  · refine W.cond_true (congrArg Value.bool hc1) ?_
    refine W.seq ?_
    refine W.region ?_
    refine O.assign (v := (.int .i64 1)) rfl rfl rfl ?_
    refine WL.nil ?_
    refine W.ret ?_
    have hq : 1 = r0 := Option.some.inj (show some 1 = some r0 from hm)
    subst hq
    exact ends1 Try.results47 rfl ⟨_, rfl, H.base, rfl⟩
  · refine W.cond_false (congrArg Value.bool hc1) ?_
    refine W.seq ?_
    refine W.region ?_
    refine O.move (v := (.int .i64 a1)) rfl rfl rfl ?_
    obtain ⟨t2, hy2, hm⟩ := bind_some hm
    refine O.call Try.call43 rfl rfl rfl (c_flag_isSet _ hy2) ?_
    rintro _ w2 hb2 rfl
    have H := H.ext hb2
    refine O.not rfl rfl rfl ?_
    refine O.assign (v := (.bool (!t2))) rfl rfl rfl ?_
    refine WL.nil ?_
    rcases ite_some hm with ⟨hc2, hm⟩ | ⟨hc2, hm⟩
    · refine W.cond_true (congrArg Value.bool hc2) ?_
      refine W.seq ?_
      refine W.region ?_
      refine O.assign (v := (.int .i64 7)) rfl rfl rfl ?_
      refine WL.nil ?_
      refine W.ret ?_
      have hq : 7 = r0 := Option.some.inj (show some 7 = some r0 from hm)
      subst hq
      exact ends1 Try.results47 rfl ⟨_, rfl, H.base, rfl⟩
    · refine W.cond_false (congrArg Value.bool hc2) ?_
      refine W.skip ?_
      refine W.seq ?_
      refine W.region ?_
      refine O.assign (v := (.int .i64 0)) rfl rfl rfl ?_
      refine WL.nil ?_
      refine W.ret ?_
      have hq : 0 = r0 := Option.some.inj (show some 0 = some r0 from hm)
      subst hq
      exact ends1 Try.results47 rfl ⟨_, rfl, H.base, rfl⟩

theorem c_flag_build {wi : World} {Kp : World → Prop} {pc0 : Addr} {vc0 : Value} {c0 : List Int} {l : Nat} {J : List (List Int) → (Nat → Prop) → World → Prop} {Jx : (Nat → Prop) → World → Prop} {r : List (List Int)}
    (hc : Client Try.prog wi.heap.size l repS (fun ys => ys = r) Kp J Jx)
    (hk : ∀ w, Kp w → (∀ j c, [vc0][j]? = some c → w.cell? (pc0.add j) = some c) ∧ SliceR w vc0 c0) (hlen : c0.length ≤ 1000) {bh bY bb : Nat} :
    ∀ (n : Nat) (pre : List (List Int)) (C : Nat → Prop) (w : World) (vh : Value) (hs : List Int) (left : Int),
      InvI wi w [consI hc pre C, boxI bY 29 [Value.func (.yield l) #[] #[]], boxI bh 22 [vh], boxI bb 48 [Value.func (.func 54) #[] #[.pointer (some ⟨bh, 0, none⟩), .pointer (some pc0), .pointer (some ⟨bY, 0, none⟩), .pointer (some ⟨bb, 0, none⟩)]], ownI vh 3 hs] →
      hs.length + n = c0.length → (∃ rest, pre ++ hoistsG c0 n hs left ++ rest = r) →
      Calls Try.prog 54 #[.int .i64 left, .pointer (some ⟨bh, 0, none⟩), .pointer (some pc0), .pointer (some ⟨bY, 0, none⟩), .pointer (some ⟨bb, 0, none⟩)] w fun e w' => ∃ u, e = .returned u ∧
        ((u = .bool true ∧ ∃ C' vh', InvI wi w' [consI hc (pre ++ hoistsG c0 n hs left) C', boxI bY 29 [Value.func (.yield l) #[] #[]], boxI bh 22 [vh'], boxI bb 48 [Value.func (.func 54) #[] #[.pointer (some ⟨bh, 0, none⟩), .pointer (some pc0), .pointer (some ⟨bY, 0, none⟩), .pointer (some ⟨bb, 0, none⟩)]], ownI vh' 3 hs]) ∨
         (u = .bool false ∧ ∃ C', InvI wi w' [consX hc C'])) := by
  intro n
  induction n with
  | zero =>
    intro pre C w vh hs left H hn hr
    refine calls_of_W Try.func54 rfl Try.ntmps54 (Nat.le_of_ble_eq_true rfl) ?_
    have hK := hk _ (InvI.kp H)
    have hlenH := (H.own 4 rfl).len_le
    refine W.seq ?_
    refine W.region ?_
    refine O.assign (v := .bool false) rfl rfl rfl ?_
    refine WL.nil ?_
    refine W.seq ?_
    refine W.region ?_
    refine O.load (q := ⟨bh, 0, none⟩) (v := vh) sc22 rfl rfl rfl (H.cell 2 rfl 0 _ rfl) ?_
    refine O.lenS Try.underlying22 (H.own 4 rfl) rfl rfl rfl ?_
    refine O.assign (v := .int .i64 (hs.length : Int)) rfl rfl rfl ?_
    refine WL.nil ?_
    refine W.seq ?_
    refine W.seq ?_
    refine W.region ?_
    refine O.move (v := .int .i64 (hs.length : Int)) rfl rfl rfl ?_
    refine O.load (q := pc0) (v := vc0) sc22 rfl rfl rfl (hK.1 0 _ rfl) ?_
    refine O.lenS Try.underlying22 hK.2 rfl rfl rfl ?_
    refine O.eql rfl rfl rfl rfl ?_
    refine WL.nil ?_
    refine W.cond_true (congrArg Value.bool (by rw [beq_iff_eq]; omega)) ?_
    refine W.seq ?_
    refine W.region ?_
    refine O.load (q := ⟨bY, 0, none⟩) (v := .func (.yield l) #[] #[]) sc29 rfl rfl rfl (H.cell 1 rfl 0 _ rfl) ?_
    refine O.load (q := ⟨bh, 0, none⟩) (v := vh) sc22 rfl rfl rfl (H.cell 2 rfl 0 _ rfl) ?_
    refine O.yield hs [vh] H (by obtain ⟨rest, hr⟩ := hr; exact ⟨rest, by rw [hoistsG, List.append_assoc] at hr; exact hr⟩) ⟨vh, rfl, H.own 4 rfl⟩ rfl rfl rfl rfl ?_ ?_
    · intro w' C' H
      refine O.assign (v := .bool true) rfl rfl rfl ?_
      refine WL.nil ?_
      refine W.ret ?_
      exact ends1 Try.results54 rfl ⟨_, rfl, .inl ⟨rfl, C', vh, H⟩⟩
    · intro w' C' H
      refine O.assign (v := .bool false) rfl rfl rfl ?_
      refine WL.nil ?_
      refine W.ret ?_
      exact ends1 Try.results54 rfl ⟨_, rfl, .inr ⟨rfl, C', H.pick [0] [consX hc C'] rfl (by decide)⟩⟩
  | succ n ih =>
    intro pre C w vh hs left H hn hr
    refine calls_of_W Try.func54 rfl Try.ntmps54 (Nat.le_of_ble_eq_true rfl) ?_
    have hK := hk _ (InvI.kp H)
    have hlt0 : hs.length < c0.length := by omega
    obtain ⟨dg, hdg⟩ : ∃ dg, idx c0 (hs.length : Int) = some dg := ⟨_, idx_at (List.getElem?_eq_getElem hlt0)⟩
    refine W.seq ?_
    refine W.region ?_
    refine O.assign (v := .bool false) rfl rfl rfl ?_
    refine WL.nil ?_
    refine W.seq ?_
    refine W.region ?_
    refine O.load (q := ⟨bh, 0, none⟩) (v := vh) sc22 rfl rfl rfl (H.cell 2 rfl 0 _ rfl) ?_
    refine O.lenS Try.underlying22 (H.own 4 rfl) rfl rfl rfl ?_
    refine O.assign (v := .int .i64 (hs.length : Int)) rfl rfl rfl ?_
    refine WL.nil ?_
    refine W.seq ?_
    refine W.seq ?_
    refine W.region ?_
    refine O.move (v := .int .i64 (hs.length : Int)) rfl rfl rfl ?_
    refine O.load (q := pc0) (v := vc0) sc22 rfl rfl rfl (hK.1 0 _ rfl) ?_
    refine O.lenS Try.underlying22 hK.2 rfl rfl rfl ?_
    refine O.eql rfl rfl rfl rfl ?_
    refine WL.nil ?_
    refine W.cond_false (congrArg Value.bool (by rw [beq_eq_false_iff_ne]; omega)) ?_
    refine W.skip ?_
    refine W.seq ?_
    refine W.seq ?_
    refine W.region ?_
    refine O.move (v := .int .i64 0) rfl rfl rfl ?_
    refine WL.nil ?_
    refine W.via (fun f w => f 7 = .int .i64 (hs.length : Int) ∧ ∃ C' vh', InvI wi w [consI hc (pre ++ hoistsG c0 (n + 1) hs left) C', boxI bY 29 [Value.func (.yield l) #[] #[]], boxI bh 22 [vh'], boxI bb 48 [Value.func (.func 54) #[] #[.pointer (some ⟨bh, 0, none⟩), .pointer (some pc0), .pointer (some ⟨bY, 0, none⟩), .pointer (some ⟨bb, 0, none⟩)]], ownI vh' 3 hs]) ?_ ?_
    · refine W.block ?_
      refine W.loopL (l := List.range 13) (fun rem f w => ∃ ik : Nat, (List.range 13).drop ik = rem ∧ f 19 = .int .i64 (ik : Int) ∧ f 0 = .int .i64 left ∧ f 1 = .pointer (some ⟨bh, 0, none⟩) ∧ f 2 = .pointer (some pc0) ∧ f 3 = .pointer (some ⟨bY, 0, none⟩) ∧ f 4 = .pointer (some ⟨bb, 0, none⟩) ∧ f 7 = .int .i64 (hs.length : Int) ∧
        ∃ C' vh', InvI wi w [consI hc (pre ++ ((List.range 13).take ik).flatMap fun f => if hoistsOk c0 hs left f then hoistsG c0 n (hs ++ [(f : Int)]) (bits .andNot .i64 left (2 ^ f)) else []) C', boxI bY 29 [Value.func (.yield l) #[] #[]], boxI bh 22 [vh'], boxI bb 48 [Value.func (.func 54) #[] #[.pointer (some ⟨bh, 0, none⟩), .pointer (some pc0), .pointer (some ⟨bY, 0, none⟩), .pointer (some ⟨bb, 0, none⟩)]], ownI vh' 3 hs]) ?_ ?_ ?_
      · exact ⟨0, rfl, rfl, rfl, rfl, rfl, rfl, rfl, rfl, C, vh, by simpa using H⟩
      · rintro y xs f w ⟨ik, hd, hf19, hf0, hf1, hf2, hf3, hf4, hf7, C, vh, H⟩
        have hy : y = ik ∧ ik < 13 := by
          have h := congrArg (fun m => m[0]?) hd
          simp only [List.getElem?_drop, Nat.add_zero, List.getElem?_cons_zero] at h
          have h13 := (List.getElem?_eq_some_iff.1 h).1
          rw [List.length_range] at h13
          rw [List.getElem?_range h13] at h
          exact ⟨(Option.some.inj h).symm, h13⟩
        obtain ⟨rfl, h13⟩ := hy
        obtain ⟨u1, rfl⟩ : ∃ u1, f = (upd (upd (upd (upd (upd (upd (upd u1 19 (.int .i64 (y : Int))) 0 (.int .i64 left)) 1 (.pointer (some ⟨bh, 0, none⟩))) 2 (.pointer (some pc0))) 3 (.pointer (some ⟨bY, 0, none⟩))) 4 (.pointer (some ⟨bb, 0, none⟩))) 7 (.int .i64 (hs.length : Int))) :=
          ⟨f, by rw [upd_self hf19, upd_self hf0, upd_self hf1, upd_self hf2, upd_self hf3, upd_self hf4, upd_self hf7]⟩
        have hK := hk _ (InvI.kp H)
        have hinc : addI (y : Int) 1 = some ((y : Int) + 1) := addI_ok (by omega)
        have htake : (List.range 13).take (y + 1) = (List.range 13).take y ++ [y] := by
          rw [List.take_add_one, List.getElem?_range h13]; rfl
        obtain ⟨p1, hp1, hr1⟩ := fix_indexAddr Try.underlying22 sz3 hK.2 hdg
        refine W.seq ?_
        refine W.region ?_
        refine O.lss rfl rfl rfl rfl ?_
        refine WL.nil ?_
        refine W.seq ?_
        refine W.cond_true (congrArg Value.bool (decide_eq_true (by omega))) ?_
        refine W.skip ?_
        refine W.seq ?_
        -- the round
        refine W.via (fun f w => f 19 = .int .i64 (y : Int) ∧ f 0 = .int .i64 left ∧ f 1 = .pointer (some ⟨bh, 0, none⟩) ∧ f 2 = .pointer (some pc0) ∧ f 3 = .pointer (some ⟨bY, 0, none⟩) ∧ f 4 = .pointer (some ⟨bb, 0, none⟩) ∧ f 7 = .int .i64 (hs.length : Int) ∧
          ∃ C' vh', InvI wi w [consI hc (pre ++ ((List.range 13).take (y + 1)).flatMap fun f => if hoistsOk c0 hs left f then hoistsG c0 n (hs ++ [(f : Int)]) (bits .andNot .i64 left (2 ^ f)) else []) C', boxI bY 29 [Value.func (.yield l) #[] #[]], boxI bh 22 [vh'], boxI bb 48 [Value.func (.func 54) #[] #[.pointer (some ⟨bh, 0, none⟩), .pointer (some pc0), .pointer (some ⟨bY, 0, none⟩), .pointer (some ⟨bb, 0, none⟩)]], ownI vh' 3 hs]) ?_ ?_
        · refine W.block ?_
          refine W.seq ?_
          refine W.region ?_
          refine O.move (v := .int .i64 (y : Int)) rfl rfl rfl ?_
          refine O.assign (v := .int .i64 (y : Int)) rfl rfl rfl ?_
          refine WL.nil ?_
          refine W.seq ?_
          refine W.region ?_
          refine O.move (v := .int .i64 (y : Int)) rfl rfl rfl ?_
          refine O.load (q := pc0) (v := vc0) sc22 rfl rfl rfl (hK.1 0 _ rfl) ?_
          refine O.move (v := .int .i64 (hs.length : Int)) rfl rfl rfl ?_
          refine hr1 rfl rfl rfl rfl ?_
          refine O.load sc3 rfl rfl rfl (hp1.flat 0 _ rfl) ?_
          refine O.eql rfl rfl rfl rfl ?_
          refine O.assign (v := .bool ((y : Int) == dg)) rfl rfl rfl ?_
          refine WL.nil ?_
          refine W.seq ?_
          -- does the flag fit?
          refine W.via (fun f w' => w'.heap.size = w'.heap.size ∧ f 9 = .bool (hoistsFit c0 hs (y : Int)) ∧ f 8 = .int .i64 (y : Int) ∧ f 19 = .int .i64 (y : Int) ∧ f 0 = .int .i64 left ∧ f 1 = .pointer (some ⟨bh, 0, none⟩) ∧ f 2 = .pointer (some pc0) ∧ f 3 = .pointer (some ⟨bY, 0, none⟩) ∧ f 4 = .pointer (some ⟨bb, 0, none⟩) ∧ f 7 = .int .i64 (hs.length : Int) ∧
            InvI wi w' [consI hc (pre ++ ((List.range 13).take y).flatMap fun f => if hoistsOk c0 hs left f then hoistsG c0 n (hs ++ [(f : Int)]) (bits .andNot .i64 left (2 ^ f)) else []) C, boxI bY 29 [Value.func (.yield l) #[] #[]], boxI bh 22 [vh], boxI bb 48 [Value.func (.func 54) #[] #[.pointer (some ⟨bh, 0, none⟩), .pointer (some pc0), .pointer (some ⟨bY, 0, none⟩), .pointer (some ⟨bb, 0, none⟩)]], ownI vh 3 hs]) ?_ ?_
          · refine W.seq ?_
            refine W.region ?_
            refine O.move (v := .int .i64 (y : Int)) rfl rfl rfl ?_
            refine O.geq rfl rfl rfl rfl ?_
            refine WL.nil ?_
            by_cases h10 : (10 : Int) ≤ (y : Int)
            · refine W.cond_true (congrArg Value.bool (decide_eq_true h10)) ?_
              have hpl : flag_place (y : Int) = some ((y : Int) - 10) := by unfold flag_place; rw [subI_ok (by omega)]; rfl
              by_cases hb : (y : Int) - 10 < (hs.length : Int)
              · obtain ⟨e1, he1⟩ : ∃ e1, idx c0 ((y : Int) - 10) = some e1 := ⟨_, idx_int (by omega) (by omega)⟩
                obtain ⟨p2, hp2, hr2⟩ := fix_indexAddr Try.underlying22 sz3 hK.2 he1
                have hfit : (e1 == dg) = hoistsFit c0 hs (y : Int) := by
                  unfold hoistsFit
                  rw [if_pos h10, decide_eq_true hb, he1, hdg, Bool.true_and]; rfl
                refine W.drawN 16 (fun f => f 45 = .bool (e1 == dg) ∧ f 8 = .int .i64 (y : Int) ∧ f 19 = .int .i64 (y : Int) ∧ f 0 = .int .i64 left ∧ f 1 = .pointer (some ⟨bh, 0, none⟩) ∧ f 2 = .pointer (some pc0) ∧ f 3 = .pointer (some ⟨bY, 0, none⟩) ∧ f 4 = .pointer (some ⟨bb, 0, none⟩) ∧ f 7 = .int .i64 (hs.length : Int)) fol (by kernel_rfl) ?_ ?_
                · refine PL.of (fun _ wk _ hx => O.move (v := .int .i64 (y : Int)) rfl rfl rfl (WL.nil ⟨rfl, hx⟩)) ?_
                  refine PL.of (fun _ wk _ hx => O.call Try.call38 rfl rfl rfl (c_flag_place _ hpl) (by rintro _ _ hb rfl; exact WL.nil ⟨rfl, hx.trans (hb.mono hx.size)⟩)) ?_
                  refine PL.of (fun _ wk _ hx => O.move (v := .int .i64 (hs.length : Int)) rfl rfl rfl (WL.nil ⟨rfl, hx⟩)) ?_
                  refine PL.of (fun _ wk _ hx => O.lss rfl rfl rfl rfl (WL.nil ⟨rfl, hx⟩)) ?_
                  refine PL.of (fun _ wk _ hx => O.move (v := .bool (decide ((y : Int) - 10 < (hs.length : Int)))) rfl rfl rfl (WL.nil ⟨rfl, hx⟩)) ?_
                  refine PL.reset (i := 34) (v := .bool true) (congrArg Value.bool (decide_eq_true hb)) ?_
                  refine PL.of (fun _ wk _ hx => O.load (q := pc0) (v := vc0) sc22 rfl rfl rfl ((hk _ (InvI.kp (H.ext hx))).1 0 _ rfl) (WL.nil ⟨rfl, hx⟩)) ?_
                  refine PL.of (fun _ wk _ hx => O.move (v := .int .i64 (y : Int)) rfl rfl rfl (WL.nil ⟨rfl, hx⟩)) ?_
                  refine PL.of (fun _ wk _ hx => O.call Try.call38 rfl rfl rfl (c_flag_place _ hpl) (by rintro _ _ hb rfl; exact WL.nil ⟨rfl, hx.trans (hb.mono hx.size)⟩)) ?_
                  refine PL.of (fun _ wk _ hx => hr2 rfl rfl rfl rfl (WL.nil ⟨rfl, hx⟩)) ?_
                  refine PL.of (fun _ wk _ hx => O.load sc3 rfl rfl rfl ((hp2.mono hx).flat 0 _ rfl) (WL.nil ⟨rfl, hx⟩)) ?_
                  refine PL.of (fun _ wk _ hx => O.load (q := pc0) (v := vc0) sc22 rfl rfl rfl ((hk _ (InvI.kp (H.ext hx))).1 0 _ rfl) (WL.nil ⟨rfl, hx⟩)) ?_
                  refine PL.of (fun _ wk _ hx => O.move (v := .int .i64 (hs.length : Int)) rfl rfl rfl (WL.nil ⟨rfl, hx⟩)) ?_
                  refine PL.of (fun _ wk _ hx => hr1 rfl rfl rfl rfl (WL.nil ⟨rfl, hx⟩)) ?_
                  refine PL.of (fun _ wk _ hx => O.load sc3 rfl rfl rfl ((hp1.mono hx).flat 0 _ rfl) (WL.nil ⟨rfl, hx⟩)) ?_
                  refine PL.of (fun _ wk _ hx => O.eql rfl rfl rfl rfl (WL.nil ⟨rfl, hx⟩)) ?_
                  refine PL.of (fun _ wk _ hx => O.pick_true (v := .bool (e1 == dg)) rfl rfl rfl rfl (WL.nil ⟨rfl, hx⟩)) ?_
                  exact ⟨rfl, rfl, rfl, rfl, rfl, rfl, rfl, rfl, rfl⟩
                · rintro f wk ⟨hf45, hf8, hf19, hf0, hf1, hf2, hf3, hf4, hf7⟩ _ hx
                  refine O.assign (v := .bool (e1 == dg)) rfl rfl hf45 ?_
                  refine WL.nil ?_
                  exact ⟨rfl, congrArg Value.bool hfit, hf8, hf19, hf0, hf1, hf2, hf3, hf4, hf7, H.ext hx⟩
              · have hfit : false = hoistsFit c0 hs (y : Int) := by
                  unfold hoistsFit
                  rw [if_pos h10, decide_eq_false hb, Bool.false_and]
                refine W.drawN 16 (fun f => f 45 = .bool false ∧ f 8 = .int .i64 (y : Int) ∧ f 19 = .int .i64 (y : Int) ∧ f 0 = .int .i64 left ∧ f 1 = .pointer (some ⟨bh, 0, none⟩) ∧ f 2 = .pointer (some pc0) ∧ f 3 = .pointer (some ⟨bY, 0, none⟩) ∧ f 4 = .pointer (some ⟨bb, 0, none⟩) ∧ f 7 = .int .i64 (hs.length : Int)) fol (by kernel_rfl) ?_ ?_
                · refine PL.of (fun _ wk _ hx => O.move (v := .int .i64 (y : Int)) rfl rfl rfl (WL.nil ⟨rfl, hx⟩)) ?_
                  refine PL.of (fun _ wk _ hx => O.call Try.call38 rfl rfl rfl (c_flag_place _ hpl) (by rintro _ _ hb rfl; exact WL.nil ⟨rfl, hx.trans (hb.mono hx.size)⟩)) ?_
                  refine PL.of (fun _ wk _ hx => O.move (v := .int .i64 (hs.length : Int)) rfl rfl rfl (WL.nil ⟨rfl, hx⟩)) ?_
                  refine PL.of (fun _ wk _ hx => O.lss rfl rfl rfl rfl (WL.nil ⟨rfl, hx⟩)) ?_
                  refine PL.of (fun _ wk _ hx => O.move (v := .bool (decide ((y : Int) - 10 < (hs.length : Int)))) rfl rfl rfl (WL.nil ⟨rfl, hx⟩)) ?_
                  refine PL.reset (i := 34) (v := .bool false) (congrArg Value.bool (decide_eq_false hb)) ?_
                  refine PL.of (fun _ wk _ hx => O.skip rfl rfl (WL.nil ⟨rfl, hx⟩)) ?_
                  refine PL.of (fun _ wk _ hx => O.skip rfl rfl (WL.nil ⟨rfl, hx⟩)) ?_
                  refine PL.of (fun _ wk _ hx => O.skip rfl rfl (WL.nil ⟨rfl, hx⟩)) ?_
                  refine PL.of (fun _ wk _ hx => O.skip rfl rfl (WL.nil ⟨rfl, hx⟩)) ?_
                  refine PL.of (fun _ wk _ hx => O.skip rfl rfl (WL.nil ⟨rfl, hx⟩)) ?_
                  refine PL.of (fun _ wk _ hx => O.skip rfl rfl (WL.nil ⟨rfl, hx⟩)) ?_
                  refine PL.of (fun _ wk _ hx => O.skip rfl rfl (WL.nil ⟨rfl, hx⟩)) ?_
                  refine PL.of (fun _ wk _ hx => O.skip rfl rfl (WL.nil ⟨rfl, hx⟩)) ?_
                  refine PL.of (fun _ wk _ hx => O.skip rfl rfl (WL.nil ⟨rfl, hx⟩)) ?_
                  refine PL.of (fun _ wk _ hx => O.skip rfl rfl (WL.nil ⟨rfl, hx⟩)) ?_
                  refine PL.of (fun _ wk _ hx => O.pick_false (v := .bool false) rfl rfl rfl rfl (WL.nil ⟨rfl, hx⟩)) ?_
                  exact ⟨rfl, rfl, rfl, rfl, rfl, rfl, rfl, rfl, rfl⟩
                · rintro f wk ⟨hf45, hf8, hf19, hf0, hf1, hf2, hf3, hf4, hf7⟩ _ hx
                  refine O.assign (v := .bool false) rfl rfl hf45 ?_
                  refine WL.nil ?_
                  exact ⟨rfl, congrArg Value.bool hfit, hf8, hf19, hf0, hf1, hf2, hf3, hf4, hf7, H.ext hx⟩
            · refine W.cond_false (congrArg Value.bool (decide_eq_false h10)) ?_
              refine W.skip ?_
              have hfit : ((y : Int) == dg) = hoistsFit c0 hs (y : Int) := by
                unfold hoistsFit
                rw [if_neg h10, hdg, Bool.eq_iff_iff, beq_iff_eq, beq_iff_eq, Option.some.injEq]
                exact ⟨Eq.symm, Eq.symm⟩
              exact ⟨rfl, congrArg Value.bool hfit, rfl, rfl, rfl, rfl, rfl, rfl, rfl, rfl, H⟩
          · rintro f w ⟨_, hf9, hf8, hf19, hf0, hf1, hf2, hf3, hf4, hf7, H⟩
            obtain ⟨u1, rfl⟩ : ∃ u1, f = (upd (upd (upd (upd (upd (upd (upd (upd (upd u1 9 (.bool (hoistsFit c0 hs (y : Int)))) 8 (.int .i64 (y : Int))) 19 (.int .i64 (y : Int))) 0 (.int .i64 left)) 1 (.pointer (some ⟨bh, 0, none⟩))) 2 (.pointer (some pc0))) 3 (.pointer (some ⟨bY, 0, none⟩))) 4 (.pointer (some ⟨bb, 0, none⟩))) 7 (.int .i64 (hs.length : Int))) :=
              ⟨f, by rw [upd_self hf9, upd_self hf8, upd_self hf19, upd_self hf0, upd_self hf1, upd_self hf2, upd_self hf3, upd_self hf4, upd_self hf7]⟩
            refine W.seq ?_
            refine W.via (fun f w' => f 8 = .int .i64 (y : Int) ∧ hoistsOk c0 hs left y = true ∧ f 19 = .int .i64 (y : Int) ∧ f 0 = .int .i64 left ∧ f 1 = .pointer (some ⟨bh, 0, none⟩) ∧ f 2 = .pointer (some pc0) ∧ f 3 = .pointer (some ⟨bY, 0, none⟩) ∧ f 4 = .pointer (some ⟨bb, 0, none⟩) ∧ f 7 = .int .i64 (hs.length : Int) ∧ w' = w) ?_ ?_
            · have hno : hoistsOk c0 hs left y = false → (pre ++ ((List.range 13).take (y + 1)).flatMap fun f => if hoistsOk c0 hs left f then hoistsG c0 n (hs ++ [(f : Int)]) (bits .andNot .i64 left (2 ^ f)) else []) = (pre ++ ((List.range 13).take y).flatMap fun f => if hoistsOk c0 hs left f then hoistsG c0 n (hs ++ [(f : Int)]) (bits .andNot .i64 left (2 ^ f)) else []) := by
                intro h
                rw [htake, List.flatMap_append]
                simp [h]
              refine W.seq ?_
              refine W.region ?_
              refine O.move (v := .bool (hoistsFit c0 hs (y : Int))) rfl rfl rfl ?_
              refine O.not rfl rfl rfl ?_
              refine O.move (v := .bool (!hoistsFit c0 hs (y : Int))) rfl rfl rfl ?_
              cases hfit : hoistsFit c0 hs (y : Int) with
              | false =>
                refine WL.reset (i := 48) (v := .bool true) rfl ?_
                refine O.skip rfl rfl ?_
                refine O.skip rfl rfl ?_
                refine O.skip rfl rfl ?_
                refine O.skip rfl rfl ?_
                refine O.skip rfl rfl ?_
                refine O.pick_true (v := .bool true) rfl rfl rfl rfl ?_
                refine WL.nil ?_
                refine W.cond_true rfl ?_
                refine W.exit ?_
                refine xT rfl ?_
                have hn : hoistsOk c0 hs left y = false := by unfold hoistsOk; rw [hfit]; rfl
                exact ⟨rfl, rfl, rfl, rfl, rfl, rfl, rfl, C, vh, by rw [hno hn]; exact H⟩
              | true =>
                refine WL.reset (i := 48) (v := .bool false) rfl ?_
                refine O.move (v := .int .i64 left) rfl rfl rfl ?_
                refine O.move (v := .int .i64 (y : Int)) rfl rfl rfl ?_
                refine O.shr (c := left / 2 ^ y) rfl rfl rfl rfl (by unfold shrI; rw [if_pos (by omega), Int.toNat_natCast]) ?_
                refine O.and rfl rfl rfl rfl ?_
                refine O.eql rfl rfl rfl rfl ?_
                refine O.pick_false (v := .bool (bits .and .i64 (left / 2 ^ y) 1 == 0)) rfl rfl rfl rfl ?_
                refine WL.nil ?_
                cases hbit : bits .and .i64 (left / 2 ^ y) 1 == 0 with
                | true =>
                  refine W.cond_true rfl ?_
                  refine W.exit ?_
                  refine xT rfl ?_
                  have hn : hoistsOk c0 hs left y = false := by unfold hoistsOk; rw [hbit]; simp
                  exact ⟨rfl, rfl, rfl, rfl, rfl, rfl, rfl, C, vh, by rw [hno hn]; exact H⟩
                | false =>
                  refine W.cond_false rfl ?_
                  refine W.skip ?_
                  have hn : hoistsOk c0 hs left y = true := by unfold hoistsOk; rw [hbit, hfit]; rfl
                  exact ⟨rfl, hn, rfl, rfl, rfl, rfl, rfl, rfl, rfl, rfl⟩
            · rintro f w' ⟨hf8, hok, hf19, hf0, hf1, hf2, hf3, hf4, hf7, rfl⟩
              obtain ⟨u1, rfl⟩ : ∃ u1, f = (upd (upd (upd (upd (upd (upd (upd (upd u1 8 (.int .i64 (y : Int))) 19 (.int .i64 (y : Int))) 0 (.int .i64 left)) 1 (.pointer (some ⟨bh, 0, none⟩))) 2 (.pointer (some pc0))) 3 (.pointer (some ⟨bY, 0, none⟩))) 4 (.pointer (some ⟨bb, 0, none⟩))) 7 (.int .i64 (hs.length : Int))) :=
                ⟨f, by rw [upd_self hf8, upd_self hf19, upd_self hf0, upd_self hf1, upd_self hf2, upd_self hf3, upd_self hf4, upd_self hf7]⟩
              have hyes : (pre ++ ((List.range 13).take (y + 1)).flatMap fun f => if hoistsOk c0 hs left f then hoistsG c0 n (hs ++ [(f : Int)]) (bits .andNot .i64 left (2 ^ f)) else []) = (pre ++ ((List.range 13).take y).flatMap fun f => if hoistsOk c0 hs left f then hoistsG c0 n (hs ++ [(f : Int)]) (bits .andNot .i64 left (2 ^ f)) else []) ++ hoistsG c0 n (hs ++ [(y : Int)]) (bits .andNot .i64 left (2 ^ y)) := by
                rw [htake, List.flatMap_append, List.append_assoc]
                simp [hok]
              refine W.seq ?_
              refine W.region ?_
              refine O.load (q := ⟨bh, 0, none⟩) (v := vh) sc22 rfl rfl rfl (H.cell 2 rfl 0 _ rfl) ?_
              refine O.move (v := .int .i64 (y : Int)) rfl rfl rfl ?_
              refine O.buildSlice (α := Int) [.int .i64 (y : Int)] [(y : Int)] Try.underlying22 el3 H rfl rfl rfl rfl rfl rfl rfl ?_
              intro v1 w1 H hb1
              refine O.append 4 (zs := hs ++ [(y : Int)]) Try.underlying22 el3 rfl H rfl (H.own 5 rfl) (appI_ok (by simp; omega)) rfl rfl rfl rfl ?_
              intro v2 w2 H
              refine O.store 2 0 [v2] [v2] sz22 H rfl rfl rfl rfl rfl (SliceR.cells1 (H.own 4 rfl)) ⟨⟨rfl, rfl⟩, rfl⟩ (one_cons (SliceR.one (H.own 4 rfl)) one_nil) ?_
              intro w3 H
              refine WL.nil ?_
              have H := H.pick [0, 1, 2, 3, 4] [consI hc (pre ++ ((List.range 13).take y).flatMap fun f => if hoistsOk c0 hs left f then hoistsG c0 n (hs ++ [(f : Int)]) (bits .andNot .i64 left (2 ^ f)) else []) C, boxI bY 29 [Value.func (.yield l) #[] #[]], boxI bh 22 [v2], boxI bb 48 [Value.func (.func 54) #[] #[.pointer (some ⟨bh, 0, none⟩), .pointer (some pc0), .pointer (some ⟨bY, 0, none⟩), .pointer (some ⟨bb, 0, none⟩)]], ownI v2 3 (hs ++ [(y : Int)])] rfl (by decide)
              refine W.seq ?_
              refine W.seq ?_
              refine W.drawN 5 (fun f => f 59 = Value.func (.func 54) #[] #[.pointer (some ⟨bh, 0, none⟩), .pointer (some pc0), .pointer (some ⟨bY, 0, none⟩), .pointer (some ⟨bb, 0, none⟩)] ∧ f 63 = .int .i64 (bits .andNot .i64 left (2 ^ y)) ∧ f 19 = .int .i64 (y : Int) ∧ f 0 = .int .i64 left ∧ f 1 = .pointer (some ⟨bh, 0, none⟩) ∧ f 2 = .pointer (some pc0) ∧ f 3 = .pointer (some ⟨bY, 0, none⟩) ∧ f 4 = .pointer (some ⟨bb, 0, none⟩) ∧ f 7 = .int .i64 (hs.length : Int)) fol (by kernel_rfl) ?_ ?_
              · refine PL.of (fun _ wk _ hx => O.load (q := ⟨bb, 0, none⟩) (v := Value.func (.func 54) #[] #[.pointer (some ⟨bh, 0, none⟩), .pointer (some pc0), .pointer (some ⟨bY, 0, none⟩), .pointer (some ⟨bb, 0, none⟩)]) sc48 rfl rfl rfl ((H.ext hx).cell 3 rfl 0 _ rfl) (WL.nil ⟨rfl, hx⟩)) ?_
                refine PL.of (fun _ wk _ hx => O.move (v := .int .i64 left) rfl rfl rfl (WL.nil ⟨rfl, hx⟩)) ?_
                refine PL.of (fun _ wk _ hx => O.move (v := .int .i64 (y : Int)) rfl rfl rfl (WL.nil ⟨rfl, hx⟩)) ?_
                refine PL.of (fun _ wk _ hx => O.shl (c := 2 ^ y) rfl rfl rfl rfl (shl1_flag h13) (WL.nil ⟨rfl, hx⟩)) ?_
                refine PL.of (fun _ wk _ hx => O.andNot rfl rfl rfl rfl (WL.nil ⟨rfl, hx⟩)) ?_
                exact ⟨rfl, rfl, rfl, rfl, rfl, rfl, rfl, rfl, rfl⟩
              · rintro f w4 ⟨hf59, hf63, hf19, hf0, hf1, hf2, hf3, hf4, hf7⟩ _ hx
                obtain ⟨u1, rfl⟩ : ∃ u1, f = (upd (upd (upd (upd (upd (upd (upd (upd (upd u1 59 (Value.func (.func 54) #[] #[.pointer (some ⟨bh, 0, none⟩), .pointer (some pc0), .pointer (some ⟨bY, 0, none⟩), .pointer (some ⟨bb, 0, none⟩)])) 63 (.int .i64 (bits .andNot .i64 left (2 ^ y)))) 19 (.int .i64 (y : Int))) 0 (.int .i64 left)) 1 (.pointer (some ⟨bh, 0, none⟩))) 2 (.pointer (some pc0))) 3 (.pointer (some ⟨bY, 0, none⟩))) 4 (.pointer (some ⟨bb, 0, none⟩))) 7 (.int .i64 (hs.length : Int))) :=
                  ⟨f, by rw [upd_self hf59, upd_self hf63, upd_self hf19, upd_self hf0, upd_self hf1, upd_self hf2, upd_self hf3, upd_self hf4, upd_self hf7]⟩
                have H := H.ext hx
                have hrest : ∃ rest, (pre ++ ((List.range 13).take y).flatMap fun f => if hoistsOk c0 hs left f then hoistsG c0 n (hs ++ [(f : Int)]) (bits .andNot .i64 left (2 ^ f)) else []) ++ hoistsG c0 n (hs ++ [(y : Int)]) (bits .andNot .i64 left (2 ^ y)) ++ rest = r := by
                  obtain ⟨rest, hr⟩ := hr
                  refine ⟨((List.range 13).drop (y + 1)).flatMap (fun f => if hoistsOk c0 hs left f then hoistsG c0 n (hs ++ [(f : Int)]) (bits .andNot .i64 left (2 ^ f)) else []) ++ rest, ?_⟩
                  rw [← hyes, ← hr, hoistsG, List.append_assoc, ← List.append_assoc (List.flatMap _ _), ← List.flatMap_append, List.take_append_drop, List.append_assoc]
                refine O.callG rfl rfl rfl rfl (callsV_mk (args := [.int .i64 (bits .andNot .i64 left (2 ^ y))]) Try.call54 (ih _ C w4 v2 (hs ++ [(y : Int)]) _ H (by simp; omega) hrest)) ?_
                rintro u w5 (⟨rfl, C', vh', H⟩ | ⟨rfl, C', H⟩)
                · refine O.not rfl rfl rfl ?_
                  refine WL.nil ?_
                  refine W.cond_false rfl ?_
                  refine W.skip ?_
                  refine W.region ?_
                  refine O.load (q := ⟨bh, 0, none⟩) (v := vh') sc22 rfl rfl rfl (H.cell 2 rfl 0 _ rfl) ?_
                  refine O.move (v := .int .i64 (hs.length : Int)) rfl rfl rfl ?_
                  refine O.sliceOwn 4 (ys := hs) Try.underlying22 sz3 H rfl (by unfold preI; rw [if_pos (by simp; omega)]; simp) rfl rfl rfl rfl ?_
                  intro v3 H
                  refine O.store 2 0 [v3] [v3] sz22 H rfl rfl rfl rfl rfl (SliceR.cells1 (H.own 4 rfl)) ⟨⟨rfl, rfl⟩, rfl⟩ (one_cons (SliceR.one (H.own 4 rfl)) one_nil) ?_
                  intro w6 H
                  refine WL.nil ?_
                  exact ⟨rfl, rfl, rfl, rfl, rfl, rfl, rfl, C', v3, by rw [hyes]; exact H⟩
                · refine O.not rfl rfl rfl ?_
                  refine WL.nil ?_
                  refine W.cond_true rfl ?_
                  refine W.seq ?_
                  refine W.region ?_
                  refine O.assign (v := .bool false) rfl rfl rfl ?_
                  refine WL.nil ?_
                  refine W.ret ?_
                  exact ends1 Try.results54 rfl ⟨_, rfl, .inr ⟨rfl, C', H⟩⟩
        · rintro f w ⟨hf19, hf0, hf1, hf2, hf3, hf4, hf7, C', vh', H⟩
          obtain ⟨u1, rfl⟩ : ∃ u1, f = (upd (upd (upd (upd (upd (upd (upd u1 19 (.int .i64 (y : Int))) 0 (.int .i64 left)) 1 (.pointer (some ⟨bh, 0, none⟩))) 2 (.pointer (some pc0))) 3 (.pointer (some ⟨bY, 0, none⟩))) 4 (.pointer (some ⟨bb, 0, none⟩))) 7 (.int .i64 (hs.length : Int))) :=
            ⟨f, by rw [upd_self hf19, upd_self hf0, upd_self hf1, upd_self hf2, upd_self hf3, upd_self hf4, upd_self hf7]⟩
          refine W.region ?_
          refine O.add rfl rfl rfl rfl hinc ?_
          refine O.move (v := .int .i64 ((y : Int) + 1)) rfl rfl rfl ?_
          refine WL.nil ?_
          exact ⟨y + 1, drop_next hd, rfl, rfl, rfl, rfl, rfl, rfl, rfl, C', vh', H⟩
      · rintro f w ⟨ik, hd, hf19, hf0, hf1, hf2, hf3, hf4, hf7, C, vh, H⟩
        have h13 : 13 ≤ ik := by have := List.drop_eq_nil_iff.1 hd; simpa using this
        obtain ⟨u1, rfl⟩ : ∃ u1, f = (upd (upd u1 19 (.int .i64 (ik : Int))) 7 (.int .i64 (hs.length : Int))) := ⟨f, by rw [upd_self hf19, upd_self hf7]⟩
        refine W.seq ?_
        refine W.region ?_
        refine O.lss rfl rfl rfl rfl ?_
        refine WL.nil ?_
        refine W.seq ?_
        refine W.cond_false (congrArg Value.bool (decide_eq_false (by omega))) ?_
        refine W.exit ?_
        refine xT rfl ?_
        refine ⟨rfl, C, vh, ?_⟩
        rw [List.take_of_length_le (by simpa using h13)] at H
        rw [hoistsG]
        exact H
    · rintro f w ⟨hf7, C', vh', H⟩
      refine W.seq ?_
      refine W.region ?_
      refine O.assign (v := .bool true) rfl rfl rfl ?_
      refine WL.nil ?_
      refine W.ret ?_
      exact ends1 Try.results54 rfl ⟨_, rfl, .inl ⟨rfl, C', vh', H⟩⟩
theorem it_flag_hoists_c1 {wi : World} {Kp : World → Prop} (pc0 : Addr) (vc0 : Value) (c0 : List Int) (pc1 : Addr) (c1 : Int) {r : List (List Int)} (hm : flag_hoists_c1 c0 c1 = some r)
    (hk : ∀ w, Kp w → (∀ j c, [vc0][j]? = some c → w.cell? (pc0.add j) = some c) ∧ SliceR w vc0 c0 ∧ (∀ j c, (Flat.cells c1)[j]? = some c → w.cell? (pc1.add j) = some c)) :
    IterAt Try.prog 53 #[.pointer (some pc0), .pointer (some pc1)] repS (fun ys => ys = r) Kp wi := by
  unfold flag_hoists_c1 at hm
  split at hm
  case isFalse => cases hm
  rename_i hlen
  obtain rfl := Option.some.inj hm
  intro l J Jx hc h0
  refine calls_of_W Try.func53 rfl Try.ntmps53 (Nat.le_of_ble_eq_true rfl) ?_
  have H := InvI.start hc h0
  refine W.seq ?_
  refine W.region ?_
  refine O.box [Value.func (.yield l) #[] #[]] H rfl rfl rfl rfl ?_
  intro bY w1 H hb1
  refine WL.nil ?_
  refine W.seq ?_
  refine W.region ?_
  refine O.alloc [Value.slice none 0 0] ze22 H rfl rfl rfl ?_
  intro bh w2 H hb2
  refine WL.nil ?_
  refine W.seq ?_
  refine W.region ?_
  refine O.alloc [Value.nilFunc] ze48 H rfl rfl rfl ?_
  intro bb w3 H hb3
  refine WL.nil ?_
  have H := H.addNil (α := Int) (E := 3)
  refine W.seq ?_
  refine W.region ?_
  refine O.makeFunc rfl rfl rfl rfl ?_
  refine O.store 3 0 [Value.func (.func 54) #[] #[.pointer (some ⟨bh, 0, none⟩), .pointer (some pc0), .pointer (some ⟨bY, 0, none⟩), .pointer (some ⟨bb, 0, none⟩)]] [Value.func (.func 54) #[] #[.pointer (some ⟨bh, 0, none⟩), .pointer (some pc0), .pointer (some ⟨bY, 0, none⟩), .pointer (some ⟨bb, 0, none⟩)]] sz48 H rfl rfl rfl rfl rfl rfl ⟨⟨rfl, rfl⟩, rfl⟩ (one_cons rfl one_nil) ?_
  intro w4 H
  refine WL.nil ?_
  have hK := hk _ (InvI.kp H)
  refine W.region ?_
  refine O.load (q := ⟨bb, 0, none⟩) (v := Value.func (.func 54) #[] #[.pointer (some ⟨bh, 0, none⟩), .pointer (some pc0), .pointer (some ⟨bY, 0, none⟩), .pointer (some ⟨bb, 0, none⟩)]) sc48 rfl rfl rfl (H.cell 3 rfl 0 _ rfl) ?_
  refine O.load (q := pc1) (v := .int .i64 c1) sc3 rfl rfl rfl (hK.2.2 0 _ rfl) ?_
  refine O.callG rfl rfl rfl rfl (callsV_mk (args := [.int .i64 c1]) Try.call54 (c_flag_build hc (fun w h => ⟨(hk w h).1, (hk w h).2.1⟩) hlen c0.length [] _ w4 _ [] c1 H (by simp) ⟨[], by simp⟩)) ?_
  rintro u w5 (⟨rfl, C', vh', H⟩ | ⟨rfl, C', H⟩)
  · refine WL.nil ?_
    refine ends0 Try.results53 ⟨_, C', rfl, .inl ⟨_, rfl, ?_⟩⟩
    exact (H.items _ (List.mem_cons_self ..)).1
  · refine WL.nil ?_
    exact ends0 Try.results53 ⟨_, C', rfl, .inr (H.items _ (List.mem_cons_self ..)).1⟩

theorem c_flag_hoists {w0 : World} (va0 : Value) (a0 : (List Int)) (ha0 : SliceR w0 va0 a0) (a1 : Int) :
    Calls Try.prog 48 #[va0, (.int .i64 a1)] w0 (Ret w0 fun w v => ∃ b1 : Nat, ∃ b2 : Nat, v = (.func (.func 53) #[] #[(.pointer (some ⟨b1, 0, none⟩)), (.pointer (some ⟨b2, 0, none⟩))]) ∧ Inv w0 w [boxI b1 22 [va0], boxI b2 3 [(.int .i64 a1)]]) := by
  refine calls_of_W Try.func48 rfl Try.ntmps48 (Nat.le_of_ble_eq_true rfl) ?_
  have H := Inv.start (w := w0)
  refine W.seq ?_
  refine W.region ?_
  refine O.box [va0] H rfl rfl rfl (SliceR.cells1 (H.arg ha0)) ?_
  intro b1 w1 H hb1
  refine O.box [(.int .i64 a1)] H rfl rfl rfl rfl ?_
  intro b2 w2 H hb2
  refine O.assign (v := .nilFunc) rfl rfl rfl ?_
  refine WL.nil ?_
  refine W.seq ?_
  refine W.region ?_
  refine O.makeFunc rfl rfl rfl rfl ?_
  refine O.assign (v := (.func (.func 53) #[] #[(.pointer (some ⟨b1, 0, none⟩)), (.pointer (some ⟨b2, 0, none⟩))])) rfl rfl rfl ?_
  refine WL.nil ?_
  refine W.ret ?_
  exact ends1 Try.results48 rfl ⟨_, rfl, H.base, ⟨_, _, rfl, H.pick [0, 1] [boxI b1 22 [va0], boxI b2 3 [(.int .i64 a1)]] rfl (by decide)⟩⟩

set_option maxRecDepth 20000 in
theorem c_flag_With {w0 : World} (va0 : Value) (a0 : (List Int)) (ha0 : SliceR w0 va0 a0) (a1 : Int) {r0 : (List Int)} {r1 : Int} (hm : flag_With a0 a1 = some (r0, r1)) :
    Calls Try.prog 28 #[va0, (.int .i64 a1)] w0 (Ret w0 fun w v => ∃ vr0 : Value, v = .tuple #[vr0, (.int .i64 r1)] ∧ OwnR w0 w vr0 3 r0) := by
  unfold flag_With at hm
  refine calls_of_WM Try.func28 rfl Try.ntmps28 (Nat.le_of_ble_eq_true rfl) ?_
  have H := Inv.startM (w0 := w0)
  have hmk : (fr0 #[va0, (.int .i64 a1)]).marks = [] := rfl
  refine W.seq ?_
  refine W.region ?_
  refine O.alloc [(.slice none 0 0)] ze22 H rfl rfl rfl ?_
  intro b1 w1 H hb1
  have H := H.addNil (α := Int) (E := 3)
  refine O.alloc [(.int .i64 0)] ze24 H rfl rfl rfl ?_
  intro b2 w2 H hb2
  refine WL.nil ?_
  refine W.seq ?_
  refine W.seq ?_
  refine W.region ?_
  refine O.move (v := va0) rfl rfl rfl ?_
  refine O.move (v := (.int .i64 a1)) rfl rfl rfl ?_
  obtain ⟨t1, hy1, hm⟩ := bind_some hm
  refine O.call Try.call47 rfl rfl rfl (c_flag_asked _ _ (H.arg ha0) _ hy1) ?_
  rintro _ w3 hb3 rfl
  have H := H.ext hb3
  refine O.assign (v := (.int .i64 t1)) rfl rfl rfl ?_
  refine WL.nil ?_
  refine W.seq ?_
  refine W.region ?_
  refine O.move (v := (.int .i64 t1)) rfl rfl rfl ?_
  refine O.neq rfl rfl rfl rfl ?_
  refine WL.nil ?_
  rcases ite_some hm with ⟨hc1, hm⟩ | ⟨hc1, hm⟩
  · refine W.cond_true (congrArg Value.bool hc1) ?_
    refine W.seq ?_
    refine W.region ?_
    refine O.move (v := (.int .i64 t1)) rfl rfl rfl ?_
    have H := H.addNil (α := Int) (E := 3)
    refine O.store 1 0 [(.slice none 0 0)] [(.slice none 0 0)] sz22 H rfl rfl rfl rfl rfl rfl ⟨⟨rfl, rfl⟩, rfl⟩ (one_cons rfl one_nil) ?_
    intro w4 H
    refine O.store 3 0 [(.int .i64 t1)] [(.int .i64 t1)] sz24 H rfl rfl rfl rfl rfl rfl ⟨⟨rfl, rfl⟩, rfl⟩ (one_cons rfl one_nil) ?_
    intro w5 H
    refine WL.nil ?_
    refine W.ret ?_
    refine endsM_mk H hmk ?_
    intro w H _
    have hq : ([], t1) = (r0, r1) := Option.some.inj (show some ([], t1) = some (r0, r1) from hm)
    obtain ⟨he0, hq0⟩ := Prod.mk.inj hq; clear hq; subst he0
    subst hq0
    exact ends2 Try.results28 ⟨_, rfl, run_loadVar_scalar sc22 (H.cell 1 rfl 0 _ rfl)⟩ ⟨_, rfl, run_loadVar_scalar sc24 (H.cell 3 rfl 0 _ rfl)⟩ ⟨_, rfl, H.base, ⟨_, rfl, OwnR.nil⟩⟩
  · refine W.cond_false (congrArg Value.bool hc1) ?_
    refine W.skip ?_
    refine W.seq ?_
    refine W.seq ?_
    refine W.region ?_
    refine O.move (v := va0) rfl rfl rfl ?_
    refine O.move (v := (.int .i64 a1)) rfl rfl rfl ?_
    refine O.call Try.call48 rfl rfl rfl (c_flag_hoists _ _ (H.arg ha0) _) ?_
    rintro _ w6 hb4 ⟨b3, b4, rfl, hM1⟩
    have H := H.addAll hb4 hM1
    refine WL.nil ?_
    obtain ⟨xs1, hxs1, hm⟩ := bind_some hm
    obtain ⟨o1, hm1, hm⟩ := bind_some hm
    refine W.via (fun f w => ∃ ms1 : List Nat, o1 = .next () ∧ f 4 = (.pointer (some ⟨b1, 0, none⟩)) ∧ f 5 = (.pointer (some ⟨b2, 0, none⟩)) ∧ f.marks = ms1 ∧ Inv w0 w [marksI ms1, boxI b1 22 [(.slice none 0 0)], ownI (α := Int) (.slice none 0 0) 3 ([] : List Int), boxI b2 24 [(.int .i64 0)]]) ?_ ?_
    · skip
      refine W.block ?_
      refine W.rangeFuncL (α := (List Int)) (σ := Unit) (X := Ctl (Unit) ((List Int) × Int)) (xs := xs1) (rep := repS) hm1 (fun s L => () = s ∧ L = [boxI b1 22 [(.slice none 0 0)], ownI (α := Int) (.slice none 0 0) 3 ([] : List Int), boxI b2 24 [(.int .i64 0)], boxI b3 22 [va0], boxI b4 3 [(.int .i64 a1)]]) (fun y j L => match j with | some j => j = 0 ∧ (False) | none => ∃ q1 : (List Int), ∃ v1 : Value, y = Ctl.ret (q1, 0) ∧ L = [boxI b1 22 [v1], boxI b2 24 [(.int .i64 0)], ownI (α := Int) v1 3 q1]) rfl Try.call53 rfl (fun _ _ _ h => by obtain ⟨_, rfl, _⟩ := h; rfl) (fun Kp W hs hk => it_flag_hoists_c1 _ _ a0 _ a1 hxs1 fun w1 hw => by obtain ⟨_, _, _, _, ⟨_, rfl⟩, H⟩ := hk w1 hw; exact ⟨H.cell 6 rfl, (H.arg ha0), H.cell 7 rfl⟩) H ⟨rfl, rfl⟩ ?_ ?_ ?_ ?_
      · skip
        rintro _ rs lp lp2 iz x1 _ st _ w _ ⟨rfl, rfl⟩ ⟨vx1, rfl, hsx1⟩ hm2 H
        change W _ _ _ _ _ _ _ (upd _ 17 vx1) w
        refine W.region ?_
        refine O.assign (v := vx1) rfl rfl rfl ?_
        refine WL.nil ?_
        refine ⟨_, H, fun w hsl H => ?_⟩
        have hsx1 := hsl _ _ hsx1
        refine W.block ?_
        refine W.seq ?_
        refine W.region ?_
        refine O.move (v := vx1) rfl rfl rfl ?_
        obtain ⟨t2, hy2, hm2⟩ := bind_some hm2
        refine O.call Try.call39 rfl rfl rfl (c_slices_Clone_int _ _ hsx1 hy2) ?_
        rintro v2 w7 hb5 ho1
        have hsx1 := hsx1.mono hb5
        have H := H.addOwn hb5 ho1
        refine O.store 3 0 [v2] [v2] sz22 H rfl rfl rfl rfl rfl (SliceR.cells1 (H.own 8 rfl)) ⟨⟨rfl, rfl⟩, rfl⟩ (one_cons (SliceR.one (H.own 8 rfl)) one_nil) ?_
        intro w8 H
        clear hsx1
        refine O.store 5 0 [(.int .i64 0)] [(.int .i64 0)] sz24 H rfl rfl rfl rfl rfl rfl ⟨⟨rfl, rfl⟩, rfl⟩ (one_cons rfl one_nil) ?_
        intro w9 H
        refine WL.nil ?_
        refine W.ret ?_
        have H := H.keep [0, 1, 2, 3, 5, 8] [rs, lp2, marksI [], boxI b1 22 [v2], boxI b2 24 [(.int .i64 0)], ownI (α := Int) v2 3 t2] rfl (by decide)
        obtain rfl := Option.some.inj hm2
        refine ⟨_, rfl, fun _ => ⟨_, ⟨_, v2, rfl, rfl⟩, H⟩⟩
      · skip
        rintro D1 _ _ w ⟨rfl, rfl⟩ hfin H
        obtain rfl : Ctl.next () = o1 := hfin
        have H := H.keep [0, 1, 2, 3] [marksI (D1 :: []), boxI b1 22 [(.slice none 0 0)], ownI (α := Int) (.slice none 0 0) 3 ([] : List Int), boxI b2 24 [(.int .i64 0)]] rfl (by decide)
        have hmk := congrArg (D1 :: ·) hmk
        exact ⟨_, rfl, rfl, rfl, hmk, H⟩
      · skip
        rintro _ _ _ _ ⟨_, h⟩; exact h.elim
      · skip
        rintro D1 _ w ⟨q1, v1, hy, rfl⟩ H
        subst hy
        have hmk := congrArg (D1 :: ·) hmk
        refine endsM_mk H hmk ?_
        intro w H _
        have hq : (q1, 0) = (r0, r1) := Option.some.inj (show some (q1, 0) = some (r0, r1) from hm)
        obtain ⟨he0, hq0⟩ := Prod.mk.inj hq; clear hq; subst he0
        subst hq0
        exact ends2 Try.results28 ⟨_, rfl, run_loadVar_scalar sc22 (H.cell 1 rfl 0 _ rfl)⟩ ⟨_, rfl, run_loadVar_scalar sc24 (H.cell 2 rfl 0 _ rfl)⟩ ⟨_, rfl, H.base, ⟨_, rfl, H.ownR 3 rfl⟩⟩
    · skip
      rintro f w ⟨ms1, rfl, hf4, hf5, hmk, H⟩
      obtain ⟨u1, rfl⟩ : ∃ u1, f = (upd (upd u1 4 (.pointer (some ⟨b1, 0, none⟩))) 5 (.pointer (some ⟨b2, 0, none⟩))) := ⟨f, by rw [upd_self hf4, upd_self hf5]⟩
      refine W.seq ?_
      refine W.region ?_
      have H := H.addNil (α := Int) (E := 3)
      refine O.store 1 0 [(.slice none 0 0)] [(.slice none 0 0)] sz22 H rfl rfl rfl rfl rfl rfl ⟨⟨rfl, rfl⟩, rfl⟩ (one_cons rfl one_nil) ?_
      intro w10 H
      refine O.store 3 0 [(.int .i64 10)] [(.int .i64 10)] sz24 H rfl rfl rfl rfl rfl rfl ⟨⟨rfl, rfl⟩, rfl⟩ (one_cons rfl one_nil) ?_
      intro w11 H
      refine WL.nil ?_
      refine W.ret ?_
      refine endsM_mk H hmk ?_
      intro w H _
      have hq : ([], 10) = (r0, r1) := Option.some.inj (show some ([], 10) = some (r0, r1) from hm)
      obtain ⟨he0, hq0⟩ := Prod.mk.inj hq; clear hq; subst he0
      subst hq0
      exact ends2 Try.results28 ⟨_, rfl, run_loadVar_scalar sc22 (H.cell 1 rfl 0 _ rfl)⟩ ⟨_, rfl, run_loadVar_scalar sc24 (H.cell 3 rfl 0 _ rfl)⟩ ⟨_, rfl, H.base, ⟨_, rfl, OwnR.nil⟩⟩

theorem c_flag_can {w0 : World} (va0 : Value) (a0 : (List Int)) (ha0 : SliceR w0 va0 a0) (a1 : Int) {r0 : Bool} (hm : flag_can a0 a1 = some r0) :
    Calls Try.prog 44 #[va0, (.int .i64 a1)] w0 (Ret w0 fun _ v => v = (.bool r0)) := by
  unfold flag_can at hm
  refine calls_of_WM Try.func44 rfl Try.ntmps44 (Nat.le_of_ble_eq_true rfl) ?_
  have H := Inv.startM (w0 := w0)
  have hmk : (fr0 #[va0, (.int .i64 a1)]).marks = [] := rfl
  refine W.seq ?_
  refine W.region ?_
  refine O.alloc [(.bool false)] ze4 H rfl rfl rfl ?_
  intro b1 w1 H hb1
  refine WL.nil ?_
  refine W.seq ?_
  refine W.seq ?_
  refine W.region ?_
  refine O.move (v := va0) rfl rfl rfl ?_
  refine O.move (v := (.int .i64 a1)) rfl rfl rfl ?_
  refine O.call Try.call48 rfl rfl rfl (c_flag_hoists _ _ (H.arg ha0) _) ?_
  rintro _ w2 hb2 ⟨b2, b3, rfl, hM1⟩
  have H := H.addAll hb2 hM1
  refine WL.nil ?_
  obtain ⟨xs1, hxs1, hm⟩ := bind_some hm
  obtain ⟨o1, hm1, hm⟩ := bind_some hm
  refine W.via (fun f w => ∃ ms1 : List Nat, o1 = .next () ∧ f 4 = (.pointer (some ⟨b1, 0, none⟩)) ∧ f.marks = ms1 ∧ Inv w0 w [marksI ms1, boxI b1 4 [(.bool false)]]) ?_ ?_
  · skip
    refine W.block ?_
    refine W.rangeFuncL (α := (List Int)) (σ := Unit) (X := Ctl (Unit) (Bool)) (xs := xs1) (rep := repS) hm1 (fun s L => () = s ∧ L = [boxI b1 4 [(.bool false)], boxI b2 22 [va0], boxI b3 3 [(.int .i64 a1)]]) (fun y j L => match j with | some j => j = 0 ∧ (False) | none => ∃ q1 : Bool, y = Ctl.ret q1 ∧ L = [boxI b1 4 [(.bool q1)]]) rfl Try.call53 rfl (fun _ _ _ h => by obtain ⟨_, rfl, _⟩ := h; rfl) (fun Kp W hs hk => it_flag_hoists_c1 _ _ a0 _ a1 hxs1 fun w1 hw => by obtain ⟨_, _, _, _, ⟨_, rfl⟩, H⟩ := hk w1 hw; exact ⟨H.cell 4 rfl, (H.arg ha0), H.cell 5 rfl⟩) H ⟨rfl, rfl⟩ ?_ ?_ ?_ ?_
    · skip
      rintro _ rs lp lp2 iz x1 _ st _ w _ ⟨rfl, rfl⟩ ⟨vx1, rfl, hsx1⟩ hm2 H
      change W _ _ _ _ _ _ _ (upd _ 8 vx1) w
      refine W.skip ?_
      refine ⟨_, H, fun w hsl H => ?_⟩
      have hsx1 := hsl _ _ hsx1
      refine W.block ?_
      refine W.seq ?_
      refine W.region ?_
      refine O.store 3 0 [(.bool true)] [(.bool true)] sz4 H rfl rfl rfl rfl rfl rfl ⟨⟨rfl, rfl⟩, rfl⟩ (one_cons rfl one_nil) ?_
      intro w3 H
      clear hsx1
      refine WL.nil ?_
      refine W.ret ?_
      have H := H.keep [0, 1, 2, 3] [rs, lp2, marksI [], boxI b1 4 [(.bool true)]] rfl (by decide)
      obtain rfl := Option.some.inj hm2
      refine ⟨_, rfl, fun _ => ⟨_, ⟨_, rfl, rfl⟩, H⟩⟩
    · skip
      rintro D1 _ _ w ⟨rfl, rfl⟩ hfin H
      obtain rfl : Ctl.next () = o1 := hfin
      have H := H.keep [0, 1] [marksI (D1 :: []), boxI b1 4 [(.bool false)]] rfl (by decide)
      have hmk := congrArg (D1 :: ·) hmk
      exact ⟨_, rfl, rfl, hmk, H⟩
    · skip
      rintro _ _ _ _ ⟨_, h⟩; exact h.elim
    · skip
      rintro D1 _ w ⟨q1, hy, rfl⟩ H
      subst hy
      have hmk := congrArg (D1 :: ·) hmk
      refine endsM_mk H hmk ?_
      intro w H _
      have hq : q1 = r0 := Option.some.inj (show some q1 = some r0 from hm)
      subst hq
      exact ends1 Try.results44 ⟨_, rfl, run_loadVar_scalar sc4 (H.cell 1 rfl 0 _ rfl)⟩ ⟨_, rfl, H.base, rfl⟩
  · skip
    rintro f w ⟨ms1, rfl, hf4, hmk, H⟩
    obtain ⟨u1, rfl⟩ : ∃ u1, f = (upd u1 4 (.pointer (some ⟨b1, 0, none⟩))) := ⟨f, by rw [upd_self hf4]⟩
    refine W.seq ?_
    refine W.region ?_
    refine O.store 1 0 [(.bool false)] [(.bool false)] sz4 H rfl rfl rfl rfl rfl rfl ⟨⟨rfl, rfl⟩, rfl⟩ (one_cons rfl one_nil) ?_
    intro w4 H
    refine WL.nil ?_
    refine W.ret ?_
    refine endsM_mk H hmk ?_
    intro w H _
    have hq : false = r0 := Option.some.inj (show some false = some r0 from hm)
    subst hq
    exact ends1 Try.results44 ⟨_, rfl, run_loadVar_scalar sc4 (H.cell 1 rfl 0 _ rfl)⟩ ⟨_, rfl, H.base, rfl⟩

set_option maxRecDepth 20000 in
theorem c_flag_Can {w0 : World} (a0 : Int) (a1 : Int) {r0 : Int} {r1 : Int} (hm : flag_Can a0 a1 = some (r0, r1)) :
    Calls Try.prog 23 #[(.int .i64 a0), (.int .i64 a1)] w0 (Ret w0 fun _ v => v = .tuple #[(.int .i64 r0), (.int .i64 r1)]) := by
  unfold flag_Can at hm
  refine calls_of_W Try.func23 rfl Try.ntmps23 (Nat.le_of_ble_eq_true rfl) ?_
  have H := Inv.start (w := w0)
  refine W.seq ?_
  refine W.region ?_
  refine O.assign (v := (.int .i64 0)) rfl rfl rfl ?_
  refine O.assign (v := (.int .i64 0)) rfl rfl rfl ?_
  refine WL.nil ?_
  refine W.seq ?_
  refine W.seq ?_
  refine W.region ?_
  refine O.move (v := (.int .i64 a0)) rfl rfl rfl ?_
  obtain ⟨t1, hy1, hm⟩ := bind_some hm
  refine O.call Try.call42 rfl rfl rfl (c_flag_within _ _ _ hy1) ?_
  rintro _ w1 hb1 rfl
  have H := H.ext hb1
  refine O.not rfl rfl rfl ?_
  refine O.move (v := (.bool (!t1))) rfl rfl rfl ?_
  obtain ⟨b1, hm1, hm⟩ := bind_some hm
  refine WL.cut 4 (fun f w => f 0 = (.int .i64 a0) ∧ f 1 = (.int .i64 a1) ∧ f 16 = .bool b1 ∧ Inv w0 w []) ?_ ?_
  · skip
    rcases ite_some hm1 with ⟨hc1, hm1⟩ | ⟨hc1, hm1⟩
    · skip
      refine WL.reset (i := 12) (v := .bool true) (congrArg Value.bool hc1) ?_
      refine O.skip rfl rfl ?_
      refine O.skip rfl rfl ?_
      refine O.skip rfl rfl ?_
      refine O.pick_true (v := (.bool true)) rfl rfl rfl rfl ?_
      refine WL.nil ?_
      have hq : true = b1 := Option.some.inj (show some true = some b1 from hm1)
      subst hq
      exact ⟨rfl, rfl, rfl, H⟩
    · skip
      refine WL.reset (i := 12) (v := .bool false) (congrArg Value.bool hc1) ?_
      refine O.move (v := (.int .i64 a1)) rfl rfl rfl ?_
      obtain ⟨t2, hy2, hm1⟩ := bind_some hm1
      refine O.call Try.call43 rfl rfl rfl (c_flag_isSet _ hy2) ?_
      rintro _ w2 hb2 rfl
      have H := H.ext hb2
      refine O.not rfl rfl rfl ?_
      refine O.pick_false (v := (.bool (!t2))) rfl rfl rfl rfl ?_
      refine WL.nil ?_
      have hq : (!t2) = b1 := Option.some.inj (show some (!t2) = some b1 from hm1)
      subst hq
      exact ⟨rfl, rfl, rfl, H⟩
  · skip
    rintro f w ⟨hf0, hf1, hf16, H⟩
    obtain ⟨u1, rfl⟩ : ∃ u1, f = (upd (upd (upd u1 0 (.int .i64 a0)) 1 (.int .i64 a1)) 16 (.bool b1)) := ⟨f, by rw [upd_self hf0, upd_self hf1, upd_self hf16]⟩
    refine WL.nil ?_
    rcases ite_some hm with ⟨hc2, hm⟩ | ⟨hc2, hm⟩
    · refine W.cond_true (congrArg Value.bool hc2) ?_
      refine W.seq ?_
      refine W.region ?_
      refine O.assign (v := (.int .i64 0)) rfl rfl rfl ?_
      refine O.assign (v := (.int .i64 7)) rfl rfl rfl ?_
      refine WL.nil ?_
      refine W.ret ?_
      have hq : (0, 7) = (r0, r1) := Option.some.inj (show some (0, 7) = some (r0, r1) from hm)
      obtain ⟨he0, hq0⟩ := Prod.mk.inj hq; clear hq; subst he0
      subst hq0
      exact ends2 Try.results23 rfl rfl ⟨_, rfl, H.base, rfl⟩
    · refine W.cond_false (congrArg Value.bool hc2) ?_
      refine W.skip ?_
      refine W.seq ?_
      refine W.region ?_
      refine O.move (v := (.int .i64 a0)) rfl rfl rfl ?_
      obtain ⟨t3, ht3, hm⟩ := bind_some hm
      refine O.makeSlice Try.underlying22 zel3 rfl H ht3 rfl rfl rfl rfl ?_
      intro v1 w3 H hb3
      refine O.assign (v := v1) rfl rfl rfl ?_
      refine WL.nil ?_
      refine W.seq ?_
      refine W.region ?_
      refine O.assign (v := (.int .i64 0)) rfl rfl rfl ?_
      refine WL.nil ?_
      obtain ⟨o1, hm2, hm⟩ := bind_some hm
      refine W.via (fun f w => False) ?_ ?_
      · skip
        refine W.block ?_
        refine W.loopR hm2 (fun s f w => ∃ z3 : Int, ∃ z4 : (List Int), ∃ v3 : Value, (z3, z4) = s ∧ f 0 = (.int .i64 a0) ∧ f 1 = (.int .i64 a1) ∧ f 6 = v3 ∧ f 7 = (.int .i64 z3) ∧ Inv w0 w [ownI (α := Int) v3 3 z4]) ?_ ?_
        · skip
          exact ⟨_, _, v1, rfl, rfl, rfl, rfl, rfl, H⟩
        · skip
          rintro _ st f w ⟨z3, z4, v3, rfl, hf0, hf1, hf6, hf7, H⟩ hm3
          obtain ⟨u2, rfl⟩ : ∃ u2, f = (upd (upd (upd (upd u2 0 (.int .i64 a0)) 1 (.int .i64 a1)) 6 v3) 7 (.int .i64 z3)) := ⟨f, by rw [upd_self hf0, upd_self hf1, upd_self hf6, upd_self hf7]⟩
          obtain ⟨o2, hm4, hm3⟩ := bind_some hm3
          refine W.via (fun f w => ∃ s1 : Int, ∃ s2 : (List Int), ∃ v5 : Value, o2 = .next (s1, s2) ∧ f 0 = (.int .i64 a0) ∧ f 1 = (.int .i64 a1) ∧ f 6 = v5 ∧ f 7 = (.int .i64 s1) ∧ Inv w0 w [ownI (α := Int) v5 3 s2]) ?_ ?_
          · skip
            refine W.block ?_
            refine W.seq ?_
            refine W.seq ?_
            refine W.region ?_
            refine O.move (v := v3) rfl rfl rfl ?_
            refine O.move (v := (.int .i64 a1)) rfl rfl rfl ?_
            obtain ⟨t4, hy3, hm4⟩ := bind_some hm4
            refine O.call Try.call44 rfl rfl rfl (c_flag_can _ _ (H.own 0 rfl) _ hy3) ?_
            rintro _ w4 hb4 rfl
            have H := H.ext hb4
            refine WL.nil ?_
            obtain ⟨s3, hm5, hm4⟩ := bind_some hm4
            refine W.via (fun f w => f 0 = (.int .i64 a0) ∧ f 1 = (.int .i64 a1) ∧ f 6 = v3 ∧ f 7 = (.int .i64 s3) ∧ Inv w0 w [ownI (α := Int) v3 3 z4]) ?_ ?_
            · skip
              rcases ite_some hm5 with ⟨hc3, hm5⟩ | ⟨hc3, hm5⟩
              · refine W.cond_true (congrArg Value.bool hc3) ?_
                refine W.region ?_
                refine O.move (v := (.int .i64 z3)) rfl rfl rfl ?_
                obtain ⟨t5, ht5, hm5⟩ := bind_some hm5
                refine O.add rfl rfl rfl rfl ht5 ?_
                refine O.assign (v := (.int .i64 t5)) rfl rfl rfl ?_
                refine WL.nil ?_
                have hq : t5 = s3 := Option.some.inj (show some t5 = some s3 from hm5)
                subst hq
                exact ⟨rfl, rfl, rfl, rfl, H⟩
              · refine W.cond_false (congrArg Value.bool hc3) ?_
                refine W.skip ?_
                have hq : z3 = s3 := Option.some.inj (show some z3 = some s3 from hm5)
                subst hq
                exact ⟨rfl, rfl, rfl, rfl, H⟩
            · skip
              rintro f w ⟨hf0, hf1, hf6, hf7, H⟩
              obtain ⟨u3, rfl⟩ : ∃ u3, f = (upd (upd (upd (upd u3 0 (.int .i64 a0)) 1 (.int .i64 a1)) 6 v3) 7 (.int .i64 s3)) := ⟨f, by rw [upd_self hf0, upd_self hf1, upd_self hf6, upd_self hf7]⟩
              refine W.seq ?_
              refine W.region ?_
              refine O.move (v := (.int .i64 a0)) rfl rfl rfl ?_
              obtain ⟨t6, ht6, hm4⟩ := bind_some hm4
              refine O.sub rfl rfl rfl rfl ht6 ?_
              refine O.assign (v := (.int .i64 t6)) rfl rfl rfl ?_
              refine WL.nil ?_
              refine W.seq ?_
              obtain ⟨⟨s4, s5⟩, hm6, hm4⟩ := bind_some hm4
              refine W.via (fun f w => ∃ v9 : Value, f 0 = (.int .i64 a0) ∧ f 1 = (.int .i64 a1) ∧ f 6 = v9 ∧ f 7 = (.int .i64 s3) ∧ f 8 = (.int .i64 s4) ∧ Inv w0 w [ownI (α := Int) v9 3 s5]) ?_ ?_
              · skip
                refine W.block ?_
                refine W.loopR hm6 (fun s f w => ∃ z9 : Int, ∃ z10 : (List Int), ∃ v7 : Value, (z9, z10) = s ∧ f 0 = (.int .i64 a0) ∧ f 1 = (.int .i64 a1) ∧ f 6 = v7 ∧ f 7 = (.int .i64 s3) ∧ f 8 = (.int .i64 z9) ∧ Inv w0 w [ownI (α := Int) v7 3 z10]) ?_ ?_
                · skip
                  exact ⟨_, _, v3, rfl, rfl, rfl, rfl, rfl, rfl, H⟩
                · skip
                  rintro _ st f w ⟨z9, z10, v7, rfl, hf0, hf1, hf6, hf7, hf8, H⟩ hm7
                  obtain ⟨u4, rfl⟩ : ∃ u4, f = (upd (upd (upd (upd (upd u4 0 (.int .i64 a0)) 1 (.int .i64 a1)) 6 v7) 7 (.int .i64 s3)) 8 (.int .i64 z9)) := ⟨f, by rw [upd_self hf0, upd_self hf1, upd_self hf6, upd_self hf7, upd_self hf8]⟩
                  refine W.seq ?_
                  refine W.seq ?_
                  refine W.region ?_
                  refine O.move (v := (.int .i64 z9)) rfl rfl rfl ?_
                  refine O.geq rfl rfl rfl rfl ?_
                  refine O.move (v := (.bool (decide (0 ≤ z9)))) rfl rfl rfl ?_
                  obtain ⟨b2, hm8, hm7⟩ := bind_some hm7
                  refine WL.cut 6 (fun f w => f 0 = (.int .i64 a0) ∧ f 1 = (.int .i64 a1) ∧ f 6 = v7 ∧ f 7 = (.int .i64 s3) ∧ f 8 = (.int .i64 z9) ∧ f 34 = .bool b2 ∧ Inv w0 w [ownI (α := Int) v7 3 z10]) ?_ ?_
                  · skip
                    rcases ite_some hm8 with ⟨hc4, hm8⟩ | ⟨hc4, hm8⟩
                    · skip
                      refine WL.reset (i := 28) (v := .bool true) (congrArg Value.bool hc4) ?_
                      refine O.move (v := v7) rfl rfl rfl ?_
                      refine O.move (v := (.int .i64 z9)) rfl rfl rfl ?_
                      obtain ⟨x1, hx1, hm8⟩ := bind_some hm8
                      refine O.indexAddr Try.underlying22 sz3 (H.own 0 rfl) hx1 rfl rfl rfl rfl ?_
                      intro p1 hp1
                      refine O.load sc3 rfl rfl rfl (hp1.flat 0 _ rfl) ?_
                      refine O.eql rfl rfl rfl rfl ?_
                      refine O.pick_true (v := (.bool (x1 == 9))) rfl rfl rfl rfl ?_
                      refine WL.nil ?_
                      have hq : (x1 == 9) = b2 := Option.some.inj (show some (x1 == 9) = some b2 from hm8)
                      subst hq
                      exact ⟨rfl, rfl, rfl, rfl, rfl, rfl, H⟩
                    · skip
                      refine WL.reset (i := 28) (v := .bool false) (congrArg Value.bool hc4) ?_
                      refine O.skip rfl rfl ?_
                      refine O.skip rfl rfl ?_
                      refine O.skip rfl rfl ?_
                      refine O.skip rfl rfl ?_
                      refine O.skip rfl rfl ?_
                      refine O.pick_false (v := (.bool false)) rfl rfl rfl rfl ?_
                      refine WL.nil ?_
                      have hq : false = b2 := Option.some.inj (show some false = some b2 from hm8)
                      subst hq
                      exact ⟨rfl, rfl, rfl, rfl, rfl, rfl, H⟩
                  · skip
                    rintro f w ⟨hf0, hf1, hf6, hf7, hf8, hf34, H⟩
                    obtain ⟨u5, rfl⟩ : ∃ u5, f = (upd (upd (upd (upd (upd (upd u5 0 (.int .i64 a0)) 1 (.int .i64 a1)) 6 v7) 7 (.int .i64 s3)) 8 (.int .i64 z9)) 34 (.bool b2)) := ⟨f, by rw [upd_self hf0, upd_self hf1, upd_self hf6, upd_self hf7, upd_self hf8, upd_self hf34]⟩
                    refine WL.nil ?_
                    rcases ite_some hm7 with ⟨hc5, hm7⟩ | ⟨hc5, hm7⟩
                    · refine W.cond_true (congrArg Value.bool hc5) ?_
                      refine W.skip ?_
                      refine W.seq ?_
                      refine W.block ?_
                      refine W.region ?_
                      refine O.move (v := v7) rfl rfl rfl ?_
                      refine O.move (v := (.int .i64 z9)) rfl rfl rfl ?_
                      obtain ⟨x2, hx2, hm7⟩ := bind_some hm7
                      refine O.indexOwn 0 Try.underlying22 sz3 H rfl hx2 rfl rfl rfl rfl ?_
                      intro b3 hob1 hp2
                      refine O.storeOwn (α := Int) (i0 := z9) (x0 := x2) 0 0 0 [(.int .i64 0)] sz3 H rfl hob1 hx2 rfl rfl rfl rfl rfl rfl rfl rfl (one_cons rfl one_nil) ?_
                      intro w5 H
                      clear hp2
                      refine WL.nil ?_
                      refine W.region ?_
                      refine O.move (v := (.int .i64 z9)) rfl rfl rfl ?_
                      obtain ⟨t7, ht7, hm7⟩ := bind_some hm7
                      refine O.sub rfl rfl rfl rfl ht7 ?_
                      refine O.assign (v := (.int .i64 t7)) rfl rfl rfl ?_
                      refine WL.nil ?_
                      obtain rfl := Option.some.inj hm7
                      exact ⟨_, rfl, _, _, v7, rfl, rfl, rfl, rfl, rfl, rfl, H⟩
                    · refine W.cond_false (congrArg Value.bool hc5) ?_
                      refine W.exit ?_
                      obtain rfl := Option.some.inj hm7
                      refine ⟨_, rfl, ?_⟩
                      intro hy
                      have hq : (z9, z10) = (s4, s5) := hy
                      obtain ⟨he0, hq0⟩ := Prod.mk.inj hq; clear hq; subst he0
                      subst hq0
                      refine xT rfl ?_
                      exact ⟨v7, rfl, rfl, rfl, rfl, rfl, H⟩
              · skip
                rintro f w ⟨v9, hf0, hf1, hf6, hf7, hf8, H⟩
                obtain ⟨u6, rfl⟩ : ∃ u6, f = (upd (upd (upd (upd (upd u6 0 (.int .i64 a0)) 1 (.int .i64 a1)) 6 v9) 7 (.int .i64 s3)) 8 (.int .i64 s4)) := ⟨f, by rw [upd_self hf0, upd_self hf1, upd_self hf6, upd_self hf7, upd_self hf8]⟩
                refine W.seq ?_
                refine W.seq ?_
                refine W.region ?_
                refine O.move (v := (.int .i64 s4)) rfl rfl rfl ?_
                refine O.lss rfl rfl rfl rfl ?_
                refine WL.nil ?_
                rcases ite_some hm4 with ⟨hc6, hm4⟩ | ⟨hc6, hm4⟩
                · refine W.cond_true (congrArg Value.bool hc6) ?_
                  refine W.seq ?_
                  refine W.region ?_
                  refine O.move (v := (.int .i64 s3)) rfl rfl rfl ?_
                  refine O.assign (v := (.int .i64 s3)) rfl rfl rfl ?_
                  refine O.assign (v := (.int .i64 0)) rfl rfl rfl ?_
                  refine WL.nil ?_
                  refine W.ret ?_
                  obtain rfl := Option.some.inj hm4
                  obtain rfl := Option.some.inj hm3
                  refine ⟨_, rfl, ?_⟩
                  rintro rfl
                  have hq : (s3, 0) = (r0, r1) := Option.some.inj (show some (s3, 0) = some (r0, r1) from hm)
                  obtain ⟨he0, hq0⟩ := Prod.mk.inj hq; clear hq; subst he0
                  subst hq0
                  exact ends2 Try.results23 rfl rfl ⟨_, rfl, H.base, rfl⟩
                · refine W.cond_false (congrArg Value.bool hc6) ?_
                  refine W.skip ?_
                  refine W.region ?_
                  refine O.move (v := v9) rfl rfl rfl ?_
                  refine O.move (v := (.int .i64 s4)) rfl rfl rfl ?_
                  obtain ⟨x3, hx3, hm4⟩ := bind_some hm4
                  refine O.indexAddr Try.underlying22 sz3 (H.own 0 rfl) hx3 rfl rfl rfl rfl ?_
                  intro p2 hp3
                  refine O.load sc3 rfl rfl rfl (hp3.flat 0 _ rfl) ?_
                  obtain ⟨t8, ht8, hm4⟩ := bind_some hm4
                  refine O.add rfl rfl rfl rfl ht8 ?_
                  obtain ⟨x4, hx4, hm4⟩ := bind_some hm4
                  refine O.indexOwn 0 Try.underlying22 sz3 H rfl hx4 rfl rfl rfl rfl ?_
                  intro b4 hob2 hp4
                  refine O.storeOwn (α := Int) (i0 := s4) (x0 := x4) 0 0 t8 [(.int .i64 t8)] sz3 H rfl hob2 hx4 rfl rfl rfl rfl rfl rfl rfl rfl (one_cons rfl one_nil) ?_
                  intro w6 H
                  clear hp3
                  clear hp4
                  refine WL.nil ?_
                  obtain rfl := Option.some.inj hm4
                  exact ⟨_, _, v9, rfl, rfl, rfl, rfl, rfl, H⟩
          · skip
            rintro f w ⟨s1, s2, v5, rfl, hf0, hf1, hf6, hf7, H⟩
            obtain ⟨u7, rfl⟩ : ∃ u7, f = (upd (upd (upd (upd u7 0 (.int .i64 a0)) 1 (.int .i64 a1)) 6 v5) 7 (.int .i64 s1)) := ⟨f, by rw [upd_self hf0, upd_self hf1, upd_self hf6, upd_self hf7]⟩
            obtain rfl := Option.some.inj hm3
            exact ⟨_, rfl, _, _, v5, rfl, rfl, rfl, rfl, rfl, H⟩
      · skip
        exact fun f w h => h.elim

end Go.Proofs
