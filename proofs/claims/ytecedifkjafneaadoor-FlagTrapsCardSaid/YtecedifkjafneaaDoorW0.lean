/-
  The walks: each function does what its model says, where the model has a value. No other condition.
-/
import Derived.Test.YtecedifkjafneaaDoorRows
import Derived.Test.YtecedifkjafneaaDoorM
import Derived.Test.YtecedifkjafneaaDoorFwX
import Derived.Test.YtecedifkjafneaaDoorShelf
import Derived.Test.YtecedifkjafneaaDoorFwWi
import Derived.Test.YtecedifkjafneaaDoorFwUp
namespace Go.Proofs
open Go.Fw Go.RowKit Go.Shelf
theorem sz39 : SizeT Tryd.prog 39 2 := SizeT.mk (by kernel_rfl)
theorem ag39 : AggT Tryd.prog 39 2 := AggT.mk Tryd.underlying39 rfl (by kernel_rfl)
theorem ze39 : ZeroT Tryd.prog 39 (.agg #[(.int .i64 (0)), (.string ByteArray.empty)]) := ZeroT.mk (by kernel_rfl)
theorem fd39_1 : FieldT Tryd.prog 39 1 1 := FieldT.mk (k := 1) Tryd.underlying39 rfl rfl (by kernel_rfl) (by decide)
theorem sc9 : ScalarT Tryd.prog 9 := ScalarT.mk Tryd.underlying9 rfl
theorem sc3 : ScalarT Tryd.prog 3 := ScalarT.mk Tryd.underlying3 rfl
theorem sz3 : SizeT Tryd.prog 3 1 := SizeT.mk (by kernel_rfl)
theorem el3 : ElemT Tryd.prog 3 1 8 := ElemT.mk (z := (.int .i64 (0))) (by kernel_rfl) rfl
theorem fol : Tryd.prog.follows .mixedOrders = true := by kernel_rfl
theorem fd39_0 : FieldT Tryd.prog 39 0 0 := FieldT.mk (k := 1) Tryd.underlying39 rfl rfl (by kernel_rfl) (by decide)
theorem bd84_a : ∀ (v0 v1 : Int) (w : World), (Instr.build 84 #[(0, .int .i64 v0), (1, .int .i64 v1)]).run Tryd.prog w = .ok (.agg #[.int .i64 v0, .int .i64 v1]) w := by
  intro v0 v1 w
  simp [Instr.build, Tryd.zeroValue84, Tryd.runUnderlying84, Instr.fill, Tryd.sizeOf3, Value.cells]
theorem el84 : ElemT Tryd.prog 84 2 16 := ElemT.mk (z := (.agg #[(.int .i64 (0)), (.int .i64 (0))])) (by kernel_rfl) rfl
theorem sz5 : SizeT Tryd.prog 5 1 := SizeT.mk (by kernel_rfl)
theorem sc5 : ScalarT Tryd.prog 5 := ScalarT.mk Tryd.underlying5 rfl
theorem sc22 : ScalarT Tryd.prog 22 := ScalarT.mk Tryd.underlying22 rfl
theorem sc55 : ScalarT Tryd.prog 55 := ScalarT.mk Tryd.underlying55 rfl
theorem sc53 : ScalarT Tryd.prog 53 := ScalarT.mk Tryd.underlying53 rfl
theorem sz22 : SizeT Tryd.prog 22 1 := SizeT.mk (by kernel_rfl)
theorem sz53 : SizeT Tryd.prog 53 1 := SizeT.mk (by kernel_rfl)
theorem ze22 : ZeroT Tryd.prog 22 (.slice none 0 0) := ZeroT.mk (by kernel_rfl)
theorem ze53 : ZeroT Tryd.prog 53 .nilFunc := ZeroT.mk (by kernel_rfl)
theorem shl1_flag : ∀ {y : Nat}, y < 13 → shlI 1 (y : Int) = some (2 ^ y) := by
  intro y h
  unfold shlI
  have : ∀ y : Nat, y < 13 → inI (1 * 2 ^ y) = true := by decide
  rw [if_pos ⟨by omega, by rw [Int.toNat_natCast]; exact this y h⟩, Int.toNat_natCast, Int.one_mul]
theorem ze4 : ZeroT Tryd.prog 4 (.bool false) := ZeroT.mk (by kernel_rfl)
theorem sz4 : SizeT Tryd.prog 4 1 := SizeT.mk (by kernel_rfl)
theorem sc4 : ScalarT Tryd.prog 4 := ScalarT.mk Tryd.underlying4 rfl
theorem el22 : ElemT Tryd.prog 22 1 24 := ElemT.mk (z := (.slice none 0 0)) (by kernel_rfl) rfl
theorem sz84 : SizeT Tryd.prog 84 2 := SizeT.mk (by kernel_rfl)
theorem ag84 : AggT Tryd.prog 84 2 := AggT.mk Tryd.underlying84 rfl (by kernel_rfl)
theorem eq84 : EqT Tryd.prog 84 GArr2 := by
  refine ⟨Tryd.eqGuardType84, ?_⟩
  intro a b w
  obtain ⟨a0, a1⟩ := a
  obtain ⟨b0, b1⟩ := b
  have hc : Tryd.prog.cellsOf 3 = 1 := by kernel_rfl
  have hr : List.range 2 = [0, 1] := rfl
  rw [run_equalIn_array w 9999 _ _ Tryd.underlying84 (show Tryd.prog.info? 3 = some Tryd.t3 by kernel_rfl), hc, hr]
  simp [Op.eqItems, Flat.cells, part, Tryd.isAgg3, run_equalIn_int _ _ _ _ _ _ _ Tryd.underlying3]
  cases h0 : decide (a0 = b0) <;> cases h1 : decide (a1 = b1) <;> simp_all
set_option maxRecDepth 20000 in
theorem c_noongunlaw07_fit {w0 : World} (va0 : Value) (a0 : (List GMeaning)) (ha0 : SliceR w0 va0 a0) {r0 : Bool} (hm : noongunlaw07_fit a0 = some r0) :
    Calls Tryd.prog 17 #[va0] w0 (Ret w0 fun _ v => v = (.bool r0)) := by
  unfold noongunlaw07_fit at hm
  refine calls_of_W Tryd.func17 rfl Tryd.ntmps17 (Nat.le_of_ble_eq_true rfl) ?_
  have H := Inv.start (w := w0)
  refine W.seq ?_
  refine W.region ?_
  refine O.assign (v := (.bool false)) rfl rfl rfl ?_
  refine WL.nil ?_
  refine W.seq ?_
  refine W.seq ?_
  refine W.region ?_
  refine O.move (v := va0) rfl rfl rfl ?_
  refine O.lenS Tryd.underlying33 (H.arg ha0) rfl rfl rfl ?_
  refine O.move (v := (.int .i64 0)) rfl rfl rfl ?_
  refine WL.nil ?_
  obtain ⟨o1, hm1, hm⟩ := bind_some hm
  refine W.via (fun f w => o1 = .next () ∧ f 0 = va0 ∧ Inv w0 w []) ?_ ?_
  · skip
    refine W.block ?_
    refine W.rangeL (i := 0) hm1 (fun rem ik1 s f w => () = s ∧ a0.drop ik1 = rem ∧ f 7 = .int .i64 (ik1 : Int) ∧ f 6 = (.int .i64 ((a0.length : Nat) : Int)) ∧ f 0 = va0 ∧ f 5 = va0 ∧ Inv w0 w []) ?_ ?_ ?_
    · skip
      exact ⟨rfl, List.drop_zero, rfl, rfl, rfl, rfl, H⟩
    · skip
      rintro yk1 xs ik1 _ st f w ⟨rfl, hdropk1, hf7, hf6, hf0, hf5, H⟩ hm2
      have hltk1 := drop_lt hdropk1; have hixk1 := drop_idx hdropk1
      obtain ⟨u1, rfl⟩ : ∃ u1, f = (upd (upd (upd (upd u1 7 (.int .i64 (ik1 : Int))) 6 (.int .i64 ((a0.length : Nat) : Int))) 0 va0) 5 va0) := ⟨f, by rw [upd_self hf7, upd_self hf6, upd_self hf0, upd_self hf5]⟩
      have hinck1 := addI_lt hltk1 (H.arg ha0).len_le
      refine W.seq ?_
      refine W.region ?_
      refine O.lss rfl rfl rfl rfl ?_
      refine WL.nil ?_
      refine W.seq ?_
      refine W.cond_true (congrArg Value.bool (decide_eq_true hltk1)) ?_
      refine W.skip ?_
      refine W.seq ?_
      refine W.block ?_
      refine W.seq ?_
      refine W.region ?_
      obtain ⟨p1, hp1, hrp1⟩ := fix_indexAddr Tryd.underlying33 sz39 ha0 hixk1
      refine hrp1 rfl rfl rfl rfl ?_
      refine O.loadA [(.int .i64 yk1.Number), (.string yk1.Text)] ag39 rfl rfl rfl rfl ((hp1.mono H.base).flat) ?_
      refine O.alloc [(.int .i64 0), (.string ByteArray.empty)] ze39 H rfl rfl rfl ?_
      intro b1 w1 H hb1
      refine O.store 0 0 [(.int .i64 yk1.Number), (.string yk1.Text)] [(.int .i64 yk1.Number), (.string yk1.Text)] sz39 H rfl rfl rfl rfl rfl rfl ⟨⟨rfl, rfl⟩, rfl⟩ (one_cons rfl (one_cons rfl one_nil)) ?_
      intro w2 H
      refine WL.nil ?_
      refine W.seq ?_
      refine W.region ?_
      refine O.fieldAddr fd39_1 rfl rfl rfl ?_
      refine O.load sc9 rfl rfl rfl (H.cell 0 rfl 1 _ rfl) ?_
      refine O.lenStr Tryd.underlying9 rfl rfl rfl ?_
      refine O.gtr rfl rfl rfl rfl ?_
      refine WL.nil ?_
      rcases ite_some hm2 with ⟨hc1, hm2⟩ | ⟨hc1, hm2⟩
      · refine W.cond_true (congrArg Value.bool hc1) ?_
        refine W.seq ?_
        refine W.region ?_
        refine O.assign (v := (.bool false)) rfl rfl rfl ?_
        refine WL.nil ?_
        refine W.ret ?_
        obtain rfl := Option.some.inj hm2
        refine ⟨_, rfl, ?_⟩
        rintro rfl
        have hq : false = r0 := Option.some.inj (show some false = some r0 from hm)
        subst hq
        exact ends1 Tryd.results17 rfl ⟨_, rfl, H.base, rfl⟩
      · refine W.cond_false (congrArg Value.bool hc1) ?_
        refine W.skip ?_
        refine W.region ?_
        refine O.add rfl rfl rfl rfl hinck1 ?_
        refine O.move (v := .int .i64 ((ik1 : Int) + 1)) rfl rfl rfl ?_
        refine WL.nil ?_
        have H := H.keep [] [] rfl (by decide)
        obtain rfl := Option.some.inj hm2
        exact ⟨_, rfl, rfl, drop_next hdropk1, rfl, rfl, rfl, rfl, H⟩
    · skip
      rintro ik1 _ f w ⟨rfl, hdropk1, hf7, hf6, hf0, hf5, H⟩ hfin
      have hltk1 := drop_end hdropk1
      obtain ⟨u2, rfl⟩ : ∃ u2, f = (upd (upd (upd (upd u2 7 (.int .i64 (ik1 : Int))) 6 (.int .i64 ((a0.length : Nat) : Int))) 0 va0) 5 va0) := ⟨f, by rw [upd_self hf7, upd_self hf6, upd_self hf0, upd_self hf5]⟩
      refine W.seq ?_
      refine W.region ?_
      refine O.lss rfl rfl rfl rfl ?_
      refine WL.nil ?_
      refine W.seq ?_
      refine W.cond_false (congrArg Value.bool (decide_eq_false hltk1)) ?_
      refine W.exit ?_
      obtain rfl : Ctl.next () = o1 := hfin
      refine xT rfl ?_
      exact ⟨rfl, rfl, H⟩
  · skip
    rintro f w ⟨rfl, hf0, H⟩
    obtain ⟨u3, rfl⟩ : ∃ u3, f = (upd u3 0 va0) := ⟨f, by rw [upd_self hf0]⟩
    refine W.seq ?_
    refine W.region ?_
    refine O.move (v := va0) rfl rfl rfl ?_
    refine O.lenS Tryd.underlying33 (H.arg ha0) rfl rfl rfl ?_
    refine O.leq rfl rfl rfl rfl ?_
    refine O.move (v := (.bool (decide (((a0.length : Nat) : Int) ≤ 40)))) rfl rfl rfl ?_
    refine WL.cut 9 (fun f w => f 28 = .bool ((decide (((a0.length : Nat) : Int) ≤ 40)) || ((decide (200 ≤ ((a0.length : Nat) : Int))) && (decide (((a0.length : Nat) : Int) ≤ 203)))) ∧ Inv w0 w []) ?_ ?_
    · skip
      rcases bool_ft (decide (((a0.length : Nat) : Int) ≤ 40)) with hc2 | hc2
      · skip
        refine WL.reset (i := 19) (v := .bool false) (congrArg Value.bool hc2) ?_
        refine O.move (v := va0) rfl rfl rfl ?_
        refine O.lenS Tryd.underlying33 (H.arg ha0) rfl rfl rfl ?_
        refine O.geq rfl rfl rfl rfl ?_
        refine O.move (v := (.bool (decide (200 ≤ ((a0.length : Nat) : Int))))) rfl rfl rfl ?_
        refine WL.cut 4 (fun f w => f 19 = (.bool false) ∧ f 27 = .bool ((decide (200 ≤ ((a0.length : Nat) : Int))) && (decide (((a0.length : Nat) : Int) ≤ 203))) ∧ Inv w0 w []) ?_ ?_
        · skip
          rcases bool_ft (decide (200 ≤ ((a0.length : Nat) : Int))) with hc3 | hc3
          · skip
            refine WL.reset (i := 23) (v := .bool false) (congrArg Value.bool hc3) ?_
            refine O.skip rfl rfl ?_
            refine O.skip rfl rfl ?_
            refine O.skip rfl rfl ?_
            refine O.pick_false (v := (.bool false)) rfl rfl rfl rfl ?_
            refine WL.nil ?_
            exact ⟨rfl, congrArg Value.bool (and_f hc3), H⟩
          · skip
            refine WL.reset (i := 23) (v := .bool true) (congrArg Value.bool hc3) ?_
            refine O.move (v := va0) rfl rfl rfl ?_
            refine O.lenS Tryd.underlying33 (H.arg ha0) rfl rfl rfl ?_
            refine O.leq rfl rfl rfl rfl ?_
            refine O.pick_true (v := (.bool (decide (((a0.length : Nat) : Int) ≤ 203)))) rfl rfl rfl rfl ?_
            refine WL.nil ?_
            exact ⟨rfl, congrArg Value.bool (and_t hc3), H⟩
        · skip
          rintro f w ⟨hf19, hf27, H⟩
          obtain ⟨u4, rfl⟩ : ∃ u4, f = (upd (upd u4 19 (.bool false)) 27 (.bool ((decide (200 ≤ ((a0.length : Nat) : Int))) && (decide (((a0.length : Nat) : Int) ≤ 203))))) := ⟨f, by rw [upd_self hf19, upd_self hf27]⟩
          refine O.pick_false (v := (.bool ((decide (200 ≤ ((a0.length : Nat) : Int))) && (decide (((a0.length : Nat) : Int) ≤ 203))))) rfl rfl rfl rfl ?_
          refine WL.nil ?_
          exact ⟨congrArg Value.bool (or_f hc2), H⟩
      · skip
        refine WL.reset (i := 19) (v := .bool true) (congrArg Value.bool hc2) ?_
        refine O.skip rfl rfl ?_
        refine O.skip rfl rfl ?_
        refine O.skip rfl rfl ?_
        refine O.skip rfl rfl ?_
        refine O.skip rfl rfl ?_
        refine O.skip rfl rfl ?_
        refine O.skip rfl rfl ?_
        refine O.skip rfl rfl ?_
        refine O.pick_true (v := (.bool true)) rfl rfl rfl rfl ?_
        refine WL.nil ?_
        exact ⟨congrArg Value.bool (or_t hc2), H⟩
    · skip
      rintro f w ⟨hf28, H⟩
      obtain ⟨u5, rfl⟩ : ∃ u5, f = (upd u5 28 (.bool ((decide (((a0.length : Nat) : Int) ≤ 40)) || ((decide (200 ≤ ((a0.length : Nat) : Int))) && (decide (((a0.length : Nat) : Int) ≤ 203)))))) := ⟨f, by rw [upd_self hf28]⟩
      refine O.assign (v := (.bool ((decide (((a0.length : Nat) : Int) ≤ 40)) || ((decide (200 ≤ ((a0.length : Nat) : Int))) && (decide (((a0.length : Nat) : Int) ≤ 203)))))) rfl rfl rfl ?_
      refine WL.nil ?_
      refine W.ret ?_
      have hq : ((decide (((a0.length : Nat) : Int) ≤ 40)) || ((decide (200 ≤ ((a0.length : Nat) : Int))) && (decide (((a0.length : Nat) : Int) ≤ 203)))) = r0 := Option.some.inj (show some ((decide (((a0.length : Nat) : Int) ≤ 40)) || ((decide (200 ≤ ((a0.length : Nat) : Int))) && (decide (((a0.length : Nat) : Int) ≤ 203)))) = some r0 from hm)
      subst hq
      exact ends1 Tryd.results17 rfl ⟨_, rfl, H.base, rfl⟩

theorem c_flag_within {w0 : World} (a0 : Int) (a1 : Int) (a2 : Int) {r0 : Bool} (hm : flag_within a0 a1 a2 = some r0) :
    Calls Tryd.prog 58 #[(.int .i64 a0), (.int .i64 a1), (.int .i64 a2)] w0 (Ret w0 fun _ v => v = (.bool r0)) := by
  unfold flag_within at hm
  refine calls_of_W Tryd.func58 rfl Tryd.ntmps58 (Nat.le_of_ble_eq_true rfl) ?_
  have H := Inv.start (w := w0)
  refine W.seq ?_
  refine W.region ?_
  refine O.assign (v := (.bool false)) rfl rfl rfl ?_
  refine WL.nil ?_
  refine W.seq ?_
  refine W.region ?_
  refine O.move (v := (.int .i64 a0)) rfl rfl rfl ?_
  refine O.move (v := (.int .i64 a1)) rfl rfl rfl ?_
  refine O.geq rfl rfl rfl rfl ?_
  refine O.move (v := (.bool (decide (a1 ≤ a0)))) rfl rfl rfl ?_
  refine WL.cut 4 (fun f w => f 14 = .bool ((decide (a1 ≤ a0)) && (decide (a0 ≤ a2))) ∧ Inv w0 w []) ?_ ?_
  · skip
    rcases bool_ft (decide (a1 ≤ a0)) with hc1 | hc1
    · skip
      refine WL.reset (i := 10) (v := .bool false) (congrArg Value.bool hc1) ?_
      refine O.skip rfl rfl ?_
      refine O.skip rfl rfl ?_
      refine O.skip rfl rfl ?_
      refine O.pick_false (v := (.bool false)) rfl rfl rfl rfl ?_
      refine WL.nil ?_
      exact ⟨congrArg Value.bool (and_f hc1), H⟩
    · skip
      refine WL.reset (i := 10) (v := .bool true) (congrArg Value.bool hc1) ?_
      refine O.move (v := (.int .i64 a0)) rfl rfl rfl ?_
      refine O.move (v := (.int .i64 a2)) rfl rfl rfl ?_
      refine O.leq rfl rfl rfl rfl ?_
      refine O.pick_true (v := (.bool (decide (a0 ≤ a2)))) rfl rfl rfl rfl ?_
      refine WL.nil ?_
      exact ⟨congrArg Value.bool (and_t hc1), H⟩
  · skip
    rintro f w ⟨hf14, H⟩
    obtain ⟨u1, rfl⟩ : ∃ u1, f = (upd u1 14 (.bool ((decide (a1 ≤ a0)) && (decide (a0 ≤ a2))))) := ⟨f, by rw [upd_self hf14]⟩
    refine O.assign (v := (.bool ((decide (a1 ≤ a0)) && (decide (a0 ≤ a2))))) rfl rfl rfl ?_
    refine WL.nil ?_
    refine W.ret ?_
    have hq : ((decide (a1 ≤ a0)) && (decide (a0 ≤ a2))) = r0 := Option.some.inj (show some ((decide (a1 ≤ a0)) && (decide (a0 ≤ a2))) = some r0 from hm)
    subst hq
    exact ends1 Tryd.results58 rfl ⟨_, rfl, H.base, rfl⟩

theorem c_flag_listed_c1 {w0 : World} (a0 : Int) (pc0 : Addr) (c0 : Int) (hc0 : ∀ j c, (Flat.cells c0)[j]? = some c → w0.cell? (pc0.add j) = some c) {r0 : Bool} (hm : flag_listed_c1 a0 c0 = some r0) :
    Calls Tryd.prog 94 #[(.int .i64 a0), (.pointer (some pc0))] w0 (Ret w0 fun _ v => v = (.bool r0)) := by
  unfold flag_listed_c1 at hm
  refine calls_of_W Tryd.func94 rfl Tryd.ntmps94 (Nat.le_of_ble_eq_true rfl) ?_
  have H := Inv.start (w := w0)
  refine W.seq ?_
  refine W.region ?_
  refine O.assign (v := (.bool false)) rfl rfl rfl ?_
  refine WL.nil ?_
  refine W.seq ?_
  refine W.region ?_
  refine O.move (v := (.int .i64 a0)) rfl rfl rfl ?_
  refine O.load sc3 rfl rfl rfl (cells_mono hc0 H.base 0 _ rfl) ?_
  obtain ⟨t1, hy1, hm⟩ := bind_some hm
  refine O.call Tryd.call58 rfl rfl rfl (c_flag_within _ _ _ hy1) ?_
  rintro _ w1 hb1 rfl
  have H := H.ext hb1
  refine O.not rfl rfl rfl ?_
  refine O.assign (v := (.bool (!t1))) rfl rfl rfl ?_
  refine WL.nil ?_
  refine W.ret ?_
  have hq : (!t1) = r0 := Option.some.inj (show some (!t1) = some r0 from hm)
  subst hq
  exact ends1 Tryd.results94 rfl ⟨_, rfl, H.base, rfl⟩

theorem c_slices_IndexFunc_int {w0 : World} (va0 : Value) (a0 : (List Int)) (ha0 : SliceR w0 va0 a0) (va1 : Value) (a1 : Int → Option (Bool)) (ha1 : ∀ (w : World), Below w0.heap.size w0 w → ∀ (x0 : Int) (y0 : Bool), a1 x0 = some y0 → CallsV Tryd.prog va1 #[(.int .i64 x0)] w (Ret w fun _ v => v = (.bool y0))) {r0 : Int} (hm : slices_IndexFunc_int a0 a1 = some r0) :
    Calls Tryd.prog 116 #[va0, va1] w0 (Ret w0 fun _ v => v = (.int .i64 r0)) := by
  unfold slices_IndexFunc_int at hm
  refine calls_of_W Tryd.func116 rfl Tryd.ntmps116 (Nat.le_of_ble_eq_true rfl) ?_
  have H := Inv.start (w := w0)
  refine W.seq ?_
  refine W.region ?_
  refine O.assign (v := (.int .i64 0)) rfl rfl rfl ?_
  refine WL.nil ?_
  refine W.seq ?_
  refine W.seq ?_
  refine W.region ?_
  refine O.move (v := va0) rfl rfl rfl ?_
  refine O.lenS Tryd.underlying22 (H.arg ha0) rfl rfl rfl ?_
  refine O.move (v := (.int .i64 0)) rfl rfl rfl ?_
  refine WL.nil ?_
  obtain ⟨o1, hm1, hm⟩ := bind_some hm
  refine W.via (fun f w => o1 = .next () ∧ Inv w0 w []) ?_ ?_
  · skip
    refine W.block ?_
    have hbdik1 := (H.arg ha0).len_le
    refine W.rangeN (i := 0) hm1 (fun rem ik1 s f w => () = s ∧ (ik1 : Int) + rem = max 0 ((a0.length : Nat) : Int) ∧ f 8 = .int .i64 (ik1 : Int) ∧ f 7 = (.int .i64 ((a0.length : Nat) : Int)) ∧ f 0 = va0 ∧ f 1 = va1 ∧ Inv w0 w []) ?_ ?_ ?_
    · skip
      exact ⟨rfl, rangeN_start, rfl, rfl, rfl, rfl, H⟩
    · skip
      rintro k ik1 _ st f w ⟨rfl, hdropk1, hf8, hf7, hf0, hf1, H⟩ hm2
      have hltk1 := rangeN_lt hdropk1
      obtain ⟨u1, rfl⟩ : ∃ u1, f = (upd (upd (upd (upd u1 8 (.int .i64 (ik1 : Int))) 7 (.int .i64 ((a0.length : Nat) : Int))) 0 va0) 1 va1) := ⟨f, by rw [upd_self hf8, upd_self hf7, upd_self hf0, upd_self hf1]⟩
      have hinck1 := addI_lt hltk1 hbdik1
      refine W.seq ?_
      refine W.region ?_
      refine O.lss rfl rfl rfl rfl ?_
      refine WL.nil ?_
      refine W.seq ?_
      refine W.cond_true (congrArg Value.bool (decide_eq_true hltk1)) ?_
      refine W.skip ?_
      refine W.seq ?_
      refine W.block ?_
      refine W.seq ?_
      refine W.region ?_
      refine O.move (v := (.int .i64 (ik1 : Int))) rfl rfl rfl ?_
      refine O.assign (v := (.int .i64 (ik1 : Int))) rfl rfl rfl ?_
      refine WL.nil ?_
      refine W.seq ?_
      refine W.region ?_
      refine O.move (v := va1) rfl rfl rfl ?_
      refine O.move (v := va0) rfl rfl rfl ?_
      refine O.move (v := (.int .i64 (ik1 : Int))) rfl rfl rfl ?_
      obtain ⟨x1, hx1, hm2⟩ := bind_some hm2
      obtain ⟨p1, hp1, hrp1⟩ := fix_indexAddr Tryd.underlying22 sz3 ha0 hx1
      refine hrp1 rfl rfl rfl rfl ?_
      refine O.load sc3 rfl rfl rfl ((hp1.mono H.base).flat 0 _ rfl) ?_
      obtain ⟨t1, hy1, hm2⟩ := bind_some hm2
      refine O.callV rfl rfl rfl rfl (ha1 _ H.base _ _ hy1) ?_
      rintro _ w1 hb1 rfl
      have H := H.ext hb1
      refine WL.nil ?_
      rcases ite_some hm2 with ⟨hc1, hm2⟩ | ⟨hc1, hm2⟩
      · refine W.cond_true (congrArg Value.bool hc1) ?_
        refine W.seq ?_
        refine W.region ?_
        refine O.move (v := (.int .i64 (ik1 : Int))) rfl rfl rfl ?_
        refine O.assign (v := (.int .i64 (ik1 : Int))) rfl rfl rfl ?_
        refine WL.nil ?_
        refine W.ret ?_
        obtain rfl := Option.some.inj hm2
        refine ⟨_, rfl, ?_⟩
        rintro rfl
        have hq : (ik1 : Int) = r0 := Option.some.inj (show some (ik1 : Int) = some r0 from hm)
        subst hq
        exact ends1 Tryd.results116 rfl ⟨_, rfl, H.base, rfl⟩
      · refine W.cond_false (congrArg Value.bool hc1) ?_
        refine W.skip ?_
        refine W.region ?_
        refine O.add rfl rfl rfl rfl hinck1 ?_
        refine O.move (v := .int .i64 ((ik1 : Int) + 1)) rfl rfl rfl ?_
        refine WL.nil ?_
        obtain rfl := Option.some.inj hm2
        exact ⟨_, rfl, rfl, rangeN_next hdropk1, rfl, rfl, rfl, rfl, H⟩
    · skip
      rintro ik1 _ f w ⟨rfl, hdropk1, hf8, hf7, hf0, hf1, H⟩ hfin
      have hltk1 := rangeN_end hdropk1
      obtain ⟨u2, rfl⟩ : ∃ u2, f = (upd (upd (upd (upd u2 8 (.int .i64 (ik1 : Int))) 7 (.int .i64 ((a0.length : Nat) : Int))) 0 va0) 1 va1) := ⟨f, by rw [upd_self hf8, upd_self hf7, upd_self hf0, upd_self hf1]⟩
      refine W.seq ?_
      refine W.region ?_
      refine O.lss rfl rfl rfl rfl ?_
      refine WL.nil ?_
      refine W.seq ?_
      refine W.cond_false (congrArg Value.bool (decide_eq_false hltk1)) ?_
      refine W.exit ?_
      obtain rfl : Ctl.next () = o1 := hfin
      refine xT rfl ?_
      exact ⟨rfl, H⟩
  · skip
    rintro f w ⟨rfl, H⟩
    refine W.seq ?_
    refine W.region ?_
    refine O.assign (v := (.int .i64 (-1))) rfl rfl rfl ?_
    refine WL.nil ?_
    refine W.ret ?_
    have hq : (-1) = r0 := Option.some.inj (show some (-1) = some r0 from hm)
    subst hq
    exact ends1 Tryd.results116 rfl ⟨_, rfl, H.base, rfl⟩

theorem c_slices_ContainsFunc_int {w0 : World} (va0 : Value) (a0 : (List Int)) (ha0 : SliceR w0 va0 a0) (va1 : Value) (a1 : Int → Option (Bool)) (ha1 : ∀ (w : World), Below w0.heap.size w0 w → ∀ (x0 : Int) (y0 : Bool), a1 x0 = some y0 → CallsV Tryd.prog va1 #[(.int .i64 x0)] w (Ret w fun _ v => v = (.bool y0))) {r0 : Bool} (hm : slices_ContainsFunc_int a0 a1 = some r0) :
    Calls Tryd.prog 93 #[va0, va1] w0 (Ret w0 fun _ v => v = (.bool r0)) := by
  unfold slices_ContainsFunc_int at hm
  refine calls_of_W Tryd.func93 rfl Tryd.ntmps93 (Nat.le_of_ble_eq_true rfl) ?_
  have H := Inv.start (w := w0)
  refine W.seq ?_
  refine W.region ?_
  refine O.assign (v := (.bool false)) rfl rfl rfl ?_
  refine WL.nil ?_
  refine W.seq ?_
  refine W.region ?_
  refine O.move (v := va0) rfl rfl rfl ?_
  refine O.move (v := va1) rfl rfl rfl ?_
  obtain ⟨t1, hy1, hm⟩ := bind_some hm
  refine O.call Tryd.call116 rfl rfl rfl (c_slices_IndexFunc_int _ _ (H.arg ha0) va1 a1 (fun w hw => ha1 w (H.base.trans (hw.mono H.base.size))) hy1) ?_
  rintro _ w1 hb1 rfl
  have H := H.ext hb1
  refine O.geq rfl rfl rfl rfl ?_
  refine O.assign (v := (.bool (decide (0 ≤ t1)))) rfl rfl rfl ?_
  refine WL.nil ?_
  refine W.ret ?_
  have hq : (decide (0 ≤ t1)) = r0 := Option.some.inj (show some (decide (0 ≤ t1)) = some r0 from hm)
  subst hq
  exact ends1 Tryd.results93 rfl ⟨_, rfl, H.base, rfl⟩

theorem c_flag_listed {w0 : World} (va0 : Value) (a0 : (List Int)) (ha0 : SliceR w0 va0 a0) (a1 : Int) {r0 : Bool} (hm : flag_listed a0 a1 = some r0) :
    Calls Tryd.prog 78 #[va0, (.int .i64 a1)] w0 (Ret w0 fun _ v => v = (.bool r0)) := by
  unfold flag_listed at hm
  refine calls_of_W Tryd.func78 rfl Tryd.ntmps78 (Nat.le_of_ble_eq_true rfl) ?_
  have H := Inv.start (w := w0)
  refine W.seq ?_
  refine W.region ?_
  refine O.box [(.int .i64 a1)] H rfl rfl rfl rfl ?_
  intro b1 w1 H hb1
  refine O.assign (v := (.bool false)) rfl rfl rfl ?_
  refine WL.nil ?_
  refine W.seq ?_
  refine W.region ?_
  refine O.move (v := va0) rfl rfl rfl ?_
  refine O.lenS Tryd.underlying22 (H.arg ha0) rfl rfl rfl ?_
  obtain ⟨t1, hy1, hm⟩ := bind_some hm
  refine O.call Tryd.call58 rfl rfl rfl (c_flag_within _ _ _ hy1) ?_
  rintro _ w2 hb2 rfl
  have H := H.ext hb2
  refine O.move (v := (.bool t1)) rfl rfl rfl ?_
  obtain ⟨b2, hm1, hm⟩ := bind_some hm
  refine WL.cut 5 (fun f w => f 13 = .bool b2 ∧ Inv w0 w [boxI b1 3 [(.int .i64 a1)]]) ?_ ?_
  · skip
    rcases ite_some hm1 with ⟨hc1, hm1⟩ | ⟨hc1, hm1⟩
    · skip
      refine WL.reset (i := 8) (v := .bool true) (congrArg Value.bool hc1) ?_
      refine O.move (v := va0) rfl rfl rfl ?_
      refine O.makeFunc rfl rfl rfl rfl ?_
      obtain ⟨t2, hy2, hm1⟩ := bind_some hm1
      refine O.call Tryd.call93 rfl rfl rfl (c_slices_ContainsFunc_int _ _ (H.arg ha0) _ (fun x0 => flag_listed_c1 x0 a1) (fun w hw x0 _ hy => callsV_mk Tryd.call94 (c_flag_listed_c1 x0 _ a1 (cells_mono (H.cell 0 rfl) hw) hy)) hy2) ?_
      rintro _ w3 hb3 rfl
      have H := H.ext hb3
      refine O.not rfl rfl rfl ?_
      refine O.pick_true (v := (.bool (!t2))) rfl rfl rfl rfl ?_
      refine WL.nil ?_
      have hq : (!t2) = b2 := Option.some.inj (show some (!t2) = some b2 from hm1)
      subst hq
      exact ⟨rfl, H⟩
    · skip
      refine WL.reset (i := 8) (v := .bool false) (congrArg Value.bool hc1) ?_
      refine O.skip rfl rfl ?_
      refine O.skip rfl rfl ?_
      refine O.skip rfl rfl ?_
      refine O.skip rfl rfl ?_
      refine O.pick_false (v := (.bool false)) rfl rfl rfl rfl ?_
      refine WL.nil ?_
      have hq : false = b2 := Option.some.inj (show some false = some b2 from hm1)
      subst hq
      exact ⟨rfl, H⟩
  · skip
    rintro f w ⟨hf13, H⟩
    obtain ⟨u1, rfl⟩ : ∃ u1, f = (upd u1 13 (.bool b2)) := ⟨f, by rw [upd_self hf13]⟩
    refine O.assign (v := (.bool b2)) rfl rfl rfl ?_
    refine WL.nil ?_
    refine W.ret ?_
    have hq : b2 = r0 := Option.some.inj (show some b2 = some r0 from hm)
    subst hq
    exact ends1 Tryd.results78 rfl ⟨_, rfl, H.base, rfl⟩

theorem c_flag_ValidDigits {w0 : World} (va0 : Value) (a0 : (List Int)) (ha0 : SliceR w0 va0 a0) {r0 : Bool} (hm : flag_ValidDigits a0 = some r0) :
    Calls Tryd.prog 41 #[va0] w0 (Ret w0 fun _ v => v = (.bool r0)) := by
  unfold flag_ValidDigits at hm
  refine calls_of_W Tryd.func41 rfl Tryd.ntmps41 (Nat.le_of_ble_eq_true rfl) ?_
  have H := Inv.start (w := w0)
  refine W.seq ?_
  refine W.region ?_
  refine O.assign (v := (.bool false)) rfl rfl rfl ?_
  refine WL.nil ?_
  refine W.seq ?_
  refine W.region ?_
  refine O.move (v := va0) rfl rfl rfl ?_
  obtain ⟨t1, hy1, hm⟩ := bind_some hm
  refine O.call Tryd.call78 rfl rfl rfl (c_flag_listed _ _ (H.arg ha0) _ hy1) ?_
  rintro _ w1 hb1 rfl
  have H := H.ext hb1
  refine O.assign (v := (.bool t1)) rfl rfl rfl ?_
  refine WL.nil ?_
  refine W.ret ?_
  have hq : t1 = r0 := Option.some.inj (show some t1 = some r0 from hm)
  subst hq
  exact ends1 Tryd.results41 rfl ⟨_, rfl, H.base, rfl⟩

theorem c_slices_Index_int {w0 : World} (va0 : Value) (a0 : (List Int)) (ha0 : SliceR w0 va0 a0) (a1 : Int) {r0 : Int} (hm : slices_Index_int a0 a1 = some r0) :
    Calls Tryd.prog 82 #[va0, (.int .i64 a1)] w0 (Ret w0 fun _ v => v = (.int .i64 r0)) := by
  unfold slices_Index_int at hm
  refine calls_of_W Tryd.func82 rfl Tryd.ntmps82 (Nat.le_of_ble_eq_true rfl) ?_
  have H := Inv.start (w := w0)
  refine W.seq ?_
  refine W.region ?_
  refine O.assign (v := (.int .i64 0)) rfl rfl rfl ?_
  refine WL.nil ?_
  refine W.seq ?_
  refine W.seq ?_
  refine W.region ?_
  refine O.move (v := va0) rfl rfl rfl ?_
  refine O.lenS Tryd.underlying22 (H.arg ha0) rfl rfl rfl ?_
  refine O.move (v := (.int .i64 0)) rfl rfl rfl ?_
  refine WL.nil ?_
  obtain ⟨o1, hm1, hm⟩ := bind_some hm
  refine W.via (fun f w => o1 = .next () ∧ Inv w0 w []) ?_ ?_
  · skip
    refine W.block ?_
    have hbdik1 := (H.arg ha0).len_le
    refine W.rangeN (i := 0) hm1 (fun rem ik1 s f w => () = s ∧ (ik1 : Int) + rem = max 0 ((a0.length : Nat) : Int) ∧ f 8 = .int .i64 (ik1 : Int) ∧ f 7 = (.int .i64 ((a0.length : Nat) : Int)) ∧ f 0 = va0 ∧ f 1 = (.int .i64 a1) ∧ Inv w0 w []) ?_ ?_ ?_
    · skip
      exact ⟨rfl, rangeN_start, rfl, rfl, rfl, rfl, H⟩
    · skip
      rintro k ik1 _ st f w ⟨rfl, hdropk1, hf8, hf7, hf0, hf1, H⟩ hm2
      have hltk1 := rangeN_lt hdropk1
      obtain ⟨u1, rfl⟩ : ∃ u1, f = (upd (upd (upd (upd u1 8 (.int .i64 (ik1 : Int))) 7 (.int .i64 ((a0.length : Nat) : Int))) 0 va0) 1 (.int .i64 a1)) := ⟨f, by rw [upd_self hf8, upd_self hf7, upd_self hf0, upd_self hf1]⟩
      have hinck1 := addI_lt hltk1 hbdik1
      refine W.seq ?_
      refine W.region ?_
      refine O.lss rfl rfl rfl rfl ?_
      refine WL.nil ?_
      refine W.seq ?_
      refine W.cond_true (congrArg Value.bool (decide_eq_true hltk1)) ?_
      refine W.skip ?_
      refine W.seq ?_
      refine W.block ?_
      refine W.seq ?_
      refine W.region ?_
      refine O.move (v := (.int .i64 (ik1 : Int))) rfl rfl rfl ?_
      refine O.assign (v := (.int .i64 (ik1 : Int))) rfl rfl rfl ?_
      refine WL.nil ?_
      refine W.seq ?_
      refine W.region ?_
      refine O.move (v := (.int .i64 a1)) rfl rfl rfl ?_
      refine O.move (v := va0) rfl rfl rfl ?_
      refine O.move (v := (.int .i64 (ik1 : Int))) rfl rfl rfl ?_
      obtain ⟨x1, hx1, hm2⟩ := bind_some hm2
      obtain ⟨p1, hp1, hrp1⟩ := fix_indexAddr Tryd.underlying22 sz3 ha0 hx1
      refine hrp1 rfl rfl rfl rfl ?_
      refine O.load sc3 rfl rfl rfl ((hp1.mono H.base).flat 0 _ rfl) ?_
      refine O.eql rfl rfl rfl rfl ?_
      refine WL.nil ?_
      rcases ite_some hm2 with ⟨hc1, hm2⟩ | ⟨hc1, hm2⟩
      · refine W.cond_true (congrArg Value.bool hc1) ?_
        refine W.seq ?_
        refine W.region ?_
        refine O.move (v := (.int .i64 (ik1 : Int))) rfl rfl rfl ?_
        refine O.assign (v := (.int .i64 (ik1 : Int))) rfl rfl rfl ?_
        refine WL.nil ?_
        refine W.ret ?_
        obtain rfl := Option.some.inj hm2
        refine ⟨_, rfl, ?_⟩
        rintro rfl
        have hq : (ik1 : Int) = r0 := Option.some.inj (show some (ik1 : Int) = some r0 from hm)
        subst hq
        exact ends1 Tryd.results82 rfl ⟨_, rfl, H.base, rfl⟩
      · refine W.cond_false (congrArg Value.bool hc1) ?_
        refine W.skip ?_
        refine W.region ?_
        refine O.add rfl rfl rfl rfl hinck1 ?_
        refine O.move (v := .int .i64 ((ik1 : Int) + 1)) rfl rfl rfl ?_
        refine WL.nil ?_
        obtain rfl := Option.some.inj hm2
        exact ⟨_, rfl, rfl, rangeN_next hdropk1, rfl, rfl, rfl, rfl, H⟩
    · skip
      rintro ik1 _ f w ⟨rfl, hdropk1, hf8, hf7, hf0, hf1, H⟩ hfin
      have hltk1 := rangeN_end hdropk1
      obtain ⟨u2, rfl⟩ : ∃ u2, f = (upd (upd (upd (upd u2 8 (.int .i64 (ik1 : Int))) 7 (.int .i64 ((a0.length : Nat) : Int))) 0 va0) 1 (.int .i64 a1)) := ⟨f, by rw [upd_self hf8, upd_self hf7, upd_self hf0, upd_self hf1]⟩
      refine W.seq ?_
      refine W.region ?_
      refine O.lss rfl rfl rfl rfl ?_
      refine WL.nil ?_
      refine W.seq ?_
      refine W.cond_false (congrArg Value.bool (decide_eq_false hltk1)) ?_
      refine W.exit ?_
      obtain rfl : Ctl.next () = o1 := hfin
      refine xT rfl ?_
      exact ⟨rfl, H⟩
  · skip
    rintro f w ⟨rfl, H⟩
    refine W.seq ?_
    refine W.region ?_
    refine O.assign (v := (.int .i64 (-1))) rfl rfl rfl ?_
    refine WL.nil ?_
    refine W.ret ?_
    have hq : (-1) = r0 := Option.some.inj (show some (-1) = some r0 from hm)
    subst hq
    exact ends1 Tryd.results82 rfl ⟨_, rfl, H.base, rfl⟩

theorem c_slices_Contains_int {w0 : World} (va0 : Value) (a0 : (List Int)) (ha0 : SliceR w0 va0 a0) (a1 : Int) {r0 : Bool} (hm : slices_Contains_int a0 a1 = some r0) :
    Calls Tryd.prog 61 #[va0, (.int .i64 a1)] w0 (Ret w0 fun _ v => v = (.bool r0)) := by
  unfold slices_Contains_int at hm
  refine calls_of_W Tryd.func61 rfl Tryd.ntmps61 (Nat.le_of_ble_eq_true rfl) ?_
  have H := Inv.start (w := w0)
  refine W.seq ?_
  refine W.region ?_
  refine O.assign (v := (.bool false)) rfl rfl rfl ?_
  refine WL.nil ?_
  refine W.seq ?_
  refine W.region ?_
  refine O.move (v := va0) rfl rfl rfl ?_
  refine O.move (v := (.int .i64 a1)) rfl rfl rfl ?_
  obtain ⟨t1, hy1, hm⟩ := bind_some hm
  refine O.call Tryd.call82 rfl rfl rfl (c_slices_Index_int _ _ (H.arg ha0) _ hy1) ?_
  rintro _ w1 hb1 rfl
  have H := H.ext hb1
  refine O.geq rfl rfl rfl rfl ?_
  refine O.assign (v := (.bool (decide (0 ≤ t1)))) rfl rfl rfl ?_
  refine WL.nil ?_
  refine W.ret ?_
  have hq : (decide (0 ≤ t1)) = r0 := Option.some.inj (show some (decide (0 ≤ t1)) = some r0 from hm)
  subst hq
  exact ends1 Tryd.results61 rfl ⟨_, rfl, H.base, rfl⟩

theorem c_flag_place {w0 : World} (a0 : Int) {r0 : Int} (hm : flag_place a0 = some r0) :
    Calls Tryd.prog 62 #[(.int .i64 a0)] w0 (Ret w0 fun _ v => v = (.int .i64 r0)) := by
  unfold flag_place at hm
  refine calls_of_W Tryd.func62 rfl Tryd.ntmps62 (Nat.le_of_ble_eq_true rfl) ?_
  have H := Inv.start (w := w0)
  refine W.seq ?_
  refine W.region ?_
  refine O.assign (v := (.int .i64 0)) rfl rfl rfl ?_
  refine WL.nil ?_
  refine W.seq ?_
  refine W.region ?_
  refine O.move (v := (.int .i64 a0)) rfl rfl rfl ?_
  obtain ⟨t1, ht1, hm⟩ := bind_some hm
  refine O.sub rfl rfl rfl rfl ht1 ?_
  refine O.assign (v := (.int .i64 t1)) rfl rfl rfl ?_
  refine WL.nil ?_
  refine W.ret ?_
  have hq : t1 = r0 := Option.some.inj (show some t1 = some r0 from hm)
  subst hq
  exact ends1 Tryd.results62 rfl ⟨_, rfl, H.base, rfl⟩

set_option maxRecDepth 20000 in
theorem c_flag_Hoist {w0 : World} (va0 : Value) (a0 : (List Int)) (ha0 : SliceR w0 va0 a0) {r0 : (List Int)} {r1 : Int} (hm : flag_Hoist a0 = some (r0, r1)) :
    Calls Tryd.prog 24 #[va0] w0 (Ret w0 fun w v => ∃ vr0 : Value, v = .tuple #[vr0, (.int .i64 r1)] ∧ OwnR w0 w vr0 3 r0) := by
  unfold flag_Hoist at hm
  refine calls_of_W Tryd.func24 rfl Tryd.ntmps24 (Nat.le_of_ble_eq_true rfl) ?_
  have H := Inv.start (w := w0)
  refine W.seq ?_
  refine W.region ?_
  have H := H.addNil (α := Int) (E := 3)
  refine O.assign (v := (.slice none 0 0)) rfl rfl rfl ?_
  refine O.assign (v := (.int .i64 0)) rfl rfl rfl ?_
  refine WL.nil ?_
  refine W.seq ?_
  refine W.seq ?_
  refine W.region ?_
  refine O.move (v := va0) rfl rfl rfl ?_
  obtain ⟨t1, hy1, hm⟩ := bind_some hm
  refine O.call Tryd.call41 rfl rfl rfl (c_flag_ValidDigits _ _ (H.arg ha0) hy1) ?_
  rintro _ w1 hb1 rfl
  have H := H.ext hb1
  refine O.not rfl rfl rfl ?_
  refine WL.nil ?_
  rcases ite_some hm with ⟨hc1, hm⟩ | ⟨hc1, hm⟩
  · refine W.cond_true (congrArg Value.bool hc1) ?_
    refine W.seq ?_
    refine W.region ?_
    have H := H.addNil (α := Int) (E := 3)
    refine O.assign (v := (.slice none 0 0)) rfl rfl rfl ?_
    refine O.assign (v := (.int .i64 1)) rfl rfl rfl ?_
    refine WL.nil ?_
    refine W.ret ?_
    have hq : (([] : List Int), 1) = (r0, r1) := Option.some.inj (show some (([] : List Int), 1) = some (r0, r1) from hm)
    obtain ⟨he0, hq0⟩ := Prod.mk.inj hq; clear hq; subst he0
    subst hq0
    exact ends2 Tryd.results24 rfl rfl ⟨_, rfl, H.base, ⟨_, rfl, H.ownR 1 rfl⟩⟩
  · refine W.cond_false (congrArg Value.bool hc1) ?_
    refine W.skip ?_
    refine W.seq ?_
    refine W.region ?_
    have H := H.addNil (α := Int) (E := 3)
    refine O.assign (v := (.slice none 0 0)) rfl rfl rfl ?_
    refine WL.nil ?_
    refine W.seq ?_
    refine W.seq ?_
    refine W.region ?_
    refine O.move (v := va0) rfl rfl rfl ?_
    refine O.lenS Tryd.underlying22 (H.arg ha0) rfl rfl rfl ?_
    refine O.move (v := (.int .i64 0)) rfl rfl rfl ?_
    refine WL.nil ?_
    obtain ⟨s1, hm1, hm⟩ := bind_some hm
    refine W.via (fun f w => ∃ v4 : Value, f 4 = v4 ∧ Inv w0 w [ownI (α := Int) v4 3 s1]) ?_ ?_
    · skip
      refine W.block ?_
      have hbdik1 := (H.arg ha0).len_le
      have H := H.keep [1] [ownI (α := Int) (.slice none 0 0) 3 ([] : List Int)] rfl (by decide)
      refine W.rangeN (i := 0) hm1 (fun rem ik1 s f w => ∃ z2 : (List Int), ∃ v2 : Value, z2 = s ∧ (ik1 : Int) + rem = max 0 ((a0.length : Nat) : Int) ∧ f 13 = .int .i64 (ik1 : Int) ∧ f 12 = (.int .i64 ((a0.length : Nat) : Int)) ∧ f 0 = va0 ∧ f 4 = v2 ∧ f 11 = va0 ∧ Inv w0 w [ownI (α := Int) v2 3 z2]) ?_ ?_ ?_
      · skip
        exact ⟨_, (.slice none 0 0), rfl, rangeN_start, rfl, rfl, rfl, rfl, rfl, H⟩
      · skip
        rintro k ik1 _ st f w ⟨z2, v2, rfl, hdropk1, hf13, hf12, hf0, hf4, hf11, H⟩ hm2
        have hltk1 := rangeN_lt hdropk1
        obtain ⟨u1, rfl⟩ : ∃ u1, f = (upd (upd (upd (upd (upd u1 13 (.int .i64 (ik1 : Int))) 12 (.int .i64 ((a0.length : Nat) : Int))) 0 va0) 4 v2) 11 va0) := ⟨f, by rw [upd_self hf13, upd_self hf12, upd_self hf0, upd_self hf4, upd_self hf11]⟩
        have hinck1 := addI_lt hltk1 hbdik1
        refine W.seq ?_
        refine W.region ?_
        refine O.lss rfl rfl rfl rfl ?_
        refine WL.nil ?_
        refine W.seq ?_
        refine W.cond_true (congrArg Value.bool (decide_eq_true hltk1)) ?_
        refine W.skip ?_
        refine W.seq ?_
        obtain ⟨s2, hm3, hm2⟩ := bind_some hm2
        refine W.via (fun f w => ∃ v5 : Value, f 0 = va0 ∧ f 4 = v5 ∧ f 11 = va0 ∧ f 12 = (.int .i64 ((a0.length : Nat) : Int)) ∧ f 13 = (.int .i64 (ik1 : Int)) ∧ Inv w0 w [ownI (α := Int) v5 3 s2]) ?_ ?_
        · skip
          refine W.block ?_
          refine W.seq ?_
          refine W.region ?_
          refine O.move (v := (.int .i64 (ik1 : Int))) rfl rfl rfl ?_
          obtain ⟨x1, hx1, hm3⟩ := bind_some hm3
          obtain ⟨p1, hp1, hrp1⟩ := fix_indexAddr Tryd.underlying22 sz3 ha0 hx1
          refine hrp1 rfl rfl rfl rfl ?_
          refine O.load sc3 rfl rfl rfl ((hp1.mono H.base).flat 0 _ rfl) ?_
          refine O.assign (v := (.int .i64 (ik1 : Int))) rfl rfl rfl ?_
          refine O.assign (v := (.int .i64 x1)) rfl rfl rfl ?_
          refine WL.nil ?_
          refine W.seq ?_
          refine W.region ?_
          refine O.move (v := (.int .i64 x1)) rfl rfl rfl ?_
          refine O.assign (v := (.int .i64 x1)) rfl rfl rfl ?_
          refine WL.nil ?_
          refine W.seq ?_
          refine W.seq ?_
          refine W.region ?_
          refine O.move (v := v2) rfl rfl rfl ?_
          refine O.move (v := (.int .i64 x1)) rfl rfl rfl ?_
          obtain ⟨t2, hy2, hm3⟩ := bind_some hm3
          refine O.call Tryd.call61 rfl rfl rfl (c_slices_Contains_int _ _ (H.own 0 rfl) _ hy2) ?_
          rintro _ w2 hb2 rfl
          have H := H.ext hb2
          refine WL.nil ?_
          obtain ⟨s3, hm4, hm3⟩ := bind_some hm3
          refine W.via (fun f w => f 0 = va0 ∧ f 4 = v2 ∧ f 7 = (.int .i64 s3) ∧ f 11 = va0 ∧ f 12 = (.int .i64 ((a0.length : Nat) : Int)) ∧ f 13 = (.int .i64 (ik1 : Int)) ∧ Inv w0 w [ownI (α := Int) v2 3 z2]) ?_ ?_
          · skip
            rcases ite_some hm4 with ⟨hc2, hm4⟩ | ⟨hc2, hm4⟩
            · refine W.cond_true (congrArg Value.bool hc2) ?_
              refine W.seq ?_
              refine W.region ?_
              refine O.assign (v := (.int .i64 10)) rfl rfl rfl ?_
              refine WL.nil ?_
              obtain ⟨s4, hm5, hm4⟩ := bind_some hm4
              refine W.via (fun f w => f 0 = va0 ∧ f 4 = v2 ∧ f 7 = (.int .i64 s4) ∧ f 11 = va0 ∧ f 12 = (.int .i64 ((a0.length : Nat) : Int)) ∧ f 13 = (.int .i64 (ik1 : Int)) ∧ Inv w0 w [ownI (α := Int) v2 3 z2]) ?_ ?_
              · skip
                refine W.block ?_
                refine W.loopR hm5 (fun s f w => ∃ z5 : Int, z5 = s ∧ f 0 = va0 ∧ f 4 = v2 ∧ f 5 = (.int .i64 (ik1 : Int)) ∧ f 6 = (.int .i64 x1) ∧ f 7 = (.int .i64 z5) ∧ f 11 = va0 ∧ f 12 = (.int .i64 ((a0.length : Nat) : Int)) ∧ f 13 = (.int .i64 (ik1 : Int)) ∧ Inv w0 w [ownI (α := Int) v2 3 z2]) ?_ ?_
                · skip
                  exact ⟨_, rfl, rfl, rfl, rfl, rfl, rfl, rfl, rfl, rfl, H⟩
                · skip
                  rintro _ st f w ⟨z5, rfl, hf0, hf4, hf5, hf6, hf7, hf11, hf12, hf13, H⟩ hm6
                  obtain ⟨u2, rfl⟩ : ∃ u2, f = (upd (upd (upd (upd (upd (upd (upd (upd u2 0 va0) 4 v2) 5 (.int .i64 (ik1 : Int))) 6 (.int .i64 x1)) 7 (.int .i64 z5)) 11 va0) 12 (.int .i64 ((a0.length : Nat) : Int))) 13 (.int .i64 (ik1 : Int))) := ⟨f, by rw [upd_self hf0, upd_self hf4, upd_self hf5, upd_self hf6, upd_self hf7, upd_self hf11, upd_self hf12, upd_self hf13]⟩
                  refine W.seq ?_
                  refine W.seq ?_
                  refine W.region ?_
                  refine O.move (v := v2) rfl rfl rfl ?_
                  refine O.move (v := (.int .i64 z5)) rfl rfl rfl ?_
                  obtain ⟨t3, hy3, hm6⟩ := bind_some hm6
                  refine O.call Tryd.call61 rfl rfl rfl (c_slices_Contains_int _ _ (H.own 0 rfl) _ hy3) ?_
                  rintro _ w3 hb3 rfl
                  have H := H.ext hb3
                  refine O.move (v := (.bool t3)) rfl rfl rfl ?_
                  obtain ⟨b1, hm7, hm6⟩ := bind_some hm6
                  refine WL.cut 5 (fun f w => f 0 = va0 ∧ f 4 = v2 ∧ f 5 = (.int .i64 (ik1 : Int)) ∧ f 6 = (.int .i64 x1) ∧ f 7 = (.int .i64 z5) ∧ f 11 = va0 ∧ f 12 = (.int .i64 ((a0.length : Nat) : Int)) ∧ f 13 = (.int .i64 (ik1 : Int)) ∧ f 30 = .bool b1 ∧ Inv w0 w [ownI (α := Int) v2 3 z2]) ?_ ?_
                  · skip
                    rcases ite_some hm7 with ⟨hc3, hm7⟩ | ⟨hc3, hm7⟩
                    · skip
                      refine WL.reset (i := 25) (v := .bool true) (congrArg Value.bool hc3) ?_
                      refine O.skip rfl rfl ?_
                      refine O.skip rfl rfl ?_
                      refine O.skip rfl rfl ?_
                      refine O.skip rfl rfl ?_
                      refine O.pick_true (v := (.bool true)) rfl rfl rfl rfl ?_
                      refine WL.nil ?_
                      have hq : true = b1 := Option.some.inj (show some true = some b1 from hm7)
                      subst hq
                      exact ⟨rfl, rfl, rfl, rfl, rfl, rfl, rfl, rfl, rfl, H⟩
                    · skip
                      refine WL.reset (i := 25) (v := .bool false) (congrArg Value.bool hc3) ?_
                      refine O.move (v := (.int .i64 z5)) rfl rfl rfl ?_
                      obtain ⟨t4, hy4, hm7⟩ := bind_some hm7
                      refine O.call Tryd.call62 rfl rfl rfl (c_flag_place _ hy4) ?_
                      rintro _ w4 hb4 rfl
                      have H := H.ext hb4
                      refine O.move (v := (.int .i64 (ik1 : Int))) rfl rfl rfl ?_
                      refine O.geq rfl rfl rfl rfl ?_
                      refine O.pick_false (v := (.bool (decide ((ik1 : Int) ≤ t4)))) rfl rfl rfl rfl ?_
                      refine WL.nil ?_
                      have hq : (decide ((ik1 : Int) ≤ t4)) = b1 := Option.some.inj (show some (decide ((ik1 : Int) ≤ t4)) = some b1 from hm7)
                      subst hq
                      exact ⟨rfl, rfl, rfl, rfl, rfl, rfl, rfl, rfl, rfl, H⟩
                  · skip
                    rintro f w ⟨hf0, hf4, hf5, hf6, hf7, hf11, hf12, hf13, hf30, H⟩
                    obtain ⟨u3, rfl⟩ : ∃ u3, f = (upd (upd (upd (upd (upd (upd (upd (upd (upd u3 0 va0) 4 v2) 5 (.int .i64 (ik1 : Int))) 6 (.int .i64 x1)) 7 (.int .i64 z5)) 11 va0) 12 (.int .i64 ((a0.length : Nat) : Int))) 13 (.int .i64 (ik1 : Int))) 30 (.bool b1)) := ⟨f, by rw [upd_self hf0, upd_self hf4, upd_self hf5, upd_self hf6, upd_self hf7, upd_self hf11, upd_self hf12, upd_self hf13, upd_self hf30]⟩
                    refine O.move (v := (.bool b1)) rfl rfl rfl ?_
                    obtain ⟨b2, hm8, hm6⟩ := bind_some hm6
                    refine WL.cut 8 (fun f w => f 0 = va0 ∧ f 4 = v2 ∧ f 5 = (.int .i64 (ik1 : Int)) ∧ f 6 = (.int .i64 x1) ∧ f 7 = (.int .i64 z5) ∧ f 11 = va0 ∧ f 12 = (.int .i64 ((a0.length : Nat) : Int)) ∧ f 13 = (.int .i64 (ik1 : Int)) ∧ f 39 = .bool b2 ∧ Inv w0 w [ownI (α := Int) v2 3 z2]) ?_ ?_
                    · skip
                      rcases ite_some hm8 with ⟨hc4, hm8⟩ | ⟨hc4, hm8⟩
                      · skip
                        refine WL.reset (i := 31) (v := .bool true) (congrArg Value.bool hc4) ?_
                        refine O.skip rfl rfl ?_
                        refine O.skip rfl rfl ?_
                        refine O.skip rfl rfl ?_
                        refine O.skip rfl rfl ?_
                        refine O.skip rfl rfl ?_
                        refine O.skip rfl rfl ?_
                        refine O.skip rfl rfl ?_
                        refine O.pick_true (v := (.bool true)) rfl rfl rfl rfl ?_
                        refine WL.nil ?_
                        have hq : true = b2 := Option.some.inj (show some true = some b2 from hm8)
                        subst hq
                        exact ⟨rfl, rfl, rfl, rfl, rfl, rfl, rfl, rfl, rfl, H⟩
                      · skip
                        refine WL.reset (i := 31) (v := .bool false) (congrArg Value.bool hc4) ?_
                        refine O.move (v := va0) rfl rfl rfl ?_
                        refine O.move (v := (.int .i64 z5)) rfl rfl rfl ?_
                        obtain ⟨t5, hy5, hm8⟩ := bind_some hm8
                        refine O.call Tryd.call62 rfl rfl rfl (c_flag_place _ hy5) ?_
                        rintro _ w5 hb5 rfl
                        have H := H.ext hb5
                        obtain ⟨x2, hx2, hm8⟩ := bind_some hm8
                        obtain ⟨p2, hp2, hrp2⟩ := fix_indexAddr Tryd.underlying22 sz3 ha0 hx2
                        refine hrp2 rfl rfl rfl rfl ?_
                        refine O.load sc3 rfl rfl rfl ((hp2.mono H.base).flat 0 _ rfl) ?_
                        refine O.move (v := (.int .i64 x1)) rfl rfl rfl ?_
                        refine O.neq rfl rfl rfl rfl ?_
                        refine O.pick_false (v := (.bool (x2 != x1))) rfl rfl rfl rfl ?_
                        refine WL.nil ?_
                        have hq : (x2 != x1) = b2 := Option.some.inj (show some (x2 != x1) = some b2 from hm8)
                        subst hq
                        exact ⟨rfl, rfl, rfl, rfl, rfl, rfl, rfl, rfl, rfl, H⟩
                    · skip
                      rintro f w ⟨hf0, hf4, hf5, hf6, hf7, hf11, hf12, hf13, hf39, H⟩
                      obtain ⟨u4, rfl⟩ : ∃ u4, f = (upd (upd (upd (upd (upd (upd (upd (upd (upd u4 0 va0) 4 v2) 5 (.int .i64 (ik1 : Int))) 6 (.int .i64 x1)) 7 (.int .i64 z5)) 11 va0) 12 (.int .i64 ((a0.length : Nat) : Int))) 13 (.int .i64 (ik1 : Int))) 39 (.bool b2)) := ⟨f, by rw [upd_self hf0, upd_self hf4, upd_self hf5, upd_self hf6, upd_self hf7, upd_self hf11, upd_self hf12, upd_self hf13, upd_self hf39]⟩
                      refine WL.nil ?_
                      rcases ite_some hm6 with ⟨hc5, hm6⟩ | ⟨hc5, hm6⟩
                      · refine W.cond_true (congrArg Value.bool hc5) ?_
                        refine W.skip ?_
                        refine W.seq ?_
                        refine W.block ?_
                        refine W.skip ?_
                        refine W.region ?_
                        refine O.move (v := (.int .i64 z5)) rfl rfl rfl ?_
                        obtain ⟨t6, ht6, hm6⟩ := bind_some hm6
                        refine O.add rfl rfl rfl rfl ht6 ?_
                        refine O.assign (v := (.int .i64 t6)) rfl rfl rfl ?_
                        refine WL.nil ?_
                        obtain rfl := Option.some.inj hm6
                        exact ⟨_, rfl, _, rfl, rfl, rfl, rfl, rfl, rfl, rfl, rfl, rfl, H⟩
                      · refine W.cond_false (congrArg Value.bool hc5) ?_
                        refine W.exit ?_
                        obtain rfl := Option.some.inj hm6
                        refine ⟨_, rfl, ?_⟩
                        intro hy
                        have hq : z5 = s4 := hy
                        subst hq
                        refine xT rfl ?_
                        exact ⟨rfl, rfl, rfl, rfl, rfl, rfl, H⟩
              · skip
                rintro f w ⟨hf0, hf4, hf7, hf11, hf12, hf13, H⟩
                obtain ⟨u5, rfl⟩ : ∃ u5, f = (upd (upd (upd (upd (upd (upd u5 0 va0) 4 v2) 7 (.int .i64 s4)) 11 va0) 12 (.int .i64 ((a0.length : Nat) : Int))) 13 (.int .i64 (ik1 : Int))) := ⟨f, by rw [upd_self hf0, upd_self hf4, upd_self hf7, upd_self hf11, upd_self hf12, upd_self hf13]⟩
                have hq : s4 = s3 := Option.some.inj (show some s4 = some s3 from hm4)
                subst hq
                exact ⟨rfl, rfl, rfl, rfl, rfl, rfl, H⟩
            · refine W.cond_false (congrArg Value.bool hc2) ?_
              refine W.skip ?_
              have hq : x1 = s3 := Option.some.inj (show some x1 = some s3 from hm4)
              subst hq
              exact ⟨rfl, rfl, rfl, rfl, rfl, rfl, H⟩
          · skip
            rintro f w ⟨hf0, hf4, hf7, hf11, hf12, hf13, H⟩
            obtain ⟨u6, rfl⟩ : ∃ u6, f = (upd (upd (upd (upd (upd (upd u6 0 va0) 4 v2) 7 (.int .i64 s3)) 11 va0) 12 (.int .i64 ((a0.length : Nat) : Int))) 13 (.int .i64 (ik1 : Int))) := ⟨f, by rw [upd_self hf0, upd_self hf4, upd_self hf7, upd_self hf11, upd_self hf12, upd_self hf13]⟩
            refine W.region ?_
            refine O.move (v := v2) rfl rfl rfl ?_
            refine O.move (v := (.int .i64 s3)) rfl rfl rfl ?_
            refine O.buildSlice (α := Int) [(.int .i64 s3)] [s3] Tryd.underlying22 el3 H rfl rfl rfl rfl rfl rfl rfl ?_
            intro v6 w6 H hb6
            obtain ⟨t7, ht7, hm3⟩ := bind_some hm3
            refine O.append 0 Tryd.underlying22 el3 rfl H rfl (H.own 1 rfl) ht7 rfl rfl rfl rfl ?_
            intro v7 w7 H
            refine O.assign (v := v7) rfl rfl rfl ?_
            refine WL.nil ?_
            have H := H.keep [0] [ownI (α := Int) v7 3 t7] rfl (by decide)
            have hq : t7 = s2 := Option.some.inj (show some t7 = some s2 from hm3)
            subst hq
            exact ⟨v7, rfl, rfl, rfl, rfl, rfl, H⟩
        · skip
          rintro f w ⟨v5, hf0, hf4, hf11, hf12, hf13, H⟩
          obtain ⟨u7, rfl⟩ : ∃ u7, f = (upd (upd (upd (upd (upd u7 0 va0) 4 v5) 11 va0) 12 (.int .i64 ((a0.length : Nat) : Int))) 13 (.int .i64 (ik1 : Int))) := ⟨f, by rw [upd_self hf0, upd_self hf4, upd_self hf11, upd_self hf12, upd_self hf13]⟩
          refine W.region ?_
          refine O.add rfl rfl rfl rfl hinck1 ?_
          refine O.move (v := .int .i64 ((ik1 : Int) + 1)) rfl rfl rfl ?_
          refine WL.nil ?_
          obtain rfl := Option.some.inj hm2
          exact ⟨_, rfl, _, v5, rfl, rangeN_next hdropk1, rfl, rfl, rfl, rfl, rfl, H⟩
      · skip
        rintro ik1 _ f w ⟨z2, v2, rfl, hdropk1, hf13, hf12, hf0, hf4, hf11, H⟩ hfin
        have hltk1 := rangeN_end hdropk1
        obtain ⟨u8, rfl⟩ : ∃ u8, f = (upd (upd (upd (upd (upd u8 13 (.int .i64 (ik1 : Int))) 12 (.int .i64 ((a0.length : Nat) : Int))) 0 va0) 4 v2) 11 va0) := ⟨f, by rw [upd_self hf13, upd_self hf12, upd_self hf0, upd_self hf4, upd_self hf11]⟩
        refine W.seq ?_
        refine W.region ?_
        refine O.lss rfl rfl rfl rfl ?_
        refine WL.nil ?_
        refine W.seq ?_
        refine W.cond_false (congrArg Value.bool (decide_eq_false hltk1)) ?_
        refine W.exit ?_
        have hq : z2 = s1 := hfin
        subst hq
        refine xT rfl ?_
        exact ⟨v2, rfl, H⟩
    · skip
      rintro f w ⟨v4, hf4, H⟩
      obtain ⟨u9, rfl⟩ : ∃ u9, f = (upd u9 4 v4) := ⟨f, by rw [upd_self hf4]⟩
      refine W.seq ?_
      refine W.region ?_
      refine O.move (v := v4) rfl rfl rfl ?_
      refine O.assign (v := v4) rfl rfl rfl ?_
      refine O.assign (v := (.int .i64 0)) rfl rfl rfl ?_
      refine WL.nil ?_
      refine W.ret ?_
      have hq : (s1, 0) = (r0, r1) := Option.some.inj (show some (s1, 0) = some (r0, r1) from hm)
      obtain ⟨he0, hq0⟩ := Prod.mk.inj hq; clear hq; subst he0
      subst hq0
      exact ends2 Tryd.results24 rfl rfl ⟨_, rfl, H.base, ⟨_, rfl, H.ownR 0 rfl⟩⟩

set_option maxRecDepth 20000 in
theorem c_flag_ValidHoist {w0 : World} (va0 : Value) (a0 : (List Int)) (ha0 : SliceR w0 va0 a0) {r0 : Bool} (hm : flag_ValidHoist a0 = some r0) :
    Calls Tryd.prog 49 #[va0] w0 (Ret w0 fun _ v => v = (.bool r0)) := by
  unfold flag_ValidHoist at hm
  refine calls_of_W Tryd.func49 rfl Tryd.ntmps49 (Nat.le_of_ble_eq_true rfl) ?_
  have H := Inv.start (w := w0)
  refine W.seq ?_
  refine W.region ?_
  refine O.assign (v := (.bool false)) rfl rfl rfl ?_
  refine WL.nil ?_
  refine W.seq ?_
  refine W.seq ?_
  refine W.region ?_
  refine O.move (v := va0) rfl rfl rfl ?_
  obtain ⟨t1, hy1, hm⟩ := bind_some hm
  refine O.call Tryd.call78 rfl rfl rfl (c_flag_listed _ _ (H.arg ha0) _ hy1) ?_
  rintro _ w1 hb1 rfl
  have H := H.ext hb1
  refine O.not rfl rfl rfl ?_
  refine WL.nil ?_
  rcases ite_some hm with ⟨hc1, hm⟩ | ⟨hc1, hm⟩
  · refine W.cond_true (congrArg Value.bool hc1) ?_
    refine W.seq ?_
    refine W.region ?_
    refine O.assign (v := (.bool false)) rfl rfl rfl ?_
    refine WL.nil ?_
    refine W.ret ?_
    have hq : false = r0 := Option.some.inj (show some false = some r0 from hm)
    subst hq
    exact ends1 Tryd.results49 rfl ⟨_, rfl, H.base, rfl⟩
  · refine W.cond_false (congrArg Value.bool hc1) ?_
    refine W.skip ?_
    refine W.seq ?_
    refine W.seq ?_
    refine W.region ?_
    refine O.move (v := va0) rfl rfl rfl ?_
    refine O.lenS Tryd.underlying22 (H.arg ha0) rfl rfl rfl ?_
    refine O.move (v := (.int .i64 0)) rfl rfl rfl ?_
    refine WL.nil ?_
    obtain ⟨o1, hm1, hm⟩ := bind_some hm
    refine W.via (fun f w => o1 = .next () ∧ Inv w0 w []) ?_ ?_
    · skip
      refine W.block ?_
      have hbdik1 := (H.arg ha0).len_le
      refine W.rangeN (i := 0) hm1 (fun rem ik1 s f w => () = s ∧ (ik1 : Int) + rem = max 0 ((a0.length : Nat) : Int) ∧ f 10 = .int .i64 (ik1 : Int) ∧ f 9 = (.int .i64 ((a0.length : Nat) : Int)) ∧ f 0 = va0 ∧ f 8 = va0 ∧ Inv w0 w []) ?_ ?_ ?_
      · skip
        exact ⟨rfl, rangeN_start, rfl, rfl, rfl, rfl, H⟩
      · skip
        rintro k ik1 _ st f w ⟨rfl, hdropk1, hf10, hf9, hf0, hf8, H⟩ hm2
        have hltk1 := rangeN_lt hdropk1
        obtain ⟨u1, rfl⟩ : ∃ u1, f = (upd (upd (upd (upd u1 10 (.int .i64 (ik1 : Int))) 9 (.int .i64 ((a0.length : Nat) : Int))) 0 va0) 8 va0) := ⟨f, by rw [upd_self hf10, upd_self hf9, upd_self hf0, upd_self hf8]⟩
        have hinck1 := addI_lt hltk1 hbdik1
        refine W.seq ?_
        refine W.region ?_
        refine O.lss rfl rfl rfl rfl ?_
        refine WL.nil ?_
        refine W.seq ?_
        refine W.cond_true (congrArg Value.bool (decide_eq_true hltk1)) ?_
        refine W.skip ?_
        refine W.seq ?_
        refine W.block ?_
        refine W.seq ?_
        refine W.region ?_
        refine O.move (v := (.int .i64 (ik1 : Int))) rfl rfl rfl ?_
        obtain ⟨x1, hx1, hm2⟩ := bind_some hm2
        obtain ⟨p1, hp1, hrp1⟩ := fix_indexAddr Tryd.underlying22 sz3 ha0 hx1
        refine hrp1 rfl rfl rfl rfl ?_
        refine O.load sc3 rfl rfl rfl ((hp1.mono H.base).flat 0 _ rfl) ?_
        refine O.assign (v := (.int .i64 (ik1 : Int))) rfl rfl rfl ?_
        refine O.assign (v := (.int .i64 x1)) rfl rfl rfl ?_
        refine WL.nil ?_
        refine W.seq ?_
        refine W.region ?_
        refine O.move (v := va0) rfl rfl rfl ?_
        refine O.move (v := (.int .i64 (ik1 : Int))) rfl rfl rfl ?_
        obtain ⟨t2, ht2, hm2⟩ := bind_some hm2
        obtain ⟨v1, hs1, hrv1⟩ := fix_sliceH Tryd.underlying22 sz3 ha0 ht2
        refine hrv1 rfl rfl rfl rfl ?_
        refine O.move (v := (.int .i64 x1)) rfl rfl rfl ?_
        obtain ⟨t3, hy2, hm2⟩ := bind_some hm2
        refine O.call Tryd.call61 rfl rfl rfl (c_slices_Contains_int _ _ (H.arg hs1) _ hy2) ?_
        rintro _ w2 hb2 rfl
        have H := H.ext hb2
        refine O.move (v := (.bool t3)) rfl rfl rfl ?_
        obtain ⟨b1, hm3, hm2⟩ := bind_some hm2
        refine WL.cut 9 (fun f w => f 0 = va0 ∧ f 8 = va0 ∧ f 9 = (.int .i64 ((a0.length : Nat) : Int)) ∧ f 10 = (.int .i64 (ik1 : Int)) ∧ f 29 = .bool b1 ∧ Inv w0 w []) ?_ ?_
        · skip
          rcases ite_some hm3 with ⟨hc2, hm3⟩ | ⟨hc2, hm3⟩
          · skip
            refine WL.reset (i := 20) (v := .bool true) (congrArg Value.bool hc2) ?_
            refine O.skip rfl rfl ?_
            refine O.skip rfl rfl ?_
            refine O.skip rfl rfl ?_
            refine O.skip rfl rfl ?_
            refine O.skip rfl rfl ?_
            refine O.skip rfl rfl ?_
            refine O.skip rfl rfl ?_
            refine O.skip rfl rfl ?_
            refine O.pick_true (v := (.bool true)) rfl rfl rfl rfl ?_
            refine WL.nil ?_
            have hq : true = b1 := Option.some.inj (show some true = some b1 from hm3)
            subst hq
            exact ⟨rfl, rfl, rfl, rfl, rfl, H⟩
          · skip
            refine WL.reset (i := 20) (v := .bool false) (congrArg Value.bool hc2) ?_
            refine O.move (v := (.int .i64 x1)) rfl rfl rfl ?_
            refine O.geq rfl rfl rfl rfl ?_
            refine O.move (v := (.bool (decide (10 ≤ x1)))) rfl rfl rfl ?_
            obtain ⟨b2, hm4, hm3⟩ := bind_some hm3
            refine WL.cut 5 (fun f w => f 0 = va0 ∧ f 8 = va0 ∧ f 9 = (.int .i64 ((a0.length : Nat) : Int)) ∧ f 10 = (.int .i64 (ik1 : Int)) ∧ f 20 = (.bool false) ∧ f 21 = (.int .i64 x1) ∧ f 22 = (.bool (decide (10 ≤ x1))) ∧ f 23 = (.bool (decide (10 ≤ x1))) ∧ f 28 = .bool b2 ∧ Inv w0 w []) ?_ ?_
            · skip
              rcases ite_some hm4 with ⟨hc3, hm4⟩ | ⟨hc3, hm4⟩
              · skip
                refine WL.reset (i := 23) (v := .bool true) (congrArg Value.bool hc3) ?_
                refine O.move (v := (.int .i64 x1)) rfl rfl rfl ?_
                obtain ⟨t4, hy3, hm4⟩ := bind_some hm4
                refine O.call Tryd.call62 rfl rfl rfl (c_flag_place _ hy3) ?_
                rintro _ w3 hb3 rfl
                have H := H.ext hb3
                refine O.move (v := (.int .i64 (ik1 : Int))) rfl rfl rfl ?_
                refine O.geq rfl rfl rfl rfl ?_
                refine O.pick_true (v := (.bool (decide ((ik1 : Int) ≤ t4)))) rfl rfl rfl rfl ?_
                refine WL.nil ?_
                have hq : (decide ((ik1 : Int) ≤ t4)) = b2 := Option.some.inj (show some (decide ((ik1 : Int) ≤ t4)) = some b2 from hm4)
                subst hq
                exact ⟨rfl, rfl, rfl, rfl, rfl, rfl, rfl, (congrArg Value.bool hc3).symm, rfl, H⟩
              · skip
                refine WL.reset (i := 23) (v := .bool false) (congrArg Value.bool hc3) ?_
                refine O.skip rfl rfl ?_
                refine O.skip rfl rfl ?_
                refine O.skip rfl rfl ?_
                refine O.skip rfl rfl ?_
                refine O.pick_false (v := (.bool false)) rfl rfl rfl rfl ?_
                refine WL.nil ?_
                have hq : false = b2 := Option.some.inj (show some false = some b2 from hm4)
                subst hq
                exact ⟨rfl, rfl, rfl, rfl, rfl, rfl, rfl, (congrArg Value.bool hc3).symm, rfl, H⟩
            · skip
              rintro f w ⟨hf0, hf8, hf9, hf10, hf20, hf21, hf22, hf23, hf28, H⟩
              obtain ⟨u2, rfl⟩ : ∃ u2, f = (upd (upd (upd (upd (upd (upd (upd (upd (upd u2 0 va0) 8 va0) 9 (.int .i64 ((a0.length : Nat) : Int))) 10 (.int .i64 (ik1 : Int))) 20 (.bool false)) 21 (.int .i64 x1)) 22 (.bool (decide (10 ≤ x1)))) 23 (.bool (decide (10 ≤ x1)))) 28 (.bool b2)) := ⟨f, by rw [upd_self hf0, upd_self hf8, upd_self hf9, upd_self hf10, upd_self hf20, upd_self hf21, upd_self hf22, upd_self hf23, upd_self hf28]⟩
              refine O.pick_false (v := (.bool b2)) rfl rfl rfl rfl ?_
              refine WL.nil ?_
              have hq : b2 = b1 := Option.some.inj (show some b2 = some b1 from hm3)
              subst hq
              exact ⟨rfl, rfl, rfl, rfl, rfl, H⟩
        · skip
          rintro f w ⟨hf0, hf8, hf9, hf10, hf29, H⟩
          obtain ⟨u3, rfl⟩ : ∃ u3, f = (upd (upd (upd (upd (upd u3 0 va0) 8 va0) 9 (.int .i64 ((a0.length : Nat) : Int))) 10 (.int .i64 (ik1 : Int))) 29 (.bool b1)) := ⟨f, by rw [upd_self hf0, upd_self hf8, upd_self hf9, upd_self hf10, upd_self hf29]⟩
          refine WL.nil ?_
          rcases ite_some hm2 with ⟨hc4, hm2⟩ | ⟨hc4, hm2⟩
          · refine W.cond_true (congrArg Value.bool hc4) ?_
            refine W.seq ?_
            refine W.region ?_
            refine O.assign (v := (.bool false)) rfl rfl rfl ?_
            refine WL.nil ?_
            refine W.ret ?_
            obtain rfl := Option.some.inj hm2
            refine ⟨_, rfl, ?_⟩
            rintro rfl
            have hq : false = r0 := Option.some.inj (show some false = some r0 from hm)
            subst hq
            exact ends1 Tryd.results49 rfl ⟨_, rfl, H.base, rfl⟩
          · refine W.cond_false (congrArg Value.bool hc4) ?_
            refine W.skip ?_
            refine W.region ?_
            refine O.add rfl rfl rfl rfl hinck1 ?_
            refine O.move (v := .int .i64 ((ik1 : Int) + 1)) rfl rfl rfl ?_
            refine WL.nil ?_
            obtain rfl := Option.some.inj hm2
            exact ⟨_, rfl, rfl, rangeN_next hdropk1, rfl, rfl, rfl, rfl, H⟩
      · skip
        rintro ik1 _ f w ⟨rfl, hdropk1, hf10, hf9, hf0, hf8, H⟩ hfin
        have hltk1 := rangeN_end hdropk1
        obtain ⟨u4, rfl⟩ : ∃ u4, f = (upd (upd (upd (upd u4 10 (.int .i64 (ik1 : Int))) 9 (.int .i64 ((a0.length : Nat) : Int))) 0 va0) 8 va0) := ⟨f, by rw [upd_self hf10, upd_self hf9, upd_self hf0, upd_self hf8]⟩
        refine W.seq ?_
        refine W.region ?_
        refine O.lss rfl rfl rfl rfl ?_
        refine WL.nil ?_
        refine W.seq ?_
        refine W.cond_false (congrArg Value.bool (decide_eq_false hltk1)) ?_
        refine W.exit ?_
        obtain rfl : Ctl.next () = o1 := hfin
        refine xT rfl ?_
        exact ⟨rfl, H⟩
    · skip
      rintro f w ⟨rfl, H⟩
      refine W.seq ?_
      refine W.region ?_
      refine O.assign (v := (.bool true)) rfl rfl rfl ?_
      refine WL.nil ?_
      refine W.ret ?_
      have hq : true = r0 := Option.some.inj (show some true = some r0 from hm)
      subst hq
      exact ends1 Tryd.results49 rfl ⟨_, rfl, H.base, rfl⟩

set_option maxRecDepth 20000 in
theorem c_flag_means {w0 : World} (va0 : Value) (a0 : (List Int)) (ha0 : SliceR w0 va0 a0) {r0 : (List Int)} (hm : flag_means a0 = some r0) :
    Calls Tryd.prog 50 #[va0] w0 (Ret w0 fun w v => OwnR w0 w v 3 r0) := by
  unfold flag_means at hm
  refine calls_of_W Tryd.func50 rfl Tryd.ntmps50 (Nat.le_of_ble_eq_true rfl) ?_
  have H := Inv.start (w := w0)
  refine W.seq ?_
  refine W.region ?_
  have H := H.addNil (α := Int) (E := 3)
  refine O.assign (v := (.slice none 0 0)) rfl rfl rfl ?_
  refine WL.nil ?_
  refine W.seq ?_
  refine W.region ?_
  have H := H.addNil (α := Int) (E := 3)
  refine O.assign (v := (.slice none 0 0)) rfl rfl rfl ?_
  refine WL.nil ?_
  refine W.seq ?_
  refine W.seq ?_
  refine W.region ?_
  refine O.move (v := va0) rfl rfl rfl ?_
  refine O.lenS Tryd.underlying22 (H.arg ha0) rfl rfl rfl ?_
  refine O.move (v := (.int .i64 0)) rfl rfl rfl ?_
  refine WL.nil ?_
  obtain ⟨s1, hm1, hm⟩ := bind_some hm
  refine W.via (fun f w => ∃ v4 : Value, f 3 = v4 ∧ Inv w0 w [ownI (α := Int) v4 3 s1]) ?_ ?_
  · skip
    refine W.block ?_
    have H := H.keep [1] [ownI (α := Int) (.slice none 0 0) 3 ([] : List Int)] rfl (by decide)
    refine W.rangeL (i := 0) hm1 (fun rem ik1 s f w => ∃ z2 : (List Int), ∃ v2 : Value, z2 = s ∧ a0.drop ik1 = rem ∧ f 8 = .int .i64 (ik1 : Int) ∧ f 7 = (.int .i64 ((a0.length : Nat) : Int)) ∧ f 3 = v2 ∧ f 6 = va0 ∧ Inv w0 w [ownI (α := Int) v2 3 z2]) ?_ ?_ ?_
    · skip
      exact ⟨_, (.slice none 0 0), rfl, List.drop_zero, rfl, rfl, rfl, rfl, H⟩
    · skip
      rintro yk1 xs ik1 _ st f w ⟨z2, v2, rfl, hdropk1, hf8, hf7, hf3, hf6, H⟩ hm2
      have hltk1 := drop_lt hdropk1; have hixk1 := drop_idx hdropk1
      obtain ⟨u1, rfl⟩ : ∃ u1, f = (upd (upd (upd (upd u1 8 (.int .i64 (ik1 : Int))) 7 (.int .i64 ((a0.length : Nat) : Int))) 3 v2) 6 va0) := ⟨f, by rw [upd_self hf8, upd_self hf7, upd_self hf3, upd_self hf6]⟩
      have hinck1 := addI_lt hltk1 (H.arg ha0).len_le
      refine W.seq ?_
      refine W.region ?_
      refine O.lss rfl rfl rfl rfl ?_
      refine WL.nil ?_
      refine W.seq ?_
      refine W.cond_true (congrArg Value.bool (decide_eq_true hltk1)) ?_
      refine W.skip ?_
      refine W.seq ?_
      obtain ⟨s2, hm3, hm2⟩ := bind_some hm2
      refine W.via (fun f w => ∃ v5 : Value, f 3 = v5 ∧ f 6 = va0 ∧ f 7 = (.int .i64 ((a0.length : Nat) : Int)) ∧ f 8 = (.int .i64 (ik1 : Int)) ∧ Inv w0 w [ownI (α := Int) v5 3 s2]) ?_ ?_
      · skip
        refine W.block ?_
        refine W.seq ?_
        refine W.region ?_
        obtain ⟨p1, hp1, hrp1⟩ := fix_indexAddr Tryd.underlying22 sz3 ha0 hixk1
        refine hrp1 rfl rfl rfl rfl ?_
        refine O.load sc3 rfl rfl rfl ((hp1.mono H.base).flat 0 _ rfl) ?_
        refine O.assign (v := (.int .i64 yk1)) rfl rfl rfl ?_
        refine WL.nil ?_
        refine W.seq ?_
        refine W.seq ?_
        refine W.region ?_
        refine O.move (v := (.int .i64 yk1)) rfl rfl rfl ?_
        refine O.geq rfl rfl rfl rfl ?_
        refine WL.nil ?_
        obtain ⟨s3, hm4, hm3⟩ := bind_some hm3
        refine W.via (fun f w => f 3 = v2 ∧ f 5 = (.int .i64 s3) ∧ f 6 = va0 ∧ f 7 = (.int .i64 ((a0.length : Nat) : Int)) ∧ f 8 = (.int .i64 (ik1 : Int)) ∧ Inv w0 w [ownI (α := Int) v2 3 z2]) ?_ ?_
        · skip
          rcases ite_some hm4 with ⟨hc1, hm4⟩ | ⟨hc1, hm4⟩
          · refine W.cond_true (congrArg Value.bool hc1) ?_
            refine W.region ?_
            refine O.move (v := v2) rfl rfl rfl ?_
            refine O.move (v := (.int .i64 yk1)) rfl rfl rfl ?_
            obtain ⟨t1, hy1, hm4⟩ := bind_some hm4
            refine O.call Tryd.call62 rfl rfl rfl (c_flag_place _ hy1) ?_
            rintro _ w1 hb1 rfl
            have H := H.ext hb1
            obtain ⟨x1, hx1, hm4⟩ := bind_some hm4
            refine O.indexAddr Tryd.underlying22 sz3 (H.own 0 rfl) hx1 rfl rfl rfl rfl ?_
            intro p2 hp2
            refine O.load sc3 rfl rfl rfl (hp2.flat 0 _ rfl) ?_
            refine O.assign (v := (.int .i64 x1)) rfl rfl rfl ?_
            refine WL.nil ?_
            have hq : x1 = s3 := Option.some.inj (show some x1 = some s3 from hm4)
            subst hq
            exact ⟨rfl, rfl, rfl, rfl, rfl, H⟩
          · refine W.cond_false (congrArg Value.bool hc1) ?_
            refine W.skip ?_
            have hq : yk1 = s3 := Option.some.inj (show some yk1 = some s3 from hm4)
            subst hq
            exact ⟨rfl, rfl, rfl, rfl, rfl, H⟩
        · skip
          rintro f w ⟨hf3, hf5, hf6, hf7, hf8, H⟩
          obtain ⟨u2, rfl⟩ : ∃ u2, f = (upd (upd (upd (upd (upd u2 3 v2) 5 (.int .i64 s3)) 6 va0) 7 (.int .i64 ((a0.length : Nat) : Int))) 8 (.int .i64 (ik1 : Int))) := ⟨f, by rw [upd_self hf3, upd_self hf5, upd_self hf6, upd_self hf7, upd_self hf8]⟩
          refine W.region ?_
          refine O.move (v := v2) rfl rfl rfl ?_
          refine O.move (v := (.int .i64 s3)) rfl rfl rfl ?_
          refine O.buildSlice (α := Int) [(.int .i64 s3)] [s3] Tryd.underlying22 el3 H rfl rfl rfl rfl rfl rfl rfl ?_
          intro v6 w2 H hb2
          obtain ⟨t2, ht2, hm3⟩ := bind_some hm3
          refine O.append 0 Tryd.underlying22 el3 rfl H rfl (H.own 1 rfl) ht2 rfl rfl rfl rfl ?_
          intro v7 w3 H
          refine O.assign (v := v7) rfl rfl rfl ?_
          refine WL.nil ?_
          have H := H.keep [0] [ownI (α := Int) v7 3 t2] rfl (by decide)
          have hq : t2 = s2 := Option.some.inj (show some t2 = some s2 from hm3)
          subst hq
          exact ⟨v7, rfl, rfl, rfl, rfl, H⟩
      · skip
        rintro f w ⟨v5, hf3, hf6, hf7, hf8, H⟩
        obtain ⟨u3, rfl⟩ : ∃ u3, f = (upd (upd (upd (upd u3 3 v5) 6 va0) 7 (.int .i64 ((a0.length : Nat) : Int))) 8 (.int .i64 (ik1 : Int))) := ⟨f, by rw [upd_self hf3, upd_self hf6, upd_self hf7, upd_self hf8]⟩
        refine W.region ?_
        refine O.add rfl rfl rfl rfl hinck1 ?_
        refine O.move (v := .int .i64 ((ik1 : Int) + 1)) rfl rfl rfl ?_
        refine WL.nil ?_
        obtain rfl := Option.some.inj hm2
        exact ⟨_, rfl, _, v5, rfl, drop_next hdropk1, rfl, rfl, rfl, rfl, H⟩
    · skip
      rintro ik1 _ f w ⟨z2, v2, rfl, hdropk1, hf8, hf7, hf3, hf6, H⟩ hfin
      have hltk1 := drop_end hdropk1
      obtain ⟨u4, rfl⟩ : ∃ u4, f = (upd (upd (upd (upd u4 8 (.int .i64 (ik1 : Int))) 7 (.int .i64 ((a0.length : Nat) : Int))) 3 v2) 6 va0) := ⟨f, by rw [upd_self hf8, upd_self hf7, upd_self hf3, upd_self hf6]⟩
      refine W.seq ?_
      refine W.region ?_
      refine O.lss rfl rfl rfl rfl ?_
      refine WL.nil ?_
      refine W.seq ?_
      refine W.cond_false (congrArg Value.bool (decide_eq_false hltk1)) ?_
      refine W.exit ?_
      have hq : z2 = s1 := hfin
      subst hq
      refine xT rfl ?_
      exact ⟨v2, rfl, H⟩
  · skip
    rintro f w ⟨v4, hf3, H⟩
    obtain ⟨u5, rfl⟩ : ∃ u5, f = (upd u5 3 v4) := ⟨f, by rw [upd_self hf3]⟩
    refine W.seq ?_
    refine W.region ?_
    refine O.move (v := v4) rfl rfl rfl ?_
    refine O.assign (v := v4) rfl rfl rfl ?_
    refine WL.nil ?_
    refine W.ret ?_
    have hq : s1 = r0 := Option.some.inj (show some s1 = some r0 from hm)
    subst hq
    exact ends1 Tryd.results50 rfl ⟨_, rfl, H.base, H.ownR 0 rfl⟩

theorem c_flag_Means {w0 : World} (va0 : Value) (a0 : (List Int)) (ha0 : SliceR w0 va0 a0) {r0 : (List Int)} {r1 : Int} (hm : flag_Means a0 = some (r0, r1)) :
    Calls Tryd.prog 37 #[va0] w0 (Ret w0 fun w v => ∃ vr0 : Value, v = .tuple #[vr0, (.int .i64 r1)] ∧ OwnR w0 w vr0 3 r0) := by
  unfold flag_Means at hm
  refine calls_of_W Tryd.func37 rfl Tryd.ntmps37 (Nat.le_of_ble_eq_true rfl) ?_
  have H := Inv.start (w := w0)
  refine W.seq ?_
  refine W.region ?_
  have H := H.addNil (α := Int) (E := 3)
  refine O.assign (v := (.slice none 0 0)) rfl rfl rfl ?_
  refine O.assign (v := (.int .i64 0)) rfl rfl rfl ?_
  refine WL.nil ?_
  refine W.seq ?_
  refine W.seq ?_
  refine W.region ?_
  refine O.move (v := va0) rfl rfl rfl ?_
  obtain ⟨t1, hy1, hm⟩ := bind_some hm
  refine O.call Tryd.call49 rfl rfl rfl (c_flag_ValidHoist _ _ (H.arg ha0) hy1) ?_
  rintro _ w1 hb1 rfl
  have H := H.ext hb1
  refine O.not rfl rfl rfl ?_
  refine WL.nil ?_
  rcases ite_some hm with ⟨hc1, hm⟩ | ⟨hc1, hm⟩
  · refine W.cond_true (congrArg Value.bool hc1) ?_
    refine W.seq ?_
    refine W.region ?_
    have H := H.addNil (α := Int) (E := 3)
    refine O.assign (v := (.slice none 0 0)) rfl rfl rfl ?_
    refine O.assign (v := (.int .i64 1)) rfl rfl rfl ?_
    refine WL.nil ?_
    refine W.ret ?_
    have hq : (([] : List Int), 1) = (r0, r1) := Option.some.inj (show some (([] : List Int), 1) = some (r0, r1) from hm)
    obtain ⟨he0, hq0⟩ := Prod.mk.inj hq; clear hq; subst he0
    subst hq0
    exact ends2 Tryd.results37 rfl rfl ⟨_, rfl, H.base, ⟨_, rfl, H.ownR 1 rfl⟩⟩
  · refine W.cond_false (congrArg Value.bool hc1) ?_
    refine W.skip ?_
    refine W.seq ?_
    refine W.region ?_
    refine O.move (v := va0) rfl rfl rfl ?_
    obtain ⟨t2, hy2, hm⟩ := bind_some hm
    refine O.call Tryd.call50 rfl rfl rfl (c_flag_means _ _ (H.arg ha0) hy2) ?_
    rintro v1 w2 hb2 ho1
    have H := H.addOwn hb2 ho1
    refine O.assign (v := v1) rfl rfl rfl ?_
    refine O.assign (v := (.int .i64 0)) rfl rfl rfl ?_
    refine WL.nil ?_
    refine W.ret ?_
    have hq : (t2, 0) = (r0, r1) := Option.some.inj (show some (t2, 0) = some (r0, r1) from hm)
    obtain ⟨he0, hq0⟩ := Prod.mk.inj hq; clear hq; subst he0
    subst hq0
    exact ends2 Tryd.results37 rfl rfl ⟨_, rfl, H.base, ⟨_, rfl, H.ownR 1 rfl⟩⟩

set_option maxRecDepth 20000 in
theorem c_noongunref07_SameInts {w0 : World} (va0 : Value) (a0 : (List Int)) (ha0 : SliceR w0 va0 a0) (va1 : Value) (a1 : (List Int)) (ha1 : SliceR w0 va1 a1) {r0 : Bool} (hm : noongunref07_SameInts a0 a1 = some r0) :
    Calls Tryd.prog 16 #[va0, va1] w0 (Ret w0 fun _ v => v = (.bool r0)) := by
  unfold noongunref07_SameInts at hm
  refine calls_of_W Tryd.func16 rfl Tryd.ntmps16 (Nat.le_of_ble_eq_true rfl) ?_
  have H := Inv.start (w := w0)
  refine W.seq ?_
  refine W.region ?_
  refine O.assign (v := (.bool false)) rfl rfl rfl ?_
  refine WL.nil ?_
  refine W.seq ?_
  refine W.seq ?_
  refine W.region ?_
  refine O.move (v := va0) rfl rfl rfl ?_
  refine O.lenS Tryd.underlying22 (H.arg ha0) rfl rfl rfl ?_
  refine O.move (v := va1) rfl rfl rfl ?_
  refine O.lenS Tryd.underlying22 (H.arg ha1) rfl rfl rfl ?_
  refine O.neq rfl rfl rfl rfl ?_
  refine WL.nil ?_
  rcases ite_some hm with ⟨hc1, hm⟩ | ⟨hc1, hm⟩
  · refine W.cond_true (congrArg Value.bool hc1) ?_
    refine W.seq ?_
    refine W.region ?_
    refine O.assign (v := (.bool false)) rfl rfl rfl ?_
    refine WL.nil ?_
    refine W.ret ?_
    have hq : false = r0 := Option.some.inj (show some false = some r0 from hm)
    subst hq
    exact ends1 Tryd.results16 rfl ⟨_, rfl, H.base, rfl⟩
  · refine W.cond_false (congrArg Value.bool hc1) ?_
    refine W.skip ?_
    refine W.seq ?_
    refine W.seq ?_
    refine W.region ?_
    refine O.move (v := va0) rfl rfl rfl ?_
    refine O.lenS Tryd.underlying22 (H.arg ha0) rfl rfl rfl ?_
    refine O.move (v := (.int .i64 0)) rfl rfl rfl ?_
    refine WL.nil ?_
    obtain ⟨o1, hm1, hm⟩ := bind_some hm
    refine W.via (fun f w => o1 = .next () ∧ Inv w0 w []) ?_ ?_
    · skip
      refine W.block ?_
      have hbdik1 := (H.arg ha0).len_le
      refine W.rangeN (i := 0) hm1 (fun rem ik1 s f w => () = s ∧ (ik1 : Int) + rem = max 0 ((a0.length : Nat) : Int) ∧ f 13 = .int .i64 (ik1 : Int) ∧ f 12 = (.int .i64 ((a0.length : Nat) : Int)) ∧ f 0 = va0 ∧ f 1 = va1 ∧ Inv w0 w []) ?_ ?_ ?_
      · skip
        exact ⟨rfl, rangeN_start, rfl, rfl, rfl, rfl, H⟩
      · skip
        rintro k ik1 _ st f w ⟨rfl, hdropk1, hf13, hf12, hf0, hf1, H⟩ hm2
        have hltk1 := rangeN_lt hdropk1
        obtain ⟨u1, rfl⟩ : ∃ u1, f = (upd (upd (upd (upd u1 13 (.int .i64 (ik1 : Int))) 12 (.int .i64 ((a0.length : Nat) : Int))) 0 va0) 1 va1) := ⟨f, by rw [upd_self hf13, upd_self hf12, upd_self hf0, upd_self hf1]⟩
        have hinck1 := addI_lt hltk1 hbdik1
        refine W.seq ?_
        refine W.region ?_
        refine O.lss rfl rfl rfl rfl ?_
        refine WL.nil ?_
        refine W.seq ?_
        refine W.cond_true (congrArg Value.bool (decide_eq_true hltk1)) ?_
        refine W.skip ?_
        refine W.seq ?_
        refine W.block ?_
        refine W.seq ?_
        refine W.region ?_
        refine O.move (v := (.int .i64 (ik1 : Int))) rfl rfl rfl ?_
        refine O.assign (v := (.int .i64 (ik1 : Int))) rfl rfl rfl ?_
        refine WL.nil ?_
        refine W.seq ?_
        obtain ⟨x1, hx1, hm2⟩ := bind_some hm2
        obtain ⟨p1, hp1, hrp1⟩ := fix_indexAddr Tryd.underlying22 sz3 (H.arg ha0) hx1
        obtain ⟨x2, hx2, hm2⟩ := bind_some hm2
        obtain ⟨p2, hp2, hrp2⟩ := fix_indexAddr Tryd.underlying22 sz3 (H.arg ha1) hx2
        refine W.drawN 8 (fun f => f 0 = va0 ∧ f 1 = va1 ∧ f 12 = (.int .i64 ((a0.length : Nat) : Int)) ∧ f 13 = (.int .i64 (ik1 : Int)) ∧ f 19 = (.int .i64 x1) ∧ f 23 = (.int .i64 x2)) fol (by kernel_rfl) ?_ ?_
        · skip
          refine PL.of (fun _ w8 _ hx => O.move (v := va0) rfl rfl rfl (WL.nil ⟨rfl, hx⟩)) ?_
          refine PL.of (fun _ w8 _ hx => O.move (v := (.int .i64 (ik1 : Int))) rfl rfl rfl (WL.nil ⟨rfl, hx⟩)) ?_
          refine PL.of (fun _ w8 _ hx => hrp1 rfl rfl rfl rfl (WL.nil ⟨rfl, hx⟩)) ?_
          refine PL.of (fun _ w8 _ hx => by have hp1 := hp1.mono hx; exact O.load sc3 rfl rfl rfl (hp1.flat 0 _ rfl) (WL.nil ⟨rfl, hx⟩)) ?_
          refine PL.of (fun _ w8 _ hx => O.move (v := va1) rfl rfl rfl (WL.nil ⟨rfl, hx⟩)) ?_
          refine PL.of (fun _ w8 _ hx => O.move (v := (.int .i64 (ik1 : Int))) rfl rfl rfl (WL.nil ⟨rfl, hx⟩)) ?_
          refine PL.of (fun _ w8 _ hx => hrp2 rfl rfl rfl rfl (WL.nil ⟨rfl, hx⟩)) ?_
          refine PL.of (fun _ w8 _ hx => by have hp2 := hp2.mono hx; exact O.load sc3 rfl rfl rfl (hp2.flat 0 _ rfl) (WL.nil ⟨rfl, hx⟩)) ?_
          refine PL.nil ?_
          exact ⟨rfl, rfl, rfl, rfl, rfl, rfl⟩
        · skip
          rintro f w ⟨hf0, hf1, hf12, hf13, hf19, hf23⟩ hmd hx
          have H := H.ext hx
          have hp1 := hp1.mono hx
          have hp2 := hp2.mono hx
          obtain ⟨u2, rfl⟩ : ∃ u2, f = (upd (upd (upd (upd (upd (upd u2 0 va0) 1 va1) 12 (.int .i64 ((a0.length : Nat) : Int))) 13 (.int .i64 (ik1 : Int))) 19 (.int .i64 x1)) 23 (.int .i64 x2)) := ⟨f, by rw [upd_self hf0, upd_self hf1, upd_self hf12, upd_self hf13, upd_self hf19, upd_self hf23]⟩
          refine O.neq rfl rfl rfl rfl ?_
          refine WL.nil ?_
          rcases ite_some hm2 with ⟨hc2, hm2⟩ | ⟨hc2, hm2⟩
          · refine W.cond_true (congrArg Value.bool hc2) ?_
            refine W.seq ?_
            refine W.region ?_
            refine O.assign (v := (.bool false)) rfl rfl rfl ?_
            refine WL.nil ?_
            refine W.ret ?_
            obtain rfl := Option.some.inj hm2
            refine ⟨_, rfl, ?_⟩
            rintro rfl
            have hq : false = r0 := Option.some.inj (show some false = some r0 from hm)
            subst hq
            exact ends1 Tryd.results16 rfl ⟨_, rfl, H.base, rfl⟩
          · refine W.cond_false (congrArg Value.bool hc2) ?_
            refine W.skip ?_
            refine W.region ?_
            refine O.add rfl rfl rfl rfl hinck1 ?_
            refine O.move (v := .int .i64 ((ik1 : Int) + 1)) rfl rfl rfl ?_
            refine WL.nil ?_
            obtain rfl := Option.some.inj hm2
            exact ⟨_, rfl, rfl, rangeN_next hdropk1, rfl, rfl, rfl, rfl, H⟩
      · skip
        rintro ik1 _ f w ⟨rfl, hdropk1, hf13, hf12, hf0, hf1, H⟩ hfin
        have hltk1 := rangeN_end hdropk1
        obtain ⟨u3, rfl⟩ : ∃ u3, f = (upd (upd (upd (upd u3 13 (.int .i64 (ik1 : Int))) 12 (.int .i64 ((a0.length : Nat) : Int))) 0 va0) 1 va1) := ⟨f, by rw [upd_self hf13, upd_self hf12, upd_self hf0, upd_self hf1]⟩
        refine W.seq ?_
        refine W.region ?_
        refine O.lss rfl rfl rfl rfl ?_
        refine WL.nil ?_
        refine W.seq ?_
        refine W.cond_false (congrArg Value.bool (decide_eq_false hltk1)) ?_
        refine W.exit ?_
        obtain rfl : Ctl.next () = o1 := hfin
        refine xT rfl ?_
        exact ⟨rfl, H⟩
    · skip
      rintro f w ⟨rfl, H⟩
      refine W.seq ?_
      refine W.region ?_
      refine O.assign (v := (.bool true)) rfl rfl rfl ?_
      refine WL.nil ?_
      refine W.ret ?_
      have hq : true = r0 := Option.some.inj (show some true = some r0 from hm)
      subst hq
      exact ends1 Tryd.results16 rfl ⟨_, rfl, H.base, rfl⟩

set_option maxRecDepth 20000 in
theorem c_noongunlaw07_awake {w0 : World}  {r0 : Bool} (hm : noongunlaw07_awake  = some r0) :
    Calls Tryd.prog 7 #[] w0 (Ret w0 fun _ v => v = (.bool r0)) := by
  unfold noongunlaw07_awake at hm
  refine calls_of_W Tryd.func7 rfl Tryd.ntmps7 (Nat.le_of_ble_eq_true rfl) ?_
  have H := Inv.start (w := w0)
  refine W.seq ?_
  refine W.region ?_
  refine O.assign (v := (.bool false)) rfl rfl rfl ?_
  refine WL.nil ?_
  refine W.seq ?_
  refine W.region ?_
  refine O.buildSlice (α := Int) [(.int .i64 1), (.int .i64 2), (.int .i64 1), (.int .i64 1)] [1, 2, 1, 1] Tryd.underlying22 el3 H rfl rfl rfl rfl rfl rfl rfl ?_
  intro v1 w1 H hb1
  obtain ⟨⟨t1, t2⟩, hy1, hm⟩ := bind_some hm
  refine O.call Tryd.call24 rfl rfl rfl (c_flag_Hoist _ _ (H.own 0 rfl) hy1) ?_
  rintro _ w2 hb2 ⟨v2, rfl, ho1⟩
  have H := H.addOwn hb2 ho1
  refine O.move (v := (.tuple #[v2, (.int .i64 t2)])) rfl rfl rfl ?_
  refine O.extract (v := v2) rfl rfl rfl rfl ?_
  refine O.extract (v := (.int .i64 t2)) rfl rfl rfl rfl ?_
  refine O.assign (v := v2) rfl rfl rfl ?_
  refine O.assign (v := (.int .i64 t2)) rfl rfl rfl ?_
  refine WL.nil ?_
  refine W.seq ?_
  refine W.region ?_
  refine O.buildSlice (α := Int) [(.int .i64 1), (.int .i64 2), (.int .i64 10), (.int .i64 12)] [1, 2, 10, 12] Tryd.underlying22 el3 H rfl rfl rfl rfl rfl rfl rfl ?_
  intro v3 w3 H hb3
  obtain ⟨⟨t3, t4⟩, hy2, hm⟩ := bind_some hm
  refine O.call Tryd.call37 rfl rfl rfl (c_flag_Means _ _ (H.own 2 rfl) hy2) ?_
  rintro _ w4 hb4 ⟨v4, rfl, ho2⟩
  have H := H.addOwn hb4 ho2
  refine O.move (v := (.tuple #[v4, (.int .i64 t4)])) rfl rfl rfl ?_
  refine O.extract (v := v4) rfl rfl rfl rfl ?_
  refine O.extract (v := (.int .i64 t4)) rfl rfl rfl rfl ?_
  refine O.assign (v := v4) rfl rfl rfl ?_
  refine O.assign (v := (.int .i64 t4)) rfl rfl rfl ?_
  refine WL.nil ?_
  refine W.seq ?_
  refine W.region ?_
  refine O.move (v := (.int .i64 t2)) rfl rfl rfl ?_
  refine O.eql rfl rfl rfl rfl ?_
  refine O.move (v := (.bool (t2 == 0))) rfl rfl rfl ?_
  obtain ⟨b1, hm1, hm⟩ := bind_some hm
  refine WL.cut 4 (fun f w => f 3 = v4 ∧ f 4 = (.int .i64 t4) ∧ f 21 = .bool b1 ∧ Inv w0 w [ownI (α := Int) v1 3 ([1, 2, 1, 1] : List Int), ownI (α := Int) v2 3 t1, ownI (α := Int) v3 3 ([1, 2, 10, 12] : List Int), ownI (α := Int) v4 3 t3]) ?_ ?_
  · skip
    rcases ite_some hm1 with ⟨hc1, hm1⟩ | ⟨hc1, hm1⟩
    · skip
      refine WL.reset (i := 17) (v := .bool true) (congrArg Value.bool hc1) ?_
      refine O.move (v := v2) rfl rfl rfl ?_
      refine O.buildSlice (α := Int) [(.int .i64 1), (.int .i64 2), (.int .i64 10), (.int .i64 12)] [1, 2, 10, 12] Tryd.underlying22 el3 H rfl rfl rfl rfl rfl rfl rfl ?_
      intro v5 w5 H hb5
      obtain ⟨t5, hy3, hm1⟩ := bind_some hm1
      refine O.call Tryd.call16 rfl rfl rfl (c_noongunref07_SameInts _ _ (H.own 1 rfl) _ _ (H.own 4 rfl) hy3) ?_
      rintro _ w6 hb6 rfl
      have H := H.ext hb6
      refine O.pick_true (v := (.bool t5)) rfl rfl rfl rfl ?_
      refine WL.nil ?_
      have H := H.keep [0, 1, 2, 3] [ownI (α := Int) v1 3 ([1, 2, 1, 1] : List Int), ownI (α := Int) v2 3 t1, ownI (α := Int) v3 3 ([1, 2, 10, 12] : List Int), ownI (α := Int) v4 3 t3] rfl (by decide)
      have hq : t5 = b1 := Option.some.inj (show some t5 = some b1 from hm1)
      subst hq
      exact ⟨rfl, rfl, rfl, H⟩
    · skip
      refine WL.reset (i := 17) (v := .bool false) (congrArg Value.bool hc1) ?_
      refine O.skip rfl rfl ?_
      refine O.skip rfl rfl ?_
      refine O.skip rfl rfl ?_
      refine O.pick_false (v := (.bool false)) rfl rfl rfl rfl ?_
      refine WL.nil ?_
      have hq : false = b1 := Option.some.inj (show some false = some b1 from hm1)
      subst hq
      exact ⟨rfl, rfl, rfl, H⟩
  · skip
    rintro f w ⟨hf3, hf4, hf21, H⟩
    obtain ⟨u1, rfl⟩ : ∃ u1, f = (upd (upd (upd u1 3 v4) 4 (.int .i64 t4)) 21 (.bool b1)) := ⟨f, by rw [upd_self hf3, upd_self hf4, upd_self hf21]⟩
    refine O.move (v := (.bool b1)) rfl rfl rfl ?_
    refine WL.cut 3 (fun f w => f 3 = v4 ∧ f 25 = .bool (b1 && (t4 == 0)) ∧ Inv w0 w [ownI (α := Int) v1 3 ([1, 2, 1, 1] : List Int), ownI (α := Int) v2 3 t1, ownI (α := Int) v3 3 ([1, 2, 10, 12] : List Int), ownI (α := Int) v4 3 t3]) ?_ ?_
    · skip
      rcases bool_ft b1 with hc2 | hc2
      · skip
        refine WL.reset (i := 22) (v := .bool false) (congrArg Value.bool hc2) ?_
        refine O.skip rfl rfl ?_
        refine O.skip rfl rfl ?_
        refine O.pick_false (v := (.bool false)) rfl rfl rfl rfl ?_
        refine WL.nil ?_
        exact ⟨rfl, congrArg Value.bool (and_f hc2), H⟩
      · skip
        refine WL.reset (i := 22) (v := .bool true) (congrArg Value.bool hc2) ?_
        refine O.move (v := (.int .i64 t4)) rfl rfl rfl ?_
        refine O.eql rfl rfl rfl rfl ?_
        refine O.pick_true (v := (.bool (t4 == 0))) rfl rfl rfl rfl ?_
        refine WL.nil ?_
        exact ⟨rfl, congrArg Value.bool (and_t hc2), H⟩
    · skip
      rintro f w ⟨hf3, hf25, H⟩
      obtain ⟨u2, rfl⟩ : ∃ u2, f = (upd (upd u2 3 v4) 25 (.bool (b1 && (t4 == 0)))) := ⟨f, by rw [upd_self hf3, upd_self hf25]⟩
      refine O.move (v := (.bool (b1 && (t4 == 0)))) rfl rfl rfl ?_
      obtain ⟨b2, hm2, hm⟩ := bind_some hm
      refine WL.cut 4 (fun f w => f 30 = .bool b2 ∧ Inv w0 w [ownI (α := Int) v1 3 ([1, 2, 1, 1] : List Int), ownI (α := Int) v2 3 t1, ownI (α := Int) v3 3 ([1, 2, 10, 12] : List Int), ownI (α := Int) v4 3 t3]) ?_ ?_
      · skip
        rcases ite_some hm2 with ⟨hc3, hm2⟩ | ⟨hc3, hm2⟩
        · skip
          refine WL.reset (i := 26) (v := .bool true) (congrArg Value.bool hc3) ?_
          refine O.move (v := v4) rfl rfl rfl ?_
          refine O.buildSlice (α := Int) [(.int .i64 1), (.int .i64 2), (.int .i64 1), (.int .i64 1)] [1, 2, 1, 1] Tryd.underlying22 el3 H rfl rfl rfl rfl rfl rfl rfl ?_
          intro v6 w7 H hb7
          obtain ⟨t6, hy4, hm2⟩ := bind_some hm2
          refine O.call Tryd.call16 rfl rfl rfl (c_noongunref07_SameInts _ _ (H.own 3 rfl) _ _ (H.own 4 rfl) hy4) ?_
          rintro _ w8 hb8 rfl
          have H := H.ext hb8
          refine O.pick_true (v := (.bool t6)) rfl rfl rfl rfl ?_
          refine WL.nil ?_
          have H := H.keep [0, 1, 2, 3] [ownI (α := Int) v1 3 ([1, 2, 1, 1] : List Int), ownI (α := Int) v2 3 t1, ownI (α := Int) v3 3 ([1, 2, 10, 12] : List Int), ownI (α := Int) v4 3 t3] rfl (by decide)
          have hq : t6 = b2 := Option.some.inj (show some t6 = some b2 from hm2)
          subst hq
          exact ⟨rfl, H⟩
        · skip
          refine WL.reset (i := 26) (v := .bool false) (congrArg Value.bool hc3) ?_
          refine O.skip rfl rfl ?_
          refine O.skip rfl rfl ?_
          refine O.skip rfl rfl ?_
          refine O.pick_false (v := (.bool false)) rfl rfl rfl rfl ?_
          refine WL.nil ?_
          have hq : false = b2 := Option.some.inj (show some false = some b2 from hm2)
          subst hq
          exact ⟨rfl, H⟩
      · skip
        rintro f w ⟨hf30, H⟩
        obtain ⟨u3, rfl⟩ : ∃ u3, f = (upd u3 30 (.bool b2)) := ⟨f, by rw [upd_self hf30]⟩
        refine O.assign (v := (.bool b2)) rfl rfl rfl ?_
        refine WL.nil ?_
        refine W.ret ?_
        have hq : b2 = r0 := Option.some.inj (show some b2 = some r0 from hm)
        subst hq
        exact ends1 Tryd.results7 rfl ⟨_, rfl, H.base, rfl⟩

theorem c_flag_ValidBook_c1 {w0 : World} (a0 : Int) {r0 : Bool} (hm : flag_ValidBook_c1 a0 = some r0) :
    Calls Tryd.prog 57 #[(.int .i32 a0)] w0 (Ret w0 fun _ v => v = (.bool r0)) := by
  unfold flag_ValidBook_c1 at hm
  refine calls_of_W Tryd.func57 rfl Tryd.ntmps57 (Nat.le_of_ble_eq_true rfl) ?_
  have H := Inv.start (w := w0)
  refine W.seq ?_
  refine W.region ?_
  refine O.assign (v := (.bool false)) rfl rfl rfl ?_
  refine WL.nil ?_
  refine W.seq ?_
  refine W.region ?_
  refine O.move (v := (.int .i32 a0)) rfl rfl rfl ?_
  refine O.lss rfl rfl rfl rfl ?_
  refine O.move (v := (.bool (decide (a0 < 32)))) rfl rfl rfl ?_
  refine WL.cut 3 (fun f w => f 8 = .bool ((decide (a0 < 32)) || (decide (126 < a0))) ∧ Inv w0 w []) ?_ ?_
  · skip
    rcases bool_ft (decide (a0 < 32)) with hc1 | hc1
    · skip
      refine WL.reset (i := 5) (v := .bool false) (congrArg Value.bool hc1) ?_
      refine O.move (v := (.int .i32 a0)) rfl rfl rfl ?_
      refine O.gtr rfl rfl rfl rfl ?_
      refine O.pick_false (v := (.bool (decide (126 < a0)))) rfl rfl rfl rfl ?_
      refine WL.nil ?_
      exact ⟨congrArg Value.bool (or_f hc1), H⟩
    · skip
      refine WL.reset (i := 5) (v := .bool true) (congrArg Value.bool hc1) ?_
      refine O.skip rfl rfl ?_
      refine O.skip rfl rfl ?_
      refine O.pick_true (v := (.bool true)) rfl rfl rfl rfl ?_
      refine WL.nil ?_
      exact ⟨congrArg Value.bool (or_t hc1), H⟩
  · skip
    rintro f w ⟨hf8, H⟩
    obtain ⟨u1, rfl⟩ : ∃ u1, f = (upd u1 8 (.bool ((decide (a0 < 32)) || (decide (126 < a0))))) := ⟨f, by rw [upd_self hf8]⟩
    refine O.assign (v := (.bool ((decide (a0 < 32)) || (decide (126 < a0))))) rfl rfl rfl ?_
    refine WL.nil ?_
    refine W.ret ?_
    have hq : ((decide (a0 < 32)) || (decide (126 < a0))) = r0 := Option.some.inj (show some ((decide (a0 < 32)) || (decide (126 < a0))) = some r0 from hm)
    subst hq
    exact ends1 Tryd.results57 rfl ⟨_, rfl, H.base, rfl⟩

theorem c_flag_isNumber {w0 : World} (a0 : Int) {r0 : Bool} (hm : flag_isNumber a0 = some r0) :
    Calls Tryd.prog 38 #[(.int .i64 a0)] w0 (Ret w0 fun _ v => v = (.bool r0)) := by
  unfold flag_isNumber at hm
  refine calls_of_W Tryd.func38 rfl Tryd.ntmps38 (Nat.le_of_ble_eq_true rfl) ?_
  have H := Inv.start (w := w0)
  refine W.seq ?_
  refine W.region ?_
  refine O.assign (v := (.bool false)) rfl rfl rfl ?_
  refine WL.nil ?_
  refine W.seq ?_
  refine W.region ?_
  refine O.move (v := (.int .i64 a0)) rfl rfl rfl ?_
  obtain ⟨t1, hy1, hm⟩ := bind_some hm
  refine O.call Tryd.call58 rfl rfl rfl (c_flag_within _ _ _ hy1) ?_
  rintro _ w1 hb1 rfl
  have H := H.ext hb1
  refine O.assign (v := (.bool t1)) rfl rfl rfl ?_
  refine WL.nil ?_
  refine W.ret ?_
  have hq : t1 = r0 := Option.some.inj (show some t1 = some r0 from hm)
  subst hq
  exact ends1 Tryd.results38 rfl ⟨_, rfl, H.base, rfl⟩

theorem c_strings_indexFunc {w0 : World} (a0 : ByteArray) (va1 : Value) (a1 : Int → Option (Bool)) (ha1 : ∀ (w : World), Below w0.heap.size w0 w → ∀ (x0 : Int) (y0 : Bool), a1 x0 = some y0 → CallsV Tryd.prog va1 #[(.int .i32 x0)] w (Ret w fun _ v => v = (.bool y0))) (a2 : Bool) {r0 : Int} (hm : strings_indexFunc a0 a1 a2 = some r0) :
    Calls Tryd.prog 95 #[(.string a0), va1, (.bool a2)] w0 (Ret w0 fun _ v => v = (.int .i64 r0)) := by
  unfold strings_indexFunc at hm
  split at hm
  case isFalse => cases hm
  rename_i hsz
  refine calls_of_W Tryd.func95 rfl Tryd.ntmps95 (Nat.le_of_ble_eq_true rfl) ?_
  have H := Inv.start (w := w0)
  refine W.seq ?_
  refine W.region ?_
  refine O.assign (v := (.int .i64 0)) rfl rfl rfl ?_
  refine WL.nil ?_
  refine W.seq ?_
  refine W.via (fun f w => r0 = -1 ∧ Inv w0 w []) ?_ ?_
  · refine W.seq ?_
    refine W.region ?_
    refine O.move (v := (.string a0)) rfl rfl rfl ?_
    refine O.rangeS Tryd.underlying9 H rfl rfl rfl ?_
    intro bi w2 H hb2
    refine WL.nil ?_
    refine W.block ?_
    refine W.loopL (l := runesL a0 (a0.size + 1) 0) (fun rem f w => ∃ (n at_ : Nat), runesL a0 n at_ = rem ∧ a0.size + 1 ≤ n + at_ ∧ idxR a1 a2 rem = some r0 ∧ f 10 = .pointer (some ⟨bi, 0, none⟩) ∧ f 1 = va1 ∧ f 2 = (.bool a2) ∧ Inv w0 w [strI bi a0 at_]) ?_ ?_ ?_
    · exact ⟨_, 0, rfl, Nat.le_refl _, hm, rfl, rfl, rfl, H⟩
    · rintro ⟨y, r⟩ ys f w ⟨n, at_, hd, hn, hi, hf10, hf1, hf2, H⟩
      obtain ⟨u1, rfl⟩ : ∃ u1, f = (upd (upd (upd u1 10 (.pointer (some ⟨bi, 0, none⟩))) 1 va1) 2 (.bool a2)) := ⟨f, by rw [upd_self hf10, upd_self hf1, upd_self hf2]⟩
      cases n with
      | zero => simp [runesL] at hd
      | succ n =>
        rw [runesL] at hd
        split at hd
        case isFalse => cases hd
        rename_i hlt
        have hw := dec_w a0 at_
        obtain ⟨hd1, hd2⟩ := List.cons.inj hd
        obtain ⟨rfl, rfl⟩ := Prod.mk.inj hd1
        rw [idxR] at hi
        obtain ⟨t, ht, hi⟩ := bind_some hi
        refine W.seq ?_
        refine W.region ?_
        refine O.nextR 0 H rfl hlt rfl rfl rfl ?_
        intro w1 H
        refine O.extract (v := .bool true) rfl rfl rfl rfl ?_
        refine WL.nil ?_
        refine W.seq ?_
        refine W.cond_true rfl ?_
        refine W.skip ?_
        refine W.block ?_
        refine W.seq ?_
        refine W.region ?_
        refine O.extract (v := (.int .i64 (at_ : Int))) rfl rfl rfl rfl ?_
        refine O.extract (v := (.int .i32 ((Utf8.decode a0 at_).1 : Int))) rfl rfl rfl rfl ?_
        refine O.assign (v := (.int .i64 (at_ : Int))) rfl rfl rfl ?_
        refine O.assign (v := (.int .i32 ((Utf8.decode a0 at_).1 : Int))) rfl rfl rfl ?_
        refine WL.nil ?_
        refine W.seq ?_
        refine W.region ?_
        refine O.move (v := va1) rfl rfl rfl ?_
        refine O.move (v := (.int .i32 ((Utf8.decode a0 at_).1 : Int))) rfl rfl rfl ?_
        refine O.callV rfl rfl rfl rfl (ha1 _ H.base _ _ ht) ?_
        rintro _ w3 hb3 rfl
        have H := H.ext hb3
        refine O.move (v := (.bool a2)) rfl rfl rfl ?_
        refine O.eqlB Tryd.underlying4 rfl rfl rfl rfl ?_
        refine WL.nil ?_
        rcases ite_some hi with ⟨hc, hi⟩ | ⟨hc, hi⟩
        · refine W.cond_true (congrArg Value.bool hc) ?_
          refine W.seq ?_
          refine W.region ?_
          refine O.move (v := (.int .i64 (at_ : Int))) rfl rfl rfl ?_
          refine O.assign (v := (.int .i64 (at_ : Int))) rfl rfl rfl ?_
          refine WL.nil ?_
          refine W.ret ?_
          obtain rfl := Option.some.inj hi
          exact ends1 Tryd.results95 rfl ⟨_, rfl, H.base, rfl⟩
        · refine W.cond_false (congrArg Value.bool hc) ?_
          refine W.skip ?_
          exact ⟨n, at_ + (Utf8.decode a0 at_).2, hd2, by omega, hi, rfl, rfl, rfl, H⟩
    · rintro f w ⟨n, at_, hd, hn, hi, hf10, hf1, hf2, H⟩
      obtain ⟨u1, rfl⟩ : ∃ u1, f = (upd u1 10 (.pointer (some ⟨bi, 0, none⟩))) := ⟨f, by rw [upd_self hf10]⟩
      have hge : ¬ at_ < a0.size := by
        intro h
        cases n with
        | zero => omega
        | succ n => rw [runesL, if_pos h] at hd; cases hd
      refine W.seq ?_
      refine W.region ?_
      refine O.endS 0 H rfl hge rfl rfl rfl ?_
      refine O.extract (v := .bool false) rfl rfl rfl rfl ?_
      refine WL.nil ?_
      refine W.seq ?_
      refine W.cond_false rfl ?_
      refine W.exit ?_
      refine xT rfl ?_
      exact ⟨(Option.some.inj hi).symm, H.keep [] [] rfl (by decide)⟩
  · rintro f w ⟨rfl, H⟩
    refine W.seq ?_
    refine W.region ?_
    refine O.assign (v := (.int .i64 (-1))) rfl rfl rfl ?_
    refine WL.nil ?_
    refine W.ret ?_
    exact ends1 Tryd.results95 rfl ⟨_, rfl, H.base, rfl⟩

theorem c_strings_IndexFunc {w0 : World} (a0 : ByteArray) (va1 : Value) (a1 : Int → Option (Bool)) (ha1 : ∀ (w : World), Below w0.heap.size w0 w → ∀ (x0 : Int) (y0 : Bool), a1 x0 = some y0 → CallsV Tryd.prog va1 #[(.int .i32 x0)] w (Ret w fun _ v => v = (.bool y0))) {r0 : Int} (hm : strings_IndexFunc a0 a1 = some r0) :
    Calls Tryd.prog 81 #[(.string a0), va1] w0 (Ret w0 fun _ v => v = (.int .i64 r0)) := by
  unfold strings_IndexFunc at hm
  refine calls_of_W Tryd.func81 rfl Tryd.ntmps81 (Nat.le_of_ble_eq_true rfl) ?_
  have H := Inv.start (w := w0)
  refine W.seq ?_
  refine W.region ?_
  refine O.assign (v := (.int .i64 0)) rfl rfl rfl ?_
  refine WL.nil ?_
  refine W.seq ?_
  refine W.region ?_
  refine O.move (v := (.string a0)) rfl rfl rfl ?_
  refine O.move (v := va1) rfl rfl rfl ?_
  obtain ⟨t1, hy1, hm⟩ := bind_some hm
  refine O.call Tryd.call95 rfl rfl rfl (c_strings_indexFunc _ va1 a1 (fun w hw => ha1 w (H.base.trans (hw.mono H.base.size))) _ hy1) ?_
  rintro _ w1 hb1 rfl
  have H := H.ext hb1
  refine O.assign (v := (.int .i64 t1)) rfl rfl rfl ?_
  refine WL.nil ?_
  refine W.ret ?_
  have hq : t1 = r0 := Option.some.inj (show some t1 = some r0 from hm)
  subst hq
  exact ends1 Tryd.results81 rfl ⟨_, rfl, H.base, rfl⟩

theorem c_strings_ContainsFunc {w0 : World} (a0 : ByteArray) (va1 : Value) (a1 : Int → Option (Bool)) (ha1 : ∀ (w : World), Below w0.heap.size w0 w → ∀ (x0 : Int) (y0 : Bool), a1 x0 = some y0 → CallsV Tryd.prog va1 #[(.int .i32 x0)] w (Ret w fun _ v => v = (.bool y0))) {r0 : Bool} (hm : strings_ContainsFunc a0 a1 = some r0) :
    Calls Tryd.prog 59 #[(.string a0), va1] w0 (Ret w0 fun _ v => v = (.bool r0)) := by
  unfold strings_ContainsFunc at hm
  refine calls_of_W Tryd.func59 rfl Tryd.ntmps59 (Nat.le_of_ble_eq_true rfl) ?_
  have H := Inv.start (w := w0)
  refine W.seq ?_
  refine W.region ?_
  refine O.assign (v := (.bool false)) rfl rfl rfl ?_
  refine WL.nil ?_
  refine W.seq ?_
  refine W.region ?_
  refine O.move (v := (.string a0)) rfl rfl rfl ?_
  refine O.move (v := va1) rfl rfl rfl ?_
  obtain ⟨t1, hy1, hm⟩ := bind_some hm
  refine O.call Tryd.call81 rfl rfl rfl (c_strings_IndexFunc _ va1 a1 (fun w hw => ha1 w (H.base.trans (hw.mono H.base.size))) hy1) ?_
  rintro _ w1 hb1 rfl
  have H := H.ext hb1
  refine O.geq rfl rfl rfl rfl ?_
  refine O.assign (v := (.bool (decide (0 ≤ t1)))) rfl rfl rfl ?_
  refine WL.nil ?_
  refine W.ret ?_
  have hq : (decide (0 ≤ t1)) = r0 := Option.some.inj (show some (decide (0 ≤ t1)) = some r0 from hm)
  subst hq
  exact ends1 Tryd.results59 rfl ⟨_, rfl, H.base, rfl⟩

set_option maxRecDepth 20000 in
theorem c_flag_ValidBook {w0 : World} (va0 : Value) (a0 : (List GMeaning)) (ha0 : SliceR w0 va0 a0) {r0 : Bool} (hm : flag_ValidBook a0 = some r0) :
    Calls Tryd.prog 22 #[va0] w0 (Ret w0 fun _ v => v = (.bool r0)) := by
  unfold flag_ValidBook at hm
  refine calls_of_W Tryd.func22 rfl Tryd.ntmps22 (Nat.le_of_ble_eq_true rfl) ?_
  have H := Inv.start (w := w0)
  refine W.seq ?_
  refine W.region ?_
  refine O.assign (v := (.bool false)) rfl rfl rfl ?_
  refine WL.nil ?_
  refine W.seq ?_
  refine W.region ?_
  refine O.assign (v := (.func (.func 57) #[] #[])) rfl rfl rfl ?_
  refine WL.nil ?_
  refine W.seq ?_
  refine W.seq ?_
  refine W.region ?_
  refine O.move (v := va0) rfl rfl rfl ?_
  refine O.lenS Tryd.underlying33 (H.arg ha0) rfl rfl rfl ?_
  refine O.move (v := (.int .i64 0)) rfl rfl rfl ?_
  refine WL.nil ?_
  obtain ⟨o1, hm1, hm⟩ := bind_some hm
  refine W.via (fun f w => o1 = .next () ∧ f 0 = va0 ∧ Inv w0 w []) ?_ ?_
  · skip
    refine W.block ?_
    have hbdik1 := (H.arg ha0).len_le
    refine W.rangeN (i := 0) hm1 (fun rem ik1 s f w => () = s ∧ (ik1 : Int) + rem = max 0 ((a0.length : Nat) : Int) ∧ f 8 = .int .i64 (ik1 : Int) ∧ f 7 = (.int .i64 ((a0.length : Nat) : Int)) ∧ f 0 = va0 ∧ f 3 = (.func (.func 57) #[] #[]) ∧ f 6 = va0 ∧ Inv w0 w []) ?_ ?_ ?_
    · skip
      exact ⟨rfl, rangeN_start, rfl, rfl, rfl, rfl, rfl, H⟩
    · skip
      rintro k ik1 _ st f w ⟨rfl, hdropk1, hf8, hf7, hf0, hf3, hf6, H⟩ hm2
      have hltk1 := rangeN_lt hdropk1
      obtain ⟨u1, rfl⟩ : ∃ u1, f = (upd (upd (upd (upd (upd u1 8 (.int .i64 (ik1 : Int))) 7 (.int .i64 ((a0.length : Nat) : Int))) 0 va0) 3 (.func (.func 57) #[] #[])) 6 va0) := ⟨f, by rw [upd_self hf8, upd_self hf7, upd_self hf0, upd_self hf3, upd_self hf6]⟩
      have hinck1 := addI_lt hltk1 hbdik1
      refine W.seq ?_
      refine W.region ?_
      refine O.lss rfl rfl rfl rfl ?_
      refine WL.nil ?_
      refine W.seq ?_
      refine W.cond_true (congrArg Value.bool (decide_eq_true hltk1)) ?_
      refine W.skip ?_
      refine W.seq ?_
      refine W.block ?_
      refine W.seq ?_
      refine W.region ?_
      refine O.move (v := (.int .i64 (ik1 : Int))) rfl rfl rfl ?_
      obtain ⟨x1, hx1, hm2⟩ := bind_some hm2
      obtain ⟨p1, hp1, hrp1⟩ := fix_indexAddr Tryd.underlying33 sz39 ha0 hx1
      refine hrp1 rfl rfl rfl rfl ?_
      refine O.loadA [(.int .i64 x1.Number), (.string x1.Text)] ag39 rfl rfl rfl rfl ((hp1.mono H.base).flat) ?_
      refine O.alloc [(.int .i64 0), (.string ByteArray.empty)] ze39 H rfl rfl rfl ?_
      intro b1 w1 H hb1
      refine O.assign (v := (.int .i64 (ik1 : Int))) rfl rfl rfl ?_
      refine O.store 0 0 [(.int .i64 x1.Number), (.string x1.Text)] [(.int .i64 x1.Number), (.string x1.Text)] sz39 H rfl rfl rfl rfl rfl rfl ⟨⟨rfl, rfl⟩, rfl⟩ (one_cons rfl (one_cons rfl one_nil)) ?_
      intro w2 H
      refine WL.nil ?_
      refine W.seq ?_
      obtain ⟨t1, hy1, hm2⟩ := bind_some hm2
      obtain ⟨b2, hm3, hm2⟩ := bind_some hm2
      obtain ⟨b4, hm5, hm2⟩ := bind_some hm2
      obtain ⟨b5, hm6, hm2⟩ := bind_some hm2
      refine W.drawN 32 (fun f => f 0 = va0 ∧ f 3 = (.func (.func 57) #[] #[]) ∧ f 6 = va0 ∧ f 7 = (.int .i64 ((a0.length : Nat) : Int)) ∧ f 8 = (.int .i64 (ik1 : Int)) ∧ f 44 = (.bool b5)) fol (by kernel_rfl) ?_ ?_
      · skip
        refine PL.of (fun _ w8 _ hx => O.fieldAddr fd39_0 rfl rfl rfl (WL.nil ⟨rfl, hx⟩)) ?_
        refine PL.of (fun _ w8 _ hx => by have H := H.ext hx; exact O.load sc3 rfl rfl rfl (H.cell 0 rfl 0 _ rfl) (WL.nil ⟨rfl, hx⟩)) ?_
        refine PL.of (fun _ w8 _ hx => O.call Tryd.call38 rfl rfl rfl (c_flag_isNumber _ hy1) (by rintro _ _ hb rfl; exact WL.nil ⟨rfl, hx.trans (hb.mono hx.size)⟩)) ?_
        refine PL.of (fun _ w8 _ hx => O.not rfl rfl rfl (WL.nil ⟨rfl, hx⟩)) ?_
        refine PL.of (fun _ w8 _ hx => O.move (v := (.bool (!t1))) rfl rfl rfl (WL.nil ⟨rfl, hx⟩)) ?_
        refine PL.cut 14 (fun f => f 0 = va0 ∧ f 3 = (.func (.func 57) #[] #[]) ∧ f 5 = (.pointer (some ⟨b1, 0, none⟩)) ∧ f 6 = va0 ∧ f 7 = (.int .i64 ((a0.length : Nat) : Int)) ∧ f 8 = (.int .i64 (ik1 : Int)) ∧ f 31 = .bool b2) ?_ ?_
        · skip
          rcases ite_some hm3 with ⟨hc1, hm3⟩ | ⟨hc1, hm3⟩
          · skip
            refine PL.reset (i := 17) (v := .bool true) (congrArg Value.bool hc1) ?_
            refine PL.of (fun _ w8 _ hx => O.skip rfl rfl (WL.nil ⟨rfl, hx⟩)) ?_
            refine PL.of (fun _ w8 _ hx => O.skip rfl rfl (WL.nil ⟨rfl, hx⟩)) ?_
            refine PL.of (fun _ w8 _ hx => O.skip rfl rfl (WL.nil ⟨rfl, hx⟩)) ?_
            refine PL.of (fun _ w8 _ hx => O.skip rfl rfl (WL.nil ⟨rfl, hx⟩)) ?_
            refine PL.of (fun _ w8 _ hx => O.skip rfl rfl (WL.nil ⟨rfl, hx⟩)) ?_
            refine PL.of (fun _ w8 _ hx => O.skip rfl rfl (WL.nil ⟨rfl, hx⟩)) ?_
            refine PL.of (fun _ w8 _ hx => O.skip rfl rfl (WL.nil ⟨rfl, hx⟩)) ?_
            refine PL.of (fun _ w8 _ hx => O.skip rfl rfl (WL.nil ⟨rfl, hx⟩)) ?_
            refine PL.of (fun _ w8 _ hx => O.skip rfl rfl (WL.nil ⟨rfl, hx⟩)) ?_
            refine PL.of (fun _ w8 _ hx => O.skip rfl rfl (WL.nil ⟨rfl, hx⟩)) ?_
            refine PL.of (fun _ w8 _ hx => O.skip rfl rfl (WL.nil ⟨rfl, hx⟩)) ?_
            refine PL.of (fun _ w8 _ hx => O.skip rfl rfl (WL.nil ⟨rfl, hx⟩)) ?_
            refine PL.of (fun _ w8 _ hx => O.skip rfl rfl (WL.nil ⟨rfl, hx⟩)) ?_
            refine PL.of (fun _ w8 _ hx => O.pick_true (v := (.bool true)) rfl rfl rfl rfl (WL.nil ⟨rfl, hx⟩)) ?_
            refine PL.nil ?_
            have hq : true = b2 := Option.some.inj (show some true = some b2 from hm3)
            subst hq
            exact ⟨rfl, rfl, rfl, rfl, rfl, rfl, rfl⟩
          · skip
            refine PL.reset (i := 17) (v := .bool false) (congrArg Value.bool hc1) ?_
            refine PL.of (fun _ w8 _ hx => O.move (v := (.int .i64 (ik1 : Int))) rfl rfl rfl (WL.nil ⟨rfl, hx⟩)) ?_
            refine PL.of (fun _ w8 _ hx => O.gtr rfl rfl rfl rfl (WL.nil ⟨rfl, hx⟩)) ?_
            refine PL.of (fun _ w8 _ hx => O.move (v := (.bool (decide (0 < (ik1 : Int))))) rfl rfl rfl (WL.nil ⟨rfl, hx⟩)) ?_
            obtain ⟨b3, hm4, hm3⟩ := bind_some hm3
            refine PL.cut 10 (fun f => f 0 = va0 ∧ f 3 = (.func (.func 57) #[] #[]) ∧ f 5 = (.pointer (some ⟨b1, 0, none⟩)) ∧ f 6 = va0 ∧ f 7 = (.int .i64 ((a0.length : Nat) : Int)) ∧ f 8 = (.int .i64 (ik1 : Int)) ∧ f 17 = (.bool false) ∧ f 18 = (.int .i64 (ik1 : Int)) ∧ f 19 = (.bool (decide (0 < (ik1 : Int)))) ∧ f 20 = (.bool (decide (0 < (ik1 : Int)))) ∧ f 30 = .bool b3) ?_ ?_
            · skip
              rcases ite_some hm4 with ⟨hc2, hm4⟩ | ⟨hc2, hm4⟩
              · skip
                refine PL.reset (i := 20) (v := .bool true) (congrArg Value.bool hc2) ?_
                refine PL.of (fun _ w8 _ hx => O.fieldAddr fd39_0 rfl rfl rfl (WL.nil ⟨rfl, hx⟩)) ?_
                refine PL.of (fun _ w8 _ hx => by have H := H.ext hx; exact O.load sc3 rfl rfl rfl (H.cell 0 rfl 0 _ rfl) (WL.nil ⟨rfl, hx⟩)) ?_
                refine PL.of (fun _ w8 _ hx => O.move (v := va0) rfl rfl rfl (WL.nil ⟨rfl, hx⟩)) ?_
                refine PL.of (fun _ w8 _ hx => O.move (v := (.int .i64 (ik1 : Int))) rfl rfl rfl (WL.nil ⟨rfl, hx⟩)) ?_
                obtain ⟨t2, ht2, hm4⟩ := bind_some hm4
                refine PL.of (fun _ w8 _ hx => O.sub rfl rfl rfl rfl ht2 (WL.nil ⟨rfl, hx⟩)) ?_
                obtain ⟨x2, hx2, hm4⟩ := bind_some hm4
                obtain ⟨p2, hp2, hrp2⟩ := fix_indexAddr Tryd.underlying33 sz39 (H.arg ha0) hx2
                refine PL.of (fun _ w8 _ hx => hrp2 rfl rfl rfl rfl (WL.nil ⟨rfl, hx⟩)) ?_
                refine PL.of (fun _ w8 _ hx => O.fieldAddr fd39_0 rfl rfl rfl (WL.nil ⟨rfl, hx⟩)) ?_
                refine PL.of (fun _ w8 _ hx => by have hp2 := hp2.mono hx; exact O.load sc3 rfl rfl rfl (hp2.flat 0 _ rfl) (WL.nil ⟨rfl, hx⟩)) ?_
                refine PL.of (fun _ w8 _ hx => O.leq rfl rfl rfl rfl (WL.nil ⟨rfl, hx⟩)) ?_
                refine PL.of (fun _ w8 _ hx => O.pick_true (v := (.bool (decide (x1.Number ≤ x2.Number)))) rfl rfl rfl rfl (WL.nil ⟨rfl, hx⟩)) ?_
                refine PL.nil ?_
                have hq : (decide (x1.Number ≤ x2.Number)) = b3 := Option.some.inj (show some (decide (x1.Number ≤ x2.Number)) = some b3 from hm4)
                subst hq
                exact ⟨rfl, rfl, rfl, rfl, rfl, rfl, rfl, rfl, rfl, (congrArg Value.bool hc2).symm, rfl⟩
              · skip
                refine PL.reset (i := 20) (v := .bool false) (congrArg Value.bool hc2) ?_
                refine PL.of (fun _ w8 _ hx => O.skip rfl rfl (WL.nil ⟨rfl, hx⟩)) ?_
                refine PL.of (fun _ w8 _ hx => O.skip rfl rfl (WL.nil ⟨rfl, hx⟩)) ?_
                refine PL.of (fun _ w8 _ hx => O.skip rfl rfl (WL.nil ⟨rfl, hx⟩)) ?_
                refine PL.of (fun _ w8 _ hx => O.skip rfl rfl (WL.nil ⟨rfl, hx⟩)) ?_
                refine PL.of (fun _ w8 _ hx => O.skip rfl rfl (WL.nil ⟨rfl, hx⟩)) ?_
                refine PL.of (fun _ w8 _ hx => O.skip rfl rfl (WL.nil ⟨rfl, hx⟩)) ?_
                refine PL.of (fun _ w8 _ hx => O.skip rfl rfl (WL.nil ⟨rfl, hx⟩)) ?_
                refine PL.of (fun _ w8 _ hx => O.skip rfl rfl (WL.nil ⟨rfl, hx⟩)) ?_
                refine PL.of (fun _ w8 _ hx => O.skip rfl rfl (WL.nil ⟨rfl, hx⟩)) ?_
                refine PL.of (fun _ w8 _ hx => O.pick_false (v := (.bool false)) rfl rfl rfl rfl (WL.nil ⟨rfl, hx⟩)) ?_
                refine PL.nil ?_
                have hq : false = b3 := Option.some.inj (show some false = some b3 from hm4)
                subst hq
                exact ⟨rfl, rfl, rfl, rfl, rfl, rfl, rfl, rfl, rfl, (congrArg Value.bool hc2).symm, rfl⟩
            · skip
              rintro f ⟨hf0, hf3, hf5, hf6, hf7, hf8, hf17, hf18, hf19, hf20, hf30⟩
              obtain ⟨u2, rfl⟩ : ∃ u2, f = (upd (upd (upd (upd (upd (upd (upd (upd (upd (upd (upd u2 0 va0) 3 (.func (.func 57) #[] #[])) 5 (.pointer (some ⟨b1, 0, none⟩))) 6 va0) 7 (.int .i64 ((a0.length : Nat) : Int))) 8 (.int .i64 (ik1 : Int))) 17 (.bool false)) 18 (.int .i64 (ik1 : Int))) 19 (.bool (decide (0 < (ik1 : Int))))) 20 (.bool (decide (0 < (ik1 : Int))))) 30 (.bool b3)) := ⟨f, by rw [upd_self hf0, upd_self hf3, upd_self hf5, upd_self hf6, upd_self hf7, upd_self hf8, upd_self hf17, upd_self hf18, upd_self hf19, upd_self hf20, upd_self hf30]⟩
              refine PL.of (fun _ w8 _ hx => O.pick_false (v := (.bool b3)) rfl rfl rfl rfl (WL.nil ⟨rfl, hx⟩)) ?_
              refine PL.nil ?_
              have hq : b3 = b2 := Option.some.inj (show some b3 = some b2 from hm3)
              subst hq
              exact ⟨rfl, rfl, rfl, rfl, rfl, rfl, rfl⟩
        · skip
          rintro f ⟨hf0, hf3, hf5, hf6, hf7, hf8, hf31⟩
          obtain ⟨u3, rfl⟩ : ∃ u3, f = (upd (upd (upd (upd (upd (upd (upd u3 0 va0) 3 (.func (.func 57) #[] #[])) 5 (.pointer (some ⟨b1, 0, none⟩))) 6 va0) 7 (.int .i64 ((a0.length : Nat) : Int))) 8 (.int .i64 (ik1 : Int))) 31 (.bool b2)) := ⟨f, by rw [upd_self hf0, upd_self hf3, upd_self hf5, upd_self hf6, upd_self hf7, upd_self hf8, upd_self hf31]⟩
          refine PL.of (fun _ w8 _ hx => O.move (v := (.bool b2)) rfl rfl rfl (WL.nil ⟨rfl, hx⟩)) ?_
          refine PL.cut 6 (fun f => f 0 = va0 ∧ f 3 = (.func (.func 57) #[] #[]) ∧ f 5 = (.pointer (some ⟨b1, 0, none⟩)) ∧ f 6 = va0 ∧ f 7 = (.int .i64 ((a0.length : Nat) : Int)) ∧ f 8 = (.int .i64 (ik1 : Int)) ∧ f 38 = .bool b4) ?_ ?_
          · skip
            rcases ite_some hm5 with ⟨hc3, hm5⟩ | ⟨hc3, hm5⟩
            · skip
              refine PL.reset (i := 32) (v := .bool true) (congrArg Value.bool hc3) ?_
              refine PL.of (fun _ w8 _ hx => O.skip rfl rfl (WL.nil ⟨rfl, hx⟩)) ?_
              refine PL.of (fun _ w8 _ hx => O.skip rfl rfl (WL.nil ⟨rfl, hx⟩)) ?_
              refine PL.of (fun _ w8 _ hx => O.skip rfl rfl (WL.nil ⟨rfl, hx⟩)) ?_
              refine PL.of (fun _ w8 _ hx => O.skip rfl rfl (WL.nil ⟨rfl, hx⟩)) ?_
              refine PL.of (fun _ w8 _ hx => O.skip rfl rfl (WL.nil ⟨rfl, hx⟩)) ?_
              refine PL.of (fun _ w8 _ hx => O.pick_true (v := (.bool true)) rfl rfl rfl rfl (WL.nil ⟨rfl, hx⟩)) ?_
              refine PL.nil ?_
              have hq : true = b4 := Option.some.inj (show some true = some b4 from hm5)
              subst hq
              exact ⟨rfl, rfl, rfl, rfl, rfl, rfl, rfl⟩
            · skip
              refine PL.reset (i := 32) (v := .bool false) (congrArg Value.bool hc3) ?_
              refine PL.of (fun _ w8 _ hx => O.fieldAddr fd39_1 rfl rfl rfl (WL.nil ⟨rfl, hx⟩)) ?_
              refine PL.of (fun _ w8 _ hx => by have H := H.ext hx; exact O.load sc9 rfl rfl rfl (H.cell 0 rfl 1 _ rfl) (WL.nil ⟨rfl, hx⟩)) ?_
              refine PL.of (fun _ w8 _ hx => O.lenStr Tryd.underlying9 rfl rfl rfl (WL.nil ⟨rfl, hx⟩)) ?_
              obtain ⟨t3, hy2, hm5⟩ := bind_some hm5
              refine PL.of (fun _ w8 _ hx => O.call Tryd.call58 rfl rfl rfl (c_flag_within _ _ _ hy2) (by rintro _ _ hb rfl; exact WL.nil ⟨rfl, hx.trans (hb.mono hx.size)⟩)) ?_
              refine PL.of (fun _ w8 _ hx => O.not rfl rfl rfl (WL.nil ⟨rfl, hx⟩)) ?_
              refine PL.of (fun _ w8 _ hx => O.pick_false (v := (.bool (!t3))) rfl rfl rfl rfl (WL.nil ⟨rfl, hx⟩)) ?_
              refine PL.nil ?_
              have hq : (!t3) = b4 := Option.some.inj (show some (!t3) = some b4 from hm5)
              subst hq
              exact ⟨rfl, rfl, rfl, rfl, rfl, rfl, rfl⟩
          · skip
            rintro f ⟨hf0, hf3, hf5, hf6, hf7, hf8, hf38⟩
            obtain ⟨u4, rfl⟩ : ∃ u4, f = (upd (upd (upd (upd (upd (upd (upd u4 0 va0) 3 (.func (.func 57) #[] #[])) 5 (.pointer (some ⟨b1, 0, none⟩))) 6 va0) 7 (.int .i64 ((a0.length : Nat) : Int))) 8 (.int .i64 (ik1 : Int))) 38 (.bool b4)) := ⟨f, by rw [upd_self hf0, upd_self hf3, upd_self hf5, upd_self hf6, upd_self hf7, upd_self hf8, upd_self hf38]⟩
            refine PL.of (fun _ w8 _ hx => O.move (v := (.bool b4)) rfl rfl rfl (WL.nil ⟨rfl, hx⟩)) ?_
            refine PL.cut 5 (fun f => f 0 = va0 ∧ f 3 = (.func (.func 57) #[] #[]) ∧ f 6 = va0 ∧ f 7 = (.int .i64 ((a0.length : Nat) : Int)) ∧ f 8 = (.int .i64 (ik1 : Int)) ∧ f 44 = .bool b5) ?_ ?_
            · skip
              rcases ite_some hm6 with ⟨hc4, hm6⟩ | ⟨hc4, hm6⟩
              · skip
                refine PL.reset (i := 39) (v := .bool true) (congrArg Value.bool hc4) ?_
                refine PL.of (fun _ w8 _ hx => O.skip rfl rfl (WL.nil ⟨rfl, hx⟩)) ?_
                refine PL.of (fun _ w8 _ hx => O.skip rfl rfl (WL.nil ⟨rfl, hx⟩)) ?_
                refine PL.of (fun _ w8 _ hx => O.skip rfl rfl (WL.nil ⟨rfl, hx⟩)) ?_
                refine PL.of (fun _ w8 _ hx => O.skip rfl rfl (WL.nil ⟨rfl, hx⟩)) ?_
                refine PL.of (fun _ w8 _ hx => O.pick_true (v := (.bool true)) rfl rfl rfl rfl (WL.nil ⟨rfl, hx⟩)) ?_
                refine PL.nil ?_
                have hq : true = b5 := Option.some.inj (show some true = some b5 from hm6)
                subst hq
                exact ⟨rfl, rfl, rfl, rfl, rfl, rfl⟩
              · skip
                refine PL.reset (i := 39) (v := .bool false) (congrArg Value.bool hc4) ?_
                refine PL.of (fun _ w8 _ hx => O.fieldAddr fd39_1 rfl rfl rfl (WL.nil ⟨rfl, hx⟩)) ?_
                refine PL.of (fun _ w8 _ hx => by have H := H.ext hx; exact O.load sc9 rfl rfl rfl (H.cell 0 rfl 1 _ rfl) (WL.nil ⟨rfl, hx⟩)) ?_
                refine PL.of (fun _ w8 _ hx => O.move (v := (.func (.func 57) #[] #[])) rfl rfl rfl (WL.nil ⟨rfl, hx⟩)) ?_
                obtain ⟨t4, hy3, hm6⟩ := bind_some hm6
                refine PL.of (fun _ w8 _ hx => O.call Tryd.call59 rfl rfl rfl (c_strings_ContainsFunc _ _ (fun x0 => flag_ValidBook_c1 x0) (fun w hw x0 _ hy => callsV_mk Tryd.call57 (c_flag_ValidBook_c1 x0 hy)) hy3) (by rintro _ _ hb rfl; exact WL.nil ⟨rfl, hx.trans (hb.mono hx.size)⟩)) ?_
                refine PL.of (fun _ w8 _ hx => O.pick_false (v := (.bool t4)) rfl rfl rfl rfl (WL.nil ⟨rfl, hx⟩)) ?_
                refine PL.nil ?_
                have hq : t4 = b5 := Option.some.inj (show some t4 = some b5 from hm6)
                subst hq
                exact ⟨rfl, rfl, rfl, rfl, rfl, rfl⟩
            · skip
              rintro f ⟨hf0, hf3, hf6, hf7, hf8, hf44⟩
              obtain ⟨u5, rfl⟩ : ∃ u5, f = (upd (upd (upd (upd (upd (upd u5 0 va0) 3 (.func (.func 57) #[] #[])) 6 va0) 7 (.int .i64 ((a0.length : Nat) : Int))) 8 (.int .i64 (ik1 : Int))) 44 (.bool b5)) := ⟨f, by rw [upd_self hf0, upd_self hf3, upd_self hf6, upd_self hf7, upd_self hf8, upd_self hf44]⟩
              refine PL.nil ?_
              exact ⟨rfl, rfl, rfl, rfl, rfl, rfl⟩
      · skip
        rintro f w ⟨hf0, hf3, hf6, hf7, hf8, hf44⟩ hmd hx
        have H := H.ext hx
        obtain ⟨u6, rfl⟩ : ∃ u6, f = (upd (upd (upd (upd (upd (upd u6 0 va0) 3 (.func (.func 57) #[] #[])) 6 va0) 7 (.int .i64 ((a0.length : Nat) : Int))) 8 (.int .i64 (ik1 : Int))) 44 (.bool b5)) := ⟨f, by rw [upd_self hf0, upd_self hf3, upd_self hf6, upd_self hf7, upd_self hf8, upd_self hf44]⟩
        refine WL.nil ?_
        rcases ite_some hm2 with ⟨hc5, hm2⟩ | ⟨hc5, hm2⟩
        · refine W.cond_true (congrArg Value.bool hc5) ?_
          refine W.seq ?_
          refine W.region ?_
          refine O.assign (v := (.bool false)) rfl rfl rfl ?_
          refine WL.nil ?_
          refine W.ret ?_
          obtain rfl := Option.some.inj hm2
          refine ⟨_, rfl, ?_⟩
          rintro rfl
          have hq : false = r0 := Option.some.inj (show some false = some r0 from hm)
          subst hq
          exact ends1 Tryd.results22 rfl ⟨_, rfl, H.base, rfl⟩
        · refine W.cond_false (congrArg Value.bool hc5) ?_
          refine W.skip ?_
          refine W.region ?_
          refine O.add rfl rfl rfl rfl hinck1 ?_
          refine O.move (v := .int .i64 ((ik1 : Int) + 1)) rfl rfl rfl ?_
          refine WL.nil ?_
          have H := H.keep [] [] rfl (by decide)
          obtain rfl := Option.some.inj hm2
          exact ⟨_, rfl, rfl, rangeN_next hdropk1, rfl, rfl, rfl, rfl, rfl, H⟩
    · skip
      rintro ik1 _ f w ⟨rfl, hdropk1, hf8, hf7, hf0, hf3, hf6, H⟩ hfin
      have hltk1 := rangeN_end hdropk1
      obtain ⟨u7, rfl⟩ : ∃ u7, f = (upd (upd (upd (upd (upd u7 8 (.int .i64 (ik1 : Int))) 7 (.int .i64 ((a0.length : Nat) : Int))) 0 va0) 3 (.func (.func 57) #[] #[])) 6 va0) := ⟨f, by rw [upd_self hf8, upd_self hf7, upd_self hf0, upd_self hf3, upd_self hf6]⟩
      refine W.seq ?_
      refine W.region ?_
      refine O.lss rfl rfl rfl rfl ?_
      refine WL.nil ?_
      refine W.seq ?_
      refine W.cond_false (congrArg Value.bool (decide_eq_false hltk1)) ?_
      refine W.exit ?_
      obtain rfl : Ctl.next () = o1 := hfin
      refine xT rfl ?_
      exact ⟨rfl, rfl, H⟩
  · skip
    rintro f w ⟨rfl, hf0, H⟩
    obtain ⟨u8, rfl⟩ : ∃ u8, f = (upd u8 0 va0) := ⟨f, by rw [upd_self hf0]⟩
    refine W.seq ?_
    refine W.region ?_
    refine O.move (v := va0) rfl rfl rfl ?_
    refine O.lenS Tryd.underlying33 (H.arg ha0) rfl rfl rfl ?_
    refine O.leq rfl rfl rfl rfl ?_
    refine O.assign (v := (.bool (decide (((a0.length : Nat) : Int) ≤ 200)))) rfl rfl rfl ?_
    refine WL.nil ?_
    refine W.ret ?_
    have hq : (decide (((a0.length : Nat) : Int) ≤ 200)) = r0 := Option.some.inj (show some (decide (((a0.length : Nat) : Int) ≤ 200)) = some r0 from hm)
    subst hq
    exact ends1 Tryd.results22 rfl ⟨_, rfl, H.base, rfl⟩

theorem c_strconv_Itoa {w0 : World} (hT : TabH Tryd.prog w0) (a0 : Int) {r0 : ByteArray} (hm : strconv_Itoa a0 = some r0) :
    Calls Tryd.prog 66 #[(.int .i64 a0)] w0 (Ret w0 fun _ v => v = (.string r0)) := by
  unfold strconv_Itoa at hm
  split at hm
  case isFalse => cases hm
  rename_i hn
  obtain ⟨m, rfl⟩ : ∃ m : Nat, a0 = (m : Int) := ⟨a0.toNat, by omega⟩
  obtain rfl := Option.some.inj hm
  exact c_Itoa Tryd.itoaT hT m hn.2
theorem sub48 : ∀ b : Nat, 48 ≤ b → b ≤ 57 → IntKind.i32.wrap ((b : Int) - 48) = (b : Int) - 48 ∧ cvI .i64 ((b : Int) - 48) = some ((b : Int) - 48) := by
  intro b h1 h2
  have : ∀ c : Nat, c < 10 → IntKind.i32.wrap (c : Int) = c ∧ cvI .i64 (c : Int) = some (c : Int) := by decide
  have h := this (b - 48) (by omega)
  rw [show ((b - 48 : Nat) : Int) = (b : Int) - 48 by omega] at h
  exact h
theorem c_flag_digitsOf {w0 : World} (hT : TabH Tryd.prog w0) (a0 : Int) {r0 : (List Int)} (hm : flag_digitsOf a0 = some r0) :
    Calls Tryd.prog 39 #[(.int .i64 a0)] w0 (Ret w0 fun w v => OwnR w0 w v 3 r0) := by
  unfold flag_digitsOf at hm
  split at hm
  case isFalse => cases hm
  rename_i hn
  obtain ⟨m, rfl⟩ : ∃ m : Nat, a0 = (m : Int) := ⟨a0.toNat, by omega⟩
  have hm' : digsOf m = r0 := Option.some.inj hm
  obtain ⟨s, hs⟩ : ∃ s : ByteArray, s = ⟨(Lib.decDigits m).toArray⟩ := ⟨_, rfl⟩
  have hsz : s.size = (Lib.decDigits m).length := by rw [hs]; rfl
  have hlen : (Lib.decDigits m).length ≤ 21 := by
    have := Lib.itoa_length_le (m : Int) (by omega) hn.2
    rw [Lib.itoa_nonneg] at this
    exact this
  refine calls_of_W Tryd.func39 rfl Tryd.ntmps39 (Nat.le_of_ble_eq_true rfl) ?_
  have H := Inv.start (w := w0)
  refine W.seq ?_
  refine W.region ?_
  have H := H.addNil (α := Int) (E := 3)
  refine O.assign (v := (.slice none 0 0)) rfl rfl rfl ?_
  refine WL.nil ?_
  refine W.seq ?_
  refine W.region ?_
  have H := H.addNil (α := Int) (E := 3)
  refine O.assign (v := (.slice none 0 0)) rfl rfl rfl ?_
  refine WL.nil ?_
  refine W.seq ?_
  refine W.via (fun f w => ∃ vz : Value, f 3 = vz ∧ Inv w0 w [ownI vz 3 (digsOf m)]) ?_ ?_
  · refine W.seq ?_
    refine W.region ?_
    refine O.move (v := (.int .i64 (m : Int))) rfl rfl rfl ?_
    refine O.call (φ := fun _ v => v = .string s) Tryd.call66 rfl rfl rfl (by rw [hs]; exact c_Itoa Tryd.itoaT hT m hn.2) ?_
    rintro _ w1 hb1 rfl
    have H := H.ext hb1
    refine O.rangeS Tryd.underlying9 H rfl rfl rfl ?_
    intro bi w2 H hb2
    refine WL.nil ?_
    have H := H.keep [1, 2] [ownI (α := Int) (.slice none 0 0) 3 ([] : List Int), strI bi s 0] rfl (by decide)
    refine W.block ?_
    refine W.loopL (l := Lib.decDigits m) (fun rem f w => ∃ (at_ : Nat) (vz : Value), (Lib.decDigits m).drop at_ = rem ∧ f 8 = .pointer (some ⟨bi, 0, none⟩) ∧ f 3 = vz ∧ Inv w0 w [ownI vz 3 ((digsOf m).take at_), strI bi s at_]) ?_ ?_ ?_
    · exact ⟨0, _, List.drop_zero, rfl, rfl, H⟩
    · rintro y ys f w ⟨at_, vz, hd, hf8, hf3, H⟩
      obtain ⟨u1, rfl⟩ : ∃ u1, f = (upd (upd u1 8 (.pointer (some ⟨bi, 0, none⟩))) 3 vz) := ⟨f, by rw [upd_self hf8, upd_self hf3]⟩
      have hlt : at_ < (Lib.decDigits m).length := (by have h9 := congrArg List.length hd; rw [List.length_drop, List.length_cons] at h9; omega)
      have hy : (Lib.decDigits m)[at_] = y := by
        have := List.drop_eq_getElem_cons hlt
        rw [hd] at this
        exact (List.cons.inj this).1.symm
      have hyb := dec_bytes m y (by rw [← hy]; exact List.getElem_mem hlt)
      have hlt2 : at_ < s.size := by rw [hsz]; exact hlt
      have hsy : s[at_]'hlt2 = y := by subst hs; exact hy
      obtain ⟨k1, k2⟩ := sub48 y.toNat hyb.1 hyb.2
      refine W.seq ?_
      refine W.region ?_
      refine O.nextS 1 H rfl hlt2 (by rw [hsy]; omega) rfl rfl rfl ?_
      intro w1 H
      rw [hsy]
      refine O.extract (v := .bool true) rfl rfl rfl rfl ?_
      refine WL.nil ?_
      refine W.seq ?_
      refine W.cond_true rfl ?_
      refine W.skip ?_
      refine W.block ?_
      refine W.seq ?_
      refine W.region ?_
      refine O.extract (v := (.int .i32 (y.toNat : Int))) rfl rfl rfl rfl ?_
      refine O.assign (v := (.int .i32 (y.toNat : Int))) rfl rfl rfl ?_
      refine WL.nil ?_
      refine W.region ?_
      refine O.move (v := vz) rfl rfl rfl ?_
      refine O.move (v := (.int .i32 (y.toNat : Int))) rfl rfl rfl ?_
      refine O.sub32 rfl rfl rfl rfl k1 ?_
      refine O.convI (by rw [Tryd.underlying21]; rfl) Tryd.underlying3 k2 rfl rfl rfl ?_
      refine O.buildSlice (α := Int) [(.int .i64 ((y.toNat : Int) - 48))] [(y.toNat : Int) - 48] Tryd.underlying22 el3 H rfl rfl rfl rfl rfl rfl rfl ?_
      intro v7 w6 H hb6
      have ht3 : appI ((digsOf m).take at_) [(y.toNat : Int) - 48] = some ((digsOf m).take (at_ + 1)) := by
        rw [appI_ok (by rw [List.length_take]; simp; omega), List.take_add_one]
        have : (digsOf m)[at_]? = some ((y.toNat : Int) - 48) := by
          unfold digsOf
          rw [List.getElem?_map, List.getElem?_eq_getElem hlt, hy]
          rfl
        rw [this]
        rfl
      refine O.append 0 Tryd.underlying22 el3 rfl H rfl (H.own 2 rfl) ht3 rfl rfl rfl rfl ?_
      intro v8 w7 H
      refine O.assign (v := v8) rfl rfl rfl ?_
      refine WL.nil ?_
      have H := H.keep [0, 1] [ownI v8 3 ((digsOf m).take (at_ + 1)), strI bi s (at_ + 1)] rfl (by decide)
      refine ⟨at_ + 1, _, ?_, rfl, rfl, H⟩
      have := List.drop_eq_getElem_cons hlt
      rw [hd] at this
      exact (List.cons.inj this).2.symm
    · rintro f w ⟨at_, vz, hd, hf8, hf3, H⟩
      obtain ⟨u1, rfl⟩ : ∃ u1, f = (upd (upd u1 8 (.pointer (some ⟨bi, 0, none⟩))) 3 vz) := ⟨f, by rw [upd_self hf8, upd_self hf3]⟩
      have hge : (Lib.decDigits m).length ≤ at_ := List.drop_eq_nil_iff.1 hd
      refine W.seq ?_
      refine W.region ?_
      refine O.endS 1 H rfl (by rw [hsz]; omega) rfl rfl rfl ?_
      refine O.extract (v := .bool false) rfl rfl rfl rfl ?_
      refine WL.nil ?_
      refine W.seq ?_
      refine W.cond_false rfl ?_
      refine W.exit ?_
      refine xT rfl ?_
      have ht : (digsOf m).take at_ = digsOf m := List.take_of_length_le (by unfold digsOf; rw [List.length_map]; exact hge)
      rw [ht] at H
      exact ⟨_, rfl, H.keep [0] _ rfl (by decide)⟩
  · rintro f w ⟨vz, hf3, H⟩
    obtain ⟨u1, rfl⟩ : ∃ u1, f = upd u1 3 vz := ⟨f, by rw [upd_self hf3]⟩
    refine W.seq ?_
    refine W.region ?_
    refine O.move (v := vz) rfl rfl rfl ?_
    refine O.assign (v := vz) rfl rfl rfl ?_
    refine WL.nil ?_
    refine W.ret ?_
    subst hm'
    exact ends1 Tryd.results39 rfl ⟨_, rfl, H.base, H.ownR 0 rfl⟩

set_option maxRecDepth 20000 in
theorem c_flag_distance {w0 : World} (hT : TabH Tryd.prog w0) (a0 : Int) (a1 : Int) {r0 : Int} (hm : flag_distance a0 a1 = some r0) :
    Calls Tryd.prog 47 #[(.int .i64 a0), (.int .i64 a1)] w0 (Ret w0 fun _ v => v = (.int .i64 r0)) := by
  unfold flag_distance at hm
  refine calls_of_W Tryd.func47 rfl Tryd.ntmps47 (Nat.le_of_ble_eq_true rfl) ?_
  have H := Inv.start (w := w0)
  refine W.seq ?_
  refine W.region ?_
  refine O.assign (v := (.int .i64 0)) rfl rfl rfl ?_
  refine WL.nil ?_
  refine W.seq ?_
  refine W.region ?_
  refine O.move (v := (.int .i64 a0)) rfl rfl rfl ?_
  obtain ⟨t1, hy1, hm⟩ := bind_some hm
  refine O.call Tryd.call39 rfl rfl rfl (c_flag_digitsOf (hT.mono H.base) _ hy1) ?_
  rintro v1 w1 hb1 ho1
  have H := H.addOwn hb1 ho1
  refine O.move (v := (.int .i64 a1)) rfl rfl rfl ?_
  obtain ⟨t2, hy2, hm⟩ := bind_some hm
  refine O.call Tryd.call39 rfl rfl rfl (c_flag_digitsOf (hT.mono H.base) _ hy2) ?_
  rintro v2 w2 hb2 ho2
  have H := H.addOwn hb2 ho2
  refine O.assign (v := v1) rfl rfl rfl ?_
  refine O.assign (v := v2) rfl rfl rfl ?_
  refine WL.nil ?_
  refine W.seq ?_
  refine W.seq ?_
  refine W.region ?_
  refine O.move (v := v1) rfl rfl rfl ?_
  refine O.lenS Tryd.underlying22 (H.own 0 rfl) rfl rfl rfl ?_
  refine O.move (v := v2) rfl rfl rfl ?_
  refine O.lenS Tryd.underlying22 (H.own 1 rfl) rfl rfl rfl ?_
  refine O.neq rfl rfl rfl rfl ?_
  refine WL.nil ?_
  rcases ite_some hm with ⟨hc1, hm⟩ | ⟨hc1, hm⟩
  · refine W.cond_true (congrArg Value.bool hc1) ?_
    refine W.seq ?_
    refine W.region ?_
    refine O.assign (v := (.int .i64 4)) rfl rfl rfl ?_
    refine WL.nil ?_
    refine W.ret ?_
    have hq : 4 = r0 := Option.some.inj (show some 4 = some r0 from hm)
    subst hq
    exact ends1 Tryd.results47 rfl ⟨_, rfl, H.base, rfl⟩
  · refine W.cond_false (congrArg Value.bool hc1) ?_
    refine W.skip ?_
    refine W.seq ?_
    refine W.region ?_
    refine O.assign (v := (.int .i64 0)) rfl rfl rfl ?_
    refine WL.nil ?_
    refine W.seq ?_
    refine W.seq ?_
    refine W.region ?_
    refine O.move (v := v1) rfl rfl rfl ?_
    refine O.lenS Tryd.underlying22 (H.own 0 rfl) rfl rfl rfl ?_
    refine O.move (v := (.int .i64 0)) rfl rfl rfl ?_
    refine WL.nil ?_
    obtain ⟨s1, hm1, hm⟩ := bind_some hm
    refine W.via (fun f w => f 7 = (.int .i64 s1) ∧ Inv w0 w []) ?_ ?_
    · skip
      refine W.block ?_
      have hbdik1 := (H.own 0 rfl).len_le
      refine W.rangeN (i := 0) hm1 (fun rem ik1 s f w => ∃ z2 : Int, z2 = s ∧ (ik1 : Int) + rem = max 0 ((t1.length : Nat) : Int) ∧ f 21 = .int .i64 (ik1 : Int) ∧ f 20 = (.int .i64 ((t1.length : Nat) : Int)) ∧ f 6 = v2 ∧ f 7 = (.int .i64 z2) ∧ f 19 = v1 ∧ Inv w0 w [ownI (α := Int) v1 3 t1, ownI (α := Int) v2 3 t2]) ?_ ?_ ?_
      · skip
        exact ⟨_, rfl, rangeN_start, rfl, rfl, rfl, rfl, rfl, H⟩
      · skip
        rintro k ik1 _ st f w ⟨z2, rfl, hdropk1, hf21, hf20, hf6, hf7, hf19, H⟩ hm2
        have hltk1 := rangeN_lt hdropk1
        obtain ⟨u1, rfl⟩ : ∃ u1, f = (upd (upd (upd (upd (upd u1 21 (.int .i64 (ik1 : Int))) 20 (.int .i64 ((t1.length : Nat) : Int))) 6 v2) 7 (.int .i64 z2)) 19 v1) := ⟨f, by rw [upd_self hf21, upd_self hf20, upd_self hf6, upd_self hf7, upd_self hf19]⟩
        have hinck1 := addI_lt hltk1 hbdik1
        refine W.seq ?_
        refine W.region ?_
        refine O.lss rfl rfl rfl rfl ?_
        refine WL.nil ?_
        refine W.seq ?_
        refine W.cond_true (congrArg Value.bool (decide_eq_true hltk1)) ?_
        refine W.skip ?_
        refine W.seq ?_
        obtain ⟨s2, hm3, hm2⟩ := bind_some hm2
        refine W.via (fun f w => f 6 = v2 ∧ f 7 = (.int .i64 s2) ∧ f 19 = v1 ∧ f 20 = (.int .i64 ((t1.length : Nat) : Int)) ∧ f 21 = (.int .i64 (ik1 : Int)) ∧ Inv w0 w [ownI (α := Int) v1 3 t1, ownI (α := Int) v2 3 t2]) ?_ ?_
        · skip
          refine W.block ?_
          refine W.seq ?_
          refine W.region ?_
          refine O.move (v := (.int .i64 (ik1 : Int))) rfl rfl rfl ?_
          obtain ⟨x1, hx1, hm3⟩ := bind_some hm3
          refine O.indexAddr Tryd.underlying22 sz3 (H.own 0 rfl) hx1 rfl rfl rfl rfl ?_
          intro p1 hp1
          refine O.load sc3 rfl rfl rfl (hp1.flat 0 _ rfl) ?_
          refine O.assign (v := (.int .i64 (ik1 : Int))) rfl rfl rfl ?_
          refine O.assign (v := (.int .i64 x1)) rfl rfl rfl ?_
          refine WL.nil ?_
          refine W.seq ?_
          refine W.region ?_
          refine O.move (v := (.int .i64 x1)) rfl rfl rfl ?_
          refine O.move (v := v2) rfl rfl rfl ?_
          refine O.move (v := (.int .i64 (ik1 : Int))) rfl rfl rfl ?_
          obtain ⟨x2, hx2, hm3⟩ := bind_some hm3
          refine O.indexAddr Tryd.underlying22 sz3 (H.own 1 rfl) hx2 rfl rfl rfl rfl ?_
          intro p2 hp2
          refine O.load sc3 rfl rfl rfl (hp2.flat 0 _ rfl) ?_
          refine O.neq rfl rfl rfl rfl ?_
          refine WL.nil ?_
          obtain ⟨s3, hm4, hm3⟩ := bind_some hm3
          refine W.via (fun f w => f 6 = v2 ∧ f 7 = (.int .i64 s3) ∧ f 19 = v1 ∧ f 20 = (.int .i64 ((t1.length : Nat) : Int)) ∧ f 21 = (.int .i64 (ik1 : Int)) ∧ Inv w0 w [ownI (α := Int) v1 3 t1, ownI (α := Int) v2 3 t2]) ?_ ?_
          · skip
            rcases ite_some hm4 with ⟨hc2, hm4⟩ | ⟨hc2, hm4⟩
            · refine W.cond_true (congrArg Value.bool hc2) ?_
              refine W.region ?_
              refine O.move (v := (.int .i64 z2)) rfl rfl rfl ?_
              obtain ⟨t3, ht3, hm4⟩ := bind_some hm4
              refine O.add rfl rfl rfl rfl ht3 ?_
              refine O.assign (v := (.int .i64 t3)) rfl rfl rfl ?_
              refine WL.nil ?_
              have hq : t3 = s3 := Option.some.inj (show some t3 = some s3 from hm4)
              subst hq
              exact ⟨rfl, rfl, rfl, rfl, rfl, H⟩
            · refine W.cond_false (congrArg Value.bool hc2) ?_
              refine W.skip ?_
              have hq : z2 = s3 := Option.some.inj (show some z2 = some s3 from hm4)
              subst hq
              exact ⟨rfl, rfl, rfl, rfl, rfl, H⟩
          · skip
            rintro f w ⟨hf6, hf7, hf19, hf20, hf21, H⟩
            obtain ⟨u2, rfl⟩ : ∃ u2, f = (upd (upd (upd (upd (upd u2 6 v2) 7 (.int .i64 s3)) 19 v1) 20 (.int .i64 ((t1.length : Nat) : Int))) 21 (.int .i64 (ik1 : Int))) := ⟨f, by rw [upd_self hf6, upd_self hf7, upd_self hf19, upd_self hf20, upd_self hf21]⟩
            have hq : s3 = s2 := Option.some.inj (show some s3 = some s2 from hm3)
            subst hq
            exact ⟨rfl, rfl, rfl, rfl, rfl, H⟩
        · skip
          rintro f w ⟨hf6, hf7, hf19, hf20, hf21, H⟩
          obtain ⟨u3, rfl⟩ : ∃ u3, f = (upd (upd (upd (upd (upd u3 6 v2) 7 (.int .i64 s2)) 19 v1) 20 (.int .i64 ((t1.length : Nat) : Int))) 21 (.int .i64 (ik1 : Int))) := ⟨f, by rw [upd_self hf6, upd_self hf7, upd_self hf19, upd_self hf20, upd_self hf21]⟩
          refine W.region ?_
          refine O.add rfl rfl rfl rfl hinck1 ?_
          refine O.move (v := .int .i64 ((ik1 : Int) + 1)) rfl rfl rfl ?_
          refine WL.nil ?_
          obtain rfl := Option.some.inj hm2
          exact ⟨_, rfl, _, rfl, rangeN_next hdropk1, rfl, rfl, rfl, rfl, rfl, H⟩
      · skip
        rintro ik1 _ f w ⟨z2, rfl, hdropk1, hf21, hf20, hf6, hf7, hf19, H⟩ hfin
        have hltk1 := rangeN_end hdropk1
        obtain ⟨u4, rfl⟩ : ∃ u4, f = (upd (upd (upd (upd (upd u4 21 (.int .i64 (ik1 : Int))) 20 (.int .i64 ((t1.length : Nat) : Int))) 6 v2) 7 (.int .i64 z2)) 19 v1) := ⟨f, by rw [upd_self hf21, upd_self hf20, upd_self hf6, upd_self hf7, upd_self hf19]⟩
        refine W.seq ?_
        refine W.region ?_
        refine O.lss rfl rfl rfl rfl ?_
        refine WL.nil ?_
        refine W.seq ?_
        refine W.cond_false (congrArg Value.bool (decide_eq_false hltk1)) ?_
        refine W.exit ?_
        have hq : z2 = s1 := hfin
        subst hq
        have H := H.keep [] [] rfl (by decide)
        refine xT rfl ?_
        exact ⟨rfl, H⟩
    · skip
      rintro f w ⟨hf7, H⟩
      obtain ⟨u5, rfl⟩ : ∃ u5, f = (upd u5 7 (.int .i64 s1)) := ⟨f, by rw [upd_self hf7]⟩
      refine W.seq ?_
      refine W.region ?_
      refine O.move (v := (.int .i64 s1)) rfl rfl rfl ?_
      refine O.assign (v := (.int .i64 s1)) rfl rfl rfl ?_
      refine WL.nil ?_
      refine W.ret ?_
      have hq : s1 = r0 := Option.some.inj (show some s1 = some r0 from hm)
      subst hq
      exact ends1 Tryd.results47 rfl ⟨_, rfl, H.base, rfl⟩

theorem c_flag_Close_c1 {w0 : World} (hT : TabH Tryd.prog w0) (a0 : Int) (a1 : Int) (pc0 : Addr) (c0 : Int) (hc0 : ∀ j c, (Flat.cells c0)[j]? = some c → w0.cell? (pc0.add j) = some c) {r0 : Bool} (hm : flag_Close_c1 a0 a1 c0 = some r0) :
    Calls Tryd.prog 70 #[(.int .i64 a0), (.int .i64 a1), (.pointer (some pc0))] w0 (Ret w0 fun _ v => v = (.bool r0)) := by
  unfold flag_Close_c1 at hm
  refine calls_of_W Tryd.func70 rfl Tryd.ntmps70 (Nat.le_of_ble_eq_true rfl) ?_
  have H := Inv.start (w := w0)
  refine W.seq ?_
  refine W.region ?_
  refine O.assign (v := (.bool false)) rfl rfl rfl ?_
  refine WL.nil ?_
  refine W.seq ?_
  obtain ⟨t1, hy1, hm⟩ := bind_some hm
  refine W.drawN 4 (fun f => f 8 = (.int .i64 t1) ∧ f 9 = (.int .i64 c0)) fol (by kernel_rfl) ?_ ?_
  · skip
    refine PL.of (fun _ w8 _ hx => O.move (v := (.int .i64 a0)) rfl rfl rfl (WL.nil ⟨rfl, hx⟩)) ?_
    refine PL.of (fun _ w8 _ hx => O.move (v := (.int .i64 a1)) rfl rfl rfl (WL.nil ⟨rfl, hx⟩)) ?_
    refine PL.of (fun _ w8 _ hx => by have H := H.ext hx; exact O.call Tryd.call47 rfl rfl rfl (c_flag_distance (hT.mono H.base) _ _ hy1) (by rintro _ _ hb rfl; exact WL.nil ⟨rfl, hx.trans (hb.mono hx.size)⟩)) ?_
    refine PL.of (fun _ w8 _ hx => by have H := H.ext hx; exact O.load sc3 rfl rfl rfl (cells_mono hc0 H.base 0 _ rfl) (WL.nil ⟨rfl, hx⟩)) ?_
    refine PL.nil ?_
    exact ⟨rfl, rfl⟩
  · skip
    rintro f w ⟨hf8, hf9⟩ hmd hx
    have H := H.ext hx
    obtain ⟨u1, rfl⟩ : ∃ u1, f = (upd (upd u1 8 (.int .i64 t1)) 9 (.int .i64 c0)) := ⟨f, by rw [upd_self hf8, upd_self hf9]⟩
    refine O.lss rfl rfl rfl rfl ?_
    refine O.assign (v := (.bool (decide (t1 < c0)))) rfl rfl rfl ?_
    refine WL.nil ?_
    refine W.ret ?_
    have hq : (decide (t1 < c0)) = r0 := Option.some.inj (show some (decide (t1 < c0)) = some r0 from hm)
    subst hq
    exact ends1 Tryd.results70 rfl ⟨_, rfl, H.base, rfl⟩

theorem O.arrIdx {P : Program} {n m : Nat} {ds : Md} {rest : List Oper} {ops : Array Oper} {K : Fr → World → Prop} {f : Fr} {w : World} {T T0 E : TypeId} {pos : String} {aft : Array Edge} {g : Option (Nat × Bool)} {d : Nat} {s ix : Operand} {l : List Int} {i x : Int}
    (hT : P.underlying T = some (.array m E)) (hE : SizeT P E 1) (hS : ScalarT P E) (hl : l.length = m) (hi : idx l i = some x) (hg : want ops g f = true) (hd : Nat.blt d n = true) (hs : ev f s = .agg (l.map (Value.int .i64)).toArray) (hx : ev f ix = .int .i64 i)
    (h : WL P n ds ops rest K (upd f d (.int .i64 x)) w) : WL P n ds ops (⟨some d, .index T s ix, T0, pos, aft, g⟩ :: rest) K f w := by
  obtain ⟨h0, h1, h2⟩ := idx_some hi
  refine WL.val hg hd ?_ h
  have h3 : ((l.map (Value.int .i64)).toArray)[i.toNat * 1]? = some (.int .i64 x) := by simp [h2]
  have h4 : i < (m : Int) := by omega
  simp only [execOp, hs, hx, Instr.index, asIntOf, Sem.run_bind, Sem.run_pure, Result.andThen_ok, run_underlying hT, h0, h4, and_self, if_true, run_sizeOf' hE, part, run_isAgg_scalar hS, Bool.false_eq_true, if_false, h3]

set_option maxRecDepth 20000 in
theorem c_flag_pairs {w0 : World} (va0 : Value) (a0 : (List GMeaning)) (ha0 : SliceR w0 va0 a0) (va1 : Value) (a1 : Int → Int → Option (Bool)) (ha1 : ∀ (w : World), Below w0.heap.size w0 w → ∀ (x0 : Int) (x1 : Int) (y0 : Bool), a1 x0 x1 = some y0 → CallsV Tryd.prog va1 #[(.int .i64 x0), (.int .i64 x1)] w (Ret w fun _ v => v = (.bool y0))) {r0 : (List GArr2)} (hm : flag_pairs a0 a1 = some r0) :
    Calls Tryd.prog 69 #[va0, va1] w0 (Ret w0 fun w v => OwnR w0 w v 84 r0) := by
  unfold flag_pairs at hm
  refine calls_of_W Tryd.func69 rfl Tryd.ntmps69 (Nat.le_of_ble_eq_true rfl) ?_
  have H := Inv.start (w := w0)
  refine W.seq ?_
  refine W.region ?_
  have H := H.addNil (α := GArr2) (E := 84)
  refine O.assign (v := (.slice none 0 0)) rfl rfl rfl ?_
  refine WL.nil ?_
  refine W.seq ?_
  refine W.region ?_
  have H := H.addNil (α := GArr2) (E := 84)
  refine O.assign (v := (.slice none 0 0)) rfl rfl rfl ?_
  refine WL.nil ?_
  refine W.seq ?_
  refine W.seq ?_
  refine W.region ?_
  refine O.move (v := va0) rfl rfl rfl ?_
  refine O.lenS Tryd.underlying33 (H.arg ha0) rfl rfl rfl ?_
  refine O.move (v := (.int .i64 0)) rfl rfl rfl ?_
  refine WL.nil ?_
  obtain ⟨s1, hm1, hm⟩ := bind_some hm
  refine W.via (fun f w => ∃ v4 : Value, f 5 = v4 ∧ Inv w0 w [ownI (α := GArr2) v4 84 s1]) ?_ ?_
  · skip
    refine W.block ?_
    have hbdik1 := (H.arg ha0).len_le
    have H := H.keep [1] [ownI (α := GArr2) (.slice none 0 0) 84 ([] : List GArr2)] rfl (by decide)
    refine W.rangeN (i := 0) hm1 (fun rem ik1 s f w => ∃ z2 : (List GArr2), ∃ v2 : Value, z2 = s ∧ (ik1 : Int) + rem = max 0 ((a0.length : Nat) : Int) ∧ f 12 = .int .i64 (ik1 : Int) ∧ f 11 = (.int .i64 ((a0.length : Nat) : Int)) ∧ f 0 = va0 ∧ f 1 = va1 ∧ f 5 = v2 ∧ f 10 = va0 ∧ Inv w0 w [ownI (α := GArr2) v2 84 z2]) ?_ ?_ ?_
    · skip
      exact ⟨_, (.slice none 0 0), rfl, rangeN_start, rfl, rfl, rfl, rfl, rfl, rfl, H⟩
    · skip
      rintro k ik1 _ st f w ⟨z2, v2, rfl, hdropk1, hf12, hf11, hf0, hf1, hf5, hf10, H⟩ hm2
      have hltk1 := rangeN_lt hdropk1
      obtain ⟨u1, rfl⟩ : ∃ u1, f = (upd (upd (upd (upd (upd (upd u1 12 (.int .i64 (ik1 : Int))) 11 (.int .i64 ((a0.length : Nat) : Int))) 0 va0) 1 va1) 5 v2) 10 va0) := ⟨f, by rw [upd_self hf12, upd_self hf11, upd_self hf0, upd_self hf1, upd_self hf5, upd_self hf10]⟩
      have hinck1 := addI_lt hltk1 hbdik1
      refine W.seq ?_
      refine W.region ?_
      refine O.lss rfl rfl rfl rfl ?_
      refine WL.nil ?_
      refine W.seq ?_
      refine W.cond_true (congrArg Value.bool (decide_eq_true hltk1)) ?_
      refine W.skip ?_
      refine W.seq ?_
      obtain ⟨s2, hm3, hm2⟩ := bind_some hm2
      refine W.via (fun f w => ∃ v5 : Value, f 0 = va0 ∧ f 1 = va1 ∧ f 5 = v5 ∧ f 10 = va0 ∧ f 11 = (.int .i64 ((a0.length : Nat) : Int)) ∧ f 12 = (.int .i64 (ik1 : Int)) ∧ Inv w0 w [ownI (α := GArr2) v5 84 s2]) ?_ ?_
      · skip
        refine W.block ?_
        refine W.seq ?_
        refine W.region ?_
        refine O.move (v := (.int .i64 (ik1 : Int))) rfl rfl rfl ?_
        obtain ⟨x1, hx1, hm3⟩ := bind_some hm3
        obtain ⟨p1, hp1, hrp1⟩ := fix_indexAddr Tryd.underlying33 sz39 ha0 hx1
        refine hrp1 rfl rfl rfl rfl ?_
        refine O.loadA [(.int .i64 x1.Number), (.string x1.Text)] ag39 rfl rfl rfl rfl ((hp1.mono H.base).flat) ?_
        refine O.alloc [(.int .i64 0), (.string ByteArray.empty)] ze39 H rfl rfl rfl ?_
        intro b1 w1 H hb1
        refine O.assign (v := (.int .i64 (ik1 : Int))) rfl rfl rfl ?_
        refine O.store 1 0 [(.int .i64 x1.Number), (.string x1.Text)] [(.int .i64 x1.Number), (.string x1.Text)] sz39 H rfl rfl rfl rfl rfl rfl ⟨⟨rfl, rfl⟩, rfl⟩ (one_cons rfl (one_cons rfl one_nil)) ?_
        intro w2 H
        refine WL.nil ?_
        refine W.seq ?_
        refine W.region ?_
        refine O.move (v := va0) rfl rfl rfl ?_
        refine O.move (v := (.int .i64 (ik1 : Int))) rfl rfl rfl ?_
        obtain ⟨t1, ht1, hm3⟩ := bind_some hm3
        refine O.add rfl rfl rfl rfl ht1 ?_
        obtain ⟨t2, ht2, hm3⟩ := bind_some hm3
        obtain ⟨v6, hs1, hrv6⟩ := fix_sliceL Tryd.underlying33 sz39 ha0 ht2
        refine hrv6 rfl rfl rfl rfl ?_
        refine O.lenS Tryd.underlying33 (H.arg hs1) rfl rfl rfl ?_
        refine O.move (v := (.int .i64 0)) rfl rfl rfl ?_
        refine WL.nil ?_
        obtain ⟨s3, hm4, hm3⟩ := bind_some hm3
        refine W.via (fun f w => ∃ v10 : Value, f 0 = va0 ∧ f 1 = va1 ∧ f 5 = v10 ∧ f 10 = va0 ∧ f 11 = (.int .i64 ((a0.length : Nat) : Int)) ∧ f 12 = (.int .i64 (ik1 : Int)) ∧ Inv w0 w [ownI (α := GArr2) v10 84 s3]) ?_ ?_
        · skip
          refine W.block ?_
          refine W.rangeL (i := 0) hm4 (fun rem ik2 s f w => ∃ z5 : (List GArr2), ∃ v8 : Value, z5 = s ∧ t2.drop ik2 = rem ∧ f 22 = .int .i64 (ik2 : Int) ∧ f 21 = (.int .i64 ((t2.length : Nat) : Int)) ∧ f 0 = va0 ∧ f 1 = va1 ∧ f 5 = v8 ∧ f 7 = (.pointer (some ⟨b1, 0, none⟩)) ∧ f 10 = va0 ∧ f 11 = (.int .i64 ((a0.length : Nat) : Int)) ∧ f 12 = (.int .i64 (ik1 : Int)) ∧ f 20 = v6 ∧ Inv w0 w [ownI (α := GArr2) v8 84 z5, boxI b1 39 [(.int .i64 x1.Number), (.string x1.Text)]]) ?_ ?_ ?_
          · skip
            exact ⟨_, v2, rfl, List.drop_zero, rfl, rfl, rfl, rfl, rfl, rfl, rfl, rfl, rfl, rfl, H⟩
          · skip
            rintro yk2 xs ik2 _ st f w ⟨z5, v8, rfl, hdropk2, hf22, hf21, hf0, hf1, hf5, hf7, hf10, hf11, hf12, hf20, H⟩ hm5
            have hltk2 := drop_lt hdropk2; have hixk2 := drop_idx hdropk2
            obtain ⟨u2, rfl⟩ : ∃ u2, f = (upd (upd (upd (upd (upd (upd (upd (upd (upd (upd u2 22 (.int .i64 (ik2 : Int))) 21 (.int .i64 ((t2.length : Nat) : Int))) 0 va0) 1 va1) 5 v8) 7 (.pointer (some ⟨b1, 0, none⟩))) 10 va0) 11 (.int .i64 ((a0.length : Nat) : Int))) 12 (.int .i64 (ik1 : Int))) 20 v6) := ⟨f, by rw [upd_self hf22, upd_self hf21, upd_self hf0, upd_self hf1, upd_self hf5, upd_self hf7, upd_self hf10, upd_self hf11, upd_self hf12, upd_self hf20]⟩
            have hinck2 := addI_lt hltk2 (H.arg hs1).len_le
            refine W.seq ?_
            refine W.region ?_
            refine O.lss rfl rfl rfl rfl ?_
            refine WL.nil ?_
            refine W.seq ?_
            refine W.cond_true (congrArg Value.bool (decide_eq_true hltk2)) ?_
            refine W.skip ?_
            refine W.seq ?_
            obtain ⟨s4, hm6, hm5⟩ := bind_some hm5
            refine W.via (fun f w => ∃ v11 : Value, f 0 = va0 ∧ f 1 = va1 ∧ f 5 = v11 ∧ f 7 = (.pointer (some ⟨b1, 0, none⟩)) ∧ f 10 = va0 ∧ f 11 = (.int .i64 ((a0.length : Nat) : Int)) ∧ f 12 = (.int .i64 (ik1 : Int)) ∧ f 20 = v6 ∧ f 21 = (.int .i64 ((t2.length : Nat) : Int)) ∧ f 22 = (.int .i64 (ik2 : Int)) ∧ Inv w0 w [ownI (α := GArr2) v11 84 s4, boxI b1 39 [(.int .i64 x1.Number), (.string x1.Text)]]) ?_ ?_
            · skip
              refine W.block ?_
              refine W.seq ?_
              refine W.region ?_
              obtain ⟨p2, hp2, hrp2⟩ := fix_indexAddr Tryd.underlying33 sz39 hs1 hixk2
              refine hrp2 rfl rfl rfl rfl ?_
              refine O.loadA [(.int .i64 yk2.Number), (.string yk2.Text)] ag39 rfl rfl rfl rfl ((hp2.mono H.base).flat) ?_
              refine O.alloc [(.int .i64 0), (.string ByteArray.empty)] ze39 H rfl rfl rfl ?_
              intro b2 w3 H hb2
              refine O.store 2 0 [(.int .i64 yk2.Number), (.string yk2.Text)] [(.int .i64 yk2.Number), (.string yk2.Text)] sz39 H rfl rfl rfl rfl rfl rfl ⟨⟨rfl, rfl⟩, rfl⟩ (one_cons rfl (one_cons rfl one_nil)) ?_
              intro w4 H
              refine WL.nil ?_
              refine W.seq ?_
              refine W.region ?_
              refine O.move (v := va1) rfl rfl rfl ?_
              refine O.fieldAddr fd39_0 rfl rfl rfl ?_
              refine O.load sc3 rfl rfl rfl (H.cell 1 rfl 0 _ rfl) ?_
              refine O.fieldAddr fd39_0 rfl rfl rfl ?_
              refine O.load sc3 rfl rfl rfl (H.cell 2 rfl 0 _ rfl) ?_
              obtain ⟨t3, hy1, hm6⟩ := bind_some hm6
              refine O.callV rfl rfl rfl rfl (ha1 _ H.base _ _ _ hy1) ?_
              rintro _ w5 hb3 rfl
              have H := H.ext hb3
              refine WL.nil ?_
              obtain ⟨s5, hm7, hm6⟩ := bind_some hm6
              refine W.via (fun f w => ∃ v12 : Value, f 0 = va0 ∧ f 1 = va1 ∧ f 5 = v12 ∧ f 7 = (.pointer (some ⟨b1, 0, none⟩)) ∧ f 10 = va0 ∧ f 11 = (.int .i64 ((a0.length : Nat) : Int)) ∧ f 12 = (.int .i64 (ik1 : Int)) ∧ f 20 = v6 ∧ f 21 = (.int .i64 ((t2.length : Nat) : Int)) ∧ f 22 = (.int .i64 (ik2 : Int)) ∧ Inv w0 w [ownI (α := GArr2) v12 84 s5, boxI b1 39 [(.int .i64 x1.Number), (.string x1.Text)]]) ?_ ?_
              · skip
                rcases ite_some hm7 with ⟨hc1, hm7⟩ | ⟨hc1, hm7⟩
                · refine W.cond_true (congrArg Value.bool hc1) ?_
                  refine W.region ?_
                  refine O.move (v := v8) rfl rfl rfl ?_
                  refine O.fieldAddr fd39_0 rfl rfl rfl ?_
                  refine O.load sc3 rfl rfl rfl (H.cell 1 rfl 0 _ rfl) ?_
                  refine O.fieldAddr fd39_0 rfl rfl rfl ?_
                  refine O.load sc3 rfl rfl rfl (H.cell 2 rfl 0 _ rfl) ?_
                  refine O.build (v := (.agg (Flat.cells (GArr2.mk x1.Number yk2.Number)).toArray)) (fun w => bd84_a _ _ w) rfl rfl rfl ?_
                  refine O.buildSlice (α := GArr2) [(.agg (Flat.cells (GArr2.mk x1.Number yk2.Number)).toArray)] [(GArr2.mk x1.Number yk2.Number)] Tryd.underlying46 el84 H rfl rfl rfl rfl rfl rfl rfl ?_
                  intro v13 w6 H hb4
                  obtain ⟨t4, ht4, hm7⟩ := bind_some hm7
                  refine O.append 0 Tryd.underlying46 el84 rfl H rfl (H.own 3 rfl) ht4 rfl rfl rfl rfl ?_
                  intro v14 w7 H
                  refine O.assign (v := v14) rfl rfl rfl ?_
                  refine WL.nil ?_
                  have H := H.keep [0, 1] [ownI (α := GArr2) v14 84 t4, boxI b1 39 [(.int .i64 x1.Number), (.string x1.Text)]] rfl (by decide)
                  have hq : t4 = s5 := Option.some.inj (show some t4 = some s5 from hm7)
                  subst hq
                  exact ⟨v14, rfl, rfl, rfl, rfl, rfl, rfl, rfl, rfl, rfl, rfl, H⟩
                · refine W.cond_false (congrArg Value.bool hc1) ?_
                  refine W.skip ?_
                  have H := H.keep [0, 1] [ownI (α := GArr2) v8 84 z5, boxI b1 39 [(.int .i64 x1.Number), (.string x1.Text)]] rfl (by decide)
                  have hq : z5 = s5 := Option.some.inj (show some z5 = some s5 from hm7)
                  subst hq
                  exact ⟨v8, rfl, rfl, rfl, rfl, rfl, rfl, rfl, rfl, rfl, rfl, H⟩
              · skip
                rintro f w ⟨v12, hf0, hf1, hf5, hf7, hf10, hf11, hf12, hf20, hf21, hf22, H⟩
                obtain ⟨u3, rfl⟩ : ∃ u3, f = (upd (upd (upd (upd (upd (upd (upd (upd (upd (upd u3 0 va0) 1 va1) 5 v12) 7 (.pointer (some ⟨b1, 0, none⟩))) 10 va0) 11 (.int .i64 ((a0.length : Nat) : Int))) 12 (.int .i64 (ik1 : Int))) 20 v6) 21 (.int .i64 ((t2.length : Nat) : Int))) 22 (.int .i64 (ik2 : Int))) := ⟨f, by rw [upd_self hf0, upd_self hf1, upd_self hf5, upd_self hf7, upd_self hf10, upd_self hf11, upd_self hf12, upd_self hf20, upd_self hf21, upd_self hf22]⟩
                have hq : s5 = s4 := Option.some.inj (show some s5 = some s4 from hm6)
                subst hq
                exact ⟨v12, rfl, rfl, rfl, rfl, rfl, rfl, rfl, rfl, rfl, rfl, H⟩
            · skip
              rintro f w ⟨v11, hf0, hf1, hf5, hf7, hf10, hf11, hf12, hf20, hf21, hf22, H⟩
              obtain ⟨u4, rfl⟩ : ∃ u4, f = (upd (upd (upd (upd (upd (upd (upd (upd (upd (upd u4 0 va0) 1 va1) 5 v11) 7 (.pointer (some ⟨b1, 0, none⟩))) 10 va0) 11 (.int .i64 ((a0.length : Nat) : Int))) 12 (.int .i64 (ik1 : Int))) 20 v6) 21 (.int .i64 ((t2.length : Nat) : Int))) 22 (.int .i64 (ik2 : Int))) := ⟨f, by rw [upd_self hf0, upd_self hf1, upd_self hf5, upd_self hf7, upd_self hf10, upd_self hf11, upd_self hf12, upd_self hf20, upd_self hf21, upd_self hf22]⟩
              refine W.region ?_
              refine O.add rfl rfl rfl rfl hinck2 ?_
              refine O.move (v := .int .i64 ((ik2 : Int) + 1)) rfl rfl rfl ?_
              refine WL.nil ?_
              obtain rfl := Option.some.inj hm5
              exact ⟨_, rfl, _, v11, rfl, drop_next hdropk2, rfl, rfl, rfl, rfl, rfl, rfl, rfl, rfl, rfl, rfl, H⟩
          · skip
            rintro ik2 _ f w ⟨z5, v8, rfl, hdropk2, hf22, hf21, hf0, hf1, hf5, hf7, hf10, hf11, hf12, hf20, H⟩ hfin
            have hltk2 := drop_end hdropk2
            obtain ⟨u5, rfl⟩ : ∃ u5, f = (upd (upd (upd (upd (upd (upd (upd (upd (upd (upd u5 22 (.int .i64 (ik2 : Int))) 21 (.int .i64 ((t2.length : Nat) : Int))) 0 va0) 1 va1) 5 v8) 7 (.pointer (some ⟨b1, 0, none⟩))) 10 va0) 11 (.int .i64 ((a0.length : Nat) : Int))) 12 (.int .i64 (ik1 : Int))) 20 v6) := ⟨f, by rw [upd_self hf22, upd_self hf21, upd_self hf0, upd_self hf1, upd_self hf5, upd_self hf7, upd_self hf10, upd_self hf11, upd_self hf12, upd_self hf20]⟩
            refine W.seq ?_
            refine W.region ?_
            refine O.lss rfl rfl rfl rfl ?_
            refine WL.nil ?_
            refine W.seq ?_
            refine W.cond_false (congrArg Value.bool (decide_eq_false hltk2)) ?_
            refine W.exit ?_
            have hq : z5 = s3 := hfin
            subst hq
            have H := H.keep [0] [ownI (α := GArr2) v8 84 z5] rfl (by decide)
            refine xT rfl ?_
            exact ⟨v8, rfl, rfl, rfl, rfl, rfl, rfl, H⟩
        · skip
          rintro f w ⟨v10, hf0, hf1, hf5, hf10, hf11, hf12, H⟩
          obtain ⟨u6, rfl⟩ : ∃ u6, f = (upd (upd (upd (upd (upd (upd u6 0 va0) 1 va1) 5 v10) 10 va0) 11 (.int .i64 ((a0.length : Nat) : Int))) 12 (.int .i64 (ik1 : Int))) := ⟨f, by rw [upd_self hf0, upd_self hf1, upd_self hf5, upd_self hf10, upd_self hf11, upd_self hf12]⟩
          have hq : s3 = s2 := Option.some.inj (show some s3 = some s2 from hm3)
          subst hq
          exact ⟨v10, rfl, rfl, rfl, rfl, rfl, rfl, H⟩
      · skip
        rintro f w ⟨v5, hf0, hf1, hf5, hf10, hf11, hf12, H⟩
        obtain ⟨u7, rfl⟩ : ∃ u7, f = (upd (upd (upd (upd (upd (upd u7 0 va0) 1 va1) 5 v5) 10 va0) 11 (.int .i64 ((a0.length : Nat) : Int))) 12 (.int .i64 (ik1 : Int))) := ⟨f, by rw [upd_self hf0, upd_self hf1, upd_self hf5, upd_self hf10, upd_self hf11, upd_self hf12]⟩
        refine W.region ?_
        refine O.add rfl rfl rfl rfl hinck1 ?_
        refine O.move (v := .int .i64 ((ik1 : Int) + 1)) rfl rfl rfl ?_
        refine WL.nil ?_
        obtain rfl := Option.some.inj hm2
        exact ⟨_, rfl, _, v5, rfl, rangeN_next hdropk1, rfl, rfl, rfl, rfl, rfl, rfl, H⟩
    · skip
      rintro ik1 _ f w ⟨z2, v2, rfl, hdropk1, hf12, hf11, hf0, hf1, hf5, hf10, H⟩ hfin
      have hltk1 := rangeN_end hdropk1
      obtain ⟨u8, rfl⟩ : ∃ u8, f = (upd (upd (upd (upd (upd (upd u8 12 (.int .i64 (ik1 : Int))) 11 (.int .i64 ((a0.length : Nat) : Int))) 0 va0) 1 va1) 5 v2) 10 va0) := ⟨f, by rw [upd_self hf12, upd_self hf11, upd_self hf0, upd_self hf1, upd_self hf5, upd_self hf10]⟩
      refine W.seq ?_
      refine W.region ?_
      refine O.lss rfl rfl rfl rfl ?_
      refine WL.nil ?_
      refine W.seq ?_
      refine W.cond_false (congrArg Value.bool (decide_eq_false hltk1)) ?_
      refine W.exit ?_
      have hq : z2 = s1 := hfin
      subst hq
      refine xT rfl ?_
      exact ⟨v2, rfl, H⟩
  · skip
    rintro f w ⟨v4, hf5, H⟩
    obtain ⟨u9, rfl⟩ : ∃ u9, f = (upd u9 5 v4) := ⟨f, by rw [upd_self hf5]⟩
    refine W.seq ?_
    refine W.region ?_
    refine O.move (v := v4) rfl rfl rfl ?_
    refine O.assign (v := v4) rfl rfl rfl ?_
    refine WL.nil ?_
    refine W.ret ?_
    have hq : s1 = r0 := Option.some.inj (show some s1 = some r0 from hm)
    subst hq
    exact ends1 Tryd.results69 rfl ⟨_, rfl, H.base, H.ownR 0 rfl⟩

theorem c_flag_Close {w0 : World} (hT : TabH Tryd.prog w0) (va0 : Value) (a0 : (List GMeaning)) (ha0 : SliceR w0 va0 a0) (a1 : Int) {r0 : (List GArr2)} {r1 : Int} (hm : flag_Close a0 a1 = some (r0, r1)) :
    Calls Tryd.prog 30 #[va0, (.int .i64 a1)] w0 (Ret w0 fun w v => ∃ vr0 : Value, v = .tuple #[vr0, (.int .i64 r1)] ∧ OwnR w0 w vr0 84 r0) := by
  unfold flag_Close at hm
  refine calls_of_W Tryd.func30 rfl Tryd.ntmps30 (Nat.le_of_ble_eq_true rfl) ?_
  have H := Inv.start (w := w0)
  refine W.seq ?_
  refine W.region ?_
  refine O.box [(.int .i64 a1)] H rfl rfl rfl rfl ?_
  intro b1 w1 H hb1
  have H := H.addNil (α := GArr2) (E := 84)
  refine O.assign (v := (.slice none 0 0)) rfl rfl rfl ?_
  refine O.assign (v := (.int .i64 0)) rfl rfl rfl ?_
  refine WL.nil ?_
  refine W.seq ?_
  refine W.block ?_
  refine W.seq ?_
  refine W.region ?_
  refine O.move (v := va0) rfl rfl rfl ?_
  obtain ⟨t1, hy1, hm⟩ := bind_some hm
  refine O.call Tryd.call22 rfl rfl rfl (c_flag_ValidBook _ _ (H.arg ha0) hy1) ?_
  rintro _ w2 hb2 rfl
  have H := H.ext hb2
  refine O.not rfl rfl rfl ?_
  refine O.assign (v := (.bool (!t1))) rfl rfl rfl ?_
  refine WL.nil ?_
  rcases ite_some hm with ⟨hc1, hm⟩ | ⟨hc1, hm⟩
  · refine W.cond_true (congrArg Value.bool hc1) ?_
    refine W.seq ?_
    refine W.region ?_
    have H := H.addNil (α := GArr2) (E := 84)
    refine O.assign (v := (.slice none 0 0)) rfl rfl rfl ?_
    refine O.assign (v := (.int .i64 1)) rfl rfl rfl ?_
    refine WL.nil ?_
    refine W.ret ?_
    have hq : (([] : List GArr2), 1) = (r0, r1) := Option.some.inj (show some (([] : List GArr2), 1) = some (r0, r1) from hm)
    obtain ⟨he0, hq0⟩ := Prod.mk.inj hq; clear hq; subst he0
    subst hq0
    exact ends2 Tryd.results30 rfl rfl ⟨_, rfl, H.base, ⟨_, rfl, H.ownR 2 rfl⟩⟩
  · refine W.cond_false (congrArg Value.bool hc1) ?_
    refine W.seq ?_
    refine W.region ?_
    refine O.load sc3 rfl rfl rfl (H.cell 0 rfl 0 _ rfl) ?_
    obtain ⟨t2, hy2, hm⟩ := bind_some hm
    refine O.call Tryd.call58 rfl rfl rfl (c_flag_within _ _ _ hy2) ?_
    rintro _ w3 hb3 rfl
    have H := H.ext hb3
    refine O.not rfl rfl rfl ?_
    refine O.assign (v := (.bool (!t2))) rfl rfl rfl ?_
    refine WL.nil ?_
    rcases ite_some hm with ⟨hc2, hm⟩ | ⟨hc2, hm⟩
    · refine W.cond_true (congrArg Value.bool hc2) ?_
      refine W.seq ?_
      refine W.region ?_
      have H := H.addNil (α := GArr2) (E := 84)
      refine O.assign (v := (.slice none 0 0)) rfl rfl rfl ?_
      refine O.assign (v := (.int .i64 7)) rfl rfl rfl ?_
      refine WL.nil ?_
      refine W.ret ?_
      have hq : (([] : List GArr2), 7) = (r0, r1) := Option.some.inj (show some (([] : List GArr2), 7) = some (r0, r1) from hm)
      obtain ⟨he0, hq0⟩ := Prod.mk.inj hq; clear hq; subst he0
      subst hq0
      exact ends2 Tryd.results30 rfl rfl ⟨_, rfl, H.base, ⟨_, rfl, H.ownR 2 rfl⟩⟩
    · refine W.cond_false (congrArg Value.bool hc2) ?_
      refine W.skip ?_
      refine W.seq ?_
      refine W.region ?_
      refine O.move (v := va0) rfl rfl rfl ?_
      refine O.makeFunc rfl rfl rfl rfl ?_
      obtain ⟨t3, hy3, hm⟩ := bind_some hm
      refine O.call Tryd.call69 rfl rfl rfl (c_flag_pairs _ _ (H.arg ha0) _ (fun x0 x1 => flag_Close_c1 x0 x1 a1) (fun w hw x0 x1 _ hy => callsV_mk Tryd.call70 (c_flag_Close_c1 ((hT.mono H.base).mono hw) x0 x1 _ a1 (cells_mono (H.cell 0 rfl) hw) hy)) hy3) ?_
      rintro v1 w4 hb4 ho1
      have H := H.addOwn hb4 ho1
      refine O.assign (v := v1) rfl rfl rfl ?_
      refine O.assign (v := (.int .i64 0)) rfl rfl rfl ?_
      refine WL.nil ?_
      refine W.ret ?_
      have hq : (t3, 0) = (r0, r1) := Option.some.inj (show some (t3, 0) = some (r0, r1) from hm)
      obtain ⟨he0, hq0⟩ := Prod.mk.inj hq; clear hq; subst he0
      subst hq0
      exact ends2 Tryd.results30 rfl rfl ⟨_, rfl, H.base, ⟨_, rfl, H.ownR 2 rfl⟩⟩

set_option maxRecDepth 20000 in
theorem c_noongunref07_meaning {w0 : World} (a0 : GMeaning) {r0 : Bool} (hm : noongunref07_meaning a0 = some r0) :
    Calls Tryd.prog 60 #[(.agg (Flat.cells a0).toArray)] w0 (Ret w0 fun _ v => v = (.bool r0)) := by
  unfold noongunref07_meaning at hm
  refine calls_of_W Tryd.func60 rfl Tryd.ntmps60 (Nat.le_of_ble_eq_true rfl) ?_
  have H := Inv.start (w := w0)
  refine W.seq ?_
  refine W.region ?_
  refine O.box [(.int .i64 a0.Number), (.string a0.Text)] H rfl rfl rfl rfl ?_
  intro b1 w1 H hb1
  refine O.assign (v := (.bool false)) rfl rfl rfl ?_
  refine WL.nil ?_
  refine W.seq ?_
  refine W.seq ?_
  refine W.region ?_
  refine O.fieldAddr fd39_1 rfl rfl rfl ?_
  refine O.load sc9 rfl rfl rfl (H.cell 0 rfl 1 _ rfl) ?_
  refine O.lenStr Tryd.underlying9 rfl rfl rfl ?_
  refine O.move (v := (.int .i64 0)) rfl rfl rfl ?_
  refine WL.nil ?_
  obtain ⟨o1, hm1, hm⟩ := bind_some hm
  refine W.via (fun f w => o1 = .next () ∧ f 1 = (.pointer (some ⟨b1, 0, none⟩)) ∧ Inv w0 w [boxI b1 39 [(.int .i64 a0.Number), (.string a0.Text)]]) ?_ ?_
  · skip
    refine W.block ?_
    obtain ⟨hbdik1, hm1⟩ := chk_some hm1
    refine W.rangeN (i := 0) hm1 (fun rem ik1 s f w => () = s ∧ (ik1 : Int) + rem = max 0 ((a0.Text.size : Nat) : Int) ∧ f 7 = .int .i64 (ik1 : Int) ∧ f 6 = (.int .i64 ((a0.Text.size : Nat) : Int)) ∧ f 1 = (.pointer (some ⟨b1, 0, none⟩)) ∧ Inv w0 w [boxI b1 39 [(.int .i64 a0.Number), (.string a0.Text)]]) ?_ ?_ ?_
    · skip
      exact ⟨rfl, rangeN_start, rfl, rfl, rfl, H⟩
    · skip
      rintro k ik1 _ st f w ⟨rfl, hdropk1, hf7, hf6, hf1, H⟩ hm2
      have hltk1 := rangeN_lt hdropk1
      obtain ⟨u1, rfl⟩ : ∃ u1, f = (upd (upd (upd u1 7 (.int .i64 (ik1 : Int))) 6 (.int .i64 ((a0.Text.size : Nat) : Int))) 1 (.pointer (some ⟨b1, 0, none⟩))) := ⟨f, by rw [upd_self hf7, upd_self hf6, upd_self hf1]⟩
      have hinck1 := addI_lt hltk1 (inI_iff.1 hbdik1).2
      refine W.seq ?_
      refine W.region ?_
      refine O.lss rfl rfl rfl rfl ?_
      refine WL.nil ?_
      refine W.seq ?_
      refine W.cond_true (congrArg Value.bool (decide_eq_true hltk1)) ?_
      refine W.skip ?_
      refine W.seq ?_
      refine W.block ?_
      refine W.seq ?_
      refine W.region ?_
      refine O.move (v := (.int .i64 (ik1 : Int))) rfl rfl rfl ?_
      refine O.assign (v := (.int .i64 (ik1 : Int))) rfl rfl rfl ?_
      refine WL.nil ?_
      refine W.seq ?_
      refine W.region ?_
      refine O.fieldAddr fd39_1 rfl rfl rfl ?_
      refine O.load sc9 rfl rfl rfl (H.cell 0 rfl 1 _ rfl) ?_
      refine O.move (v := (.int .i64 (ik1 : Int))) rfl rfl rfl ?_
      obtain ⟨x1, hx1, hm2⟩ := bind_some hm2
      refine O.indexStr Tryd.underlying9 hx1 rfl rfl rfl rfl ?_
      refine O.lss rfl rfl rfl rfl ?_
      refine O.move (v := (.bool (decide ((x1.toNat : Int) < 32)))) rfl rfl rfl ?_
      obtain ⟨b2, hm3, hm2⟩ := bind_some hm2
      refine WL.cut 6 (fun f w => f 1 = (.pointer (some ⟨b1, 0, none⟩)) ∧ f 6 = (.int .i64 ((a0.Text.size : Nat) : Int)) ∧ f 7 = (.int .i64 (ik1 : Int)) ∧ f 21 = .bool b2 ∧ Inv w0 w [boxI b1 39 [(.int .i64 a0.Number), (.string a0.Text)]]) ?_ ?_
      · skip
        rcases ite_some hm3 with ⟨hc1, hm3⟩ | ⟨hc1, hm3⟩
        · skip
          refine WL.reset (i := 15) (v := .bool true) (congrArg Value.bool hc1) ?_
          refine O.skip rfl rfl ?_
          refine O.skip rfl rfl ?_
          refine O.skip rfl rfl ?_
          refine O.skip rfl rfl ?_
          refine O.skip rfl rfl ?_
          refine O.pick_true (v := (.bool true)) rfl rfl rfl rfl ?_
          refine WL.nil ?_
          have hq : true = b2 := Option.some.inj (show some true = some b2 from hm3)
          subst hq
          exact ⟨rfl, rfl, rfl, rfl, H⟩
        · skip
          refine WL.reset (i := 15) (v := .bool false) (congrArg Value.bool hc1) ?_
          refine O.fieldAddr fd39_1 rfl rfl rfl ?_
          refine O.load sc9 rfl rfl rfl (H.cell 0 rfl 1 _ rfl) ?_
          refine O.move (v := (.int .i64 (ik1 : Int))) rfl rfl rfl ?_
          obtain ⟨x2, hx2, hm3⟩ := bind_some hm3
          refine O.indexStr Tryd.underlying9 hx2 rfl rfl rfl rfl ?_
          refine O.gtr rfl rfl rfl rfl ?_
          refine O.pick_false (v := (.bool (decide (126 < (x2.toNat : Int))))) rfl rfl rfl rfl ?_
          refine WL.nil ?_
          have hq : (decide (126 < (x2.toNat : Int))) = b2 := Option.some.inj (show some (decide (126 < (x2.toNat : Int))) = some b2 from hm3)
          subst hq
          exact ⟨rfl, rfl, rfl, rfl, H⟩
      · skip
        rintro f w ⟨hf1, hf6, hf7, hf21, H⟩
        obtain ⟨u2, rfl⟩ : ∃ u2, f = (upd (upd (upd (upd u2 1 (.pointer (some ⟨b1, 0, none⟩))) 6 (.int .i64 ((a0.Text.size : Nat) : Int))) 7 (.int .i64 (ik1 : Int))) 21 (.bool b2)) := ⟨f, by rw [upd_self hf1, upd_self hf6, upd_self hf7, upd_self hf21]⟩
        refine WL.nil ?_
        rcases ite_some hm2 with ⟨hc2, hm2⟩ | ⟨hc2, hm2⟩
        · refine W.cond_true (congrArg Value.bool hc2) ?_
          refine W.seq ?_
          refine W.region ?_
          refine O.assign (v := (.bool false)) rfl rfl rfl ?_
          refine WL.nil ?_
          refine W.ret ?_
          obtain rfl := Option.some.inj hm2
          refine ⟨_, rfl, ?_⟩
          rintro rfl
          have hq : false = r0 := Option.some.inj (show some false = some r0 from hm)
          subst hq
          exact ends1 Tryd.results60 rfl ⟨_, rfl, H.base, rfl⟩
        · refine W.cond_false (congrArg Value.bool hc2) ?_
          refine W.skip ?_
          refine W.region ?_
          refine O.add rfl rfl rfl rfl hinck1 ?_
          refine O.move (v := .int .i64 ((ik1 : Int) + 1)) rfl rfl rfl ?_
          refine WL.nil ?_
          obtain rfl := Option.some.inj hm2
          exact ⟨_, rfl, rfl, rangeN_next hdropk1, rfl, rfl, rfl, H⟩
    · skip
      rintro ik1 _ f w ⟨rfl, hdropk1, hf7, hf6, hf1, H⟩ hfin
      have hltk1 := rangeN_end hdropk1
      obtain ⟨u3, rfl⟩ : ∃ u3, f = (upd (upd (upd u3 7 (.int .i64 (ik1 : Int))) 6 (.int .i64 ((a0.Text.size : Nat) : Int))) 1 (.pointer (some ⟨b1, 0, none⟩))) := ⟨f, by rw [upd_self hf7, upd_self hf6, upd_self hf1]⟩
      refine W.seq ?_
      refine W.region ?_
      refine O.lss rfl rfl rfl rfl ?_
      refine WL.nil ?_
      refine W.seq ?_
      refine W.cond_false (congrArg Value.bool (decide_eq_false hltk1)) ?_
      refine W.exit ?_
      obtain rfl : Ctl.next () = o1 := hfin
      refine xT rfl ?_
      exact ⟨rfl, rfl, H⟩
  · skip
    rintro f w ⟨rfl, hf1, H⟩
    obtain ⟨u4, rfl⟩ : ∃ u4, f = (upd u4 1 (.pointer (some ⟨b1, 0, none⟩))) := ⟨f, by rw [upd_self hf1]⟩
    refine W.seq ?_
    refine W.region ?_
    refine O.fieldAddr fd39_0 rfl rfl rfl ?_
    refine O.load sc3 rfl rfl rfl (H.cell 0 rfl 0 _ rfl) ?_
    refine O.geq rfl rfl rfl rfl ?_
    refine O.move (v := (.bool (decide (0 ≤ a0.Number)))) rfl rfl rfl ?_
    refine WL.cut 4 (fun f w => f 1 = (.pointer (some ⟨b1, 0, none⟩)) ∧ f 30 = .bool ((decide (0 ≤ a0.Number)) && (decide (a0.Number ≤ 9999))) ∧ Inv w0 w [boxI b1 39 [(.int .i64 a0.Number), (.string a0.Text)]]) ?_ ?_
    · skip
      rcases bool_ft (decide (0 ≤ a0.Number)) with hc3 | hc3
      · skip
        refine WL.reset (i := 26) (v := .bool false) (congrArg Value.bool hc3) ?_
        refine O.skip rfl rfl ?_
        refine O.skip rfl rfl ?_
        refine O.skip rfl rfl ?_
        refine O.pick_false (v := (.bool false)) rfl rfl rfl rfl ?_
        refine WL.nil ?_
        exact ⟨rfl, congrArg Value.bool (and_f hc3), H⟩
      · skip
        refine WL.reset (i := 26) (v := .bool true) (congrArg Value.bool hc3) ?_
        refine O.fieldAddr fd39_0 rfl rfl rfl ?_
        refine O.load sc3 rfl rfl rfl (H.cell 0 rfl 0 _ rfl) ?_
        refine O.leq rfl rfl rfl rfl ?_
        refine O.pick_true (v := (.bool (decide (a0.Number ≤ 9999)))) rfl rfl rfl rfl ?_
        refine WL.nil ?_
        exact ⟨rfl, congrArg Value.bool (and_t hc3), H⟩
    · skip
      rintro f w ⟨hf1, hf30, H⟩
      obtain ⟨u5, rfl⟩ : ∃ u5, f = (upd (upd u5 1 (.pointer (some ⟨b1, 0, none⟩))) 30 (.bool ((decide (0 ≤ a0.Number)) && (decide (a0.Number ≤ 9999))))) := ⟨f, by rw [upd_self hf1, upd_self hf30]⟩
      refine O.move (v := (.bool ((decide (0 ≤ a0.Number)) && (decide (a0.Number ≤ 9999))))) rfl rfl rfl ?_
      refine WL.cut 5 (fun f w => f 1 = (.pointer (some ⟨b1, 0, none⟩)) ∧ f 36 = .bool (((decide (0 ≤ a0.Number)) && (decide (a0.Number ≤ 9999))) && (decide (1 ≤ ((a0.Text.size : Nat) : Int)))) ∧ Inv w0 w [boxI b1 39 [(.int .i64 a0.Number), (.string a0.Text)]]) ?_ ?_
      · skip
        rcases bool_ft ((decide (0 ≤ a0.Number)) && (decide (a0.Number ≤ 9999))) with hc4 | hc4
        · skip
          refine WL.reset (i := 31) (v := .bool false) (congrArg Value.bool hc4) ?_
          refine O.skip rfl rfl ?_
          refine O.skip rfl rfl ?_
          refine O.skip rfl rfl ?_
          refine O.skip rfl rfl ?_
          refine O.pick_false (v := (.bool false)) rfl rfl rfl rfl ?_
          refine WL.nil ?_
          exact ⟨rfl, congrArg Value.bool (and_f hc4), H⟩
        · skip
          refine WL.reset (i := 31) (v := .bool true) (congrArg Value.bool hc4) ?_
          refine O.fieldAddr fd39_1 rfl rfl rfl ?_
          refine O.load sc9 rfl rfl rfl (H.cell 0 rfl 1 _ rfl) ?_
          refine O.lenStr Tryd.underlying9 rfl rfl rfl ?_
          refine O.geq rfl rfl rfl rfl ?_
          refine O.pick_true (v := (.bool (decide (1 ≤ ((a0.Text.size : Nat) : Int))))) rfl rfl rfl rfl ?_
          refine WL.nil ?_
          exact ⟨rfl, congrArg Value.bool (and_t hc4), H⟩
      · skip
        rintro f w ⟨hf1, hf36, H⟩
        obtain ⟨u6, rfl⟩ : ∃ u6, f = (upd (upd u6 1 (.pointer (some ⟨b1, 0, none⟩))) 36 (.bool (((decide (0 ≤ a0.Number)) && (decide (a0.Number ≤ 9999))) && (decide (1 ≤ ((a0.Text.size : Nat) : Int)))))) := ⟨f, by rw [upd_self hf1, upd_self hf36]⟩
        refine O.move (v := (.bool (((decide (0 ≤ a0.Number)) && (decide (a0.Number ≤ 9999))) && (decide (1 ≤ ((a0.Text.size : Nat) : Int)))))) rfl rfl rfl ?_
        refine WL.cut 5 (fun f w => f 42 = .bool ((((decide (0 ≤ a0.Number)) && (decide (a0.Number ≤ 9999))) && (decide (1 ≤ ((a0.Text.size : Nat) : Int)))) && (decide (((a0.Text.size : Nat) : Int) ≤ 60))) ∧ Inv w0 w [boxI b1 39 [(.int .i64 a0.Number), (.string a0.Text)]]) ?_ ?_
        · skip
          rcases bool_ft (((decide (0 ≤ a0.Number)) && (decide (a0.Number ≤ 9999))) && (decide (1 ≤ ((a0.Text.size : Nat) : Int)))) with hc5 | hc5
          · skip
            refine WL.reset (i := 37) (v := .bool false) (congrArg Value.bool hc5) ?_
            refine O.skip rfl rfl ?_
            refine O.skip rfl rfl ?_
            refine O.skip rfl rfl ?_
            refine O.skip rfl rfl ?_
            refine O.pick_false (v := (.bool false)) rfl rfl rfl rfl ?_
            refine WL.nil ?_
            exact ⟨congrArg Value.bool (and_f hc5), H⟩
          · skip
            refine WL.reset (i := 37) (v := .bool true) (congrArg Value.bool hc5) ?_
            refine O.fieldAddr fd39_1 rfl rfl rfl ?_
            refine O.load sc9 rfl rfl rfl (H.cell 0 rfl 1 _ rfl) ?_
            refine O.lenStr Tryd.underlying9 rfl rfl rfl ?_
            refine O.leq rfl rfl rfl rfl ?_
            refine O.pick_true (v := (.bool (decide (((a0.Text.size : Nat) : Int) ≤ 60)))) rfl rfl rfl rfl ?_
            refine WL.nil ?_
            exact ⟨congrArg Value.bool (and_t hc5), H⟩
        · skip
          rintro f w ⟨hf42, H⟩
          obtain ⟨u7, rfl⟩ : ∃ u7, f = (upd u7 42 (.bool ((((decide (0 ≤ a0.Number)) && (decide (a0.Number ≤ 9999))) && (decide (1 ≤ ((a0.Text.size : Nat) : Int)))) && (decide (((a0.Text.size : Nat) : Int) ≤ 60))))) := ⟨f, by rw [upd_self hf42]⟩
          refine O.assign (v := (.bool ((((decide (0 ≤ a0.Number)) && (decide (a0.Number ≤ 9999))) && (decide (1 ≤ ((a0.Text.size : Nat) : Int)))) && (decide (((a0.Text.size : Nat) : Int) ≤ 60))))) rfl rfl rfl ?_
          refine WL.nil ?_
          refine W.ret ?_
          have hq : ((((decide (0 ≤ a0.Number)) && (decide (a0.Number ≤ 9999))) && (decide (1 ≤ ((a0.Text.size : Nat) : Int)))) && (decide (((a0.Text.size : Nat) : Int) ≤ 60))) = r0 := Option.some.inj (show some ((((decide (0 ≤ a0.Number)) && (decide (a0.Number ≤ 9999))) && (decide (1 ≤ ((a0.Text.size : Nat) : Int)))) && (decide (((a0.Text.size : Nat) : Int) ≤ 60))) = some r0 from hm)
          subst hq
          exact ends1 Tryd.results60 rfl ⟨_, rfl, H.base, rfl⟩

set_option maxRecDepth 20000 in
theorem c_noongunref07_ValidBook {w0 : World} (va0 : Value) (a0 : (List GMeaning)) (ha0 : SliceR w0 va0 a0) {r0 : Bool} (hm : noongunref07_ValidBook a0 = some r0) :
    Calls Tryd.prog 23 #[va0] w0 (Ret w0 fun _ v => v = (.bool r0)) := by
  unfold noongunref07_ValidBook at hm
  refine calls_of_W Tryd.func23 rfl Tryd.ntmps23 (Nat.le_of_ble_eq_true rfl) ?_
  have H := Inv.start (w := w0)
  refine W.seq ?_
  refine W.region ?_
  refine O.assign (v := (.bool false)) rfl rfl rfl ?_
  refine WL.nil ?_
  refine W.seq ?_
  refine W.seq ?_
  refine W.region ?_
  refine O.move (v := va0) rfl rfl rfl ?_
  refine O.lenS Tryd.underlying33 (H.arg ha0) rfl rfl rfl ?_
  refine O.move (v := (.int .i64 0)) rfl rfl rfl ?_
  refine WL.nil ?_
  obtain ⟨o1, hm1, hm⟩ := bind_some hm
  refine W.via (fun f w => o1 = .next () ∧ f 0 = va0 ∧ Inv w0 w []) ?_ ?_
  · skip
    refine W.block ?_
    have hbdik1 := (H.arg ha0).len_le
    refine W.rangeN (i := 0) hm1 (fun rem ik1 s f w => () = s ∧ (ik1 : Int) + rem = max 0 ((a0.length : Nat) : Int) ∧ f 7 = .int .i64 (ik1 : Int) ∧ f 6 = (.int .i64 ((a0.length : Nat) : Int)) ∧ f 0 = va0 ∧ f 5 = va0 ∧ Inv w0 w []) ?_ ?_ ?_
    · skip
      exact ⟨rfl, rangeN_start, rfl, rfl, rfl, rfl, H⟩
    · skip
      rintro k ik1 _ st f w ⟨rfl, hdropk1, hf7, hf6, hf0, hf5, H⟩ hm2
      have hltk1 := rangeN_lt hdropk1
      obtain ⟨u1, rfl⟩ : ∃ u1, f = (upd (upd (upd (upd u1 7 (.int .i64 (ik1 : Int))) 6 (.int .i64 ((a0.length : Nat) : Int))) 0 va0) 5 va0) := ⟨f, by rw [upd_self hf7, upd_self hf6, upd_self hf0, upd_self hf5]⟩
      have hinck1 := addI_lt hltk1 hbdik1
      refine W.seq ?_
      refine W.region ?_
      refine O.lss rfl rfl rfl rfl ?_
      refine WL.nil ?_
      refine W.seq ?_
      refine W.cond_true (congrArg Value.bool (decide_eq_true hltk1)) ?_
      refine W.skip ?_
      refine W.seq ?_
      refine W.block ?_
      refine W.seq ?_
      refine W.region ?_
      refine O.move (v := (.int .i64 (ik1 : Int))) rfl rfl rfl ?_
      obtain ⟨x1, hx1, hm2⟩ := bind_some hm2
      obtain ⟨p1, hp1, hrp1⟩ := fix_indexAddr Tryd.underlying33 sz39 ha0 hx1
      refine hrp1 rfl rfl rfl rfl ?_
      refine O.loadA [(.int .i64 x1.Number), (.string x1.Text)] ag39 rfl rfl rfl rfl ((hp1.mono H.base).flat) ?_
      refine O.alloc [(.int .i64 0), (.string ByteArray.empty)] ze39 H rfl rfl rfl ?_
      intro b1 w1 H hb1
      refine O.assign (v := (.int .i64 (ik1 : Int))) rfl rfl rfl ?_
      refine O.store 0 0 [(.int .i64 x1.Number), (.string x1.Text)] [(.int .i64 x1.Number), (.string x1.Text)] sz39 H rfl rfl rfl rfl rfl rfl ⟨⟨rfl, rfl⟩, rfl⟩ (one_cons rfl (one_cons rfl one_nil)) ?_
      intro w2 H
      refine WL.nil ?_
      refine W.seq ?_
      obtain ⟨t1, hy1, hm2⟩ := bind_some hm2
      obtain ⟨b2, hm3, hm2⟩ := bind_some hm2
      refine W.drawN 18 (fun f => f 0 = va0 ∧ f 5 = va0 ∧ f 6 = (.int .i64 ((a0.length : Nat) : Int)) ∧ f 7 = (.int .i64 (ik1 : Int)) ∧ f 29 = (.bool b2)) fol (by kernel_rfl) ?_ ?_
      · skip
        refine PL.of (fun _ w8 _ hx => by have H := H.ext hx; exact O.loadA [(.int .i64 x1.Number), (.string x1.Text)] ag39 rfl rfl rfl rfl (H.cell 0 rfl) (WL.nil ⟨rfl, hx⟩)) ?_
        refine PL.of (fun _ w8 _ hx => O.call Tryd.call60 rfl rfl rfl (c_noongunref07_meaning x1 hy1) (by rintro _ _ hb rfl; exact WL.nil ⟨rfl, hx.trans (hb.mono hx.size)⟩)) ?_
        refine PL.of (fun _ w8 _ hx => O.not rfl rfl rfl (WL.nil ⟨rfl, hx⟩)) ?_
        refine PL.of (fun _ w8 _ hx => O.move (v := (.bool (!t1))) rfl rfl rfl (WL.nil ⟨rfl, hx⟩)) ?_
        refine PL.cut 14 (fun f => f 0 = va0 ∧ f 5 = va0 ∧ f 6 = (.int .i64 ((a0.length : Nat) : Int)) ∧ f 7 = (.int .i64 (ik1 : Int)) ∧ f 29 = .bool b2) ?_ ?_
        · skip
          rcases ite_some hm3 with ⟨hc1, hm3⟩ | ⟨hc1, hm3⟩
          · skip
            refine PL.reset (i := 15) (v := .bool true) (congrArg Value.bool hc1) ?_
            refine PL.of (fun _ w8 _ hx => O.skip rfl rfl (WL.nil ⟨rfl, hx⟩)) ?_
            refine PL.of (fun _ w8 _ hx => O.skip rfl rfl (WL.nil ⟨rfl, hx⟩)) ?_
            refine PL.of (fun _ w8 _ hx => O.skip rfl rfl (WL.nil ⟨rfl, hx⟩)) ?_
            refine PL.of (fun _ w8 _ hx => O.skip rfl rfl (WL.nil ⟨rfl, hx⟩)) ?_
            refine PL.of (fun _ w8 _ hx => O.skip rfl rfl (WL.nil ⟨rfl, hx⟩)) ?_
            refine PL.of (fun _ w8 _ hx => O.skip rfl rfl (WL.nil ⟨rfl, hx⟩)) ?_
            refine PL.of (fun _ w8 _ hx => O.skip rfl rfl (WL.nil ⟨rfl, hx⟩)) ?_
            refine PL.of (fun _ w8 _ hx => O.skip rfl rfl (WL.nil ⟨rfl, hx⟩)) ?_
            refine PL.of (fun _ w8 _ hx => O.skip rfl rfl (WL.nil ⟨rfl, hx⟩)) ?_
            refine PL.of (fun _ w8 _ hx => O.skip rfl rfl (WL.nil ⟨rfl, hx⟩)) ?_
            refine PL.of (fun _ w8 _ hx => O.skip rfl rfl (WL.nil ⟨rfl, hx⟩)) ?_
            refine PL.of (fun _ w8 _ hx => O.skip rfl rfl (WL.nil ⟨rfl, hx⟩)) ?_
            refine PL.of (fun _ w8 _ hx => O.skip rfl rfl (WL.nil ⟨rfl, hx⟩)) ?_
            refine PL.of (fun _ w8 _ hx => O.pick_true (v := (.bool true)) rfl rfl rfl rfl (WL.nil ⟨rfl, hx⟩)) ?_
            refine PL.nil ?_
            have hq : true = b2 := Option.some.inj (show some true = some b2 from hm3)
            subst hq
            exact ⟨rfl, rfl, rfl, rfl, rfl⟩
          · skip
            refine PL.reset (i := 15) (v := .bool false) (congrArg Value.bool hc1) ?_
            refine PL.of (fun _ w8 _ hx => O.move (v := (.int .i64 (ik1 : Int))) rfl rfl rfl (WL.nil ⟨rfl, hx⟩)) ?_
            refine PL.of (fun _ w8 _ hx => O.gtr rfl rfl rfl rfl (WL.nil ⟨rfl, hx⟩)) ?_
            refine PL.of (fun _ w8 _ hx => O.move (v := (.bool (decide (0 < (ik1 : Int))))) rfl rfl rfl (WL.nil ⟨rfl, hx⟩)) ?_
            obtain ⟨b3, hm4, hm3⟩ := bind_some hm3
            refine PL.cut 10 (fun f => f 0 = va0 ∧ f 5 = va0 ∧ f 6 = (.int .i64 ((a0.length : Nat) : Int)) ∧ f 7 = (.int .i64 (ik1 : Int)) ∧ f 15 = (.bool false) ∧ f 16 = (.int .i64 (ik1 : Int)) ∧ f 17 = (.bool (decide (0 < (ik1 : Int)))) ∧ f 18 = (.bool (decide (0 < (ik1 : Int)))) ∧ f 28 = .bool b3) ?_ ?_
            · skip
              rcases ite_some hm4 with ⟨hc2, hm4⟩ | ⟨hc2, hm4⟩
              · skip
                refine PL.reset (i := 18) (v := .bool true) (congrArg Value.bool hc2) ?_
                refine PL.of (fun _ w8 _ hx => O.fieldAddr fd39_0 rfl rfl rfl (WL.nil ⟨rfl, hx⟩)) ?_
                refine PL.of (fun _ w8 _ hx => by have H := H.ext hx; exact O.load sc3 rfl rfl rfl (H.cell 0 rfl 0 _ rfl) (WL.nil ⟨rfl, hx⟩)) ?_
                refine PL.of (fun _ w8 _ hx => O.move (v := va0) rfl rfl rfl (WL.nil ⟨rfl, hx⟩)) ?_
                refine PL.of (fun _ w8 _ hx => O.move (v := (.int .i64 (ik1 : Int))) rfl rfl rfl (WL.nil ⟨rfl, hx⟩)) ?_
                obtain ⟨t2, ht2, hm4⟩ := bind_some hm4
                refine PL.of (fun _ w8 _ hx => O.sub rfl rfl rfl rfl ht2 (WL.nil ⟨rfl, hx⟩)) ?_
                obtain ⟨x2, hx2, hm4⟩ := bind_some hm4
                obtain ⟨p2, hp2, hrp2⟩ := fix_indexAddr Tryd.underlying33 sz39 (H.arg ha0) hx2
                refine PL.of (fun _ w8 _ hx => hrp2 rfl rfl rfl rfl (WL.nil ⟨rfl, hx⟩)) ?_
                refine PL.of (fun _ w8 _ hx => O.fieldAddr fd39_0 rfl rfl rfl (WL.nil ⟨rfl, hx⟩)) ?_
                refine PL.of (fun _ w8 _ hx => by have hp2 := hp2.mono hx; exact O.load sc3 rfl rfl rfl (hp2.flat 0 _ rfl) (WL.nil ⟨rfl, hx⟩)) ?_
                refine PL.of (fun _ w8 _ hx => O.leq rfl rfl rfl rfl (WL.nil ⟨rfl, hx⟩)) ?_
                refine PL.of (fun _ w8 _ hx => O.pick_true (v := (.bool (decide (x1.Number ≤ x2.Number)))) rfl rfl rfl rfl (WL.nil ⟨rfl, hx⟩)) ?_
                refine PL.nil ?_
                have hq : (decide (x1.Number ≤ x2.Number)) = b3 := Option.some.inj (show some (decide (x1.Number ≤ x2.Number)) = some b3 from hm4)
                subst hq
                exact ⟨rfl, rfl, rfl, rfl, rfl, rfl, rfl, (congrArg Value.bool hc2).symm, rfl⟩
              · skip
                refine PL.reset (i := 18) (v := .bool false) (congrArg Value.bool hc2) ?_
                refine PL.of (fun _ w8 _ hx => O.skip rfl rfl (WL.nil ⟨rfl, hx⟩)) ?_
                refine PL.of (fun _ w8 _ hx => O.skip rfl rfl (WL.nil ⟨rfl, hx⟩)) ?_
                refine PL.of (fun _ w8 _ hx => O.skip rfl rfl (WL.nil ⟨rfl, hx⟩)) ?_
                refine PL.of (fun _ w8 _ hx => O.skip rfl rfl (WL.nil ⟨rfl, hx⟩)) ?_
                refine PL.of (fun _ w8 _ hx => O.skip rfl rfl (WL.nil ⟨rfl, hx⟩)) ?_
                refine PL.of (fun _ w8 _ hx => O.skip rfl rfl (WL.nil ⟨rfl, hx⟩)) ?_
                refine PL.of (fun _ w8 _ hx => O.skip rfl rfl (WL.nil ⟨rfl, hx⟩)) ?_
                refine PL.of (fun _ w8 _ hx => O.skip rfl rfl (WL.nil ⟨rfl, hx⟩)) ?_
                refine PL.of (fun _ w8 _ hx => O.skip rfl rfl (WL.nil ⟨rfl, hx⟩)) ?_
                refine PL.of (fun _ w8 _ hx => O.pick_false (v := (.bool false)) rfl rfl rfl rfl (WL.nil ⟨rfl, hx⟩)) ?_
                refine PL.nil ?_
                have hq : false = b3 := Option.some.inj (show some false = some b3 from hm4)
                subst hq
                exact ⟨rfl, rfl, rfl, rfl, rfl, rfl, rfl, (congrArg Value.bool hc2).symm, rfl⟩
            · skip
              rintro f ⟨hf0, hf5, hf6, hf7, hf15, hf16, hf17, hf18, hf28⟩
              obtain ⟨u2, rfl⟩ : ∃ u2, f = (upd (upd (upd (upd (upd (upd (upd (upd (upd u2 0 va0) 5 va0) 6 (.int .i64 ((a0.length : Nat) : Int))) 7 (.int .i64 (ik1 : Int))) 15 (.bool false)) 16 (.int .i64 (ik1 : Int))) 17 (.bool (decide (0 < (ik1 : Int))))) 18 (.bool (decide (0 < (ik1 : Int))))) 28 (.bool b3)) := ⟨f, by rw [upd_self hf0, upd_self hf5, upd_self hf6, upd_self hf7, upd_self hf15, upd_self hf16, upd_self hf17, upd_self hf18, upd_self hf28]⟩
              refine PL.of (fun _ w8 _ hx => O.pick_false (v := (.bool b3)) rfl rfl rfl rfl (WL.nil ⟨rfl, hx⟩)) ?_
              refine PL.nil ?_
              have hq : b3 = b2 := Option.some.inj (show some b3 = some b2 from hm3)
              subst hq
              exact ⟨rfl, rfl, rfl, rfl, rfl⟩
        · skip
          rintro f ⟨hf0, hf5, hf6, hf7, hf29⟩
          obtain ⟨u3, rfl⟩ : ∃ u3, f = (upd (upd (upd (upd (upd u3 0 va0) 5 va0) 6 (.int .i64 ((a0.length : Nat) : Int))) 7 (.int .i64 (ik1 : Int))) 29 (.bool b2)) := ⟨f, by rw [upd_self hf0, upd_self hf5, upd_self hf6, upd_self hf7, upd_self hf29]⟩
          refine PL.nil ?_
          exact ⟨rfl, rfl, rfl, rfl, rfl⟩
      · skip
        rintro f w ⟨hf0, hf5, hf6, hf7, hf29⟩ hmd hx
        have H := H.ext hx
        obtain ⟨u4, rfl⟩ : ∃ u4, f = (upd (upd (upd (upd (upd u4 0 va0) 5 va0) 6 (.int .i64 ((a0.length : Nat) : Int))) 7 (.int .i64 (ik1 : Int))) 29 (.bool b2)) := ⟨f, by rw [upd_self hf0, upd_self hf5, upd_self hf6, upd_self hf7, upd_self hf29]⟩
        refine WL.nil ?_
        rcases ite_some hm2 with ⟨hc3, hm2⟩ | ⟨hc3, hm2⟩
        · refine W.cond_true (congrArg Value.bool hc3) ?_
          refine W.seq ?_
          refine W.region ?_
          refine O.assign (v := (.bool false)) rfl rfl rfl ?_
          refine WL.nil ?_
          refine W.ret ?_
          obtain rfl := Option.some.inj hm2
          refine ⟨_, rfl, ?_⟩
          rintro rfl
          have hq : false = r0 := Option.some.inj (show some false = some r0 from hm)
          subst hq
          exact ends1 Tryd.results23 rfl ⟨_, rfl, H.base, rfl⟩
        · refine W.cond_false (congrArg Value.bool hc3) ?_
          refine W.skip ?_
          refine W.region ?_
          refine O.add rfl rfl rfl rfl hinck1 ?_
          refine O.move (v := .int .i64 ((ik1 : Int) + 1)) rfl rfl rfl ?_
          refine WL.nil ?_
          have H := H.keep [] [] rfl (by decide)
          obtain rfl := Option.some.inj hm2
          exact ⟨_, rfl, rfl, rangeN_next hdropk1, rfl, rfl, rfl, rfl, H⟩
    · skip
      rintro ik1 _ f w ⟨rfl, hdropk1, hf7, hf6, hf0, hf5, H⟩ hfin
      have hltk1 := rangeN_end hdropk1
      obtain ⟨u5, rfl⟩ : ∃ u5, f = (upd (upd (upd (upd u5 7 (.int .i64 (ik1 : Int))) 6 (.int .i64 ((a0.length : Nat) : Int))) 0 va0) 5 va0) := ⟨f, by rw [upd_self hf7, upd_self hf6, upd_self hf0, upd_self hf5]⟩
      refine W.seq ?_
      refine W.region ?_
      refine O.lss rfl rfl rfl rfl ?_
      refine WL.nil ?_
      refine W.seq ?_
      refine W.cond_false (congrArg Value.bool (decide_eq_false hltk1)) ?_
      refine W.exit ?_
      obtain rfl : Ctl.next () = o1 := hfin
      refine xT rfl ?_
      exact ⟨rfl, rfl, H⟩
  · skip
    rintro f w ⟨rfl, hf0, H⟩
    obtain ⟨u6, rfl⟩ : ∃ u6, f = (upd u6 0 va0) := ⟨f, by rw [upd_self hf0]⟩
    refine W.seq ?_
    refine W.region ?_
    refine O.move (v := va0) rfl rfl rfl ?_
    refine O.lenS Tryd.underlying33 (H.arg ha0) rfl rfl rfl ?_
    refine O.leq rfl rfl rfl rfl ?_
    refine O.assign (v := (.bool (decide (((a0.length : Nat) : Int) ≤ 200)))) rfl rfl rfl ?_
    refine WL.nil ?_
    refine W.ret ?_
    have hq : (decide (((a0.length : Nat) : Int) ≤ 200)) = r0 := Option.some.inj (show some (decide (((a0.length : Nat) : Int) ≤ 200)) = some r0 from hm)
    subst hq
    exact ends1 Tryd.results23 rfl ⟨_, rfl, H.base, rfl⟩

theorem c_noongunref07_digitsOf {w0 : World} (hT : TabH Tryd.prog w0) (a0 : Int) {r0 : (List Int)} (hm : noongunref07_digitsOf a0 = some r0) :
    Calls Tryd.prog 40 #[(.int .i64 a0)] w0 (Ret w0 fun w v => OwnR w0 w v 3 r0) := by
  unfold noongunref07_digitsOf at hm
  refine calls_of_W Tryd.func40 rfl Tryd.ntmps40 (Nat.le_of_ble_eq_true rfl) ?_
  have H := Inv.start (w := w0)
  refine W.seq ?_
  refine W.region ?_
  have H := H.addNil (α := Int) (E := 3)
  refine O.assign (v := (.slice none 0 0)) rfl rfl rfl ?_
  refine WL.nil ?_
  refine W.seq ?_
  refine W.region ?_
  have H := H.addNil (α := Int) (E := 3)
  refine O.assign (v := (.slice none 0 0)) rfl rfl rfl ?_
  refine WL.nil ?_
  refine W.seq ?_
  refine W.seq ?_
  refine W.region ?_
  refine O.move (v := (.int .i64 a0)) rfl rfl rfl ?_
  obtain ⟨t1, hy1, hm⟩ := bind_some hm
  refine O.call Tryd.call66 rfl rfl rfl (c_strconv_Itoa (hT.mono H.base) _ hy1) ?_
  rintro _ w1 hb1 rfl
  have H := H.ext hb1
  obtain ⟨t2, ht2, hm⟩ := bind_some hm
  refine O.bytesHeld Tryd.underlying9 Tryd.underlying78 Tryd.underlying5 ht2 H rfl rfl rfl ?_
  intro v1 w2 b1 ob1 H hb2 hsl1
  refine O.lenS Tryd.underlying78 (hsl1 _ (H.items _ (List.mem_of_getElem? (i := 2) rfl)).1) rfl rfl rfl ?_
  refine O.move (v := (.int .i64 0)) rfl rfl rfl ?_
  refine WL.nil ?_
  obtain ⟨s1, hm1, hm⟩ := bind_some hm
  refine W.via (fun f w => ∃ v5 : Value, f 3 = v5 ∧ Inv w0 w [ownI (α := Int) v5 3 s1]) ?_ ?_
  · skip
    refine W.block ?_
    have H := H.keep [1, 2] [ownI (α := Int) (.slice none 0 0) 3 ([] : List Int), heldI b1 ob1] rfl (by decide)
    refine W.rangeL (i := 0) hm1 (fun rem ik1 s f w => ∃ z2 : (List Int), ∃ v3 : Value, z2 = s ∧ t2.drop ik1 = rem ∧ f 10 = .int .i64 (ik1 : Int) ∧ f 9 = (.int .i64 ((t2.length : Nat) : Int)) ∧ f 3 = v3 ∧ f 8 = v1 ∧ Inv w0 w [ownI (α := Int) v3 3 z2, heldI b1 ob1]) ?_ ?_ ?_
    · skip
      exact ⟨_, (.slice none 0 0), rfl, List.drop_zero, rfl, rfl, rfl, rfl, H⟩
    · skip
      rintro yk1 xs ik1 _ st f w ⟨z2, v3, rfl, hdropk1, hf10, hf9, hf3, hf8, H⟩ hm2
      have hltk1 := drop_lt hdropk1; have hixk1 := drop_idx hdropk1
      obtain ⟨u1, rfl⟩ : ∃ u1, f = (upd (upd (upd (upd u1 10 (.int .i64 (ik1 : Int))) 9 (.int .i64 ((t2.length : Nat) : Int))) 3 v3) 8 v1) := ⟨f, by rw [upd_self hf10, upd_self hf9, upd_self hf3, upd_self hf8]⟩
      have hinck1 := addI_lt hltk1 (hsl1 _ (H.items _ (List.mem_of_getElem? (i := 1) rfl)).1).len_le
      refine W.seq ?_
      refine W.region ?_
      refine O.lss rfl rfl rfl rfl ?_
      refine WL.nil ?_
      refine W.seq ?_
      refine W.cond_true (congrArg Value.bool (decide_eq_true hltk1)) ?_
      refine W.skip ?_
      refine W.seq ?_
      refine W.block ?_
      refine W.seq ?_
      refine W.region ?_
      refine O.indexAddr Tryd.underlying78 sz5 (hsl1 _ (H.items _ (List.mem_of_getElem? (i := 1) rfl)).1) hixk1 rfl rfl rfl rfl ?_
      intro p1 hp1
      refine O.load sc5 rfl rfl rfl (hp1.flat 0 _ rfl) ?_
      refine O.assign (v := (.int .u8 (yk1.toNat : Int))) rfl rfl rfl ?_
      refine WL.nil ?_
      refine W.region ?_
      refine O.move (v := v3) rfl rfl rfl ?_
      refine O.move (v := (.int .u8 (yk1.toNat : Int))) rfl rfl rfl ?_
      obtain ⟨t3, ht3, hm2⟩ := bind_some hm2
      refine O.subK rfl rfl rfl rfl ht3 ?_
      obtain ⟨t4, ht4, hm2⟩ := bind_some hm2
      refine O.convI (by rw [Tryd.underlying5]; rfl) Tryd.underlying3 ht4 rfl rfl rfl ?_
      refine O.buildSlice (α := Int) [(.int .i64 t4)] [t4] Tryd.underlying22 el3 H rfl rfl rfl rfl rfl rfl rfl ?_
      intro v6 w3 H hb3
      have hp1 := hp1.mono hb3
      obtain ⟨t5, ht5, hm2⟩ := bind_some hm2
      refine O.append 0 Tryd.underlying22 el3 rfl H rfl (H.own 2 rfl) ht5 rfl rfl rfl rfl ?_
      intro v7 w4 H
      clear hp1
      refine O.assign (v := v7) rfl rfl rfl ?_
      refine WL.nil ?_
      refine W.region ?_
      refine O.add rfl rfl rfl rfl hinck1 ?_
      refine O.move (v := .int .i64 ((ik1 : Int) + 1)) rfl rfl rfl ?_
      refine WL.nil ?_
      have H := H.keep [0, 1] [ownI (α := Int) v7 3 t5, heldI b1 ob1] rfl (by decide)
      obtain rfl := Option.some.inj hm2
      exact ⟨_, rfl, _, v7, rfl, drop_next hdropk1, rfl, rfl, rfl, rfl, H⟩
    · skip
      rintro ik1 _ f w ⟨z2, v3, rfl, hdropk1, hf10, hf9, hf3, hf8, H⟩ hfin
      have hltk1 := drop_end hdropk1
      obtain ⟨u2, rfl⟩ : ∃ u2, f = (upd (upd (upd (upd u2 10 (.int .i64 (ik1 : Int))) 9 (.int .i64 ((t2.length : Nat) : Int))) 3 v3) 8 v1) := ⟨f, by rw [upd_self hf10, upd_self hf9, upd_self hf3, upd_self hf8]⟩
      refine W.seq ?_
      refine W.region ?_
      refine O.lss rfl rfl rfl rfl ?_
      refine WL.nil ?_
      refine W.seq ?_
      refine W.cond_false (congrArg Value.bool (decide_eq_false hltk1)) ?_
      refine W.exit ?_
      have hq : z2 = s1 := hfin
      subst hq
      have H := H.keep [0] [ownI (α := Int) v3 3 z2] rfl (by decide)
      refine xT rfl ?_
      exact ⟨v3, rfl, H⟩
  · skip
    rintro f w ⟨v5, hf3, H⟩
    obtain ⟨u3, rfl⟩ : ∃ u3, f = (upd u3 3 v5) := ⟨f, by rw [upd_self hf3]⟩
    refine W.seq ?_
    refine W.region ?_
    refine O.move (v := v5) rfl rfl rfl ?_
    refine O.assign (v := v5) rfl rfl rfl ?_
    refine WL.nil ?_
    refine W.ret ?_
    have hq : s1 = r0 := Option.some.inj (show some s1 = some r0 from hm)
    subst hq
    exact ends1 Tryd.results40 rfl ⟨_, rfl, H.base, H.ownR 0 rfl⟩

set_option maxRecDepth 20000 in
theorem c_noongunref07_distance {w0 : World} (hT : TabH Tryd.prog w0) (a0 : Int) (a1 : Int) {r0 : Int} (hm : noongunref07_distance a0 a1 = some r0) :
    Calls Tryd.prog 48 #[(.int .i64 a0), (.int .i64 a1)] w0 (Ret w0 fun _ v => v = (.int .i64 r0)) := by
  unfold noongunref07_distance at hm
  refine calls_of_W Tryd.func48 rfl Tryd.ntmps48 (Nat.le_of_ble_eq_true rfl) ?_
  have H := Inv.start (w := w0)
  refine W.seq ?_
  refine W.region ?_
  refine O.assign (v := (.int .i64 0)) rfl rfl rfl ?_
  refine WL.nil ?_
  refine W.seq ?_
  refine W.region ?_
  refine O.move (v := (.int .i64 a0)) rfl rfl rfl ?_
  obtain ⟨t1, hy1, hm⟩ := bind_some hm
  refine O.call Tryd.call40 rfl rfl rfl (c_noongunref07_digitsOf (hT.mono H.base) _ hy1) ?_
  rintro v1 w1 hb1 ho1
  have H := H.addOwn hb1 ho1
  refine O.move (v := (.int .i64 a1)) rfl rfl rfl ?_
  obtain ⟨t2, hy2, hm⟩ := bind_some hm
  refine O.call Tryd.call40 rfl rfl rfl (c_noongunref07_digitsOf (hT.mono H.base) _ hy2) ?_
  rintro v2 w2 hb2 ho2
  have H := H.addOwn hb2 ho2
  refine O.assign (v := v1) rfl rfl rfl ?_
  refine O.assign (v := v2) rfl rfl rfl ?_
  refine WL.nil ?_
  refine W.seq ?_
  refine W.seq ?_
  refine W.region ?_
  refine O.move (v := v1) rfl rfl rfl ?_
  refine O.lenS Tryd.underlying22 (H.own 0 rfl) rfl rfl rfl ?_
  refine O.move (v := v2) rfl rfl rfl ?_
  refine O.lenS Tryd.underlying22 (H.own 1 rfl) rfl rfl rfl ?_
  refine O.neq rfl rfl rfl rfl ?_
  refine WL.nil ?_
  rcases ite_some hm with ⟨hc1, hm⟩ | ⟨hc1, hm⟩
  · refine W.cond_true (congrArg Value.bool hc1) ?_
    refine W.seq ?_
    refine W.region ?_
    refine O.assign (v := (.int .i64 4)) rfl rfl rfl ?_
    refine WL.nil ?_
    refine W.ret ?_
    have hq : 4 = r0 := Option.some.inj (show some 4 = some r0 from hm)
    subst hq
    exact ends1 Tryd.results48 rfl ⟨_, rfl, H.base, rfl⟩
  · refine W.cond_false (congrArg Value.bool hc1) ?_
    refine W.skip ?_
    refine W.seq ?_
    refine W.region ?_
    refine O.assign (v := (.int .i64 0)) rfl rfl rfl ?_
    refine WL.nil ?_
    refine W.seq ?_
    refine W.seq ?_
    refine W.region ?_
    refine O.move (v := v1) rfl rfl rfl ?_
    refine O.lenS Tryd.underlying22 (H.own 0 rfl) rfl rfl rfl ?_
    refine O.move (v := (.int .i64 0)) rfl rfl rfl ?_
    refine WL.nil ?_
    obtain ⟨s1, hm1, hm⟩ := bind_some hm
    refine W.via (fun f w => f 7 = (.int .i64 s1) ∧ Inv w0 w []) ?_ ?_
    · skip
      refine W.block ?_
      have hbdik1 := (H.own 0 rfl).len_le
      refine W.rangeN (i := 0) hm1 (fun rem ik1 s f w => ∃ z2 : Int, z2 = s ∧ (ik1 : Int) + rem = max 0 ((t1.length : Nat) : Int) ∧ f 20 = .int .i64 (ik1 : Int) ∧ f 19 = (.int .i64 ((t1.length : Nat) : Int)) ∧ f 5 = v1 ∧ f 6 = v2 ∧ f 7 = (.int .i64 z2) ∧ Inv w0 w [ownI (α := Int) v1 3 t1, ownI (α := Int) v2 3 t2]) ?_ ?_ ?_
      · skip
        exact ⟨_, rfl, rangeN_start, rfl, rfl, rfl, rfl, rfl, H⟩
      · skip
        rintro k ik1 _ st f w ⟨z2, rfl, hdropk1, hf20, hf19, hf5, hf6, hf7, H⟩ hm2
        have hltk1 := rangeN_lt hdropk1
        obtain ⟨u1, rfl⟩ : ∃ u1, f = (upd (upd (upd (upd (upd u1 20 (.int .i64 (ik1 : Int))) 19 (.int .i64 ((t1.length : Nat) : Int))) 5 v1) 6 v2) 7 (.int .i64 z2)) := ⟨f, by rw [upd_self hf20, upd_self hf19, upd_self hf5, upd_self hf6, upd_self hf7]⟩
        have hinck1 := addI_lt hltk1 hbdik1
        refine W.seq ?_
        refine W.region ?_
        refine O.lss rfl rfl rfl rfl ?_
        refine WL.nil ?_
        refine W.seq ?_
        refine W.cond_true (congrArg Value.bool (decide_eq_true hltk1)) ?_
        refine W.skip ?_
        refine W.seq ?_
        obtain ⟨s2, hm3, hm2⟩ := bind_some hm2
        refine W.via (fun f w => f 5 = v1 ∧ f 6 = v2 ∧ f 7 = (.int .i64 s2) ∧ f 19 = (.int .i64 ((t1.length : Nat) : Int)) ∧ f 20 = (.int .i64 (ik1 : Int)) ∧ Inv w0 w [ownI (α := Int) v1 3 t1, ownI (α := Int) v2 3 t2]) ?_ ?_
        · skip
          refine W.block ?_
          refine W.seq ?_
          refine W.region ?_
          refine O.move (v := (.int .i64 (ik1 : Int))) rfl rfl rfl ?_
          refine O.assign (v := (.int .i64 (ik1 : Int))) rfl rfl rfl ?_
          refine WL.nil ?_
          refine W.seq ?_
          obtain ⟨x1, hx1, hm3⟩ := bind_some hm3
          obtain ⟨p1, hp1, hrp1⟩ := fix_indexAddr Tryd.underlying22 sz3 (H.own 0 rfl) hx1
          obtain ⟨x2, hx2, hm3⟩ := bind_some hm3
          obtain ⟨p2, hp2, hrp2⟩ := fix_indexAddr Tryd.underlying22 sz3 (H.own 1 rfl) hx2
          refine W.drawN 8 (fun f => f 5 = v1 ∧ f 6 = v2 ∧ f 7 = (.int .i64 z2) ∧ f 19 = (.int .i64 ((t1.length : Nat) : Int)) ∧ f 20 = (.int .i64 (ik1 : Int)) ∧ f 26 = (.int .i64 x1) ∧ f 30 = (.int .i64 x2)) fol (by kernel_rfl) ?_ ?_
          · skip
            refine PL.of (fun _ w8 _ hx => O.move (v := v1) rfl rfl rfl (WL.nil ⟨rfl, hx⟩)) ?_
            refine PL.of (fun _ w8 _ hx => O.move (v := (.int .i64 (ik1 : Int))) rfl rfl rfl (WL.nil ⟨rfl, hx⟩)) ?_
            refine PL.of (fun _ w8 _ hx => hrp1 rfl rfl rfl rfl (WL.nil ⟨rfl, hx⟩)) ?_
            refine PL.of (fun _ w8 _ hx => by have hp1 := hp1.mono hx; exact O.load sc3 rfl rfl rfl (hp1.flat 0 _ rfl) (WL.nil ⟨rfl, hx⟩)) ?_
            refine PL.of (fun _ w8 _ hx => O.move (v := v2) rfl rfl rfl (WL.nil ⟨rfl, hx⟩)) ?_
            refine PL.of (fun _ w8 _ hx => O.move (v := (.int .i64 (ik1 : Int))) rfl rfl rfl (WL.nil ⟨rfl, hx⟩)) ?_
            refine PL.of (fun _ w8 _ hx => hrp2 rfl rfl rfl rfl (WL.nil ⟨rfl, hx⟩)) ?_
            refine PL.of (fun _ w8 _ hx => by have hp2 := hp2.mono hx; exact O.load sc3 rfl rfl rfl (hp2.flat 0 _ rfl) (WL.nil ⟨rfl, hx⟩)) ?_
            refine PL.nil ?_
            exact ⟨rfl, rfl, rfl, rfl, rfl, rfl, rfl⟩
          · skip
            rintro f w ⟨hf5, hf6, hf7, hf19, hf20, hf26, hf30⟩ hmd hx
            have H := H.ext hx
            have hp1 := hp1.mono hx
            have hp2 := hp2.mono hx
            obtain ⟨u2, rfl⟩ : ∃ u2, f = (upd (upd (upd (upd (upd (upd (upd u2 5 v1) 6 v2) 7 (.int .i64 z2)) 19 (.int .i64 ((t1.length : Nat) : Int))) 20 (.int .i64 (ik1 : Int))) 26 (.int .i64 x1)) 30 (.int .i64 x2)) := ⟨f, by rw [upd_self hf5, upd_self hf6, upd_self hf7, upd_self hf19, upd_self hf20, upd_self hf26, upd_self hf30]⟩
            refine O.neq rfl rfl rfl rfl ?_
            refine WL.nil ?_
            obtain ⟨s3, hm4, hm3⟩ := bind_some hm3
            refine W.via (fun f w => f 5 = v1 ∧ f 6 = v2 ∧ f 7 = (.int .i64 s3) ∧ f 19 = (.int .i64 ((t1.length : Nat) : Int)) ∧ f 20 = (.int .i64 (ik1 : Int)) ∧ Inv w0 w [ownI (α := Int) v1 3 t1, ownI (α := Int) v2 3 t2]) ?_ ?_
            · skip
              rcases ite_some hm4 with ⟨hc2, hm4⟩ | ⟨hc2, hm4⟩
              · refine W.cond_true (congrArg Value.bool hc2) ?_
                refine W.region ?_
                refine O.move (v := (.int .i64 z2)) rfl rfl rfl ?_
                obtain ⟨t3, ht3, hm4⟩ := bind_some hm4
                refine O.add rfl rfl rfl rfl ht3 ?_
                refine O.assign (v := (.int .i64 t3)) rfl rfl rfl ?_
                refine WL.nil ?_
                have hq : t3 = s3 := Option.some.inj (show some t3 = some s3 from hm4)
                subst hq
                exact ⟨rfl, rfl, rfl, rfl, rfl, H⟩
              · refine W.cond_false (congrArg Value.bool hc2) ?_
                refine W.skip ?_
                have hq : z2 = s3 := Option.some.inj (show some z2 = some s3 from hm4)
                subst hq
                exact ⟨rfl, rfl, rfl, rfl, rfl, H⟩
            · skip
              rintro f w ⟨hf5, hf6, hf7, hf19, hf20, H⟩
              obtain ⟨u3, rfl⟩ : ∃ u3, f = (upd (upd (upd (upd (upd u3 5 v1) 6 v2) 7 (.int .i64 s3)) 19 (.int .i64 ((t1.length : Nat) : Int))) 20 (.int .i64 (ik1 : Int))) := ⟨f, by rw [upd_self hf5, upd_self hf6, upd_self hf7, upd_self hf19, upd_self hf20]⟩
              have hq : s3 = s2 := Option.some.inj (show some s3 = some s2 from hm3)
              subst hq
              exact ⟨rfl, rfl, rfl, rfl, rfl, H⟩
        · skip
          rintro f w ⟨hf5, hf6, hf7, hf19, hf20, H⟩
          obtain ⟨u4, rfl⟩ : ∃ u4, f = (upd (upd (upd (upd (upd u4 5 v1) 6 v2) 7 (.int .i64 s2)) 19 (.int .i64 ((t1.length : Nat) : Int))) 20 (.int .i64 (ik1 : Int))) := ⟨f, by rw [upd_self hf5, upd_self hf6, upd_self hf7, upd_self hf19, upd_self hf20]⟩
          refine W.region ?_
          refine O.add rfl rfl rfl rfl hinck1 ?_
          refine O.move (v := .int .i64 ((ik1 : Int) + 1)) rfl rfl rfl ?_
          refine WL.nil ?_
          obtain rfl := Option.some.inj hm2
          exact ⟨_, rfl, _, rfl, rangeN_next hdropk1, rfl, rfl, rfl, rfl, rfl, H⟩
      · skip
        rintro ik1 _ f w ⟨z2, rfl, hdropk1, hf20, hf19, hf5, hf6, hf7, H⟩ hfin
        have hltk1 := rangeN_end hdropk1
        obtain ⟨u5, rfl⟩ : ∃ u5, f = (upd (upd (upd (upd (upd u5 20 (.int .i64 (ik1 : Int))) 19 (.int .i64 ((t1.length : Nat) : Int))) 5 v1) 6 v2) 7 (.int .i64 z2)) := ⟨f, by rw [upd_self hf20, upd_self hf19, upd_self hf5, upd_self hf6, upd_self hf7]⟩
        refine W.seq ?_
        refine W.region ?_
        refine O.lss rfl rfl rfl rfl ?_
        refine WL.nil ?_
        refine W.seq ?_
        refine W.cond_false (congrArg Value.bool (decide_eq_false hltk1)) ?_
        refine W.exit ?_
        have hq : z2 = s1 := hfin
        subst hq
        have H := H.keep [] [] rfl (by decide)
        refine xT rfl ?_
        exact ⟨rfl, H⟩
    · skip
      rintro f w ⟨hf7, H⟩
      obtain ⟨u6, rfl⟩ : ∃ u6, f = (upd u6 7 (.int .i64 s1)) := ⟨f, by rw [upd_self hf7]⟩
      refine W.seq ?_
      refine W.region ?_
      refine O.move (v := (.int .i64 s1)) rfl rfl rfl ?_
      refine O.assign (v := (.int .i64 s1)) rfl rfl rfl ?_
      refine WL.nil ?_
      refine W.ret ?_
      have hq : s1 = r0 := Option.some.inj (show some s1 = some r0 from hm)
      subst hq
      exact ends1 Tryd.results48 rfl ⟨_, rfl, H.base, rfl⟩

set_option maxRecDepth 20000 in
theorem c_noongunref07_Close {w0 : World} (hT : TabH Tryd.prog w0) (va0 : Value) (a0 : (List GMeaning)) (ha0 : SliceR w0 va0 a0) (a1 : Int) {r0 : (List GArr2)} {r1 : Int} (hm : noongunref07_Close a0 a1 = some (r0, r1)) :
    Calls Tryd.prog 31 #[va0, (.int .i64 a1)] w0 (Ret w0 fun w v => ∃ vr0 : Value, v = .tuple #[vr0, (.int .i64 r1)] ∧ OwnR w0 w vr0 84 r0) := by
  unfold noongunref07_Close at hm
  refine calls_of_W Tryd.func31 rfl Tryd.ntmps31 (Nat.le_of_ble_eq_true rfl) ?_
  have H := Inv.start (w := w0)
  refine W.seq ?_
  refine W.region ?_
  have H := H.addNil (α := GArr2) (E := 84)
  refine O.assign (v := (.slice none 0 0)) rfl rfl rfl ?_
  refine O.assign (v := (.int .i64 0)) rfl rfl rfl ?_
  refine WL.nil ?_
  refine W.seq ?_
  refine W.seq ?_
  refine W.region ?_
  refine O.move (v := va0) rfl rfl rfl ?_
  obtain ⟨t1, hy1, hm⟩ := bind_some hm
  refine O.call Tryd.call23 rfl rfl rfl (c_noongunref07_ValidBook _ _ (H.arg ha0) hy1) ?_
  rintro _ w1 hb1 rfl
  have H := H.ext hb1
  refine O.not rfl rfl rfl ?_
  refine WL.nil ?_
  rcases ite_some hm with ⟨hc1, hm⟩ | ⟨hc1, hm⟩
  · refine W.cond_true (congrArg Value.bool hc1) ?_
    refine W.seq ?_
    refine W.region ?_
    have H := H.addNil (α := GArr2) (E := 84)
    refine O.assign (v := (.slice none 0 0)) rfl rfl rfl ?_
    refine O.assign (v := (.int .i64 1)) rfl rfl rfl ?_
    refine WL.nil ?_
    refine W.ret ?_
    have hq : (([] : List GArr2), 1) = (r0, r1) := Option.some.inj (show some (([] : List GArr2), 1) = some (r0, r1) from hm)
    obtain ⟨he0, hq0⟩ := Prod.mk.inj hq; clear hq; subst he0
    subst hq0
    exact ends2 Tryd.results31 rfl rfl ⟨_, rfl, H.base, ⟨_, rfl, H.ownR 1 rfl⟩⟩
  · refine W.cond_false (congrArg Value.bool hc1) ?_
    refine W.skip ?_
    refine W.seq ?_
    refine W.seq ?_
    refine W.region ?_
    refine O.move (v := (.int .i64 a1)) rfl rfl rfl ?_
    refine O.lss rfl rfl rfl rfl ?_
    refine O.move (v := (.bool (decide (a1 < 1)))) rfl rfl rfl ?_
    refine WL.cut 3 (fun f w => f 0 = va0 ∧ f 1 = (.int .i64 a1) ∧ f 19 = .bool ((decide (a1 < 1)) || (decide (4 < a1))) ∧ Inv w0 w [ownI (α := GArr2) (.slice none 0 0) 84 ([] : List GArr2)]) ?_ ?_
    · skip
      rcases bool_ft (decide (a1 < 1)) with hc2 | hc2
      · skip
        refine WL.reset (i := 16) (v := .bool false) (congrArg Value.bool hc2) ?_
        refine O.move (v := (.int .i64 a1)) rfl rfl rfl ?_
        refine O.gtr rfl rfl rfl rfl ?_
        refine O.pick_false (v := (.bool (decide (4 < a1)))) rfl rfl rfl rfl ?_
        refine WL.nil ?_
        exact ⟨rfl, rfl, congrArg Value.bool (or_f hc2), H⟩
      · skip
        refine WL.reset (i := 16) (v := .bool true) (congrArg Value.bool hc2) ?_
        refine O.skip rfl rfl ?_
        refine O.skip rfl rfl ?_
        refine O.pick_true (v := (.bool true)) rfl rfl rfl rfl ?_
        refine WL.nil ?_
        exact ⟨rfl, rfl, congrArg Value.bool (or_t hc2), H⟩
    · skip
      rintro f w ⟨hf0, hf1, hf19, H⟩
      obtain ⟨u1, rfl⟩ : ∃ u1, f = (upd (upd (upd u1 0 va0) 1 (.int .i64 a1)) 19 (.bool ((decide (a1 < 1)) || (decide (4 < a1))))) := ⟨f, by rw [upd_self hf0, upd_self hf1, upd_self hf19]⟩
      refine WL.nil ?_
      rcases ite_some hm with ⟨hc3, hm⟩ | ⟨hc3, hm⟩
      · refine W.cond_true (congrArg Value.bool hc3) ?_
        refine W.seq ?_
        refine W.region ?_
        have H := H.addNil (α := GArr2) (E := 84)
        refine O.assign (v := (.slice none 0 0)) rfl rfl rfl ?_
        refine O.assign (v := (.int .i64 7)) rfl rfl rfl ?_
        refine WL.nil ?_
        refine W.ret ?_
        have hq : (([] : List GArr2), 7) = (r0, r1) := Option.some.inj (show some (([] : List GArr2), 7) = some (r0, r1) from hm)
        obtain ⟨he0, hq0⟩ := Prod.mk.inj hq; clear hq; subst he0
        subst hq0
        exact ends2 Tryd.results31 rfl rfl ⟨_, rfl, H.base, ⟨_, rfl, H.ownR 1 rfl⟩⟩
      · refine W.cond_false (congrArg Value.bool hc3) ?_
        refine W.skip ?_
        refine W.seq ?_
        refine W.region ?_
        have H := H.addNil (α := GArr2) (E := 84)
        refine O.assign (v := (.slice none 0 0)) rfl rfl rfl ?_
        refine WL.nil ?_
        refine W.seq ?_
        refine W.seq ?_
        refine W.region ?_
        refine O.move (v := va0) rfl rfl rfl ?_
        refine O.lenS Tryd.underlying33 (H.arg ha0) rfl rfl rfl ?_
        refine O.move (v := (.int .i64 0)) rfl rfl rfl ?_
        refine WL.nil ?_
        obtain ⟨s1, hm1, hm⟩ := bind_some hm
        refine W.via (fun f w => ∃ v4 : Value, f 6 = v4 ∧ Inv w0 w [ownI (α := GArr2) v4 84 s1]) ?_ ?_
        · skip
          refine W.block ?_
          have hbdik1 := (H.arg ha0).len_le
          have H := H.keep [1] [ownI (α := GArr2) (.slice none 0 0) 84 ([] : List GArr2)] rfl (by decide)
          refine W.rangeN (i := 0) hm1 (fun rem ik1 s f w => ∃ z2 : (List GArr2), ∃ v2 : Value, z2 = s ∧ (ik1 : Int) + rem = max 0 ((a0.length : Nat) : Int) ∧ f 22 = .int .i64 (ik1 : Int) ∧ f 21 = (.int .i64 ((a0.length : Nat) : Int)) ∧ f 0 = va0 ∧ f 1 = (.int .i64 a1) ∧ f 6 = v2 ∧ f 20 = va0 ∧ Inv w0 w [ownI (α := GArr2) v2 84 z2]) ?_ ?_ ?_
          · skip
            exact ⟨_, (.slice none 0 0), rfl, rangeN_start, rfl, rfl, rfl, rfl, rfl, rfl, H⟩
          · skip
            rintro k ik1 _ st f w ⟨z2, v2, rfl, hdropk1, hf22, hf21, hf0, hf1, hf6, hf20, H⟩ hm2
            have hltk1 := rangeN_lt hdropk1
            obtain ⟨u2, rfl⟩ : ∃ u2, f = (upd (upd (upd (upd (upd (upd u2 22 (.int .i64 (ik1 : Int))) 21 (.int .i64 ((a0.length : Nat) : Int))) 0 va0) 1 (.int .i64 a1)) 6 v2) 20 va0) := ⟨f, by rw [upd_self hf22, upd_self hf21, upd_self hf0, upd_self hf1, upd_self hf6, upd_self hf20]⟩
            have hinck1 := addI_lt hltk1 hbdik1
            refine W.seq ?_
            refine W.region ?_
            refine O.lss rfl rfl rfl rfl ?_
            refine WL.nil ?_
            refine W.seq ?_
            refine W.cond_true (congrArg Value.bool (decide_eq_true hltk1)) ?_
            refine W.skip ?_
            refine W.seq ?_
            obtain ⟨s2, hm3, hm2⟩ := bind_some hm2
            refine W.via (fun f w => ∃ v5 : Value, f 0 = va0 ∧ f 1 = (.int .i64 a1) ∧ f 6 = v5 ∧ f 20 = va0 ∧ f 21 = (.int .i64 ((a0.length : Nat) : Int)) ∧ f 22 = (.int .i64 (ik1 : Int)) ∧ Inv w0 w [ownI (α := GArr2) v5 84 s2]) ?_ ?_
            · skip
              refine W.block ?_
              refine W.seq ?_
              refine W.region ?_
              refine O.move (v := (.int .i64 (ik1 : Int))) rfl rfl rfl ?_
              obtain ⟨x1, hx1, hm3⟩ := bind_some hm3
              obtain ⟨p1, hp1, hrp1⟩ := fix_indexAddr Tryd.underlying33 sz39 ha0 hx1
              refine hrp1 rfl rfl rfl rfl ?_
              refine O.loadA [(.int .i64 x1.Number), (.string x1.Text)] ag39 rfl rfl rfl rfl ((hp1.mono H.base).flat) ?_
              refine O.alloc [(.int .i64 0), (.string ByteArray.empty)] ze39 H rfl rfl rfl ?_
              intro b1 w2 H hb2
              refine O.assign (v := (.int .i64 (ik1 : Int))) rfl rfl rfl ?_
              refine O.store 1 0 [(.int .i64 x1.Number), (.string x1.Text)] [(.int .i64 x1.Number), (.string x1.Text)] sz39 H rfl rfl rfl rfl rfl rfl ⟨⟨rfl, rfl⟩, rfl⟩ (one_cons rfl (one_cons rfl one_nil)) ?_
              intro w3 H
              refine WL.nil ?_
              refine W.seq ?_
              refine W.region ?_
              refine O.move (v := va0) rfl rfl rfl ?_
              refine O.move (v := (.int .i64 (ik1 : Int))) rfl rfl rfl ?_
              obtain ⟨t2, ht2, hm3⟩ := bind_some hm3
              refine O.add rfl rfl rfl rfl ht2 ?_
              obtain ⟨t3, ht3, hm3⟩ := bind_some hm3
              obtain ⟨v6, hs1, hrv6⟩ := fix_sliceL Tryd.underlying33 sz39 ha0 ht3
              refine hrv6 rfl rfl rfl rfl ?_
              refine O.lenS Tryd.underlying33 (H.arg hs1) rfl rfl rfl ?_
              refine O.move (v := (.int .i64 0)) rfl rfl rfl ?_
              refine WL.nil ?_
              obtain ⟨s3, hm4, hm3⟩ := bind_some hm3
              refine W.via (fun f w => ∃ v10 : Value, f 0 = va0 ∧ f 1 = (.int .i64 a1) ∧ f 6 = v10 ∧ f 20 = va0 ∧ f 21 = (.int .i64 ((a0.length : Nat) : Int)) ∧ f 22 = (.int .i64 (ik1 : Int)) ∧ Inv w0 w [ownI (α := GArr2) v10 84 s3]) ?_ ?_
              · skip
                refine W.block ?_
                refine W.rangeL (i := 0) hm4 (fun rem ik2 s f w => ∃ z5 : (List GArr2), ∃ v8 : Value, z5 = s ∧ t3.drop ik2 = rem ∧ f 32 = .int .i64 (ik2 : Int) ∧ f 31 = (.int .i64 ((t3.length : Nat) : Int)) ∧ f 0 = va0 ∧ f 1 = (.int .i64 a1) ∧ f 6 = v8 ∧ f 8 = (.pointer (some ⟨b1, 0, none⟩)) ∧ f 20 = va0 ∧ f 21 = (.int .i64 ((a0.length : Nat) : Int)) ∧ f 22 = (.int .i64 (ik1 : Int)) ∧ f 30 = v6 ∧ Inv w0 w [ownI (α := GArr2) v8 84 z5, boxI b1 39 [(.int .i64 x1.Number), (.string x1.Text)]]) ?_ ?_ ?_
                · skip
                  exact ⟨_, v2, rfl, List.drop_zero, rfl, rfl, rfl, rfl, rfl, rfl, rfl, rfl, rfl, rfl, H⟩
                · skip
                  rintro yk2 xs ik2 _ st f w ⟨z5, v8, rfl, hdropk2, hf32, hf31, hf0, hf1, hf6, hf8, hf20, hf21, hf22, hf30, H⟩ hm5
                  have hltk2 := drop_lt hdropk2; have hixk2 := drop_idx hdropk2
                  obtain ⟨u3, rfl⟩ : ∃ u3, f = (upd (upd (upd (upd (upd (upd (upd (upd (upd (upd u3 32 (.int .i64 (ik2 : Int))) 31 (.int .i64 ((t3.length : Nat) : Int))) 0 va0) 1 (.int .i64 a1)) 6 v8) 8 (.pointer (some ⟨b1, 0, none⟩))) 20 va0) 21 (.int .i64 ((a0.length : Nat) : Int))) 22 (.int .i64 (ik1 : Int))) 30 v6) := ⟨f, by rw [upd_self hf32, upd_self hf31, upd_self hf0, upd_self hf1, upd_self hf6, upd_self hf8, upd_self hf20, upd_self hf21, upd_self hf22, upd_self hf30]⟩
                  have hinck2 := addI_lt hltk2 (H.arg hs1).len_le
                  refine W.seq ?_
                  refine W.region ?_
                  refine O.lss rfl rfl rfl rfl ?_
                  refine WL.nil ?_
                  refine W.seq ?_
                  refine W.cond_true (congrArg Value.bool (decide_eq_true hltk2)) ?_
                  refine W.skip ?_
                  refine W.seq ?_
                  obtain ⟨s4, hm6, hm5⟩ := bind_some hm5
                  refine W.via (fun f w => ∃ v11 : Value, f 0 = va0 ∧ f 1 = (.int .i64 a1) ∧ f 6 = v11 ∧ f 8 = (.pointer (some ⟨b1, 0, none⟩)) ∧ f 20 = va0 ∧ f 21 = (.int .i64 ((a0.length : Nat) : Int)) ∧ f 22 = (.int .i64 (ik1 : Int)) ∧ f 30 = v6 ∧ f 31 = (.int .i64 ((t3.length : Nat) : Int)) ∧ f 32 = (.int .i64 (ik2 : Int)) ∧ Inv w0 w [ownI (α := GArr2) v11 84 s4, boxI b1 39 [(.int .i64 x1.Number), (.string x1.Text)]]) ?_ ?_
                  · skip
                    refine W.block ?_
                    refine W.seq ?_
                    refine W.region ?_
                    obtain ⟨p2, hp2, hrp2⟩ := fix_indexAddr Tryd.underlying33 sz39 hs1 hixk2
                    refine hrp2 rfl rfl rfl rfl ?_
                    refine O.loadA [(.int .i64 yk2.Number), (.string yk2.Text)] ag39 rfl rfl rfl rfl ((hp2.mono H.base).flat) ?_
                    refine O.alloc [(.int .i64 0), (.string ByteArray.empty)] ze39 H rfl rfl rfl ?_
                    intro b2 w4 H hb3
                    refine O.store 2 0 [(.int .i64 yk2.Number), (.string yk2.Text)] [(.int .i64 yk2.Number), (.string yk2.Text)] sz39 H rfl rfl rfl rfl rfl rfl ⟨⟨rfl, rfl⟩, rfl⟩ (one_cons rfl (one_cons rfl one_nil)) ?_
                    intro w5 H
                    refine WL.nil ?_
                    refine W.seq ?_
                    refine W.region ?_
                    refine O.fieldAddr fd39_0 rfl rfl rfl ?_
                    refine O.load sc3 rfl rfl rfl (H.cell 1 rfl 0 _ rfl) ?_
                    refine O.fieldAddr fd39_0 rfl rfl rfl ?_
                    refine O.load sc3 rfl rfl rfl (H.cell 2 rfl 0 _ rfl) ?_
                    obtain ⟨t4, hy2, hm6⟩ := bind_some hm6
                    refine O.call Tryd.call48 rfl rfl rfl (c_noongunref07_distance (hT.mono H.base) _ _ hy2) ?_
                    rintro _ w6 hb4 rfl
                    have H := H.ext hb4
                    refine O.move (v := (.int .i64 a1)) rfl rfl rfl ?_
                    refine O.lss rfl rfl rfl rfl ?_
                    refine WL.nil ?_
                    obtain ⟨s5, hm7, hm6⟩ := bind_some hm6
                    refine W.via (fun f w => ∃ v12 : Value, f 0 = va0 ∧ f 1 = (.int .i64 a1) ∧ f 6 = v12 ∧ f 8 = (.pointer (some ⟨b1, 0, none⟩)) ∧ f 20 = va0 ∧ f 21 = (.int .i64 ((a0.length : Nat) : Int)) ∧ f 22 = (.int .i64 (ik1 : Int)) ∧ f 30 = v6 ∧ f 31 = (.int .i64 ((t3.length : Nat) : Int)) ∧ f 32 = (.int .i64 (ik2 : Int)) ∧ Inv w0 w [ownI (α := GArr2) v12 84 s5, boxI b1 39 [(.int .i64 x1.Number), (.string x1.Text)]]) ?_ ?_
                    · skip
                      rcases ite_some hm7 with ⟨hc4, hm7⟩ | ⟨hc4, hm7⟩
                      · refine W.cond_true (congrArg Value.bool hc4) ?_
                        refine W.region ?_
                        refine O.move (v := v8) rfl rfl rfl ?_
                        refine O.fieldAddr fd39_0 rfl rfl rfl ?_
                        refine O.load sc3 rfl rfl rfl (H.cell 1 rfl 0 _ rfl) ?_
                        refine O.fieldAddr fd39_0 rfl rfl rfl ?_
                        refine O.load sc3 rfl rfl rfl (H.cell 2 rfl 0 _ rfl) ?_
                        refine O.build (v := (.agg (Flat.cells (GArr2.mk x1.Number yk2.Number)).toArray)) (fun w => bd84_a _ _ w) rfl rfl rfl ?_
                        refine O.buildSlice (α := GArr2) [(.agg (Flat.cells (GArr2.mk x1.Number yk2.Number)).toArray)] [(GArr2.mk x1.Number yk2.Number)] Tryd.underlying46 el84 H rfl rfl rfl rfl rfl rfl rfl ?_
                        intro v13 w7 H hb5
                        obtain ⟨t5, ht5, hm7⟩ := bind_some hm7
                        refine O.append 0 Tryd.underlying46 el84 rfl H rfl (H.own 3 rfl) ht5 rfl rfl rfl rfl ?_
                        intro v14 w8 H
                        refine O.assign (v := v14) rfl rfl rfl ?_
                        refine WL.nil ?_
                        have H := H.keep [0, 1] [ownI (α := GArr2) v14 84 t5, boxI b1 39 [(.int .i64 x1.Number), (.string x1.Text)]] rfl (by decide)
                        have hq : t5 = s5 := Option.some.inj (show some t5 = some s5 from hm7)
                        subst hq
                        exact ⟨v14, rfl, rfl, rfl, rfl, rfl, rfl, rfl, rfl, rfl, rfl, H⟩
                      · refine W.cond_false (congrArg Value.bool hc4) ?_
                        refine W.skip ?_
                        have H := H.keep [0, 1] [ownI (α := GArr2) v8 84 z5, boxI b1 39 [(.int .i64 x1.Number), (.string x1.Text)]] rfl (by decide)
                        have hq : z5 = s5 := Option.some.inj (show some z5 = some s5 from hm7)
                        subst hq
                        exact ⟨v8, rfl, rfl, rfl, rfl, rfl, rfl, rfl, rfl, rfl, rfl, H⟩
                    · skip
                      rintro f w ⟨v12, hf0, hf1, hf6, hf8, hf20, hf21, hf22, hf30, hf31, hf32, H⟩
                      obtain ⟨u4, rfl⟩ : ∃ u4, f = (upd (upd (upd (upd (upd (upd (upd (upd (upd (upd u4 0 va0) 1 (.int .i64 a1)) 6 v12) 8 (.pointer (some ⟨b1, 0, none⟩))) 20 va0) 21 (.int .i64 ((a0.length : Nat) : Int))) 22 (.int .i64 (ik1 : Int))) 30 v6) 31 (.int .i64 ((t3.length : Nat) : Int))) 32 (.int .i64 (ik2 : Int))) := ⟨f, by rw [upd_self hf0, upd_self hf1, upd_self hf6, upd_self hf8, upd_self hf20, upd_self hf21, upd_self hf22, upd_self hf30, upd_self hf31, upd_self hf32]⟩
                      have hq : s5 = s4 := Option.some.inj (show some s5 = some s4 from hm6)
                      subst hq
                      exact ⟨v12, rfl, rfl, rfl, rfl, rfl, rfl, rfl, rfl, rfl, rfl, H⟩
                  · skip
                    rintro f w ⟨v11, hf0, hf1, hf6, hf8, hf20, hf21, hf22, hf30, hf31, hf32, H⟩
                    obtain ⟨u5, rfl⟩ : ∃ u5, f = (upd (upd (upd (upd (upd (upd (upd (upd (upd (upd u5 0 va0) 1 (.int .i64 a1)) 6 v11) 8 (.pointer (some ⟨b1, 0, none⟩))) 20 va0) 21 (.int .i64 ((a0.length : Nat) : Int))) 22 (.int .i64 (ik1 : Int))) 30 v6) 31 (.int .i64 ((t3.length : Nat) : Int))) 32 (.int .i64 (ik2 : Int))) := ⟨f, by rw [upd_self hf0, upd_self hf1, upd_self hf6, upd_self hf8, upd_self hf20, upd_self hf21, upd_self hf22, upd_self hf30, upd_self hf31, upd_self hf32]⟩
                    refine W.region ?_
                    refine O.add rfl rfl rfl rfl hinck2 ?_
                    refine O.move (v := .int .i64 ((ik2 : Int) + 1)) rfl rfl rfl ?_
                    refine WL.nil ?_
                    obtain rfl := Option.some.inj hm5
                    exact ⟨_, rfl, _, v11, rfl, drop_next hdropk2, rfl, rfl, rfl, rfl, rfl, rfl, rfl, rfl, rfl, rfl, H⟩
                · skip
                  rintro ik2 _ f w ⟨z5, v8, rfl, hdropk2, hf32, hf31, hf0, hf1, hf6, hf8, hf20, hf21, hf22, hf30, H⟩ hfin
                  have hltk2 := drop_end hdropk2
                  obtain ⟨u6, rfl⟩ : ∃ u6, f = (upd (upd (upd (upd (upd (upd (upd (upd (upd (upd u6 32 (.int .i64 (ik2 : Int))) 31 (.int .i64 ((t3.length : Nat) : Int))) 0 va0) 1 (.int .i64 a1)) 6 v8) 8 (.pointer (some ⟨b1, 0, none⟩))) 20 va0) 21 (.int .i64 ((a0.length : Nat) : Int))) 22 (.int .i64 (ik1 : Int))) 30 v6) := ⟨f, by rw [upd_self hf32, upd_self hf31, upd_self hf0, upd_self hf1, upd_self hf6, upd_self hf8, upd_self hf20, upd_self hf21, upd_self hf22, upd_self hf30]⟩
                  refine W.seq ?_
                  refine W.region ?_
                  refine O.lss rfl rfl rfl rfl ?_
                  refine WL.nil ?_
                  refine W.seq ?_
                  refine W.cond_false (congrArg Value.bool (decide_eq_false hltk2)) ?_
                  refine W.exit ?_
                  have hq : z5 = s3 := hfin
                  subst hq
                  have H := H.keep [0] [ownI (α := GArr2) v8 84 z5] rfl (by decide)
                  refine xT rfl ?_
                  exact ⟨v8, rfl, rfl, rfl, rfl, rfl, rfl, H⟩
              · skip
                rintro f w ⟨v10, hf0, hf1, hf6, hf20, hf21, hf22, H⟩
                obtain ⟨u7, rfl⟩ : ∃ u7, f = (upd (upd (upd (upd (upd (upd u7 0 va0) 1 (.int .i64 a1)) 6 v10) 20 va0) 21 (.int .i64 ((a0.length : Nat) : Int))) 22 (.int .i64 (ik1 : Int))) := ⟨f, by rw [upd_self hf0, upd_self hf1, upd_self hf6, upd_self hf20, upd_self hf21, upd_self hf22]⟩
                have hq : s3 = s2 := Option.some.inj (show some s3 = some s2 from hm3)
                subst hq
                exact ⟨v10, rfl, rfl, rfl, rfl, rfl, rfl, H⟩
            · skip
              rintro f w ⟨v5, hf0, hf1, hf6, hf20, hf21, hf22, H⟩
              obtain ⟨u8, rfl⟩ : ∃ u8, f = (upd (upd (upd (upd (upd (upd u8 0 va0) 1 (.int .i64 a1)) 6 v5) 20 va0) 21 (.int .i64 ((a0.length : Nat) : Int))) 22 (.int .i64 (ik1 : Int))) := ⟨f, by rw [upd_self hf0, upd_self hf1, upd_self hf6, upd_self hf20, upd_self hf21, upd_self hf22]⟩
              refine W.region ?_
              refine O.add rfl rfl rfl rfl hinck1 ?_
              refine O.move (v := .int .i64 ((ik1 : Int) + 1)) rfl rfl rfl ?_
              refine WL.nil ?_
              obtain rfl := Option.some.inj hm2
              exact ⟨_, rfl, _, v5, rfl, rangeN_next hdropk1, rfl, rfl, rfl, rfl, rfl, rfl, H⟩
          · skip
            rintro ik1 _ f w ⟨z2, v2, rfl, hdropk1, hf22, hf21, hf0, hf1, hf6, hf20, H⟩ hfin
            have hltk1 := rangeN_end hdropk1
            obtain ⟨u9, rfl⟩ : ∃ u9, f = (upd (upd (upd (upd (upd (upd u9 22 (.int .i64 (ik1 : Int))) 21 (.int .i64 ((a0.length : Nat) : Int))) 0 va0) 1 (.int .i64 a1)) 6 v2) 20 va0) := ⟨f, by rw [upd_self hf22, upd_self hf21, upd_self hf0, upd_self hf1, upd_self hf6, upd_self hf20]⟩
            refine W.seq ?_
            refine W.region ?_
            refine O.lss rfl rfl rfl rfl ?_
            refine WL.nil ?_
            refine W.seq ?_
            refine W.cond_false (congrArg Value.bool (decide_eq_false hltk1)) ?_
            refine W.exit ?_
            have hq : z2 = s1 := hfin
            subst hq
            refine xT rfl ?_
            exact ⟨v2, rfl, H⟩
        · skip
          rintro f w ⟨v4, hf6, H⟩
          obtain ⟨u10, rfl⟩ : ∃ u10, f = (upd u10 6 v4) := ⟨f, by rw [upd_self hf6]⟩
          refine W.seq ?_
          refine W.region ?_
          refine O.move (v := v4) rfl rfl rfl ?_
          refine O.assign (v := v4) rfl rfl rfl ?_
          refine O.assign (v := (.int .i64 0)) rfl rfl rfl ?_
          refine WL.nil ?_
          refine W.ret ?_
          have hq : (s1, 0) = (r0, r1) := Option.some.inj (show some (s1, 0) = some (r0, r1) from hm)
          obtain ⟨he0, hq0⟩ := Prod.mk.inj hq; clear hq; subst he0
          subst hq0
          exact ends2 Tryd.results31 rfl rfl ⟨_, rfl, H.base, ⟨_, rfl, H.ownR 0 rfl⟩⟩

theorem c_slices_Clone_int {w0 : World} (va0 : Value) (a0 : (List Int)) (ha0 : SliceR w0 va0 a0) {r0 : (List Int)} (hm : slices_Clone_int a0 = some r0) :
    Calls Tryd.prog 79 #[va0] w0 (Ret w0 fun w v => OwnR w0 w v 3 r0) := by
  unfold slices_Clone_int at hm
  refine calls_of_W Tryd.func79 rfl Tryd.ntmps79 (Nat.le_of_ble_eq_true rfl) ?_
  have H := Inv.start (w := w0)
  refine W.seq ?_
  refine W.region ?_
  have H := H.addNil (α := Int) (E := 3)
  refine O.assign (v := (.slice none 0 0)) rfl rfl rfl ?_
  refine WL.nil ?_
  refine W.seq ?_
  refine W.seq ?_
  refine W.region ?_
  refine O.move (v := va0) rfl rfl rfl ?_
  rcases ha0.nil_or with ⟨rfl, rfl⟩ | ⟨ad, cap, rfl⟩
  · skip
    replace hm : (some ([] : List Int)) = some r0 := by simpa [appI] using hm
    refine O.eqlNil Tryd.underlying22 rfl rfl rfl rfl ?_
    refine WL.reset (i := 4) (v := .bool true) rfl ?_
    refine WL.nil ?_
    refine W.cond_true rfl ?_
    refine W.seq ?_
    refine W.region ?_
    have H := H.addNil (α := Int) (E := 3)
    refine O.assign (v := (.slice none 0 0)) rfl rfl rfl ?_
    refine WL.nil ?_
    refine W.ret ?_
    have hq : ([] : List Int) = r0 := Option.some.inj (show some ([] : List Int) = some r0 from hm)
    subst hq
    exact ends1 Tryd.results79 rfl ⟨_, rfl, H.base, H.ownR 1 rfl⟩
  · skip
    refine O.eqlNil Tryd.underlying22 rfl rfl rfl rfl ?_
    refine WL.reset (i := 4) (v := .bool false) rfl ?_
    refine WL.nil ?_
    refine W.cond_false rfl ?_
    refine W.skip ?_
    refine W.seq ?_
    refine W.region ?_
    refine O.buildEmpty (α := Int) Tryd.underlying22 el3 H rfl rfl ?_
    intro b1 w1 H hb1
    refine O.move (v := (.slice (some ad) a0.length cap)) rfl rfl rfl ?_
    obtain ⟨t1, ht1, hm⟩ := bind_some hm
    refine O.append 1 Tryd.underlying22 el3 rfl H rfl (H.arg ha0) ht1 rfl rfl rfl rfl ?_
    intro v1 w2 H
    refine O.assign (v := v1) rfl rfl rfl ?_
    refine WL.nil ?_
    refine W.ret ?_
    have hq : t1 = r0 := Option.some.inj (show some t1 = some r0 from hm)
    subst hq
    exact ends1 Tryd.results79 rfl ⟨_, rfl, H.base, H.ownR 1 rfl⟩

theorem rev_turns : TurnsI Tryd.prog 80 List.reverse := turns_reverse Tryd.revT

theorem c_flag_turned {w0 : World} (va0 : Value) (a0 : (List Int)) (ha0 : SliceR w0 va0 a0) {r0 : (List Int)} (hm : flag_turned a0 = some r0) :
    Calls Tryd.prog 45 #[va0] w0 (Ret w0 fun w v => OwnR w0 w v 3 r0) := by
  unfold flag_turned at hm
  refine calls_of_W Tryd.func45 rfl Tryd.ntmps45 (Nat.le_of_ble_eq_true rfl) ?_
  have H := Inv.start (w := w0)
  refine W.seq ?_
  refine W.region ?_
  have H := H.addNil (α := Int) (E := 3)
  refine O.assign (v := (.slice none 0 0)) rfl rfl rfl ?_
  refine WL.nil ?_
  refine W.seq ?_
  refine W.region ?_
  refine O.move (v := va0) rfl rfl rfl ?_
  obtain ⟨t1, hy1, hm⟩ := bind_some hm
  refine O.call Tryd.call79 rfl rfl rfl (c_slices_Clone_int _ _ (H.arg ha0) hy1) ?_
  rintro v1 w1 hb1 ho1
  have H := H.addOwn hb1 ho1
  refine O.assign (v := v1) rfl rfl rfl ?_
  refine WL.nil ?_
  refine W.seq ?_
  refine W.region ?_
  refine O.move (v := v1) rfl rfl rfl ?_
  obtain ⟨t2, hy2, hm⟩ := bind_some hm
  refine O.turnI2 1 H rfl rev_turns hy2 Tryd.call80 rfl rfl rfl ?_
  intro w2 H
  refine WL.nil ?_
  refine W.seq ?_
  refine W.region ?_
  refine O.move (v := v1) rfl rfl rfl ?_
  refine O.assign (v := v1) rfl rfl rfl ?_
  refine WL.nil ?_
  refine W.ret ?_
  have hq : t2 = r0 := Option.some.inj (show some t2 = some r0 from hm)
  subst hq
  exact ends1 Tryd.results45 rfl ⟨_, rfl, H.base, H.ownR 1 rfl⟩

set_option maxRecDepth 20000 in
theorem c_slices_Equal_int {w0 : World} (va0 : Value) (a0 : (List Int)) (ha0 : SliceR w0 va0 a0) (va1 : Value) (a1 : (List Int)) (ha1 : SliceR w0 va1 a1) {r0 : Bool} (hm : slices_Equal_int a0 a1 = some r0) :
    Calls Tryd.prog 52 #[va0, va1] w0 (Ret w0 fun _ v => v = (.bool r0)) := by
  unfold slices_Equal_int at hm
  refine calls_of_W Tryd.func52 rfl Tryd.ntmps52 (Nat.le_of_ble_eq_true rfl) ?_
  have H := Inv.start (w := w0)
  refine W.seq ?_
  refine W.region ?_
  refine O.assign (v := (.bool false)) rfl rfl rfl ?_
  refine WL.nil ?_
  refine W.seq ?_
  refine W.seq ?_
  refine W.region ?_
  refine O.move (v := va0) rfl rfl rfl ?_
  refine O.lenS Tryd.underlying22 (H.arg ha0) rfl rfl rfl ?_
  refine O.move (v := va1) rfl rfl rfl ?_
  refine O.lenS Tryd.underlying22 (H.arg ha1) rfl rfl rfl ?_
  refine O.neq rfl rfl rfl rfl ?_
  refine WL.nil ?_
  rcases ite_some hm with ⟨hc1, hm⟩ | ⟨hc1, hm⟩
  · refine W.cond_true (congrArg Value.bool hc1) ?_
    refine W.seq ?_
    refine W.region ?_
    refine O.assign (v := (.bool false)) rfl rfl rfl ?_
    refine WL.nil ?_
    refine W.ret ?_
    have hq : false = r0 := Option.some.inj (show some false = some r0 from hm)
    subst hq
    exact ends1 Tryd.results52 rfl ⟨_, rfl, H.base, rfl⟩
  · refine W.cond_false (congrArg Value.bool hc1) ?_
    refine W.skip ?_
    refine W.seq ?_
    refine W.seq ?_
    refine W.region ?_
    refine O.move (v := va0) rfl rfl rfl ?_
    refine O.lenS Tryd.underlying22 (H.arg ha0) rfl rfl rfl ?_
    refine O.move (v := (.int .i64 0)) rfl rfl rfl ?_
    refine WL.nil ?_
    obtain ⟨o1, hm1, hm⟩ := bind_some hm
    refine W.via (fun f w => o1 = .next () ∧ Inv w0 w []) ?_ ?_
    · skip
      refine W.block ?_
      have hbdik1 := (H.arg ha0).len_le
      refine W.rangeN (i := 0) hm1 (fun rem ik1 s f w => () = s ∧ (ik1 : Int) + rem = max 0 ((a0.length : Nat) : Int) ∧ f 13 = .int .i64 (ik1 : Int) ∧ f 12 = (.int .i64 ((a0.length : Nat) : Int)) ∧ f 0 = va0 ∧ f 1 = va1 ∧ Inv w0 w []) ?_ ?_ ?_
      · skip
        exact ⟨rfl, rangeN_start, rfl, rfl, rfl, rfl, H⟩
      · skip
        rintro k ik1 _ st f w ⟨rfl, hdropk1, hf13, hf12, hf0, hf1, H⟩ hm2
        have hltk1 := rangeN_lt hdropk1
        obtain ⟨u1, rfl⟩ : ∃ u1, f = (upd (upd (upd (upd u1 13 (.int .i64 (ik1 : Int))) 12 (.int .i64 ((a0.length : Nat) : Int))) 0 va0) 1 va1) := ⟨f, by rw [upd_self hf13, upd_self hf12, upd_self hf0, upd_self hf1]⟩
        have hinck1 := addI_lt hltk1 hbdik1
        refine W.seq ?_
        refine W.region ?_
        refine O.lss rfl rfl rfl rfl ?_
        refine WL.nil ?_
        refine W.seq ?_
        refine W.cond_true (congrArg Value.bool (decide_eq_true hltk1)) ?_
        refine W.skip ?_
        refine W.seq ?_
        refine W.block ?_
        refine W.seq ?_
        refine W.region ?_
        refine O.move (v := (.int .i64 (ik1 : Int))) rfl rfl rfl ?_
        refine O.assign (v := (.int .i64 (ik1 : Int))) rfl rfl rfl ?_
        refine WL.nil ?_
        refine W.seq ?_
        obtain ⟨x1, hx1, hm2⟩ := bind_some hm2
        obtain ⟨p1, hp1, hrp1⟩ := fix_indexAddr Tryd.underlying22 sz3 (H.arg ha0) hx1
        obtain ⟨x2, hx2, hm2⟩ := bind_some hm2
        obtain ⟨p2, hp2, hrp2⟩ := fix_indexAddr Tryd.underlying22 sz3 (H.arg ha1) hx2
        refine W.drawN 8 (fun f => f 0 = va0 ∧ f 1 = va1 ∧ f 12 = (.int .i64 ((a0.length : Nat) : Int)) ∧ f 13 = (.int .i64 (ik1 : Int)) ∧ f 19 = (.int .i64 x1) ∧ f 23 = (.int .i64 x2)) fol (by kernel_rfl) ?_ ?_
        · skip
          refine PL.of (fun _ w8 _ hx => O.move (v := va0) rfl rfl rfl (WL.nil ⟨rfl, hx⟩)) ?_
          refine PL.of (fun _ w8 _ hx => O.move (v := (.int .i64 (ik1 : Int))) rfl rfl rfl (WL.nil ⟨rfl, hx⟩)) ?_
          refine PL.of (fun _ w8 _ hx => hrp1 rfl rfl rfl rfl (WL.nil ⟨rfl, hx⟩)) ?_
          refine PL.of (fun _ w8 _ hx => by have hp1 := hp1.mono hx; exact O.load sc3 rfl rfl rfl (hp1.flat 0 _ rfl) (WL.nil ⟨rfl, hx⟩)) ?_
          refine PL.of (fun _ w8 _ hx => O.move (v := va1) rfl rfl rfl (WL.nil ⟨rfl, hx⟩)) ?_
          refine PL.of (fun _ w8 _ hx => O.move (v := (.int .i64 (ik1 : Int))) rfl rfl rfl (WL.nil ⟨rfl, hx⟩)) ?_
          refine PL.of (fun _ w8 _ hx => hrp2 rfl rfl rfl rfl (WL.nil ⟨rfl, hx⟩)) ?_
          refine PL.of (fun _ w8 _ hx => by have hp2 := hp2.mono hx; exact O.load sc3 rfl rfl rfl (hp2.flat 0 _ rfl) (WL.nil ⟨rfl, hx⟩)) ?_
          refine PL.nil ?_
          exact ⟨rfl, rfl, rfl, rfl, rfl, rfl⟩
        · skip
          rintro f w ⟨hf0, hf1, hf12, hf13, hf19, hf23⟩ hmd hx
          have H := H.ext hx
          have hp1 := hp1.mono hx
          have hp2 := hp2.mono hx
          obtain ⟨u2, rfl⟩ : ∃ u2, f = (upd (upd (upd (upd (upd (upd u2 0 va0) 1 va1) 12 (.int .i64 ((a0.length : Nat) : Int))) 13 (.int .i64 (ik1 : Int))) 19 (.int .i64 x1)) 23 (.int .i64 x2)) := ⟨f, by rw [upd_self hf0, upd_self hf1, upd_self hf12, upd_self hf13, upd_self hf19, upd_self hf23]⟩
          refine O.neq rfl rfl rfl rfl ?_
          refine WL.nil ?_
          rcases ite_some hm2 with ⟨hc2, hm2⟩ | ⟨hc2, hm2⟩
          · refine W.cond_true (congrArg Value.bool hc2) ?_
            refine W.seq ?_
            refine W.region ?_
            refine O.assign (v := (.bool false)) rfl rfl rfl ?_
            refine WL.nil ?_
            refine W.ret ?_
            obtain rfl := Option.some.inj hm2
            refine ⟨_, rfl, ?_⟩
            rintro rfl
            have hq : false = r0 := Option.some.inj (show some false = some r0 from hm)
            subst hq
            exact ends1 Tryd.results52 rfl ⟨_, rfl, H.base, rfl⟩
          · refine W.cond_false (congrArg Value.bool hc2) ?_
            refine W.skip ?_
            refine W.region ?_
            refine O.add rfl rfl rfl rfl hinck1 ?_
            refine O.move (v := .int .i64 ((ik1 : Int) + 1)) rfl rfl rfl ?_
            refine WL.nil ?_
            obtain rfl := Option.some.inj hm2
            exact ⟨_, rfl, rfl, rangeN_next hdropk1, rfl, rfl, rfl, rfl, H⟩
      · skip
        rintro ik1 _ f w ⟨rfl, hdropk1, hf13, hf12, hf0, hf1, H⟩ hfin
        have hltk1 := rangeN_end hdropk1
        obtain ⟨u3, rfl⟩ : ∃ u3, f = (upd (upd (upd (upd u3 13 (.int .i64 (ik1 : Int))) 12 (.int .i64 ((a0.length : Nat) : Int))) 0 va0) 1 va1) := ⟨f, by rw [upd_self hf13, upd_self hf12, upd_self hf0, upd_self hf1]⟩
        refine W.seq ?_
        refine W.region ?_
        refine O.lss rfl rfl rfl rfl ?_
        refine WL.nil ?_
        refine W.seq ?_
        refine W.cond_false (congrArg Value.bool (decide_eq_false hltk1)) ?_
        refine W.exit ?_
        obtain rfl : Ctl.next () = o1 := hfin
        refine xT rfl ?_
        exact ⟨rfl, H⟩
    · skip
      rintro f w ⟨rfl, H⟩
      refine W.seq ?_
      refine W.region ?_
      refine O.assign (v := (.bool true)) rfl rfl rfl ?_
      refine WL.nil ?_
      refine W.ret ?_
      have hq : true = r0 := Option.some.inj (show some true = some r0 from hm)
      subst hq
      exact ends1 Tryd.results52 rfl ⟨_, rfl, H.base, rfl⟩

theorem c_flag_Traps_c1 {w0 : World} (hT : TabH Tryd.prog w0) (a0 : Int) (a1 : Int) {r0 : Bool} (hm : flag_Traps_c1 a0 a1 = some r0) :
    Calls Tryd.prog 71 #[(.int .i64 a0), (.int .i64 a1)] w0 (Ret w0 fun _ v => v = (.bool r0)) := by
  unfold flag_Traps_c1 at hm
  refine calls_of_W Tryd.func71 rfl Tryd.ntmps71 (Nat.le_of_ble_eq_true rfl) ?_
  have H := Inv.start (w := w0)
  refine W.seq ?_
  refine W.region ?_
  refine O.assign (v := (.bool false)) rfl rfl rfl ?_
  refine WL.nil ?_
  refine W.seq ?_
  refine W.region ?_
  refine O.move (v := (.int .i64 a0)) rfl rfl rfl ?_
  obtain ⟨t1, hy1, hm⟩ := bind_some hm
  refine O.call Tryd.call39 rfl rfl rfl (c_flag_digitsOf (hT.mono H.base) _ hy1) ?_
  rintro v1 w1 hb1 ho1
  have H := H.addOwn hb1 ho1
  obtain ⟨t2, hy2, hm⟩ := bind_some hm
  refine O.call Tryd.call45 rfl rfl rfl (c_flag_turned _ _ (H.own 0 rfl) hy2) ?_
  rintro v2 w2 hb2 ho2
  have H := H.addOwn hb2 ho2
  refine O.move (v := (.int .i64 a1)) rfl rfl rfl ?_
  obtain ⟨t3, hy3, hm⟩ := bind_some hm
  refine O.call Tryd.call39 rfl rfl rfl (c_flag_digitsOf (hT.mono H.base) _ hy3) ?_
  rintro v3 w3 hb3 ho3
  have H := H.addOwn hb3 ho3
  obtain ⟨t4, hy4, hm⟩ := bind_some hm
  refine O.call Tryd.call52 rfl rfl rfl (c_slices_Equal_int _ _ (H.own 1 rfl) _ _ (H.own 2 rfl) hy4) ?_
  rintro _ w4 hb4 rfl
  have H := H.ext hb4
  refine O.assign (v := (.bool t4)) rfl rfl rfl ?_
  refine WL.nil ?_
  refine W.ret ?_
  have hq : t4 = r0 := Option.some.inj (show some t4 = some r0 from hm)
  subst hq
  exact ends1 Tryd.results71 rfl ⟨_, rfl, H.base, rfl⟩

theorem c_flag_Traps {w0 : World} (hT : TabH Tryd.prog w0) (va0 : Value) (a0 : (List GMeaning)) (ha0 : SliceR w0 va0 a0) {r0 : (List GArr2)} {r1 : Int} (hm : flag_Traps a0 = some (r0, r1)) :
    Calls Tryd.prog 32 #[va0] w0 (Ret w0 fun w v => ∃ vr0 : Value, v = .tuple #[vr0, (.int .i64 r1)] ∧ OwnR w0 w vr0 84 r0) := by
  unfold flag_Traps at hm
  refine calls_of_W Tryd.func32 rfl Tryd.ntmps32 (Nat.le_of_ble_eq_true rfl) ?_
  have H := Inv.start (w := w0)
  refine W.seq ?_
  refine W.region ?_
  have H := H.addNil (α := GArr2) (E := 84)
  refine O.assign (v := (.slice none 0 0)) rfl rfl rfl ?_
  refine O.assign (v := (.int .i64 0)) rfl rfl rfl ?_
  refine WL.nil ?_
  refine W.seq ?_
  refine W.seq ?_
  refine W.region ?_
  refine O.move (v := va0) rfl rfl rfl ?_
  obtain ⟨t1, hy1, hm⟩ := bind_some hm
  refine O.call Tryd.call22 rfl rfl rfl (c_flag_ValidBook _ _ (H.arg ha0) hy1) ?_
  rintro _ w1 hb1 rfl
  have H := H.ext hb1
  refine O.not rfl rfl rfl ?_
  refine WL.nil ?_
  rcases ite_some hm with ⟨hc1, hm⟩ | ⟨hc1, hm⟩
  · refine W.cond_true (congrArg Value.bool hc1) ?_
    refine W.seq ?_
    refine W.region ?_
    have H := H.addNil (α := GArr2) (E := 84)
    refine O.assign (v := (.slice none 0 0)) rfl rfl rfl ?_
    refine O.assign (v := (.int .i64 1)) rfl rfl rfl ?_
    refine WL.nil ?_
    refine W.ret ?_
    have hq : (([] : List GArr2), 1) = (r0, r1) := Option.some.inj (show some (([] : List GArr2), 1) = some (r0, r1) from hm)
    obtain ⟨he0, hq0⟩ := Prod.mk.inj hq; clear hq; subst he0
    subst hq0
    exact ends2 Tryd.results32 rfl rfl ⟨_, rfl, H.base, ⟨_, rfl, H.ownR 1 rfl⟩⟩
  · refine W.cond_false (congrArg Value.bool hc1) ?_
    refine W.skip ?_
    refine W.seq ?_
    refine W.region ?_
    refine O.move (v := va0) rfl rfl rfl ?_
    obtain ⟨t2, hy2, hm⟩ := bind_some hm
    refine O.call Tryd.call69 rfl rfl rfl (c_flag_pairs _ _ (H.arg ha0) _ (fun x0 x1 => flag_Traps_c1 x0 x1) (fun w hw x0 x1 _ hy => callsV_mk Tryd.call71 (c_flag_Traps_c1 ((hT.mono H.base).mono hw) x0 x1 hy)) hy2) ?_
    rintro v1 w2 hb2 ho1
    have H := H.addOwn hb2 ho1
    refine O.assign (v := v1) rfl rfl rfl ?_
    refine O.assign (v := (.int .i64 0)) rfl rfl rfl ?_
    refine WL.nil ?_
    refine W.ret ?_
    have hq : (t2, 0) = (r0, r1) := Option.some.inj (show some (t2, 0) = some (r0, r1) from hm)
    obtain ⟨he0, hq0⟩ := Prod.mk.inj hq; clear hq; subst he0
    subst hq0
    exact ends2 Tryd.results32 rfl rfl ⟨_, rfl, H.base, ⟨_, rfl, H.ownR 1 rfl⟩⟩

theorem c_noongunref07_turned {w0 : World} (va0 : Value) (a0 : (List Int)) (ha0 : SliceR w0 va0 a0) {r0 : (List Int)} (hm : noongunref07_turned a0 = some r0) :
    Calls Tryd.prog 46 #[va0] w0 (Ret w0 fun w v => OwnR w0 w v 3 r0) := by
  unfold noongunref07_turned at hm
  refine calls_of_W Tryd.func46 rfl Tryd.ntmps46 (Nat.le_of_ble_eq_true rfl) ?_
  have H := Inv.start (w := w0)
  refine W.seq ?_
  refine W.region ?_
  have H := H.addNil (α := Int) (E := 3)
  refine O.assign (v := (.slice none 0 0)) rfl rfl rfl ?_
  refine WL.nil ?_
  refine W.seq ?_
  refine W.region ?_
  have H := H.addNil (α := Int) (E := 3)
  refine O.assign (v := (.slice none 0 0)) rfl rfl rfl ?_
  refine WL.nil ?_
  refine W.seq ?_
  refine W.seq ?_
  refine W.region ?_
  refine O.move (v := va0) rfl rfl rfl ?_
  refine O.lenS Tryd.underlying22 (H.arg ha0) rfl rfl rfl ?_
  refine O.move (v := (.int .i64 0)) rfl rfl rfl ?_
  refine WL.nil ?_
  obtain ⟨s1, hm1, hm⟩ := bind_some hm
  refine W.via (fun f w => ∃ v4 : Value, f 3 = v4 ∧ Inv w0 w [ownI (α := Int) v4 3 s1]) ?_ ?_
  · skip
    refine W.block ?_
    have H := H.keep [1] [ownI (α := Int) (.slice none 0 0) 3 ([] : List Int)] rfl (by decide)
    refine W.rangeL (i := 0) hm1 (fun rem ik1 s f w => ∃ z2 : (List Int), ∃ v2 : Value, z2 = s ∧ a0.drop ik1 = rem ∧ f 8 = .int .i64 (ik1 : Int) ∧ f 7 = (.int .i64 ((a0.length : Nat) : Int)) ∧ f 3 = v2 ∧ f 6 = va0 ∧ Inv w0 w [ownI (α := Int) v2 3 z2]) ?_ ?_ ?_
    · skip
      exact ⟨_, (.slice none 0 0), rfl, List.drop_zero, rfl, rfl, rfl, rfl, H⟩
    · skip
      rintro yk1 xs ik1 _ st f w ⟨z2, v2, rfl, hdropk1, hf8, hf7, hf3, hf6, H⟩ hm2
      have hltk1 := drop_lt hdropk1; have hixk1 := drop_idx hdropk1
      obtain ⟨u1, rfl⟩ : ∃ u1, f = (upd (upd (upd (upd u1 8 (.int .i64 (ik1 : Int))) 7 (.int .i64 ((a0.length : Nat) : Int))) 3 v2) 6 va0) := ⟨f, by rw [upd_self hf8, upd_self hf7, upd_self hf3, upd_self hf6]⟩
      have hinck1 := addI_lt hltk1 (H.arg ha0).len_le
      refine W.seq ?_
      refine W.region ?_
      refine O.lss rfl rfl rfl rfl ?_
      refine WL.nil ?_
      refine W.seq ?_
      refine W.cond_true (congrArg Value.bool (decide_eq_true hltk1)) ?_
      refine W.skip ?_
      refine W.seq ?_
      refine W.block ?_
      refine W.seq ?_
      refine W.region ?_
      obtain ⟨p1, hp1, hrp1⟩ := fix_indexAddr Tryd.underlying22 sz3 ha0 hixk1
      refine hrp1 rfl rfl rfl rfl ?_
      refine O.load sc3 rfl rfl rfl ((hp1.mono H.base).flat 0 _ rfl) ?_
      refine O.assign (v := (.int .i64 yk1)) rfl rfl rfl ?_
      refine WL.nil ?_
      refine W.region ?_
      refine O.move (v := (.int .i64 yk1)) rfl rfl rfl ?_
      refine O.buildSlice (α := Int) [(.int .i64 yk1)] [yk1] Tryd.underlying22 el3 H rfl rfl rfl rfl rfl rfl rfl ?_
      intro v5 w1 H hb1
      refine O.move (v := v2) rfl rfl rfl ?_
      obtain ⟨t1, ht1, hm2⟩ := bind_some hm2
      refine O.append 1 Tryd.underlying22 el3 rfl H rfl (H.own 0 rfl) ht1 rfl rfl rfl rfl ?_
      intro v6 w2 H
      refine O.assign (v := v6) rfl rfl rfl ?_
      refine WL.nil ?_
      refine W.region ?_
      refine O.add rfl rfl rfl rfl hinck1 ?_
      refine O.move (v := .int .i64 ((ik1 : Int) + 1)) rfl rfl rfl ?_
      refine WL.nil ?_
      have H := H.keep [1] [ownI (α := Int) v6 3 t1] rfl (by decide)
      obtain rfl := Option.some.inj hm2
      exact ⟨_, rfl, _, v6, rfl, drop_next hdropk1, rfl, rfl, rfl, rfl, H⟩
    · skip
      rintro ik1 _ f w ⟨z2, v2, rfl, hdropk1, hf8, hf7, hf3, hf6, H⟩ hfin
      have hltk1 := drop_end hdropk1
      obtain ⟨u2, rfl⟩ : ∃ u2, f = (upd (upd (upd (upd u2 8 (.int .i64 (ik1 : Int))) 7 (.int .i64 ((a0.length : Nat) : Int))) 3 v2) 6 va0) := ⟨f, by rw [upd_self hf8, upd_self hf7, upd_self hf3, upd_self hf6]⟩
      refine W.seq ?_
      refine W.region ?_
      refine O.lss rfl rfl rfl rfl ?_
      refine WL.nil ?_
      refine W.seq ?_
      refine W.cond_false (congrArg Value.bool (decide_eq_false hltk1)) ?_
      refine W.exit ?_
      have hq : z2 = s1 := hfin
      subst hq
      refine xT rfl ?_
      exact ⟨v2, rfl, H⟩
  · skip
    rintro f w ⟨v4, hf3, H⟩
    obtain ⟨u3, rfl⟩ : ∃ u3, f = (upd u3 3 v4) := ⟨f, by rw [upd_self hf3]⟩
    refine W.seq ?_
    refine W.region ?_
    refine O.move (v := v4) rfl rfl rfl ?_
    refine O.assign (v := v4) rfl rfl rfl ?_
    refine WL.nil ?_
    refine W.ret ?_
    have hq : s1 = r0 := Option.some.inj (show some s1 = some r0 from hm)
    subst hq
    exact ends1 Tryd.results46 rfl ⟨_, rfl, H.base, H.ownR 0 rfl⟩

set_option maxRecDepth 20000 in
theorem c_noongunref07_Traps {w0 : World} (hT : TabH Tryd.prog w0) (va0 : Value) (a0 : (List GMeaning)) (ha0 : SliceR w0 va0 a0) {r0 : (List GArr2)} {r1 : Int} (hm : noongunref07_Traps a0 = some (r0, r1)) :
    Calls Tryd.prog 33 #[va0] w0 (Ret w0 fun w v => ∃ vr0 : Value, v = .tuple #[vr0, (.int .i64 r1)] ∧ OwnR w0 w vr0 84 r0) := by
  unfold noongunref07_Traps at hm
  refine calls_of_W Tryd.func33 rfl Tryd.ntmps33 (Nat.le_of_ble_eq_true rfl) ?_
  have H := Inv.start (w := w0)
  refine W.seq ?_
  refine W.region ?_
  have H := H.addNil (α := GArr2) (E := 84)
  refine O.assign (v := (.slice none 0 0)) rfl rfl rfl ?_
  refine O.assign (v := (.int .i64 0)) rfl rfl rfl ?_
  refine WL.nil ?_
  refine W.seq ?_
  refine W.seq ?_
  refine W.region ?_
  refine O.move (v := va0) rfl rfl rfl ?_
  obtain ⟨t1, hy1, hm⟩ := bind_some hm
  refine O.call Tryd.call23 rfl rfl rfl (c_noongunref07_ValidBook _ _ (H.arg ha0) hy1) ?_
  rintro _ w1 hb1 rfl
  have H := H.ext hb1
  refine O.not rfl rfl rfl ?_
  refine WL.nil ?_
  rcases ite_some hm with ⟨hc1, hm⟩ | ⟨hc1, hm⟩
  · refine W.cond_true (congrArg Value.bool hc1) ?_
    refine W.seq ?_
    refine W.region ?_
    have H := H.addNil (α := GArr2) (E := 84)
    refine O.assign (v := (.slice none 0 0)) rfl rfl rfl ?_
    refine O.assign (v := (.int .i64 1)) rfl rfl rfl ?_
    refine WL.nil ?_
    refine W.ret ?_
    have hq : (([] : List GArr2), 1) = (r0, r1) := Option.some.inj (show some (([] : List GArr2), 1) = some (r0, r1) from hm)
    obtain ⟨he0, hq0⟩ := Prod.mk.inj hq; clear hq; subst he0
    subst hq0
    exact ends2 Tryd.results33 rfl rfl ⟨_, rfl, H.base, ⟨_, rfl, H.ownR 1 rfl⟩⟩
  · refine W.cond_false (congrArg Value.bool hc1) ?_
    refine W.skip ?_
    refine W.seq ?_
    refine W.region ?_
    have H := H.addNil (α := GArr2) (E := 84)
    refine O.assign (v := (.slice none 0 0)) rfl rfl rfl ?_
    refine WL.nil ?_
    refine W.seq ?_
    refine W.seq ?_
    refine W.region ?_
    refine O.move (v := va0) rfl rfl rfl ?_
    refine O.lenS Tryd.underlying33 (H.arg ha0) rfl rfl rfl ?_
    refine O.move (v := (.int .i64 0)) rfl rfl rfl ?_
    refine WL.nil ?_
    obtain ⟨s1, hm1, hm⟩ := bind_some hm
    refine W.via (fun f w => ∃ v4 : Value, f 4 = v4 ∧ Inv w0 w [ownI (α := GArr2) v4 84 s1]) ?_ ?_
    · skip
      refine W.block ?_
      have hbdik1 := (H.arg ha0).len_le
      have H := H.keep [1] [ownI (α := GArr2) (.slice none 0 0) 84 ([] : List GArr2)] rfl (by decide)
      refine W.rangeN (i := 0) hm1 (fun rem ik1 s f w => ∃ z2 : (List GArr2), ∃ v2 : Value, z2 = s ∧ (ik1 : Int) + rem = max 0 ((a0.length : Nat) : Int) ∧ f 14 = .int .i64 (ik1 : Int) ∧ f 13 = (.int .i64 ((a0.length : Nat) : Int)) ∧ f 0 = va0 ∧ f 4 = v2 ∧ f 12 = va0 ∧ Inv w0 w [ownI (α := GArr2) v2 84 z2]) ?_ ?_ ?_
      · skip
        exact ⟨_, (.slice none 0 0), rfl, rangeN_start, rfl, rfl, rfl, rfl, rfl, H⟩
      · skip
        rintro k ik1 _ st f w ⟨z2, v2, rfl, hdropk1, hf14, hf13, hf0, hf4, hf12, H⟩ hm2
        have hltk1 := rangeN_lt hdropk1
        obtain ⟨u1, rfl⟩ : ∃ u1, f = (upd (upd (upd (upd (upd u1 14 (.int .i64 (ik1 : Int))) 13 (.int .i64 ((a0.length : Nat) : Int))) 0 va0) 4 v2) 12 va0) := ⟨f, by rw [upd_self hf14, upd_self hf13, upd_self hf0, upd_self hf4, upd_self hf12]⟩
        have hinck1 := addI_lt hltk1 hbdik1
        refine W.seq ?_
        refine W.region ?_
        refine O.lss rfl rfl rfl rfl ?_
        refine WL.nil ?_
        refine W.seq ?_
        refine W.cond_true (congrArg Value.bool (decide_eq_true hltk1)) ?_
        refine W.skip ?_
        refine W.seq ?_
        obtain ⟨s2, hm3, hm2⟩ := bind_some hm2
        refine W.via (fun f w => ∃ v5 : Value, f 0 = va0 ∧ f 4 = v5 ∧ f 12 = va0 ∧ f 13 = (.int .i64 ((a0.length : Nat) : Int)) ∧ f 14 = (.int .i64 (ik1 : Int)) ∧ Inv w0 w [ownI (α := GArr2) v5 84 s2]) ?_ ?_
        · skip
          refine W.block ?_
          refine W.seq ?_
          refine W.region ?_
          refine O.move (v := (.int .i64 (ik1 : Int))) rfl rfl rfl ?_
          obtain ⟨x1, hx1, hm3⟩ := bind_some hm3
          obtain ⟨p1, hp1, hrp1⟩ := fix_indexAddr Tryd.underlying33 sz39 ha0 hx1
          refine hrp1 rfl rfl rfl rfl ?_
          refine O.loadA [(.int .i64 x1.Number), (.string x1.Text)] ag39 rfl rfl rfl rfl ((hp1.mono H.base).flat) ?_
          refine O.alloc [(.int .i64 0), (.string ByteArray.empty)] ze39 H rfl rfl rfl ?_
          intro b1 w2 H hb2
          refine O.assign (v := (.int .i64 (ik1 : Int))) rfl rfl rfl ?_
          refine O.store 1 0 [(.int .i64 x1.Number), (.string x1.Text)] [(.int .i64 x1.Number), (.string x1.Text)] sz39 H rfl rfl rfl rfl rfl rfl ⟨⟨rfl, rfl⟩, rfl⟩ (one_cons rfl (one_cons rfl one_nil)) ?_
          intro w3 H
          refine WL.nil ?_
          refine W.seq ?_
          refine W.region ?_
          refine O.move (v := va0) rfl rfl rfl ?_
          refine O.move (v := (.int .i64 (ik1 : Int))) rfl rfl rfl ?_
          obtain ⟨t2, ht2, hm3⟩ := bind_some hm3
          refine O.add rfl rfl rfl rfl ht2 ?_
          obtain ⟨t3, ht3, hm3⟩ := bind_some hm3
          obtain ⟨v6, hs1, hrv6⟩ := fix_sliceL Tryd.underlying33 sz39 ha0 ht3
          refine hrv6 rfl rfl rfl rfl ?_
          refine O.lenS Tryd.underlying33 (H.arg hs1) rfl rfl rfl ?_
          refine O.move (v := (.int .i64 0)) rfl rfl rfl ?_
          refine WL.nil ?_
          obtain ⟨s3, hm4, hm3⟩ := bind_some hm3
          refine W.via (fun f w => ∃ v10 : Value, f 0 = va0 ∧ f 4 = v10 ∧ f 12 = va0 ∧ f 13 = (.int .i64 ((a0.length : Nat) : Int)) ∧ f 14 = (.int .i64 (ik1 : Int)) ∧ Inv w0 w [ownI (α := GArr2) v10 84 s3]) ?_ ?_
          · skip
            refine W.block ?_
            refine W.rangeL (i := 0) hm4 (fun rem ik2 s f w => ∃ z5 : (List GArr2), ∃ v8 : Value, z5 = s ∧ t3.drop ik2 = rem ∧ f 24 = .int .i64 (ik2 : Int) ∧ f 23 = (.int .i64 ((t3.length : Nat) : Int)) ∧ f 0 = va0 ∧ f 4 = v8 ∧ f 6 = (.pointer (some ⟨b1, 0, none⟩)) ∧ f 12 = va0 ∧ f 13 = (.int .i64 ((a0.length : Nat) : Int)) ∧ f 14 = (.int .i64 (ik1 : Int)) ∧ f 22 = v6 ∧ Inv w0 w [ownI (α := GArr2) v8 84 z5, boxI b1 39 [(.int .i64 x1.Number), (.string x1.Text)]]) ?_ ?_ ?_
            · skip
              exact ⟨_, v2, rfl, List.drop_zero, rfl, rfl, rfl, rfl, rfl, rfl, rfl, rfl, rfl, H⟩
            · skip
              rintro yk2 xs ik2 _ st f w ⟨z5, v8, rfl, hdropk2, hf24, hf23, hf0, hf4, hf6, hf12, hf13, hf14, hf22, H⟩ hm5
              have hltk2 := drop_lt hdropk2; have hixk2 := drop_idx hdropk2
              obtain ⟨u2, rfl⟩ : ∃ u2, f = (upd (upd (upd (upd (upd (upd (upd (upd (upd u2 24 (.int .i64 (ik2 : Int))) 23 (.int .i64 ((t3.length : Nat) : Int))) 0 va0) 4 v8) 6 (.pointer (some ⟨b1, 0, none⟩))) 12 va0) 13 (.int .i64 ((a0.length : Nat) : Int))) 14 (.int .i64 (ik1 : Int))) 22 v6) := ⟨f, by rw [upd_self hf24, upd_self hf23, upd_self hf0, upd_self hf4, upd_self hf6, upd_self hf12, upd_self hf13, upd_self hf14, upd_self hf22]⟩
              have hinck2 := addI_lt hltk2 (H.arg hs1).len_le
              refine W.seq ?_
              refine W.region ?_
              refine O.lss rfl rfl rfl rfl ?_
              refine WL.nil ?_
              refine W.seq ?_
              refine W.cond_true (congrArg Value.bool (decide_eq_true hltk2)) ?_
              refine W.skip ?_
              refine W.seq ?_
              obtain ⟨s4, hm6, hm5⟩ := bind_some hm5
              refine W.via (fun f w => ∃ v11 : Value, f 0 = va0 ∧ f 4 = v11 ∧ f 6 = (.pointer (some ⟨b1, 0, none⟩)) ∧ f 12 = va0 ∧ f 13 = (.int .i64 ((a0.length : Nat) : Int)) ∧ f 14 = (.int .i64 (ik1 : Int)) ∧ f 22 = v6 ∧ f 23 = (.int .i64 ((t3.length : Nat) : Int)) ∧ f 24 = (.int .i64 (ik2 : Int)) ∧ Inv w0 w [ownI (α := GArr2) v11 84 s4, boxI b1 39 [(.int .i64 x1.Number), (.string x1.Text)]]) ?_ ?_
              · skip
                refine W.block ?_
                refine W.seq ?_
                refine W.region ?_
                obtain ⟨p2, hp2, hrp2⟩ := fix_indexAddr Tryd.underlying33 sz39 hs1 hixk2
                refine hrp2 rfl rfl rfl rfl ?_
                refine O.loadA [(.int .i64 yk2.Number), (.string yk2.Text)] ag39 rfl rfl rfl rfl ((hp2.mono H.base).flat) ?_
                refine O.alloc [(.int .i64 0), (.string ByteArray.empty)] ze39 H rfl rfl rfl ?_
                intro b2 w4 H hb3
                refine O.store 2 0 [(.int .i64 yk2.Number), (.string yk2.Text)] [(.int .i64 yk2.Number), (.string yk2.Text)] sz39 H rfl rfl rfl rfl rfl rfl ⟨⟨rfl, rfl⟩, rfl⟩ (one_cons rfl (one_cons rfl one_nil)) ?_
                intro w5 H
                refine WL.nil ?_
                refine W.seq ?_
                obtain ⟨t4, hy2, hm6⟩ := bind_some hm6
                obtain ⟨t5, hy3, hm6⟩ := bind_some hm6
                refine W.draw 6 (fun k v wk => match k with | 0 => v = (.pointer (some (Addr.add (Addr.mk b1 0 none) 0))) | 1 => v = (.int .i64 x1.Number) | 2 => OwnR w5 wk v 3 t4 | 3 => OwnR w5 wk v 3 t5 | 4 => v = (.pointer (some (Addr.add (Addr.mk b2 0 none) 0))) | 5 => v = (.int .i64 yk2.Number) | _ => True) (by intro k v w w' h hb; match k, h with | 0, h => exact h | 1, h => exact h | 2, h => exact OwnR.mono h hb | 3, h => exact OwnR.mono h hb | 4, h => exact h | 5, h => exact h | _ + 6, h => exact h) fol (by kernel_rfl) ?_ ?_
                · skip
                  refine ⟨⟨⟨⟨⟨⟨trivial, ?_⟩, ?_⟩, ?_⟩, ?_⟩, ?_⟩, ?_⟩
                  · skip
                    intro f wk hx hf hd
                    have H := H.ext hx
                    have hf6 : f 6 = (.pointer (some ⟨b1, 0, none⟩)) := hf 6 rfl
                    obtain ⟨u3, rfl⟩ : ∃ u3, f = (upd u3 6 (.pointer (some ⟨b1, 0, none⟩))) := ⟨f, by rw [upd_self hf6]⟩
                    refine O.fieldAddr fd39_0 rfl rfl rfl ?_
                    refine WL.nil ?_
                    exact ⟨Below.refl _ _, _, rfl, rfl⟩
                  · skip
                    intro f wk hx hf hd
                    have H := H.ext hx
                    have hf28 : f 28 = (.pointer (some (Addr.add (Addr.mk b1 0 none) 0))) := hd 0 rfl
                    obtain ⟨u4, rfl⟩ : ∃ u4, f = (upd u4 28 (.pointer (some (Addr.add (Addr.mk b1 0 none) 0)))) := ⟨f, by rw [upd_self hf28]⟩
                    refine O.load sc3 rfl rfl rfl (H.cell 1 rfl 0 _ rfl) ?_
                    refine WL.nil ?_
                    exact ⟨Below.refl _ _, _, rfl, rfl⟩
                  · skip
                    intro f wk hx hf hd
                    have H := H.ext hx
                    have hf29 : f 29 = (.int .i64 x1.Number) := hd 1 rfl
                    obtain ⟨u5, rfl⟩ : ∃ u5, f = (upd u5 29 (.int .i64 x1.Number)) := ⟨f, by rw [upd_self hf29]⟩
                    refine O.call Tryd.call40 rfl rfl rfl (c_noongunref07_digitsOf (hT.mono H.base) _ hy2) ?_
                    rintro v12 w6 hb4 ho1
                    have H := H.addOwn hb4 ho1
                    refine WL.nil ?_
                    exact ⟨hb4, _, rfl, OwnR.base ho1 hx.size⟩
                  · skip
                    intro f wk hx hf hd
                    have H := H.ext hx
                    have ho30 : OwnR w5 wk (f 30) 3 t4 := hd 2 rfl
                    obtain ⟨v12, hf30⟩ : ∃ v12, f 30 = v12 := ⟨_, rfl⟩
                    rw [hf30] at ho30
                    obtain ⟨u6, rfl⟩ : ∃ u6, f = (upd u6 30 v12) := ⟨f, by rw [upd_self hf30]⟩
                    refine O.call Tryd.call46 rfl rfl rfl (c_noongunref07_turned _ _ ho30.sliceR hy3) ?_
                    rintro v13 w7 hb5 ho2
                    have H := H.addOwn hb5 ho2
                    refine WL.nil ?_
                    exact ⟨hb5, _, rfl, OwnR.base ho2 hx.size⟩
                  · skip
                    intro f wk hx hf hd
                    have H := H.ext hx
                    have hf8 : f 8 = (.pointer (some ⟨b2, 0, none⟩)) := hf 8 rfl
                    obtain ⟨u7, rfl⟩ : ∃ u7, f = (upd u7 8 (.pointer (some ⟨b2, 0, none⟩))) := ⟨f, by rw [upd_self hf8]⟩
                    refine O.fieldAddr fd39_0 rfl rfl rfl ?_
                    refine WL.nil ?_
                    exact ⟨Below.refl _ _, _, rfl, rfl⟩
                  · skip
                    intro f wk hx hf hd
                    have H := H.ext hx
                    have hf32 : f 32 = (.pointer (some (Addr.add (Addr.mk b2 0 none) 0))) := hd 4 rfl
                    obtain ⟨u8, rfl⟩ : ∃ u8, f = (upd u8 32 (.pointer (some (Addr.add (Addr.mk b2 0 none) 0)))) := ⟨f, by rw [upd_self hf32]⟩
                    refine O.load sc3 rfl rfl rfl (H.cell 2 rfl 0 _ rfl) ?_
                    refine WL.nil ?_
                    exact ⟨Below.refl _ _, _, rfl, rfl⟩
                · skip
                  intro f wk hx hf hmd hd
                  have hf0 : f 0 = va0 := hf 0 rfl
                  have hf4 : f 4 = v8 := hf 4 rfl
                  have hf6 : f 6 = (.pointer (some ⟨b1, 0, none⟩)) := hf 6 rfl
                  have hf8 : f 8 = (.pointer (some ⟨b2, 0, none⟩)) := hf 8 rfl
                  have hf12 : f 12 = va0 := hf 12 rfl
                  have hf13 : f 13 = (.int .i64 ((a0.length : Nat) : Int)) := hf 13 rfl
                  have hf14 : f 14 = (.int .i64 (ik1 : Int)) := hf 14 rfl
                  have hf22 : f 22 = v6 := hf 22 rfl
                  have hf23 : f 23 = (.int .i64 ((t3.length : Nat) : Int)) := hf 23 rfl
                  have hf24 : f 24 = (.int .i64 (ik2 : Int)) := hf 24 rfl
                  have ho31 : OwnR w5 wk (f 31) 3 t5 := hd 3 rfl
                  obtain ⟨v13, hf31⟩ : ∃ v13, f 31 = v13 := ⟨_, rfl⟩
                  rw [hf31] at ho31
                  have hf33 : f 33 = (.int .i64 yk2.Number) := hd 5 rfl
                  have H := H.addOwn hx ho31
                  obtain ⟨u9, rfl⟩ : ∃ u9, f = (upd (upd (upd (upd (upd (upd (upd (upd (upd (upd (upd (upd u9 0 va0) 4 v8) 6 (.pointer (some ⟨b1, 0, none⟩))) 8 (.pointer (some ⟨b2, 0, none⟩))) 12 va0) 13 (.int .i64 ((a0.length : Nat) : Int))) 14 (.int .i64 (ik1 : Int))) 22 v6) 23 (.int .i64 ((t3.length : Nat) : Int))) 24 (.int .i64 (ik2 : Int))) 31 v13) 33 (.int .i64 yk2.Number)) := ⟨f, by rw [upd_self hf0, upd_self hf4, upd_self hf6, upd_self hf8, upd_self hf12, upd_self hf13, upd_self hf14, upd_self hf22, upd_self hf23, upd_self hf24, upd_self hf31, upd_self hf33]⟩
                  obtain ⟨t6, hy4, hm6⟩ := bind_some hm6
                  refine O.call Tryd.call40 rfl rfl rfl (c_noongunref07_digitsOf (hT.mono H.base) _ hy4) ?_
                  rintro v14 w8 hb6 ho3
                  have H := H.addOwn hb6 ho3
                  obtain ⟨t7, hy5, hm6⟩ := bind_some hm6
                  refine O.call Tryd.call16 rfl rfl rfl (c_noongunref07_SameInts _ _ (H.own 3 rfl) _ _ (H.own 4 rfl) hy5) ?_
                  rintro _ w9 hb7 rfl
                  have H := H.ext hb7
                  refine WL.nil ?_
                  obtain ⟨s5, hm7, hm6⟩ := bind_some hm6
                  refine W.via (fun f w => ∃ v15 : Value, f 0 = va0 ∧ f 4 = v15 ∧ f 6 = (.pointer (some ⟨b1, 0, none⟩)) ∧ f 12 = va0 ∧ f 13 = (.int .i64 ((a0.length : Nat) : Int)) ∧ f 14 = (.int .i64 (ik1 : Int)) ∧ f 22 = v6 ∧ f 23 = (.int .i64 ((t3.length : Nat) : Int)) ∧ f 24 = (.int .i64 (ik2 : Int)) ∧ Inv w0 w [ownI (α := GArr2) v15 84 s5, boxI b1 39 [(.int .i64 x1.Number), (.string x1.Text)]]) ?_ ?_
                  · skip
                    rcases ite_some hm7 with ⟨hc2, hm7⟩ | ⟨hc2, hm7⟩
                    · refine W.cond_true (congrArg Value.bool hc2) ?_
                      refine W.region ?_
                      refine O.move (v := v8) rfl rfl rfl ?_
                      refine O.fieldAddr fd39_0 rfl rfl rfl ?_
                      refine O.load sc3 rfl rfl rfl (H.cell 1 rfl 0 _ rfl) ?_
                      refine O.fieldAddr fd39_0 rfl rfl rfl ?_
                      refine O.load sc3 rfl rfl rfl (H.cell 2 rfl 0 _ rfl) ?_
                      refine O.build (v := (.agg (Flat.cells (GArr2.mk x1.Number yk2.Number)).toArray)) (fun w => bd84_a _ _ w) rfl rfl rfl ?_
                      refine O.buildSlice (α := GArr2) [(.agg (Flat.cells (GArr2.mk x1.Number yk2.Number)).toArray)] [(GArr2.mk x1.Number yk2.Number)] Tryd.underlying46 el84 H rfl rfl rfl rfl rfl rfl rfl ?_
                      intro v16 w10 H hb8
                      obtain ⟨t8, ht8, hm7⟩ := bind_some hm7
                      refine O.append 0 Tryd.underlying46 el84 rfl H rfl (H.own 5 rfl) ht8 rfl rfl rfl rfl ?_
                      intro v17 w11 H
                      refine O.assign (v := v17) rfl rfl rfl ?_
                      refine WL.nil ?_
                      have H := H.keep [0, 1] [ownI (α := GArr2) v17 84 t8, boxI b1 39 [(.int .i64 x1.Number), (.string x1.Text)]] rfl (by decide)
                      have hq : t8 = s5 := Option.some.inj (show some t8 = some s5 from hm7)
                      subst hq
                      exact ⟨v17, rfl, rfl, rfl, rfl, rfl, rfl, rfl, rfl, rfl, H⟩
                    · refine W.cond_false (congrArg Value.bool hc2) ?_
                      refine W.skip ?_
                      have H := H.keep [0, 1] [ownI (α := GArr2) v8 84 z5, boxI b1 39 [(.int .i64 x1.Number), (.string x1.Text)]] rfl (by decide)
                      have hq : z5 = s5 := Option.some.inj (show some z5 = some s5 from hm7)
                      subst hq
                      exact ⟨v8, rfl, rfl, rfl, rfl, rfl, rfl, rfl, rfl, rfl, H⟩
                  · skip
                    rintro f w ⟨v15, hf0, hf4, hf6, hf12, hf13, hf14, hf22, hf23, hf24, H⟩
                    obtain ⟨u10, rfl⟩ : ∃ u10, f = (upd (upd (upd (upd (upd (upd (upd (upd (upd u10 0 va0) 4 v15) 6 (.pointer (some ⟨b1, 0, none⟩))) 12 va0) 13 (.int .i64 ((a0.length : Nat) : Int))) 14 (.int .i64 (ik1 : Int))) 22 v6) 23 (.int .i64 ((t3.length : Nat) : Int))) 24 (.int .i64 (ik2 : Int))) := ⟨f, by rw [upd_self hf0, upd_self hf4, upd_self hf6, upd_self hf12, upd_self hf13, upd_self hf14, upd_self hf22, upd_self hf23, upd_self hf24]⟩
                    have hq : s5 = s4 := Option.some.inj (show some s5 = some s4 from hm6)
                    subst hq
                    exact ⟨v15, rfl, rfl, rfl, rfl, rfl, rfl, rfl, rfl, rfl, H⟩
              · skip
                rintro f w ⟨v11, hf0, hf4, hf6, hf12, hf13, hf14, hf22, hf23, hf24, H⟩
                obtain ⟨u11, rfl⟩ : ∃ u11, f = (upd (upd (upd (upd (upd (upd (upd (upd (upd u11 0 va0) 4 v11) 6 (.pointer (some ⟨b1, 0, none⟩))) 12 va0) 13 (.int .i64 ((a0.length : Nat) : Int))) 14 (.int .i64 (ik1 : Int))) 22 v6) 23 (.int .i64 ((t3.length : Nat) : Int))) 24 (.int .i64 (ik2 : Int))) := ⟨f, by rw [upd_self hf0, upd_self hf4, upd_self hf6, upd_self hf12, upd_self hf13, upd_self hf14, upd_self hf22, upd_self hf23, upd_self hf24]⟩
                refine W.region ?_
                refine O.add rfl rfl rfl rfl hinck2 ?_
                refine O.move (v := .int .i64 ((ik2 : Int) + 1)) rfl rfl rfl ?_
                refine WL.nil ?_
                obtain rfl := Option.some.inj hm5
                exact ⟨_, rfl, _, v11, rfl, drop_next hdropk2, rfl, rfl, rfl, rfl, rfl, rfl, rfl, rfl, rfl, H⟩
            · skip
              rintro ik2 _ f w ⟨z5, v8, rfl, hdropk2, hf24, hf23, hf0, hf4, hf6, hf12, hf13, hf14, hf22, H⟩ hfin
              have hltk2 := drop_end hdropk2
              obtain ⟨u12, rfl⟩ : ∃ u12, f = (upd (upd (upd (upd (upd (upd (upd (upd (upd u12 24 (.int .i64 (ik2 : Int))) 23 (.int .i64 ((t3.length : Nat) : Int))) 0 va0) 4 v8) 6 (.pointer (some ⟨b1, 0, none⟩))) 12 va0) 13 (.int .i64 ((a0.length : Nat) : Int))) 14 (.int .i64 (ik1 : Int))) 22 v6) := ⟨f, by rw [upd_self hf24, upd_self hf23, upd_self hf0, upd_self hf4, upd_self hf6, upd_self hf12, upd_self hf13, upd_self hf14, upd_self hf22]⟩
              refine W.seq ?_
              refine W.region ?_
              refine O.lss rfl rfl rfl rfl ?_
              refine WL.nil ?_
              refine W.seq ?_
              refine W.cond_false (congrArg Value.bool (decide_eq_false hltk2)) ?_
              refine W.exit ?_
              have hq : z5 = s3 := hfin
              subst hq
              have H := H.keep [0] [ownI (α := GArr2) v8 84 z5] rfl (by decide)
              refine xT rfl ?_
              exact ⟨v8, rfl, rfl, rfl, rfl, rfl, H⟩
          · skip
            rintro f w ⟨v10, hf0, hf4, hf12, hf13, hf14, H⟩
            obtain ⟨u13, rfl⟩ : ∃ u13, f = (upd (upd (upd (upd (upd u13 0 va0) 4 v10) 12 va0) 13 (.int .i64 ((a0.length : Nat) : Int))) 14 (.int .i64 (ik1 : Int))) := ⟨f, by rw [upd_self hf0, upd_self hf4, upd_self hf12, upd_self hf13, upd_self hf14]⟩
            have hq : s3 = s2 := Option.some.inj (show some s3 = some s2 from hm3)
            subst hq
            exact ⟨v10, rfl, rfl, rfl, rfl, rfl, H⟩
        · skip
          rintro f w ⟨v5, hf0, hf4, hf12, hf13, hf14, H⟩
          obtain ⟨u14, rfl⟩ : ∃ u14, f = (upd (upd (upd (upd (upd u14 0 va0) 4 v5) 12 va0) 13 (.int .i64 ((a0.length : Nat) : Int))) 14 (.int .i64 (ik1 : Int))) := ⟨f, by rw [upd_self hf0, upd_self hf4, upd_self hf12, upd_self hf13, upd_self hf14]⟩
          refine W.region ?_
          refine O.add rfl rfl rfl rfl hinck1 ?_
          refine O.move (v := .int .i64 ((ik1 : Int) + 1)) rfl rfl rfl ?_
          refine WL.nil ?_
          obtain rfl := Option.some.inj hm2
          exact ⟨_, rfl, _, v5, rfl, rangeN_next hdropk1, rfl, rfl, rfl, rfl, rfl, H⟩
      · skip
        rintro ik1 _ f w ⟨z2, v2, rfl, hdropk1, hf14, hf13, hf0, hf4, hf12, H⟩ hfin
        have hltk1 := rangeN_end hdropk1
        obtain ⟨u15, rfl⟩ : ∃ u15, f = (upd (upd (upd (upd (upd u15 14 (.int .i64 (ik1 : Int))) 13 (.int .i64 ((a0.length : Nat) : Int))) 0 va0) 4 v2) 12 va0) := ⟨f, by rw [upd_self hf14, upd_self hf13, upd_self hf0, upd_self hf4, upd_self hf12]⟩
        refine W.seq ?_
        refine W.region ?_
        refine O.lss rfl rfl rfl rfl ?_
        refine WL.nil ?_
        refine W.seq ?_
        refine W.cond_false (congrArg Value.bool (decide_eq_false hltk1)) ?_
        refine W.exit ?_
        have hq : z2 = s1 := hfin
        subst hq
        refine xT rfl ?_
        exact ⟨v2, rfl, H⟩
    · skip
      rintro f w ⟨v4, hf4, H⟩
      obtain ⟨u16, rfl⟩ : ∃ u16, f = (upd u16 4 v4) := ⟨f, by rw [upd_self hf4]⟩
      refine W.seq ?_
      refine W.region ?_
      refine O.move (v := v4) rfl rfl rfl ?_
      refine O.assign (v := v4) rfl rfl rfl ?_
      refine O.assign (v := (.int .i64 0)) rfl rfl rfl ?_
      refine WL.nil ?_
      refine W.ret ?_
      have hq : (s1, 0) = (r0, r1) := Option.some.inj (show some (s1, 0) = some (r0, r1) from hm)
      obtain ⟨he0, hq0⟩ := Prod.mk.inj hq; clear hq; subst he0
      subst hq0
      exact ends2 Tryd.results33 rfl rfl ⟨_, rfl, H.base, ⟨_, rfl, H.ownR 0 rfl⟩⟩

theorem c_flag_isSet {w0 : World} (a0 : Int) {r0 : Bool} (hm : flag_isSet a0 = some r0) :
    Calls Tryd.prog 72 #[(.int .i64 a0)] w0 (Ret w0 fun _ v => v = (.bool r0)) := by
  unfold flag_isSet at hm
  refine calls_of_W Tryd.func72 rfl Tryd.ntmps72 (Nat.le_of_ble_eq_true rfl) ?_
  have H := Inv.start (w := w0)
  refine W.seq ?_
  refine W.region ?_
  refine O.assign (v := (.bool false)) rfl rfl rfl ?_
  refine WL.nil ?_
  refine W.seq ?_
  refine W.region ?_
  refine O.move (v := (.int .i64 a0)) rfl rfl rfl ?_
  obtain ⟨t1, hy1, hm⟩ := bind_some hm
  refine O.call Tryd.call58 rfl rfl rfl (c_flag_within _ _ _ hy1) ?_
  rintro _ w1 hb1 rfl
  have H := H.ext hb1
  refine O.assign (v := (.bool t1)) rfl rfl rfl ?_
  refine WL.nil ?_
  refine W.ret ?_
  have hq : t1 = r0 := Option.some.inj (show some t1 = some r0 from hm)
  subst hq
  exact ends1 Tryd.results72 rfl ⟨_, rfl, H.base, rfl⟩

end Go.Proofs
