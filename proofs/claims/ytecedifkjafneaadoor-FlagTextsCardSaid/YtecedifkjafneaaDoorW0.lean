/-
  The walks: each function does what its model says, where the model has a value. No other condition.
-/
import Derived.Test.YtecedifkjafneaaDoorRows
import Derived.Test.YtecedifkjafneaaDoorM
import Derived.Test.YtecedifkjafneaaDoorFwZ
import Derived.Test.YtecedifkjafneaaDoorShelf
import Derived.Test.YtecedifkjafneaaDoorFwUp
namespace Go.Proofs
open Go.Fw Go.RowKit Go.Shelf
theorem sz39 : SizeT Tryd.prog 39 2 := SizeT.mk (by kernel_rfl)
theorem ag39 : AggT Tryd.prog 39 2 := AggT.mk Tryd.underlying39 rfl (by kernel_rfl)
theorem ze39 : ZeroT Tryd.prog 39 (.agg #[(.int .i64 (0)), (.string ByteArray.empty)]) := ZeroT.mk (by kernel_rfl)
theorem fd39_1 : FieldT Tryd.prog 39 1 1 := FieldT.mk (k := 1) Tryd.underlying39 rfl rfl (by kernel_rfl) (by decide)
theorem sc9 : ScalarT Tryd.prog 9 := ScalarT.mk Tryd.underlying9 rfl
theorem sc3 : ScalarT Tryd.prog 3 := ScalarT.mk Tryd.underlying3 rfl
theorem sz3 : SizeT Tryd.prog 3 1 := SizeT.mk (by kernel_rfl)
theorem el3 : ElemT Tryd.prog 3 1 8 := ElemT.mk (z := (.int .i64 (0))) (by kernel_rfl) rfl
theorem fol : Tryd.prog.follows .mixedOrders = true := by kernel_rfl
theorem fd39_0 : FieldT Tryd.prog 39 0 0 := FieldT.mk (k := 1) Tryd.underlying39 rfl rfl (by kernel_rfl) (by decide)
theorem bd39_0_1 : ∀ (v0 : Int) (v1 : ByteArray) (w : World), (Instr.build 39 #[(0, (.int .i64 v0)), (1, (.string v1))]).run Tryd.prog w = .ok (.agg #[(.int .i64 v0), (.string v1)]) w := by
  intro v0 v1 w
  simp [Instr.build, Tryd.zeroValue39, Tryd.runUnderlying39, Instr.fill, Tryd.sizeOf3, Tryd.sizeOf9, Value.cells]
theorem el39 : ElemT Tryd.prog 39 2 24 := ElemT.mk (z := (.agg #[(.int .i64 (0)), (.string ByteArray.empty)])) (by kernel_rfl) rfl
theorem bd39_1 : ∀ (v1 : ByteArray) (w : World), (Instr.build 39 #[(1, (.string v1))]).run Tryd.prog w = .ok (.agg #[(.int .i64 0), (.string v1)]) w := by
  intro v1 w
  simp [Instr.build, Tryd.zeroValue39, Tryd.runUnderlying39, Instr.fill, Tryd.sizeOf3, Tryd.sizeOf9, Value.cells]
theorem eq39 : EqT Tryd.prog 39 GMeaning := by
  refine ⟨Tryd.eqGuardType39, ?_⟩
  intro a b w
  obtain ⟨a0, a1⟩ := a
  obtain ⟨b0, b1⟩ := b
  have hs : Tryd.prog.underlying 39 = some (.struct (Tryd.prog.fieldsOf 39)) := by kernel_rfl
  rw [run_equalIn_agg w 9999 39 _ _ hs Tryd.stoodInHeld39]
  simp only [Program.fieldsOf, Tryd.underlying39]
  simp [Op.eqFields, Flat.cells, part, Tryd.isAgg3, Tryd.isAgg9, run_equalIn_int _ _ _ _ _ _ _ Tryd.underlying3, run_equalIn_string _ _ _ _ _ Tryd.underlying9, ← beq_toListBytes, beq_bytes]
  cases h0 : decide (a0 = b0) <;> cases h1 : decide (a1 = b1) <;> simp_all
set_option maxRecDepth 20000 in
theorem c_noongunlaw07_fit {w0 : World} (va0 : Value) (a0 : (List GMeaning)) (ha0 : SliceR w0 va0 a0) {r0 : Bool} (hm : noongunlaw07_fit a0 = some r0) :
    Calls Tryd.prog 17 #[va0] w0 (Ret w0 fun _ v => v = (.bool r0)) := by
  unfold noongunlaw07_fit at hm
  refine calls_of_W Tryd.func17 rfl Tryd.ntmps17 (Nat.le_of_ble_eq_true rfl) ?_
  have H := Inv.start (w := w0)
  refine W.seq ?_
  refine W.region ?_
  refine O.assign (v := (.bool false)) rfl rfl rfl ?_
  refine WL.nil ?_
  refine W.seq ?_
  refine W.seq ?_
  refine W.region ?_
  refine O.move (v := va0) rfl rfl rfl ?_
  refine O.lenS Tryd.underlying33 (H.arg ha0) rfl rfl rfl ?_
  refine O.move (v := (.int .i64 0)) rfl rfl rfl ?_
  refine WL.nil ?_
  obtain ⟨o1, hm1, hm⟩ := bind_some hm
  refine W.via (fun f w => o1 = .next () ∧ f 0 = va0 ∧ Inv w0 w []) ?_ ?_
  · skip
    refine W.block ?_
    refine W.rangeL (i := 0) hm1 (fun rem ik1 s f w => () = s ∧ a0.drop ik1 = rem ∧ f 7 = .int .i64 (ik1 : Int) ∧ f 6 = (.int .i64 ((a0.length : Nat) : Int)) ∧ f 0 = va0 ∧ f 5 = va0 ∧ Inv w0 w []) ?_ ?_ ?_
    · skip
      exact ⟨rfl, List.drop_zero, rfl, rfl, rfl, rfl, H⟩
    · skip
      rintro yk1 xs ik1 _ st f w ⟨rfl, hdropk1, hf7, hf6, hf0, hf5, H⟩ hm2
      have hltk1 := drop_lt hdropk1; have hixk1 := drop_idx hdropk1
      obtain ⟨u1, rfl⟩ : ∃ u1, f = (upd (upd (upd (upd u1 7 (.int .i64 (ik1 : Int))) 6 (.int .i64 ((a0.length : Nat) : Int))) 0 va0) 5 va0) := ⟨f, by rw [upd_self hf7, upd_self hf6, upd_self hf0, upd_self hf5]⟩
      have hinck1 := addI_lt hltk1 (H.arg ha0).len_le
      refine W.seq ?_
      refine W.region ?_
      refine O.lss rfl rfl rfl rfl ?_
      refine WL.nil ?_
      refine W.seq ?_
      refine W.cond_true (congrArg Value.bool (decide_eq_true hltk1)) ?_
      refine W.skip ?_
      refine W.seq ?_
      refine W.block ?_
      refine W.seq ?_
      refine W.region ?_
      obtain ⟨p1, hp1, hrp1⟩ := fix_indexAddr Tryd.underlying33 sz39 ha0 hixk1
      refine hrp1 rfl rfl rfl rfl ?_
      refine O.loadA [(.int .i64 yk1.Number), (.string yk1.Text)] ag39 rfl rfl rfl rfl ((hp1.mono H.base).flat) ?_
      refine O.alloc [(.int .i64 0), (.string ByteArray.empty)] ze39 H rfl rfl rfl ?_
      intro b1 w1 H hb1
      refine O.store 0 0 [(.int .i64 yk1.Number), (.string yk1.Text)] [(.int .i64 yk1.Number), (.string yk1.Text)] sz39 H rfl rfl rfl rfl rfl rfl ⟨⟨rfl, rfl⟩, rfl⟩ (one_cons rfl (one_cons rfl one_nil)) ?_
      intro w2 H
      refine WL.nil ?_
      refine W.seq ?_
      refine W.region ?_
      refine O.fieldAddr fd39_1 rfl rfl rfl ?_
      refine O.load sc9 rfl rfl rfl (H.cell 0 rfl 1 _ rfl) ?_
      refine O.lenStr Tryd.underlying9 rfl rfl rfl ?_
      refine O.gtr rfl rfl rfl rfl ?_
      refine WL.nil ?_
      rcases ite_some hm2 with ⟨hc1, hm2⟩ | ⟨hc1, hm2⟩
      · refine W.cond_true (congrArg Value.bool hc1) ?_
        refine W.seq ?_
        refine W.region ?_
        refine O.assign (v := (.bool false)) rfl rfl rfl ?_
        refine WL.nil ?_
        refine W.ret ?_
        obtain rfl := Option.some.inj hm2
        refine ⟨_, rfl, ?_⟩
        rintro rfl
        have hq : false = r0 := Option.some.inj (show some false = some r0 from hm)
        subst hq
        exact ends1 Tryd.results17 rfl ⟨_, rfl, H.base, rfl⟩
      · refine W.cond_false (congrArg Value.bool hc1) ?_
        refine W.skip ?_
        refine W.region ?_
        refine O.add rfl rfl rfl rfl hinck1 ?_
        refine O.move (v := .int .i64 ((ik1 : Int) + 1)) rfl rfl rfl ?_
        refine WL.nil ?_
        have H := H.keep [] [] rfl (by decide)
        obtain rfl := Option.some.inj hm2
        exact ⟨_, rfl, rfl, drop_next hdropk1, rfl, rfl, rfl, rfl, H⟩
    · skip
      rintro ik1 _ f w ⟨rfl, hdropk1, hf7, hf6, hf0, hf5, H⟩ hfin
      have hltk1 := drop_end hdropk1
      obtain ⟨u2, rfl⟩ : ∃ u2, f = (upd (upd (upd (upd u2 7 (.int .i64 (ik1 : Int))) 6 (.int .i64 ((a0.length : Nat) : Int))) 0 va0) 5 va0) := ⟨f, by rw [upd_self hf7, upd_self hf6, upd_self hf0, upd_self hf5]⟩
      refine W.seq ?_
      refine W.region ?_
      refine O.lss rfl rfl rfl rfl ?_
      refine WL.nil ?_
      refine W.seq ?_
      refine W.cond_false (congrArg Value.bool (decide_eq_false hltk1)) ?_
      refine W.exit ?_
      obtain rfl : Ctl.next () = o1 := hfin
      refine xT rfl ?_
      exact ⟨rfl, rfl, H⟩
  · skip
    rintro f w ⟨rfl, hf0, H⟩
    obtain ⟨u3, rfl⟩ : ∃ u3, f = (upd u3 0 va0) := ⟨f, by rw [upd_self hf0]⟩
    refine W.seq ?_
    refine W.region ?_
    refine O.move (v := va0) rfl rfl rfl ?_
    refine O.lenS Tryd.underlying33 (H.arg ha0) rfl rfl rfl ?_
    refine O.leq rfl rfl rfl rfl ?_
    refine O.move (v := (.bool (decide (((a0.length : Nat) : Int) ≤ 40)))) rfl rfl rfl ?_
    refine WL.cut 9 (fun f w => f 28 = .bool ((decide (((a0.length : Nat) : Int) ≤ 40)) || ((decide (200 ≤ ((a0.length : Nat) : Int))) && (decide (((a0.length : Nat) : Int) ≤ 203)))) ∧ Inv w0 w []) ?_ ?_
    · skip
      rcases bool_ft (decide (((a0.length : Nat) : Int) ≤ 40)) with hc2 | hc2
      · skip
        refine WL.reset (i := 19) (v := .bool false) (congrArg Value.bool hc2) ?_
        refine O.move (v := va0) rfl rfl rfl ?_
        refine O.lenS Tryd.underlying33 (H.arg ha0) rfl rfl rfl ?_
        refine O.geq rfl rfl rfl rfl ?_
        refine O.move (v := (.bool (decide (200 ≤ ((a0.length : Nat) : Int))))) rfl rfl rfl ?_
        refine WL.cut 4 (fun f w => f 19 = (.bool false) ∧ f 27 = .bool ((decide (200 ≤ ((a0.length : Nat) : Int))) && (decide (((a0.length : Nat) : Int) ≤ 203))) ∧ Inv w0 w []) ?_ ?_
        · skip
          rcases bool_ft (decide (200 ≤ ((a0.length : Nat) : Int))) with hc3 | hc3
          · skip
            refine WL.reset (i := 23) (v := .bool false) (congrArg Value.bool hc3) ?_
            refine O.skip rfl rfl ?_
            refine O.skip rfl rfl ?_
            refine O.skip rfl rfl ?_
            refine O.pick_false (v := (.bool false)) rfl rfl rfl rfl ?_
            refine WL.nil ?_
            exact ⟨rfl, congrArg Value.bool (and_f hc3), H⟩
          · skip
            refine WL.reset (i := 23) (v := .bool true) (congrArg Value.bool hc3) ?_
            refine O.move (v := va0) rfl rfl rfl ?_
            refine O.lenS Tryd.underlying33 (H.arg ha0) rfl rfl rfl ?_
            refine O.leq rfl rfl rfl rfl ?_
            refine O.pick_true (v := (.bool (decide (((a0.length : Nat) : Int) ≤ 203)))) rfl rfl rfl rfl ?_
            refine WL.nil ?_
            exact ⟨rfl, congrArg Value.bool (and_t hc3), H⟩
        · skip
          rintro f w ⟨hf19, hf27, H⟩
          obtain ⟨u4, rfl⟩ : ∃ u4, f = (upd (upd u4 19 (.bool false)) 27 (.bool ((decide (200 ≤ ((a0.length : Nat) : Int))) && (decide (((a0.length : Nat) : Int) ≤ 203))))) := ⟨f, by rw [upd_self hf19, upd_self hf27]⟩
          refine O.pick_false (v := (.bool ((decide (200 ≤ ((a0.length : Nat) : Int))) && (decide (((a0.length : Nat) : Int) ≤ 203))))) rfl rfl rfl rfl ?_
          refine WL.nil ?_
          exact ⟨congrArg Value.bool (or_f hc2), H⟩
      · skip
        refine WL.reset (i := 19) (v := .bool true) (congrArg Value.bool hc2) ?_
        refine O.skip rfl rfl ?_
        refine O.skip rfl rfl ?_
        refine O.skip rfl rfl ?_
        refine O.skip rfl rfl ?_
        refine O.skip rfl rfl ?_
        refine O.skip rfl rfl ?_
        refine O.skip rfl rfl ?_
        refine O.skip rfl rfl ?_
        refine O.pick_true (v := (.bool true)) rfl rfl rfl rfl ?_
        refine WL.nil ?_
        exact ⟨congrArg Value.bool (or_t hc2), H⟩
    · skip
      rintro f w ⟨hf28, H⟩
      obtain ⟨u5, rfl⟩ : ∃ u5, f = (upd u5 28 (.bool ((decide (((a0.length : Nat) : Int) ≤ 40)) || ((decide (200 ≤ ((a0.length : Nat) : Int))) && (decide (((a0.length : Nat) : Int) ≤ 203)))))) := ⟨f, by rw [upd_self hf28]⟩
      refine O.assign (v := (.bool ((decide (((a0.length : Nat) : Int) ≤ 40)) || ((decide (200 ≤ ((a0.length : Nat) : Int))) && (decide (((a0.length : Nat) : Int) ≤ 203)))))) rfl rfl rfl ?_
      refine WL.nil ?_
      refine W.ret ?_
      have hq : ((decide (((a0.length : Nat) : Int) ≤ 40)) || ((decide (200 ≤ ((a0.length : Nat) : Int))) && (decide (((a0.length : Nat) : Int) ≤ 203)))) = r0 := Option.some.inj (show some ((decide (((a0.length : Nat) : Int) ≤ 40)) || ((decide (200 ≤ ((a0.length : Nat) : Int))) && (decide (((a0.length : Nat) : Int) ≤ 203)))) = some r0 from hm)
      subst hq
      exact ends1 Tryd.results17 rfl ⟨_, rfl, H.base, rfl⟩

theorem c_flag_within {w0 : World} (a0 : Int) (a1 : Int) (a2 : Int) {r0 : Bool} (hm : flag_within a0 a1 a2 = some r0) :
    Calls Tryd.prog 58 #[(.int .i64 a0), (.int .i64 a1), (.int .i64 a2)] w0 (Ret w0 fun _ v => v = (.bool r0)) := by
  unfold flag_within at hm
  refine calls_of_W Tryd.func58 rfl Tryd.ntmps58 (Nat.le_of_ble_eq_true rfl) ?_
  have H := Inv.start (w := w0)
  refine W.seq ?_
  refine W.region ?_
  refine O.assign (v := (.bool false)) rfl rfl rfl ?_
  refine WL.nil ?_
  refine W.seq ?_
  refine W.region ?_
  refine O.move (v := (.int .i64 a0)) rfl rfl rfl ?_
  refine O.move (v := (.int .i64 a1)) rfl rfl rfl ?_
  refine O.geq rfl rfl rfl rfl ?_
  refine O.move (v := (.bool (decide (a1 ≤ a0)))) rfl rfl rfl ?_
  refine WL.cut 4 (fun f w => f 14 = .bool ((decide (a1 ≤ a0)) && (decide (a0 ≤ a2))) ∧ Inv w0 w []) ?_ ?_
  · skip
    rcases bool_ft (decide (a1 ≤ a0)) with hc1 | hc1
    · skip
      refine WL.reset (i := 10) (v := .bool false) (congrArg Value.bool hc1) ?_
      refine O.skip rfl rfl ?_
      refine O.skip rfl rfl ?_
      refine O.skip rfl rfl ?_
      refine O.pick_false (v := (.bool false)) rfl rfl rfl rfl ?_
      refine WL.nil ?_
      exact ⟨congrArg Value.bool (and_f hc1), H⟩
    · skip
      refine WL.reset (i := 10) (v := .bool true) (congrArg Value.bool hc1) ?_
      refine O.move (v := (.int .i64 a0)) rfl rfl rfl ?_
      refine O.move (v := (.int .i64 a2)) rfl rfl rfl ?_
      refine O.leq rfl rfl rfl rfl ?_
      refine O.pick_true (v := (.bool (decide (a0 ≤ a2)))) rfl rfl rfl rfl ?_
      refine WL.nil ?_
      exact ⟨congrArg Value.bool (and_t hc1), H⟩
  · skip
    rintro f w ⟨hf14, H⟩
    obtain ⟨u1, rfl⟩ : ∃ u1, f = (upd u1 14 (.bool ((decide (a1 ≤ a0)) && (decide (a0 ≤ a2))))) := ⟨f, by rw [upd_self hf14]⟩
    refine O.assign (v := (.bool ((decide (a1 ≤ a0)) && (decide (a0 ≤ a2))))) rfl rfl rfl ?_
    refine WL.nil ?_
    refine W.ret ?_
    have hq : ((decide (a1 ≤ a0)) && (decide (a0 ≤ a2))) = r0 := Option.some.inj (show some ((decide (a1 ≤ a0)) && (decide (a0 ≤ a2))) = some r0 from hm)
    subst hq
    exact ends1 Tryd.results58 rfl ⟨_, rfl, H.base, rfl⟩

theorem c_flag_listed_c1 {w0 : World} (a0 : Int) (pc0 : Addr) (c0 : Int) (hc0 : ∀ j c, (Flat.cells c0)[j]? = some c → w0.cell? (pc0.add j) = some c) {r0 : Bool} (hm : flag_listed_c1 a0 c0 = some r0) :
    Calls Tryd.prog 94 #[(.int .i64 a0), (.pointer (some pc0))] w0 (Ret w0 fun _ v => v = (.bool r0)) := by
  unfold flag_listed_c1 at hm
  refine calls_of_W Tryd.func94 rfl Tryd.ntmps94 (Nat.le_of_ble_eq_true rfl) ?_
  have H := Inv.start (w := w0)
  refine W.seq ?_
  refine W.region ?_
  refine O.assign (v := (.bool false)) rfl rfl rfl ?_
  refine WL.nil ?_
  refine W.seq ?_
  refine W.region ?_
  refine O.move (v := (.int .i64 a0)) rfl rfl rfl ?_
  refine O.load sc3 rfl rfl rfl (cells_mono hc0 H.base 0 _ rfl) ?_
  obtain ⟨t1, hy1, hm⟩ := bind_some hm
  refine O.call Tryd.call58 rfl rfl rfl (c_flag_within _ _ _ hy1) ?_
  rintro _ w1 hb1 rfl
  have H := H.ext hb1
  refine O.not rfl rfl rfl ?_
  refine O.assign (v := (.bool (!t1))) rfl rfl rfl ?_
  refine WL.nil ?_
  refine W.ret ?_
  have hq : (!t1) = r0 := Option.some.inj (show some (!t1) = some r0 from hm)
  subst hq
  exact ends1 Tryd.results94 rfl ⟨_, rfl, H.base, rfl⟩

theorem c_slices_IndexFunc_int {w0 : World} (va0 : Value) (a0 : (List Int)) (ha0 : SliceR w0 va0 a0) (va1 : Value) (a1 : Int → Option (Bool)) (ha1 : ∀ (w : World), Below w0.heap.size w0 w → ∀ (x0 : Int) (y0 : Bool), a1 x0 = some y0 → CallsV Tryd.prog va1 #[(.int .i64 x0)] w (Ret w fun _ v => v = (.bool y0))) {r0 : Int} (hm : slices_IndexFunc_int a0 a1 = some r0) :
    Calls Tryd.prog 116 #[va0, va1] w0 (Ret w0 fun _ v => v = (.int .i64 r0)) := by
  unfold slices_IndexFunc_int at hm
  refine calls_of_W Tryd.func116 rfl Tryd.ntmps116 (Nat.le_of_ble_eq_true rfl) ?_
  have H := Inv.start (w := w0)
  refine W.seq ?_
  refine W.region ?_
  refine O.assign (v := (.int .i64 0)) rfl rfl rfl ?_
  refine WL.nil ?_
  refine W.seq ?_
  refine W.seq ?_
  refine W.region ?_
  refine O.move (v := va0) rfl rfl rfl ?_
  refine O.lenS Tryd.underlying22 (H.arg ha0) rfl rfl rfl ?_
  refine O.move (v := (.int .i64 0)) rfl rfl rfl ?_
  refine WL.nil ?_
  obtain ⟨o1, hm1, hm⟩ := bind_some hm
  refine W.via (fun f w => o1 = .next () ∧ Inv w0 w []) ?_ ?_
  · skip
    refine W.block ?_
    have hbdik1 := (H.arg ha0).len_le
    refine W.rangeN (i := 0) hm1 (fun rem ik1 s f w => () = s ∧ (ik1 : Int) + rem = max 0 ((a0.length : Nat) : Int) ∧ f 8 = .int .i64 (ik1 : Int) ∧ f 7 = (.int .i64 ((a0.length : Nat) : Int)) ∧ f 0 = va0 ∧ f 1 = va1 ∧ Inv w0 w []) ?_ ?_ ?_
    · skip
      exact ⟨rfl, rangeN_start, rfl, rfl, rfl, rfl, H⟩
    · skip
      rintro k ik1 _ st f w ⟨rfl, hdropk1, hf8, hf7, hf0, hf1, H⟩ hm2
      have hltk1 := rangeN_lt hdropk1
      obtain ⟨u1, rfl⟩ : ∃ u1, f = (upd (upd (upd (upd u1 8 (.int .i64 (ik1 : Int))) 7 (.int .i64 ((a0.length : Nat) : Int))) 0 va0) 1 va1) := ⟨f, by rw [upd_self hf8, upd_self hf7, upd_self hf0, upd_self hf1]⟩
      have hinck1 := addI_lt hltk1 hbdik1
      refine W.seq ?_
      refine W.region ?_
      refine O.lss rfl rfl rfl rfl ?_
      refine WL.nil ?_
      refine W.seq ?_
      refine W.cond_true (congrArg Value.bool (decide_eq_true hltk1)) ?_
      refine W.skip ?_
      refine W.seq ?_
      refine W.block ?_
      refine W.seq ?_
      refine W.region ?_
      refine O.move (v := (.int .i64 (ik1 : Int))) rfl rfl rfl ?_
      refine O.assign (v := (.int .i64 (ik1 : Int))) rfl rfl rfl ?_
      refine WL.nil ?_
      refine W.seq ?_
      refine W.region ?_
      refine O.move (v := va1) rfl rfl rfl ?_
      refine O.move (v := va0) rfl rfl rfl ?_
      refine O.move (v := (.int .i64 (ik1 : Int))) rfl rfl rfl ?_
      obtain ⟨x1, hx1, hm2⟩ := bind_some hm2
      obtain ⟨p1, hp1, hrp1⟩ := fix_indexAddr Tryd.underlying22 sz3 ha0 hx1
      refine hrp1 rfl rfl rfl rfl ?_
      refine O.load sc3 rfl rfl rfl ((hp1.mono H.base).flat 0 _ rfl) ?_
      obtain ⟨t1, hy1, hm2⟩ := bind_some hm2
      refine O.callV rfl rfl rfl rfl (ha1 _ H.base _ _ hy1) ?_
      rintro _ w1 hb1 rfl
      have H := H.ext hb1
      refine WL.nil ?_
      rcases ite_some hm2 with ⟨hc1, hm2⟩ | ⟨hc1, hm2⟩
      · refine W.cond_true (congrArg Value.bool hc1) ?_
        refine W.seq ?_
        refine W.region ?_
        refine O.move (v := (.int .i64 (ik1 : Int))) rfl rfl rfl ?_
        refine O.assign (v := (.int .i64 (ik1 : Int))) rfl rfl rfl ?_
        refine WL.nil ?_
        refine W.ret ?_
        obtain rfl := Option.some.inj hm2
        refine ⟨_, rfl, ?_⟩
        rintro rfl
        have hq : (ik1 : Int) = r0 := Option.some.inj (show some (ik1 : Int) = some r0 from hm)
        subst hq
        exact ends1 Tryd.results116 rfl ⟨_, rfl, H.base, rfl⟩
      · refine W.cond_false (congrArg Value.bool hc1) ?_
        refine W.skip ?_
        refine W.region ?_
        refine O.add rfl rfl rfl rfl hinck1 ?_
        refine O.move (v := .int .i64 ((ik1 : Int) + 1)) rfl rfl rfl ?_
        refine WL.nil ?_
        obtain rfl := Option.some.inj hm2
        exact ⟨_, rfl, rfl, rangeN_next hdropk1, rfl, rfl, rfl, rfl, H⟩
    · skip
      rintro ik1 _ f w ⟨rfl, hdropk1, hf8, hf7, hf0, hf1, H⟩ hfin
      have hltk1 := rangeN_end hdropk1
      obtain ⟨u2, rfl⟩ : ∃ u2, f = (upd (upd (upd (upd u2 8 (.int .i64 (ik1 : Int))) 7 (.int .i64 ((a0.length : Nat) : Int))) 0 va0) 1 va1) := ⟨f, by rw [upd_self hf8, upd_self hf7, upd_self hf0, upd_self hf1]⟩
      refine W.seq ?_
      refine W.region ?_
      refine O.lss rfl rfl rfl rfl ?_
      refine WL.nil ?_
      refine W.seq ?_
      refine W.cond_false (congrArg Value.bool (decide_eq_false hltk1)) ?_
      refine W.exit ?_
      obtain rfl : Ctl.next () = o1 := hfin
      refine xT rfl ?_
      exact ⟨rfl, H⟩
  · skip
    rintro f w ⟨rfl, H⟩
    refine W.seq ?_
    refine W.region ?_
    refine O.assign (v := (.int .i64 (-1))) rfl rfl rfl ?_
    refine WL.nil ?_
    refine W.ret ?_
    have hq : (-1) = r0 := Option.some.inj (show some (-1) = some r0 from hm)
    subst hq
    exact ends1 Tryd.results116 rfl ⟨_, rfl, H.base, rfl⟩

theorem c_slices_ContainsFunc_int {w0 : World} (va0 : Value) (a0 : (List Int)) (ha0 : SliceR w0 va0 a0) (va1 : Value) (a1 : Int → Option (Bool)) (ha1 : ∀ (w : World), Below w0.heap.size w0 w → ∀ (x0 : Int) (y0 : Bool), a1 x0 = some y0 → CallsV Tryd.prog va1 #[(.int .i64 x0)] w (Ret w fun _ v => v = (.bool y0))) {r0 : Bool} (hm : slices_ContainsFunc_int a0 a1 = some r0) :
    Calls Tryd.prog 93 #[va0, va1] w0 (Ret w0 fun _ v => v = (.bool r0)) := by
  unfold slices_ContainsFunc_int at hm
  refine calls_of_W Tryd.func93 rfl Tryd.ntmps93 (Nat.le_of_ble_eq_true rfl) ?_
  have H := Inv.start (w := w0)
  refine W.seq ?_
  refine W.region ?_
  refine O.assign (v := (.bool false)) rfl rfl rfl ?_
  refine WL.nil ?_
  refine W.seq ?_
  refine W.region ?_
  refine O.move (v := va0) rfl rfl rfl ?_
  refine O.move (v := va1) rfl rfl rfl ?_
  obtain ⟨t1, hy1, hm⟩ := bind_some hm
  refine O.call Tryd.call116 rfl rfl rfl (c_slices_IndexFunc_int _ _ (H.arg ha0) va1 a1 (fun w hw => ha1 w (H.base.trans (hw.mono H.base.size))) hy1) ?_
  rintro _ w1 hb1 rfl
  have H := H.ext hb1
  refine O.geq rfl rfl rfl rfl ?_
  refine O.assign (v := (.bool (decide (0 ≤ t1)))) rfl rfl rfl ?_
  refine WL.nil ?_
  refine W.ret ?_
  have hq : (decide (0 ≤ t1)) = r0 := Option.some.inj (show some (decide (0 ≤ t1)) = some r0 from hm)
  subst hq
  exact ends1 Tryd.results93 rfl ⟨_, rfl, H.base, rfl⟩

theorem c_flag_listed {w0 : World} (va0 : Value) (a0 : (List Int)) (ha0 : SliceR w0 va0 a0) (a1 : Int) {r0 : Bool} (hm : flag_listed a0 a1 = some r0) :
    Calls Tryd.prog 78 #[va0, (.int .i64 a1)] w0 (Ret w0 fun _ v => v = (.bool r0)) := by
  unfold flag_listed at hm
  refine calls_of_W Tryd.func78 rfl Tryd.ntmps78 (Nat.le_of_ble_eq_true rfl) ?_
  have H := Inv.start (w := w0)
  refine W.seq ?_
  refine W.region ?_
  refine O.box [(.int .i64 a1)] H rfl rfl rfl rfl ?_
  intro b1 w1 H hb1
  refine O.assign (v := (.bool false)) rfl rfl rfl ?_
  refine WL.nil ?_
  refine W.seq ?_
  refine W.region ?_
  refine O.move (v := va0) rfl rfl rfl ?_
  refine O.lenS Tryd.underlying22 (H.arg ha0) rfl rfl rfl ?_
  obtain ⟨t1, hy1, hm⟩ := bind_some hm
  refine O.call Tryd.call58 rfl rfl rfl (c_flag_within _ _ _ hy1) ?_
  rintro _ w2 hb2 rfl
  have H := H.ext hb2
  refine O.move (v := (.bool t1)) rfl rfl rfl ?_
  obtain ⟨b2, hm1, hm⟩ := bind_some hm
  refine WL.cut 5 (fun f w => f 13 = .bool b2 ∧ Inv w0 w [boxI b1 3 [(.int .i64 a1)]]) ?_ ?_
  · skip
    rcases ite_some hm1 with ⟨hc1, hm1⟩ | ⟨hc1, hm1⟩
    · skip
      refine WL.reset (i := 8) (v := .bool true) (congrArg Value.bool hc1) ?_
      refine O.move (v := va0) rfl rfl rfl ?_
      refine O.makeFunc rfl rfl rfl rfl ?_
      obtain ⟨t2, hy2, hm1⟩ := bind_some hm1
      refine O.call Tryd.call93 rfl rfl rfl (c_slices_ContainsFunc_int _ _ (H.arg ha0) _ (fun x0 => flag_listed_c1 x0 a1) (fun w hw x0 _ hy => callsV_mk Tryd.call94 (c_flag_listed_c1 x0 _ a1 (cells_mono (H.cell 0 rfl) hw) hy)) hy2) ?_
      rintro _ w3 hb3 rfl
      have H := H.ext hb3
      refine O.not rfl rfl rfl ?_
      refine O.pick_true (v := (.bool (!t2))) rfl rfl rfl rfl ?_
      refine WL.nil ?_
      have hq : (!t2) = b2 := Option.some.inj (show some (!t2) = some b2 from hm1)
      subst hq
      exact ⟨rfl, H⟩
    · skip
      refine WL.reset (i := 8) (v := .bool false) (congrArg Value.bool hc1) ?_
      refine O.skip rfl rfl ?_
      refine O.skip rfl rfl ?_
      refine O.skip rfl rfl ?_
      refine O.skip rfl rfl ?_
      refine O.pick_false (v := (.bool false)) rfl rfl rfl rfl ?_
      refine WL.nil ?_
      have hq : false = b2 := Option.some.inj (show some false = some b2 from hm1)
      subst hq
      exact ⟨rfl, H⟩
  · skip
    rintro f w ⟨hf13, H⟩
    obtain ⟨u1, rfl⟩ : ∃ u1, f = (upd u1 13 (.bool b2)) := ⟨f, by rw [upd_self hf13]⟩
    refine O.assign (v := (.bool b2)) rfl rfl rfl ?_
    refine WL.nil ?_
    refine W.ret ?_
    have hq : b2 = r0 := Option.some.inj (show some b2 = some r0 from hm)
    subst hq
    exact ends1 Tryd.results78 rfl ⟨_, rfl, H.base, rfl⟩

theorem c_flag_ValidDigits {w0 : World} (va0 : Value) (a0 : (List Int)) (ha0 : SliceR w0 va0 a0) {r0 : Bool} (hm : flag_ValidDigits a0 = some r0) :
    Calls Tryd.prog 41 #[va0] w0 (Ret w0 fun _ v => v = (.bool r0)) := by
  unfold flag_ValidDigits at hm
  refine calls_of_W Tryd.func41 rfl Tryd.ntmps41 (Nat.le_of_ble_eq_true rfl) ?_
  have H := Inv.start (w := w0)
  refine W.seq ?_
  refine W.region ?_
  refine O.assign (v := (.bool false)) rfl rfl rfl ?_
  refine WL.nil ?_
  refine W.seq ?_
  refine W.region ?_
  refine O.move (v := va0) rfl rfl rfl ?_
  obtain ⟨t1, hy1, hm⟩ := bind_some hm
  refine O.call Tryd.call78 rfl rfl rfl (c_flag_listed _ _ (H.arg ha0) _ hy1) ?_
  rintro _ w1 hb1 rfl
  have H := H.ext hb1
  refine O.assign (v := (.bool t1)) rfl rfl rfl ?_
  refine WL.nil ?_
  refine W.ret ?_
  have hq : t1 = r0 := Option.some.inj (show some t1 = some r0 from hm)
  subst hq
  exact ends1 Tryd.results41 rfl ⟨_, rfl, H.base, rfl⟩

theorem c_slices_Index_int {w0 : World} (va0 : Value) (a0 : (List Int)) (ha0 : SliceR w0 va0 a0) (a1 : Int) {r0 : Int} (hm : slices_Index_int a0 a1 = some r0) :
    Calls Tryd.prog 82 #[va0, (.int .i64 a1)] w0 (Ret w0 fun _ v => v = (.int .i64 r0)) := by
  unfold slices_Index_int at hm
  refine calls_of_W Tryd.func82 rfl Tryd.ntmps82 (Nat.le_of_ble_eq_true rfl) ?_
  have H := Inv.start (w := w0)
  refine W.seq ?_
  refine W.region ?_
  refine O.assign (v := (.int .i64 0)) rfl rfl rfl ?_
  refine WL.nil ?_
  refine W.seq ?_
  refine W.seq ?_
  refine W.region ?_
  refine O.move (v := va0) rfl rfl rfl ?_
  refine O.lenS Tryd.underlying22 (H.arg ha0) rfl rfl rfl ?_
  refine O.move (v := (.int .i64 0)) rfl rfl rfl ?_
  refine WL.nil ?_
  obtain ⟨o1, hm1, hm⟩ := bind_some hm
  refine W.via (fun f w => o1 = .next () ∧ Inv w0 w []) ?_ ?_
  · skip
    refine W.block ?_
    have hbdik1 := (H.arg ha0).len_le
    refine W.rangeN (i := 0) hm1 (fun rem ik1 s f w => () = s ∧ (ik1 : Int) + rem = max 0 ((a0.length : Nat) : Int) ∧ f 8 = .int .i64 (ik1 : Int) ∧ f 7 = (.int .i64 ((a0.length : Nat) : Int)) ∧ f 0 = va0 ∧ f 1 = (.int .i64 a1) ∧ Inv w0 w []) ?_ ?_ ?_
    · skip
      exact ⟨rfl, rangeN_start, rfl, rfl, rfl, rfl, H⟩
    · skip
      rintro k ik1 _ st f w ⟨rfl, hdropk1, hf8, hf7, hf0, hf1, H⟩ hm2
      have hltk1 := rangeN_lt hdropk1
      obtain ⟨u1, rfl⟩ : ∃ u1, f = (upd (upd (upd (upd u1 8 (.int .i64 (ik1 : Int))) 7 (.int .i64 ((a0.length : Nat) : Int))) 0 va0) 1 (.int .i64 a1)) := ⟨f, by rw [upd_self hf8, upd_self hf7, upd_self hf0, upd_self hf1]⟩
      have hinck1 := addI_lt hltk1 hbdik1
      refine W.seq ?_
      refine W.region ?_
      refine O.lss rfl rfl rfl rfl ?_
      refine WL.nil ?_
      refine W.seq ?_
      refine W.cond_true (congrArg Value.bool (decide_eq_true hltk1)) ?_
      refine W.skip ?_
      refine W.seq ?_
      refine W.block ?_
      refine W.seq ?_
      refine W.region ?_
      refine O.move (v := (.int .i64 (ik1 : Int))) rfl rfl rfl ?_
      refine O.assign (v := (.int .i64 (ik1 : Int))) rfl rfl rfl ?_
      refine WL.nil ?_
      refine W.seq ?_
      refine W.region ?_
      refine O.move (v := (.int .i64 a1)) rfl rfl rfl ?_
      refine O.move (v := va0) rfl rfl rfl ?_
      refine O.move (v := (.int .i64 (ik1 : Int))) rfl rfl rfl ?_
      obtain ⟨x1, hx1, hm2⟩ := bind_some hm2
      obtain ⟨p1, hp1, hrp1⟩ := fix_indexAddr Tryd.underlying22 sz3 ha0 hx1
      refine hrp1 rfl rfl rfl rfl ?_
      refine O.load sc3 rfl rfl rfl ((hp1.mono H.base).flat 0 _ rfl) ?_
      refine O.eql rfl rfl rfl rfl ?_
      refine WL.nil ?_
      rcases ite_some hm2 with ⟨hc1, hm2⟩ | ⟨hc1, hm2⟩
      · refine W.cond_true (congrArg Value.bool hc1) ?_
        refine W.seq ?_
        refine W.region ?_
        refine O.move (v := (.int .i64 (ik1 : Int))) rfl rfl rfl ?_
        refine O.assign (v := (.int .i64 (ik1 : Int))) rfl rfl rfl ?_
        refine WL.nil ?_
        refine W.ret ?_
        obtain rfl := Option.some.inj hm2
        refine ⟨_, rfl, ?_⟩
        rintro rfl
        have hq : (ik1 : Int) = r0 := Option.some.inj (show some (ik1 : Int) = some r0 from hm)
        subst hq
        exact ends1 Tryd.results82 rfl ⟨_, rfl, H.base, rfl⟩
      · refine W.cond_false (congrArg Value.bool hc1) ?_
        refine W.skip ?_
        refine W.region ?_
        refine O.add rfl rfl rfl rfl hinck1 ?_
        refine O.move (v := .int .i64 ((ik1 : Int) + 1)) rfl rfl rfl ?_
        refine WL.nil ?_
        obtain rfl := Option.some.inj hm2
        exact ⟨_, rfl, rfl, rangeN_next hdropk1, rfl, rfl, rfl, rfl, H⟩
    · skip
      rintro ik1 _ f w ⟨rfl, hdropk1, hf8, hf7, hf0, hf1, H⟩ hfin
      have hltk1 := rangeN_end hdropk1
      obtain ⟨u2, rfl⟩ : ∃ u2, f = (upd (upd (upd (upd u2 8 (.int .i64 (ik1 : Int))) 7 (.int .i64 ((a0.length : Nat) : Int))) 0 va0) 1 (.int .i64 a1)) := ⟨f, by rw [upd_self hf8, upd_self hf7, upd_self hf0, upd_self hf1]⟩
      refine W.seq ?_
      refine W.region ?_
      refine O.lss rfl rfl rfl rfl ?_
      refine WL.nil ?_
      refine W.seq ?_
      refine W.cond_false (congrArg Value.bool (decide_eq_false hltk1)) ?_
      refine W.exit ?_
      obtain rfl : Ctl.next () = o1 := hfin
      refine xT rfl ?_
      exact ⟨rfl, H⟩
  · skip
    rintro f w ⟨rfl, H⟩
    refine W.seq ?_
    refine W.region ?_
    refine O.assign (v := (.int .i64 (-1))) rfl rfl rfl ?_
    refine WL.nil ?_
    refine W.ret ?_
    have hq : (-1) = r0 := Option.some.inj (show some (-1) = some r0 from hm)
    subst hq
    exact ends1 Tryd.results82 rfl ⟨_, rfl, H.base, rfl⟩

theorem c_slices_Contains_int {w0 : World} (va0 : Value) (a0 : (List Int)) (ha0 : SliceR w0 va0 a0) (a1 : Int) {r0 : Bool} (hm : slices_Contains_int a0 a1 = some r0) :
    Calls Tryd.prog 61 #[va0, (.int .i64 a1)] w0 (Ret w0 fun _ v => v = (.bool r0)) := by
  unfold slices_Contains_int at hm
  refine calls_of_W Tryd.func61 rfl Tryd.ntmps61 (Nat.le_of_ble_eq_true rfl) ?_
  have H := Inv.start (w := w0)
  refine W.seq ?_
  refine W.region ?_
  refine O.assign (v := (.bool false)) rfl rfl rfl ?_
  refine WL.nil ?_
  refine W.seq ?_
  refine W.region ?_
  refine O.move (v := va0) rfl rfl rfl ?_
  refine O.move (v := (.int .i64 a1)) rfl rfl rfl ?_
  obtain ⟨t1, hy1, hm⟩ := bind_some hm
  refine O.call Tryd.call82 rfl rfl rfl (c_slices_Index_int _ _ (H.arg ha0) _ hy1) ?_
  rintro _ w1 hb1 rfl
  have H := H.ext hb1
  refine O.geq rfl rfl rfl rfl ?_
  refine O.assign (v := (.bool (decide (0 ≤ t1)))) rfl rfl rfl ?_
  refine WL.nil ?_
  refine W.ret ?_
  have hq : (decide (0 ≤ t1)) = r0 := Option.some.inj (show some (decide (0 ≤ t1)) = some r0 from hm)
  subst hq
  exact ends1 Tryd.results61 rfl ⟨_, rfl, H.base, rfl⟩

theorem c_flag_place {w0 : World} (a0 : Int) {r0 : Int} (hm : flag_place a0 = some r0) :
    Calls Tryd.prog 62 #[(.int .i64 a0)] w0 (Ret w0 fun _ v => v = (.int .i64 r0)) := by
  unfold flag_place at hm
  refine calls_of_W Tryd.func62 rfl Tryd.ntmps62 (Nat.le_of_ble_eq_true rfl) ?_
  have H := Inv.start (w := w0)
  refine W.seq ?_
  refine W.region ?_
  refine O.assign (v := (.int .i64 0)) rfl rfl rfl ?_
  refine WL.nil ?_
  refine W.seq ?_
  refine W.region ?_
  refine O.move (v := (.int .i64 a0)) rfl rfl rfl ?_
  obtain ⟨t1, ht1, hm⟩ := bind_some hm
  refine O.sub rfl rfl rfl rfl ht1 ?_
  refine O.assign (v := (.int .i64 t1)) rfl rfl rfl ?_
  refine WL.nil ?_
  refine W.ret ?_
  have hq : t1 = r0 := Option.some.inj (show some t1 = some r0 from hm)
  subst hq
  exact ends1 Tryd.results62 rfl ⟨_, rfl, H.base, rfl⟩

set_option maxRecDepth 20000 in
theorem c_flag_Hoist {w0 : World} (va0 : Value) (a0 : (List Int)) (ha0 : SliceR w0 va0 a0) {r0 : (List Int)} {r1 : Int} (hm : flag_Hoist a0 = some (r0, r1)) :
    Calls Tryd.prog 24 #[va0] w0 (Ret w0 fun w v => ∃ vr0 : Value, v = .tuple #[vr0, (.int .i64 r1)] ∧ OwnR w0 w vr0 3 r0) := by
  unfold flag_Hoist at hm
  refine calls_of_W Tryd.func24 rfl Tryd.ntmps24 (Nat.le_of_ble_eq_true rfl) ?_
  have H := Inv.start (w := w0)
  refine W.seq ?_
  refine W.region ?_
  have H := H.addNil (α := Int) (E := 3)
  refine O.assign (v := (.slice none 0 0)) rfl rfl rfl ?_
  refine O.assign (v := (.int .i64 0)) rfl rfl rfl ?_
  refine WL.nil ?_
  refine W.seq ?_
  refine W.seq ?_
  refine W.region ?_
  refine O.move (v := va0) rfl rfl rfl ?_
  obtain ⟨t1, hy1, hm⟩ := bind_some hm
  refine O.call Tryd.call41 rfl rfl rfl (c_flag_ValidDigits _ _ (H.arg ha0) hy1) ?_
  rintro _ w1 hb1 rfl
  have H := H.ext hb1
  refine O.not rfl rfl rfl ?_
  refine WL.nil ?_
  rcases ite_some hm with ⟨hc1, hm⟩ | ⟨hc1, hm⟩
  · refine W.cond_true (congrArg Value.bool hc1) ?_
    refine W.seq ?_
    refine W.region ?_
    have H := H.addNil (α := Int) (E := 3)
    refine O.assign (v := (.slice none 0 0)) rfl rfl rfl ?_
    refine O.assign (v := (.int .i64 1)) rfl rfl rfl ?_
    refine WL.nil ?_
    refine W.ret ?_
    have hq : (([] : List Int), 1) = (r0, r1) := Option.some.inj (show some (([] : List Int), 1) = some (r0, r1) from hm)
    obtain ⟨he0, hq0⟩ := Prod.mk.inj hq; clear hq; subst he0
    subst hq0
    exact ends2 Tryd.results24 rfl rfl ⟨_, rfl, H.base, ⟨_, rfl, H.ownR 1 rfl⟩⟩
  · refine W.cond_false (congrArg Value.bool hc1) ?_
    refine W.skip ?_
    refine W.seq ?_
    refine W.region ?_
    have H := H.addNil (α := Int) (E := 3)
    refine O.assign (v := (.slice none 0 0)) rfl rfl rfl ?_
    refine WL.nil ?_
    refine W.seq ?_
    refine W.seq ?_
    refine W.region ?_
    refine O.move (v := va0) rfl rfl rfl ?_
    refine O.lenS Tryd.underlying22 (H.arg ha0) rfl rfl rfl ?_
    refine O.move (v := (.int .i64 0)) rfl rfl rfl ?_
    refine WL.nil ?_
    obtain ⟨s1, hm1, hm⟩ := bind_some hm
    refine W.via (fun f w => ∃ v4 : Value, f 4 = v4 ∧ Inv w0 w [ownI (α := Int) v4 3 s1]) ?_ ?_
    · skip
      refine W.block ?_
      have hbdik1 := (H.arg ha0).len_le
      have H := H.keep [1] [ownI (α := Int) (.slice none 0 0) 3 ([] : List Int)] rfl (by decide)
      refine W.rangeN (i := 0) hm1 (fun rem ik1 s f w => ∃ z2 : (List Int), ∃ v2 : Value, z2 = s ∧ (ik1 : Int) + rem = max 0 ((a0.length : Nat) : Int) ∧ f 13 = .int .i64 (ik1 : Int) ∧ f 12 = (.int .i64 ((a0.length : Nat) : Int)) ∧ f 0 = va0 ∧ f 4 = v2 ∧ f 11 = va0 ∧ Inv w0 w [ownI (α := Int) v2 3 z2]) ?_ ?_ ?_
      · skip
        exact ⟨_, (.slice none 0 0), rfl, rangeN_start, rfl, rfl, rfl, rfl, rfl, H⟩
      · skip
        rintro k ik1 _ st f w ⟨z2, v2, rfl, hdropk1, hf13, hf12, hf0, hf4, hf11, H⟩ hm2
        have hltk1 := rangeN_lt hdropk1
        obtain ⟨u1, rfl⟩ : ∃ u1, f = (upd (upd (upd (upd (upd u1 13 (.int .i64 (ik1 : Int))) 12 (.int .i64 ((a0.length : Nat) : Int))) 0 va0) 4 v2) 11 va0) := ⟨f, by rw [upd_self hf13, upd_self hf12, upd_self hf0, upd_self hf4, upd_self hf11]⟩
        have hinck1 := addI_lt hltk1 hbdik1
        refine W.seq ?_
        refine W.region ?_
        refine O.lss rfl rfl rfl rfl ?_
        refine WL.nil ?_
        refine W.seq ?_
        refine W.cond_true (congrArg Value.bool (decide_eq_true hltk1)) ?_
        refine W.skip ?_
        refine W.seq ?_
        obtain ⟨s2, hm3, hm2⟩ := bind_some hm2
        refine W.via (fun f w => ∃ v5 : Value, f 0 = va0 ∧ f 4 = v5 ∧ f 11 = va0 ∧ f 12 = (.int .i64 ((a0.length : Nat) : Int)) ∧ f 13 = (.int .i64 (ik1 : Int)) ∧ Inv w0 w [ownI (α := Int) v5 3 s2]) ?_ ?_
        · skip
          refine W.block ?_
          refine W.seq ?_
          refine W.region ?_
          refine O.move (v := (.int .i64 (ik1 : Int))) rfl rfl rfl ?_
          obtain ⟨x1, hx1, hm3⟩ := bind_some hm3
          obtain ⟨p1, hp1, hrp1⟩ := fix_indexAddr Tryd.underlying22 sz3 ha0 hx1
          refine hrp1 rfl rfl rfl rfl ?_
          refine O.load sc3 rfl rfl rfl ((hp1.mono H.base).flat 0 _ rfl) ?_
          refine O.assign (v := (.int .i64 (ik1 : Int))) rfl rfl rfl ?_
          refine O.assign (v := (.int .i64 x1)) rfl rfl rfl ?_
          refine WL.nil ?_
          refine W.seq ?_
          refine W.region ?_
          refine O.move (v := (.int .i64 x1)) rfl rfl rfl ?_
          refine O.assign (v := (.int .i64 x1)) rfl rfl rfl ?_
          refine WL.nil ?_
          refine W.seq ?_
          refine W.seq ?_
          refine W.region ?_
          refine O.move (v := v2) rfl rfl rfl ?_
          refine O.move (v := (.int .i64 x1)) rfl rfl rfl ?_
          obtain ⟨t2, hy2, hm3⟩ := bind_some hm3
          refine O.call Tryd.call61 rfl rfl rfl (c_slices_Contains_int _ _ (H.own 0 rfl) _ hy2) ?_
          rintro _ w2 hb2 rfl
          have H := H.ext hb2
          refine WL.nil ?_
          obtain ⟨s3, hm4, hm3⟩ := bind_some hm3
          refine W.via (fun f w => f 0 = va0 ∧ f 4 = v2 ∧ f 7 = (.int .i64 s3) ∧ f 11 = va0 ∧ f 12 = (.int .i64 ((a0.length : Nat) : Int)) ∧ f 13 = (.int .i64 (ik1 : Int)) ∧ Inv w0 w [ownI (α := Int) v2 3 z2]) ?_ ?_
          · skip
            rcases ite_some hm4 with ⟨hc2, hm4⟩ | ⟨hc2, hm4⟩
            · refine W.cond_true (congrArg Value.bool hc2) ?_
              refine W.seq ?_
              refine W.region ?_
              refine O.assign (v := (.int .i64 10)) rfl rfl rfl ?_
              refine WL.nil ?_
              obtain ⟨s4, hm5, hm4⟩ := bind_some hm4
              refine W.via (fun f w => f 0 = va0 ∧ f 4 = v2 ∧ f 7 = (.int .i64 s4) ∧ f 11 = va0 ∧ f 12 = (.int .i64 ((a0.length : Nat) : Int)) ∧ f 13 = (.int .i64 (ik1 : Int)) ∧ Inv w0 w [ownI (α := Int) v2 3 z2]) ?_ ?_
              · skip
                refine W.block ?_
                refine W.loopR hm5 (fun s f w => ∃ z5 : Int, z5 = s ∧ f 0 = va0 ∧ f 4 = v2 ∧ f 5 = (.int .i64 (ik1 : Int)) ∧ f 6 = (.int .i64 x1) ∧ f 7 = (.int .i64 z5) ∧ f 11 = va0 ∧ f 12 = (.int .i64 ((a0.length : Nat) : Int)) ∧ f 13 = (.int .i64 (ik1 : Int)) ∧ Inv w0 w [ownI (α := Int) v2 3 z2]) ?_ ?_
                · skip
                  exact ⟨_, rfl, rfl, rfl, rfl, rfl, rfl, rfl, rfl, rfl, H⟩
                · skip
                  rintro _ st f w ⟨z5, rfl, hf0, hf4, hf5, hf6, hf7, hf11, hf12, hf13, H⟩ hm6
                  obtain ⟨u2, rfl⟩ : ∃ u2, f = (upd (upd (upd (upd (upd (upd (upd (upd u2 0 va0) 4 v2) 5 (.int .i64 (ik1 : Int))) 6 (.int .i64 x1)) 7 (.int .i64 z5)) 11 va0) 12 (.int .i64 ((a0.length : Nat) : Int))) 13 (.int .i64 (ik1 : Int))) := ⟨f, by rw [upd_self hf0, upd_self hf4, upd_self hf5, upd_self hf6, upd_self hf7, upd_self hf11, upd_self hf12, upd_self hf13]⟩
                  refine W.seq ?_
                  refine W.seq ?_
                  refine W.region ?_
                  refine O.move (v := v2) rfl rfl rfl ?_
                  refine O.move (v := (.int .i64 z5)) rfl rfl rfl ?_
                  obtain ⟨t3, hy3, hm6⟩ := bind_some hm6
                  refine O.call Tryd.call61 rfl rfl rfl (c_slices_Contains_int _ _ (H.own 0 rfl) _ hy3) ?_
                  rintro _ w3 hb3 rfl
                  have H := H.ext hb3
                  refine O.move (v := (.bool t3)) rfl rfl rfl ?_
                  obtain ⟨b1, hm7, hm6⟩ := bind_some hm6
                  refine WL.cut 5 (fun f w => f 0 = va0 ∧ f 4 = v2 ∧ f 5 = (.int .i64 (ik1 : Int)) ∧ f 6 = (.int .i64 x1) ∧ f 7 = (.int .i64 z5) ∧ f 11 = va0 ∧ f 12 = (.int .i64 ((a0.length : Nat) : Int)) ∧ f 13 = (.int .i64 (ik1 : Int)) ∧ f 30 = .bool b1 ∧ Inv w0 w [ownI (α := Int) v2 3 z2]) ?_ ?_
                  · skip
                    rcases ite_some hm7 with ⟨hc3, hm7⟩ | ⟨hc3, hm7⟩
                    · skip
                      refine WL.reset (i := 25) (v := .bool true) (congrArg Value.bool hc3) ?_
                      refine O.skip rfl rfl ?_
                      refine O.skip rfl rfl ?_
                      refine O.skip rfl rfl ?_
                      refine O.skip rfl rfl ?_
                      refine O.pick_true (v := (.bool true)) rfl rfl rfl rfl ?_
                      refine WL.nil ?_
                      have hq : true = b1 := Option.some.inj (show some true = some b1 from hm7)
                      subst hq
                      exact ⟨rfl, rfl, rfl, rfl, rfl, rfl, rfl, rfl, rfl, H⟩
                    · skip
                      refine WL.reset (i := 25) (v := .bool false) (congrArg Value.bool hc3) ?_
                      refine O.move (v := (.int .i64 z5)) rfl rfl rfl ?_
                      obtain ⟨t4, hy4, hm7⟩ := bind_some hm7
                      refine O.call Tryd.call62 rfl rfl rfl (c_flag_place _ hy4) ?_
                      rintro _ w4 hb4 rfl
                      have H := H.ext hb4
                      refine O.move (v := (.int .i64 (ik1 : Int))) rfl rfl rfl ?_
                      refine O.geq rfl rfl rfl rfl ?_
                      refine O.pick_false (v := (.bool (decide ((ik1 : Int) ≤ t4)))) rfl rfl rfl rfl ?_
                      refine WL.nil ?_
                      have hq : (decide ((ik1 : Int) ≤ t4)) = b1 := Option.some.inj (show some (decide ((ik1 : Int) ≤ t4)) = some b1 from hm7)
                      subst hq
                      exact ⟨rfl, rfl, rfl, rfl, rfl, rfl, rfl, rfl, rfl, H⟩
                  · skip
                    rintro f w ⟨hf0, hf4, hf5, hf6, hf7, hf11, hf12, hf13, hf30, H⟩
                    obtain ⟨u3, rfl⟩ : ∃ u3, f = (upd (upd (upd (upd (upd (upd (upd (upd (upd u3 0 va0) 4 v2) 5 (.int .i64 (ik1 : Int))) 6 (.int .i64 x1)) 7 (.int .i64 z5)) 11 va0) 12 (.int .i64 ((a0.length : Nat) : Int))) 13 (.int .i64 (ik1 : Int))) 30 (.bool b1)) := ⟨f, by rw [upd_self hf0, upd_self hf4, upd_self hf5, upd_self hf6, upd_self hf7, upd_self hf11, upd_self hf12, upd_self hf13, upd_self hf30]⟩
                    refine O.move (v := (.bool b1)) rfl rfl rfl ?_
                    obtain ⟨b2, hm8, hm6⟩ := bind_some hm6
                    refine WL.cut 8 (fun f w => f 0 = va0 ∧ f 4 = v2 ∧ f 5 = (.int .i64 (ik1 : Int)) ∧ f 6 = (.int .i64 x1) ∧ f 7 = (.int .i64 z5) ∧ f 11 = va0 ∧ f 12 = (.int .i64 ((a0.length : Nat) : Int)) ∧ f 13 = (.int .i64 (ik1 : Int)) ∧ f 39 = .bool b2 ∧ Inv w0 w [ownI (α := Int) v2 3 z2]) ?_ ?_
                    · skip
                      rcases ite_some hm8 with ⟨hc4, hm8⟩ | ⟨hc4, hm8⟩
                      · skip
                        refine WL.reset (i := 31) (v := .bool true) (congrArg Value.bool hc4) ?_
                        refine O.skip rfl rfl ?_
                        refine O.skip rfl rfl ?_
                        refine O.skip rfl rfl ?_
                        refine O.skip rfl rfl ?_
                        refine O.skip rfl rfl ?_
                        refine O.skip rfl rfl ?_
                        refine O.skip rfl rfl ?_
                        refine O.pick_true (v := (.bool true)) rfl rfl rfl rfl ?_
                        refine WL.nil ?_
                        have hq : true = b2 := Option.some.inj (show some true = some b2 from hm8)
                        subst hq
                        exact ⟨rfl, rfl, rfl, rfl, rfl, rfl, rfl, rfl, rfl, H⟩
                      · skip
                        refine WL.reset (i := 31) (v := .bool false) (congrArg Value.bool hc4) ?_
                        refine O.move (v := va0) rfl rfl rfl ?_
                        refine O.move (v := (.int .i64 z5)) rfl rfl rfl ?_
                        obtain ⟨t5, hy5, hm8⟩ := bind_some hm8
                        refine O.call Tryd.call62 rfl rfl rfl (c_flag_place _ hy5) ?_
                        rintro _ w5 hb5 rfl
                        have H := H.ext hb5
                        obtain ⟨x2, hx2, hm8⟩ := bind_some hm8
                        obtain ⟨p2, hp2, hrp2⟩ := fix_indexAddr Tryd.underlying22 sz3 ha0 hx2
                        refine hrp2 rfl rfl rfl rfl ?_
                        refine O.load sc3 rfl rfl rfl ((hp2.mono H.base).flat 0 _ rfl) ?_
                        refine O.move (v := (.int .i64 x1)) rfl rfl rfl ?_
                        refine O.neq rfl rfl rfl rfl ?_
                        refine O.pick_false (v := (.bool (x2 != x1))) rfl rfl rfl rfl ?_
                        refine WL.nil ?_
                        have hq : (x2 != x1) = b2 := Option.some.inj (show some (x2 != x1) = some b2 from hm8)
                        subst hq
                        exact ⟨rfl, rfl, rfl, rfl, rfl, rfl, rfl, rfl, rfl, H⟩
                    · skip
                      rintro f w ⟨hf0, hf4, hf5, hf6, hf7, hf11, hf12, hf13, hf39, H⟩
                      obtain ⟨u4, rfl⟩ : ∃ u4, f = (upd (upd (upd (upd (upd (upd (upd (upd (upd u4 0 va0) 4 v2) 5 (.int .i64 (ik1 : Int))) 6 (.int .i64 x1)) 7 (.int .i64 z5)) 11 va0) 12 (.int .i64 ((a0.length : Nat) : Int))) 13 (.int .i64 (ik1 : Int))) 39 (.bool b2)) := ⟨f, by rw [upd_self hf0, upd_self hf4, upd_self hf5, upd_self hf6, upd_self hf7, upd_self hf11, upd_self hf12, upd_self hf13, upd_self hf39]⟩
                      refine WL.nil ?_
                      rcases ite_some hm6 with ⟨hc5, hm6⟩ | ⟨hc5, hm6⟩
                      · refine W.cond_true (congrArg Value.bool hc5) ?_
                        refine W.skip ?_
                        refine W.seq ?_
                        refine W.block ?_
                        refine W.skip ?_
                        refine W.region ?_
                        refine O.move (v := (.int .i64 z5)) rfl rfl rfl ?_
                        obtain ⟨t6, ht6, hm6⟩ := bind_some hm6
                        refine O.add rfl rfl rfl rfl ht6 ?_
                        refine O.assign (v := (.int .i64 t6)) rfl rfl rfl ?_
                        refine WL.nil ?_
                        obtain rfl := Option.some.inj hm6
                        exact ⟨_, rfl, _, rfl, rfl, rfl, rfl, rfl, rfl, rfl, rfl, rfl, H⟩
                      · refine W.cond_false (congrArg Value.bool hc5) ?_
                        refine W.exit ?_
                        obtain rfl := Option.some.inj hm6
                        refine ⟨_, rfl, ?_⟩
                        intro hy
                        have hq : z5 = s4 := hy
                        subst hq
                        refine xT rfl ?_
                        exact ⟨rfl, rfl, rfl, rfl, rfl, rfl, H⟩
              · skip
                rintro f w ⟨hf0, hf4, hf7, hf11, hf12, hf13, H⟩
                obtain ⟨u5, rfl⟩ : ∃ u5, f = (upd (upd (upd (upd (upd (upd u5 0 va0) 4 v2) 7 (.int .i64 s4)) 11 va0) 12 (.int .i64 ((a0.length : Nat) : Int))) 13 (.int .i64 (ik1 : Int))) := ⟨f, by rw [upd_self hf0, upd_self hf4, upd_self hf7, upd_self hf11, upd_self hf12, upd_self hf13]⟩
                have hq : s4 = s3 := Option.some.inj (show some s4 = some s3 from hm4)
                subst hq
                exact ⟨rfl, rfl, rfl, rfl, rfl, rfl, H⟩
            · refine W.cond_false (congrArg Value.bool hc2) ?_
              refine W.skip ?_
              have hq : x1 = s3 := Option.some.inj (show some x1 = some s3 from hm4)
              subst hq
              exact ⟨rfl, rfl, rfl, rfl, rfl, rfl, H⟩
          · skip
            rintro f w ⟨hf0, hf4, hf7, hf11, hf12, hf13, H⟩
            obtain ⟨u6, rfl⟩ : ∃ u6, f = (upd (upd (upd (upd (upd (upd u6 0 va0) 4 v2) 7 (.int .i64 s3)) 11 va0) 12 (.int .i64 ((a0.length : Nat) : Int))) 13 (.int .i64 (ik1 : Int))) := ⟨f, by rw [upd_self hf0, upd_self hf4, upd_self hf7, upd_self hf11, upd_self hf12, upd_self hf13]⟩
            refine W.region ?_
            refine O.move (v := v2) rfl rfl rfl ?_
            refine O.move (v := (.int .i64 s3)) rfl rfl rfl ?_
            refine O.buildSlice (α := Int) [(.int .i64 s3)] [s3] Tryd.underlying22 el3 H rfl rfl rfl rfl rfl rfl rfl ?_
            intro v6 w6 H hb6
            obtain ⟨t7, ht7, hm3⟩ := bind_some hm3
            refine O.append 0 Tryd.underlying22 el3 rfl H rfl (H.own 1 rfl) ht7 rfl rfl rfl rfl ?_
            intro v7 w7 H
            refine O.assign (v := v7) rfl rfl rfl ?_
            refine WL.nil ?_
            have H := H.keep [0] [ownI (α := Int) v7 3 t7] rfl (by decide)
            have hq : t7 = s2 := Option.some.inj (show some t7 = some s2 from hm3)
            subst hq
            exact ⟨v7, rfl, rfl, rfl, rfl, rfl, H⟩
        · skip
          rintro f w ⟨v5, hf0, hf4, hf11, hf12, hf13, H⟩
          obtain ⟨u7, rfl⟩ : ∃ u7, f = (upd (upd (upd (upd (upd u7 0 va0) 4 v5) 11 va0) 12 (.int .i64 ((a0.length : Nat) : Int))) 13 (.int .i64 (ik1 : Int))) := ⟨f, by rw [upd_self hf0, upd_self hf4, upd_self hf11, upd_self hf12, upd_self hf13]⟩
          refine W.region ?_
          refine O.add rfl rfl rfl rfl hinck1 ?_
          refine O.move (v := .int .i64 ((ik1 : Int) + 1)) rfl rfl rfl ?_
          refine WL.nil ?_
          obtain rfl := Option.some.inj hm2
          exact ⟨_, rfl, _, v5, rfl, rangeN_next hdropk1, rfl, rfl, rfl, rfl, rfl, H⟩
      · skip
        rintro ik1 _ f w ⟨z2, v2, rfl, hdropk1, hf13, hf12, hf0, hf4, hf11, H⟩ hfin
        have hltk1 := rangeN_end hdropk1
        obtain ⟨u8, rfl⟩ : ∃ u8, f = (upd (upd (upd (upd (upd u8 13 (.int .i64 (ik1 : Int))) 12 (.int .i64 ((a0.length : Nat) : Int))) 0 va0) 4 v2) 11 va0) := ⟨f, by rw [upd_self hf13, upd_self hf12, upd_self hf0, upd_self hf4, upd_self hf11]⟩
        refine W.seq ?_
        refine W.region ?_
        refine O.lss rfl rfl rfl rfl ?_
        refine WL.nil ?_
        refine W.seq ?_
        refine W.cond_false (congrArg Value.bool (decide_eq_false hltk1)) ?_
        refine W.exit ?_
        have hq : z2 = s1 := hfin
        subst hq
        refine xT rfl ?_
        exact ⟨v2, rfl, H⟩
    · skip
      rintro f w ⟨v4, hf4, H⟩
      obtain ⟨u9, rfl⟩ : ∃ u9, f = (upd u9 4 v4) := ⟨f, by rw [upd_self hf4]⟩
      refine W.seq ?_
      refine W.region ?_
      refine O.move (v := v4) rfl rfl rfl ?_
      refine O.assign (v := v4) rfl rfl rfl ?_
      refine O.assign (v := (.int .i64 0)) rfl rfl rfl ?_
      refine WL.nil ?_
      refine W.ret ?_
      have hq : (s1, 0) = (r0, r1) := Option.some.inj (show some (s1, 0) = some (r0, r1) from hm)
      obtain ⟨he0, hq0⟩ := Prod.mk.inj hq; clear hq; subst he0
      subst hq0
      exact ends2 Tryd.results24 rfl rfl ⟨_, rfl, H.base, ⟨_, rfl, H.ownR 0 rfl⟩⟩

set_option maxRecDepth 20000 in
theorem c_flag_ValidHoist {w0 : World} (va0 : Value) (a0 : (List Int)) (ha0 : SliceR w0 va0 a0) {r0 : Bool} (hm : flag_ValidHoist a0 = some r0) :
    Calls Tryd.prog 49 #[va0] w0 (Ret w0 fun _ v => v = (.bool r0)) := by
  unfold flag_ValidHoist at hm
  refine calls_of_W Tryd.func49 rfl Tryd.ntmps49 (Nat.le_of_ble_eq_true rfl) ?_
  have H := Inv.start (w := w0)
  refine W.seq ?_
  refine W.region ?_
  refine O.assign (v := (.bool false)) rfl rfl rfl ?_
  refine WL.nil ?_
  refine W.seq ?_
  refine W.seq ?_
  refine W.region ?_
  refine O.move (v := va0) rfl rfl rfl ?_
  obtain ⟨t1, hy1, hm⟩ := bind_some hm
  refine O.call Tryd.call78 rfl rfl rfl (c_flag_listed _ _ (H.arg ha0) _ hy1) ?_
  rintro _ w1 hb1 rfl
  have H := H.ext hb1
  refine O.not rfl rfl rfl ?_
  refine WL.nil ?_
  rcases ite_some hm with ⟨hc1, hm⟩ | ⟨hc1, hm⟩
  · refine W.cond_true (congrArg Value.bool hc1) ?_
    refine W.seq ?_
    refine W.region ?_
    refine O.assign (v := (.bool false)) rfl rfl rfl ?_
    refine WL.nil ?_
    refine W.ret ?_
    have hq : false = r0 := Option.some.inj (show some false = some r0 from hm)
    subst hq
    exact ends1 Tryd.results49 rfl ⟨_, rfl, H.base, rfl⟩
  · refine W.cond_false (congrArg Value.bool hc1) ?_
    refine W.skip ?_
    refine W.seq ?_
    refine W.seq ?_
    refine W.region ?_
    refine O.move (v := va0) rfl rfl rfl ?_
    refine O.lenS Tryd.underlying22 (H.arg ha0) rfl rfl rfl ?_
    refine O.move (v := (.int .i64 0)) rfl rfl rfl ?_
    refine WL.nil ?_
    obtain ⟨o1, hm1, hm⟩ := bind_some hm
    refine W.via (fun f w => o1 = .next () ∧ Inv w0 w []) ?_ ?_
    · skip
      refine W.block ?_
      have hbdik1 := (H.arg ha0).len_le
      refine W.rangeN (i := 0) hm1 (fun rem ik1 s f w => () = s ∧ (ik1 : Int) + rem = max 0 ((a0.length : Nat) : Int) ∧ f 10 = .int .i64 (ik1 : Int) ∧ f 9 = (.int .i64 ((a0.length : Nat) : Int)) ∧ f 0 = va0 ∧ f 8 = va0 ∧ Inv w0 w []) ?_ ?_ ?_
      · skip
        exact ⟨rfl, rangeN_start, rfl, rfl, rfl, rfl, H⟩
      · skip
        rintro k ik1 _ st f w ⟨rfl, hdropk1, hf10, hf9, hf0, hf8, H⟩ hm2
        have hltk1 := rangeN_lt hdropk1
        obtain ⟨u1, rfl⟩ : ∃ u1, f = (upd (upd (upd (upd u1 10 (.int .i64 (ik1 : Int))) 9 (.int .i64 ((a0.length : Nat) : Int))) 0 va0) 8 va0) := ⟨f, by rw [upd_self hf10, upd_self hf9, upd_self hf0, upd_self hf8]⟩
        have hinck1 := addI_lt hltk1 hbdik1
        refine W.seq ?_
        refine W.region ?_
        refine O.lss rfl rfl rfl rfl ?_
        refine WL.nil ?_
        refine W.seq ?_
        refine W.cond_true (congrArg Value.bool (decide_eq_true hltk1)) ?_
        refine W.skip ?_
        refine W.seq ?_
        refine W.block ?_
        refine W.seq ?_
        refine W.region ?_
        refine O.move (v := (.int .i64 (ik1 : Int))) rfl rfl rfl ?_
        obtain ⟨x1, hx1, hm2⟩ := bind_some hm2
        obtain ⟨p1, hp1, hrp1⟩ := fix_indexAddr Tryd.underlying22 sz3 ha0 hx1
        refine hrp1 rfl rfl rfl rfl ?_
        refine O.load sc3 rfl rfl rfl ((hp1.mono H.base).flat 0 _ rfl) ?_
        refine O.assign (v := (.int .i64 (ik1 : Int))) rfl rfl rfl ?_
        refine O.assign (v := (.int .i64 x1)) rfl rfl rfl ?_
        refine WL.nil ?_
        refine W.seq ?_
        refine W.region ?_
        refine O.move (v := va0) rfl rfl rfl ?_
        refine O.move (v := (.int .i64 (ik1 : Int))) rfl rfl rfl ?_
        obtain ⟨t2, ht2, hm2⟩ := bind_some hm2
        obtain ⟨v1, hs1, hrv1⟩ := fix_sliceH Tryd.underlying22 sz3 ha0 ht2
        refine hrv1 rfl rfl rfl rfl ?_
        refine O.move (v := (.int .i64 x1)) rfl rfl rfl ?_
        obtain ⟨t3, hy2, hm2⟩ := bind_some hm2
        refine O.call Tryd.call61 rfl rfl rfl (c_slices_Contains_int _ _ (H.arg hs1) _ hy2) ?_
        rintro _ w2 hb2 rfl
        have H := H.ext hb2
        refine O.move (v := (.bool t3)) rfl rfl rfl ?_
        obtain ⟨b1, hm3, hm2⟩ := bind_some hm2
        refine WL.cut 9 (fun f w => f 0 = va0 ∧ f 8 = va0 ∧ f 9 = (.int .i64 ((a0.length : Nat) : Int)) ∧ f 10 = (.int .i64 (ik1 : Int)) ∧ f 29 = .bool b1 ∧ Inv w0 w []) ?_ ?_
        · skip
          rcases ite_some hm3 with ⟨hc2, hm3⟩ | ⟨hc2, hm3⟩
          · skip
            refine WL.reset (i := 20) (v := .bool true) (congrArg Value.bool hc2) ?_
            refine O.skip rfl rfl ?_
            refine O.skip rfl rfl ?_
            refine O.skip rfl rfl ?_
            refine O.skip rfl rfl ?_
            refine O.skip rfl rfl ?_
            refine O.skip rfl rfl ?_
            refine O.skip rfl rfl ?_
            refine O.skip rfl rfl ?_
            refine O.pick_true (v := (.bool true)) rfl rfl rfl rfl ?_
            refine WL.nil ?_
            have hq : true = b1 := Option.some.inj (show some true = some b1 from hm3)
            subst hq
            exact ⟨rfl, rfl, rfl, rfl, rfl, H⟩
          · skip
            refine WL.reset (i := 20) (v := .bool false) (congrArg Value.bool hc2) ?_
            refine O.move (v := (.int .i64 x1)) rfl rfl rfl ?_
            refine O.geq rfl rfl rfl rfl ?_
            refine O.move (v := (.bool (decide (10 ≤ x1)))) rfl rfl rfl ?_
            obtain ⟨b2, hm4, hm3⟩ := bind_some hm3
            refine WL.cut 5 (fun f w => f 0 = va0 ∧ f 8 = va0 ∧ f 9 = (.int .i64 ((a0.length : Nat) : Int)) ∧ f 10 = (.int .i64 (ik1 : Int)) ∧ f 20 = (.bool false) ∧ f 21 = (.int .i64 x1) ∧ f 22 = (.bool (decide (10 ≤ x1))) ∧ f 23 = (.bool (decide (10 ≤ x1))) ∧ f 28 = .bool b2 ∧ Inv w0 w []) ?_ ?_
            · skip
              rcases ite_some hm4 with ⟨hc3, hm4⟩ | ⟨hc3, hm4⟩
              · skip
                refine WL.reset (i := 23) (v := .bool true) (congrArg Value.bool hc3) ?_
                refine O.move (v := (.int .i64 x1)) rfl rfl rfl ?_
                obtain ⟨t4, hy3, hm4⟩ := bind_some hm4
                refine O.call Tryd.call62 rfl rfl rfl (c_flag_place _ hy3) ?_
                rintro _ w3 hb3 rfl
                have H := H.ext hb3
                refine O.move (v := (.int .i64 (ik1 : Int))) rfl rfl rfl ?_
                refine O.geq rfl rfl rfl rfl ?_
                refine O.pick_true (v := (.bool (decide ((ik1 : Int) ≤ t4)))) rfl rfl rfl rfl ?_
                refine WL.nil ?_
                have hq : (decide ((ik1 : Int) ≤ t4)) = b2 := Option.some.inj (show some (decide ((ik1 : Int) ≤ t4)) = some b2 from hm4)
                subst hq
                exact ⟨rfl, rfl, rfl, rfl, rfl, rfl, rfl, (congrArg Value.bool hc3).symm, rfl, H⟩
              · skip
                refine WL.reset (i := 23) (v := .bool false) (congrArg Value.bool hc3) ?_
                refine O.skip rfl rfl ?_
                refine O.skip rfl rfl ?_
                refine O.skip rfl rfl ?_
                refine O.skip rfl rfl ?_
                refine O.pick_false (v := (.bool false)) rfl rfl rfl rfl ?_
                refine WL.nil ?_
                have hq : false = b2 := Option.some.inj (show some false = some b2 from hm4)
                subst hq
                exact ⟨rfl, rfl, rfl, rfl, rfl, rfl, rfl, (congrArg Value.bool hc3).symm, rfl, H⟩
            · skip
              rintro f w ⟨hf0, hf8, hf9, hf10, hf20, hf21, hf22, hf23, hf28, H⟩
              obtain ⟨u2, rfl⟩ : ∃ u2, f = (upd (upd (upd (upd (upd (upd (upd (upd (upd u2 0 va0) 8 va0) 9 (.int .i64 ((a0.length : Nat) : Int))) 10 (.int .i64 (ik1 : Int))) 20 (.bool false)) 21 (.int .i64 x1)) 22 (.bool (decide (10 ≤ x1)))) 23 (.bool (decide (10 ≤ x1)))) 28 (.bool b2)) := ⟨f, by rw [upd_self hf0, upd_self hf8, upd_self hf9, upd_self hf10, upd_self hf20, upd_self hf21, upd_self hf22, upd_self hf23, upd_self hf28]⟩
              refine O.pick_false (v := (.bool b2)) rfl rfl rfl rfl ?_
              refine WL.nil ?_
              have hq : b2 = b1 := Option.some.inj (show some b2 = some b1 from hm3)
              subst hq
              exact ⟨rfl, rfl, rfl, rfl, rfl, H⟩
        · skip
          rintro f w ⟨hf0, hf8, hf9, hf10, hf29, H⟩
          obtain ⟨u3, rfl⟩ : ∃ u3, f = (upd (upd (upd (upd (upd u3 0 va0) 8 va0) 9 (.int .i64 ((a0.length : Nat) : Int))) 10 (.int .i64 (ik1 : Int))) 29 (.bool b1)) := ⟨f, by rw [upd_self hf0, upd_self hf8, upd_self hf9, upd_self hf10, upd_self hf29]⟩
          refine WL.nil ?_
          rcases ite_some hm2 with ⟨hc4, hm2⟩ | ⟨hc4, hm2⟩
          · refine W.cond_true (congrArg Value.bool hc4) ?_
            refine W.seq ?_
            refine W.region ?_
            refine O.assign (v := (.bool false)) rfl rfl rfl ?_
            refine WL.nil ?_
            refine W.ret ?_
            obtain rfl := Option.some.inj hm2
            refine ⟨_, rfl, ?_⟩
            rintro rfl
            have hq : false = r0 := Option.some.inj (show some false = some r0 from hm)
            subst hq
            exact ends1 Tryd.results49 rfl ⟨_, rfl, H.base, rfl⟩
          · refine W.cond_false (congrArg Value.bool hc4) ?_
            refine W.skip ?_
            refine W.region ?_
            refine O.add rfl rfl rfl rfl hinck1 ?_
            refine O.move (v := .int .i64 ((ik1 : Int) + 1)) rfl rfl rfl ?_
            refine WL.nil ?_
            obtain rfl := Option.some.inj hm2
            exact ⟨_, rfl, rfl, rangeN_next hdropk1, rfl, rfl, rfl, rfl, H⟩
      · skip
        rintro ik1 _ f w ⟨rfl, hdropk1, hf10, hf9, hf0, hf8, H⟩ hfin
        have hltk1 := rangeN_end hdropk1
        obtain ⟨u4, rfl⟩ : ∃ u4, f = (upd (upd (upd (upd u4 10 (.int .i64 (ik1 : Int))) 9 (.int .i64 ((a0.length : Nat) : Int))) 0 va0) 8 va0) := ⟨f, by rw [upd_self hf10, upd_self hf9, upd_self hf0, upd_self hf8]⟩
        refine W.seq ?_
        refine W.region ?_
        refine O.lss rfl rfl rfl rfl ?_
        refine WL.nil ?_
        refine W.seq ?_
        refine W.cond_false (congrArg Value.bool (decide_eq_false hltk1)) ?_
        refine W.exit ?_
        obtain rfl : Ctl.next () = o1 := hfin
        refine xT rfl ?_
        exact ⟨rfl, H⟩
    · skip
      rintro f w ⟨rfl, H⟩
      refine W.seq ?_
      refine W.region ?_
      refine O.assign (v := (.bool true)) rfl rfl rfl ?_
      refine WL.nil ?_
      refine W.ret ?_
      have hq : true = r0 := Option.some.inj (show some true = some r0 from hm)
      subst hq
      exact ends1 Tryd.results49 rfl ⟨_, rfl, H.base, rfl⟩

set_option maxRecDepth 20000 in
theorem c_flag_means {w0 : World} (va0 : Value) (a0 : (List Int)) (ha0 : SliceR w0 va0 a0) {r0 : (List Int)} (hm : flag_means a0 = some r0) :
    Calls Tryd.prog 50 #[va0] w0 (Ret w0 fun w v => OwnR w0 w v 3 r0) := by
  unfold flag_means at hm
  refine calls_of_W Tryd.func50 rfl Tryd.ntmps50 (Nat.le_of_ble_eq_true rfl) ?_
  have H := Inv.start (w := w0)
  refine W.seq ?_
  refine W.region ?_
  have H := H.addNil (α := Int) (E := 3)
  refine O.assign (v := (.slice none 0 0)) rfl rfl rfl ?_
  refine WL.nil ?_
  refine W.seq ?_
  refine W.region ?_
  have H := H.addNil (α := Int) (E := 3)
  refine O.assign (v := (.slice none 0 0)) rfl rfl rfl ?_
  refine WL.nil ?_
  refine W.seq ?_
  refine W.seq ?_
  refine W.region ?_
  refine O.move (v := va0) rfl rfl rfl ?_
  refine O.lenS Tryd.underlying22 (H.arg ha0) rfl rfl rfl ?_
  refine O.move (v := (.int .i64 0)) rfl rfl rfl ?_
  refine WL.nil ?_
  obtain ⟨s1, hm1, hm⟩ := bind_some hm
  refine W.via (fun f w => ∃ v4 : Value, f 3 = v4 ∧ Inv w0 w [ownI (α := Int) v4 3 s1]) ?_ ?_
  · skip
    refine W.block ?_
    have H := H.keep [1] [ownI (α := Int) (.slice none 0 0) 3 ([] : List Int)] rfl (by decide)
    refine W.rangeL (i := 0) hm1 (fun rem ik1 s f w => ∃ z2 : (List Int), ∃ v2 : Value, z2 = s ∧ a0.drop ik1 = rem ∧ f 8 = .int .i64 (ik1 : Int) ∧ f 7 = (.int .i64 ((a0.length : Nat) : Int)) ∧ f 3 = v2 ∧ f 6 = va0 ∧ Inv w0 w [ownI (α := Int) v2 3 z2]) ?_ ?_ ?_
    · skip
      exact ⟨_, (.slice none 0 0), rfl, List.drop_zero, rfl, rfl, rfl, rfl, H⟩
    · skip
      rintro yk1 xs ik1 _ st f w ⟨z2, v2, rfl, hdropk1, hf8, hf7, hf3, hf6, H⟩ hm2
      have hltk1 := drop_lt hdropk1; have hixk1 := drop_idx hdropk1
      obtain ⟨u1, rfl⟩ : ∃ u1, f = (upd (upd (upd (upd u1 8 (.int .i64 (ik1 : Int))) 7 (.int .i64 ((a0.length : Nat) : Int))) 3 v2) 6 va0) := ⟨f, by rw [upd_self hf8, upd_self hf7, upd_self hf3, upd_self hf6]⟩
      have hinck1 := addI_lt hltk1 (H.arg ha0).len_le
      refine W.seq ?_
      refine W.region ?_
      refine O.lss rfl rfl rfl rfl ?_
      refine WL.nil ?_
      refine W.seq ?_
      refine W.cond_true (congrArg Value.bool (decide_eq_true hltk1)) ?_
      refine W.skip ?_
      refine W.seq ?_
      obtain ⟨s2, hm3, hm2⟩ := bind_some hm2
      refine W.via (fun f w => ∃ v5 : Value, f 3 = v5 ∧ f 6 = va0 ∧ f 7 = (.int .i64 ((a0.length : Nat) : Int)) ∧ f 8 = (.int .i64 (ik1 : Int)) ∧ Inv w0 w [ownI (α := Int) v5 3 s2]) ?_ ?_
      · skip
        refine W.block ?_
        refine W.seq ?_
        refine W.region ?_
        obtain ⟨p1, hp1, hrp1⟩ := fix_indexAddr Tryd.underlying22 sz3 ha0 hixk1
        refine hrp1 rfl rfl rfl rfl ?_
        refine O.load sc3 rfl rfl rfl ((hp1.mono H.base).flat 0 _ rfl) ?_
        refine O.assign (v := (.int .i64 yk1)) rfl rfl rfl ?_
        refine WL.nil ?_
        refine W.seq ?_
        refine W.seq ?_
        refine W.region ?_
        refine O.move (v := (.int .i64 yk1)) rfl rfl rfl ?_
        refine O.geq rfl rfl rfl rfl ?_
        refine WL.nil ?_
        obtain ⟨s3, hm4, hm3⟩ := bind_some hm3
        refine W.via (fun f w => f 3 = v2 ∧ f 5 = (.int .i64 s3) ∧ f 6 = va0 ∧ f 7 = (.int .i64 ((a0.length : Nat) : Int)) ∧ f 8 = (.int .i64 (ik1 : Int)) ∧ Inv w0 w [ownI (α := Int) v2 3 z2]) ?_ ?_
        · skip
          rcases ite_some hm4 with ⟨hc1, hm4⟩ | ⟨hc1, hm4⟩
          · refine W.cond_true (congrArg Value.bool hc1) ?_
            refine W.region ?_
            refine O.move (v := v2) rfl rfl rfl ?_
            refine O.move (v := (.int .i64 yk1)) rfl rfl rfl ?_
            obtain ⟨t1, hy1, hm4⟩ := bind_some hm4
            refine O.call Tryd.call62 rfl rfl rfl (c_flag_place _ hy1) ?_
            rintro _ w1 hb1 rfl
            have H := H.ext hb1
            obtain ⟨x1, hx1, hm4⟩ := bind_some hm4
            refine O.indexAddr Tryd.underlying22 sz3 (H.own 0 rfl) hx1 rfl rfl rfl rfl ?_
            intro p2 hp2
            refine O.load sc3 rfl rfl rfl (hp2.flat 0 _ rfl) ?_
            refine O.assign (v := (.int .i64 x1)) rfl rfl rfl ?_
            refine WL.nil ?_
            have hq : x1 = s3 := Option.some.inj (show some x1 = some s3 from hm4)
            subst hq
            exact ⟨rfl, rfl, rfl, rfl, rfl, H⟩
          · refine W.cond_false (congrArg Value.bool hc1) ?_
            refine W.skip ?_
            have hq : yk1 = s3 := Option.some.inj (show some yk1 = some s3 from hm4)
            subst hq
            exact ⟨rfl, rfl, rfl, rfl, rfl, H⟩
        · skip
          rintro f w ⟨hf3, hf5, hf6, hf7, hf8, H⟩
          obtain ⟨u2, rfl⟩ : ∃ u2, f = (upd (upd (upd (upd (upd u2 3 v2) 5 (.int .i64 s3)) 6 va0) 7 (.int .i64 ((a0.length : Nat) : Int))) 8 (.int .i64 (ik1 : Int))) := ⟨f, by rw [upd_self hf3, upd_self hf5, upd_self hf6, upd_self hf7, upd_self hf8]⟩
          refine W.region ?_
          refine O.move (v := v2) rfl rfl rfl ?_
          refine O.move (v := (.int .i64 s3)) rfl rfl rfl ?_
          refine O.buildSlice (α := Int) [(.int .i64 s3)] [s3] Tryd.underlying22 el3 H rfl rfl rfl rfl rfl rfl rfl ?_
          intro v6 w2 H hb2
          obtain ⟨t2, ht2, hm3⟩ := bind_some hm3
          refine O.append 0 Tryd.underlying22 el3 rfl H rfl (H.own 1 rfl) ht2 rfl rfl rfl rfl ?_
          intro v7 w3 H
          refine O.assign (v := v7) rfl rfl rfl ?_
          refine WL.nil ?_
          have H := H.keep [0] [ownI (α := Int) v7 3 t2] rfl (by decide)
          have hq : t2 = s2 := Option.some.inj (show some t2 = some s2 from hm3)
          subst hq
          exact ⟨v7, rfl, rfl, rfl, rfl, H⟩
      · skip
        rintro f w ⟨v5, hf3, hf6, hf7, hf8, H⟩
        obtain ⟨u3, rfl⟩ : ∃ u3, f = (upd (upd (upd (upd u3 3 v5) 6 va0) 7 (.int .i64 ((a0.length : Nat) : Int))) 8 (.int .i64 (ik1 : Int))) := ⟨f, by rw [upd_self hf3, upd_self hf6, upd_self hf7, upd_self hf8]⟩
        refine W.region ?_
        refine O.add rfl rfl rfl rfl hinck1 ?_
        refine O.move (v := .int .i64 ((ik1 : Int) + 1)) rfl rfl rfl ?_
        refine WL.nil ?_
        obtain rfl := Option.some.inj hm2
        exact ⟨_, rfl, _, v5, rfl, drop_next hdropk1, rfl, rfl, rfl, rfl, H⟩
    · skip
      rintro ik1 _ f w ⟨z2, v2, rfl, hdropk1, hf8, hf7, hf3, hf6, H⟩ hfin
      have hltk1 := drop_end hdropk1
      obtain ⟨u4, rfl⟩ : ∃ u4, f = (upd (upd (upd (upd u4 8 (.int .i64 (ik1 : Int))) 7 (.int .i64 ((a0.length : Nat) : Int))) 3 v2) 6 va0) := ⟨f, by rw [upd_self hf8, upd_self hf7, upd_self hf3, upd_self hf6]⟩
      refine W.seq ?_
      refine W.region ?_
      refine O.lss rfl rfl rfl rfl ?_
      refine WL.nil ?_
      refine W.seq ?_
      refine W.cond_false (congrArg Value.bool (decide_eq_false hltk1)) ?_
      refine W.exit ?_
      have hq : z2 = s1 := hfin
      subst hq
      refine xT rfl ?_
      exact ⟨v2, rfl, H⟩
  · skip
    rintro f w ⟨v4, hf3, H⟩
    obtain ⟨u5, rfl⟩ : ∃ u5, f = (upd u5 3 v4) := ⟨f, by rw [upd_self hf3]⟩
    refine W.seq ?_
    refine W.region ?_
    refine O.move (v := v4) rfl rfl rfl ?_
    refine O.assign (v := v4) rfl rfl rfl ?_
    refine WL.nil ?_
    refine W.ret ?_
    have hq : s1 = r0 := Option.some.inj (show some s1 = some r0 from hm)
    subst hq
    exact ends1 Tryd.results50 rfl ⟨_, rfl, H.base, H.ownR 0 rfl⟩

theorem c_flag_Means {w0 : World} (va0 : Value) (a0 : (List Int)) (ha0 : SliceR w0 va0 a0) {r0 : (List Int)} {r1 : Int} (hm : flag_Means a0 = some (r0, r1)) :
    Calls Tryd.prog 37 #[va0] w0 (Ret w0 fun w v => ∃ vr0 : Value, v = .tuple #[vr0, (.int .i64 r1)] ∧ OwnR w0 w vr0 3 r0) := by
  unfold flag_Means at hm
  refine calls_of_W Tryd.func37 rfl Tryd.ntmps37 (Nat.le_of_ble_eq_true rfl) ?_
  have H := Inv.start (w := w0)
  refine W.seq ?_
  refine W.region ?_
  have H := H.addNil (α := Int) (E := 3)
  refine O.assign (v := (.slice none 0 0)) rfl rfl rfl ?_
  refine O.assign (v := (.int .i64 0)) rfl rfl rfl ?_
  refine WL.nil ?_
  refine W.seq ?_
  refine W.seq ?_
  refine W.region ?_
  refine O.move (v := va0) rfl rfl rfl ?_
  obtain ⟨t1, hy1, hm⟩ := bind_some hm
  refine O.call Tryd.call49 rfl rfl rfl (c_flag_ValidHoist _ _ (H.arg ha0) hy1) ?_
  rintro _ w1 hb1 rfl
  have H := H.ext hb1
  refine O.not rfl rfl rfl ?_
  refine WL.nil ?_
  rcases ite_some hm with ⟨hc1, hm⟩ | ⟨hc1, hm⟩
  · refine W.cond_true (congrArg Value.bool hc1) ?_
    refine W.seq ?_
    refine W.region ?_
    have H := H.addNil (α := Int) (E := 3)
    refine O.assign (v := (.slice none 0 0)) rfl rfl rfl ?_
    refine O.assign (v := (.int .i64 1)) rfl rfl rfl ?_
    refine WL.nil ?_
    refine W.ret ?_
    have hq : (([] : List Int), 1) = (r0, r1) := Option.some.inj (show some (([] : List Int), 1) = some (r0, r1) from hm)
    obtain ⟨he0, hq0⟩ := Prod.mk.inj hq; clear hq; subst he0
    subst hq0
    exact ends2 Tryd.results37 rfl rfl ⟨_, rfl, H.base, ⟨_, rfl, H.ownR 1 rfl⟩⟩
  · refine W.cond_false (congrArg Value.bool hc1) ?_
    refine W.skip ?_
    refine W.seq ?_
    refine W.region ?_
    refine O.move (v := va0) rfl rfl rfl ?_
    obtain ⟨t2, hy2, hm⟩ := bind_some hm
    refine O.call Tryd.call50 rfl rfl rfl (c_flag_means _ _ (H.arg ha0) hy2) ?_
    rintro v1 w2 hb2 ho1
    have H := H.addOwn hb2 ho1
    refine O.assign (v := v1) rfl rfl rfl ?_
    refine O.assign (v := (.int .i64 0)) rfl rfl rfl ?_
    refine WL.nil ?_
    refine W.ret ?_
    have hq : (t2, 0) = (r0, r1) := Option.some.inj (show some (t2, 0) = some (r0, r1) from hm)
    obtain ⟨he0, hq0⟩ := Prod.mk.inj hq; clear hq; subst he0
    subst hq0
    exact ends2 Tryd.results37 rfl rfl ⟨_, rfl, H.base, ⟨_, rfl, H.ownR 1 rfl⟩⟩

set_option maxRecDepth 20000 in
theorem c_noongunref07_SameInts {w0 : World} (va0 : Value) (a0 : (List Int)) (ha0 : SliceR w0 va0 a0) (va1 : Value) (a1 : (List Int)) (ha1 : SliceR w0 va1 a1) {r0 : Bool} (hm : noongunref07_SameInts a0 a1 = some r0) :
    Calls Tryd.prog 16 #[va0, va1] w0 (Ret w0 fun _ v => v = (.bool r0)) := by
  unfold noongunref07_SameInts at hm
  refine calls_of_W Tryd.func16 rfl Tryd.ntmps16 (Nat.le_of_ble_eq_true rfl) ?_
  have H := Inv.start (w := w0)
  refine W.seq ?_
  refine W.region ?_
  refine O.assign (v := (.bool false)) rfl rfl rfl ?_
  refine WL.nil ?_
  refine W.seq ?_
  refine W.seq ?_
  refine W.region ?_
  refine O.move (v := va0) rfl rfl rfl ?_
  refine O.lenS Tryd.underlying22 (H.arg ha0) rfl rfl rfl ?_
  refine O.move (v := va1) rfl rfl rfl ?_
  refine O.lenS Tryd.underlying22 (H.arg ha1) rfl rfl rfl ?_
  refine O.neq rfl rfl rfl rfl ?_
  refine WL.nil ?_
  rcases ite_some hm with ⟨hc1, hm⟩ | ⟨hc1, hm⟩
  · refine W.cond_true (congrArg Value.bool hc1) ?_
    refine W.seq ?_
    refine W.region ?_
    refine O.assign (v := (.bool false)) rfl rfl rfl ?_
    refine WL.nil ?_
    refine W.ret ?_
    have hq : false = r0 := Option.some.inj (show some false = some r0 from hm)
    subst hq
    exact ends1 Tryd.results16 rfl ⟨_, rfl, H.base, rfl⟩
  · refine W.cond_false (congrArg Value.bool hc1) ?_
    refine W.skip ?_
    refine W.seq ?_
    refine W.seq ?_
    refine W.region ?_
    refine O.move (v := va0) rfl rfl rfl ?_
    refine O.lenS Tryd.underlying22 (H.arg ha0) rfl rfl rfl ?_
    refine O.move (v := (.int .i64 0)) rfl rfl rfl ?_
    refine WL.nil ?_
    obtain ⟨o1, hm1, hm⟩ := bind_some hm
    refine W.via (fun f w => o1 = .next () ∧ Inv w0 w []) ?_ ?_
    · skip
      refine W.block ?_
      have hbdik1 := (H.arg ha0).len_le
      refine W.rangeN (i := 0) hm1 (fun rem ik1 s f w => () = s ∧ (ik1 : Int) + rem = max 0 ((a0.length : Nat) : Int) ∧ f 13 = .int .i64 (ik1 : Int) ∧ f 12 = (.int .i64 ((a0.length : Nat) : Int)) ∧ f 0 = va0 ∧ f 1 = va1 ∧ Inv w0 w []) ?_ ?_ ?_
      · skip
        exact ⟨rfl, rangeN_start, rfl, rfl, rfl, rfl, H⟩
      · skip
        rintro k ik1 _ st f w ⟨rfl, hdropk1, hf13, hf12, hf0, hf1, H⟩ hm2
        have hltk1 := rangeN_lt hdropk1
        obtain ⟨u1, rfl⟩ : ∃ u1, f = (upd (upd (upd (upd u1 13 (.int .i64 (ik1 : Int))) 12 (.int .i64 ((a0.length : Nat) : Int))) 0 va0) 1 va1) := ⟨f, by rw [upd_self hf13, upd_self hf12, upd_self hf0, upd_self hf1]⟩
        have hinck1 := addI_lt hltk1 hbdik1
        refine W.seq ?_
        refine W.region ?_
        refine O.lss rfl rfl rfl rfl ?_
        refine WL.nil ?_
        refine W.seq ?_
        refine W.cond_true (congrArg Value.bool (decide_eq_true hltk1)) ?_
        refine W.skip ?_
        refine W.seq ?_
        refine W.block ?_
        refine W.seq ?_
        refine W.region ?_
        refine O.move (v := (.int .i64 (ik1 : Int))) rfl rfl rfl ?_
        refine O.assign (v := (.int .i64 (ik1 : Int))) rfl rfl rfl ?_
        refine WL.nil ?_
        refine W.seq ?_
        obtain ⟨x1, hx1, hm2⟩ := bind_some hm2
        obtain ⟨p1, hp1, hrp1⟩ := fix_indexAddr Tryd.underlying22 sz3 (H.arg ha0) hx1
        obtain ⟨x2, hx2, hm2⟩ := bind_some hm2
        obtain ⟨p2, hp2, hrp2⟩ := fix_indexAddr Tryd.underlying22 sz3 (H.arg ha1) hx2
        refine W.drawN 8 (fun f => f 0 = va0 ∧ f 1 = va1 ∧ f 12 = (.int .i64 ((a0.length : Nat) : Int)) ∧ f 13 = (.int .i64 (ik1 : Int)) ∧ f 19 = (.int .i64 x1) ∧ f 23 = (.int .i64 x2)) fol (by kernel_rfl) ?_ ?_
        · skip
          refine PL.of (fun _ w8 _ hx => O.move (v := va0) rfl rfl rfl (WL.nil ⟨rfl, hx⟩)) ?_
          refine PL.of (fun _ w8 _ hx => O.move (v := (.int .i64 (ik1 : Int))) rfl rfl rfl (WL.nil ⟨rfl, hx⟩)) ?_
          refine PL.of (fun _ w8 _ hx => hrp1 rfl rfl rfl rfl (WL.nil ⟨rfl, hx⟩)) ?_
          refine PL.of (fun _ w8 _ hx => by have hp1 := hp1.mono hx; exact O.load sc3 rfl rfl rfl (hp1.flat 0 _ rfl) (WL.nil ⟨rfl, hx⟩)) ?_
          refine PL.of (fun _ w8 _ hx => O.move (v := va1) rfl rfl rfl (WL.nil ⟨rfl, hx⟩)) ?_
          refine PL.of (fun _ w8 _ hx => O.move (v := (.int .i64 (ik1 : Int))) rfl rfl rfl (WL.nil ⟨rfl, hx⟩)) ?_
          refine PL.of (fun _ w8 _ hx => hrp2 rfl rfl rfl rfl (WL.nil ⟨rfl, hx⟩)) ?_
          refine PL.of (fun _ w8 _ hx => by have hp2 := hp2.mono hx; exact O.load sc3 rfl rfl rfl (hp2.flat 0 _ rfl) (WL.nil ⟨rfl, hx⟩)) ?_
          refine PL.nil ?_
          exact ⟨rfl, rfl, rfl, rfl, rfl, rfl⟩
        · skip
          rintro f w ⟨hf0, hf1, hf12, hf13, hf19, hf23⟩ hmd hx
          have H := H.ext hx
          have hp1 := hp1.mono hx
          have hp2 := hp2.mono hx
          obtain ⟨u2, rfl⟩ : ∃ u2, f = (upd (upd (upd (upd (upd (upd u2 0 va0) 1 va1) 12 (.int .i64 ((a0.length : Nat) : Int))) 13 (.int .i64 (ik1 : Int))) 19 (.int .i64 x1)) 23 (.int .i64 x2)) := ⟨f, by rw [upd_self hf0, upd_self hf1, upd_self hf12, upd_self hf13, upd_self hf19, upd_self hf23]⟩
          refine O.neq rfl rfl rfl rfl ?_
          refine WL.nil ?_
          rcases ite_some hm2 with ⟨hc2, hm2⟩ | ⟨hc2, hm2⟩
          · refine W.cond_true (congrArg Value.bool hc2) ?_
            refine W.seq ?_
            refine W.region ?_
            refine O.assign (v := (.bool false)) rfl rfl rfl ?_
            refine WL.nil ?_
            refine W.ret ?_
            obtain rfl := Option.some.inj hm2
            refine ⟨_, rfl, ?_⟩
            rintro rfl
            have hq : false = r0 := Option.some.inj (show some false = some r0 from hm)
            subst hq
            exact ends1 Tryd.results16 rfl ⟨_, rfl, H.base, rfl⟩
          · refine W.cond_false (congrArg Value.bool hc2) ?_
            refine W.skip ?_
            refine W.region ?_
            refine O.add rfl rfl rfl rfl hinck1 ?_
            refine O.move (v := .int .i64 ((ik1 : Int) + 1)) rfl rfl rfl ?_
            refine WL.nil ?_
            obtain rfl := Option.some.inj hm2
            exact ⟨_, rfl, rfl, rangeN_next hdropk1, rfl, rfl, rfl, rfl, H⟩
      · skip
        rintro ik1 _ f w ⟨rfl, hdropk1, hf13, hf12, hf0, hf1, H⟩ hfin
        have hltk1 := rangeN_end hdropk1
        obtain ⟨u3, rfl⟩ : ∃ u3, f = (upd (upd (upd (upd u3 13 (.int .i64 (ik1 : Int))) 12 (.int .i64 ((a0.length : Nat) : Int))) 0 va0) 1 va1) := ⟨f, by rw [upd_self hf13, upd_self hf12, upd_self hf0, upd_self hf1]⟩
        refine W.seq ?_
        refine W.region ?_
        refine O.lss rfl rfl rfl rfl ?_
        refine WL.nil ?_
        refine W.seq ?_
        refine W.cond_false (congrArg Value.bool (decide_eq_false hltk1)) ?_
        refine W.exit ?_
        obtain rfl : Ctl.next () = o1 := hfin
        refine xT rfl ?_
        exact ⟨rfl, H⟩
    · skip
      rintro f w ⟨rfl, H⟩
      refine W.seq ?_
      refine W.region ?_
      refine O.assign (v := (.bool true)) rfl rfl rfl ?_
      refine WL.nil ?_
      refine W.ret ?_
      have hq : true = r0 := Option.some.inj (show some true = some r0 from hm)
      subst hq
      exact ends1 Tryd.results16 rfl ⟨_, rfl, H.base, rfl⟩

set_option maxRecDepth 20000 in
theorem c_noongunlaw07_awake {w0 : World}  {r0 : Bool} (hm : noongunlaw07_awake  = some r0) :
    Calls Tryd.prog 7 #[] w0 (Ret w0 fun _ v => v = (.bool r0)) := by
  unfold noongunlaw07_awake at hm
  refine calls_of_W Tryd.func7 rfl Tryd.ntmps7 (Nat.le_of_ble_eq_true rfl) ?_
  have H := Inv.start (w := w0)
  refine W.seq ?_
  refine W.region ?_
  refine O.assign (v := (.bool false)) rfl rfl rfl ?_
  refine WL.nil ?_
  refine W.seq ?_
  refine W.region ?_
  refine O.buildSlice (α := Int) [(.int .i64 1), (.int .i64 2), (.int .i64 1), (.int .i64 1)] [1, 2, 1, 1] Tryd.underlying22 el3 H rfl rfl rfl rfl rfl rfl rfl ?_
  intro v1 w1 H hb1
  obtain ⟨⟨t1, t2⟩, hy1, hm⟩ := bind_some hm
  refine O.call Tryd.call24 rfl rfl rfl (c_flag_Hoist _ _ (H.own 0 rfl) hy1) ?_
  rintro _ w2 hb2 ⟨v2, rfl, ho1⟩
  have H := H.addOwn hb2 ho1
  refine O.move (v := (.tuple #[v2, (.int .i64 t2)])) rfl rfl rfl ?_
  refine O.extract (v := v2) rfl rfl rfl rfl ?_
  refine O.extract (v := (.int .i64 t2)) rfl rfl rfl rfl ?_
  refine O.assign (v := v2) rfl rfl rfl ?_
  refine O.assign (v := (.int .i64 t2)) rfl rfl rfl ?_
  refine WL.nil ?_
  refine W.seq ?_
  refine W.region ?_
  refine O.buildSlice (α := Int) [(.int .i64 1), (.int .i64 2), (.int .i64 10), (.int .i64 12)] [1, 2, 10, 12] Tryd.underlying22 el3 H rfl rfl rfl rfl rfl rfl rfl ?_
  intro v3 w3 H hb3
  obtain ⟨⟨t3, t4⟩, hy2, hm⟩ := bind_some hm
  refine O.call Tryd.call37 rfl rfl rfl (c_flag_Means _ _ (H.own 2 rfl) hy2) ?_
  rintro _ w4 hb4 ⟨v4, rfl, ho2⟩
  have H := H.addOwn hb4 ho2
  refine O.move (v := (.tuple #[v4, (.int .i64 t4)])) rfl rfl rfl ?_
  refine O.extract (v := v4) rfl rfl rfl rfl ?_
  refine O.extract (v := (.int .i64 t4)) rfl rfl rfl rfl ?_
  refine O.assign (v := v4) rfl rfl rfl ?_
  refine O.assign (v := (.int .i64 t4)) rfl rfl rfl ?_
  refine WL.nil ?_
  refine W.seq ?_
  refine W.region ?_
  refine O.move (v := (.int .i64 t2)) rfl rfl rfl ?_
  refine O.eql rfl rfl rfl rfl ?_
  refine O.move (v := (.bool (t2 == 0))) rfl rfl rfl ?_
  obtain ⟨b1, hm1, hm⟩ := bind_some hm
  refine WL.cut 4 (fun f w => f 3 = v4 ∧ f 4 = (.int .i64 t4) ∧ f 21 = .bool b1 ∧ Inv w0 w [ownI (α := Int) v1 3 ([1, 2, 1, 1] : List Int), ownI (α := Int) v2 3 t1, ownI (α := Int) v3 3 ([1, 2, 10, 12] : List Int), ownI (α := Int) v4 3 t3]) ?_ ?_
  · skip
    rcases ite_some hm1 with ⟨hc1, hm1⟩ | ⟨hc1, hm1⟩
    · skip
      refine WL.reset (i := 17) (v := .bool true) (congrArg Value.bool hc1) ?_
      refine O.move (v := v2) rfl rfl rfl ?_
      refine O.buildSlice (α := Int) [(.int .i64 1), (.int .i64 2), (.int .i64 10), (.int .i64 12)] [1, 2, 10, 12] Tryd.underlying22 el3 H rfl rfl rfl rfl rfl rfl rfl ?_
      intro v5 w5 H hb5
      obtain ⟨t5, hy3, hm1⟩ := bind_some hm1
      refine O.call Tryd.call16 rfl rfl rfl (c_noongunref07_SameInts _ _ (H.own 1 rfl) _ _ (H.own 4 rfl) hy3) ?_
      rintro _ w6 hb6 rfl
      have H := H.ext hb6
      refine O.pick_true (v := (.bool t5)) rfl rfl rfl rfl ?_
      refine WL.nil ?_
      have H := H.keep [0, 1, 2, 3] [ownI (α := Int) v1 3 ([1, 2, 1, 1] : List Int), ownI (α := Int) v2 3 t1, ownI (α := Int) v3 3 ([1, 2, 10, 12] : List Int), ownI (α := Int) v4 3 t3] rfl (by decide)
      have hq : t5 = b1 := Option.some.inj (show some t5 = some b1 from hm1)
      subst hq
      exact ⟨rfl, rfl, rfl, H⟩
    · skip
      refine WL.reset (i := 17) (v := .bool false) (congrArg Value.bool hc1) ?_
      refine O.skip rfl rfl ?_
      refine O.skip rfl rfl ?_
      refine O.skip rfl rfl ?_
      refine O.pick_false (v := (.bool false)) rfl rfl rfl rfl ?_
      refine WL.nil ?_
      have hq : false = b1 := Option.some.inj (show some false = some b1 from hm1)
      subst hq
      exact ⟨rfl, rfl, rfl, H⟩
  · skip
    rintro f w ⟨hf3, hf4, hf21, H⟩
    obtain ⟨u1, rfl⟩ : ∃ u1, f = (upd (upd (upd u1 3 v4) 4 (.int .i64 t4)) 21 (.bool b1)) := ⟨f, by rw [upd_self hf3, upd_self hf4, upd_self hf21]⟩
    refine O.move (v := (.bool b1)) rfl rfl rfl ?_
    refine WL.cut 3 (fun f w => f 3 = v4 ∧ f 25 = .bool (b1 && (t4 == 0)) ∧ Inv w0 w [ownI (α := Int) v1 3 ([1, 2, 1, 1] : List Int), ownI (α := Int) v2 3 t1, ownI (α := Int) v3 3 ([1, 2, 10, 12] : List Int), ownI (α := Int) v4 3 t3]) ?_ ?_
    · skip
      rcases bool_ft b1 with hc2 | hc2
      · skip
        refine WL.reset (i := 22) (v := .bool false) (congrArg Value.bool hc2) ?_
        refine O.skip rfl rfl ?_
        refine O.skip rfl rfl ?_
        refine O.pick_false (v := (.bool false)) rfl rfl rfl rfl ?_
        refine WL.nil ?_
        exact ⟨rfl, congrArg Value.bool (and_f hc2), H⟩
      · skip
        refine WL.reset (i := 22) (v := .bool true) (congrArg Value.bool hc2) ?_
        refine O.move (v := (.int .i64 t4)) rfl rfl rfl ?_
        refine O.eql rfl rfl rfl rfl ?_
        refine O.pick_true (v := (.bool (t4 == 0))) rfl rfl rfl rfl ?_
        refine WL.nil ?_
        exact ⟨rfl, congrArg Value.bool (and_t hc2), H⟩
    · skip
      rintro f w ⟨hf3, hf25, H⟩
      obtain ⟨u2, rfl⟩ : ∃ u2, f = (upd (upd u2 3 v4) 25 (.bool (b1 && (t4 == 0)))) := ⟨f, by rw [upd_self hf3, upd_self hf25]⟩
      refine O.move (v := (.bool (b1 && (t4 == 0)))) rfl rfl rfl ?_
      obtain ⟨b2, hm2, hm⟩ := bind_some hm
      refine WL.cut 4 (fun f w => f 30 = .bool b2 ∧ Inv w0 w [ownI (α := Int) v1 3 ([1, 2, 1, 1] : List Int), ownI (α := Int) v2 3 t1, ownI (α := Int) v3 3 ([1, 2, 10, 12] : List Int), ownI (α := Int) v4 3 t3]) ?_ ?_
      · skip
        rcases ite_some hm2 with ⟨hc3, hm2⟩ | ⟨hc3, hm2⟩
        · skip
          refine WL.reset (i := 26) (v := .bool true) (congrArg Value.bool hc3) ?_
          refine O.move (v := v4) rfl rfl rfl ?_
          refine O.buildSlice (α := Int) [(.int .i64 1), (.int .i64 2), (.int .i64 1), (.int .i64 1)] [1, 2, 1, 1] Tryd.underlying22 el3 H rfl rfl rfl rfl rfl rfl rfl ?_
          intro v6 w7 H hb7
          obtain ⟨t6, hy4, hm2⟩ := bind_some hm2
          refine O.call Tryd.call16 rfl rfl rfl (c_noongunref07_SameInts _ _ (H.own 3 rfl) _ _ (H.own 4 rfl) hy4) ?_
          rintro _ w8 hb8 rfl
          have H := H.ext hb8
          refine O.pick_true (v := (.bool t6)) rfl rfl rfl rfl ?_
          refine WL.nil ?_
          have H := H.keep [0, 1, 2, 3] [ownI (α := Int) v1 3 ([1, 2, 1, 1] : List Int), ownI (α := Int) v2 3 t1, ownI (α := Int) v3 3 ([1, 2, 10, 12] : List Int), ownI (α := Int) v4 3 t3] rfl (by decide)
          have hq : t6 = b2 := Option.some.inj (show some t6 = some b2 from hm2)
          subst hq
          exact ⟨rfl, H⟩
        · skip
          refine WL.reset (i := 26) (v := .bool false) (congrArg Value.bool hc3) ?_
          refine O.skip rfl rfl ?_
          refine O.skip rfl rfl ?_
          refine O.skip rfl rfl ?_
          refine O.pick_false (v := (.bool false)) rfl rfl rfl rfl ?_
          refine WL.nil ?_
          have hq : false = b2 := Option.some.inj (show some false = some b2 from hm2)
          subst hq
          exact ⟨rfl, H⟩
      · skip
        rintro f w ⟨hf30, H⟩
        obtain ⟨u3, rfl⟩ : ∃ u3, f = (upd u3 30 (.bool b2)) := ⟨f, by rw [upd_self hf30]⟩
        refine O.assign (v := (.bool b2)) rfl rfl rfl ?_
        refine WL.nil ?_
        refine W.ret ?_
        have hq : b2 = r0 := Option.some.inj (show some b2 = some r0 from hm)
        subst hq
        exact ends1 Tryd.results7 rfl ⟨_, rfl, H.base, rfl⟩

theorem c_strings_Cut {w0 : World} (hT : EnvH Tryd.prog 0 1 2 w0) (a0 a1 : ByteArray) {r0 : ByteArray} {r1 : ByteArray} {r2 : Bool} (hm : strings_Cut a0 a1 = some (r0, r1, r2)) :
    Calls Tryd.prog 63 #[(.string a0), (.string a1)] w0 (Ret w0 fun _ v => v = (.tuple #[(.string r0), (.string r1), (.bool r2)])) := by
  unfold strings_Cut cutSI at hm
  split at hm
  case isFalse => cases hm
  rename_i hn
  cases hm
  exact c_Cut { Tryd.cutT with } hT a0 a1 hn

theorem c_strconv_Itoa {w0 : World} (hT : EnvH Tryd.prog 0 1 2 w0) (a0 : Int) {r0 : ByteArray} (hm : strconv_Itoa a0 = some r0) :
    Calls Tryd.prog 66 #[(.int .i64 a0)] w0 (Ret w0 fun _ v => v = (.string r0)) := by
  unfold strconv_Itoa at hm
  split at hm
  case isFalse => cases hm
  rename_i hn
  obtain rfl := Option.some.inj hm
  exact c_ItoaZ Tryd.itoaT hT.tab a0 hn.1 hn.2

theorem c_strconv_Atoi {w0 : World} (hT : EnvH Tryd.prog 0 1 2 w0) (a0 : ByteArray) {r0 : Int} (hm : atoiI a0 = some r0) :
    Calls Tryd.prog 64 #[(.string a0)] w0 (Ret w0 fun _ v => ∃ e, v = (.tuple #[(.int .i64 r0), e])) := by
  unfold atoiI at hm
  split at hm
  case isFalse => cases hm
  rename_i hn
  cases hm
  exact c_Atoi Tryd.atoiT hT a0 hn

theorem c_flag_ValidBook_c1 {w0 : World} (a0 : Int) {r0 : Bool} (hm : flag_ValidBook_c1 a0 = some r0) :
    Calls Tryd.prog 57 #[(.int .i32 a0)] w0 (Ret w0 fun _ v => v = (.bool r0)) := by
  unfold flag_ValidBook_c1 at hm
  refine calls_of_W Tryd.func57 rfl Tryd.ntmps57 (Nat.le_of_ble_eq_true rfl) ?_
  have H := Inv.start (w := w0)
  refine W.seq ?_
  refine W.region ?_
  refine O.assign (v := (.bool false)) rfl rfl rfl ?_
  refine WL.nil ?_
  refine W.seq ?_
  refine W.region ?_
  refine O.move (v := (.int .i32 a0)) rfl rfl rfl ?_
  refine O.lss rfl rfl rfl rfl ?_
  refine O.move (v := (.bool (decide (a0 < 32)))) rfl rfl rfl ?_
  refine WL.cut 3 (fun f w => f 8 = .bool ((decide (a0 < 32)) || (decide (126 < a0))) ∧ Inv w0 w []) ?_ ?_
  · skip
    rcases bool_ft (decide (a0 < 32)) with hc1 | hc1
    · skip
      refine WL.reset (i := 5) (v := .bool false) (congrArg Value.bool hc1) ?_
      refine O.move (v := (.int .i32 a0)) rfl rfl rfl ?_
      refine O.gtr rfl rfl rfl rfl ?_
      refine O.pick_false (v := (.bool (decide (126 < a0)))) rfl rfl rfl rfl ?_
      refine WL.nil ?_
      exact ⟨congrArg Value.bool (or_f hc1), H⟩
    · skip
      refine WL.reset (i := 5) (v := .bool true) (congrArg Value.bool hc1) ?_
      refine O.skip rfl rfl ?_
      refine O.skip rfl rfl ?_
      refine O.pick_true (v := (.bool true)) rfl rfl rfl rfl ?_
      refine WL.nil ?_
      exact ⟨congrArg Value.bool (or_t hc1), H⟩
  · skip
    rintro f w ⟨hf8, H⟩
    obtain ⟨u1, rfl⟩ : ∃ u1, f = (upd u1 8 (.bool ((decide (a0 < 32)) || (decide (126 < a0))))) := ⟨f, by rw [upd_self hf8]⟩
    refine O.assign (v := (.bool ((decide (a0 < 32)) || (decide (126 < a0))))) rfl rfl rfl ?_
    refine WL.nil ?_
    refine W.ret ?_
    have hq : ((decide (a0 < 32)) || (decide (126 < a0))) = r0 := Option.some.inj (show some ((decide (a0 < 32)) || (decide (126 < a0))) = some r0 from hm)
    subst hq
    exact ends1 Tryd.results57 rfl ⟨_, rfl, H.base, rfl⟩

theorem c_flag_isNumber {w0 : World} (a0 : Int) {r0 : Bool} (hm : flag_isNumber a0 = some r0) :
    Calls Tryd.prog 38 #[(.int .i64 a0)] w0 (Ret w0 fun _ v => v = (.bool r0)) := by
  unfold flag_isNumber at hm
  refine calls_of_W Tryd.func38 rfl Tryd.ntmps38 (Nat.le_of_ble_eq_true rfl) ?_
  have H := Inv.start (w := w0)
  refine W.seq ?_
  refine W.region ?_
  refine O.assign (v := (.bool false)) rfl rfl rfl ?_
  refine WL.nil ?_
  refine W.seq ?_
  refine W.region ?_
  refine O.move (v := (.int .i64 a0)) rfl rfl rfl ?_
  obtain ⟨t1, hy1, hm⟩ := bind_some hm
  refine O.call Tryd.call58 rfl rfl rfl (c_flag_within _ _ _ hy1) ?_
  rintro _ w1 hb1 rfl
  have H := H.ext hb1
  refine O.assign (v := (.bool t1)) rfl rfl rfl ?_
  refine WL.nil ?_
  refine W.ret ?_
  have hq : t1 = r0 := Option.some.inj (show some t1 = some r0 from hm)
  subst hq
  exact ends1 Tryd.results38 rfl ⟨_, rfl, H.base, rfl⟩

theorem c_strings_indexFunc {w0 : World} (a0 : ByteArray) (va1 : Value) (a1 : Int → Option (Bool)) (ha1 : ∀ (w : World), Below w0.heap.size w0 w → ∀ (x0 : Int) (y0 : Bool), a1 x0 = some y0 → CallsV Tryd.prog va1 #[(.int .i32 x0)] w (Ret w fun _ v => v = (.bool y0))) (a2 : Bool) {r0 : Int} (hm : strings_indexFunc a0 a1 a2 = some r0) :
    Calls Tryd.prog 95 #[(.string a0), va1, (.bool a2)] w0 (Ret w0 fun _ v => v = (.int .i64 r0)) := by
  unfold strings_indexFunc at hm
  split at hm
  case isFalse => cases hm
  rename_i hsz
  refine calls_of_W Tryd.func95 rfl Tryd.ntmps95 (Nat.le_of_ble_eq_true rfl) ?_
  have H := Inv.start (w := w0)
  refine W.seq ?_
  refine W.region ?_
  refine O.assign (v := (.int .i64 0)) rfl rfl rfl ?_
  refine WL.nil ?_
  refine W.seq ?_
  refine W.via (fun f w => r0 = -1 ∧ Inv w0 w []) ?_ ?_
  · refine W.seq ?_
    refine W.region ?_
    refine O.move (v := (.string a0)) rfl rfl rfl ?_
    refine O.rangeS Tryd.underlying9 H rfl rfl rfl ?_
    intro bi w2 H hb2
    refine WL.nil ?_
    refine W.block ?_
    refine W.loopL (l := runesL a0 (a0.size + 1) 0) (fun rem f w => ∃ (n at_ : Nat), runesL a0 n at_ = rem ∧ a0.size + 1 ≤ n + at_ ∧ idxR a1 a2 rem = some r0 ∧ f 10 = .pointer (some ⟨bi, 0, none⟩) ∧ f 1 = va1 ∧ f 2 = (.bool a2) ∧ Inv w0 w [strI bi a0 at_]) ?_ ?_ ?_
    · exact ⟨_, 0, rfl, Nat.le_refl _, hm, rfl, rfl, rfl, H⟩
    · rintro ⟨y, r⟩ ys f w ⟨n, at_, hd, hn, hi, hf10, hf1, hf2, H⟩
      obtain ⟨u1, rfl⟩ : ∃ u1, f = (upd (upd (upd u1 10 (.pointer (some ⟨bi, 0, none⟩))) 1 va1) 2 (.bool a2)) := ⟨f, by rw [upd_self hf10, upd_self hf1, upd_self hf2]⟩
      cases n with
      | zero => simp [runesL] at hd
      | succ n =>
        rw [runesL] at hd
        split at hd
        case isFalse => cases hd
        rename_i hlt
        have hw := dec_w a0 at_
        obtain ⟨hd1, hd2⟩ := List.cons.inj hd
        obtain ⟨rfl, rfl⟩ := Prod.mk.inj hd1
        rw [idxR] at hi
        obtain ⟨t, ht, hi⟩ := bind_some hi
        refine W.seq ?_
        refine W.region ?_
        refine O.nextR 0 H rfl hlt rfl rfl rfl ?_
        intro w1 H
        refine O.extract (v := .bool true) rfl rfl rfl rfl ?_
        refine WL.nil ?_
        refine W.seq ?_
        refine W.cond_true rfl ?_
        refine W.skip ?_
        refine W.block ?_
        refine W.seq ?_
        refine W.region ?_
        refine O.extract (v := (.int .i64 (at_ : Int))) rfl rfl rfl rfl ?_
        refine O.extract (v := (.int .i32 ((Utf8.decode a0 at_).1 : Int))) rfl rfl rfl rfl ?_
        refine O.assign (v := (.int .i64 (at_ : Int))) rfl rfl rfl ?_
        refine O.assign (v := (.int .i32 ((Utf8.decode a0 at_).1 : Int))) rfl rfl rfl ?_
        refine WL.nil ?_
        refine W.seq ?_
        refine W.region ?_
        refine O.move (v := va1) rfl rfl rfl ?_
        refine O.move (v := (.int .i32 ((Utf8.decode a0 at_).1 : Int))) rfl rfl rfl ?_
        refine O.callV rfl rfl rfl rfl (ha1 _ H.base _ _ ht) ?_
        rintro _ w3 hb3 rfl
        have H := H.ext hb3
        refine O.move (v := (.bool a2)) rfl rfl rfl ?_
        refine O.eqlB Tryd.underlying4 rfl rfl rfl rfl ?_
        refine WL.nil ?_
        rcases ite_some hi with ⟨hc, hi⟩ | ⟨hc, hi⟩
        · refine W.cond_true (congrArg Value.bool hc) ?_
          refine W.seq ?_
          refine W.region ?_
          refine O.move (v := (.int .i64 (at_ : Int))) rfl rfl rfl ?_
          refine O.assign (v := (.int .i64 (at_ : Int))) rfl rfl rfl ?_
          refine WL.nil ?_
          refine W.ret ?_
          obtain rfl := Option.some.inj hi
          exact ends1 Tryd.results95 rfl ⟨_, rfl, H.base, rfl⟩
        · refine W.cond_false (congrArg Value.bool hc) ?_
          refine W.skip ?_
          exact ⟨n, at_ + (Utf8.decode a0 at_).2, hd2, by omega, hi, rfl, rfl, rfl, H⟩
    · rintro f w ⟨n, at_, hd, hn, hi, hf10, hf1, hf2, H⟩
      obtain ⟨u1, rfl⟩ : ∃ u1, f = (upd u1 10 (.pointer (some ⟨bi, 0, none⟩))) := ⟨f, by rw [upd_self hf10]⟩
      have hge : ¬ at_ < a0.size := by
        intro h
        cases n with
        | zero => omega
        | succ n => rw [runesL, if_pos h] at hd; cases hd
      refine W.seq ?_
      refine W.region ?_
      refine O.endS 0 H rfl hge rfl rfl rfl ?_
      refine O.extract (v := .bool false) rfl rfl rfl rfl ?_
      refine WL.nil ?_
      refine W.seq ?_
      refine W.cond_false rfl ?_
      refine W.exit ?_
      refine xT rfl ?_
      exact ⟨(Option.some.inj hi).symm, H.keep [] [] rfl (by decide)⟩
  · rintro f w ⟨rfl, H⟩
    refine W.seq ?_
    refine W.region ?_
    refine O.assign (v := (.int .i64 (-1))) rfl rfl rfl ?_
    refine WL.nil ?_
    refine W.ret ?_
    exact ends1 Tryd.results95 rfl ⟨_, rfl, H.base, rfl⟩

theorem c_strings_IndexFunc {w0 : World} (a0 : ByteArray) (va1 : Value) (a1 : Int → Option (Bool)) (ha1 : ∀ (w : World), Below w0.heap.size w0 w → ∀ (x0 : Int) (y0 : Bool), a1 x0 = some y0 → CallsV Tryd.prog va1 #[(.int .i32 x0)] w (Ret w fun _ v => v = (.bool y0))) {r0 : Int} (hm : strings_IndexFunc a0 a1 = some r0) :
    Calls Tryd.prog 81 #[(.string a0), va1] w0 (Ret w0 fun _ v => v = (.int .i64 r0)) := by
  unfold strings_IndexFunc at hm
  refine calls_of_W Tryd.func81 rfl Tryd.ntmps81 (Nat.le_of_ble_eq_true rfl) ?_
  have H := Inv.start (w := w0)
  refine W.seq ?_
  refine W.region ?_
  refine O.assign (v := (.int .i64 0)) rfl rfl rfl ?_
  refine WL.nil ?_
  refine W.seq ?_
  refine W.region ?_
  refine O.move (v := (.string a0)) rfl rfl rfl ?_
  refine O.move (v := va1) rfl rfl rfl ?_
  obtain ⟨t1, hy1, hm⟩ := bind_some hm
  refine O.call Tryd.call95 rfl rfl rfl (c_strings_indexFunc _ va1 a1 (fun w hw => ha1 w (H.base.trans (hw.mono H.base.size))) _ hy1) ?_
  rintro _ w1 hb1 rfl
  have H := H.ext hb1
  refine O.assign (v := (.int .i64 t1)) rfl rfl rfl ?_
  refine WL.nil ?_
  refine W.ret ?_
  have hq : t1 = r0 := Option.some.inj (show some t1 = some r0 from hm)
  subst hq
  exact ends1 Tryd.results81 rfl ⟨_, rfl, H.base, rfl⟩

theorem c_strings_ContainsFunc {w0 : World} (a0 : ByteArray) (va1 : Value) (a1 : Int → Option (Bool)) (ha1 : ∀ (w : World), Below w0.heap.size w0 w → ∀ (x0 : Int) (y0 : Bool), a1 x0 = some y0 → CallsV Tryd.prog va1 #[(.int .i32 x0)] w (Ret w fun _ v => v = (.bool y0))) {r0 : Bool} (hm : strings_ContainsFunc a0 a1 = some r0) :
    Calls Tryd.prog 59 #[(.string a0), va1] w0 (Ret w0 fun _ v => v = (.bool r0)) := by
  unfold strings_ContainsFunc at hm
  refine calls_of_W Tryd.func59 rfl Tryd.ntmps59 (Nat.le_of_ble_eq_true rfl) ?_
  have H := Inv.start (w := w0)
  refine W.seq ?_
  refine W.region ?_
  refine O.assign (v := (.bool false)) rfl rfl rfl ?_
  refine WL.nil ?_
  refine W.seq ?_
  refine W.region ?_
  refine O.move (v := (.string a0)) rfl rfl rfl ?_
  refine O.move (v := va1) rfl rfl rfl ?_
  obtain ⟨t1, hy1, hm⟩ := bind_some hm
  refine O.call Tryd.call81 rfl rfl rfl (c_strings_IndexFunc _ va1 a1 (fun w hw => ha1 w (H.base.trans (hw.mono H.base.size))) hy1) ?_
  rintro _ w1 hb1 rfl
  have H := H.ext hb1
  refine O.geq rfl rfl rfl rfl ?_
  refine O.assign (v := (.bool (decide (0 ≤ t1)))) rfl rfl rfl ?_
  refine WL.nil ?_
  refine W.ret ?_
  have hq : (decide (0 ≤ t1)) = r0 := Option.some.inj (show some (decide (0 ≤ t1)) = some r0 from hm)
  subst hq
  exact ends1 Tryd.results59 rfl ⟨_, rfl, H.base, rfl⟩

set_option maxRecDepth 20000 in
theorem c_flag_ValidBook {w0 : World} (va0 : Value) (a0 : (List GMeaning)) (ha0 : SliceR w0 va0 a0) {r0 : Bool} (hm : flag_ValidBook a0 = some r0) :
    Calls Tryd.prog 22 #[va0] w0 (Ret w0 fun _ v => v = (.bool r0)) := by
  unfold flag_ValidBook at hm
  refine calls_of_W Tryd.func22 rfl Tryd.ntmps22 (Nat.le_of_ble_eq_true rfl) ?_
  have H := Inv.start (w := w0)
  refine W.seq ?_
  refine W.region ?_
  refine O.assign (v := (.bool false)) rfl rfl rfl ?_
  refine WL.nil ?_
  refine W.seq ?_
  refine W.region ?_
  refine O.assign (v := (.func (.func 57) #[] #[])) rfl rfl rfl ?_
  refine WL.nil ?_
  refine W.seq ?_
  refine W.seq ?_
  refine W.region ?_
  refine O.move (v := va0) rfl rfl rfl ?_
  refine O.lenS Tryd.underlying33 (H.arg ha0) rfl rfl rfl ?_
  refine O.move (v := (.int .i64 0)) rfl rfl rfl ?_
  refine WL.nil ?_
  obtain ⟨o1, hm1, hm⟩ := bind_some hm
  refine W.via (fun f w => o1 = .next () ∧ f 0 = va0 ∧ Inv w0 w []) ?_ ?_
  · skip
    refine W.block ?_
    have hbdik1 := (H.arg ha0).len_le
    refine W.rangeN (i := 0) hm1 (fun rem ik1 s f w => () = s ∧ (ik1 : Int) + rem = max 0 ((a0.length : Nat) : Int) ∧ f 8 = .int .i64 (ik1 : Int) ∧ f 7 = (.int .i64 ((a0.length : Nat) : Int)) ∧ f 0 = va0 ∧ f 3 = (.func (.func 57) #[] #[]) ∧ f 6 = va0 ∧ Inv w0 w []) ?_ ?_ ?_
    · skip
      exact ⟨rfl, rangeN_start, rfl, rfl, rfl, rfl, rfl, H⟩
    · skip
      rintro k ik1 _ st f w ⟨rfl, hdropk1, hf8, hf7, hf0, hf3, hf6, H⟩ hm2
      have hltk1 := rangeN_lt hdropk1
      obtain ⟨u1, rfl⟩ : ∃ u1, f = (upd (upd (upd (upd (upd u1 8 (.int .i64 (ik1 : Int))) 7 (.int .i64 ((a0.length : Nat) : Int))) 0 va0) 3 (.func (.func 57) #[] #[])) 6 va0) := ⟨f, by rw [upd_self hf8, upd_self hf7, upd_self hf0, upd_self hf3, upd_self hf6]⟩
      have hinck1 := addI_lt hltk1 hbdik1
      refine W.seq ?_
      refine W.region ?_
      refine O.lss rfl rfl rfl rfl ?_
      refine WL.nil ?_
      refine W.seq ?_
      refine W.cond_true (congrArg Value.bool (decide_eq_true hltk1)) ?_
      refine W.skip ?_
      refine W.seq ?_
      refine W.block ?_
      refine W.seq ?_
      refine W.region ?_
      refine O.move (v := (.int .i64 (ik1 : Int))) rfl rfl rfl ?_
      obtain ⟨x1, hx1, hm2⟩ := bind_some hm2
      obtain ⟨p1, hp1, hrp1⟩ := fix_indexAddr Tryd.underlying33 sz39 ha0 hx1
      refine hrp1 rfl rfl rfl rfl ?_
      refine O.loadA [(.int .i64 x1.Number), (.string x1.Text)] ag39 rfl rfl rfl rfl ((hp1.mono H.base).flat) ?_
      refine O.alloc [(.int .i64 0), (.string ByteArray.empty)] ze39 H rfl rfl rfl ?_
      intro b1 w1 H hb1
      refine O.assign (v := (.int .i64 (ik1 : Int))) rfl rfl rfl ?_
      refine O.store 0 0 [(.int .i64 x1.Number), (.string x1.Text)] [(.int .i64 x1.Number), (.string x1.Text)] sz39 H rfl rfl rfl rfl rfl rfl ⟨⟨rfl, rfl⟩, rfl⟩ (one_cons rfl (one_cons rfl one_nil)) ?_
      intro w2 H
      refine WL.nil ?_
      refine W.seq ?_
      obtain ⟨t1, hy1, hm2⟩ := bind_some hm2
      obtain ⟨b2, hm3, hm2⟩ := bind_some hm2
      obtain ⟨b4, hm5, hm2⟩ := bind_some hm2
      obtain ⟨b5, hm6, hm2⟩ := bind_some hm2
      refine W.drawN 32 (fun f => f 0 = va0 ∧ f 3 = (.func (.func 57) #[] #[]) ∧ f 6 = va0 ∧ f 7 = (.int .i64 ((a0.length : Nat) : Int)) ∧ f 8 = (.int .i64 (ik1 : Int)) ∧ f 44 = (.bool b5)) fol (by kernel_rfl) ?_ ?_
      · skip
        refine PL.of (fun _ w8 _ hx => O.fieldAddr fd39_0 rfl rfl rfl (WL.nil ⟨rfl, hx⟩)) ?_
        refine PL.of (fun _ w8 _ hx => by have H := H.ext hx; exact O.load sc3 rfl rfl rfl (H.cell 0 rfl 0 _ rfl) (WL.nil ⟨rfl, hx⟩)) ?_
        refine PL.of (fun _ w8 _ hx => O.call Tryd.call38 rfl rfl rfl (c_flag_isNumber _ hy1) (by rintro _ _ hb rfl; exact WL.nil ⟨rfl, hx.trans (hb.mono hx.size)⟩)) ?_
        refine PL.of (fun _ w8 _ hx => O.not rfl rfl rfl (WL.nil ⟨rfl, hx⟩)) ?_
        refine PL.of (fun _ w8 _ hx => O.move (v := (.bool (!t1))) rfl rfl rfl (WL.nil ⟨rfl, hx⟩)) ?_
        refine PL.cut 14 (fun f => f 0 = va0 ∧ f 3 = (.func (.func 57) #[] #[]) ∧ f 5 = (.pointer (some ⟨b1, 0, none⟩)) ∧ f 6 = va0 ∧ f 7 = (.int .i64 ((a0.length : Nat) : Int)) ∧ f 8 = (.int .i64 (ik1 : Int)) ∧ f 31 = .bool b2) ?_ ?_
        · skip
          rcases ite_some hm3 with ⟨hc1, hm3⟩ | ⟨hc1, hm3⟩
          · skip
            refine PL.reset (i := 17) (v := .bool true) (congrArg Value.bool hc1) ?_
            refine PL.of (fun _ w8 _ hx => O.skip rfl rfl (WL.nil ⟨rfl, hx⟩)) ?_
            refine PL.of (fun _ w8 _ hx => O.skip rfl rfl (WL.nil ⟨rfl, hx⟩)) ?_
            refine PL.of (fun _ w8 _ hx => O.skip rfl rfl (WL.nil ⟨rfl, hx⟩)) ?_
            refine PL.of (fun _ w8 _ hx => O.skip rfl rfl (WL.nil ⟨rfl, hx⟩)) ?_
            refine PL.of (fun _ w8 _ hx => O.skip rfl rfl (WL.nil ⟨rfl, hx⟩)) ?_
            refine PL.of (fun _ w8 _ hx => O.skip rfl rfl (WL.nil ⟨rfl, hx⟩)) ?_
            refine PL.of (fun _ w8 _ hx => O.skip rfl rfl (WL.nil ⟨rfl, hx⟩)) ?_
            refine PL.of (fun _ w8 _ hx => O.skip rfl rfl (WL.nil ⟨rfl, hx⟩)) ?_
            refine PL.of (fun _ w8 _ hx => O.skip rfl rfl (WL.nil ⟨rfl, hx⟩)) ?_
            refine PL.of (fun _ w8 _ hx => O.skip rfl rfl (WL.nil ⟨rfl, hx⟩)) ?_
            refine PL.of (fun _ w8 _ hx => O.skip rfl rfl (WL.nil ⟨rfl, hx⟩)) ?_
            refine PL.of (fun _ w8 _ hx => O.skip rfl rfl (WL.nil ⟨rfl, hx⟩)) ?_
            refine PL.of (fun _ w8 _ hx => O.skip rfl rfl (WL.nil ⟨rfl, hx⟩)) ?_
            refine PL.of (fun _ w8 _ hx => O.pick_true (v := (.bool true)) rfl rfl rfl rfl (WL.nil ⟨rfl, hx⟩)) ?_
            refine PL.nil ?_
            have hq : true = b2 := Option.some.inj (show some true = some b2 from hm3)
            subst hq
            exact ⟨rfl, rfl, rfl, rfl, rfl, rfl, rfl⟩
          · skip
            refine PL.reset (i := 17) (v := .bool false) (congrArg Value.bool hc1) ?_
            refine PL.of (fun _ w8 _ hx => O.move (v := (.int .i64 (ik1 : Int))) rfl rfl rfl (WL.nil ⟨rfl, hx⟩)) ?_
            refine PL.of (fun _ w8 _ hx => O.gtr rfl rfl rfl rfl (WL.nil ⟨rfl, hx⟩)) ?_
            refine PL.of (fun _ w8 _ hx => O.move (v := (.bool (decide (0 < (ik1 : Int))))) rfl rfl rfl (WL.nil ⟨rfl, hx⟩)) ?_
            obtain ⟨b3, hm4, hm3⟩ := bind_some hm3
            refine PL.cut 10 (fun f => f 0 = va0 ∧ f 3 = (.func (.func 57) #[] #[]) ∧ f 5 = (.pointer (some ⟨b1, 0, none⟩)) ∧ f 6 = va0 ∧ f 7 = (.int .i64 ((a0.length : Nat) : Int)) ∧ f 8 = (.int .i64 (ik1 : Int)) ∧ f 17 = (.bool false) ∧ f 18 = (.int .i64 (ik1 : Int)) ∧ f 19 = (.bool (decide (0 < (ik1 : Int)))) ∧ f 20 = (.bool (decide (0 < (ik1 : Int)))) ∧ f 30 = .bool b3) ?_ ?_
            · skip
              rcases ite_some hm4 with ⟨hc2, hm4⟩ | ⟨hc2, hm4⟩
              · skip
                refine PL.reset (i := 20) (v := .bool true) (congrArg Value.bool hc2) ?_
                refine PL.of (fun _ w8 _ hx => O.fieldAddr fd39_0 rfl rfl rfl (WL.nil ⟨rfl, hx⟩)) ?_
                refine PL.of (fun _ w8 _ hx => by have H := H.ext hx; exact O.load sc3 rfl rfl rfl (H.cell 0 rfl 0 _ rfl) (WL.nil ⟨rfl, hx⟩)) ?_
                refine PL.of (fun _ w8 _ hx => O.move (v := va0) rfl rfl rfl (WL.nil ⟨rfl, hx⟩)) ?_
                refine PL.of (fun _ w8 _ hx => O.move (v := (.int .i64 (ik1 : Int))) rfl rfl rfl (WL.nil ⟨rfl, hx⟩)) ?_
                obtain ⟨t2, ht2, hm4⟩ := bind_some hm4
                refine PL.of (fun _ w8 _ hx => O.sub rfl rfl rfl rfl ht2 (WL.nil ⟨rfl, hx⟩)) ?_
                obtain ⟨x2, hx2, hm4⟩ := bind_some hm4
                obtain ⟨p2, hp2, hrp2⟩ := fix_indexAddr Tryd.underlying33 sz39 (H.arg ha0) hx2
                refine PL.of (fun _ w8 _ hx => hrp2 rfl rfl rfl rfl (WL.nil ⟨rfl, hx⟩)) ?_
                refine PL.of (fun _ w8 _ hx => O.fieldAddr fd39_0 rfl rfl rfl (WL.nil ⟨rfl, hx⟩)) ?_
                refine PL.of (fun _ w8 _ hx => by have hp2 := hp2.mono hx; exact O.load sc3 rfl rfl rfl (hp2.flat 0 _ rfl) (WL.nil ⟨rfl, hx⟩)) ?_
                refine PL.of (fun _ w8 _ hx => O.leq rfl rfl rfl rfl (WL.nil ⟨rfl, hx⟩)) ?_
                refine PL.of (fun _ w8 _ hx => O.pick_true (v := (.bool (decide (x1.Number ≤ x2.Number)))) rfl rfl rfl rfl (WL.nil ⟨rfl, hx⟩)) ?_
                refine PL.nil ?_
                have hq : (decide (x1.Number ≤ x2.Number)) = b3 := Option.some.inj (show some (decide (x1.Number ≤ x2.Number)) = some b3 from hm4)
                subst hq
                exact ⟨rfl, rfl, rfl, rfl, rfl, rfl, rfl, rfl, rfl, (congrArg Value.bool hc2).symm, rfl⟩
              · skip
                refine PL.reset (i := 20) (v := .bool false) (congrArg Value.bool hc2) ?_
                refine PL.of (fun _ w8 _ hx => O.skip rfl rfl (WL.nil ⟨rfl, hx⟩)) ?_
                refine PL.of (fun _ w8 _ hx => O.skip rfl rfl (WL.nil ⟨rfl, hx⟩)) ?_
                refine PL.of (fun _ w8 _ hx => O.skip rfl rfl (WL.nil ⟨rfl, hx⟩)) ?_
                refine PL.of (fun _ w8 _ hx => O.skip rfl rfl (WL.nil ⟨rfl, hx⟩)) ?_
                refine PL.of (fun _ w8 _ hx => O.skip rfl rfl (WL.nil ⟨rfl, hx⟩)) ?_
                refine PL.of (fun _ w8 _ hx => O.skip rfl rfl (WL.nil ⟨rfl, hx⟩)) ?_
                refine PL.of (fun _ w8 _ hx => O.skip rfl rfl (WL.nil ⟨rfl, hx⟩)) ?_
                refine PL.of (fun _ w8 _ hx => O.skip rfl rfl (WL.nil ⟨rfl, hx⟩)) ?_
                refine PL.of (fun _ w8 _ hx => O.skip rfl rfl (WL.nil ⟨rfl, hx⟩)) ?_
                refine PL.of (fun _ w8 _ hx => O.pick_false (v := (.bool false)) rfl rfl rfl rfl (WL.nil ⟨rfl, hx⟩)) ?_
                refine PL.nil ?_
                have hq : false = b3 := Option.some.inj (show some false = some b3 from hm4)
                subst hq
                exact ⟨rfl, rfl, rfl, rfl, rfl, rfl, rfl, rfl, rfl, (congrArg Value.bool hc2).symm, rfl⟩
            · skip
              rintro f ⟨hf0, hf3, hf5, hf6, hf7, hf8, hf17, hf18, hf19, hf20, hf30⟩
              obtain ⟨u2, rfl⟩ : ∃ u2, f = (upd (upd (upd (upd (upd (upd (upd (upd (upd (upd (upd u2 0 va0) 3 (.func (.func 57) #[] #[])) 5 (.pointer (some ⟨b1, 0, none⟩))) 6 va0) 7 (.int .i64 ((a0.length : Nat) : Int))) 8 (.int .i64 (ik1 : Int))) 17 (.bool false)) 18 (.int .i64 (ik1 : Int))) 19 (.bool (decide (0 < (ik1 : Int))))) 20 (.bool (decide (0 < (ik1 : Int))))) 30 (.bool b3)) := ⟨f, by rw [upd_self hf0, upd_self hf3, upd_self hf5, upd_self hf6, upd_self hf7, upd_self hf8, upd_self hf17, upd_self hf18, upd_self hf19, upd_self hf20, upd_self hf30]⟩
              refine PL.of (fun _ w8 _ hx => O.pick_false (v := (.bool b3)) rfl rfl rfl rfl (WL.nil ⟨rfl, hx⟩)) ?_
              refine PL.nil ?_
              have hq : b3 = b2 := Option.some.inj (show some b3 = some b2 from hm3)
              subst hq
              exact ⟨rfl, rfl, rfl, rfl, rfl, rfl, rfl⟩
        · skip
          rintro f ⟨hf0, hf3, hf5, hf6, hf7, hf8, hf31⟩
          obtain ⟨u3, rfl⟩ : ∃ u3, f = (upd (upd (upd (upd (upd (upd (upd u3 0 va0) 3 (.func (.func 57) #[] #[])) 5 (.pointer (some ⟨b1, 0, none⟩))) 6 va0) 7 (.int .i64 ((a0.length : Nat) : Int))) 8 (.int .i64 (ik1 : Int))) 31 (.bool b2)) := ⟨f, by rw [upd_self hf0, upd_self hf3, upd_self hf5, upd_self hf6, upd_self hf7, upd_self hf8, upd_self hf31]⟩
          refine PL.of (fun _ w8 _ hx => O.move (v := (.bool b2)) rfl rfl rfl (WL.nil ⟨rfl, hx⟩)) ?_
          refine PL.cut 6 (fun f => f 0 = va0 ∧ f 3 = (.func (.func 57) #[] #[]) ∧ f 5 = (.pointer (some ⟨b1, 0, none⟩)) ∧ f 6 = va0 ∧ f 7 = (.int .i64 ((a0.length : Nat) : Int)) ∧ f 8 = (.int .i64 (ik1 : Int)) ∧ f 38 = .bool b4) ?_ ?_
          · skip
            rcases ite_some hm5 with ⟨hc3, hm5⟩ | ⟨hc3, hm5⟩
            · skip
              refine PL.reset (i := 32) (v := .bool true) (congrArg Value.bool hc3) ?_
              refine PL.of (fun _ w8 _ hx => O.skip rfl rfl (WL.nil ⟨rfl, hx⟩)) ?_
              refine PL.of (fun _ w8 _ hx => O.skip rfl rfl (WL.nil ⟨rfl, hx⟩)) ?_
              refine PL.of (fun _ w8 _ hx => O.skip rfl rfl (WL.nil ⟨rfl, hx⟩)) ?_
              refine PL.of (fun _ w8 _ hx => O.skip rfl rfl (WL.nil ⟨rfl, hx⟩)) ?_
              refine PL.of (fun _ w8 _ hx => O.skip rfl rfl (WL.nil ⟨rfl, hx⟩)) ?_
              refine PL.of (fun _ w8 _ hx => O.pick_true (v := (.bool true)) rfl rfl rfl rfl (WL.nil ⟨rfl, hx⟩)) ?_
              refine PL.nil ?_
              have hq : true = b4 := Option.some.inj (show some true = some b4 from hm5)
              subst hq
              exact ⟨rfl, rfl, rfl, rfl, rfl, rfl, rfl⟩
            · skip
              refine PL.reset (i := 32) (v := .bool false) (congrArg Value.bool hc3) ?_
              refine PL.of (fun _ w8 _ hx => O.fieldAddr fd39_1 rfl rfl rfl (WL.nil ⟨rfl, hx⟩)) ?_
              refine PL.of (fun _ w8 _ hx => by have H := H.ext hx; exact O.load sc9 rfl rfl rfl (H.cell 0 rfl 1 _ rfl) (WL.nil ⟨rfl, hx⟩)) ?_
              refine PL.of (fun _ w8 _ hx => O.lenStr Tryd.underlying9 rfl rfl rfl (WL.nil ⟨rfl, hx⟩)) ?_
              obtain ⟨t3, hy2, hm5⟩ := bind_some hm5
              refine PL.of (fun _ w8 _ hx => O.call Tryd.call58 rfl rfl rfl (c_flag_within _ _ _ hy2) (by rintro _ _ hb rfl; exact WL.nil ⟨rfl, hx.trans (hb.mono hx.size)⟩)) ?_
              refine PL.of (fun _ w8 _ hx => O.not rfl rfl rfl (WL.nil ⟨rfl, hx⟩)) ?_
              refine PL.of (fun _ w8 _ hx => O.pick_false (v := (.bool (!t3))) rfl rfl rfl rfl (WL.nil ⟨rfl, hx⟩)) ?_
              refine PL.nil ?_
              have hq : (!t3) = b4 := Option.some.inj (show some (!t3) = some b4 from hm5)
              subst hq
              exact ⟨rfl, rfl, rfl, rfl, rfl, rfl, rfl⟩
          · skip
            rintro f ⟨hf0, hf3, hf5, hf6, hf7, hf8, hf38⟩
            obtain ⟨u4, rfl⟩ : ∃ u4, f = (upd (upd (upd (upd (upd (upd (upd u4 0 va0) 3 (.func (.func 57) #[] #[])) 5 (.pointer (some ⟨b1, 0, none⟩))) 6 va0) 7 (.int .i64 ((a0.length : Nat) : Int))) 8 (.int .i64 (ik1 : Int))) 38 (.bool b4)) := ⟨f, by rw [upd_self hf0, upd_self hf3, upd_self hf5, upd_self hf6, upd_self hf7, upd_self hf8, upd_self hf38]⟩
            refine PL.of (fun _ w8 _ hx => O.move (v := (.bool b4)) rfl rfl rfl (WL.nil ⟨rfl, hx⟩)) ?_
            refine PL.cut 5 (fun f => f 0 = va0 ∧ f 3 = (.func (.func 57) #[] #[]) ∧ f 6 = va0 ∧ f 7 = (.int .i64 ((a0.length : Nat) : Int)) ∧ f 8 = (.int .i64 (ik1 : Int)) ∧ f 44 = .bool b5) ?_ ?_
            · skip
              rcases ite_some hm6 with ⟨hc4, hm6⟩ | ⟨hc4, hm6⟩
              · skip
                refine PL.reset (i := 39) (v := .bool true) (congrArg Value.bool hc4) ?_
                refine PL.of (fun _ w8 _ hx => O.skip rfl rfl (WL.nil ⟨rfl, hx⟩)) ?_
                refine PL.of (fun _ w8 _ hx => O.skip rfl rfl (WL.nil ⟨rfl, hx⟩)) ?_
                refine PL.of (fun _ w8 _ hx => O.skip rfl rfl (WL.nil ⟨rfl, hx⟩)) ?_
                refine PL.of (fun _ w8 _ hx => O.skip rfl rfl (WL.nil ⟨rfl, hx⟩)) ?_
                refine PL.of (fun _ w8 _ hx => O.pick_true (v := (.bool true)) rfl rfl rfl rfl (WL.nil ⟨rfl, hx⟩)) ?_
                refine PL.nil ?_
                have hq : true = b5 := Option.some.inj (show some true = some b5 from hm6)
                subst hq
                exact ⟨rfl, rfl, rfl, rfl, rfl, rfl⟩
              · skip
                refine PL.reset (i := 39) (v := .bool false) (congrArg Value.bool hc4) ?_
                refine PL.of (fun _ w8 _ hx => O.fieldAddr fd39_1 rfl rfl rfl (WL.nil ⟨rfl, hx⟩)) ?_
                refine PL.of (fun _ w8 _ hx => by have H := H.ext hx; exact O.load sc9 rfl rfl rfl (H.cell 0 rfl 1 _ rfl) (WL.nil ⟨rfl, hx⟩)) ?_
                refine PL.of (fun _ w8 _ hx => O.move (v := (.func (.func 57) #[] #[])) rfl rfl rfl (WL.nil ⟨rfl, hx⟩)) ?_
                obtain ⟨t4, hy3, hm6⟩ := bind_some hm6
                refine PL.of (fun _ w8 _ hx => O.call Tryd.call59 rfl rfl rfl (c_strings_ContainsFunc _ _ (fun x0 => flag_ValidBook_c1 x0) (fun w hw x0 _ hy => callsV_mk Tryd.call57 (c_flag_ValidBook_c1 x0 hy)) hy3) (by rintro _ _ hb rfl; exact WL.nil ⟨rfl, hx.trans (hb.mono hx.size)⟩)) ?_
                refine PL.of (fun _ w8 _ hx => O.pick_false (v := (.bool t4)) rfl rfl rfl rfl (WL.nil ⟨rfl, hx⟩)) ?_
                refine PL.nil ?_
                have hq : t4 = b5 := Option.some.inj (show some t4 = some b5 from hm6)
                subst hq
                exact ⟨rfl, rfl, rfl, rfl, rfl, rfl⟩
            · skip
              rintro f ⟨hf0, hf3, hf6, hf7, hf8, hf44⟩
              obtain ⟨u5, rfl⟩ : ∃ u5, f = (upd (upd (upd (upd (upd (upd u5 0 va0) 3 (.func (.func 57) #[] #[])) 6 va0) 7 (.int .i64 ((a0.length : Nat) : Int))) 8 (.int .i64 (ik1 : Int))) 44 (.bool b5)) := ⟨f, by rw [upd_self hf0, upd_self hf3, upd_self hf6, upd_self hf7, upd_self hf8, upd_self hf44]⟩
              refine PL.nil ?_
              exact ⟨rfl, rfl, rfl, rfl, rfl, rfl⟩
      · skip
        rintro f w ⟨hf0, hf3, hf6, hf7, hf8, hf44⟩ hmd hx
        have H := H.ext hx
        obtain ⟨u6, rfl⟩ : ∃ u6, f = (upd (upd (upd (upd (upd (upd u6 0 va0) 3 (.func (.func 57) #[] #[])) 6 va0) 7 (.int .i64 ((a0.length : Nat) : Int))) 8 (.int .i64 (ik1 : Int))) 44 (.bool b5)) := ⟨f, by rw [upd_self hf0, upd_self hf3, upd_self hf6, upd_self hf7, upd_self hf8, upd_self hf44]⟩
        refine WL.nil ?_
        rcases ite_some hm2 with ⟨hc5, hm2⟩ | ⟨hc5, hm2⟩
        · refine W.cond_true (congrArg Value.bool hc5) ?_
          refine W.seq ?_
          refine W.region ?_
          refine O.assign (v := (.bool false)) rfl rfl rfl ?_
          refine WL.nil ?_
          refine W.ret ?_
          obtain rfl := Option.some.inj hm2
          refine ⟨_, rfl, ?_⟩
          rintro rfl
          have hq : false = r0 := Option.some.inj (show some false = some r0 from hm)
          subst hq
          exact ends1 Tryd.results22 rfl ⟨_, rfl, H.base, rfl⟩
        · refine W.cond_false (congrArg Value.bool hc5) ?_
          refine W.skip ?_
          refine W.region ?_
          refine O.add rfl rfl rfl rfl hinck1 ?_
          refine O.move (v := .int .i64 ((ik1 : Int) + 1)) rfl rfl rfl ?_
          refine WL.nil ?_
          have H := H.keep [] [] rfl (by decide)
          obtain rfl := Option.some.inj hm2
          exact ⟨_, rfl, rfl, rangeN_next hdropk1, rfl, rfl, rfl, rfl, rfl, H⟩
    · skip
      rintro ik1 _ f w ⟨rfl, hdropk1, hf8, hf7, hf0, hf3, hf6, H⟩ hfin
      have hltk1 := rangeN_end hdropk1
      obtain ⟨u7, rfl⟩ : ∃ u7, f = (upd (upd (upd (upd (upd u7 8 (.int .i64 (ik1 : Int))) 7 (.int .i64 ((a0.length : Nat) : Int))) 0 va0) 3 (.func (.func 57) #[] #[])) 6 va0) := ⟨f, by rw [upd_self hf8, upd_self hf7, upd_self hf0, upd_self hf3, upd_self hf6]⟩
      refine W.seq ?_
      refine W.region ?_
      refine O.lss rfl rfl rfl rfl ?_
      refine WL.nil ?_
      refine W.seq ?_
      refine W.cond_false (congrArg Value.bool (decide_eq_false hltk1)) ?_
      refine W.exit ?_
      obtain rfl : Ctl.next () = o1 := hfin
      refine xT rfl ?_
      exact ⟨rfl, rfl, H⟩
  · skip
    rintro f w ⟨rfl, hf0, H⟩
    obtain ⟨u8, rfl⟩ : ∃ u8, f = (upd u8 0 va0) := ⟨f, by rw [upd_self hf0]⟩
    refine W.seq ?_
    refine W.region ?_
    refine O.move (v := va0) rfl rfl rfl ?_
    refine O.lenS Tryd.underlying33 (H.arg ha0) rfl rfl rfl ?_
    refine O.leq rfl rfl rfl rfl ?_
    refine O.assign (v := (.bool (decide (((a0.length : Nat) : Int) ≤ 200)))) rfl rfl rfl ?_
    refine WL.nil ?_
    refine W.ret ?_
    have hq : (decide (((a0.length : Nat) : Int) ≤ 200)) = r0 := Option.some.inj (show some (decide (((a0.length : Nat) : Int) ≤ 200)) = some r0 from hm)
    subst hq
    exact ends1 Tryd.results22 rfl ⟨_, rfl, H.base, rfl⟩

theorem ze80 : ZeroT Tryd.prog 80 (.agg #[(.pointer none), (.slice none 0 0)]) := ZeroT.mk (by kernel_rfl)
theorem bldOk : BuilderOk Tryd.prog 67 68 80 5 := builderOk Tryd.writeT Tryd.writeX Tryd.stringT Tryd.stringX rfl rfl
theorem c_flag_Format {w0 : World} (hT : EnvH Tryd.prog 0 1 2 w0) (va0 : Value) (a0 : (List GMeaning)) (ha0 : SliceR w0 va0 a0) {r0 : ByteArray} (hm : flag_Format a0 = some r0) :
    Calls Tryd.prog 28 #[va0] w0 (Ret w0 fun _ v => v = (.string r0)) := by
  unfold flag_Format at hm
  refine calls_of_W Tryd.func28 rfl Tryd.ntmps28 (Nat.le_of_ble_eq_true rfl) ?_
  have H := Inv.start (w := w0)
  refine W.seq ?_
  refine W.region ?_
  refine O.assign (v := (.string (bs []))) rfl rfl rfl ?_
  refine WL.nil ?_
  refine W.seq ?_
  refine W.seq ?_
  refine W.region ?_
  refine O.move (v := va0) rfl rfl rfl ?_
  obtain ⟨t1, hy1, hm⟩ := bind_some hm
  refine O.call Tryd.call22 rfl rfl rfl (c_flag_ValidBook _ _ (H.arg ha0) hy1) ?_
  rintro _ w1 hb1 rfl
  have H := H.ext hb1
  refine O.not rfl rfl rfl ?_
  refine WL.nil ?_
  rcases ite_some hm with ⟨hc1, hm⟩ | ⟨hc1, hm⟩
  · refine W.cond_true (congrArg Value.bool hc1) ?_
    refine W.seq ?_
    refine W.region ?_
    refine O.assign (v := (.string (bs []))) rfl rfl rfl ?_
    refine WL.nil ?_
    refine W.ret ?_
    have hq : (bs []) = r0 := Option.some.inj hm
    subst hq
    exact ends1 Tryd.results28 rfl ⟨_, rfl, H.base, rfl⟩
  refine W.cond_false (congrArg Value.bool hc1) ?_
  refine W.skip ?_
  refine W.seq ?_
  refine W.region ?_
  refine O.alloc [(.pointer none), (.slice none 0 0)] ze80 H rfl rfl rfl ?_
  intro b0 w2 H hb2
  have H := H.addNil (α := UInt8) (E := 5)
  refine WL.nil ?_
  refine W.seq ?_
  refine W.seq ?_
  refine W.region ?_
  refine O.move (v := va0) rfl rfl rfl ?_
  refine O.lenS Tryd.underlying33 (H.arg ha0) rfl rfl rfl ?_
  refine O.move (v := (.int .i64 0)) rfl rfl rfl ?_
  refine WL.nil ?_
  obtain ⟨o1, hm1, hm⟩ := bind_some hm
  refine W.via (fun f w => f 3 = (.pointer (some ⟨b0, 0, none⟩)) ∧ ∃ p v, (p = .pointer none ∨ p = .pointer (some ⟨b0, 0, none⟩)) ∧ Inv w0 w [boxI b0 80 [p, v], ownI v 5 o1]) ?_ ?_
  · refine W.block ?_
    refine W.rangeL (i := 0) hm1 (fun rem ik1 s f w => a0.drop ik1 = rem ∧ f 11 = .int .i64 (ik1 : Int) ∧ f 10 = (.int .i64 ((a0.length : Nat) : Int)) ∧ f 9 = va0 ∧ f 3 = (.pointer (some ⟨b0, 0, none⟩)) ∧ ∃ p v, (p = .pointer none ∨ p = .pointer (some ⟨b0, 0, none⟩)) ∧ Inv w0 w [boxI b0 80 [p, v], ownI v 5 s]) ?_ ?_ ?_
    · exact ⟨List.drop_zero, rfl, rfl, rfl, rfl, _, _, .inl rfl, H⟩
    · rintro yk1 xs ik1 z st f w ⟨hdropk1, hf11, hf10, hf9, hf3, p, v, hp, H⟩ hm2
      have hltk1 := drop_lt hdropk1; have hixk1 := drop_idx hdropk1
      obtain ⟨u1, rfl⟩ : ∃ u1, f = (upd (upd (upd (upd u1 11 (.int .i64 (ik1 : Int))) 10 (.int .i64 ((a0.length : Nat) : Int))) 9 va0) 3 (.pointer (some ⟨b0, 0, none⟩))) := ⟨f, by rw [upd_self hf11, upd_self hf10, upd_self hf9, upd_self hf3]⟩
      have hinck1 := addI_lt hltk1 (H.arg ha0).len_le
      refine W.seq ?_
      refine W.region ?_
      refine O.lss rfl rfl rfl rfl ?_
      refine WL.nil ?_
      refine W.seq ?_
      refine W.cond_true (congrArg Value.bool (decide_eq_true hltk1)) ?_
      refine W.skip ?_
      refine W.seq ?_
      refine W.block ?_
      refine W.seq ?_
      refine W.region ?_
      obtain ⟨p1, hp1, hrp1⟩ := fix_indexAddr Tryd.underlying33 sz39 ha0 hixk1
      refine hrp1 rfl rfl rfl rfl ?_
      refine O.loadA [(.int .i64 yk1.Number), (.string yk1.Text)] ag39 rfl rfl rfl rfl ((hp1.mono H.base).flat) ?_
      refine O.alloc [(.int .i64 0), (.string (bs []))] ze39 H rfl rfl rfl ?_
      intro b1 w1 H hb1
      refine O.store 2 0 [(.int .i64 yk1.Number), (.string yk1.Text)] [(.int .i64 yk1.Number), (.string yk1.Text)] sz39 H rfl rfl rfl rfl rfl rfl ⟨⟨rfl, rfl⟩, rfl⟩ (one_cons rfl (one_cons rfl one_nil)) ?_
      intro w2 H
      refine WL.nil ?_
      obtain ⟨ln, hln, hm2⟩ := bind_some hm2
      obtain ⟨z2, hz2, hm2⟩ := bind_some hm2
      obtain rfl := Option.some.inj hm2
      unfold addL at hz2
      obtain ⟨hlen, hz2⟩ : z.length + ln.size ≤ 1099511627776 ∧ z ++ Fw.bytes ln = z2 := by
        split at hz2
        · rename_i hh; exact ⟨hh, Option.some.inj hz2⟩
        · cases hz2
      subst hz2
      unfold flag_lineN at hln
      obtain ⟨t1, hy1, hln⟩ := bind_some hln
      obtain ⟨t2, ht2, hln⟩ := bind_some hln
      obtain ⟨t3, ht3, hln⟩ := bind_some hln
      obtain ⟨t4, ht4, hln⟩ := bind_some hln
      obtain rfl := Option.some.inj hln
      refine W.drawN 8 (fun f => f 22 = (.string t4) ∧ f 11 = .int .i64 (ik1 : Int) ∧ f 10 = (.int .i64 ((a0.length : Nat) : Int)) ∧ f 9 = va0 ∧ f 3 = (.pointer (some ⟨b0, 0, none⟩))) fol (by kernel_rfl) ?_ ?_
      · refine PL.of (fun _ w8 _ hx => O.fieldAddr fd39_0 rfl rfl rfl (WL.nil ⟨rfl, hx⟩)) ?_
        refine PL.of (fun _ w8 _ hx => by have H := H.ext hx; exact O.load sc3 rfl rfl rfl (H.cell 2 rfl 0 _ rfl) (WL.nil ⟨rfl, hx⟩)) ?_
        refine PL.of (fun _ w8 _ hx => by have H := H.ext hx; exact O.call Tryd.call66 rfl rfl rfl (c_strconv_Itoa (hT.mono H.base) _ hy1) (by rintro _ _ hb rfl; exact WL.nil ⟨rfl, hx.trans (hb.mono hx.size)⟩)) ?_
        refine PL.of (fun _ w8 _ hx => O.addS rfl rfl rfl rfl ht2 (WL.nil ⟨rfl, hx⟩)) ?_
        refine PL.of (fun _ w8 _ hx => O.fieldAddr fd39_1 rfl rfl rfl (WL.nil ⟨rfl, hx⟩)) ?_
        refine PL.of (fun _ w8 _ hx => by have H := H.ext hx; exact O.load sc9 rfl rfl rfl (H.cell 2 rfl 1 _ rfl) (WL.nil ⟨rfl, hx⟩)) ?_
        refine PL.of (fun _ w8 _ hx => O.addS rfl rfl rfl rfl ht3 (WL.nil ⟨rfl, hx⟩)) ?_
        refine PL.of (fun _ w8 _ hx => O.addS rfl rfl rfl rfl ht4 (WL.nil ⟨rfl, hx⟩)) ?_
        refine PL.nil ?_
        exact ⟨rfl, rfl, rfl, rfl, rfl⟩
      rintro f w ⟨hf22, hf11, hf10, hf9, hf3⟩ hmd hx
      have H := H.ext hx
      obtain ⟨u2, rfl⟩ : ∃ u2, f = (upd (upd (upd (upd (upd u2 22 (.string t4)) 11 (.int .i64 (ik1 : Int))) 10 (.int .i64 ((a0.length : Nat) : Int))) 9 va0) 3 (.pointer (some ⟨b0, 0, none⟩))) := ⟨f, by rw [upd_self hf22, upd_self hf11, upd_self hf10, upd_self hf9, upd_self hf3]⟩
      refine O.writeS 0 1 bldOk H rfl rfl (by omega) hp hlen Tryd.call67 rfl rfl rfl rfl ?_
      intro v' w' H
      refine WL.nil ?_
      refine W.region ?_
      refine O.add rfl rfl rfl rfl hinck1 ?_
      refine O.move (v := .int .i64 ((ik1 : Int) + 1)) rfl rfl rfl ?_
      refine WL.nil ?_
      exact ⟨_, rfl, drop_next hdropk1, rfl, rfl, rfl, rfl, _, _, .inr rfl, H⟩
    · rintro ik1 z f w ⟨hdropk1, hf11, hf10, hf9, hf3, p, v, hp, H⟩ hfin
      have hltk1 := drop_end hdropk1
      obtain ⟨u1, rfl⟩ : ∃ u1, f = (upd (upd (upd (upd u1 11 (.int .i64 (ik1 : Int))) 10 (.int .i64 ((a0.length : Nat) : Int))) 9 va0) 3 (.pointer (some ⟨b0, 0, none⟩))) := ⟨f, by rw [upd_self hf11, upd_self hf10, upd_self hf9, upd_self hf3]⟩
      refine W.seq ?_
      refine W.region ?_
      refine O.lss rfl rfl rfl rfl ?_
      refine WL.nil ?_
      refine W.seq ?_
      refine W.cond_false (congrArg Value.bool (decide_eq_false hltk1)) ?_
      refine W.exit ?_
      obtain rfl : z = o1 := hfin
      refine xT rfl ?_
      exact ⟨rfl, p, v, hp, H⟩
  · rintro f w ⟨hf3, p, v, hp, H⟩
    obtain ⟨u3, rfl⟩ : ∃ u3, f = (upd u3 3 (.pointer (some ⟨b0, 0, none⟩))) := ⟨f, by rw [upd_self hf3]⟩
    refine W.seq ?_
    refine W.region ?_
    refine O.strS 0 1 bldOk H rfl rfl (by omega) hp Tryd.call68 rfl rfl rfl ?_
    intro w' H
    refine O.assign (v := (.string ⟨o1.toArray⟩)) rfl rfl rfl ?_
    refine WL.nil ?_
    refine W.ret ?_
    have hq : (⟨o1.toArray⟩ : ByteArray) = r0 := Option.some.inj hm
    subst hq
    exact ends1 Tryd.results28 rfl ⟨_, rfl, H.base, rfl⟩

theorem c_strings_HasPrefix {w0 : World} (a0 a1 : ByteArray) {r0 : Bool} (hm : strings_HasPrefix a0 a1 = some r0) :
    Calls Tryd.prog 65 #[(.string a0), (.string a1)] w0 (Ret w0 fun _ v => v = (.bool r0)) := by
  unfold strings_HasPrefix at hm
  cases hm
  exact c_Pref Tryd.prefT a0 a1

set_option maxRecDepth 20000 in
theorem c_flag_Parse {w0 : World} (hT : EnvH Tryd.prog 0 1 2 w0) (a0 : ByteArray) {r0 : (List GMeaning)} {r1 : Int} {r2 : Int} (hm : flag_Parse a0 = some (r0, r1, r2)) :
    Calls Tryd.prog 25 #[(.string a0)] w0 (Ret w0 fun w v => ∃ vr0 : Value, v = .tuple #[vr0, (.int .i64 r1), (.int .i64 r2)] ∧ OwnR w0 w vr0 39 r0) := by
  unfold flag_Parse at hm
  refine calls_of_W Tryd.func25 rfl Tryd.ntmps25 (Nat.le_of_ble_eq_true rfl) ?_
  have H := Inv.start (w := w0)
  refine W.seq ?_
  refine W.region ?_
  have H := H.addNil (α := GMeaning) (E := 39)
  refine O.assign (v := (.slice none 0 0)) rfl rfl rfl ?_
  refine O.assign (v := (.int .i64 0)) rfl rfl rfl ?_
  refine O.assign (v := (.int .i64 0)) rfl rfl rfl ?_
  refine WL.nil ?_
  refine W.seq ?_
  refine W.seq ?_
  refine W.region ?_
  refine O.move (v := (.string a0)) rfl rfl rfl ?_
  refine O.lenStr Tryd.underlying9 rfl rfl rfl ?_
  refine O.gtr rfl rfl rfl rfl ?_
  refine WL.nil ?_
  rcases ite_some hm with ⟨hc1, hm⟩ | ⟨hc1, hm⟩
  · refine W.cond_true (congrArg Value.bool hc1) ?_
    refine W.seq ?_
    refine W.region ?_
    have H := H.addNil (α := GMeaning) (E := 39)
    refine O.assign (v := (.slice none 0 0)) rfl rfl rfl ?_
    refine O.assign (v := (.int .i64 0)) rfl rfl rfl ?_
    refine O.assign (v := (.int .i64 3)) rfl rfl rfl ?_
    refine WL.nil ?_
    refine W.ret ?_
    have hq : (([] : List GMeaning), 0, 3) = (r0, r1, r2) := Option.some.inj (show some (([] : List GMeaning), 0, 3) = some (r0, r1, r2) from hm)
    obtain ⟨he0, hq0⟩ := Prod.mk.inj hq; clear hq; subst he0
    obtain ⟨he1, hq1⟩ := Prod.mk.inj hq0; clear hq0; subst he1
    subst hq1
    exact ends3 Tryd.results25 rfl rfl rfl ⟨_, rfl, H.base, ⟨_, rfl, H.ownR 1 rfl⟩⟩
  · refine W.cond_false (congrArg Value.bool hc1) ?_
    refine W.skip ?_
    refine W.seq ?_
    obtain ⟨o1, hm1, hm⟩ := bind_some hm
    refine W.via (fun f w => ∃ s1 : (List GMeaning), ∃ v4 : Value, o1 = .next s1 ∧ f 2 = v4 ∧ Inv w0 w [ownI (α := GMeaning) v4 39 s1]) ?_ ?_
    · skip
      refine W.block ?_
      refine W.loopR hm1 (fun s f w => ∃ z4 : ByteArray, ∃ z5 : Int, ∃ z6 : (List GMeaning), ∃ v2 : Value, (z4, z5, z6) = s ∧ f 0 = (.string z4) ∧ f 2 = v2 ∧ f 3 = (.int .i64 z5) ∧ Inv w0 w [ownI (α := GMeaning) v2 39 z6]) ?_ ?_
      · skip
        exact ⟨_, _, _, (.slice none 0 0), rfl, rfl, rfl, rfl, H⟩
      · skip
        rintro _ st f w ⟨z4, z5, z6, v2, rfl, hf0, hf2, hf3, H⟩ hm2
        obtain ⟨u1, rfl⟩ : ∃ u1, f = (upd (upd (upd u1 0 (.string z4)) 2 v2) 3 (.int .i64 z5)) := ⟨f, by rw [upd_self hf0, upd_self hf2, upd_self hf3]⟩
        refine W.seq ?_
        refine W.seq ?_
        refine W.region ?_
        refine O.move (v := (.string z4)) rfl rfl rfl ?_
        refine O.neqS rfl rfl rfl rfl ?_
        refine WL.nil ?_
        rcases ite_some hm2 with ⟨hc2, hm2⟩ | ⟨hc2, hm2⟩
        · refine W.cond_true (congrArg Value.bool hc2) ?_
          refine W.skip ?_
          refine W.block ?_
          refine W.seq ?_
          refine W.region ?_
          refine O.move (v := (.string z4)) rfl rfl rfl ?_
          obtain ⟨⟨t1, t2, t3⟩, hy1, hm2⟩ := bind_some hm2
          refine O.call Tryd.call63 rfl rfl rfl (c_strings_Cut (hT.mono H.base) _ _ hy1) ?_
          rintro _ w1 hb1 rfl
          have H := H.ext hb1
          refine O.move (v := (.tuple #[(.string t1), (.string t2), (.bool t3)])) rfl rfl rfl ?_
          refine O.extract (v := (.string t1)) rfl rfl rfl rfl ?_
          refine O.extract (v := (.string t2)) rfl rfl rfl rfl ?_
          refine O.extract (v := (.bool t3)) rfl rfl rfl rfl ?_
          refine O.assign (v := (.string t1)) rfl rfl rfl ?_
          refine O.assign (v := (.string t2)) rfl rfl rfl ?_
          refine O.assign (v := (.bool t3)) rfl rfl rfl ?_
          refine WL.nil ?_
          refine W.seq ?_
          refine W.region ?_
          refine O.move (v := (.string t1)) rfl rfl rfl ?_
          obtain ⟨⟨t4, t5, t6⟩, hy2, hm2⟩ := bind_some hm2
          refine O.call Tryd.call63 rfl rfl rfl (c_strings_Cut (hT.mono H.base) _ _ hy2) ?_
          rintro _ w2 hb2 rfl
          have H := H.ext hb2
          refine O.move (v := (.tuple #[(.string t4), (.string t5), (.bool t6)])) rfl rfl rfl ?_
          refine O.extract (v := (.string t4)) rfl rfl rfl rfl ?_
          refine O.extract (v := (.string t5)) rfl rfl rfl rfl ?_
          refine O.extract (v := (.bool t6)) rfl rfl rfl rfl ?_
          refine O.assign (v := (.string t4)) rfl rfl rfl ?_
          refine O.assign (v := (.string t5)) rfl rfl rfl ?_
          refine O.assign (v := (.bool t6)) rfl rfl rfl ?_
          refine WL.nil ?_
          refine W.seq ?_
          refine W.region ?_
          refine O.move (v := (.string t4)) rfl rfl rfl ?_
          obtain ⟨t7, hy3, hm2⟩ := bind_some hm2
          refine O.call Tryd.call64 rfl rfl rfl (c_strconv_Atoi (hT.mono H.base) _ hy3) ?_
          rintro _ w3 hb3 ⟨v5, rfl⟩
          have H := H.ext hb3
          refine O.move (v := (.tuple #[(.int .i64 t7), v5])) rfl rfl rfl ?_
          refine O.extract (v := (.int .i64 t7)) rfl rfl rfl rfl ?_
          refine O.extract (v := v5) rfl rfl rfl rfl ?_
          refine O.assign (v := (.int .i64 t7)) rfl rfl rfl ?_
          refine O.assign (v := v5) rfl rfl rfl ?_
          refine WL.nil ?_
          refine W.seq ?_
          refine W.region ?_
          refine O.move (v := (.int .i64 t7)) rfl rfl rfl ?_
          refine O.move (v := (.string t5)) rfl rfl rfl ?_
          refine O.build (v := (.agg (Flat.cells (GMeaning.mk t7 t5)).toArray)) (fun w => bd39_0_1 _ _ w) rfl rfl rfl ?_
          refine O.alloc [(.int .i64 0), (.string ByteArray.empty)] ze39 H rfl rfl rfl ?_
          intro b1 w4 H hb4
          refine O.store 1 0 [(.int .i64 t7), (.string t5)] [(.int .i64 t7), (.string t5)] sz39 H rfl rfl rfl rfl rfl rfl ⟨⟨rfl, rfl⟩, rfl⟩ (one_cons rfl (one_cons rfl one_nil)) ?_
          intro w5 H
          refine WL.nil ?_
          refine W.seq ?_
          refine W.region ?_
          refine O.move (v := v2) rfl rfl rfl ?_
          refine O.loadA [(.int .i64 t7), (.string t5)] ag39 rfl rfl rfl rfl (H.cell 1 rfl) ?_
          refine O.buildSlice (α := GMeaning) [(.agg (Flat.cells (GMeaning.mk t7 t5)).toArray)] [(GMeaning.mk t7 t5)] Tryd.underlying33 el39 H rfl rfl rfl rfl rfl rfl rfl ?_
          intro v6 w6 H hb5
          obtain ⟨t8, ht8, hm2⟩ := bind_some hm2
          refine O.append 0 Tryd.underlying33 el39 rfl H rfl (H.own 2 rfl) ht8 rfl rfl rfl rfl ?_
          intro v7 w7 H
          refine O.assign (v := v7) rfl rfl rfl ?_
          refine WL.nil ?_
          refine W.seq ?_
          refine W.seq ?_
          refine W.region ?_
          refine O.loadA [(.int .i64 t7), (.string t5)] ag39 rfl rfl rfl rfl (H.cell 1 rfl) ?_
          refine O.buildSlice (α := GMeaning) [(.agg (Flat.cells (GMeaning.mk t7 t5)).toArray)] [(GMeaning.mk t7 t5)] Tryd.underlying33 el39 H rfl rfl rfl rfl rfl rfl rfl ?_
          intro v8 w8 H hb6
          obtain ⟨t9, hy4, hm2⟩ := bind_some hm2
          refine O.call Tryd.call28 rfl rfl rfl (c_flag_Format (hT.mono H.base) _ _ (H.own 3 rfl) hy4) ?_
          rintro _ w9 hb7 rfl
          have H := H.ext hb7
          refine O.assign (v := (.string t9)) rfl rfl rfl ?_
          refine WL.nil ?_
          refine W.seq ?_
          refine W.region ?_
          refine O.move (v := (.string t9)) rfl rfl rfl ?_
          refine O.eqlS rfl rfl rfl rfl ?_
          refine O.move (v := (.bool (decide (t9 = (bs []))))) rfl rfl rfl ?_
          obtain ⟨b2, hm3, hm2⟩ := bind_some hm2
          refine WL.cut 5 (fun f w => f 2 = v7 ∧ f 3 = (.int .i64 z5) ∧ f 6 = (.string t2) ∧ f 54 = .bool b2 ∧ Inv w0 w [ownI (α := GMeaning) v7 39 t8, boxI b1 39 [(.int .i64 t7), (.string t5)], ownI (α := GMeaning) v6 39 ([(GMeaning.mk t7 t5)] : List GMeaning), ownI (α := GMeaning) v8 39 ([(GMeaning.mk t7 t5)] : List GMeaning)]) ?_ ?_
          · skip
            rcases ite_some hm3 with ⟨hc3, hm3⟩ | ⟨hc3, hm3⟩
            · skip
              refine WL.reset (i := 49) (v := .bool true) (congrArg Value.bool hc3) ?_
              refine O.skip rfl rfl ?_
              refine O.skip rfl rfl ?_
              refine O.skip rfl rfl ?_
              refine O.skip rfl rfl ?_
              refine O.pick_true (v := (.bool true)) rfl rfl rfl rfl ?_
              refine WL.nil ?_
              have hq : true = b2 := Option.some.inj (show some true = some b2 from hm3)
              subst hq
              exact ⟨rfl, rfl, rfl, rfl, H⟩
            · skip
              refine WL.reset (i := 49) (v := .bool false) (congrArg Value.bool hc3) ?_
              refine O.move (v := (.string z4)) rfl rfl rfl ?_
              refine O.move (v := (.string t9)) rfl rfl rfl ?_
              obtain ⟨t10, hy5, hm3⟩ := bind_some hm3
              refine O.call Tryd.call65 rfl rfl rfl (c_strings_HasPrefix _ _ hy5) ?_
              rintro _ w10 hb8 rfl
              have H := H.ext hb8
              refine O.not rfl rfl rfl ?_
              refine O.pick_false (v := (.bool (!t10))) rfl rfl rfl rfl ?_
              refine WL.nil ?_
              have hq : (!t10) = b2 := Option.some.inj (show some (!t10) = some b2 from hm3)
              subst hq
              exact ⟨rfl, rfl, rfl, rfl, H⟩
          · skip
            rintro f w ⟨hf2, hf3, hf6, hf54, H⟩
            obtain ⟨u2, rfl⟩ : ∃ u2, f = (upd (upd (upd (upd u2 2 v7) 3 (.int .i64 z5)) 6 (.string t2)) 54 (.bool b2)) := ⟨f, by rw [upd_self hf2, upd_self hf3, upd_self hf6, upd_self hf54]⟩
            refine O.move (v := (.bool b2)) rfl rfl rfl ?_
            obtain ⟨b3, hm4, hm2⟩ := bind_some hm2
            refine WL.cut 4 (fun f w => f 2 = v7 ∧ f 3 = (.int .i64 z5) ∧ f 6 = (.string t2) ∧ f 59 = .bool b3 ∧ Inv w0 w [ownI (α := GMeaning) v7 39 t8, boxI b1 39 [(.int .i64 t7), (.string t5)], ownI (α := GMeaning) v6 39 ([(GMeaning.mk t7 t5)] : List GMeaning), ownI (α := GMeaning) v8 39 ([(GMeaning.mk t7 t5)] : List GMeaning)]) ?_ ?_
            · skip
              rcases ite_some hm4 with ⟨hc4, hm4⟩ | ⟨hc4, hm4⟩
              · skip
                refine WL.reset (i := 55) (v := .bool true) (congrArg Value.bool hc4) ?_
                refine O.skip rfl rfl ?_
                refine O.skip rfl rfl ?_
                refine O.skip rfl rfl ?_
                refine O.pick_true (v := (.bool true)) rfl rfl rfl rfl ?_
                refine WL.nil ?_
                have hq : true = b3 := Option.some.inj (show some true = some b3 from hm4)
                subst hq
                exact ⟨rfl, rfl, rfl, rfl, H⟩
              · skip
                refine WL.reset (i := 55) (v := .bool false) (congrArg Value.bool hc4) ?_
                refine O.move (v := v7) rfl rfl rfl ?_
                obtain ⟨t11, hy6, hm4⟩ := bind_some hm4
                refine O.call Tryd.call22 rfl rfl rfl (c_flag_ValidBook _ _ (H.own 0 rfl) hy6) ?_
                rintro _ w11 hb9 rfl
                have H := H.ext hb9
                refine O.not rfl rfl rfl ?_
                refine O.pick_false (v := (.bool (!t11))) rfl rfl rfl rfl ?_
                refine WL.nil ?_
                have hq : (!t11) = b3 := Option.some.inj (show some (!t11) = some b3 from hm4)
                subst hq
                exact ⟨rfl, rfl, rfl, rfl, H⟩
            · skip
              rintro f w ⟨hf2, hf3, hf6, hf59, H⟩
              obtain ⟨u3, rfl⟩ : ∃ u3, f = (upd (upd (upd (upd u3 2 v7) 3 (.int .i64 z5)) 6 (.string t2)) 59 (.bool b3)) := ⟨f, by rw [upd_self hf2, upd_self hf3, upd_self hf6, upd_self hf59]⟩
              refine WL.nil ?_
              rcases ite_some hm2 with ⟨hc5, hm2⟩ | ⟨hc5, hm2⟩
              · refine W.cond_true (congrArg Value.bool hc5) ?_
                refine W.seq ?_
                refine W.region ?_
                refine O.move (v := (.int .i64 z5)) rfl rfl rfl ?_
                have H := H.addNil (α := GMeaning) (E := 39)
                refine O.assign (v := (.slice none 0 0)) rfl rfl rfl ?_
                refine O.assign (v := (.int .i64 z5)) rfl rfl rfl ?_
                refine O.assign (v := (.int .i64 2)) rfl rfl rfl ?_
                refine WL.nil ?_
                refine W.ret ?_
                obtain rfl := Option.some.inj hm2
                refine ⟨_, rfl, ?_⟩
                rintro rfl
                have hq : (([] : List GMeaning), z5, 2) = (r0, r1, r2) := Option.some.inj (show some (([] : List GMeaning), z5, 2) = some (r0, r1, r2) from hm)
                obtain ⟨he0, hq0⟩ := Prod.mk.inj hq; clear hq; subst he0
                obtain ⟨he1, hq1⟩ := Prod.mk.inj hq0; clear hq0; subst he1
                subst hq1
                exact ends3 Tryd.results25 rfl rfl rfl ⟨_, rfl, H.base, ⟨_, rfl, H.ownR 4 rfl⟩⟩
              · refine W.cond_false (congrArg Value.bool hc5) ?_
                refine W.skip ?_
                refine W.seq ?_
                refine W.region ?_
                refine O.move (v := (.int .i64 z5)) rfl rfl rfl ?_
                obtain ⟨t12, ht12, hm2⟩ := bind_some hm2
                refine O.add rfl rfl rfl rfl ht12 ?_
                refine O.assign (v := (.int .i64 t12)) rfl rfl rfl ?_
                refine WL.nil ?_
                refine W.region ?_
                refine O.move (v := (.string t2)) rfl rfl rfl ?_
                refine O.assign (v := (.string t2)) rfl rfl rfl ?_
                refine WL.nil ?_
                have H := H.keep [0] [ownI (α := GMeaning) v7 39 t8] rfl (by decide)
                obtain rfl := Option.some.inj hm2
                exact ⟨_, rfl, _, _, _, v7, rfl, rfl, rfl, rfl, H⟩
        · refine W.cond_false (congrArg Value.bool hc2) ?_
          refine W.exit ?_
          obtain rfl := Option.some.inj hm2
          refine ⟨_, rfl, ?_⟩
          rintro rfl
          refine xT rfl ?_
          exact ⟨_, v2, rfl, rfl, H⟩
    · skip
      rintro f w ⟨s1, v4, rfl, hf2, H⟩
      obtain ⟨u4, rfl⟩ : ∃ u4, f = (upd u4 2 v4) := ⟨f, by rw [upd_self hf2]⟩
      refine W.seq ?_
      refine W.region ?_
      refine O.move (v := v4) rfl rfl rfl ?_
      refine O.assign (v := v4) rfl rfl rfl ?_
      refine O.assign (v := (.int .i64 0)) rfl rfl rfl ?_
      refine O.assign (v := (.int .i64 0)) rfl rfl rfl ?_
      refine WL.nil ?_
      refine W.ret ?_
      have hq : (s1, 0, 0) = (r0, r1, r2) := Option.some.inj (show some (s1, 0, 0) = some (r0, r1, r2) from hm)
      obtain ⟨he0, hq0⟩ := Prod.mk.inj hq; clear hq; subst he0
      obtain ⟨he1, hq1⟩ := Prod.mk.inj hq0; clear hq0; subst he1
      subst hq1
      exact ends3 Tryd.results25 rfl rfl rfl ⟨_, rfl, H.base, ⟨_, rfl, H.ownR 0 rfl⟩⟩

set_option maxRecDepth 20000 in
theorem c_noongunref07_meaning {w0 : World} (a0 : GMeaning) {r0 : Bool} (hm : noongunref07_meaning a0 = some r0) :
    Calls Tryd.prog 60 #[(.agg (Flat.cells a0).toArray)] w0 (Ret w0 fun _ v => v = (.bool r0)) := by
  unfold noongunref07_meaning at hm
  refine calls_of_W Tryd.func60 rfl Tryd.ntmps60 (Nat.le_of_ble_eq_true rfl) ?_
  have H := Inv.start (w := w0)
  refine W.seq ?_
  refine W.region ?_
  refine O.box [(.int .i64 a0.Number), (.string a0.Text)] H rfl rfl rfl rfl ?_
  intro b1 w1 H hb1
  refine O.assign (v := (.bool false)) rfl rfl rfl ?_
  refine WL.nil ?_
  refine W.seq ?_
  refine W.seq ?_
  refine W.region ?_
  refine O.fieldAddr fd39_1 rfl rfl rfl ?_
  refine O.load sc9 rfl rfl rfl (H.cell 0 rfl 1 _ rfl) ?_
  refine O.lenStr Tryd.underlying9 rfl rfl rfl ?_
  refine O.move (v := (.int .i64 0)) rfl rfl rfl ?_
  refine WL.nil ?_
  obtain ⟨o1, hm1, hm⟩ := bind_some hm
  refine W.via (fun f w => o1 = .next () ∧ f 1 = (.pointer (some ⟨b1, 0, none⟩)) ∧ Inv w0 w [boxI b1 39 [(.int .i64 a0.Number), (.string a0.Text)]]) ?_ ?_
  · skip
    refine W.block ?_
    obtain ⟨hbdik1, hm1⟩ := chk_some hm1
    refine W.rangeN (i := 0) hm1 (fun rem ik1 s f w => () = s ∧ (ik1 : Int) + rem = max 0 ((a0.Text.size : Nat) : Int) ∧ f 7 = .int .i64 (ik1 : Int) ∧ f 6 = (.int .i64 ((a0.Text.size : Nat) : Int)) ∧ f 1 = (.pointer (some ⟨b1, 0, none⟩)) ∧ Inv w0 w [boxI b1 39 [(.int .i64 a0.Number), (.string a0.Text)]]) ?_ ?_ ?_
    · skip
      exact ⟨rfl, rangeN_start, rfl, rfl, rfl, H⟩
    · skip
      rintro k ik1 _ st f w ⟨rfl, hdropk1, hf7, hf6, hf1, H⟩ hm2
      have hltk1 := rangeN_lt hdropk1
      obtain ⟨u1, rfl⟩ : ∃ u1, f = (upd (upd (upd u1 7 (.int .i64 (ik1 : Int))) 6 (.int .i64 ((a0.Text.size : Nat) : Int))) 1 (.pointer (some ⟨b1, 0, none⟩))) := ⟨f, by rw [upd_self hf7, upd_self hf6, upd_self hf1]⟩
      have hinck1 := addI_lt hltk1 (inI_iff.1 hbdik1).2
      refine W.seq ?_
      refine W.region ?_
      refine O.lss rfl rfl rfl rfl ?_
      refine WL.nil ?_
      refine W.seq ?_
      refine W.cond_true (congrArg Value.bool (decide_eq_true hltk1)) ?_
      refine W.skip ?_
      refine W.seq ?_
      refine W.block ?_
      refine W.seq ?_
      refine W.region ?_
      refine O.move (v := (.int .i64 (ik1 : Int))) rfl rfl rfl ?_
      refine O.assign (v := (.int .i64 (ik1 : Int))) rfl rfl rfl ?_
      refine WL.nil ?_
      refine W.seq ?_
      refine W.region ?_
      refine O.fieldAddr fd39_1 rfl rfl rfl ?_
      refine O.load sc9 rfl rfl rfl (H.cell 0 rfl 1 _ rfl) ?_
      refine O.move (v := (.int .i64 (ik1 : Int))) rfl rfl rfl ?_
      obtain ⟨x1, hx1, hm2⟩ := bind_some hm2
      refine O.indexStr Tryd.underlying9 hx1 rfl rfl rfl rfl ?_
      refine O.lss rfl rfl rfl rfl ?_
      refine O.move (v := (.bool (decide ((x1.toNat : Int) < 32)))) rfl rfl rfl ?_
      obtain ⟨b2, hm3, hm2⟩ := bind_some hm2
      refine WL.cut 6 (fun f w => f 1 = (.pointer (some ⟨b1, 0, none⟩)) ∧ f 6 = (.int .i64 ((a0.Text.size : Nat) : Int)) ∧ f 7 = (.int .i64 (ik1 : Int)) ∧ f 21 = .bool b2 ∧ Inv w0 w [boxI b1 39 [(.int .i64 a0.Number), (.string a0.Text)]]) ?_ ?_
      · skip
        rcases ite_some hm3 with ⟨hc1, hm3⟩ | ⟨hc1, hm3⟩
        · skip
          refine WL.reset (i := 15) (v := .bool true) (congrArg Value.bool hc1) ?_
          refine O.skip rfl rfl ?_
          refine O.skip rfl rfl ?_
          refine O.skip rfl rfl ?_
          refine O.skip rfl rfl ?_
          refine O.skip rfl rfl ?_
          refine O.pick_true (v := (.bool true)) rfl rfl rfl rfl ?_
          refine WL.nil ?_
          have hq : true = b2 := Option.some.inj (show some true = some b2 from hm3)
          subst hq
          exact ⟨rfl, rfl, rfl, rfl, H⟩
        · skip
          refine WL.reset (i := 15) (v := .bool false) (congrArg Value.bool hc1) ?_
          refine O.fieldAddr fd39_1 rfl rfl rfl ?_
          refine O.load sc9 rfl rfl rfl (H.cell 0 rfl 1 _ rfl) ?_
          refine O.move (v := (.int .i64 (ik1 : Int))) rfl rfl rfl ?_
          obtain ⟨x2, hx2, hm3⟩ := bind_some hm3
          refine O.indexStr Tryd.underlying9 hx2 rfl rfl rfl rfl ?_
          refine O.gtr rfl rfl rfl rfl ?_
          refine O.pick_false (v := (.bool (decide (126 < (x2.toNat : Int))))) rfl rfl rfl rfl ?_
          refine WL.nil ?_
          have hq : (decide (126 < (x2.toNat : Int))) = b2 := Option.some.inj (show some (decide (126 < (x2.toNat : Int))) = some b2 from hm3)
          subst hq
          exact ⟨rfl, rfl, rfl, rfl, H⟩
      · skip
        rintro f w ⟨hf1, hf6, hf7, hf21, H⟩
        obtain ⟨u2, rfl⟩ : ∃ u2, f = (upd (upd (upd (upd u2 1 (.pointer (some ⟨b1, 0, none⟩))) 6 (.int .i64 ((a0.Text.size : Nat) : Int))) 7 (.int .i64 (ik1 : Int))) 21 (.bool b2)) := ⟨f, by rw [upd_self hf1, upd_self hf6, upd_self hf7, upd_self hf21]⟩
        refine WL.nil ?_
        rcases ite_some hm2 with ⟨hc2, hm2⟩ | ⟨hc2, hm2⟩
        · refine W.cond_true (congrArg Value.bool hc2) ?_
          refine W.seq ?_
          refine W.region ?_
          refine O.assign (v := (.bool false)) rfl rfl rfl ?_
          refine WL.nil ?_
          refine W.ret ?_
          obtain rfl := Option.some.inj hm2
          refine ⟨_, rfl, ?_⟩
          rintro rfl
          have hq : false = r0 := Option.some.inj (show some false = some r0 from hm)
          subst hq
          exact ends1 Tryd.results60 rfl ⟨_, rfl, H.base, rfl⟩
        · refine W.cond_false (congrArg Value.bool hc2) ?_
          refine W.skip ?_
          refine W.region ?_
          refine O.add rfl rfl rfl rfl hinck1 ?_
          refine O.move (v := .int .i64 ((ik1 : Int) + 1)) rfl rfl rfl ?_
          refine WL.nil ?_
          obtain rfl := Option.some.inj hm2
          exact ⟨_, rfl, rfl, rangeN_next hdropk1, rfl, rfl, rfl, H⟩
    · skip
      rintro ik1 _ f w ⟨rfl, hdropk1, hf7, hf6, hf1, H⟩ hfin
      have hltk1 := rangeN_end hdropk1
      obtain ⟨u3, rfl⟩ : ∃ u3, f = (upd (upd (upd u3 7 (.int .i64 (ik1 : Int))) 6 (.int .i64 ((a0.Text.size : Nat) : Int))) 1 (.pointer (some ⟨b1, 0, none⟩))) := ⟨f, by rw [upd_self hf7, upd_self hf6, upd_self hf1]⟩
      refine W.seq ?_
      refine W.region ?_
      refine O.lss rfl rfl rfl rfl ?_
      refine WL.nil ?_
      refine W.seq ?_
      refine W.cond_false (congrArg Value.bool (decide_eq_false hltk1)) ?_
      refine W.exit ?_
      obtain rfl : Ctl.next () = o1 := hfin
      refine xT rfl ?_
      exact ⟨rfl, rfl, H⟩
  · skip
    rintro f w ⟨rfl, hf1, H⟩
    obtain ⟨u4, rfl⟩ : ∃ u4, f = (upd u4 1 (.pointer (some ⟨b1, 0, none⟩))) := ⟨f, by rw [upd_self hf1]⟩
    refine W.seq ?_
    refine W.region ?_
    refine O.fieldAddr fd39_0 rfl rfl rfl ?_
    refine O.load sc3 rfl rfl rfl (H.cell 0 rfl 0 _ rfl) ?_
    refine O.geq rfl rfl rfl rfl ?_
    refine O.move (v := (.bool (decide (0 ≤ a0.Number)))) rfl rfl rfl ?_
    refine WL.cut 4 (fun f w => f 1 = (.pointer (some ⟨b1, 0, none⟩)) ∧ f 30 = .bool ((decide (0 ≤ a0.Number)) && (decide (a0.Number ≤ 9999))) ∧ Inv w0 w [boxI b1 39 [(.int .i64 a0.Number), (.string a0.Text)]]) ?_ ?_
    · skip
      rcases bool_ft (decide (0 ≤ a0.Number)) with hc3 | hc3
      · skip
        refine WL.reset (i := 26) (v := .bool false) (congrArg Value.bool hc3) ?_
        refine O.skip rfl rfl ?_
        refine O.skip rfl rfl ?_
        refine O.skip rfl rfl ?_
        refine O.pick_false (v := (.bool false)) rfl rfl rfl rfl ?_
        refine WL.nil ?_
        exact ⟨rfl, congrArg Value.bool (and_f hc3), H⟩
      · skip
        refine WL.reset (i := 26) (v := .bool true) (congrArg Value.bool hc3) ?_
        refine O.fieldAddr fd39_0 rfl rfl rfl ?_
        refine O.load sc3 rfl rfl rfl (H.cell 0 rfl 0 _ rfl) ?_
        refine O.leq rfl rfl rfl rfl ?_
        refine O.pick_true (v := (.bool (decide (a0.Number ≤ 9999)))) rfl rfl rfl rfl ?_
        refine WL.nil ?_
        exact ⟨rfl, congrArg Value.bool (and_t hc3), H⟩
    · skip
      rintro f w ⟨hf1, hf30, H⟩
      obtain ⟨u5, rfl⟩ : ∃ u5, f = (upd (upd u5 1 (.pointer (some ⟨b1, 0, none⟩))) 30 (.bool ((decide (0 ≤ a0.Number)) && (decide (a0.Number ≤ 9999))))) := ⟨f, by rw [upd_self hf1, upd_self hf30]⟩
      refine O.move (v := (.bool ((decide (0 ≤ a0.Number)) && (decide (a0.Number ≤ 9999))))) rfl rfl rfl ?_
      refine WL.cut 5 (fun f w => f 1 = (.pointer (some ⟨b1, 0, none⟩)) ∧ f 36 = .bool (((decide (0 ≤ a0.Number)) && (decide (a0.Number ≤ 9999))) && (decide (1 ≤ ((a0.Text.size : Nat) : Int)))) ∧ Inv w0 w [boxI b1 39 [(.int .i64 a0.Number), (.string a0.Text)]]) ?_ ?_
      · skip
        rcases bool_ft ((decide (0 ≤ a0.Number)) && (decide (a0.Number ≤ 9999))) with hc4 | hc4
        · skip
          refine WL.reset (i := 31) (v := .bool false) (congrArg Value.bool hc4) ?_
          refine O.skip rfl rfl ?_
          refine O.skip rfl rfl ?_
          refine O.skip rfl rfl ?_
          refine O.skip rfl rfl ?_
          refine O.pick_false (v := (.bool false)) rfl rfl rfl rfl ?_
          refine WL.nil ?_
          exact ⟨rfl, congrArg Value.bool (and_f hc4), H⟩
        · skip
          refine WL.reset (i := 31) (v := .bool true) (congrArg Value.bool hc4) ?_
          refine O.fieldAddr fd39_1 rfl rfl rfl ?_
          refine O.load sc9 rfl rfl rfl (H.cell 0 rfl 1 _ rfl) ?_
          refine O.lenStr Tryd.underlying9 rfl rfl rfl ?_
          refine O.geq rfl rfl rfl rfl ?_
          refine O.pick_true (v := (.bool (decide (1 ≤ ((a0.Text.size : Nat) : Int))))) rfl rfl rfl rfl ?_
          refine WL.nil ?_
          exact ⟨rfl, congrArg Value.bool (and_t hc4), H⟩
      · skip
        rintro f w ⟨hf1, hf36, H⟩
        obtain ⟨u6, rfl⟩ : ∃ u6, f = (upd (upd u6 1 (.pointer (some ⟨b1, 0, none⟩))) 36 (.bool (((decide (0 ≤ a0.Number)) && (decide (a0.Number ≤ 9999))) && (decide (1 ≤ ((a0.Text.size : Nat) : Int)))))) := ⟨f, by rw [upd_self hf1, upd_self hf36]⟩
        refine O.move (v := (.bool (((decide (0 ≤ a0.Number)) && (decide (a0.Number ≤ 9999))) && (decide (1 ≤ ((a0.Text.size : Nat) : Int)))))) rfl rfl rfl ?_
        refine WL.cut 5 (fun f w => f 42 = .bool ((((decide (0 ≤ a0.Number)) && (decide (a0.Number ≤ 9999))) && (decide (1 ≤ ((a0.Text.size : Nat) : Int)))) && (decide (((a0.Text.size : Nat) : Int) ≤ 60))) ∧ Inv w0 w [boxI b1 39 [(.int .i64 a0.Number), (.string a0.Text)]]) ?_ ?_
        · skip
          rcases bool_ft (((decide (0 ≤ a0.Number)) && (decide (a0.Number ≤ 9999))) && (decide (1 ≤ ((a0.Text.size : Nat) : Int)))) with hc5 | hc5
          · skip
            refine WL.reset (i := 37) (v := .bool false) (congrArg Value.bool hc5) ?_
            refine O.skip rfl rfl ?_
            refine O.skip rfl rfl ?_
            refine O.skip rfl rfl ?_
            refine O.skip rfl rfl ?_
            refine O.pick_false (v := (.bool false)) rfl rfl rfl rfl ?_
            refine WL.nil ?_
            exact ⟨congrArg Value.bool (and_f hc5), H⟩
          · skip
            refine WL.reset (i := 37) (v := .bool true) (congrArg Value.bool hc5) ?_
            refine O.fieldAddr fd39_1 rfl rfl rfl ?_
            refine O.load sc9 rfl rfl rfl (H.cell 0 rfl 1 _ rfl) ?_
            refine O.lenStr Tryd.underlying9 rfl rfl rfl ?_
            refine O.leq rfl rfl rfl rfl ?_
            refine O.pick_true (v := (.bool (decide (((a0.Text.size : Nat) : Int) ≤ 60)))) rfl rfl rfl rfl ?_
            refine WL.nil ?_
            exact ⟨congrArg Value.bool (and_t hc5), H⟩
        · skip
          rintro f w ⟨hf42, H⟩
          obtain ⟨u7, rfl⟩ : ∃ u7, f = (upd u7 42 (.bool ((((decide (0 ≤ a0.Number)) && (decide (a0.Number ≤ 9999))) && (decide (1 ≤ ((a0.Text.size : Nat) : Int)))) && (decide (((a0.Text.size : Nat) : Int) ≤ 60))))) := ⟨f, by rw [upd_self hf42]⟩
          refine O.assign (v := (.bool ((((decide (0 ≤ a0.Number)) && (decide (a0.Number ≤ 9999))) && (decide (1 ≤ ((a0.Text.size : Nat) : Int)))) && (decide (((a0.Text.size : Nat) : Int) ≤ 60))))) rfl rfl rfl ?_
          refine WL.nil ?_
          refine W.ret ?_
          have hq : ((((decide (0 ≤ a0.Number)) && (decide (a0.Number ≤ 9999))) && (decide (1 ≤ ((a0.Text.size : Nat) : Int)))) && (decide (((a0.Text.size : Nat) : Int) ≤ 60))) = r0 := Option.some.inj (show some ((((decide (0 ≤ a0.Number)) && (decide (a0.Number ≤ 9999))) && (decide (1 ≤ ((a0.Text.size : Nat) : Int)))) && (decide (((a0.Text.size : Nat) : Int) ≤ 60))) = some r0 from hm)
          subst hq
          exact ends1 Tryd.results60 rfl ⟨_, rfl, H.base, rfl⟩

set_option maxRecDepth 20000 in
theorem c_noongunref07_ValidBook {w0 : World} (va0 : Value) (a0 : (List GMeaning)) (ha0 : SliceR w0 va0 a0) {r0 : Bool} (hm : noongunref07_ValidBook a0 = some r0) :
    Calls Tryd.prog 23 #[va0] w0 (Ret w0 fun _ v => v = (.bool r0)) := by
  unfold noongunref07_ValidBook at hm
  refine calls_of_W Tryd.func23 rfl Tryd.ntmps23 (Nat.le_of_ble_eq_true rfl) ?_
  have H := Inv.start (w := w0)
  refine W.seq ?_
  refine W.region ?_
  refine O.assign (v := (.bool false)) rfl rfl rfl ?_
  refine WL.nil ?_
  refine W.seq ?_
  refine W.seq ?_
  refine W.region ?_
  refine O.move (v := va0) rfl rfl rfl ?_
  refine O.lenS Tryd.underlying33 (H.arg ha0) rfl rfl rfl ?_
  refine O.move (v := (.int .i64 0)) rfl rfl rfl ?_
  refine WL.nil ?_
  obtain ⟨o1, hm1, hm⟩ := bind_some hm
  refine W.via (fun f w => o1 = .next () ∧ f 0 = va0 ∧ Inv w0 w []) ?_ ?_
  · skip
    refine W.block ?_
    have hbdik1 := (H.arg ha0).len_le
    refine W.rangeN (i := 0) hm1 (fun rem ik1 s f w => () = s ∧ (ik1 : Int) + rem = max 0 ((a0.length : Nat) : Int) ∧ f 7 = .int .i64 (ik1 : Int) ∧ f 6 = (.int .i64 ((a0.length : Nat) : Int)) ∧ f 0 = va0 ∧ f 5 = va0 ∧ Inv w0 w []) ?_ ?_ ?_
    · skip
      exact ⟨rfl, rangeN_start, rfl, rfl, rfl, rfl, H⟩
    · skip
      rintro k ik1 _ st f w ⟨rfl, hdropk1, hf7, hf6, hf0, hf5, H⟩ hm2
      have hltk1 := rangeN_lt hdropk1
      obtain ⟨u1, rfl⟩ : ∃ u1, f = (upd (upd (upd (upd u1 7 (.int .i64 (ik1 : Int))) 6 (.int .i64 ((a0.length : Nat) : Int))) 0 va0) 5 va0) := ⟨f, by rw [upd_self hf7, upd_self hf6, upd_self hf0, upd_self hf5]⟩
      have hinck1 := addI_lt hltk1 hbdik1
      refine W.seq ?_
      refine W.region ?_
      refine O.lss rfl rfl rfl rfl ?_
      refine WL.nil ?_
      refine W.seq ?_
      refine W.cond_true (congrArg Value.bool (decide_eq_true hltk1)) ?_
      refine W.skip ?_
      refine W.seq ?_
      refine W.block ?_
      refine W.seq ?_
      refine W.region ?_
      refine O.move (v := (.int .i64 (ik1 : Int))) rfl rfl rfl ?_
      obtain ⟨x1, hx1, hm2⟩ := bind_some hm2
      obtain ⟨p1, hp1, hrp1⟩ := fix_indexAddr Tryd.underlying33 sz39 ha0 hx1
      refine hrp1 rfl rfl rfl rfl ?_
      refine O.loadA [(.int .i64 x1.Number), (.string x1.Text)] ag39 rfl rfl rfl rfl ((hp1.mono H.base).flat) ?_
      refine O.alloc [(.int .i64 0), (.string ByteArray.empty)] ze39 H rfl rfl rfl ?_
      intro b1 w1 H hb1
      refine O.assign (v := (.int .i64 (ik1 : Int))) rfl rfl rfl ?_
      refine O.store 0 0 [(.int .i64 x1.Number), (.string x1.Text)] [(.int .i64 x1.Number), (.string x1.Text)] sz39 H rfl rfl rfl rfl rfl rfl ⟨⟨rfl, rfl⟩, rfl⟩ (one_cons rfl (one_cons rfl one_nil)) ?_
      intro w2 H
      refine WL.nil ?_
      refine W.seq ?_
      obtain ⟨t1, hy1, hm2⟩ := bind_some hm2
      obtain ⟨b2, hm3, hm2⟩ := bind_some hm2
      refine W.drawN 18 (fun f => f 0 = va0 ∧ f 5 = va0 ∧ f 6 = (.int .i64 ((a0.length : Nat) : Int)) ∧ f 7 = (.int .i64 (ik1 : Int)) ∧ f 29 = (.bool b2)) fol (by kernel_rfl) ?_ ?_
      · skip
        refine PL.of (fun _ w8 _ hx => by have H := H.ext hx; exact O.loadA [(.int .i64 x1.Number), (.string x1.Text)] ag39 rfl rfl rfl rfl (H.cell 0 rfl) (WL.nil ⟨rfl, hx⟩)) ?_
        refine PL.of (fun _ w8 _ hx => O.call Tryd.call60 rfl rfl rfl (c_noongunref07_meaning x1 hy1) (by rintro _ _ hb rfl; exact WL.nil ⟨rfl, hx.trans (hb.mono hx.size)⟩)) ?_
        refine PL.of (fun _ w8 _ hx => O.not rfl rfl rfl (WL.nil ⟨rfl, hx⟩)) ?_
        refine PL.of (fun _ w8 _ hx => O.move (v := (.bool (!t1))) rfl rfl rfl (WL.nil ⟨rfl, hx⟩)) ?_
        refine PL.cut 14 (fun f => f 0 = va0 ∧ f 5 = va0 ∧ f 6 = (.int .i64 ((a0.length : Nat) : Int)) ∧ f 7 = (.int .i64 (ik1 : Int)) ∧ f 29 = .bool b2) ?_ ?_
        · skip
          rcases ite_some hm3 with ⟨hc1, hm3⟩ | ⟨hc1, hm3⟩
          · skip
            refine PL.reset (i := 15) (v := .bool true) (congrArg Value.bool hc1) ?_
            refine PL.of (fun _ w8 _ hx => O.skip rfl rfl (WL.nil ⟨rfl, hx⟩)) ?_
            refine PL.of (fun _ w8 _ hx => O.skip rfl rfl (WL.nil ⟨rfl, hx⟩)) ?_
            refine PL.of (fun _ w8 _ hx => O.skip rfl rfl (WL.nil ⟨rfl, hx⟩)) ?_
            refine PL.of (fun _ w8 _ hx => O.skip rfl rfl (WL.nil ⟨rfl, hx⟩)) ?_
            refine PL.of (fun _ w8 _ hx => O.skip rfl rfl (WL.nil ⟨rfl, hx⟩)) ?_
            refine PL.of (fun _ w8 _ hx => O.skip rfl rfl (WL.nil ⟨rfl, hx⟩)) ?_
            refine PL.of (fun _ w8 _ hx => O.skip rfl rfl (WL.nil ⟨rfl, hx⟩)) ?_
            refine PL.of (fun _ w8 _ hx => O.skip rfl rfl (WL.nil ⟨rfl, hx⟩)) ?_
            refine PL.of (fun _ w8 _ hx => O.skip rfl rfl (WL.nil ⟨rfl, hx⟩)) ?_
            refine PL.of (fun _ w8 _ hx => O.skip rfl rfl (WL.nil ⟨rfl, hx⟩)) ?_
            refine PL.of (fun _ w8 _ hx => O.skip rfl rfl (WL.nil ⟨rfl, hx⟩)) ?_
            refine PL.of (fun _ w8 _ hx => O.skip rfl rfl (WL.nil ⟨rfl, hx⟩)) ?_
            refine PL.of (fun _ w8 _ hx => O.skip rfl rfl (WL.nil ⟨rfl, hx⟩)) ?_
            refine PL.of (fun _ w8 _ hx => O.pick_true (v := (.bool true)) rfl rfl rfl rfl (WL.nil ⟨rfl, hx⟩)) ?_
            refine PL.nil ?_
            have hq : true = b2 := Option.some.inj (show some true = some b2 from hm3)
            subst hq
            exact ⟨rfl, rfl, rfl, rfl, rfl⟩
          · skip
            refine PL.reset (i := 15) (v := .bool false) (congrArg Value.bool hc1) ?_
            refine PL.of (fun _ w8 _ hx => O.move (v := (.int .i64 (ik1 : Int))) rfl rfl rfl (WL.nil ⟨rfl, hx⟩)) ?_
            refine PL.of (fun _ w8 _ hx => O.gtr rfl rfl rfl rfl (WL.nil ⟨rfl, hx⟩)) ?_
            refine PL.of (fun _ w8 _ hx => O.move (v := (.bool (decide (0 < (ik1 : Int))))) rfl rfl rfl (WL.nil ⟨rfl, hx⟩)) ?_
            obtain ⟨b3, hm4, hm3⟩ := bind_some hm3
            refine PL.cut 10 (fun f => f 0 = va0 ∧ f 5 = va0 ∧ f 6 = (.int .i64 ((a0.length : Nat) : Int)) ∧ f 7 = (.int .i64 (ik1 : Int)) ∧ f 15 = (.bool false) ∧ f 16 = (.int .i64 (ik1 : Int)) ∧ f 17 = (.bool (decide (0 < (ik1 : Int)))) ∧ f 18 = (.bool (decide (0 < (ik1 : Int)))) ∧ f 28 = .bool b3) ?_ ?_
            · skip
              rcases ite_some hm4 with ⟨hc2, hm4⟩ | ⟨hc2, hm4⟩
              · skip
                refine PL.reset (i := 18) (v := .bool true) (congrArg Value.bool hc2) ?_
                refine PL.of (fun _ w8 _ hx => O.fieldAddr fd39_0 rfl rfl rfl (WL.nil ⟨rfl, hx⟩)) ?_
                refine PL.of (fun _ w8 _ hx => by have H := H.ext hx; exact O.load sc3 rfl rfl rfl (H.cell 0 rfl 0 _ rfl) (WL.nil ⟨rfl, hx⟩)) ?_
                refine PL.of (fun _ w8 _ hx => O.move (v := va0) rfl rfl rfl (WL.nil ⟨rfl, hx⟩)) ?_
                refine PL.of (fun _ w8 _ hx => O.move (v := (.int .i64 (ik1 : Int))) rfl rfl rfl (WL.nil ⟨rfl, hx⟩)) ?_
                obtain ⟨t2, ht2, hm4⟩ := bind_some hm4
                refine PL.of (fun _ w8 _ hx => O.sub rfl rfl rfl rfl ht2 (WL.nil ⟨rfl, hx⟩)) ?_
                obtain ⟨x2, hx2, hm4⟩ := bind_some hm4
                obtain ⟨p2, hp2, hrp2⟩ := fix_indexAddr Tryd.underlying33 sz39 (H.arg ha0) hx2
                refine PL.of (fun _ w8 _ hx => hrp2 rfl rfl rfl rfl (WL.nil ⟨rfl, hx⟩)) ?_
                refine PL.of (fun _ w8 _ hx => O.fieldAddr fd39_0 rfl rfl rfl (WL.nil ⟨rfl, hx⟩)) ?_
                refine PL.of (fun _ w8 _ hx => by have hp2 := hp2.mono hx; exact O.load sc3 rfl rfl rfl (hp2.flat 0 _ rfl) (WL.nil ⟨rfl, hx⟩)) ?_
                refine PL.of (fun _ w8 _ hx => O.leq rfl rfl rfl rfl (WL.nil ⟨rfl, hx⟩)) ?_
                refine PL.of (fun _ w8 _ hx => O.pick_true (v := (.bool (decide (x1.Number ≤ x2.Number)))) rfl rfl rfl rfl (WL.nil ⟨rfl, hx⟩)) ?_
                refine PL.nil ?_
                have hq : (decide (x1.Number ≤ x2.Number)) = b3 := Option.some.inj (show some (decide (x1.Number ≤ x2.Number)) = some b3 from hm4)
                subst hq
                exact ⟨rfl, rfl, rfl, rfl, rfl, rfl, rfl, (congrArg Value.bool hc2).symm, rfl⟩
              · skip
                refine PL.reset (i := 18) (v := .bool false) (congrArg Value.bool hc2) ?_
                refine PL.of (fun _ w8 _ hx => O.skip rfl rfl (WL.nil ⟨rfl, hx⟩)) ?_
                refine PL.of (fun _ w8 _ hx => O.skip rfl rfl (WL.nil ⟨rfl, hx⟩)) ?_
                refine PL.of (fun _ w8 _ hx => O.skip rfl rfl (WL.nil ⟨rfl, hx⟩)) ?_
                refine PL.of (fun _ w8 _ hx => O.skip rfl rfl (WL.nil ⟨rfl, hx⟩)) ?_
                refine PL.of (fun _ w8 _ hx => O.skip rfl rfl (WL.nil ⟨rfl, hx⟩)) ?_
                refine PL.of (fun _ w8 _ hx => O.skip rfl rfl (WL.nil ⟨rfl, hx⟩)) ?_
                refine PL.of (fun _ w8 _ hx => O.skip rfl rfl (WL.nil ⟨rfl, hx⟩)) ?_
                refine PL.of (fun _ w8 _ hx => O.skip rfl rfl (WL.nil ⟨rfl, hx⟩)) ?_
                refine PL.of (fun _ w8 _ hx => O.skip rfl rfl (WL.nil ⟨rfl, hx⟩)) ?_
                refine PL.of (fun _ w8 _ hx => O.pick_false (v := (.bool false)) rfl rfl rfl rfl (WL.nil ⟨rfl, hx⟩)) ?_
                refine PL.nil ?_
                have hq : false = b3 := Option.some.inj (show some false = some b3 from hm4)
                subst hq
                exact ⟨rfl, rfl, rfl, rfl, rfl, rfl, rfl, (congrArg Value.bool hc2).symm, rfl⟩
            · skip
              rintro f ⟨hf0, hf5, hf6, hf7, hf15, hf16, hf17, hf18, hf28⟩
              obtain ⟨u2, rfl⟩ : ∃ u2, f = (upd (upd (upd (upd (upd (upd (upd (upd (upd u2 0 va0) 5 va0) 6 (.int .i64 ((a0.length : Nat) : Int))) 7 (.int .i64 (ik1 : Int))) 15 (.bool false)) 16 (.int .i64 (ik1 : Int))) 17 (.bool (decide (0 < (ik1 : Int))))) 18 (.bool (decide (0 < (ik1 : Int))))) 28 (.bool b3)) := ⟨f, by rw [upd_self hf0, upd_self hf5, upd_self hf6, upd_self hf7, upd_self hf15, upd_self hf16, upd_self hf17, upd_self hf18, upd_self hf28]⟩
              refine PL.of (fun _ w8 _ hx => O.pick_false (v := (.bool b3)) rfl rfl rfl rfl (WL.nil ⟨rfl, hx⟩)) ?_
              refine PL.nil ?_
              have hq : b3 = b2 := Option.some.inj (show some b3 = some b2 from hm3)
              subst hq
              exact ⟨rfl, rfl, rfl, rfl, rfl⟩
        · skip
          rintro f ⟨hf0, hf5, hf6, hf7, hf29⟩
          obtain ⟨u3, rfl⟩ : ∃ u3, f = (upd (upd (upd (upd (upd u3 0 va0) 5 va0) 6 (.int .i64 ((a0.length : Nat) : Int))) 7 (.int .i64 (ik1 : Int))) 29 (.bool b2)) := ⟨f, by rw [upd_self hf0, upd_self hf5, upd_self hf6, upd_self hf7, upd_self hf29]⟩
          refine PL.nil ?_
          exact ⟨rfl, rfl, rfl, rfl, rfl⟩
      · skip
        rintro f w ⟨hf0, hf5, hf6, hf7, hf29⟩ hmd hx
        have H := H.ext hx
        obtain ⟨u4, rfl⟩ : ∃ u4, f = (upd (upd (upd (upd (upd u4 0 va0) 5 va0) 6 (.int .i64 ((a0.length : Nat) : Int))) 7 (.int .i64 (ik1 : Int))) 29 (.bool b2)) := ⟨f, by rw [upd_self hf0, upd_self hf5, upd_self hf6, upd_self hf7, upd_self hf29]⟩
        refine WL.nil ?_
        rcases ite_some hm2 with ⟨hc3, hm2⟩ | ⟨hc3, hm2⟩
        · refine W.cond_true (congrArg Value.bool hc3) ?_
          refine W.seq ?_
          refine W.region ?_
          refine O.assign (v := (.bool false)) rfl rfl rfl ?_
          refine WL.nil ?_
          refine W.ret ?_
          obtain rfl := Option.some.inj hm2
          refine ⟨_, rfl, ?_⟩
          rintro rfl
          have hq : false = r0 := Option.some.inj (show some false = some r0 from hm)
          subst hq
          exact ends1 Tryd.results23 rfl ⟨_, rfl, H.base, rfl⟩
        · refine W.cond_false (congrArg Value.bool hc3) ?_
          refine W.skip ?_
          refine W.region ?_
          refine O.add rfl rfl rfl rfl hinck1 ?_
          refine O.move (v := .int .i64 ((ik1 : Int) + 1)) rfl rfl rfl ?_
          refine WL.nil ?_
          have H := H.keep [] [] rfl (by decide)
          obtain rfl := Option.some.inj hm2
          exact ⟨_, rfl, rfl, rangeN_next hdropk1, rfl, rfl, rfl, rfl, H⟩
    · skip
      rintro ik1 _ f w ⟨rfl, hdropk1, hf7, hf6, hf0, hf5, H⟩ hfin
      have hltk1 := rangeN_end hdropk1
      obtain ⟨u5, rfl⟩ : ∃ u5, f = (upd (upd (upd (upd u5 7 (.int .i64 (ik1 : Int))) 6 (.int .i64 ((a0.length : Nat) : Int))) 0 va0) 5 va0) := ⟨f, by rw [upd_self hf7, upd_self hf6, upd_self hf0, upd_self hf5]⟩
      refine W.seq ?_
      refine W.region ?_
      refine O.lss rfl rfl rfl rfl ?_
      refine WL.nil ?_
      refine W.seq ?_
      refine W.cond_false (congrArg Value.bool (decide_eq_false hltk1)) ?_
      refine W.exit ?_
      obtain rfl : Ctl.next () = o1 := hfin
      refine xT rfl ?_
      exact ⟨rfl, rfl, H⟩
  · skip
    rintro f w ⟨rfl, hf0, H⟩
    obtain ⟨u6, rfl⟩ : ∃ u6, f = (upd u6 0 va0) := ⟨f, by rw [upd_self hf0]⟩
    refine W.seq ?_
    refine W.region ?_
    refine O.move (v := va0) rfl rfl rfl ?_
    refine O.lenS Tryd.underlying33 (H.arg ha0) rfl rfl rfl ?_
    refine O.leq rfl rfl rfl rfl ?_
    refine O.assign (v := (.bool (decide (((a0.length : Nat) : Int) ≤ 200)))) rfl rfl rfl ?_
    refine WL.nil ?_
    refine W.ret ?_
    have hq : (decide (((a0.length : Nat) : Int) ≤ 200)) = r0 := Option.some.inj (show some (decide (((a0.length : Nat) : Int) ≤ 200)) = some r0 from hm)
    subst hq
    exact ends1 Tryd.results23 rfl ⟨_, rfl, H.base, rfl⟩

set_option maxRecDepth 20000 in
theorem c_noongunref07_Parse {w0 : World} (hT : EnvH Tryd.prog 0 1 2 w0) (a0 : ByteArray) {r0 : (List GMeaning)} {r1 : Int} {r2 : Int} (hm : noongunref07_Parse a0 = some (r0, r1, r2)) :
    Calls Tryd.prog 26 #[(.string a0)] w0 (Ret w0 fun w v => ∃ vr0 : Value, v = .tuple #[vr0, (.int .i64 r1), (.int .i64 r2)] ∧ OwnR w0 w vr0 39 r0) := by
  unfold noongunref07_Parse at hm
  refine calls_of_W Tryd.func26 rfl Tryd.ntmps26 (Nat.le_of_ble_eq_true rfl) ?_
  have H := Inv.start (w := w0)
  refine W.seq ?_
  refine W.region ?_
  have H := H.addNil (α := GMeaning) (E := 39)
  refine O.assign (v := (.slice none 0 0)) rfl rfl rfl ?_
  refine O.assign (v := (.int .i64 0)) rfl rfl rfl ?_
  refine O.assign (v := (.int .i64 0)) rfl rfl rfl ?_
  refine WL.nil ?_
  refine W.seq ?_
  refine W.seq ?_
  refine W.region ?_
  refine O.move (v := (.string a0)) rfl rfl rfl ?_
  refine O.lenStr Tryd.underlying9 rfl rfl rfl ?_
  refine O.gtr rfl rfl rfl rfl ?_
  refine WL.nil ?_
  rcases ite_some hm with ⟨hc1, hm⟩ | ⟨hc1, hm⟩
  · refine W.cond_true (congrArg Value.bool hc1) ?_
    refine W.seq ?_
    refine W.region ?_
    have H := H.addNil (α := GMeaning) (E := 39)
    refine O.assign (v := (.slice none 0 0)) rfl rfl rfl ?_
    refine O.assign (v := (.int .i64 0)) rfl rfl rfl ?_
    refine O.assign (v := (.int .i64 3)) rfl rfl rfl ?_
    refine WL.nil ?_
    refine W.ret ?_
    have hq : (([] : List GMeaning), 0, 3) = (r0, r1, r2) := Option.some.inj (show some (([] : List GMeaning), 0, 3) = some (r0, r1, r2) from hm)
    obtain ⟨he0, hq0⟩ := Prod.mk.inj hq; clear hq; subst he0
    obtain ⟨he1, hq1⟩ := Prod.mk.inj hq0; clear hq0; subst he1
    subst hq1
    exact ends3 Tryd.results26 rfl rfl rfl ⟨_, rfl, H.base, ⟨_, rfl, H.ownR 1 rfl⟩⟩
  · refine W.cond_false (congrArg Value.bool hc1) ?_
    refine W.skip ?_
    refine W.seq ?_
    refine W.seq ?_
    refine W.region ?_
    refine O.assign (v := (.int .i64 0)) rfl rfl rfl ?_
    refine WL.nil ?_
    obtain ⟨o1, hm1, hm⟩ := bind_some hm
    refine W.via (fun f w => ∃ s1 : (List GMeaning), ∃ v4 : Value, o1 = .next s1 ∧ f 2 = v4 ∧ Inv w0 w [ownI (α := GMeaning) v4 39 s1]) ?_ ?_
    · skip
      refine W.block ?_
      refine W.loopR hm1 (fun s f w => ∃ z4 : ByteArray, ∃ z5 : Int, ∃ z6 : (List GMeaning), ∃ v2 : Value, (z4, z5, z6) = s ∧ f 0 = (.string z4) ∧ f 2 = v2 ∧ f 5 = (.int .i64 z5) ∧ Inv w0 w [ownI (α := GMeaning) v2 39 z6]) ?_ ?_
      · skip
        exact ⟨_, _, _, (.slice none 0 0), rfl, rfl, rfl, rfl, H⟩
      · skip
        rintro _ st f w ⟨z4, z5, z6, v2, rfl, hf0, hf2, hf5, H⟩ hm2
        obtain ⟨u1, rfl⟩ : ∃ u1, f = (upd (upd (upd u1 0 (.string z4)) 2 v2) 5 (.int .i64 z5)) := ⟨f, by rw [upd_self hf0, upd_self hf2, upd_self hf5]⟩
        refine W.seq ?_
        refine W.seq ?_
        refine W.region ?_
        refine O.move (v := (.string z4)) rfl rfl rfl ?_
        refine O.neqS rfl rfl rfl rfl ?_
        refine WL.nil ?_
        rcases ite_some hm2 with ⟨hc2, hm2⟩ | ⟨hc2, hm2⟩
        · refine W.cond_true (congrArg Value.bool hc2) ?_
          refine W.skip ?_
          refine W.seq ?_
          refine W.block ?_
          refine W.seq ?_
          refine W.region ?_
          refine O.move (v := (.string z4)) rfl rfl rfl ?_
          obtain ⟨⟨t1, t2, t3⟩, hy1, hm2⟩ := bind_some hm2
          refine O.call Tryd.call63 rfl rfl rfl (c_strings_Cut (hT.mono H.base) _ _ hy1) ?_
          rintro _ w1 hb1 rfl
          have H := H.ext hb1
          refine O.move (v := (.tuple #[(.string t1), (.string t2), (.bool t3)])) rfl rfl rfl ?_
          refine O.extract (v := (.string t1)) rfl rfl rfl rfl ?_
          refine O.extract (v := (.string t2)) rfl rfl rfl rfl ?_
          refine O.extract (v := (.bool t3)) rfl rfl rfl rfl ?_
          refine O.assign (v := (.string t1)) rfl rfl rfl ?_
          refine O.assign (v := (.string t2)) rfl rfl rfl ?_
          refine O.assign (v := (.bool t3)) rfl rfl rfl ?_
          refine WL.nil ?_
          refine W.seq ?_
          refine W.region ?_
          refine O.move (v := (.string t1)) rfl rfl rfl ?_
          obtain ⟨⟨t4, t5, t6⟩, hy2, hm2⟩ := bind_some hm2
          refine O.call Tryd.call63 rfl rfl rfl (c_strings_Cut (hT.mono H.base) _ _ hy2) ?_
          rintro _ w2 hb2 rfl
          have H := H.ext hb2
          refine O.move (v := (.tuple #[(.string t4), (.string t5), (.bool t6)])) rfl rfl rfl ?_
          refine O.extract (v := (.string t4)) rfl rfl rfl rfl ?_
          refine O.extract (v := (.string t5)) rfl rfl rfl rfl ?_
          refine O.extract (v := (.bool t6)) rfl rfl rfl rfl ?_
          refine O.assign (v := (.string t4)) rfl rfl rfl ?_
          refine O.assign (v := (.string t5)) rfl rfl rfl ?_
          refine O.assign (v := (.bool t6)) rfl rfl rfl ?_
          refine WL.nil ?_
          refine W.seq ?_
          refine W.region ?_
          refine O.move (v := (.string t5)) rfl rfl rfl ?_
          refine O.build (v := (.agg (Flat.cells (GMeaning.mk 0 t5)).toArray)) (fun w => bd39_1 _ w) rfl rfl rfl ?_
          refine O.alloc [(.int .i64 0), (.string ByteArray.empty)] ze39 H rfl rfl rfl ?_
          intro b1 w3 H hb3
          refine O.store 1 0 [(.int .i64 0), (.string t5)] [(.int .i64 0), (.string t5)] sz39 H rfl rfl rfl rfl rfl rfl ⟨⟨rfl, rfl⟩, rfl⟩ (one_cons rfl (one_cons rfl one_nil)) ?_
          intro w4 H
          refine WL.nil ?_
          refine W.seq ?_
          refine W.region ?_
          refine O.move (v := (.string t4)) rfl rfl rfl ?_
          obtain ⟨t7, hy3, hm2⟩ := bind_some hm2
          refine O.call Tryd.call64 rfl rfl rfl (c_strconv_Atoi (hT.mono H.base) _ hy3) ?_
          rintro _ w5 hb4 ⟨v5, rfl⟩
          have H := H.ext hb4
          refine O.move (v := (.tuple #[(.int .i64 t7), v5])) rfl rfl rfl ?_
          refine O.extract (v := (.int .i64 t7)) rfl rfl rfl rfl ?_
          refine O.extract (v := v5) rfl rfl rfl rfl ?_
          refine O.fieldAddr fd39_0 rfl rfl rfl ?_
          refine O.store 1 0 [(.int .i64 t7)] [(.int .i64 t7), (.string t5)] sz3 H rfl rfl rfl rfl rfl rfl ⟨⟨rfl, rfl⟩, rfl⟩ (one_cons rfl one_nil) ?_
          intro w6 H
          refine WL.nil ?_
          refine W.seq ?_
          refine W.region ?_
          refine O.move (v := v2) rfl rfl rfl ?_
          refine O.loadA [(.int .i64 t7), (.string t5)] ag39 rfl rfl rfl rfl (H.cell 1 rfl) ?_
          refine O.buildSlice (α := GMeaning) [(.agg (Flat.cells (GMeaning.mk t7 t5)).toArray)] [(GMeaning.mk t7 t5)] Tryd.underlying33 el39 H rfl rfl rfl rfl rfl rfl rfl ?_
          intro v6 w7 H hb5
          obtain ⟨t8, ht8, hm2⟩ := bind_some hm2
          refine O.append 0 Tryd.underlying33 el39 rfl H rfl (H.own 2 rfl) ht8 rfl rfl rfl rfl ?_
          intro v7 w8 H
          refine O.assign (v := v7) rfl rfl rfl ?_
          refine WL.nil ?_
          refine W.seq ?_
          refine W.seq ?_
          obtain ⟨b2, hm3, hm2⟩ := bind_some hm2
          refine W.drawN 13 (fun f => f 2 = v7 ∧ f 5 = (.int .i64 z5) ∧ f 7 = (.string t2) ∧ f 56 = (.bool b2)) fol (by kernel_rfl) ?_ ?_
          · skip
            refine PL.of (fun _ w8 _ hx => O.move (v := (.bool t3)) rfl rfl rfl (WL.nil ⟨rfl, hx⟩)) ?_
            refine PL.of (fun _ w8 _ hx => O.not rfl rfl rfl (WL.nil ⟨rfl, hx⟩)) ?_
            refine PL.of (fun _ w8 _ hx => O.move (v := (.bool (!t3))) rfl rfl rfl (WL.nil ⟨rfl, hx⟩)) ?_
            refine PL.cut 10 (fun f => f 2 = v7 ∧ f 5 = (.int .i64 z5) ∧ f 7 = (.string t2) ∧ f 56 = .bool b2) ?_ ?_
            · skip
              rcases ite_some hm3 with ⟨hc3, hm3⟩ | ⟨hc3, hm3⟩
              · skip
                refine PL.reset (i := 46) (v := .bool true) (congrArg Value.bool hc3) ?_
                refine PL.of (fun _ w8 _ hx => O.skip rfl rfl (WL.nil ⟨rfl, hx⟩)) ?_
                refine PL.of (fun _ w8 _ hx => O.skip rfl rfl (WL.nil ⟨rfl, hx⟩)) ?_
                refine PL.of (fun _ w8 _ hx => O.skip rfl rfl (WL.nil ⟨rfl, hx⟩)) ?_
                refine PL.of (fun _ w8 _ hx => O.skip rfl rfl (WL.nil ⟨rfl, hx⟩)) ?_
                refine PL.of (fun _ w8 _ hx => O.skip rfl rfl (WL.nil ⟨rfl, hx⟩)) ?_
                refine PL.of (fun _ w8 _ hx => O.skip rfl rfl (WL.nil ⟨rfl, hx⟩)) ?_
                refine PL.of (fun _ w8 _ hx => O.skip rfl rfl (WL.nil ⟨rfl, hx⟩)) ?_
                refine PL.of (fun _ w8 _ hx => O.skip rfl rfl (WL.nil ⟨rfl, hx⟩)) ?_
                refine PL.of (fun _ w8 _ hx => O.skip rfl rfl (WL.nil ⟨rfl, hx⟩)) ?_
                refine PL.of (fun _ w8 _ hx => O.pick_true (v := (.bool true)) rfl rfl rfl rfl (WL.nil ⟨rfl, hx⟩)) ?_
                refine PL.nil ?_
                have hq : true = b2 := Option.some.inj (show some true = some b2 from hm3)
                subst hq
                exact ⟨rfl, rfl, rfl, rfl⟩
              · skip
                refine PL.reset (i := 46) (v := .bool false) (congrArg Value.bool hc3) ?_
                refine PL.of (fun _ w8 _ hx => O.fieldAddr fd39_0 rfl rfl rfl (WL.nil ⟨rfl, hx⟩)) ?_
                refine PL.of (fun _ w8 _ hx => by have H := H.ext hx; exact O.load sc3 rfl rfl rfl (H.cell 1 rfl 0 _ rfl) (WL.nil ⟨rfl, hx⟩)) ?_
                obtain ⟨t9, hy4, hm3⟩ := bind_some hm3
                refine PL.of (fun _ w8 _ hx => by have H := H.ext hx; exact O.call Tryd.call66 rfl rfl rfl (c_strconv_Itoa (hT.mono H.base) _ hy4) (by rintro _ _ hb rfl; exact WL.nil ⟨rfl, hx.trans (hb.mono hx.size)⟩)) ?_
                obtain ⟨t10, ht10, hm3⟩ := bind_some hm3
                refine PL.of (fun _ w8 _ hx => O.addS rfl rfl rfl rfl ht10 (WL.nil ⟨rfl, hx⟩)) ?_
                refine PL.of (fun _ w8 _ hx => O.fieldAddr fd39_1 rfl rfl rfl (WL.nil ⟨rfl, hx⟩)) ?_
                refine PL.of (fun _ w8 _ hx => by have H := H.ext hx; exact O.load sc9 rfl rfl rfl (H.cell 1 rfl 1 _ rfl) (WL.nil ⟨rfl, hx⟩)) ?_
                obtain ⟨t11, ht11, hm3⟩ := bind_some hm3
                refine PL.of (fun _ w8 _ hx => O.addS rfl rfl rfl rfl ht11 (WL.nil ⟨rfl, hx⟩)) ?_
                refine PL.of (fun _ w8 _ hx => O.move (v := (.string t1)) rfl rfl rfl (WL.nil ⟨rfl, hx⟩)) ?_
                refine PL.of (fun _ w8 _ hx => O.neqS rfl rfl rfl rfl (WL.nil ⟨rfl, hx⟩)) ?_
                refine PL.of (fun _ w8 _ hx => O.pick_false (v := (.bool (!(decide (t11 = t1))))) rfl rfl rfl rfl (WL.nil ⟨rfl, hx⟩)) ?_
                refine PL.nil ?_
                have hq : (!(decide (t11 = t1))) = b2 := Option.some.inj (show some (!(decide (t11 = t1))) = some b2 from hm3)
                subst hq
                exact ⟨rfl, rfl, rfl, rfl⟩
            · skip
              rintro f ⟨hf2, hf5, hf7, hf56⟩
              obtain ⟨u2, rfl⟩ : ∃ u2, f = (upd (upd (upd (upd u2 2 v7) 5 (.int .i64 z5)) 7 (.string t2)) 56 (.bool b2)) := ⟨f, by rw [upd_self hf2, upd_self hf5, upd_self hf7, upd_self hf56]⟩
              refine PL.nil ?_
              exact ⟨rfl, rfl, rfl, rfl⟩
          · skip
            rintro f w ⟨hf2, hf5, hf7, hf56⟩ hmd hx
            have H := H.ext hx
            obtain ⟨u3, rfl⟩ : ∃ u3, f = (upd (upd (upd (upd u3 2 v7) 5 (.int .i64 z5)) 7 (.string t2)) 56 (.bool b2)) := ⟨f, by rw [upd_self hf2, upd_self hf5, upd_self hf7, upd_self hf56]⟩
            refine O.move (v := (.bool b2)) rfl rfl rfl ?_
            obtain ⟨b3, hm4, hm2⟩ := bind_some hm2
            refine WL.cut 4 (fun f w => f 2 = v7 ∧ f 5 = (.int .i64 z5) ∧ f 7 = (.string t2) ∧ f 61 = .bool b3 ∧ Inv w0 w [ownI (α := GMeaning) v7 39 t8, boxI b1 39 [(.int .i64 t7), (.string t5)], ownI (α := GMeaning) v6 39 ([(GMeaning.mk t7 t5)] : List GMeaning)]) ?_ ?_
            · skip
              rcases ite_some hm4 with ⟨hc4, hm4⟩ | ⟨hc4, hm4⟩
              · skip
                refine WL.reset (i := 57) (v := .bool true) (congrArg Value.bool hc4) ?_
                refine O.skip rfl rfl ?_
                refine O.skip rfl rfl ?_
                refine O.skip rfl rfl ?_
                refine O.pick_true (v := (.bool true)) rfl rfl rfl rfl ?_
                refine WL.nil ?_
                have hq : true = b3 := Option.some.inj (show some true = some b3 from hm4)
                subst hq
                exact ⟨rfl, rfl, rfl, rfl, H⟩
              · skip
                refine WL.reset (i := 57) (v := .bool false) (congrArg Value.bool hc4) ?_
                refine O.move (v := v7) rfl rfl rfl ?_
                obtain ⟨t12, hy5, hm4⟩ := bind_some hm4
                refine O.call Tryd.call23 rfl rfl rfl (c_noongunref07_ValidBook _ _ (H.own 0 rfl) hy5) ?_
                rintro _ w9 hb6 rfl
                have H := H.ext hb6
                refine O.not rfl rfl rfl ?_
                refine O.pick_false (v := (.bool (!t12))) rfl rfl rfl rfl ?_
                refine WL.nil ?_
                have hq : (!t12) = b3 := Option.some.inj (show some (!t12) = some b3 from hm4)
                subst hq
                exact ⟨rfl, rfl, rfl, rfl, H⟩
            · skip
              rintro f w ⟨hf2, hf5, hf7, hf61, H⟩
              obtain ⟨u4, rfl⟩ : ∃ u4, f = (upd (upd (upd (upd u4 2 v7) 5 (.int .i64 z5)) 7 (.string t2)) 61 (.bool b3)) := ⟨f, by rw [upd_self hf2, upd_self hf5, upd_self hf7, upd_self hf61]⟩
              refine WL.nil ?_
              rcases ite_some hm2 with ⟨hc5, hm2⟩ | ⟨hc5, hm2⟩
              · refine W.cond_true (congrArg Value.bool hc5) ?_
                refine W.seq ?_
                refine W.region ?_
                refine O.move (v := (.int .i64 z5)) rfl rfl rfl ?_
                have H := H.addNil (α := GMeaning) (E := 39)
                refine O.assign (v := (.slice none 0 0)) rfl rfl rfl ?_
                refine O.assign (v := (.int .i64 z5)) rfl rfl rfl ?_
                refine O.assign (v := (.int .i64 2)) rfl rfl rfl ?_
                refine WL.nil ?_
                refine W.ret ?_
                obtain rfl := Option.some.inj hm2
                refine ⟨_, rfl, ?_⟩
                rintro rfl
                have hq : (([] : List GMeaning), z5, 2) = (r0, r1, r2) := Option.some.inj (show some (([] : List GMeaning), z5, 2) = some (r0, r1, r2) from hm)
                obtain ⟨he0, hq0⟩ := Prod.mk.inj hq; clear hq; subst he0
                obtain ⟨he1, hq1⟩ := Prod.mk.inj hq0; clear hq0; subst he1
                subst hq1
                exact ends3 Tryd.results26 rfl rfl rfl ⟨_, rfl, H.base, ⟨_, rfl, H.ownR 3 rfl⟩⟩
              · refine W.cond_false (congrArg Value.bool hc5) ?_
                refine W.skip ?_
                refine W.region ?_
                refine O.move (v := (.string t2)) rfl rfl rfl ?_
                refine O.assign (v := (.string t2)) rfl rfl rfl ?_
                refine WL.nil ?_
                refine W.region ?_
                refine O.move (v := (.int .i64 z5)) rfl rfl rfl ?_
                obtain ⟨t13, ht13, hm2⟩ := bind_some hm2
                refine O.add rfl rfl rfl rfl ht13 ?_
                refine O.assign (v := (.int .i64 t13)) rfl rfl rfl ?_
                refine WL.nil ?_
                have H := H.keep [0] [ownI (α := GMeaning) v7 39 t8] rfl (by decide)
                obtain rfl := Option.some.inj hm2
                exact ⟨_, rfl, _, _, _, v7, rfl, rfl, rfl, rfl, H⟩
        · refine W.cond_false (congrArg Value.bool hc2) ?_
          refine W.exit ?_
          obtain rfl := Option.some.inj hm2
          refine ⟨_, rfl, ?_⟩
          rintro rfl
          refine xT rfl ?_
          exact ⟨_, v2, rfl, rfl, H⟩
    · skip
      rintro f w ⟨s1, v4, rfl, hf2, H⟩
      obtain ⟨u5, rfl⟩ : ∃ u5, f = (upd u5 2 v4) := ⟨f, by rw [upd_self hf2]⟩
      refine W.seq ?_
      refine W.region ?_
      refine O.move (v := v4) rfl rfl rfl ?_
      refine O.assign (v := v4) rfl rfl rfl ?_
      refine O.assign (v := (.int .i64 0)) rfl rfl rfl ?_
      refine O.assign (v := (.int .i64 0)) rfl rfl rfl ?_
      refine WL.nil ?_
      refine W.ret ?_
      have hq : (s1, 0, 0) = (r0, r1, r2) := Option.some.inj (show some (s1, 0, 0) = some (r0, r1, r2) from hm)
      obtain ⟨he0, hq0⟩ := Prod.mk.inj hq; clear hq; subst he0
      obtain ⟨he1, hq1⟩ := Prod.mk.inj hq0; clear hq0; subst he1
      subst hq1
      exact ends3 Tryd.results26 rfl rfl rfl ⟨_, rfl, H.base, ⟨_, rfl, H.ownR 0 rfl⟩⟩

set_option maxRecDepth 20000 in
theorem c_noongunref07_SameBook {w0 : World} (va0 : Value) (a0 : (List GMeaning)) (ha0 : SliceR w0 va0 a0) (va1 : Value) (a1 : (List GMeaning)) (ha1 : SliceR w0 va1 a1) {r0 : Bool} (hm : noongunref07_SameBook a0 a1 = some r0) :
    Calls Tryd.prog 27 #[va0, va1] w0 (Ret w0 fun _ v => v = (.bool r0)) := by
  unfold noongunref07_SameBook at hm
  refine calls_of_W Tryd.func27 rfl Tryd.ntmps27 (Nat.le_of_ble_eq_true rfl) ?_
  have H := Inv.start (w := w0)
  refine W.seq ?_
  refine W.region ?_
  refine O.assign (v := (.bool false)) rfl rfl rfl ?_
  refine WL.nil ?_
  refine W.seq ?_
  refine W.seq ?_
  refine W.region ?_
  refine O.move (v := va0) rfl rfl rfl ?_
  refine O.lenS Tryd.underlying33 (H.arg ha0) rfl rfl rfl ?_
  refine O.move (v := va1) rfl rfl rfl ?_
  refine O.lenS Tryd.underlying33 (H.arg ha1) rfl rfl rfl ?_
  refine O.neq rfl rfl rfl rfl ?_
  refine WL.nil ?_
  rcases ite_some hm with ⟨hc1, hm⟩ | ⟨hc1, hm⟩
  · refine W.cond_true (congrArg Value.bool hc1) ?_
    refine W.seq ?_
    refine W.region ?_
    refine O.assign (v := (.bool false)) rfl rfl rfl ?_
    refine WL.nil ?_
    refine W.ret ?_
    have hq : false = r0 := Option.some.inj (show some false = some r0 from hm)
    subst hq
    exact ends1 Tryd.results27 rfl ⟨_, rfl, H.base, rfl⟩
  · refine W.cond_false (congrArg Value.bool hc1) ?_
    refine W.skip ?_
    refine W.seq ?_
    refine W.seq ?_
    refine W.region ?_
    refine O.move (v := va0) rfl rfl rfl ?_
    refine O.lenS Tryd.underlying33 (H.arg ha0) rfl rfl rfl ?_
    refine O.move (v := (.int .i64 0)) rfl rfl rfl ?_
    refine WL.nil ?_
    obtain ⟨o1, hm1, hm⟩ := bind_some hm
    refine W.via (fun f w => o1 = .next () ∧ Inv w0 w []) ?_ ?_
    · skip
      refine W.block ?_
      have hbdik1 := (H.arg ha0).len_le
      refine W.rangeN (i := 0) hm1 (fun rem ik1 s f w => () = s ∧ (ik1 : Int) + rem = max 0 ((a0.length : Nat) : Int) ∧ f 13 = .int .i64 (ik1 : Int) ∧ f 12 = (.int .i64 ((a0.length : Nat) : Int)) ∧ f 0 = va0 ∧ f 1 = va1 ∧ Inv w0 w []) ?_ ?_ ?_
      · skip
        exact ⟨rfl, rangeN_start, rfl, rfl, rfl, rfl, H⟩
      · skip
        rintro k ik1 _ st f w ⟨rfl, hdropk1, hf13, hf12, hf0, hf1, H⟩ hm2
        have hltk1 := rangeN_lt hdropk1
        obtain ⟨u1, rfl⟩ : ∃ u1, f = (upd (upd (upd (upd u1 13 (.int .i64 (ik1 : Int))) 12 (.int .i64 ((a0.length : Nat) : Int))) 0 va0) 1 va1) := ⟨f, by rw [upd_self hf13, upd_self hf12, upd_self hf0, upd_self hf1]⟩
        have hinck1 := addI_lt hltk1 hbdik1
        refine W.seq ?_
        refine W.region ?_
        refine O.lss rfl rfl rfl rfl ?_
        refine WL.nil ?_
        refine W.seq ?_
        refine W.cond_true (congrArg Value.bool (decide_eq_true hltk1)) ?_
        refine W.skip ?_
        refine W.seq ?_
        refine W.block ?_
        refine W.seq ?_
        refine W.region ?_
        refine O.move (v := (.int .i64 (ik1 : Int))) rfl rfl rfl ?_
        refine O.assign (v := (.int .i64 (ik1 : Int))) rfl rfl rfl ?_
        refine WL.nil ?_
        refine W.seq ?_
        obtain ⟨x1, hx1, hm2⟩ := bind_some hm2
        obtain ⟨p1, hp1, hrp1⟩ := fix_indexAddr Tryd.underlying33 sz39 (H.arg ha0) hx1
        obtain ⟨x2, hx2, hm2⟩ := bind_some hm2
        obtain ⟨p2, hp2, hrp2⟩ := fix_indexAddr Tryd.underlying33 sz39 (H.arg ha1) hx2
        refine W.drawN 8 (fun f => f 0 = va0 ∧ f 1 = va1 ∧ f 12 = (.int .i64 ((a0.length : Nat) : Int)) ∧ f 13 = (.int .i64 (ik1 : Int)) ∧ f 19 = (.agg (Flat.cells x1).toArray) ∧ f 23 = (.agg (Flat.cells x2).toArray)) fol (by kernel_rfl) ?_ ?_
        · skip
          refine PL.of (fun _ w8 _ hx => O.move (v := va0) rfl rfl rfl (WL.nil ⟨rfl, hx⟩)) ?_
          refine PL.of (fun _ w8 _ hx => O.move (v := (.int .i64 (ik1 : Int))) rfl rfl rfl (WL.nil ⟨rfl, hx⟩)) ?_
          refine PL.of (fun _ w8 _ hx => hrp1 rfl rfl rfl rfl (WL.nil ⟨rfl, hx⟩)) ?_
          refine PL.of (fun _ w8 _ hx => by have hp1 := hp1.mono hx; exact O.loadA [(.int .i64 x1.Number), (.string x1.Text)] ag39 rfl rfl rfl rfl (hp1.flat) (WL.nil ⟨rfl, hx⟩)) ?_
          refine PL.of (fun _ w8 _ hx => O.move (v := va1) rfl rfl rfl (WL.nil ⟨rfl, hx⟩)) ?_
          refine PL.of (fun _ w8 _ hx => O.move (v := (.int .i64 (ik1 : Int))) rfl rfl rfl (WL.nil ⟨rfl, hx⟩)) ?_
          refine PL.of (fun _ w8 _ hx => hrp2 rfl rfl rfl rfl (WL.nil ⟨rfl, hx⟩)) ?_
          refine PL.of (fun _ w8 _ hx => by have hp2 := hp2.mono hx; exact O.loadA [(.int .i64 x2.Number), (.string x2.Text)] ag39 rfl rfl rfl rfl (hp2.flat) (WL.nil ⟨rfl, hx⟩)) ?_
          refine PL.nil ?_
          exact ⟨rfl, rfl, rfl, rfl, rfl, rfl⟩
        · skip
          rintro f w ⟨hf0, hf1, hf12, hf13, hf19, hf23⟩ hmd hx
          have H := H.ext hx
          have hp1 := hp1.mono hx
          have hp2 := hp2.mono hx
          obtain ⟨u2, rfl⟩ : ∃ u2, f = (upd (upd (upd (upd (upd (upd u2 0 va0) 1 va1) 12 (.int .i64 ((a0.length : Nat) : Int))) 13 (.int .i64 (ik1 : Int))) 19 (.agg (Flat.cells x1).toArray)) 23 (.agg (Flat.cells x2).toArray)) := ⟨f, by rw [upd_self hf0, upd_self hf1, upd_self hf12, upd_self hf13, upd_self hf19, upd_self hf23]⟩
          refine O.neqSt x1 x2 eq39 rfl rfl rfl rfl ?_
          refine WL.nil ?_
          rcases ite_some hm2 with ⟨hc2, hm2⟩ | ⟨hc2, hm2⟩
          · refine W.cond_true (congrArg Value.bool hc2) ?_
            refine W.seq ?_
            refine W.region ?_
            refine O.assign (v := (.bool false)) rfl rfl rfl ?_
            refine WL.nil ?_
            refine W.ret ?_
            obtain rfl := Option.some.inj hm2
            refine ⟨_, rfl, ?_⟩
            rintro rfl
            have hq : false = r0 := Option.some.inj (show some false = some r0 from hm)
            subst hq
            exact ends1 Tryd.results27 rfl ⟨_, rfl, H.base, rfl⟩
          · refine W.cond_false (congrArg Value.bool hc2) ?_
            refine W.skip ?_
            refine W.region ?_
            refine O.add rfl rfl rfl rfl hinck1 ?_
            refine O.move (v := .int .i64 ((ik1 : Int) + 1)) rfl rfl rfl ?_
            refine WL.nil ?_
            obtain rfl := Option.some.inj hm2
            exact ⟨_, rfl, rfl, rangeN_next hdropk1, rfl, rfl, rfl, rfl, H⟩
      · skip
        rintro ik1 _ f w ⟨rfl, hdropk1, hf13, hf12, hf0, hf1, H⟩ hfin
        have hltk1 := rangeN_end hdropk1
        obtain ⟨u3, rfl⟩ : ∃ u3, f = (upd (upd (upd (upd u3 13 (.int .i64 (ik1 : Int))) 12 (.int .i64 ((a0.length : Nat) : Int))) 0 va0) 1 va1) := ⟨f, by rw [upd_self hf13, upd_self hf12, upd_self hf0, upd_self hf1]⟩
        refine W.seq ?_
        refine W.region ?_
        refine O.lss rfl rfl rfl rfl ?_
        refine WL.nil ?_
        refine W.seq ?_
        refine W.cond_false (congrArg Value.bool (decide_eq_false hltk1)) ?_
        refine W.exit ?_
        obtain rfl : Ctl.next () = o1 := hfin
        refine xT rfl ?_
        exact ⟨rfl, H⟩
    · skip
      rintro f w ⟨rfl, H⟩
      refine W.seq ?_
      refine W.region ?_
      refine O.assign (v := (.bool true)) rfl rfl rfl ?_
      refine WL.nil ?_
      refine W.ret ?_
      have hq : true = r0 := Option.some.inj (show some true = some r0 from hm)
      subst hq
      exact ends1 Tryd.results27 rfl ⟨_, rfl, H.base, rfl⟩

set_option maxRecDepth 20000 in
theorem c_noongunref07_Format {w0 : World} (hT : EnvH Tryd.prog 0 1 2 w0) (va0 : Value) (a0 : (List GMeaning)) (ha0 : SliceR w0 va0 a0) {r0 : ByteArray} (hm : noongunref07_Format a0 = some r0) :
    Calls Tryd.prog 29 #[va0] w0 (Ret w0 fun _ v => v = (.string r0)) := by
  unfold noongunref07_Format at hm
  refine calls_of_W Tryd.func29 rfl Tryd.ntmps29 (Nat.le_of_ble_eq_true rfl) ?_
  have H := Inv.start (w := w0)
  refine W.seq ?_
  refine W.region ?_
  refine O.assign (v := (.string (bs []))) rfl rfl rfl ?_
  refine WL.nil ?_
  refine W.seq ?_
  refine W.seq ?_
  refine W.region ?_
  refine O.move (v := va0) rfl rfl rfl ?_
  obtain ⟨t1, hy1, hm⟩ := bind_some hm
  refine O.call Tryd.call23 rfl rfl rfl (c_noongunref07_ValidBook _ _ (H.arg ha0) hy1) ?_
  rintro _ w1 hb1 rfl
  have H := H.ext hb1
  refine O.not rfl rfl rfl ?_
  refine WL.nil ?_
  rcases ite_some hm with ⟨hc1, hm⟩ | ⟨hc1, hm⟩
  · refine W.cond_true (congrArg Value.bool hc1) ?_
    refine W.seq ?_
    refine W.region ?_
    refine O.assign (v := (.string (bs []))) rfl rfl rfl ?_
    refine WL.nil ?_
    refine W.ret ?_
    have hq : (bs []) = r0 := Option.some.inj (show some (bs []) = some r0 from hm)
    subst hq
    exact ends1 Tryd.results29 rfl ⟨_, rfl, H.base, rfl⟩
  · refine W.cond_false (congrArg Value.bool hc1) ?_
    refine W.skip ?_
    refine W.seq ?_
    refine W.region ?_
    refine O.assign (v := (.string (bs []))) rfl rfl rfl ?_
    refine WL.nil ?_
    refine W.seq ?_
    refine W.seq ?_
    refine W.region ?_
    refine O.move (v := va0) rfl rfl rfl ?_
    refine O.lenS Tryd.underlying33 (H.arg ha0) rfl rfl rfl ?_
    refine O.move (v := (.int .i64 0)) rfl rfl rfl ?_
    refine WL.nil ?_
    obtain ⟨s1, hm1, hm⟩ := bind_some hm
    refine W.via (fun f w => f 3 = (.string s1) ∧ Inv w0 w []) ?_ ?_
    · skip
      refine W.block ?_
      refine W.rangeL (i := 0) hm1 (fun rem ik1 s f w => ∃ z2 : ByteArray, z2 = s ∧ a0.drop ik1 = rem ∧ f 11 = .int .i64 (ik1 : Int) ∧ f 10 = (.int .i64 ((a0.length : Nat) : Int)) ∧ f 3 = (.string z2) ∧ f 9 = va0 ∧ Inv w0 w []) ?_ ?_ ?_
      · skip
        exact ⟨_, rfl, List.drop_zero, rfl, rfl, rfl, rfl, H⟩
      · skip
        rintro yk1 xs ik1 _ st f w ⟨z2, rfl, hdropk1, hf11, hf10, hf3, hf9, H⟩ hm2
        have hltk1 := drop_lt hdropk1; have hixk1 := drop_idx hdropk1
        obtain ⟨u1, rfl⟩ : ∃ u1, f = (upd (upd (upd (upd u1 11 (.int .i64 (ik1 : Int))) 10 (.int .i64 ((a0.length : Nat) : Int))) 3 (.string z2)) 9 va0) := ⟨f, by rw [upd_self hf11, upd_self hf10, upd_self hf3, upd_self hf9]⟩
        have hinck1 := addI_lt hltk1 (H.arg ha0).len_le
        refine W.seq ?_
        refine W.region ?_
        refine O.lss rfl rfl rfl rfl ?_
        refine WL.nil ?_
        refine W.seq ?_
        refine W.cond_true (congrArg Value.bool (decide_eq_true hltk1)) ?_
        refine W.skip ?_
        refine W.seq ?_
        refine W.block ?_
        refine W.seq ?_
        refine W.region ?_
        obtain ⟨p1, hp1, hrp1⟩ := fix_indexAddr Tryd.underlying33 sz39 ha0 hixk1
        refine hrp1 rfl rfl rfl rfl ?_
        refine O.loadA [(.int .i64 yk1.Number), (.string yk1.Text)] ag39 rfl rfl rfl rfl ((hp1.mono H.base).flat) ?_
        refine O.alloc [(.int .i64 0), (.string ByteArray.empty)] ze39 H rfl rfl rfl ?_
        intro b1 w2 H hb2
        refine O.store 0 0 [(.int .i64 yk1.Number), (.string yk1.Text)] [(.int .i64 yk1.Number), (.string yk1.Text)] sz39 H rfl rfl rfl rfl rfl rfl ⟨⟨rfl, rfl⟩, rfl⟩ (one_cons rfl (one_cons rfl one_nil)) ?_
        intro w3 H
        refine WL.nil ?_
        obtain ⟨t2, hy2, hm2⟩ := bind_some hm2
        obtain ⟨t3, ht3, hm2⟩ := bind_some hm2
        obtain ⟨t4, ht4, hm2⟩ := bind_some hm2
        obtain ⟨t5, ht5, hm2⟩ := bind_some hm2
        refine W.drawN 9 (fun f => f 9 = va0 ∧ f 10 = (.int .i64 ((a0.length : Nat) : Int)) ∧ f 11 = (.int .i64 (ik1 : Int)) ∧ f 15 = (.string z2) ∧ f 23 = (.string t5)) fol (by kernel_rfl) ?_ ?_
        · skip
          refine PL.of (fun _ w8 _ hx => O.move (v := (.string z2)) rfl rfl rfl (WL.nil ⟨rfl, hx⟩)) ?_
          refine PL.of (fun _ w8 _ hx => O.fieldAddr fd39_0 rfl rfl rfl (WL.nil ⟨rfl, hx⟩)) ?_
          refine PL.of (fun _ w8 _ hx => by have H := H.ext hx; exact O.load sc3 rfl rfl rfl (H.cell 0 rfl 0 _ rfl) (WL.nil ⟨rfl, hx⟩)) ?_
          refine PL.of (fun _ w8 _ hx => by have H := H.ext hx; exact O.call Tryd.call66 rfl rfl rfl (c_strconv_Itoa (hT.mono H.base) _ hy2) (by rintro _ _ hb rfl; exact WL.nil ⟨rfl, hx.trans (hb.mono hx.size)⟩)) ?_
          refine PL.of (fun _ w8 _ hx => O.addS rfl rfl rfl rfl ht3 (WL.nil ⟨rfl, hx⟩)) ?_
          refine PL.of (fun _ w8 _ hx => O.fieldAddr fd39_1 rfl rfl rfl (WL.nil ⟨rfl, hx⟩)) ?_
          refine PL.of (fun _ w8 _ hx => by have H := H.ext hx; exact O.load sc9 rfl rfl rfl (H.cell 0 rfl 1 _ rfl) (WL.nil ⟨rfl, hx⟩)) ?_
          refine PL.of (fun _ w8 _ hx => O.addS rfl rfl rfl rfl ht4 (WL.nil ⟨rfl, hx⟩)) ?_
          refine PL.of (fun _ w8 _ hx => O.addS rfl rfl rfl rfl ht5 (WL.nil ⟨rfl, hx⟩)) ?_
          refine PL.nil ?_
          exact ⟨rfl, rfl, rfl, rfl, rfl⟩
        · skip
          rintro f w ⟨hf9, hf10, hf11, hf15, hf23⟩ hmd hx
          have H := H.ext hx
          obtain ⟨u2, rfl⟩ : ∃ u2, f = (upd (upd (upd (upd (upd u2 9 va0) 10 (.int .i64 ((a0.length : Nat) : Int))) 11 (.int .i64 (ik1 : Int))) 15 (.string z2)) 23 (.string t5)) := ⟨f, by rw [upd_self hf9, upd_self hf10, upd_self hf11, upd_self hf15, upd_self hf23]⟩
          obtain ⟨t6, ht6, hm2⟩ := bind_some hm2
          refine O.addS rfl rfl rfl rfl ht6 ?_
          refine O.assign (v := (.string t6)) rfl rfl rfl ?_
          refine WL.nil ?_
          refine W.region ?_
          refine O.add rfl rfl rfl rfl hinck1 ?_
          refine O.move (v := .int .i64 ((ik1 : Int) + 1)) rfl rfl rfl ?_
          refine WL.nil ?_
          have H := H.keep [] [] rfl (by decide)
          obtain rfl := Option.some.inj hm2
          exact ⟨_, rfl, _, rfl, drop_next hdropk1, rfl, rfl, rfl, rfl, H⟩
      · skip
        rintro ik1 _ f w ⟨z2, rfl, hdropk1, hf11, hf10, hf3, hf9, H⟩ hfin
        have hltk1 := drop_end hdropk1
        obtain ⟨u3, rfl⟩ : ∃ u3, f = (upd (upd (upd (upd u3 11 (.int .i64 (ik1 : Int))) 10 (.int .i64 ((a0.length : Nat) : Int))) 3 (.string z2)) 9 va0) := ⟨f, by rw [upd_self hf11, upd_self hf10, upd_self hf3, upd_self hf9]⟩
        refine W.seq ?_
        refine W.region ?_
        refine O.lss rfl rfl rfl rfl ?_
        refine WL.nil ?_
        refine W.seq ?_
        refine W.cond_false (congrArg Value.bool (decide_eq_false hltk1)) ?_
        refine W.exit ?_
        have hq : z2 = s1 := hfin
        subst hq
        refine xT rfl ?_
        exact ⟨rfl, H⟩
    · skip
      rintro f w ⟨hf3, H⟩
      obtain ⟨u4, rfl⟩ : ∃ u4, f = (upd u4 3 (.string s1)) := ⟨f, by rw [upd_self hf3]⟩
      refine W.seq ?_
      refine W.region ?_
      refine O.move (v := (.string s1)) rfl rfl rfl ?_
      refine O.assign (v := (.string s1)) rfl rfl rfl ?_
      refine WL.nil ?_
      refine W.ret ?_
      have hq : s1 = r0 := Option.some.inj (show some s1 = some r0 from hm)
      subst hq
      exact ends1 Tryd.results29 rfl ⟨_, rfl, H.base, rfl⟩

set_option maxRecDepth 20000 in
theorem c_noongunlaw07_FlagTexts {w0 : World} (hT : EnvH Tryd.prog 0 1 2 w0) (va0 : Value) (a0 : (List GMeaning)) (ha0 : SliceR w0 va0 a0) (a1 : ByteArray) {r0 : Bool} (hm : noongunlaw07_FlagTexts a0 a1 = some r0) :
    Calls Tryd.prog 5 #[va0, (.string a1)] w0 (Ret w0 fun _ v => v = (.bool r0)) := by
  unfold noongunlaw07_FlagTexts at hm
  refine calls_of_W Tryd.func5 rfl Tryd.ntmps5 (Nat.le_of_ble_eq_true rfl) ?_
  have H := Inv.start (w := w0)
  refine W.seq ?_
  refine W.region ?_
  refine O.assign (v := (.bool false)) rfl rfl rfl ?_
  refine WL.nil ?_
  refine W.seq ?_
  refine W.seq ?_
  refine W.region ?_
  refine O.move (v := va0) rfl rfl rfl ?_
  obtain ⟨t1, hy1, hm⟩ := bind_some hm
  refine O.call Tryd.call17 rfl rfl rfl (c_noongunlaw07_fit _ _ (H.arg ha0) hy1) ?_
  rintro _ w1 hb1 rfl
  have H := H.ext hb1
  refine O.not rfl rfl rfl ?_
  refine O.move (v := (.bool (!t1))) rfl rfl rfl ?_
  refine WL.cut 9 (fun f w => f 0 = va0 ∧ f 1 = (.string a1) ∧ f 27 = .bool ((!t1) || ((decide (3000 < ((a1.size : Nat) : Int))) && (decide (((a1.size : Nat) : Int) ≤ 65536)))) ∧ Inv w0 w []) ?_ ?_
  · skip
    rcases bool_ft (!t1) with hc1 | hc1
    · skip
      refine WL.reset (i := 18) (v := .bool false) (congrArg Value.bool hc1) ?_
      refine O.move (v := (.string a1)) rfl rfl rfl ?_
      refine O.lenStr Tryd.underlying9 rfl rfl rfl ?_
      refine O.gtr rfl rfl rfl rfl ?_
      refine O.move (v := (.bool (decide (3000 < ((a1.size : Nat) : Int))))) rfl rfl rfl ?_
      refine WL.cut 4 (fun f w => f 0 = va0 ∧ f 1 = (.string a1) ∧ f 18 = (.bool false) ∧ f 26 = .bool ((decide (3000 < ((a1.size : Nat) : Int))) && (decide (((a1.size : Nat) : Int) ≤ 65536))) ∧ Inv w0 w []) ?_ ?_
      · skip
        rcases bool_ft (decide (3000 < ((a1.size : Nat) : Int))) with hc2 | hc2
        · skip
          refine WL.reset (i := 22) (v := .bool false) (congrArg Value.bool hc2) ?_
          refine O.skip rfl rfl ?_
          refine O.skip rfl rfl ?_
          refine O.skip rfl rfl ?_
          refine O.pick_false (v := (.bool false)) rfl rfl rfl rfl ?_
          refine WL.nil ?_
          exact ⟨rfl, rfl, rfl, congrArg Value.bool (and_f hc2), H⟩
        · skip
          refine WL.reset (i := 22) (v := .bool true) (congrArg Value.bool hc2) ?_
          refine O.move (v := (.string a1)) rfl rfl rfl ?_
          refine O.lenStr Tryd.underlying9 rfl rfl rfl ?_
          refine O.leq rfl rfl rfl rfl ?_
          refine O.pick_true (v := (.bool (decide (((a1.size : Nat) : Int) ≤ 65536)))) rfl rfl rfl rfl ?_
          refine WL.nil ?_
          exact ⟨rfl, rfl, rfl, congrArg Value.bool (and_t hc2), H⟩
      · skip
        rintro f w ⟨hf0, hf1, hf18, hf26, H⟩
        obtain ⟨u1, rfl⟩ : ∃ u1, f = (upd (upd (upd (upd u1 0 va0) 1 (.string a1)) 18 (.bool false)) 26 (.bool ((decide (3000 < ((a1.size : Nat) : Int))) && (decide (((a1.size : Nat) : Int) ≤ 65536))))) := ⟨f, by rw [upd_self hf0, upd_self hf1, upd_self hf18, upd_self hf26]⟩
        refine O.pick_false (v := (.bool ((decide (3000 < ((a1.size : Nat) : Int))) && (decide (((a1.size : Nat) : Int) ≤ 65536))))) rfl rfl rfl rfl ?_
        refine WL.nil ?_
        exact ⟨rfl, rfl, congrArg Value.bool (or_f hc1), H⟩
    · skip
      refine WL.reset (i := 18) (v := .bool true) (congrArg Value.bool hc1) ?_
      refine O.skip rfl rfl ?_
      refine O.skip rfl rfl ?_
      refine O.skip rfl rfl ?_
      refine O.skip rfl rfl ?_
      refine O.skip rfl rfl ?_
      refine O.skip rfl rfl ?_
      refine O.skip rfl rfl ?_
      refine O.skip rfl rfl ?_
      refine O.pick_true (v := (.bool true)) rfl rfl rfl rfl ?_
      refine WL.nil ?_
      exact ⟨rfl, rfl, congrArg Value.bool (or_t hc1), H⟩
  · skip
    rintro f w ⟨hf0, hf1, hf27, H⟩
    obtain ⟨u2, rfl⟩ : ∃ u2, f = (upd (upd (upd u2 0 va0) 1 (.string a1)) 27 (.bool ((!t1) || ((decide (3000 < ((a1.size : Nat) : Int))) && (decide (((a1.size : Nat) : Int) ≤ 65536)))))) := ⟨f, by rw [upd_self hf0, upd_self hf1, upd_self hf27]⟩
    refine WL.nil ?_
    rcases ite_some hm with ⟨hc3, hm⟩ | ⟨hc3, hm⟩
    · refine W.cond_true (congrArg Value.bool hc3) ?_
      refine W.seq ?_
      refine W.region ?_
      obtain ⟨t2, hy2, hm⟩ := bind_some hm
      refine O.call Tryd.call7 rfl rfl rfl (c_noongunlaw07_awake  hy2) ?_
      rintro _ w2 hb2 rfl
      have H := H.ext hb2
      refine O.assign (v := (.bool t2)) rfl rfl rfl ?_
      refine WL.nil ?_
      refine W.ret ?_
      have hq : t2 = r0 := Option.some.inj (show some t2 = some r0 from hm)
      subst hq
      exact ends1 Tryd.results5 rfl ⟨_, rfl, H.base, rfl⟩
    · refine W.cond_false (congrArg Value.bool hc3) ?_
      refine W.skip ?_
      refine W.seq ?_
      refine W.region ?_
      refine O.move (v := (.string a1)) rfl rfl rfl ?_
      obtain ⟨⟨t3, t4, t5⟩, hy3, hm⟩ := bind_some hm
      refine O.call Tryd.call25 rfl rfl rfl (c_flag_Parse (hT.mono H.base) _ hy3) ?_
      rintro _ w3 hb3 ⟨v1, rfl, ho1⟩
      have H := H.addOwn hb3 ho1
      refine O.move (v := (.tuple #[v1, (.int .i64 t4), (.int .i64 t5)])) rfl rfl rfl ?_
      refine O.extract (v := v1) rfl rfl rfl rfl ?_
      refine O.extract (v := (.int .i64 t4)) rfl rfl rfl rfl ?_
      refine O.extract (v := (.int .i64 t5)) rfl rfl rfl rfl ?_
      refine O.assign (v := v1) rfl rfl rfl ?_
      refine O.assign (v := (.int .i64 t4)) rfl rfl rfl ?_
      refine O.assign (v := (.int .i64 t5)) rfl rfl rfl ?_
      refine WL.nil ?_
      refine W.seq ?_
      refine W.region ?_
      refine O.move (v := (.string a1)) rfl rfl rfl ?_
      obtain ⟨⟨t6, t7, t8⟩, hy4, hm⟩ := bind_some hm
      refine O.call Tryd.call26 rfl rfl rfl (c_noongunref07_Parse (hT.mono H.base) _ hy4) ?_
      rintro _ w4 hb4 ⟨v2, rfl, ho2⟩
      have H := H.addOwn hb4 ho2
      refine O.move (v := (.tuple #[v2, (.int .i64 t7), (.int .i64 t8)])) rfl rfl rfl ?_
      refine O.extract (v := v2) rfl rfl rfl rfl ?_
      refine O.extract (v := (.int .i64 t7)) rfl rfl rfl rfl ?_
      refine O.extract (v := (.int .i64 t8)) rfl rfl rfl rfl ?_
      refine O.assign (v := v2) rfl rfl rfl ?_
      refine O.assign (v := (.int .i64 t7)) rfl rfl rfl ?_
      refine O.assign (v := (.int .i64 t8)) rfl rfl rfl ?_
      refine WL.nil ?_
      refine W.seq ?_
      refine W.seq ?_
      refine W.region ?_
      refine O.move (v := v1) rfl rfl rfl ?_
      refine O.move (v := v2) rfl rfl rfl ?_
      obtain ⟨t9, hy5, hm⟩ := bind_some hm
      refine O.call Tryd.call27 rfl rfl rfl (c_noongunref07_SameBook _ _ (H.own 0 rfl) _ _ (H.own 1 rfl) hy5) ?_
      rintro _ w5 hb5 rfl
      have H := H.ext hb5
      refine O.not rfl rfl rfl ?_
      refine O.move (v := (.bool (!t9))) rfl rfl rfl ?_
      refine WL.cut 4 (fun f w => f 0 = va0 ∧ f 7 = (.int .i64 t5) ∧ f 10 = (.int .i64 t8) ∧ f 49 = .bool ((!t9) || (t4 != t7)) ∧ Inv w0 w [ownI (α := GMeaning) v1 39 t3, ownI (α := GMeaning) v2 39 t6]) ?_ ?_
      · skip
        rcases bool_ft (!t9) with hc4 | hc4
        · skip
          refine WL.reset (i := 45) (v := .bool false) (congrArg Value.bool hc4) ?_
          refine O.move (v := (.int .i64 t4)) rfl rfl rfl ?_
          refine O.move (v := (.int .i64 t7)) rfl rfl rfl ?_
          refine O.neq rfl rfl rfl rfl ?_
          refine O.pick_false (v := (.bool (t4 != t7))) rfl rfl rfl rfl ?_
          refine WL.nil ?_
          exact ⟨rfl, rfl, rfl, congrArg Value.bool (or_f hc4), H⟩
        · skip
          refine WL.reset (i := 45) (v := .bool true) (congrArg Value.bool hc4) ?_
          refine O.skip rfl rfl ?_
          refine O.skip rfl rfl ?_
          refine O.skip rfl rfl ?_
          refine O.pick_true (v := (.bool true)) rfl rfl rfl rfl ?_
          refine WL.nil ?_
          exact ⟨rfl, rfl, rfl, congrArg Value.bool (or_t hc4), H⟩
      · skip
        rintro f w ⟨hf0, hf7, hf10, hf49, H⟩
        obtain ⟨u3, rfl⟩ : ∃ u3, f = (upd (upd (upd (upd u3 0 va0) 7 (.int .i64 t5)) 10 (.int .i64 t8)) 49 (.bool ((!t9) || (t4 != t7)))) := ⟨f, by rw [upd_self hf0, upd_self hf7, upd_self hf10, upd_self hf49]⟩
        refine O.move (v := (.bool ((!t9) || (t4 != t7)))) rfl rfl rfl ?_
        refine WL.cut 4 (fun f w => f 0 = va0 ∧ f 54 = .bool (((!t9) || (t4 != t7)) || (t5 != t8)) ∧ Inv w0 w [ownI (α := GMeaning) v1 39 t3, ownI (α := GMeaning) v2 39 t6]) ?_ ?_
        · skip
          rcases bool_ft ((!t9) || (t4 != t7)) with hc5 | hc5
          · skip
            refine WL.reset (i := 50) (v := .bool false) (congrArg Value.bool hc5) ?_
            refine O.move (v := (.int .i64 t5)) rfl rfl rfl ?_
            refine O.move (v := (.int .i64 t8)) rfl rfl rfl ?_
            refine O.neq rfl rfl rfl rfl ?_
            refine O.pick_false (v := (.bool (t5 != t8))) rfl rfl rfl rfl ?_
            refine WL.nil ?_
            exact ⟨rfl, congrArg Value.bool (or_f hc5), H⟩
          · skip
            refine WL.reset (i := 50) (v := .bool true) (congrArg Value.bool hc5) ?_
            refine O.skip rfl rfl ?_
            refine O.skip rfl rfl ?_
            refine O.skip rfl rfl ?_
            refine O.pick_true (v := (.bool true)) rfl rfl rfl rfl ?_
            refine WL.nil ?_
            exact ⟨rfl, congrArg Value.bool (or_t hc5), H⟩
        · skip
          rintro f w ⟨hf0, hf54, H⟩
          obtain ⟨u4, rfl⟩ : ∃ u4, f = (upd (upd u4 0 va0) 54 (.bool (((!t9) || (t4 != t7)) || (t5 != t8)))) := ⟨f, by rw [upd_self hf0, upd_self hf54]⟩
          refine WL.nil ?_
          rcases ite_some hm with ⟨hc6, hm⟩ | ⟨hc6, hm⟩
          · refine W.cond_true (congrArg Value.bool hc6) ?_
            refine W.seq ?_
            refine W.region ?_
            refine O.assign (v := (.bool false)) rfl rfl rfl ?_
            refine WL.nil ?_
            refine W.ret ?_
            have hq : false = r0 := Option.some.inj (show some false = some r0 from hm)
            subst hq
            exact ends1 Tryd.results5 rfl ⟨_, rfl, H.base, rfl⟩
          · refine W.cond_false (congrArg Value.bool hc6) ?_
            refine W.skip ?_
            refine W.seq ?_
            refine W.region ?_
            refine O.move (v := va0) rfl rfl rfl ?_
            obtain ⟨t10, hy6, hm⟩ := bind_some hm
            refine O.call Tryd.call28 rfl rfl rfl (c_flag_Format (hT.mono H.base) _ _ (H.arg ha0) hy6) ?_
            rintro _ w6 hb6 rfl
            have H := H.ext hb6
            refine O.assign (v := (.string t10)) rfl rfl rfl ?_
            refine WL.nil ?_
            refine W.seq ?_
            refine W.seq ?_
            refine W.region ?_
            refine O.move (v := (.string t10)) rfl rfl rfl ?_
            refine O.move (v := va0) rfl rfl rfl ?_
            obtain ⟨t11, hy7, hm⟩ := bind_some hm
            refine O.call Tryd.call29 rfl rfl rfl (c_noongunref07_Format (hT.mono H.base) _ _ (H.arg ha0) hy7) ?_
            rintro _ w7 hb7 rfl
            have H := H.ext hb7
            refine O.neqS rfl rfl rfl rfl ?_
            refine WL.nil ?_
            rcases ite_some hm with ⟨hc7, hm⟩ | ⟨hc7, hm⟩
            · refine W.cond_true (congrArg Value.bool hc7) ?_
              refine W.seq ?_
              refine W.region ?_
              refine O.assign (v := (.bool false)) rfl rfl rfl ?_
              refine WL.nil ?_
              refine W.ret ?_
              have hq : false = r0 := Option.some.inj (show some false = some r0 from hm)
              subst hq
              exact ends1 Tryd.results5 rfl ⟨_, rfl, H.base, rfl⟩
            · refine W.cond_false (congrArg Value.bool hc7) ?_
              refine W.skip ?_
              refine W.seq ?_
              refine W.seq ?_
              refine W.region ?_
              refine O.move (v := va0) rfl rfl rfl ?_
              obtain ⟨t12, hy8, hm⟩ := bind_some hm
              refine O.call Tryd.call22 rfl rfl rfl (c_flag_ValidBook _ _ (H.arg ha0) hy8) ?_
              rintro _ w8 hb8 rfl
              have H := H.ext hb8
              refine O.not rfl rfl rfl ?_
              refine WL.nil ?_
              rcases ite_some hm with ⟨hc8, hm⟩ | ⟨hc8, hm⟩
              · refine W.cond_true (congrArg Value.bool hc8) ?_
                refine W.seq ?_
                refine W.region ?_
                obtain ⟨t13, hy9, hm⟩ := bind_some hm
                refine O.call Tryd.call7 rfl rfl rfl (c_noongunlaw07_awake  hy9) ?_
                rintro _ w9 hb9 rfl
                have H := H.ext hb9
                refine O.assign (v := (.bool t13)) rfl rfl rfl ?_
                refine WL.nil ?_
                refine W.ret ?_
                have hq : t13 = r0 := Option.some.inj (show some t13 = some r0 from hm)
                subst hq
                exact ends1 Tryd.results5 rfl ⟨_, rfl, H.base, rfl⟩
              · refine W.cond_false (congrArg Value.bool hc8) ?_
                refine W.skip ?_
                refine W.seq ?_
                refine W.region ?_
                refine O.move (v := (.string t10)) rfl rfl rfl ?_
                obtain ⟨⟨t14, t15, t16⟩, hy10, hm⟩ := bind_some hm
                refine O.call Tryd.call25 rfl rfl rfl (c_flag_Parse (hT.mono H.base) _ hy10) ?_
                rintro _ w10 hb10 ⟨v3, rfl, ho3⟩
                have H := H.addOwn hb10 ho3
                refine O.move (v := (.tuple #[v3, (.int .i64 t15), (.int .i64 t16)])) rfl rfl rfl ?_
                refine O.extract (v := v3) rfl rfl rfl rfl ?_
                refine O.extract (v := (.int .i64 t15)) rfl rfl rfl rfl ?_
                refine O.extract (v := (.int .i64 t16)) rfl rfl rfl rfl ?_
                refine O.assign (v := v3) rfl rfl rfl ?_
                refine O.assign (v := (.int .i64 t15)) rfl rfl rfl ?_
                refine O.assign (v := (.int .i64 t16)) rfl rfl rfl ?_
                refine WL.nil ?_
                refine W.seq ?_
                refine W.region ?_
                refine O.move (v := (.int .i64 t16)) rfl rfl rfl ?_
                refine O.eql rfl rfl rfl rfl ?_
                refine O.move (v := (.bool (t16 == 0))) rfl rfl rfl ?_
                obtain ⟨b1, hm1, hm⟩ := bind_some hm
                refine WL.cut 4 (fun f w => f 77 = .bool b1 ∧ Inv w0 w [ownI (α := GMeaning) v1 39 t3, ownI (α := GMeaning) v2 39 t6, ownI (α := GMeaning) v3 39 t14]) ?_ ?_
                · skip
                  rcases ite_some hm1 with ⟨hc9, hm1⟩ | ⟨hc9, hm1⟩
                  · skip
                    refine WL.reset (i := 73) (v := .bool true) (congrArg Value.bool hc9) ?_
                    refine O.move (v := v3) rfl rfl rfl ?_
                    refine O.move (v := va0) rfl rfl rfl ?_
                    obtain ⟨t17, hy11, hm1⟩ := bind_some hm1
                    refine O.call Tryd.call27 rfl rfl rfl (c_noongunref07_SameBook _ _ (H.own 2 rfl) _ _ (H.arg ha0) hy11) ?_
                    rintro _ w11 hb11 rfl
                    have H := H.ext hb11
                    refine O.pick_true (v := (.bool t17)) rfl rfl rfl rfl ?_
                    refine WL.nil ?_
                    have hq : t17 = b1 := Option.some.inj (show some t17 = some b1 from hm1)
                    subst hq
                    exact ⟨rfl, H⟩
                  · skip
                    refine WL.reset (i := 73) (v := .bool false) (congrArg Value.bool hc9) ?_
                    refine O.skip rfl rfl ?_
                    refine O.skip rfl rfl ?_
                    refine O.skip rfl rfl ?_
                    refine O.pick_false (v := (.bool false)) rfl rfl rfl rfl ?_
                    refine WL.nil ?_
                    have hq : false = b1 := Option.some.inj (show some false = some b1 from hm1)
                    subst hq
                    exact ⟨rfl, H⟩
                · skip
                  rintro f w ⟨hf77, H⟩
                  obtain ⟨u5, rfl⟩ : ∃ u5, f = (upd u5 77 (.bool b1)) := ⟨f, by rw [upd_self hf77]⟩
                  refine O.move (v := (.bool b1)) rfl rfl rfl ?_
                  obtain ⟨b2, hm2, hm⟩ := bind_some hm
                  refine WL.cut 2 (fun f w => f 80 = .bool b2 ∧ Inv w0 w [ownI (α := GMeaning) v1 39 t3, ownI (α := GMeaning) v2 39 t6, ownI (α := GMeaning) v3 39 t14]) ?_ ?_
                  · skip
                    rcases ite_some hm2 with ⟨hc10, hm2⟩ | ⟨hc10, hm2⟩
                    · skip
                      refine WL.reset (i := 78) (v := .bool true) (congrArg Value.bool hc10) ?_
                      obtain ⟨t18, hy12, hm2⟩ := bind_some hm2
                      refine O.call Tryd.call7 rfl rfl rfl (c_noongunlaw07_awake  hy12) ?_
                      rintro _ w12 hb12 rfl
                      have H := H.ext hb12
                      refine O.pick_true (v := (.bool t18)) rfl rfl rfl rfl ?_
                      refine WL.nil ?_
                      have hq : t18 = b2 := Option.some.inj (show some t18 = some b2 from hm2)
                      subst hq
                      exact ⟨rfl, H⟩
                    · skip
                      refine WL.reset (i := 78) (v := .bool false) (congrArg Value.bool hc10) ?_
                      refine O.skip rfl rfl ?_
                      refine O.pick_false (v := (.bool false)) rfl rfl rfl rfl ?_
                      refine WL.nil ?_
                      have hq : false = b2 := Option.some.inj (show some false = some b2 from hm2)
                      subst hq
                      exact ⟨rfl, H⟩
                  · skip
                    rintro f w ⟨hf80, H⟩
                    obtain ⟨u6, rfl⟩ : ∃ u6, f = (upd u6 80 (.bool b2)) := ⟨f, by rw [upd_self hf80]⟩
                    refine O.assign (v := (.bool b2)) rfl rfl rfl ?_
                    refine WL.nil ?_
                    refine W.ret ?_
                    have hq : b2 = r0 := Option.some.inj (show some b2 = some r0 from hm)
                    subst hq
                    exact ends1 Tryd.results5 rfl ⟨_, rfl, H.base, rfl⟩

end Go.Proofs
