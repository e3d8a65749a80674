/-
  The walks: each function does what its model says, where the model has a value. No other condition.
-/
import Derived.Test.YtohbkbimgfkblaaRows
import Derived.Test.YtohbkbimgfkblaaM
namespace Go.Proofs
open Go.Fw Go.RowKit
theorem sz24 : SizeT Try.prog 24 2 := SizeT.mk (by kernel_rfl)
theorem ag24 : AggT Try.prog 24 2 := AggT.mk Try.underlying24 rfl (by kernel_rfl)
theorem ze24 : ZeroT Try.prog 24 (.agg #[(.string ByteArray.empty), (.slice none 0 0)]) := ZeroT.mk (by kernel_rfl)
theorem fd24_0 : FieldT Try.prog 24 0 0 := FieldT.mk (k := 1) Try.underlying24 rfl rfl (by kernel_rfl) (by decide)
theorem sc9 : ScalarT Try.prog 9 := ScalarT.mk Try.underlying9 rfl
theorem fd24_1 : FieldT Try.prog 24 1 1 := FieldT.mk (k := 1) Try.underlying24 rfl rfl (by kernel_rfl) (by decide)
theorem sc22 : ScalarT Try.prog 22 := ScalarT.mk Try.underlying22 rfl
theorem sz5 : SizeT Try.prog 5 1 := SizeT.mk (by kernel_rfl)
theorem sc5 : ScalarT Try.prog 5 := ScalarT.mk Try.underlying5 rfl
theorem sz3 : SizeT Try.prog 3 1 := SizeT.mk (by kernel_rfl)
theorem sc3 : ScalarT Try.prog 3 := ScalarT.mk Try.underlying3 rfl
theorem fol : Try.prog.follows .mixedOrders = true := by kernel_rfl
theorem el3 : ElemT Try.prog 3 1 8 := ElemT.mk (z := (.int .i64 (0))) (by kernel_rfl) rfl
theorem sz22 : SizeT Try.prog 22 1 := SizeT.mk (by kernel_rfl)
theorem ze3 : ZeroT Try.prog 3 (.int .i64 (0)) := ZeroT.mk (by kernel_rfl)
theorem ze4 : ZeroT Try.prog 4 (.bool false) := ZeroT.mk (by kernel_rfl)
theorem sz4 : SizeT Try.prog 4 1 := SizeT.mk (by kernel_rfl)
theorem sc4 : ScalarT Try.prog 4 := ScalarT.mk Try.underlying4 rfl
theorem ze28 : ZeroT Try.prog 28 (.agg #[(.string ByteArray.empty), (.int .i64 (0)), (.int .i64 (0)), (.int .i64 (0)), (.int .i64 (0))]) := ZeroT.mk (by kernel_rfl)
theorem bd28_ : ∀  (w : World), (Instr.build 28 #[]).run Try.prog w = .ok (.agg #[(.string ByteArray.empty), (.int .i64 0), (.int .i64 0), (.int .i64 0), (.int .i64 0)]) w := by
  intro  w
  simp [Instr.build, Try.zeroValue28, Try.runUnderlying28, Instr.fill, Try.sizeOf3, Try.sizeOf9, Value.cells] <;> rfl
theorem sz28 : SizeT Try.prog 28 5 := SizeT.mk (by kernel_rfl)
theorem ag28 : AggT Try.prog 28 5 := AggT.mk Try.underlying28 rfl (by kernel_rfl)
theorem bd28_0 : ∀ (v0 : ByteArray) (w : World), (Instr.build 28 #[(0, (.string v0))]).run Try.prog w = .ok (.agg #[(.string v0), (.int .i64 0), (.int .i64 0), (.int .i64 0), (.int .i64 0)]) w := by
  intro v0 w
  simp [Instr.build, Try.zeroValue28, Try.runUnderlying28, Instr.fill, Try.sizeOf3, Try.sizeOf9, Value.cells]
theorem fd28_1 : FieldT Try.prog 28 1 1 := FieldT.mk (k := 1) Try.underlying28 rfl rfl (by kernel_rfl) (by decide)
theorem fd28_2 : FieldT Try.prog 28 2 2 := FieldT.mk (k := 1) Try.underlying28 rfl rfl (by kernel_rfl) (by decide)
theorem fd28_3 : FieldT Try.prog 28 3 3 := FieldT.mk (k := 1) Try.underlying28 rfl rfl (by kernel_rfl) (by decide)
theorem fd28_4 : FieldT Try.prog 28 4 4 := FieldT.mk (k := 1) Try.underlying28 rfl rfl (by kernel_rfl) (by decide)
theorem bd24_0_1 : ∀ (v0 : ByteArray) (y1 : Option Addr) (n1 m1 : Nat) (w : World), (Instr.build 24 #[(0, (.string v0)), (1, .slice y1 n1 m1)]).run Try.prog w = .ok (.agg #[(.string v0), .slice y1 n1 m1]) w := by
  intro v0 y1 n1 m1 w
  simp [Instr.build, Try.zeroValue24, Try.runUnderlying24, Instr.fill, Try.sizeOf22, Try.sizeOf9, Value.cells]
theorem bd28_0_1_2_3_4 : ∀ (v0 : ByteArray) (v1 : Int) (v2 : Int) (v3 : Int) (v4 : Int) (w : World), (Instr.build 28 #[(0, (.string v0)), (1, (.int .i64 v1)), (2, (.int .i64 v2)), (3, (.int .i64 v3)), (4, (.int .i64 v4))]).run Try.prog w = .ok (.agg #[(.string v0), (.int .i64 v1), (.int .i64 v2), (.int .i64 v3), (.int .i64 v4)]) w := by
  intro v0 v1 v2 v3 v4 w
  simp [Instr.build, Try.zeroValue28, Try.runUnderlying28, Instr.fill, Try.sizeOf3, Try.sizeOf9, Value.cells]
theorem eq28 : EqT Try.prog 28 GTrial := by
  refine ⟨Try.eqGuardType28, ?_⟩
  intro a b w
  obtain ⟨a0, a1, a2, a3, a4⟩ := a
  obtain ⟨b0, b1, b2, b3, b4⟩ := b
  have hs : Try.prog.underlying 28 = some (.struct (Try.prog.fieldsOf 28)) := by kernel_rfl
  rw [run_equalIn_agg w 9999 28 _ _ hs Try.stoodInHeld28]
  simp only [Program.fieldsOf, Try.underlying28]
  simp [Op.eqFields, Flat.cells, part, Try.isAgg3, Try.isAgg9, run_equalIn_int _ _ _ _ _ _ _ Try.underlying3, run_equalIn_string _ _ _ _ _ Try.underlying9, ← beq_toListBytes, beq_bytes]
  cases h0 : decide (a0 = b0) <;> cases h1 : decide (a1 = b1) <;> cases h2 : decide (a2 = b2) <;> cases h3 : decide (a3 = b3) <;> cases h4 : decide (a4 = b4) <;> simp_all
theorem el24 : ElemT Try.prog 24 2 40 := ElemT.mk (z := (.agg #[(.string ByteArray.empty), (.slice none 0 0)])) (by kernel_rfl) rfl
theorem bd24_0 : ∀ (v0 : ByteArray) (w : World), (Instr.build 24 #[(0, (.string v0))]).run Try.prog w = .ok (.agg #[(.string v0), (.slice none 0 0)]) w := by
  intro v0 w
  simp [Instr.build, Try.zeroValue24, Try.runUnderlying24, Instr.fill, Try.sizeOf22, Try.sizeOf9, Value.cells]
theorem bd24_ : ∀  (w : World), (Instr.build 24 #[]).run Try.prog w = .ok (.agg #[(.string ByteArray.empty), (.slice none 0 0)]) w := by
  intro  w
  simp [Instr.build, Try.zeroValue24, Try.runUnderlying24, Instr.fill, Try.sizeOf22, Try.sizeOf9, Value.cells] <;> rfl
theorem fd41_0 : FieldT Try.prog 41 0 0 := FieldT.mk (k := 1) Try.underlying41 rfl rfl (by kernel_rfl) (by decide)
theorem fd41_1 : FieldT Try.prog 41 1 1 := FieldT.mk (k := 1) Try.underlying41 rfl rfl (by kernel_rfl) (by decide)
theorem ze41 : ZeroT Try.prog 41 (.agg #[(.int .i64 (0)), (.int .i64 (0))]) := ZeroT.mk (by kernel_rfl)
theorem bd41_ : ∀  (w : World), (Instr.build 41 #[]).run Try.prog w = .ok (.agg #[(.int .i64 0), (.int .i64 0)]) w := by
  intro  w
  simp [Instr.build, Try.zeroValue41, Try.runUnderlying41, Instr.fill, Try.sizeOf3, Value.cells]
theorem sz41 : SizeT Try.prog 41 2 := SizeT.mk (by kernel_rfl)
theorem ag41 : AggT Try.prog 41 2 := AggT.mk Try.underlying41 rfl (by kernel_rfl)
theorem bd41_0_1 : ∀ (v0 : Int) (v1 : Int) (w : World), (Instr.build 41 #[(0, (.int .i64 v0)), (1, (.int .i64 v1))]).run Try.prog w = .ok (.agg #[(.int .i64 v0), (.int .i64 v1)]) w := by
  intro v0 v1 w
  simp [Instr.build, Try.zeroValue41, Try.runUnderlying41, Instr.fill, Try.sizeOf3, Value.cells]
theorem fd118_0 : FieldT Try.prog 118 0 0 := FieldT.mk (k := 1) Try.underlying118 rfl rfl (by kernel_rfl) (by decide)
theorem fd118_1 : FieldT Try.prog 118 1 1 := FieldT.mk (k := 1) Try.underlying118 rfl rfl (by kernel_rfl) (by decide)
theorem fd48_1 : FieldT Try.prog 48 1 1 := FieldT.mk (k := 1) Try.underlying48 rfl rfl (by kernel_rfl) (by decide)
theorem fd48_0 : FieldT Try.prog 48 0 0 := FieldT.mk (k := 1) Try.underlying48 rfl rfl (by kernel_rfl) (by decide)
theorem ze48 : ZeroT Try.prog 48 (.agg #[(.int .i64 (0)), (.int .i64 (0))]) := ZeroT.mk (by kernel_rfl)
theorem bd118_0_1 : ∀ (v0 : Int) (v1 : Int) (w : World), (Instr.build 118 #[(0, (.int .i64 v0)), (1, (.int .i64 v1))]).run Try.prog w = .ok (.agg #[(.int .i64 v0), (.int .i64 v1)]) w := by
  intro v0 v1 w
  simp [Instr.build, Try.zeroValue118, Try.runUnderlying118, Instr.fill, Try.sizeOf3, Value.cells]
theorem ze118 : ZeroT Try.prog 118 (.agg #[(.int .i64 (0)), (.int .i64 (0))]) := ZeroT.mk (by kernel_rfl)
theorem sz118 : SizeT Try.prog 118 2 := SizeT.mk (by kernel_rfl)
theorem bd48_0_1 : ∀ (v0 : Int) (v1 : Int) (w : World), (Instr.build 48 #[(0, (.int .i64 v0)), (1, (.int .i64 v1))]).run Try.prog w = .ok (.agg #[(.int .i64 v0), (.int .i64 v1)]) w := by
  intro v0 v1 w
  simp [Instr.build, Try.zeroValue48, Try.runUnderlying48, Instr.fill, Try.sizeOf3, Value.cells]
theorem sz48 : SizeT Try.prog 48 2 := SizeT.mk (by kernel_rfl)
theorem ag48 : AggT Try.prog 48 2 := AggT.mk Try.underlying48 rfl (by kernel_rfl)
theorem bd48_ : ∀  (w : World), (Instr.build 48 #[]).run Try.prog w = .ok (.agg #[(.int .i64 0), (.int .i64 0)]) w := by
  intro  w
  simp [Instr.build, Try.zeroValue48, Try.runUnderlying48, Instr.fill, Try.sizeOf3, Value.cells]
theorem bd89_a : ∀ (v0 v1 v2 : Int) (w : World), (Instr.build 89 #[(0, .int .i64 v0), (1, .int .i64 v1), (2, .int .i64 v2)]).run Try.prog w = .ok (.agg #[.int .i64 v0, .int .i64 v1, .int .i64 v2]) w := by
  intro v0 v1 v2 w
  simp [Instr.build, Try.zeroValue89, Try.runUnderlying89, Instr.fill, Try.sizeOf3, Value.cells]
theorem eq48 : EqT Try.prog 48 GRatio := by
  refine ⟨Try.eqGuardType48, ?_⟩
  intro a b w
  obtain ⟨a0, a1⟩ := a
  obtain ⟨b0, b1⟩ := b
  have hs : Try.prog.underlying 48 = some (.struct (Try.prog.fieldsOf 48)) := by kernel_rfl
  rw [run_equalIn_agg w 9999 48 _ _ hs Try.stoodInHeld48]
  simp only [Program.fieldsOf, Try.underlying48]
  simp [Op.eqFields, Flat.cells, part, Try.isAgg3, run_equalIn_int _ _ _ _ _ _ _ Try.underlying3]
  cases h0 : decide (a0 = b0) <;> cases h1 : decide (a1 = b1) <;> simp_all
theorem ze22 : ZeroT Try.prog 22 (.slice none 0 0) := ZeroT.mk (by kernel_rfl)
theorem eq41 : EqT Try.prog 41 GSpan := by
  refine ⟨Try.eqGuardType41, ?_⟩
  intro a b w
  obtain ⟨a0, a1⟩ := a
  obtain ⟨b0, b1⟩ := b
  have hs : Try.prog.underlying 41 = some (.struct (Try.prog.fieldsOf 41)) := by kernel_rfl
  rw [run_equalIn_agg w 9999 41 _ _ hs Try.stoodInHeld41]
  simp only [Program.fieldsOf, Try.underlying41]
  simp [Op.eqFields, Flat.cells, part, Try.isAgg3, run_equalIn_int _ _ _ _ _ _ _ Try.underlying3]
  cases h0 : decide (a0 = b0) <;> cases h1 : decide (a1 = b1) <;> simp_all
theorem key9 : KeyT Try.prog 9 ByteArray := KeyT.string Try.underlying9
theorem sc55 : ScalarT Try.prog 55 := ScalarT.mk Try.underlying55 rfl
theorem fd99_0 : FieldT Try.prog 99 0 0 := FieldT.mk (k := 1) Try.underlying99 rfl rfl (by kernel_rfl) (by decide)
theorem fd99_1 : FieldT Try.prog 99 1 1 := FieldT.mk (k := 1) Try.underlying99 rfl rfl (by kernel_rfl) (by decide)
theorem bd28_0_1_2 : ∀ (v0 : ByteArray) (v1 : Int) (v2 : Int) (w : World), (Instr.build 28 #[(0, (.string v0)), (1, (.int .i64 v1)), (2, (.int .i64 v2))]).run Try.prog w = .ok (.agg #[(.string v0), (.int .i64 v1), (.int .i64 v2), (.int .i64 0), (.int .i64 0)]) w := by
  intro v0 v1 v2 w
  simp [Instr.build, Try.zeroValue28, Try.runUnderlying28, Instr.fill, Try.sizeOf3, Try.sizeOf9, Value.cells]
set_option maxRecDepth 20000 in
theorem c_noongunlaw06_fit {w0 : World} (va0 : Value) (a0 : (List GBox)) (ha0 : SliceR w0 va0 a0) {r0 : Bool} (hm : noongunlaw06_fit a0 = some r0) :
    Calls Try.prog 13 #[va0] w0 (Ret w0 fun _ v => v = (.bool r0)) := by
  unfold noongunlaw06_fit at hm
  refine calls_of_W Try.func13 rfl Try.ntmps13 (Nat.le_of_ble_eq_true rfl) ?_
  have H := Inv.start (w := w0)
  refine W.seq ?_
  refine W.region ?_
  refine O.assign (v := (.bool false)) rfl rfl rfl ?_
  refine WL.nil ?_
  refine W.seq ?_
  refine W.seq ?_
  refine W.region ?_
  refine O.move (v := va0) rfl rfl rfl ?_
  refine O.lenS Try.underlying55 (H.arg ha0) rfl rfl rfl ?_
  refine O.move (v := (.int .i64 0)) rfl rfl rfl ?_
  refine WL.nil ?_
  obtain ⟨o1, hm1, hm⟩ := bind_some hm
  refine W.via (fun f w => o1 = .next () ∧ f 0 = va0 ∧ Inv w0 w []) ?_ ?_
  · skip
    refine W.block ?_
    refine W.rangeL (i := 0) hm1 (fun rem ik1 s f w => () = s ∧ a0.drop ik1 = rem ∧ f 7 = .int .i64 (ik1 : Int) ∧ f 6 = (.int .i64 ((a0.length : Nat) : Int)) ∧ f 0 = va0 ∧ f 5 = va0 ∧ Inv w0 w []) ?_ ?_ ?_
    · skip
      exact ⟨rfl, List.drop_zero, rfl, rfl, rfl, rfl, H⟩
    · skip
      rintro yk1 xs ik1 _ st f w ⟨rfl, hdropk1, hf7, hf6, hf0, hf5, H⟩ hm2
      have hltk1 := drop_lt hdropk1; have hixk1 := drop_idx hdropk1
      obtain ⟨u1, rfl⟩ : ∃ u1, f = (upd (upd (upd (upd u1 7 (.int .i64 (ik1 : Int))) 6 (.int .i64 ((a0.length : Nat) : Int))) 0 va0) 5 va0) := ⟨f, by rw [upd_self hf7, upd_self hf6, upd_self hf0, upd_self hf5]⟩
      have hinck1 := addI_lt hltk1 (H.arg ha0).len_le
      refine W.seq ?_
      refine W.region ?_
      refine O.lss rfl rfl rfl rfl ?_
      refine WL.nil ?_
      refine W.seq ?_
      refine W.cond_true (congrArg Value.bool (decide_eq_true hltk1)) ?_
      refine W.skip ?_
      refine W.seq ?_
      refine W.block ?_
      refine W.seq ?_
      refine W.region ?_
      obtain ⟨p1, hp1, hrp1⟩ := fix_indexAddr Try.underlying55 sz24 ha0 hixk1
      obtain ⟨v1, hs1, hc1⟩ := GBox_open hp1
      refine hrp1 rfl rfl rfl rfl ?_
      refine O.loadA [(.string yk1.Name), v1] ag24 rfl rfl rfl rfl ((cells_mono hc1 H.base)) ?_
      refine O.alloc [(.string ByteArray.empty), (.slice none 0 0)] ze24 H rfl rfl rfl ?_
      intro b1 w1 H hb1
      have H := H.addNil (α := Int) (E := 3)
      refine O.store 0 0 [(.string yk1.Name), v1] [(.string yk1.Name), v1] sz24 H rfl rfl rfl rfl rfl rfl ⟨⟨rfl, rfl⟩, rfl⟩ (one_cons rfl (one_cons (SliceR.one (H.arg hs1)) one_nil)) ?_
      intro w2 H
      refine WL.nil ?_
      refine W.seq ?_
      refine W.region ?_
      refine O.fieldAddr fd24_0 rfl rfl rfl ?_
      refine O.load sc9 rfl rfl rfl (H.cell 0 rfl 0 _ rfl) ?_
      refine O.lenStr Try.underlying9 rfl rfl rfl ?_
      refine O.gtr rfl rfl rfl rfl ?_
      refine O.move (v := (.bool (decide (100 < ((yk1.Name.size : Nat) : Int))))) rfl rfl rfl ?_
      refine WL.cut 11 (fun f w => f 0 = va0 ∧ f 4 = (.pointer (some ⟨b1, 0, none⟩)) ∧ f 5 = va0 ∧ f 6 = (.int .i64 ((a0.length : Nat) : Int)) ∧ f 7 = (.int .i64 (ik1 : Int)) ∧ f 26 = .bool ((decide (100 < ((yk1.Name.size : Nat) : Int))) || ((decide (60 < ((yk1.Errors.length : Nat) : Int))) && (decide (((yk1.Errors.length : Nat) : Int) < 399)))) ∧ Inv w0 w [boxI b1 24 [(.string yk1.Name), v1], ownI (α := Int) (.slice none 0 0) 3 ([] : List Int)]) ?_ ?_
      · skip
        rcases bool_ft (decide (100 < ((yk1.Name.size : Nat) : Int))) with hc2 | hc2
        · skip
          refine WL.reset (i := 15) (v := .bool false) (congrArg Value.bool hc2) ?_
          refine O.fieldAddr fd24_1 rfl rfl rfl ?_
          refine O.load sc22 rfl rfl rfl (H.cell 0 rfl 1 _ rfl) ?_
          refine O.lenS Try.underlying22 (H.arg hs1) rfl rfl rfl ?_
          refine O.gtr rfl rfl rfl rfl ?_
          refine O.move (v := (.bool (decide (60 < ((yk1.Errors.length : Nat) : Int))))) rfl rfl rfl ?_
          refine WL.cut 5 (fun f w => f 0 = va0 ∧ f 4 = (.pointer (some ⟨b1, 0, none⟩)) ∧ f 5 = va0 ∧ f 6 = (.int .i64 ((a0.length : Nat) : Int)) ∧ f 7 = (.int .i64 (ik1 : Int)) ∧ f 15 = (.bool false) ∧ f 16 = (.pointer (some (Addr.add (Addr.mk b1 0 none) 1))) ∧ f 17 = v1 ∧ f 18 = (.int .i64 ((yk1.Errors.length : Nat) : Int)) ∧ f 19 = (.bool (decide (60 < ((yk1.Errors.length : Nat) : Int)))) ∧ f 20 = (.bool (decide (60 < ((yk1.Errors.length : Nat) : Int)))) ∧ f 25 = .bool ((decide (60 < ((yk1.Errors.length : Nat) : Int))) && (decide (((yk1.Errors.length : Nat) : Int) < 399))) ∧ Inv w0 w [boxI b1 24 [(.string yk1.Name), v1], ownI (α := Int) (.slice none 0 0) 3 ([] : List Int)]) ?_ ?_
          · skip
            rcases bool_ft (decide (60 < ((yk1.Errors.length : Nat) : Int))) with hc3 | hc3
            · skip
              refine WL.reset (i := 20) (v := .bool false) (congrArg Value.bool hc3) ?_
              refine O.skip rfl rfl ?_
              refine O.skip rfl rfl ?_
              refine O.skip rfl rfl ?_
              refine O.skip rfl rfl ?_
              refine O.pick_false (v := (.bool false)) rfl rfl rfl rfl ?_
              refine WL.nil ?_
              exact ⟨rfl, rfl, rfl, rfl, rfl, rfl, rfl, rfl, rfl, rfl, (congrArg Value.bool hc3).symm, congrArg Value.bool (and_f hc3), H⟩
            · skip
              refine WL.reset (i := 20) (v := .bool true) (congrArg Value.bool hc3) ?_
              refine O.fieldAddr fd24_1 rfl rfl rfl ?_
              refine O.load sc22 rfl rfl rfl (H.cell 0 rfl 1 _ rfl) ?_
              refine O.lenS Try.underlying22 (H.arg hs1) rfl rfl rfl ?_
              refine O.lss rfl rfl rfl rfl ?_
              refine O.pick_true (v := (.bool (decide (((yk1.Errors.length : Nat) : Int) < 399)))) rfl rfl rfl rfl ?_
              refine WL.nil ?_
              exact ⟨rfl, rfl, rfl, rfl, rfl, rfl, rfl, rfl, rfl, rfl, (congrArg Value.bool hc3).symm, congrArg Value.bool (and_t hc3), H⟩
          · skip
            rintro f w ⟨hf0, hf4, hf5, hf6, hf7, hf15, hf16, hf17, hf18, hf19, hf20, hf25, H⟩
            obtain ⟨u2, rfl⟩ : ∃ u2, f = (upd (upd (upd (upd (upd (upd (upd (upd (upd (upd (upd (upd u2 0 va0) 4 (.pointer (some ⟨b1, 0, none⟩))) 5 va0) 6 (.int .i64 ((a0.length : Nat) : Int))) 7 (.int .i64 (ik1 : Int))) 15 (.bool false)) 16 (.pointer (some (Addr.add (Addr.mk b1 0 none) 1)))) 17 v1) 18 (.int .i64 ((yk1.Errors.length : Nat) : Int))) 19 (.bool (decide (60 < ((yk1.Errors.length : Nat) : Int))))) 20 (.bool (decide (60 < ((yk1.Errors.length : Nat) : Int))))) 25 (.bool ((decide (60 < ((yk1.Errors.length : Nat) : Int))) && (decide (((yk1.Errors.length : Nat) : Int) < 399))))) := ⟨f, by rw [upd_self hf0, upd_self hf4, upd_self hf5, upd_self hf6, upd_self hf7, upd_self hf15, upd_self hf16, upd_self hf17, upd_self hf18, upd_self hf19, upd_self hf20, upd_self hf25]⟩
            refine O.pick_false (v := (.bool ((decide (60 < ((yk1.Errors.length : Nat) : Int))) && (decide (((yk1.Errors.length : Nat) : Int) < 399))))) rfl rfl rfl rfl ?_
            refine WL.nil ?_
            exact ⟨rfl, rfl, rfl, rfl, rfl, congrArg Value.bool (or_f hc2), H⟩
        · skip
          refine WL.reset (i := 15) (v := .bool true) (congrArg Value.bool hc2) ?_
          refine O.skip rfl rfl ?_
          refine O.skip rfl rfl ?_
          refine O.skip rfl rfl ?_
          refine O.skip rfl rfl ?_
          refine O.skip rfl rfl ?_
          refine O.skip rfl rfl ?_
          refine O.skip rfl rfl ?_
          refine O.skip rfl rfl ?_
          refine O.skip rfl rfl ?_
          refine O.skip rfl rfl ?_
          refine O.pick_true (v := (.bool true)) rfl rfl rfl rfl ?_
          refine WL.nil ?_
          exact ⟨rfl, rfl, rfl, rfl, rfl, congrArg Value.bool (or_t hc2), H⟩
      · skip
        rintro f w ⟨hf0, hf4, hf5, hf6, hf7, hf26, H⟩
        obtain ⟨u3, rfl⟩ : ∃ u3, f = (upd (upd (upd (upd (upd (upd u3 0 va0) 4 (.pointer (some ⟨b1, 0, none⟩))) 5 va0) 6 (.int .i64 ((a0.length : Nat) : Int))) 7 (.int .i64 (ik1 : Int))) 26 (.bool ((decide (100 < ((yk1.Name.size : Nat) : Int))) || ((decide (60 < ((yk1.Errors.length : Nat) : Int))) && (decide (((yk1.Errors.length : Nat) : Int) < 399)))))) := ⟨f, by rw [upd_self hf0, upd_self hf4, upd_self hf5, upd_self hf6, upd_self hf7, upd_self hf26]⟩
        refine O.move (v := (.bool ((decide (100 < ((yk1.Name.size : Nat) : Int))) || ((decide (60 < ((yk1.Errors.length : Nat) : Int))) && (decide (((yk1.Errors.length : Nat) : Int) < 399)))))) rfl rfl rfl ?_
        refine WL.cut 5 (fun f w => f 0 = va0 ∧ f 5 = va0 ∧ f 6 = (.int .i64 ((a0.length : Nat) : Int)) ∧ f 7 = (.int .i64 (ik1 : Int)) ∧ f 32 = .bool (((decide (100 < ((yk1.Name.size : Nat) : Int))) || ((decide (60 < ((yk1.Errors.length : Nat) : Int))) && (decide (((yk1.Errors.length : Nat) : Int) < 399)))) || (decide (410 < ((yk1.Errors.length : Nat) : Int)))) ∧ Inv w0 w [boxI b1 24 [(.string yk1.Name), v1], ownI (α := Int) (.slice none 0 0) 3 ([] : List Int)]) ?_ ?_
        · skip
          rcases bool_ft ((decide (100 < ((yk1.Name.size : Nat) : Int))) || ((decide (60 < ((yk1.Errors.length : Nat) : Int))) && (decide (((yk1.Errors.length : Nat) : Int) < 399)))) with hc4 | hc4
          · skip
            refine WL.reset (i := 27) (v := .bool false) (congrArg Value.bool hc4) ?_
            refine O.fieldAddr fd24_1 rfl rfl rfl ?_
            refine O.load sc22 rfl rfl rfl (H.cell 0 rfl 1 _ rfl) ?_
            refine O.lenS Try.underlying22 (H.arg hs1) rfl rfl rfl ?_
            refine O.gtr rfl rfl rfl rfl ?_
            refine O.pick_false (v := (.bool (decide (410 < ((yk1.Errors.length : Nat) : Int))))) rfl rfl rfl rfl ?_
            refine WL.nil ?_
            exact ⟨rfl, rfl, rfl, rfl, congrArg Value.bool (or_f hc4), H⟩
          · skip
            refine WL.reset (i := 27) (v := .bool true) (congrArg Value.bool hc4) ?_
            refine O.skip rfl rfl ?_
            refine O.skip rfl rfl ?_
            refine O.skip rfl rfl ?_
            refine O.skip rfl rfl ?_
            refine O.pick_true (v := (.bool true)) rfl rfl rfl rfl ?_
            refine WL.nil ?_
            exact ⟨rfl, rfl, rfl, rfl, congrArg Value.bool (or_t hc4), H⟩
        · skip
          rintro f w ⟨hf0, hf5, hf6, hf7, hf32, H⟩
          obtain ⟨u4, rfl⟩ : ∃ u4, f = (upd (upd (upd (upd (upd u4 0 va0) 5 va0) 6 (.int .i64 ((a0.length : Nat) : Int))) 7 (.int .i64 (ik1 : Int))) 32 (.bool (((decide (100 < ((yk1.Name.size : Nat) : Int))) || ((decide (60 < ((yk1.Errors.length : Nat) : Int))) && (decide (((yk1.Errors.length : Nat) : Int) < 399)))) || (decide (410 < ((yk1.Errors.length : Nat) : Int)))))) := ⟨f, by rw [upd_self hf0, upd_self hf5, upd_self hf6, upd_self hf7, upd_self hf32]⟩
          refine WL.nil ?_
          rcases ite_some hm2 with ⟨hc5, hm2⟩ | ⟨hc5, hm2⟩
          · refine W.cond_true (congrArg Value.bool hc5) ?_
            refine W.seq ?_
            refine W.region ?_
            refine O.assign (v := (.bool false)) rfl rfl rfl ?_
            refine WL.nil ?_
            refine W.ret ?_
            obtain rfl := Option.some.inj hm2
            refine ⟨_, rfl, ?_⟩
            rintro rfl
            have hq : false = r0 := Option.some.inj (show some false = some r0 from hm)
            subst hq
            exact ends1 Try.results13 rfl ⟨_, rfl, H.base, rfl⟩
          · refine W.cond_false (congrArg Value.bool hc5) ?_
            refine W.skip ?_
            refine W.region ?_
            refine O.add rfl rfl rfl rfl hinck1 ?_
            refine O.move (v := .int .i64 ((ik1 : Int) + 1)) rfl rfl rfl ?_
            refine WL.nil ?_
            have H := H.keep [] [] rfl (by decide)
            obtain rfl := Option.some.inj hm2
            exact ⟨_, rfl, rfl, drop_next hdropk1, rfl, rfl, rfl, rfl, H⟩
    · skip
      rintro ik1 _ f w ⟨rfl, hdropk1, hf7, hf6, hf0, hf5, H⟩ hfin
      have hltk1 := drop_end hdropk1
      obtain ⟨u5, rfl⟩ : ∃ u5, f = (upd (upd (upd (upd u5 7 (.int .i64 (ik1 : Int))) 6 (.int .i64 ((a0.length : Nat) : Int))) 0 va0) 5 va0) := ⟨f, by rw [upd_self hf7, upd_self hf6, upd_self hf0, upd_self hf5]⟩
      refine W.seq ?_
      refine W.region ?_
      refine O.lss rfl rfl rfl rfl ?_
      refine WL.nil ?_
      refine W.seq ?_
      refine W.cond_false (congrArg Value.bool (decide_eq_false hltk1)) ?_
      refine W.exit ?_
      obtain rfl : Ctl.next () = o1 := hfin
      refine xT rfl ?_
      exact ⟨rfl, rfl, H⟩
  · skip
    rintro f w ⟨rfl, hf0, H⟩
    obtain ⟨u6, rfl⟩ : ∃ u6, f = (upd u6 0 va0) := ⟨f, by rw [upd_self hf0]⟩
    refine W.seq ?_
    refine W.region ?_
    refine O.move (v := va0) rfl rfl rfl ?_
    refine O.lenS Try.underlying55 (H.arg ha0) rfl rfl rfl ?_
    refine O.leq rfl rfl rfl rfl ?_
    refine O.assign (v := (.bool (decide (((a0.length : Nat) : Int) ≤ 20)))) rfl rfl rfl ?_
    refine WL.nil ?_
    refine W.ret ?_
    have hq : (decide (((a0.length : Nat) : Int) ≤ 20)) = r0 := Option.some.inj (show some (decide (((a0.length : Nat) : Int) ≤ 20)) = some r0 from hm)
    subst hq
    exact ends1 Try.results13 rfl ⟨_, rfl, H.base, rfl⟩

theorem c_rate_within {w0 : World} (a0 : Int) (a1 : Int) (a2 : Int) {r0 : Bool} (hm : rate_within a0 a1 a2 = some r0) :
    Calls Try.prog 59 #[(.int .i64 a0), (.int .i64 a1), (.int .i64 a2)] w0 (Ret w0 fun _ v => v = (.bool r0)) := by
  unfold rate_within at hm
  refine calls_of_W Try.func59 rfl Try.ntmps59 (Nat.le_of_ble_eq_true rfl) ?_
  have H := Inv.start (w := w0)
  refine W.seq ?_
  refine W.region ?_
  refine O.assign (v := (.bool false)) rfl rfl rfl ?_
  refine WL.nil ?_
  refine W.seq ?_
  refine W.region ?_
  refine O.move (v := (.int .i64 a0)) rfl rfl rfl ?_
  refine O.move (v := (.int .i64 a1)) rfl rfl rfl ?_
  refine O.geq rfl rfl rfl rfl ?_
  refine O.move (v := (.bool (decide (a1 ≤ a0)))) rfl rfl rfl ?_
  refine WL.cut 4 (fun f w => f 14 = .bool ((decide (a1 ≤ a0)) && (decide (a0 ≤ a2))) ∧ Inv w0 w []) ?_ ?_
  · skip
    rcases bool_ft (decide (a1 ≤ a0)) with hc1 | hc1
    · skip
      refine WL.reset (i := 10) (v := .bool false) (congrArg Value.bool hc1) ?_
      refine O.skip rfl rfl ?_
      refine O.skip rfl rfl ?_
      refine O.skip rfl rfl ?_
      refine O.pick_false (v := (.bool false)) rfl rfl rfl rfl ?_
      refine WL.nil ?_
      exact ⟨congrArg Value.bool (and_f hc1), H⟩
    · skip
      refine WL.reset (i := 10) (v := .bool true) (congrArg Value.bool hc1) ?_
      refine O.move (v := (.int .i64 a0)) rfl rfl rfl ?_
      refine O.move (v := (.int .i64 a2)) rfl rfl rfl ?_
      refine O.leq rfl rfl rfl rfl ?_
      refine O.pick_true (v := (.bool (decide (a0 ≤ a2)))) rfl rfl rfl rfl ?_
      refine WL.nil ?_
      exact ⟨congrArg Value.bool (and_t hc1), H⟩
  · skip
    rintro f w ⟨hf14, H⟩
    obtain ⟨u1, rfl⟩ : ∃ u1, f = (upd u1 14 (.bool ((decide (a1 ≤ a0)) && (decide (a0 ≤ a2))))) := ⟨f, by rw [upd_self hf14]⟩
    refine O.assign (v := (.bool ((decide (a1 ≤ a0)) && (decide (a0 ≤ a2))))) rfl rfl rfl ?_
    refine WL.nil ?_
    refine W.ret ?_
    have hq : ((decide (a1 ≤ a0)) && (decide (a0 ≤ a2))) = r0 := Option.some.inj (show some ((decide (a1 ≤ a0)) && (decide (a0 ≤ a2))) = some r0 from hm)
    subst hq
    exact ends1 Try.results59 rfl ⟨_, rfl, H.base, rfl⟩

set_option maxRecDepth 20000 in
theorem c_rate_name {w0 : World} (a0 : ByteArray) {r0 : Bool} (hm : rate_name a0 = some r0) :
    Calls Try.prog 58 #[(.string a0)] w0 (Ret w0 fun _ v => v = (.bool r0)) := by
  unfold rate_name at hm
  refine calls_of_W Try.func58 rfl Try.ntmps58 (Nat.le_of_ble_eq_true rfl) ?_
  have H := Inv.start (w := w0)
  refine W.seq ?_
  refine W.region ?_
  refine O.assign (v := (.bool false)) rfl rfl rfl ?_
  refine WL.nil ?_
  refine W.seq ?_
  refine W.seq ?_
  refine W.region ?_
  refine O.move (v := (.string a0)) rfl rfl rfl ?_
  obtain ⟨t1, ht1, hm⟩ := bind_some hm
  refine O.bytesOf Try.underlying9 Try.underlying108 Try.underlying5 ht1 rfl rfl rfl ?_
  intro v1 w1 hb1 hs1
  have H := H.ext hb1
  refine O.lenS Try.underlying108 hs1 rfl rfl rfl ?_
  refine O.move (v := (.int .i64 0)) rfl rfl rfl ?_
  refine WL.nil ?_
  obtain ⟨o1, hm1, hm⟩ := bind_some hm
  refine W.via (fun f w => o1 = .next () ∧ f 0 = (.string a0) ∧ Inv w0 w []) ?_ ?_
  · skip
    refine W.block ?_
    have hbdik1 := hs1.len_le
    refine W.rangeN (i := 0) hm1 (fun rem ik1 s f w => () = s ∧ (ik1 : Int) + rem = max 0 ((t1.length : Nat) : Int) ∧ f 9 = .int .i64 (ik1 : Int) ∧ f 8 = (.int .i64 ((t1.length : Nat) : Int)) ∧ f 0 = (.string a0) ∧ f 7 = v1 ∧ SliceR w v1 t1 ∧ Inv w0 w []) ?_ ?_ ?_
    · skip
      exact ⟨rfl, rangeN_start, rfl, rfl, rfl, rfl, hs1, H⟩
    · skip
      rintro k ik1 _ st f w ⟨rfl, hdropk1, hf9, hf8, hf0, hf7, hs4, H⟩ hm2
      have hltk1 := rangeN_lt hdropk1
      obtain ⟨u1, rfl⟩ : ∃ u1, f = (upd (upd (upd (upd u1 9 (.int .i64 (ik1 : Int))) 8 (.int .i64 ((t1.length : Nat) : Int))) 0 (.string a0)) 7 v1) := ⟨f, by rw [upd_self hf9, upd_self hf8, upd_self hf0, upd_self hf7]⟩
      have hinck1 := addI_lt hltk1 hbdik1
      refine W.seq ?_
      refine W.region ?_
      refine O.lss rfl rfl rfl rfl ?_
      refine WL.nil ?_
      refine W.seq ?_
      refine W.cond_true (congrArg Value.bool (decide_eq_true hltk1)) ?_
      refine W.skip ?_
      refine W.seq ?_
      refine W.block ?_
      refine W.seq ?_
      refine W.region ?_
      refine O.move (v := (.int .i64 (ik1 : Int))) rfl rfl rfl ?_
      obtain ⟨x1, hx1, hm2⟩ := bind_some hm2
      refine O.indexAddr Try.underlying108 sz5 hs4 hx1 rfl rfl rfl rfl ?_
      intro p1 hp1
      refine O.load sc5 rfl rfl rfl (hp1.flat 0 _ rfl) ?_
      refine O.assign (v := (.int .i64 (ik1 : Int))) rfl rfl rfl ?_
      refine O.assign (v := (.int .u8 (x1.toNat : Int))) rfl rfl rfl ?_
      refine WL.nil ?_
      refine W.seq ?_
      refine W.region ?_
      refine O.move (v := (.int .u8 (x1.toNat : Int))) rfl rfl rfl ?_
      refine O.geq rfl rfl rfl rfl ?_
      refine O.move (v := (.bool (decide (97 ≤ (x1.toNat : Int))))) rfl rfl rfl ?_
      refine WL.cut 3 (fun f w => f 0 = (.string a0) ∧ f 3 = (.int .i64 (ik1 : Int)) ∧ f 4 = (.int .u8 (x1.toNat : Int)) ∧ f 7 = v1 ∧ f 8 = (.int .i64 ((t1.length : Nat) : Int)) ∧ f 9 = (.int .i64 (ik1 : Int)) ∧ f 19 = .bool ((decide (97 ≤ (x1.toNat : Int))) && (decide ((x1.toNat : Int) ≤ 122))) ∧ SliceR w v1 t1 ∧ Inv w0 w []) ?_ ?_
      · skip
        rcases bool_ft (decide (97 ≤ (x1.toNat : Int))) with hc1 | hc1
        · skip
          refine WL.reset (i := 16) (v := .bool false) (congrArg Value.bool hc1) ?_
          refine O.skip rfl rfl ?_
          refine O.skip rfl rfl ?_
          refine O.pick_false (v := (.bool false)) rfl rfl rfl rfl ?_
          refine WL.nil ?_
          exact ⟨rfl, rfl, rfl, rfl, rfl, rfl, congrArg Value.bool (and_f hc1), hs4, H⟩
        · skip
          refine WL.reset (i := 16) (v := .bool true) (congrArg Value.bool hc1) ?_
          refine O.move (v := (.int .u8 (x1.toNat : Int))) rfl rfl rfl ?_
          refine O.leq rfl rfl rfl rfl ?_
          refine O.pick_true (v := (.bool (decide ((x1.toNat : Int) ≤ 122)))) rfl rfl rfl rfl ?_
          refine WL.nil ?_
          exact ⟨rfl, rfl, rfl, rfl, rfl, rfl, congrArg Value.bool (and_t hc1), hs4, H⟩
      · skip
        rintro f w ⟨hf0, hf3, hf4, hf7, hf8, hf9, hf19, hs6, H⟩
        obtain ⟨u2, rfl⟩ : ∃ u2, f = (upd (upd (upd (upd (upd (upd (upd u2 0 (.string a0)) 3 (.int .i64 (ik1 : Int))) 4 (.int .u8 (x1.toNat : Int))) 7 v1) 8 (.int .i64 ((t1.length : Nat) : Int))) 9 (.int .i64 (ik1 : Int))) 19 (.bool ((decide (97 ≤ (x1.toNat : Int))) && (decide ((x1.toNat : Int) ≤ 122))))) := ⟨f, by rw [upd_self hf0, upd_self hf3, upd_self hf4, upd_self hf7, upd_self hf8, upd_self hf9, upd_self hf19]⟩
        refine O.assign (v := (.bool ((decide (97 ≤ (x1.toNat : Int))) && (decide ((x1.toNat : Int) ≤ 122))))) rfl rfl rfl ?_
        refine WL.nil ?_
        refine W.seq ?_
        refine W.region ?_
        refine O.move (v := (.bool ((decide (97 ≤ (x1.toNat : Int))) && (decide ((x1.toNat : Int) ≤ 122))))) rfl rfl rfl ?_
        refine O.not rfl rfl rfl ?_
        refine O.move (v := (.bool (!((decide (97 ≤ (x1.toNat : Int))) && (decide ((x1.toNat : Int) ≤ 122)))))) rfl rfl rfl ?_
        obtain ⟨b1, hm3, hm2⟩ := bind_some hm2
        refine WL.cut 13 (fun f w => f 0 = (.string a0) ∧ f 7 = v1 ∧ f 8 = (.int .i64 ((t1.length : Nat) : Int)) ∧ f 9 = (.int .i64 (ik1 : Int)) ∧ f 35 = .bool b1 ∧ SliceR w v1 t1 ∧ Inv w0 w []) ?_ ?_
        · skip
          rcases ite_some hm3 with ⟨hc2, hm3⟩ | ⟨hc2, hm3⟩
          · skip
            refine WL.reset (i := 22) (v := .bool true) (congrArg Value.bool hc2) ?_
            refine O.move (v := (.int .i64 (ik1 : Int))) rfl rfl rfl ?_
            refine O.eql rfl rfl rfl rfl ?_
            refine O.move (v := (.bool ((ik1 : Int) == 0))) rfl rfl rfl ?_
            obtain ⟨b2, hm4, hm3⟩ := bind_some hm3
            refine WL.cut 9 (fun f w => f 0 = (.string a0) ∧ f 7 = v1 ∧ f 8 = (.int .i64 ((t1.length : Nat) : Int)) ∧ f 9 = (.int .i64 (ik1 : Int)) ∧ f 22 = (.bool true) ∧ f 23 = (.int .i64 (ik1 : Int)) ∧ f 24 = (.bool ((ik1 : Int) == 0)) ∧ f 25 = (.bool ((ik1 : Int) == 0)) ∧ f 34 = .bool b2 ∧ SliceR w v1 t1 ∧ Inv w0 w []) ?_ ?_
            · skip
              rcases ite_some hm4 with ⟨hc3, hm4⟩ | ⟨hc3, hm4⟩
              · skip
                refine WL.reset (i := 25) (v := .bool true) (congrArg Value.bool hc3) ?_
                refine O.skip rfl rfl ?_
                refine O.skip rfl rfl ?_
                refine O.skip rfl rfl ?_
                refine O.skip rfl rfl ?_
                refine O.skip rfl rfl ?_
                refine O.skip rfl rfl ?_
                refine O.skip rfl rfl ?_
                refine O.skip rfl rfl ?_
                refine O.pick_true (v := (.bool true)) rfl rfl rfl rfl ?_
                refine WL.nil ?_
                have hq : true = b2 := Option.some.inj (show some true = some b2 from hm4)
                subst hq
                exact ⟨rfl, rfl, rfl, rfl, rfl, rfl, rfl, (congrArg Value.bool hc3).symm, rfl, hs6, H⟩
              · skip
                refine WL.reset (i := 25) (v := .bool false) (congrArg Value.bool hc3) ?_
                refine O.move (v := (.int .u8 (x1.toNat : Int))) rfl rfl rfl ?_
                refine O.neq rfl rfl rfl rfl ?_
                refine O.move (v := (.bool ((x1.toNat : Int) != 95))) rfl rfl rfl ?_
                obtain ⟨b3, hm5, hm4⟩ := bind_some hm4
                refine WL.cut 5 (fun f w => f 0 = (.string a0) ∧ f 7 = v1 ∧ f 8 = (.int .i64 ((t1.length : Nat) : Int)) ∧ f 9 = (.int .i64 (ik1 : Int)) ∧ f 22 = (.bool true) ∧ f 23 = (.int .i64 (ik1 : Int)) ∧ f 24 = (.bool ((ik1 : Int) == 0)) ∧ f 25 = (.bool false) ∧ f 26 = (.int .u8 (x1.toNat : Int)) ∧ f 27 = (.bool ((x1.toNat : Int) != 95)) ∧ f 28 = (.bool ((x1.toNat : Int) != 95)) ∧ f 33 = .bool b3 ∧ SliceR w v1 t1 ∧ Inv w0 w []) ?_ ?_
                · skip
                  rcases ite_some hm5 with ⟨hc4, hm5⟩ | ⟨hc4, hm5⟩
                  · skip
                    refine WL.reset (i := 28) (v := .bool true) (congrArg Value.bool hc4) ?_
                    refine O.move (v := (.int .u8 (x1.toNat : Int))) rfl rfl rfl ?_
                    obtain ⟨t2, ht2, hm5⟩ := bind_some hm5
                    refine O.convI (by rw [Try.underlying5]; rfl) Try.underlying3 ht2 rfl rfl rfl ?_
                    obtain ⟨t3, hy1, hm5⟩ := bind_some hm5
                    refine O.call Try.call59 rfl rfl rfl (c_rate_within _ _ _ hy1) ?_
                    rintro _ w2 hb2 rfl
                    have hs6 := hs6.mono hb2
                    have H := H.ext hb2
                    refine O.not rfl rfl rfl ?_
                    refine O.pick_true (v := (.bool (!t3))) rfl rfl rfl rfl ?_
                    refine WL.nil ?_
                    have hq : (!t3) = b3 := Option.some.inj (show some (!t3) = some b3 from hm5)
                    subst hq
                    exact ⟨rfl, rfl, rfl, rfl, rfl, rfl, rfl, rfl, rfl, rfl, (congrArg Value.bool hc4).symm, rfl, hs6, H⟩
                  · skip
                    refine WL.reset (i := 28) (v := .bool false) (congrArg Value.bool hc4) ?_
                    refine O.skip rfl rfl ?_
                    refine O.skip rfl rfl ?_
                    refine O.skip rfl rfl ?_
                    refine O.skip rfl rfl ?_
                    refine O.pick_false (v := (.bool false)) rfl rfl rfl rfl ?_
                    refine WL.nil ?_
                    have hq : false = b3 := Option.some.inj (show some false = some b3 from hm5)
                    subst hq
                    exact ⟨rfl, rfl, rfl, rfl, rfl, rfl, rfl, rfl, rfl, rfl, (congrArg Value.bool hc4).symm, rfl, hs6, H⟩
                · skip
                  rintro f w ⟨hf0, hf7, hf8, hf9, hf22, hf23, hf24, hf25, hf26, hf27, hf28, hf33, hs7, H⟩
                  obtain ⟨u3, rfl⟩ : ∃ u3, f = (upd (upd (upd (upd (upd (upd (upd (upd (upd (upd (upd (upd u3 0 (.string a0)) 7 v1) 8 (.int .i64 ((t1.length : Nat) : Int))) 9 (.int .i64 (ik1 : Int))) 22 (.bool true)) 23 (.int .i64 (ik1 : Int))) 24 (.bool ((ik1 : Int) == 0))) 25 (.bool false)) 26 (.int .u8 (x1.toNat : Int))) 27 (.bool ((x1.toNat : Int) != 95))) 28 (.bool ((x1.toNat : Int) != 95))) 33 (.bool b3)) := ⟨f, by rw [upd_self hf0, upd_self hf7, upd_self hf8, upd_self hf9, upd_self hf22, upd_self hf23, upd_self hf24, upd_self hf25, upd_self hf26, upd_self hf27, upd_self hf28, upd_self hf33]⟩
                  refine O.pick_false (v := (.bool b3)) rfl rfl rfl rfl ?_
                  refine WL.nil ?_
                  have hq : b3 = b2 := Option.some.inj (show some b3 = some b2 from hm4)
                  subst hq
                  exact ⟨rfl, rfl, rfl, rfl, rfl, rfl, rfl, (congrArg Value.bool hc3).symm, rfl, hs7, H⟩
            · skip
              rintro f w ⟨hf0, hf7, hf8, hf9, hf22, hf23, hf24, hf25, hf34, hs8, H⟩
              obtain ⟨u4, rfl⟩ : ∃ u4, f = (upd (upd (upd (upd (upd (upd (upd (upd (upd u4 0 (.string a0)) 7 v1) 8 (.int .i64 ((t1.length : Nat) : Int))) 9 (.int .i64 (ik1 : Int))) 22 (.bool true)) 23 (.int .i64 (ik1 : Int))) 24 (.bool ((ik1 : Int) == 0))) 25 (.bool ((ik1 : Int) == 0))) 34 (.bool b2)) := ⟨f, by rw [upd_self hf0, upd_self hf7, upd_self hf8, upd_self hf9, upd_self hf22, upd_self hf23, upd_self hf24, upd_self hf25, upd_self hf34]⟩
              refine O.pick_true (v := (.bool b2)) rfl rfl rfl rfl ?_
              refine WL.nil ?_
              have hq : b2 = b1 := Option.some.inj (show some b2 = some b1 from hm3)
              subst hq
              exact ⟨rfl, rfl, rfl, rfl, rfl, hs8, H⟩
          · skip
            refine WL.reset (i := 22) (v := .bool false) (congrArg Value.bool hc2) ?_
            refine O.skip rfl rfl ?_
            refine O.skip rfl rfl ?_
            refine O.skip rfl rfl ?_
            refine O.skip rfl rfl ?_
            refine O.skip rfl rfl ?_
            refine O.skip rfl rfl ?_
            refine O.skip rfl rfl ?_
            refine O.skip rfl rfl ?_
            refine O.skip rfl rfl ?_
            refine O.skip rfl rfl ?_
            refine O.skip rfl rfl ?_
            refine O.skip rfl rfl ?_
            refine O.pick_false (v := (.bool false)) rfl rfl rfl rfl ?_
            refine WL.nil ?_
            have hq : false = b1 := Option.some.inj (show some false = some b1 from hm3)
            subst hq
            exact ⟨rfl, rfl, rfl, rfl, rfl, hs6, H⟩
        · skip
          rintro f w ⟨hf0, hf7, hf8, hf9, hf35, hs9, H⟩
          obtain ⟨u5, rfl⟩ : ∃ u5, f = (upd (upd (upd (upd (upd u5 0 (.string a0)) 7 v1) 8 (.int .i64 ((t1.length : Nat) : Int))) 9 (.int .i64 (ik1 : Int))) 35 (.bool b1)) := ⟨f, by rw [upd_self hf0, upd_self hf7, upd_self hf8, upd_self hf9, upd_self hf35]⟩
          refine WL.nil ?_
          rcases ite_some hm2 with ⟨hc5, hm2⟩ | ⟨hc5, hm2⟩
          · refine W.cond_true (congrArg Value.bool hc5) ?_
            refine W.seq ?_
            refine W.region ?_
            refine O.assign (v := (.bool false)) rfl rfl rfl ?_
            refine WL.nil ?_
            refine W.ret ?_
            obtain rfl := Option.some.inj hm2
            refine ⟨_, rfl, ?_⟩
            rintro rfl
            have hq : false = r0 := Option.some.inj (show some false = some r0 from hm)
            subst hq
            exact ends1 Try.results58 rfl ⟨_, rfl, H.base, rfl⟩
          · refine W.cond_false (congrArg Value.bool hc5) ?_
            refine W.skip ?_
            refine W.region ?_
            refine O.add rfl rfl rfl rfl hinck1 ?_
            refine O.move (v := .int .i64 ((ik1 : Int) + 1)) rfl rfl rfl ?_
            refine WL.nil ?_
            obtain rfl := Option.some.inj hm2
            exact ⟨_, rfl, rfl, rangeN_next hdropk1, rfl, rfl, rfl, rfl, hs9, H⟩
    · skip
      rintro ik1 _ f w ⟨rfl, hdropk1, hf9, hf8, hf0, hf7, hs4, H⟩ hfin
      have hltk1 := rangeN_end hdropk1
      obtain ⟨u6, rfl⟩ : ∃ u6, f = (upd (upd (upd (upd u6 9 (.int .i64 (ik1 : Int))) 8 (.int .i64 ((t1.length : Nat) : Int))) 0 (.string a0)) 7 v1) := ⟨f, by rw [upd_self hf9, upd_self hf8, upd_self hf0, upd_self hf7]⟩
      refine W.seq ?_
      refine W.region ?_
      refine O.lss rfl rfl rfl rfl ?_
      refine WL.nil ?_
      refine W.seq ?_
      refine W.cond_false (congrArg Value.bool (decide_eq_false hltk1)) ?_
      refine W.exit ?_
      obtain rfl : Ctl.next () = o1 := hfin
      refine xT rfl ?_
      exact ⟨rfl, rfl, H⟩
  · skip
    rintro f w ⟨rfl, hf0, H⟩
    obtain ⟨u7, rfl⟩ : ∃ u7, f = (upd u7 0 (.string a0)) := ⟨f, by rw [upd_self hf0]⟩
    refine W.seq ?_
    refine W.region ?_
    refine O.move (v := (.string a0)) rfl rfl rfl ?_
    refine O.lenStr Try.underlying9 rfl rfl rfl ?_
    obtain ⟨t4, hy2, hm⟩ := bind_some hm
    refine O.call Try.call59 rfl rfl rfl (c_rate_within _ _ _ hy2) ?_
    rintro _ w3 hb3 rfl
    have H := H.ext hb3
    refine O.assign (v := (.bool t4)) rfl rfl rfl ?_
    refine WL.nil ?_
    refine W.ret ?_
    have hq : t4 = r0 := Option.some.inj (show some t4 = some r0 from hm)
    subst hq
    exact ends1 Try.results58 rfl ⟨_, rfl, H.base, rfl⟩

theorem c_slices_IndexFunc_int {w0 : World} (va0 : Value) (a0 : (List Int)) (ha0 : SliceR w0 va0 a0) (va1 : Value) (a1 : Int → Option (Bool)) (ha1 : ∀ (w : World), Below w0.heap.size w0 w → ∀ (x0 : Int) (y0 : Bool), a1 x0 = some y0 → CallsV Try.prog va1 #[(.int .i64 x0)] w (Ret w fun _ v => v = (.bool y0))) {r0 : Int} (hm : slices_IndexFunc_int a0 a1 = some r0) :
    Calls Try.prog 92 #[va0, va1] w0 (Ret w0 fun _ v => v = (.int .i64 r0)) := by
  unfold slices_IndexFunc_int at hm
  refine calls_of_W Try.func92 rfl Try.ntmps92 (Nat.le_of_ble_eq_true rfl) ?_
  have H := Inv.start (w := w0)
  refine W.seq ?_
  refine W.region ?_
  refine O.assign (v := (.int .i64 0)) rfl rfl rfl ?_
  refine WL.nil ?_
  refine W.seq ?_
  refine W.seq ?_
  refine W.region ?_
  refine O.move (v := va0) rfl rfl rfl ?_
  refine O.lenS Try.underlying22 (H.arg ha0) rfl rfl rfl ?_
  refine O.move (v := (.int .i64 0)) rfl rfl rfl ?_
  refine WL.nil ?_
  obtain ⟨o1, hm1, hm⟩ := bind_some hm
  refine W.via (fun f w => o1 = .next () ∧ Inv w0 w []) ?_ ?_
  · skip
    refine W.block ?_
    have hbdik1 := (H.arg ha0).len_le
    refine W.rangeN (i := 0) hm1 (fun rem ik1 s f w => () = s ∧ (ik1 : Int) + rem = max 0 ((a0.length : Nat) : Int) ∧ f 8 = .int .i64 (ik1 : Int) ∧ f 7 = (.int .i64 ((a0.length : Nat) : Int)) ∧ f 0 = va0 ∧ f 1 = va1 ∧ Inv w0 w []) ?_ ?_ ?_
    · skip
      exact ⟨rfl, rangeN_start, rfl, rfl, rfl, rfl, H⟩
    · skip
      rintro k ik1 _ st f w ⟨rfl, hdropk1, hf8, hf7, hf0, hf1, H⟩ hm2
      have hltk1 := rangeN_lt hdropk1
      obtain ⟨u1, rfl⟩ : ∃ u1, f = (upd (upd (upd (upd u1 8 (.int .i64 (ik1 : Int))) 7 (.int .i64 ((a0.length : Nat) : Int))) 0 va0) 1 va1) := ⟨f, by rw [upd_self hf8, upd_self hf7, upd_self hf0, upd_self hf1]⟩
      have hinck1 := addI_lt hltk1 hbdik1
      refine W.seq ?_
      refine W.region ?_
      refine O.lss rfl rfl rfl rfl ?_
      refine WL.nil ?_
      refine W.seq ?_
      refine W.cond_true (congrArg Value.bool (decide_eq_true hltk1)) ?_
      refine W.skip ?_
      refine W.seq ?_
      refine W.block ?_
      refine W.seq ?_
      refine W.region ?_
      refine O.move (v := (.int .i64 (ik1 : Int))) rfl rfl rfl ?_
      refine O.assign (v := (.int .i64 (ik1 : Int))) rfl rfl rfl ?_
      refine WL.nil ?_
      refine W.seq ?_
      refine W.region ?_
      refine O.move (v := va1) rfl rfl rfl ?_
      refine O.move (v := va0) rfl rfl rfl ?_
      refine O.move (v := (.int .i64 (ik1 : Int))) rfl rfl rfl ?_
      obtain ⟨x1, hx1, hm2⟩ := bind_some hm2
      obtain ⟨p1, hp1, hrp1⟩ := fix_indexAddr Try.underlying22 sz3 ha0 hx1
      refine hrp1 rfl rfl rfl rfl ?_
      refine O.load sc3 rfl rfl rfl ((hp1.mono H.base).flat 0 _ rfl) ?_
      obtain ⟨t1, hy1, hm2⟩ := bind_some hm2
      refine O.callV rfl rfl rfl rfl (ha1 _ H.base _ _ hy1) ?_
      rintro _ w1 hb1 rfl
      have H := H.ext hb1
      refine WL.nil ?_
      rcases ite_some hm2 with ⟨hc1, hm2⟩ | ⟨hc1, hm2⟩
      · refine W.cond_true (congrArg Value.bool hc1) ?_
        refine W.seq ?_
        refine W.region ?_
        refine O.move (v := (.int .i64 (ik1 : Int))) rfl rfl rfl ?_
        refine O.assign (v := (.int .i64 (ik1 : Int))) rfl rfl rfl ?_
        refine WL.nil ?_
        refine W.ret ?_
        obtain rfl := Option.some.inj hm2
        refine ⟨_, rfl, ?_⟩
        rintro rfl
        have hq : (ik1 : Int) = r0 := Option.some.inj (show some (ik1 : Int) = some r0 from hm)
        subst hq
        exact ends1 Try.results92 rfl ⟨_, rfl, H.base, rfl⟩
      · refine W.cond_false (congrArg Value.bool hc1) ?_
        refine W.skip ?_
        refine W.region ?_
        refine O.add rfl rfl rfl rfl hinck1 ?_
        refine O.move (v := .int .i64 ((ik1 : Int) + 1)) rfl rfl rfl ?_
        refine WL.nil ?_
        obtain rfl := Option.some.inj hm2
        exact ⟨_, rfl, rfl, rangeN_next hdropk1, rfl, rfl, rfl, rfl, H⟩
    · skip
      rintro ik1 _ f w ⟨rfl, hdropk1, hf8, hf7, hf0, hf1, H⟩ hfin
      have hltk1 := rangeN_end hdropk1
      obtain ⟨u2, rfl⟩ : ∃ u2, f = (upd (upd (upd (upd u2 8 (.int .i64 (ik1 : Int))) 7 (.int .i64 ((a0.length : Nat) : Int))) 0 va0) 1 va1) := ⟨f, by rw [upd_self hf8, upd_self hf7, upd_self hf0, upd_self hf1]⟩
      refine W.seq ?_
      refine W.region ?_
      refine O.lss rfl rfl rfl rfl ?_
      refine WL.nil ?_
      refine W.seq ?_
      refine W.cond_false (congrArg Value.bool (decide_eq_false hltk1)) ?_
      refine W.exit ?_
      obtain rfl : Ctl.next () = o1 := hfin
      refine xT rfl ?_
      exact ⟨rfl, H⟩
  · skip
    rintro f w ⟨rfl, H⟩
    refine W.seq ?_
    refine W.region ?_
    refine O.assign (v := (.int .i64 (-1))) rfl rfl rfl ?_
    refine WL.nil ?_
    refine W.ret ?_
    have hq : (-1) = r0 := Option.some.inj (show some (-1) = some r0 from hm)
    subst hq
    exact ends1 Try.results92 rfl ⟨_, rfl, H.base, rfl⟩

theorem c_slices_ContainsFunc_int {w0 : World} (va0 : Value) (a0 : (List Int)) (ha0 : SliceR w0 va0 a0) (va1 : Value) (a1 : Int → Option (Bool)) (ha1 : ∀ (w : World), Below w0.heap.size w0 w → ∀ (x0 : Int) (y0 : Bool), a1 x0 = some y0 → CallsV Try.prog va1 #[(.int .i64 x0)] w (Ret w fun _ v => v = (.bool y0))) {r0 : Bool} (hm : slices_ContainsFunc_int a0 a1 = some r0) :
    Calls Try.prog 60 #[va0, va1] w0 (Ret w0 fun _ v => v = (.bool r0)) := by
  unfold slices_ContainsFunc_int at hm
  refine calls_of_W Try.func60 rfl Try.ntmps60 (Nat.le_of_ble_eq_true rfl) ?_
  have H := Inv.start (w := w0)
  refine W.seq ?_
  refine W.region ?_
  refine O.assign (v := (.bool false)) rfl rfl rfl ?_
  refine WL.nil ?_
  refine W.seq ?_
  refine W.region ?_
  refine O.move (v := va0) rfl rfl rfl ?_
  refine O.move (v := va1) rfl rfl rfl ?_
  obtain ⟨t1, hy1, hm⟩ := bind_some hm
  refine O.call Try.call92 rfl rfl rfl (c_slices_IndexFunc_int _ _ (H.arg ha0) va1 a1 (fun w hw => ha1 w (H.base.trans (hw.mono H.base.size))) hy1) ?_
  rintro _ w1 hb1 rfl
  have H := H.ext hb1
  refine O.geq rfl rfl rfl rfl ?_
  refine O.assign (v := (.bool (decide (0 ≤ t1)))) rfl rfl rfl ?_
  refine WL.nil ?_
  refine W.ret ?_
  have hq : (decide (0 ≤ t1)) = r0 := Option.some.inj (show some (decide (0 ≤ t1)) = some r0 from hm)
  subst hq
  exact ends1 Try.results60 rfl ⟨_, rfl, H.base, rfl⟩

theorem c_rate_far {w0 : World} (a0 : Int) {r0 : Bool} (hm : rate_far a0 = some r0) :
    Calls Try.prog 61 #[(.int .i64 a0)] w0 (Ret w0 fun _ v => v = (.bool r0)) := by
  unfold rate_far at hm
  refine calls_of_W Try.func61 rfl Try.ntmps61 (Nat.le_of_ble_eq_true rfl) ?_
  have H := Inv.start (w := w0)
  refine W.seq ?_
  refine W.region ?_
  refine O.assign (v := (.bool false)) rfl rfl rfl ?_
  refine WL.nil ?_
  refine W.seq ?_
  refine W.region ?_
  refine O.move (v := (.int .i64 a0)) rfl rfl rfl ?_
  obtain ⟨t1, hy1, hm⟩ := bind_some hm
  refine O.call Try.call59 rfl rfl rfl (c_rate_within _ _ _ hy1) ?_
  rintro _ w1 hb1 rfl
  have H := H.ext hb1
  refine O.not rfl rfl rfl ?_
  refine O.assign (v := (.bool (!t1))) rfl rfl rfl ?_
  refine WL.nil ?_
  refine W.ret ?_
  have hq : (!t1) = r0 := Option.some.inj (show some (!t1) = some r0 from hm)
  subst hq
  exact ends1 Try.results61 rfl ⟨_, rfl, H.base, rfl⟩

theorem c_rate_ValidBox {w0 : World} (va0_0 : Value) (a0 : GBox) (ha0_0 : SliceR w0 va0_0 a0.Errors) {r0 : Bool} (hm : rate_ValidBox a0 = some r0) :
    Calls Try.prog 16 #[(.agg #[(.string a0.Name), va0_0])] w0 (Ret w0 fun _ v => v = (.bool r0)) := by
  unfold rate_ValidBox at hm
  refine calls_of_W Try.func16 rfl Try.ntmps16 (Nat.le_of_ble_eq_true rfl) ?_
  have H := Inv.start (w := w0)
  refine W.seq ?_
  refine W.region ?_
  refine O.box [(.string a0.Name), va0_0] H rfl rfl rfl rfl ?_
  intro b1 w1 H hb1
  refine O.assign (v := (.bool false)) rfl rfl rfl ?_
  refine WL.nil ?_
  refine W.seq ?_
  refine W.region ?_
  refine O.fieldAddr fd24_0 rfl rfl rfl ?_
  refine O.load sc9 rfl rfl rfl (H.cell 0 rfl 0 _ rfl) ?_
  obtain ⟨t1, hy1, hm⟩ := bind_some hm
  refine O.call Try.call58 rfl rfl rfl (c_rate_name _ hy1) ?_
  rintro _ w2 hb2 rfl
  have H := H.ext hb2
  refine O.move (v := (.bool t1)) rfl rfl rfl ?_
  obtain ⟨b2, hm1, hm⟩ := bind_some hm
  refine WL.cut 5 (fun f w => f 1 = (.pointer (some ⟨b1, 0, none⟩)) ∧ f 11 = .bool b2 ∧ Inv w0 w [boxI b1 24 [(.string a0.Name), va0_0]]) ?_ ?_
  · skip
    rcases ite_some hm1 with ⟨hc1, hm1⟩ | ⟨hc1, hm1⟩
    · skip
      refine WL.reset (i := 6) (v := .bool true) (congrArg Value.bool hc1) ?_
      refine O.fieldAddr fd24_1 rfl rfl rfl ?_
      refine O.load sc22 rfl rfl rfl (H.cell 0 rfl 1 _ rfl) ?_
      refine O.lenS Try.underlying22 (H.arg ha0_0) rfl rfl rfl ?_
      obtain ⟨t2, hy2, hm1⟩ := bind_some hm1
      refine O.call Try.call59 rfl rfl rfl (c_rate_within _ _ _ hy2) ?_
      rintro _ w3 hb3 rfl
      have H := H.ext hb3
      refine O.pick_true (v := (.bool t2)) rfl rfl rfl rfl ?_
      refine WL.nil ?_
      have hq : t2 = b2 := Option.some.inj (show some t2 = some b2 from hm1)
      subst hq
      exact ⟨rfl, rfl, H⟩
    · skip
      refine WL.reset (i := 6) (v := .bool false) (congrArg Value.bool hc1) ?_
      refine O.skip rfl rfl ?_
      refine O.skip rfl rfl ?_
      refine O.skip rfl rfl ?_
      refine O.skip rfl rfl ?_
      refine O.pick_false (v := (.bool false)) rfl rfl rfl rfl ?_
      refine WL.nil ?_
      have hq : false = b2 := Option.some.inj (show some false = some b2 from hm1)
      subst hq
      exact ⟨rfl, rfl, H⟩
  · skip
    rintro f w ⟨hf1, hf11, H⟩
    obtain ⟨u1, rfl⟩ : ∃ u1, f = (upd (upd u1 1 (.pointer (some ⟨b1, 0, none⟩))) 11 (.bool b2)) := ⟨f, by rw [upd_self hf1, upd_self hf11]⟩
    refine O.move (v := (.bool b2)) rfl rfl rfl ?_
    obtain ⟨b3, hm2, hm⟩ := bind_some hm
    refine WL.cut 5 (fun f w => f 17 = .bool b3 ∧ Inv w0 w [boxI b1 24 [(.string a0.Name), va0_0]]) ?_ ?_
    · skip
      rcases ite_some hm2 with ⟨hc2, hm2⟩ | ⟨hc2, hm2⟩
      · skip
        refine WL.reset (i := 12) (v := .bool true) (congrArg Value.bool hc2) ?_
        refine O.fieldAddr fd24_1 rfl rfl rfl ?_
        refine O.load sc22 rfl rfl rfl (H.cell 0 rfl 1 _ rfl) ?_
        obtain ⟨t3, hy3, hm2⟩ := bind_some hm2
        refine O.call Try.call60 rfl rfl rfl (c_slices_ContainsFunc_int _ _ (H.arg ha0_0) _ (fun x0 => rate_far x0) (fun w hw x0 _ hy => callsV_mk Try.call61 (c_rate_far x0 hy)) hy3) ?_
        rintro _ w4 hb4 rfl
        have H := H.ext hb4
        refine O.not rfl rfl rfl ?_
        refine O.pick_true (v := (.bool (!t3))) rfl rfl rfl rfl ?_
        refine WL.nil ?_
        have hq : (!t3) = b3 := Option.some.inj (show some (!t3) = some b3 from hm2)
        subst hq
        exact ⟨rfl, H⟩
      · skip
        refine WL.reset (i := 12) (v := .bool false) (congrArg Value.bool hc2) ?_
        refine O.skip rfl rfl ?_
        refine O.skip rfl rfl ?_
        refine O.skip rfl rfl ?_
        refine O.skip rfl rfl ?_
        refine O.pick_false (v := (.bool false)) rfl rfl rfl rfl ?_
        refine WL.nil ?_
        have hq : false = b3 := Option.some.inj (show some false = some b3 from hm2)
        subst hq
        exact ⟨rfl, H⟩
    · skip
      rintro f w ⟨hf17, H⟩
      obtain ⟨u2, rfl⟩ : ∃ u2, f = (upd u2 17 (.bool b3)) := ⟨f, by rw [upd_self hf17]⟩
      refine O.assign (v := (.bool b3)) rfl rfl rfl ?_
      refine WL.nil ?_
      refine W.ret ?_
      have hq : b3 = r0 := Option.some.inj (show some b3 = some r0 from hm)
      subst hq
      exact ends1 Try.results16 rfl ⟨_, rfl, H.base, rfl⟩

theorem it_rate_differences_c1 {wi : World} {Kp : World → Prop} (pc0 : Addr) (c0 : Int) (pc1 : Addr) (vc1 : Value) (c1 : List Int) {r : List Int} (hm : rate_differences_c1 c0 c1 = some r)
    (hk : ∀ w, Kp w → (∀ j c, (Flat.cells c0)[j]? = some c → w.cell? (pc0.add j) = some c) ∧ (∀ j c, [vc1][j]? = some c → w.cell? (pc1.add j) = some c) ∧ SliceR w vc1 c1) :
    IterAt Try.prog 91 #[.pointer (some pc0), .pointer (some pc1)] (repF (α := Int)) (fun ys => ys = r) Kp wi := by
  intro l J Jx hc h0
  refine calls_of_W Try.func91 rfl Try.ntmps91 (Nat.le_of_ble_eq_true rfl) ?_
  have H := InvI.start hc h0
  have hK := hk _ (InvI.kp H)
  unfold rate_differences_c1 at hm
  refine W.seq ?_
  refine W.region ?_
  refine O.load (q := pc0) (v := .int .i64 c0) sc3 rfl rfl rfl (hK.1 0 _ rfl) ?_
  refine O.assign (v := .int .i64 c0) rfl rfl rfl ?_
  refine WL.nil ?_
  refine W.block ?_
  refine W.loopL (l := r) (fun rem f w => ∃ ik : Nat, r.drop ik = rem ∧ ∃ n i, diffsFrom c0 c1 n i = some rem ∧ f 4 = .int .i64 i ∧ f 0 = .func (.yield l) #[] #[] ∧ f 1 = .pointer (some pc0) ∧ f 2 = .pointer (some pc1) ∧ ∃ C, InvI wi w [consI hc (r.take ik) C]) ?_ ?_ ?_
  · exact ⟨0, List.drop_zero, _, _, hm, rfl, rfl, rfl, rfl, _, H⟩
  · rintro y xs f w ⟨ik, hd0, n, i, hm, hf4, hf0, hf1, hf2, C, H⟩
    obtain ⟨u1, rfl⟩ : ∃ u1, f = (upd (upd (upd (upd u1 4 (.int .i64 i)) 0 (.func (.yield l) #[] #[])) 1 (.pointer (some pc0))) 2 (.pointer (some pc1))) := ⟨f, by rw [upd_self hf4, upd_self hf0, upd_self hf1, upd_self hf2]⟩
    have hK := hk _ (InvI.kp H)
    have htake : r.take (ik + 1) = r.take ik ++ [y] := by
      have hy : r[ik]? = some y := by have := congrArg (fun m => m[0]?) hd0; simpa using this
      rw [List.take_add_one, hy]; rfl
    have hsplit : r.take ik ++ y :: xs = r := by rw [← hd0, List.take_append_drop]
    cases n with
    | zero => cases hm
    | succ n =>
    rw [diffsFrom] at hm
    by_cases hlt : i < (c1.length : Int)
    · rw [if_pos hlt] at hm
      obtain ⟨x1, hx1, hm⟩ := bind_some hm
      obtain ⟨j1, hj1, hm⟩ := bind_some hm
      obtain ⟨x2, hx2, hm⟩ := bind_some hm
      obtain ⟨d1, hd1, hm⟩ := bind_some hm
      obtain ⟨i1, hi1, hm⟩ := bind_some hm
      obtain ⟨xs1, hxs, hm⟩ := bind_some hm
      obtain ⟨rfl, rfl⟩ : d1 = y ∧ xs1 = xs := by have := Option.some.inj hm; simpa using this
      refine W.seq ?_
      refine W.seq ?_
      refine W.region ?_
      refine O.move (v := .int .i64 i) rfl rfl rfl ?_
      refine O.load (q := pc1) (v := vc1) sc22 rfl rfl rfl (hK.2.1 0 _ rfl) ?_
      refine O.lenS Try.underlying22 hK.2.2 rfl rfl rfl ?_
      refine O.lss rfl rfl rfl rfl ?_
      refine WL.nil ?_
      refine W.cond_true (congrArg Value.bool (decide_eq_true hlt)) ?_
      refine W.skip ?_
      refine W.seq ?_
      refine W.block ?_
      refine W.seq ?_
      obtain ⟨wd, rfl⟩ : ∃ x, x = w := ⟨w, rfl⟩
      obtain ⟨p1, hp1, hr1⟩ := fix_indexAddr Try.underlying22 sz3 hK.2.2 hx1
      obtain ⟨p2, hp2, hr2⟩ := fix_indexAddr Try.underlying22 sz3 hK.2.2 hx2
      refine W.drawN 12 (fun f => f 0 = .func (.yield l) #[] #[] ∧ f 1 = .pointer (some pc0) ∧ f 2 = .pointer (some pc1) ∧ f 4 = .int .i64 i ∧ f 13 = .func (.yield l) #[] #[] ∧ f 24 = .int .i64 d1) fol (by kernel_rfl) ?_ ?_
      · refine PL.of (fun _ wk _ hx => O.move (v := .func (.yield l) #[] #[]) rfl rfl rfl (WL.nil ⟨rfl, hx⟩)) ?_
        refine PL.of (fun _ wk _ hx => O.load (q := pc1) (v := vc1) sc22 rfl rfl rfl ((hk _ (InvI.kp (H.ext hx))).2.1 0 _ rfl) (WL.nil ⟨rfl, hx⟩)) ?_
        refine PL.of (fun _ wk _ hx => O.move (v := .int .i64 i) rfl rfl rfl (WL.nil ⟨rfl, hx⟩)) ?_
        refine PL.of (fun _ wk _ hx => hr1 rfl rfl rfl rfl (WL.nil ⟨rfl, hx⟩)) ?_
        refine PL.of (fun _ wk _ hx => O.load sc3 rfl rfl rfl ((hp1.mono hx).flat 0 _ rfl) (WL.nil ⟨rfl, hx⟩)) ?_
        refine PL.of (fun _ wk _ hx => O.load (q := pc1) (v := vc1) sc22 rfl rfl rfl ((hk _ (InvI.kp (H.ext hx))).2.1 0 _ rfl) (WL.nil ⟨rfl, hx⟩)) ?_
        refine PL.of (fun _ wk _ hx => O.move (v := .int .i64 i) rfl rfl rfl (WL.nil ⟨rfl, hx⟩)) ?_
        refine PL.of (fun _ wk _ hx => O.load (q := pc0) (v := .int .i64 c0) sc3 rfl rfl rfl ((hk _ (InvI.kp (H.ext hx))).1 0 _ rfl) (WL.nil ⟨rfl, hx⟩)) ?_
        refine PL.of (fun _ wk _ hx => O.sub rfl rfl rfl rfl hj1 (WL.nil ⟨rfl, hx⟩)) ?_
        refine PL.of (fun _ wk _ hx => hr2 rfl rfl rfl rfl (WL.nil ⟨rfl, hx⟩)) ?_
        refine PL.of (fun _ wk _ hx => O.load sc3 rfl rfl rfl ((hp2.mono hx).flat 0 _ rfl) (WL.nil ⟨rfl, hx⟩)) ?_
        refine PL.of (fun _ wk _ hx => O.sub rfl rfl rfl rfl hd1 (WL.nil ⟨rfl, hx⟩)) ?_
        exact ⟨rfl, rfl, rfl, rfl, rfl, rfl⟩
      · rintro f wk ⟨hf0, hf1, hf2, hf4, h13, h24⟩ _ hx
        obtain ⟨u1, rfl⟩ : ∃ u1, f = (upd (upd (upd (upd (upd (upd u1 4 (.int .i64 i)) 0 (.func (.yield l) #[] #[])) 1 (.pointer (some pc0))) 2 (.pointer (some pc1))) 13 (.func (.yield l) #[] #[])) 24 (.int .i64 d1)) :=
          ⟨f, by rw [upd_self hf4, upd_self hf0, upd_self hf1, upd_self hf2, upd_self h13, upd_self h24]⟩
        refine O.yield d1 [.int .i64 d1] (H.ext hx) ⟨xs1, hsplit⟩ rfl rfl rfl rfl rfl ?_ ?_
        · intro w' C' H
          have hK := hk _ (InvI.kp H)
          refine O.not rfl rfl rfl ?_
          refine WL.nil ?_
          refine W.cond_false rfl ?_
          refine W.skip ?_
          refine W.region ?_
          refine O.move (v := .int .i64 i) rfl rfl rfl ?_
          refine O.load (q := pc0) (v := .int .i64 c0) sc3 rfl rfl rfl (hK.1 0 _ rfl) ?_
          refine O.add rfl rfl rfl rfl hi1 ?_
          refine O.assign (v := .int .i64 i1) rfl rfl rfl ?_
          refine WL.nil ?_
          exact ⟨ik + 1, drop_next hd0, _, _, hxs, rfl, rfl, rfl, rfl, _, by rw [htake]; exact H⟩
        · intro w' C' H
          refine O.not rfl rfl rfl ?_
          refine WL.nil ?_
          refine W.cond_true rfl ?_
          refine W.ret ?_
          exact ends0 Try.results91 ⟨_, _, rfl, .inr (H.items _ (List.mem_cons_self ..)).1⟩
    · rw [if_neg hlt] at hm
      cases hm
  · rintro f w ⟨ik, hd, n, i, hm, hf4, hf0, hf1, hf2, C, H⟩
    obtain ⟨u1, rfl⟩ : ∃ u1, f = (upd (upd (upd (upd u1 4 (.int .i64 i)) 0 (.func (.yield l) #[] #[])) 1 (.pointer (some pc0))) 2 (.pointer (some pc1))) := ⟨f, by rw [upd_self hf4, upd_self hf0, upd_self hf1, upd_self hf2]⟩
    have hK := hk _ (InvI.kp H)
    have hlt : ¬ i < (c1.length : Int) := by
      cases n with
      | zero => cases hm
      | succ n =>
        rw [diffsFrom] at hm
        intro hlt
        rw [if_pos hlt] at hm
        obtain ⟨_, _, hm⟩ := bind_some hm
        obtain ⟨_, _, hm⟩ := bind_some hm
        obtain ⟨_, _, hm⟩ := bind_some hm
        obtain ⟨_, _, hm⟩ := bind_some hm
        obtain ⟨_, _, hm⟩ := bind_some hm
        obtain ⟨_, _, hm⟩ := bind_some hm
        cases hm
    refine W.seq ?_
    refine W.seq ?_
    refine W.region ?_
    refine O.move (v := .int .i64 i) rfl rfl rfl ?_
    refine O.load (q := pc1) (v := vc1) sc22 rfl rfl rfl (hK.2.1 0 _ rfl) ?_
    refine O.lenS Try.underlying22 hK.2.2 rfl rfl rfl ?_
    refine O.lss rfl rfl rfl rfl ?_
    refine WL.nil ?_
    refine W.cond_false (congrArg Value.bool (decide_eq_false hlt)) ?_
    refine W.exit ?_
    refine xT rfl ?_
    refine ends0 Try.results91 ⟨_, C, rfl, .inl ⟨_, rfl, ?_⟩⟩
    have htk : r.take ik = r := List.take_of_length_le (by have := List.drop_eq_nil_iff.1 hd; omega)
    rw [htk] at H
    exact (H.items _ (List.mem_cons_self ..)).1

theorem c_rate_differences {w0 : World} (va0 : Value) (a0 : (List Int)) (ha0 : SliceR w0 va0 a0) (a1 : Int) :
    Calls Try.prog 57 #[va0, (.int .i64 a1)] w0 (Ret w0 fun w v => ∃ b2 : Nat, ∃ b1 : Nat, v = (.func (.func 91) #[] #[(.pointer (some ⟨b2, 0, none⟩)), (.pointer (some ⟨b1, 0, none⟩))]) ∧ Inv w0 w [boxI b2 3 [(.int .i64 a1)], boxI b1 22 [va0]]) := by
  refine calls_of_W Try.func57 rfl Try.ntmps57 (Nat.le_of_ble_eq_true rfl) ?_
  have H := Inv.start (w := w0)
  refine W.seq ?_
  refine W.region ?_
  refine O.box [va0] H rfl rfl rfl (SliceR.cells1 (H.arg ha0)) ?_
  intro b1 w1 H hb1
  refine O.box [(.int .i64 a1)] H rfl rfl rfl rfl ?_
  intro b2 w2 H hb2
  refine O.assign (v := .nilFunc) rfl rfl rfl ?_
  refine WL.nil ?_
  refine W.seq ?_
  refine W.region ?_
  refine O.makeFunc rfl rfl rfl rfl ?_
  refine O.assign (v := (.func (.func 91) #[] #[(.pointer (some ⟨b2, 0, none⟩)), (.pointer (some ⟨b1, 0, none⟩))])) rfl rfl rfl ?_
  refine WL.nil ?_
  refine W.ret ?_
  exact ends1 Try.results57 rfl ⟨_, rfl, H.base, ⟨_, _, rfl, H.pick [1, 0] [boxI b2 3 [(.int .i64 a1)], boxI b1 22 [va0]] rfl (by decide)⟩⟩

theorem c_slices_AppendSeq_int {w0 : World} (va1 : Value) (a1 : List Int) (ha1 : IterP Try.prog w0 va1 (repF (α := Int)) (fun ys => ys = a1)) {r0 : (List Int)} (hm : slices_AppendSeq_int a1 = some r0) :
    Calls Try.prog 93 #[(.slice none 0 0), va1] w0 (Ret w0 fun w v => OwnR w0 w v 3 r0) := by
  unfold slices_AppendSeq_int at hm
  refine calls_of_WM Try.func93 rfl Try.ntmps93 (Nat.le_of_ble_eq_true rfl) ?_
  have H := Inv.startM (w0 := w0)
  have hmk : (fr0 #[(.slice none 0 0), va1]).marks = [] := rfl
  refine W.seq ?_
  refine W.region ?_
  refine O.box [(.slice none 0 0)] H rfl rfl rfl rfl ?_
  intro b1 w1 H hb1
  have H := H.addNil (α := Int) (E := 3)
  have H := H.addNil (α := Int) (E := 3)
  refine O.assign (v := (.slice none 0 0)) rfl rfl rfl ?_
  refine WL.nil ?_
  refine W.seq ?_
  refine W.seq ?_
  refine W.region ?_
  refine O.move (v := va1) rfl rfl rfl ?_
  refine WL.nil ?_
  obtain ⟨s1, hm1, hm⟩ := bind_some hm
  refine W.via (fun f w => ∃ ms1 : List Nat, ∃ v4 : Value, f 2 = (.pointer (some ⟨b1, 0, none⟩)) ∧ f.marks = ms1 ∧ Inv w0 w [marksI ms1, boxI b1 22 [v4], ownI (α := Int) v4 3 s1]) ?_ ?_
  · skip
    refine W.block ?_
    obtain ⟨gf1, lb1, hvgf1, hcbgf1, hitgf1⟩ := ha1
    have H := H.keep [0, 1, 2] [marksI [], boxI b1 22 [(.slice none 0 0)], ownI (α := Int) (.slice none 0 0) 3 ([] : List Int)] rfl (by decide)
    refine W.rangeFuncL (α := Int) (σ := (List Int)) (X := (List Int)) (xs := a1) (rep := (repF (α := Int))) hm1 (fun s L => ∃ z2 : (List Int), ∃ v2 : Value, z2 = s ∧ L = [boxI b1 22 [v2], ownI (α := Int) v2 3 z2]) (fun y j L => match j with | some j => j = 0 ∧ (False) | none => False) (show ev _ _ = _ from hvgf1) hcbgf1 rfl (fun _ _ _ h => by rw [h]; rfl) (fun Kp W hs hk => hitgf1 W Kp (Nat.le_trans H.base.size hs) fun w1 hw => by obtain ⟨_, _, _, _, _, hI⟩ := hk w1 hw; exact hI.base) H ⟨_, (.slice none 0 0), rfl, rfl⟩ ?_ ?_ ?_ ?_
    · skip
      rintro _ rs lp lp2 iz x1 _ st _ w _ ⟨z2, v2, rfl, rfl⟩ rfl hm2 H
      change W _ _ _ _ _ _ _ (upd _ 7 (.int .i64 x1)) w
      refine W.region ?_
      refine O.assign (v := (.int .i64 x1)) rfl rfl rfl ?_
      refine WL.nil ?_
      refine ⟨_, H, fun w hsl H => ?_⟩
      refine W.block ?_
      refine W.region ?_
      refine O.load sc22 rfl rfl rfl (H.cell 3 rfl 0 _ rfl) ?_
      refine O.move (v := (.int .i64 x1)) rfl rfl rfl ?_
      refine O.buildSlice (α := Int) [(.int .i64 x1)] [x1] Try.underlying22 el3 H rfl rfl rfl rfl rfl rfl rfl ?_
      intro v5 w2 H hb2
      obtain ⟨t1, ht1, hm2⟩ := bind_some hm2
      refine O.append 4 Try.underlying22 el3 rfl H rfl (H.own 5 rfl) ht1 rfl rfl rfl rfl ?_
      intro v6 w3 H
      refine O.store 3 0 [v6] [v6] sz22 H rfl rfl rfl rfl rfl (SliceR.cells1 (H.own 4 rfl)) ⟨⟨rfl, rfl⟩, rfl⟩ (one_cons (SliceR.one (H.own 4 rfl)) one_nil) ?_
      intro w4 H
      refine WL.nil ?_
      have H := H.keep [0, 1, 2, 3, 4] [rs, lp2, marksI [], boxI b1 22 [v6], ownI (α := Int) v6 3 t1] rfl (by decide)
      obtain rfl := Option.some.inj hm2
      exact ⟨_, _, rfl, ⟨_, v6, rfl, rfl⟩, H⟩
    · skip
      rintro D1 _ _ w ⟨z2, v2, rfl, rfl⟩ hfin H
      have hq : z2 = s1 := hfin
      subst hq
      have hmk := congrArg (D1 :: ·) hmk
      exact ⟨_, v2, rfl, hmk, H⟩
    · skip
      rintro _ _ _ _ ⟨_, h⟩; exact h.elim
    · skip
      rintro _ _ _ h; exact h.elim
  · skip
    rintro f w ⟨ms1, v4, hf2, hmk, H⟩
    obtain ⟨u1, rfl⟩ : ∃ u1, f = (upd u1 2 (.pointer (some ⟨b1, 0, none⟩))) := ⟨f, by rw [upd_self hf2]⟩
    refine W.seq ?_
    refine W.region ?_
    refine O.load sc22 rfl rfl rfl (H.cell 1 rfl 0 _ rfl) ?_
    refine O.assign (v := v4) rfl rfl rfl ?_
    refine WL.nil ?_
    refine W.ret ?_
    refine endsM_mk H hmk ?_
    intro w H _
    have hq : s1 = r0 := Option.some.inj (show some s1 = some r0 from hm)
    subst hq
    exact ends1 Try.results93 rfl ⟨_, rfl, H.base, H.ownR 2 rfl⟩

theorem c_slices_Collect_int {w0 : World} (va0 : Value) (a0 : List Int) (ha0 : IterP Try.prog w0 va0 (repF (α := Int)) (fun ys => ys = a0)) {r0 : (List Int)} (hm : slices_Collect_int a0 = some r0) :
    Calls Try.prog 63 #[va0] w0 (Ret w0 fun w v => OwnR w0 w v 3 r0) := by
  unfold slices_Collect_int at hm
  refine calls_of_W Try.func63 rfl Try.ntmps63 (Nat.le_of_ble_eq_true rfl) ?_
  have H := Inv.start (w := w0)
  refine W.seq ?_
  refine W.region ?_
  have H := H.addNil (α := Int) (E := 3)
  refine O.assign (v := (.slice none 0 0)) rfl rfl rfl ?_
  refine WL.nil ?_
  refine W.seq ?_
  refine W.region ?_
  refine O.move (v := va0) rfl rfl rfl ?_
  obtain ⟨t1, hy1, hm⟩ := bind_some hm
  refine O.call Try.call93 rfl rfl rfl (c_slices_AppendSeq_int va0 a0 (ha0.mono H.base) hy1) ?_
  rintro v1 w1 hb1 ho1
  have H := H.addOwn hb1 ho1
  refine O.assign (v := v1) rfl rfl rfl ?_
  refine WL.nil ?_
  refine W.ret ?_
  have hq : t1 = r0 := Option.some.inj (show some t1 = some r0 from hm)
  subst hq
  exact ends1 Try.results63 rfl ⟨_, rfl, H.base, H.ownR 1 rfl⟩

theorem c_rate_Weekly {w0 : World} (va0_0 : Value) (a0 : GBox) (ha0_0 : SliceR w0 va0_0 a0.Errors) {r0 : (List Int)} {r1 : Int} (hm : rate_Weekly a0 = some (r0, r1)) :
    Calls Try.prog 33 #[(.agg #[(.string a0.Name), va0_0])] w0 (Ret w0 fun w v => ∃ vr0 : Value, v = .tuple #[vr0, (.int .i64 r1)] ∧ OwnR w0 w vr0 3 r0) := by
  unfold rate_Weekly at hm
  refine calls_of_W Try.func33 rfl Try.ntmps33 (Nat.le_of_ble_eq_true rfl) ?_
  have H := Inv.start (w := w0)
  refine W.seq ?_
  refine W.region ?_
  refine O.box [(.string a0.Name), va0_0] H rfl rfl rfl rfl ?_
  intro b1 w1 H hb1
  have H := H.addNil (α := Int) (E := 3)
  refine O.assign (v := (.slice none 0 0)) rfl rfl rfl ?_
  refine O.assign (v := (.int .i64 0)) rfl rfl rfl ?_
  refine WL.nil ?_
  refine W.seq ?_
  refine W.seq ?_
  refine W.region ?_
  refine O.loadA [(.string a0.Name), va0_0] ag24 rfl rfl rfl rfl (H.cell 0 rfl) ?_
  obtain ⟨t1, hy1, hm⟩ := bind_some hm
  refine O.call Try.call16 rfl rfl rfl (c_rate_ValidBox _ (GBox.mk a0.Name a0.Errors) (H.arg ha0_0) hy1) ?_
  rintro _ w2 hb2 rfl
  have H := H.ext hb2
  refine O.not rfl rfl rfl ?_
  refine WL.nil ?_
  rcases ite_some hm with ⟨hc1, hm⟩ | ⟨hc1, hm⟩
  · refine W.cond_true (congrArg Value.bool hc1) ?_
    refine W.seq ?_
    refine W.region ?_
    have H := H.addNil (α := Int) (E := 3)
    refine O.assign (v := (.slice none 0 0)) rfl rfl rfl ?_
    refine O.assign (v := (.int .i64 1)) rfl rfl rfl ?_
    refine WL.nil ?_
    refine W.ret ?_
    have hq : (([] : List Int), 1) = (r0, r1) := Option.some.inj (show some (([] : List Int), 1) = some (r0, r1) from hm)
    obtain ⟨he0, hq0⟩ := Prod.mk.inj hq; clear hq; subst he0
    subst hq0
    exact ends2 Try.results33 rfl rfl ⟨_, rfl, H.base, ⟨_, rfl, H.ownR 2 rfl⟩⟩
  · refine W.cond_false (congrArg Value.bool hc1) ?_
    refine W.skip ?_
    refine W.seq ?_
    refine W.region ?_
    refine O.fieldAddr fd24_1 rfl rfl rfl ?_
    refine O.load sc22 rfl rfl rfl (H.cell 0 rfl 1 _ rfl) ?_
    refine O.call Try.call57 rfl rfl rfl (c_rate_differences _ _ (H.arg ha0_0) _) ?_
    rintro _ w3 hb3 ⟨b2, b3, rfl, hM1⟩
    have H := H.addAll hb3 hM1
    obtain ⟨xs1, hxs1, hm⟩ := bind_some hm
    obtain ⟨t2, hy2, hm⟩ := bind_some hm
    refine O.call Try.call63 rfl rfl rfl (c_slices_Collect_int (.func (.func 91) #[] #[(.pointer (some ⟨b2, 0, none⟩)), (.pointer (some ⟨b3, 0, none⟩))]) xs1 (iterP_mk rfl Try.call91 fun _ _ hk => it_rate_differences_c1 _ 7 _ _ a0.Errors hxs1 fun w hw => ⟨cells_mono (H.cell 2 rfl) (hk w hw), cells_mono (H.cell 3 rfl) (hk w hw), (H.arg ha0_0).mono (hk w hw)⟩) hy2) ?_
    rintro v1 w4 hb4 ho1
    have H := H.addOwn hb4 ho1
    refine O.assign (v := v1) rfl rfl rfl ?_
    refine WL.nil ?_
    refine W.seq ?_
    refine W.seq ?_
    refine W.region ?_
    refine O.move (v := v1) rfl rfl rfl ?_
    refine O.lenS Try.underlying22 (H.own 4 rfl) rfl rfl rfl ?_
    refine O.eql rfl rfl rfl rfl ?_
    refine WL.nil ?_
    rcases ite_some hm with ⟨hc2, hm⟩ | ⟨hc2, hm⟩
    · refine W.cond_true (congrArg Value.bool hc2) ?_
      refine W.seq ?_
      refine W.region ?_
      have H := H.addNil (α := Int) (E := 3)
      refine O.assign (v := (.slice none 0 0)) rfl rfl rfl ?_
      refine O.assign (v := (.int .i64 8)) rfl rfl rfl ?_
      refine WL.nil ?_
      refine W.ret ?_
      have hq : (([] : List Int), 8) = (r0, r1) := Option.some.inj (show some (([] : List Int), 8) = some (r0, r1) from hm)
      obtain ⟨he0, hq0⟩ := Prod.mk.inj hq; clear hq; subst he0
      subst hq0
      exact ends2 Try.results33 rfl rfl ⟨_, rfl, H.base, ⟨_, rfl, H.ownR 5 rfl⟩⟩
    · refine W.cond_false (congrArg Value.bool hc2) ?_
      refine W.skip ?_
      refine W.seq ?_
      refine W.region ?_
      refine O.move (v := v1) rfl rfl rfl ?_
      refine O.assign (v := v1) rfl rfl rfl ?_
      refine O.assign (v := (.int .i64 0)) rfl rfl rfl ?_
      refine WL.nil ?_
      refine W.ret ?_
      have hq : (t2, 0) = (r0, r1) := Option.some.inj (show some (t2, 0) = some (r0, r1) from hm)
      obtain ⟨he0, hq0⟩ := Prod.mk.inj hq; clear hq; subst he0
      subst hq0
      exact ends2 Try.results33 rfl rfl ⟨_, rfl, H.base, ⟨_, rfl, H.ownR 4 rfl⟩⟩

theorem it_slices_Values_int_c1 {wi : World} {Kp : World → Prop} (pc0 : Addr) (vc0 : Value) (c0 : List Int) {r : List Int} (hm : slices_Values_int_c1 c0 = some r)
    (hk : ∀ w, Kp w → (∀ j c, [vc0][j]? = some c → w.cell? (pc0.add j) = some c) ∧ SliceR w vc0 c0) : IterAt Try.prog 90 #[.pointer (some pc0)] (repF (α := Int)) (fun ys => ys = r) Kp wi := by
  obtain rfl := Option.some.inj hm
  intro l J Jx hc h0
  refine calls_of_W Try.func90 rfl Try.ntmps90 (Nat.le_of_ble_eq_true rfl) ?_
  have H := InvI.start hc h0
  have hK := hk _ (InvI.kp H)
  refine W.seq ?_
  refine W.region ?_
  refine O.load (q := pc0) (v := vc0) sc22 rfl rfl rfl (hK.1 0 _ rfl) ?_
  refine O.lenS Try.underlying22 hK.2 rfl rfl rfl ?_
  refine O.move (v := (.int .i64 0)) rfl rfl rfl ?_
  refine WL.nil ?_
  refine W.block ?_
  refine W.loopL (l := c0) (fun rem f w => ∃ ik : Nat, c0.drop ik = rem ∧ f 7 = .int .i64 (ik : Int) ∧ f 6 = .int .i64 (c0.length : Int) ∧ f 5 = vc0 ∧ f 0 = .func (.yield l) #[] #[] ∧ ∃ C, InvI wi w [consI hc (c0.take ik) C]) ?_ ?_ ?_
  · exact ⟨0, List.drop_zero, rfl, rfl, rfl, rfl, _, H⟩
  · rintro y xs f w ⟨ik, hd, hf7, hf6, hf5, hf0, C, H⟩
    have hlt := drop_lt hd; have hix := drop_idx hd
    obtain ⟨u1, rfl⟩ : ∃ u1, f = (upd (upd (upd (upd u1 7 (.int .i64 (ik : Int))) 6 (.int .i64 (c0.length : Int))) 5 vc0) 0 (.func (.yield l) #[] #[])) := ⟨f, by rw [upd_self hf7, upd_self hf6, upd_self hf5, upd_self hf0]⟩
    have hK := hk _ (InvI.kp H)
    have hinc := addI_lt hlt hK.2.len_le
    have htake : c0.take (ik + 1) = c0.take ik ++ [y] := by
      have hy : c0[ik]? = some y := by have := congrArg (fun m => m[0]?) hd; simpa using this
      rw [List.take_add_one, hy]; rfl
    have hsplit : c0.take ik ++ y :: xs = c0 := by rw [← hd, List.take_append_drop]
    refine W.seq ?_
    refine W.region ?_
    refine O.lss rfl rfl rfl rfl ?_
    refine WL.nil ?_
    refine W.seq ?_
    refine W.cond_true (congrArg Value.bool (decide_eq_true hlt)) ?_
    refine W.skip ?_
    refine W.seq ?_
    refine W.block ?_
    refine W.seq ?_
    refine W.region ?_
    refine O.indexAddr Try.underlying22 sz3 hK.2 hix rfl rfl rfl rfl ?_
    intro p1 hp1
    refine O.load sc3 rfl rfl rfl (hp1.flat 0 _ rfl) ?_
    refine O.assign (v := (.int .i64 y)) rfl rfl rfl ?_
    refine WL.nil ?_
    refine W.seq ?_
    refine W.region ?_
    refine O.move (v := (.func (.yield l) #[] #[])) rfl rfl rfl ?_
    refine O.move (v := (.int .i64 y)) rfl rfl rfl ?_
    refine O.yield y [(.int .i64 y)] H ⟨xs, hsplit⟩ rfl rfl rfl rfl rfl ?_ ?_
    · intro w' C' H
      refine O.not rfl rfl rfl ?_
      refine WL.nil ?_
      refine W.cond_false rfl ?_
      refine W.skip ?_
      refine W.region ?_
      refine O.add rfl rfl rfl rfl hinc ?_
      refine O.move (v := .int .i64 ((ik : Int) + 1)) rfl rfl rfl ?_
      refine WL.nil ?_
      exact ⟨ik + 1, drop_next hd, rfl, rfl, rfl, rfl, _, by rw [htake]; exact H⟩
    · intro w' C' H
      refine O.not rfl rfl rfl ?_
      refine WL.nil ?_
      refine W.cond_true rfl ?_
      refine W.ret ?_
      exact ends0 Try.results90 ⟨_, _, rfl, .inr (H.items _ (List.mem_cons_self ..)).1⟩
  · rintro f w ⟨ik, hd, hf7, hf6, hf5, hf0, C, H⟩
    have hlt := drop_end hd
    obtain ⟨u1, rfl⟩ : ∃ u1, f = (upd (upd u1 7 (.int .i64 (ik : Int))) 6 (.int .i64 (c0.length : Int))) := ⟨f, by rw [upd_self hf7, upd_self hf6]⟩
    refine W.seq ?_
    refine W.region ?_
    refine O.lss rfl rfl rfl rfl ?_
    refine WL.nil ?_
    refine W.seq ?_
    refine W.cond_false (congrArg Value.bool (decide_eq_false hlt)) ?_
    refine W.exit ?_
    refine xT rfl ?_
    refine ends0 Try.results90 ⟨_, C, rfl, .inl ⟨_, rfl, ?_⟩⟩
    have htk : c0.take ik = c0 := List.take_of_length_le (by have := List.drop_eq_nil_iff.1 hd; omega)
    rw [htk] at H
    exact (H.items _ (List.mem_cons_self ..)).1

theorem c_slices_Values_int {w0 : World} (va0 : Value) (a0 : (List Int)) (ha0 : SliceR w0 va0 a0) :
    Calls Try.prog 56 #[va0] w0 (Ret w0 fun w v => ∃ b1 : Nat, v = (.func (.func 90) #[] #[(.pointer (some ⟨b1, 0, none⟩))]) ∧ Inv w0 w [boxI b1 22 [va0]]) := by
  refine calls_of_W Try.func56 rfl Try.ntmps56 (Nat.le_of_ble_eq_true rfl) ?_
  have H := Inv.start (w := w0)
  refine W.seq ?_
  refine W.region ?_
  refine O.box [va0] H rfl rfl rfl (SliceR.cells1 (H.arg ha0)) ?_
  intro b1 w1 H hb1
  refine O.assign (v := .nilFunc) rfl rfl rfl ?_
  refine WL.nil ?_
  refine W.seq ?_
  refine W.region ?_
  refine O.makeFunc rfl rfl rfl rfl ?_
  refine O.assign (v := (.func (.func 90) #[] #[(.pointer (some ⟨b1, 0, none⟩))])) rfl rfl rfl ?_
  refine WL.nil ?_
  refine W.ret ?_
  exact ends1 Try.results56 rfl ⟨_, rfl, H.base, ⟨_, rfl, H.pick [0] [boxI b1 22 [va0]] rfl (by decide)⟩⟩

set_option maxRecDepth 20000 in
theorem c_rate_ends_int {w0 : World} (va0 : Value) (a0 : List Int) (ha0 : IterP Try.prog w0 va0 (repF (α := Int)) (fun ys => ys = a0)) {r0 : Int} {r1 : Int} (hm : rate_ends_int a0 = some (r0, r1)) :
    Calls Try.prog 55 #[va0] w0 (Ret w0 fun _ v => v = .tuple #[(.int .i64 r0), (.int .i64 r1)]) := by
  unfold rate_ends_int at hm
  refine calls_of_WM Try.func55 rfl Try.ntmps55 (Nat.le_of_ble_eq_true rfl) ?_
  have H := Inv.startM (w0 := w0)
  have hmk : (fr0 #[va0]).marks = [] := rfl
  refine W.seq ?_
  refine W.region ?_
  refine O.alloc [(.int .i64 0)] ze3 H rfl rfl rfl ?_
  intro b1 w1 H hb1
  refine O.alloc [(.int .i64 0)] ze3 H rfl rfl rfl ?_
  intro b2 w2 H hb2
  refine WL.nil ?_
  refine W.seq ?_
  refine W.region ?_
  refine O.alloc [(.bool false)] ze4 H rfl rfl rfl ?_
  intro b3 w3 H hb3
  refine O.store 3 0 [(.bool true)] [(.bool true)] sz4 H rfl rfl rfl rfl rfl rfl ⟨⟨rfl, rfl⟩, rfl⟩ (one_cons rfl one_nil) ?_
  intro w4 H
  refine WL.nil ?_
  refine W.seq ?_
  refine W.seq ?_
  refine W.region ?_
  refine O.move (v := va0) rfl rfl rfl ?_
  refine WL.nil ?_
  obtain ⟨⟨s1, s2⟩, hm1, hm⟩ := bind_some hm
  refine W.via (fun f w => ∃ ms1 : List Nat, f 2 = (.pointer (some ⟨b1, 0, none⟩)) ∧ f 3 = (.pointer (some ⟨b2, 0, none⟩)) ∧ f.marks = ms1 ∧ Inv w0 w [marksI ms1, boxI b1 3 [(.int .i64 s1)], boxI b2 3 [(.int .i64 s2)]]) ?_ ?_
  · skip
    refine W.block ?_
    obtain ⟨gf1, lb1, hvgf1, hcbgf1, hitgf1⟩ := ha0
    refine W.rangeFuncL (α := Int) (σ := Int × Int × Bool) (X := Int × Int) (xs := a0) (rep := (repF (α := Int))) hm1 (fun s L => ∃ z4 : Int, ∃ z5 : Int, ∃ z6 : Bool, (z4, z5, z6) = s ∧ L = [boxI b1 3 [(.int .i64 z4)], boxI b2 3 [(.int .i64 z5)], boxI b3 4 [(.bool z6)]]) (fun y j L => match j with | some j => j = 0 ∧ (False) | none => False) (show ev _ _ = _ from hvgf1) hcbgf1 rfl (fun _ _ _ h => by rw [h]; rfl) (fun Kp W hs hk => hitgf1 W Kp (Nat.le_trans H.base.size hs) fun w1 hw => by obtain ⟨_, _, _, _, _, hI⟩ := hk w1 hw; exact hI.base) H ⟨_, _, _, rfl, rfl⟩ ?_ ?_ ?_ ?_
    · skip
      rintro _ rs lp lp2 iz x1 _ st _ w _ ⟨z4, z5, z6, rfl, rfl⟩ rfl hm2 H
      change W _ _ _ _ _ _ _ (upd _ 7 (.int .i64 x1)) w
      refine W.region ?_
      refine O.assign (v := (.int .i64 x1)) rfl rfl rfl ?_
      refine WL.nil ?_
      refine ⟨_, H, fun w hsl H => ?_⟩
      obtain ⟨⟨s3, s4, s5⟩, hm3, hm2⟩ := bind_some hm2
      refine W.via (fun f w => f 2 = (.pointer (some ⟨b1, 0, none⟩)) ∧ f 3 = (.pointer (some ⟨b2, 0, none⟩)) ∧ f 4 = (.pointer (some ⟨b3, 0, none⟩)) ∧ f 6 = va0 ∧ Inv w0 w [rs, lp2, marksI [], boxI b1 3 [(.int .i64 s3)], boxI b2 3 [(.int .i64 s4)], boxI b3 4 [(.bool s5)]]) ?_ ?_
      · skip
        refine W.block ?_
        refine W.seq ?_
        refine W.seq ?_
        refine W.region ?_
        refine O.load sc4 rfl rfl rfl (H.cell 5 rfl 0 _ rfl) ?_
        refine WL.nil ?_
        obtain ⟨⟨s6, s7, s8⟩, hm4, hm3⟩ := bind_some hm3
        refine W.via (fun f w => f 2 = (.pointer (some ⟨b1, 0, none⟩)) ∧ f 3 = (.pointer (some ⟨b2, 0, none⟩)) ∧ f 4 = (.pointer (some ⟨b3, 0, none⟩)) ∧ f 5 = (.int .i64 x1) ∧ f 6 = va0 ∧ Inv w0 w [rs, lp2, marksI [], boxI b1 3 [(.int .i64 s6)], boxI b2 3 [(.int .i64 s7)], boxI b3 4 [(.bool s8)]]) ?_ ?_
        · skip
          rcases ite_some hm4 with ⟨hc1, hm4⟩ | ⟨hc1, hm4⟩
          · refine W.cond_true (congrArg Value.bool hc1) ?_
            refine W.region ?_
            refine O.move (v := (.int .i64 x1)) rfl rfl rfl ?_
            refine O.move (v := (.int .i64 x1)) rfl rfl rfl ?_
            refine O.store 3 0 [(.int .i64 x1)] [(.int .i64 x1)] sz3 H rfl rfl rfl rfl rfl rfl ⟨⟨rfl, rfl⟩, rfl⟩ (one_cons rfl one_nil) ?_
            intro w5 H
            refine O.store 4 0 [(.int .i64 x1)] [(.int .i64 x1)] sz3 H rfl rfl rfl rfl rfl rfl ⟨⟨rfl, rfl⟩, rfl⟩ (one_cons rfl one_nil) ?_
            intro w6 H
            refine O.store 5 0 [(.bool false)] [(.bool false)] sz4 H rfl rfl rfl rfl rfl rfl ⟨⟨rfl, rfl⟩, rfl⟩ (one_cons rfl one_nil) ?_
            intro w7 H
            refine WL.nil ?_
            have hq : (x1, x1, false) = (s6, s7, s8) := Option.some.inj (show some (x1, x1, false) = some (s6, s7, s8) from hm4)
            obtain ⟨he0, hq0⟩ := Prod.mk.inj hq; clear hq; subst he0
            obtain ⟨he1, hq1⟩ := Prod.mk.inj hq0; clear hq0; subst he1
            subst hq1
            exact ⟨rfl, rfl, rfl, rfl, rfl, H⟩
          · refine W.cond_false (congrArg Value.bool hc1) ?_
            refine W.skip ?_
            have hq : (z4, z5, z6) = (s6, s7, s8) := Option.some.inj (show some (z4, z5, z6) = some (s6, s7, s8) from hm4)
            obtain ⟨he0, hq0⟩ := Prod.mk.inj hq; clear hq; subst he0
            obtain ⟨he1, hq1⟩ := Prod.mk.inj hq0; clear hq0; subst he1
            subst hq1
            exact ⟨rfl, rfl, rfl, rfl, rfl, H⟩
        · skip
          rintro f w ⟨hf2, hf3, hf4, hf5, hf6, H⟩
          obtain ⟨u1, rfl⟩ : ∃ u1, f = (upd (upd (upd (upd (upd u1 2 (.pointer (some ⟨b1, 0, none⟩))) 3 (.pointer (some ⟨b2, 0, none⟩))) 4 (.pointer (some ⟨b3, 0, none⟩))) 5 (.int .i64 x1)) 6 va0) := ⟨f, by rw [upd_self hf2, upd_self hf3, upd_self hf4, upd_self hf5, upd_self hf6]⟩
          refine W.drawS 6 [3, 4, 5] (fun w9 => Inv w0 w9 [rs, lp2, marksI [], boxI b1 3 [(.int .i64 (min s6 x1))], boxI b2 3 [(.int .i64 s7)], boxI b3 4 [(.bool s8)]]) (fun f => f 2 = (.pointer (some ⟨b1, 0, none⟩)) ∧ f 3 = (.pointer (some ⟨b2, 0, none⟩)) ∧ f 4 = (.pointer (some ⟨b3, 0, none⟩)) ∧ f 6 = va0 ∧ f 13 = (.int .i64 (min s6 x1)) ∧ f 16 = (.int .i64 (max s7 x1))) fol (by kernel_rfl) rfl ?_ ?_ ?_
          · skip
            refine PL.of (fun b w8 hb hx => match b, hb, hx with | none, _, hx => by have H := H.ext hx; exact O.load sc3 rfl rfl rfl (H.cell 3 rfl 0 _ rfl) (WL.nil ⟨rfl, hx⟩) | some _, hb, _ => absurd (hb rfl) (by decide)) ?_
            refine PL.of (fun b w8 hb hx => match b, hb, hx with | none, _, hx => by exact O.move (v := (.int .i64 x1)) rfl rfl rfl (WL.nil ⟨rfl, hx⟩) | some _, hb, _ => absurd (hb rfl) (by decide)) ?_
            refine PL.of (fun b w8 hb hx => match b, hb, hx with | none, _, hx => by exact O.min2 rfl rfl rfl rfl (WL.nil ⟨rfl, hx⟩) | some _, hb, _ => absurd (hb rfl) (by decide)) ?_
            refine PL.of (fun b w8 _ hx => match b, hx with | none, hx => by have H := H.ext hx; exact O.load sc3 rfl rfl rfl (H.cell 4 rfl 0 _ rfl) (WL.nil ⟨rfl, hx⟩) | some _, H => O.load sc3 rfl rfl rfl (H.cell 4 rfl 0 _ rfl) (WL.nil ⟨rfl, H⟩)) ?_
            refine PL.of (fun b w8 _ hx => match b, hx with | none, hx => by exact O.move (v := (.int .i64 x1)) rfl rfl rfl (WL.nil ⟨rfl, hx⟩) | some _, H => O.move (v := (.int .i64 x1)) rfl rfl rfl (WL.nil ⟨rfl, H⟩)) ?_
            refine PL.of (fun b w8 _ hx => match b, hx with | none, hx => by exact O.max2 rfl rfl rfl rfl (WL.nil ⟨rfl, hx⟩) | some _, H => O.max2 rfl rfl rfl rfl (WL.nil ⟨rfl, H⟩)) ?_
            refine PL.nil ?_
            exact ⟨rfl, rfl, rfl, rfl, rfl, rfl⟩
          · skip
            rintro f ⟨hf2, hf3, hf4, hf6, hf13, hf16⟩ w hx
            obtain ⟨u2, rfl⟩ : ∃ u2, f = (upd (upd (upd (upd (upd (upd u2 2 (.pointer (some ⟨b1, 0, none⟩))) 3 (.pointer (some ⟨b2, 0, none⟩))) 4 (.pointer (some ⟨b3, 0, none⟩))) 6 va0) 13 (.int .i64 (min s6 x1))) 16 (.int .i64 (max s7 x1))) := ⟨f, by rw [upd_self hf2, upd_self hf3, upd_self hf4, upd_self hf6, upd_self hf13, upd_self hf16]⟩
            have H := H.ext hx
            exact O.store 3 0 [(.int .i64 (min s6 x1))] [(.int .i64 (min s6 x1))] sz3 H rfl rfl rfl rfl rfl rfl ⟨⟨rfl, rfl⟩, rfl⟩ (one_cons rfl one_nil) (fun _ H => WL.nil ⟨rfl, H⟩)
          · skip
            rintro f w ⟨hf2, hf3, hf4, hf6, hf13, hf16⟩ hmd H
            obtain ⟨u3, rfl⟩ : ∃ u3, f = (upd (upd (upd (upd (upd (upd u3 2 (.pointer (some ⟨b1, 0, none⟩))) 3 (.pointer (some ⟨b2, 0, none⟩))) 4 (.pointer (some ⟨b3, 0, none⟩))) 6 va0) 13 (.int .i64 (min s6 x1))) 16 (.int .i64 (max s7 x1))) := ⟨f, by rw [upd_self hf2, upd_self hf3, upd_self hf4, upd_self hf6, upd_self hf13, upd_self hf16]⟩
            refine O.store 4 0 [(.int .i64 (max s7 x1))] [(.int .i64 (max s7 x1))] sz3 H rfl rfl rfl rfl rfl rfl ⟨⟨rfl, rfl⟩, rfl⟩ (one_cons rfl one_nil) ?_
            intro w8 H
            refine WL.nil ?_
            have hq : ((min s6 x1), (max s7 x1), s8) = (s3, s4, s5) := Option.some.inj (show some ((min s6 x1), (max s7 x1), s8) = some (s3, s4, s5) from hm3)
            obtain ⟨he0, hq0⟩ := Prod.mk.inj hq; clear hq; subst he0
            obtain ⟨he1, hq1⟩ := Prod.mk.inj hq0; clear hq0; subst he1
            subst hq1
            exact ⟨rfl, rfl, rfl, rfl, H⟩
      · skip
        rintro f w ⟨hf2, hf3, hf4, hf6, H⟩
        obtain ⟨u4, rfl⟩ : ∃ u4, f = (upd (upd (upd (upd u4 2 (.pointer (some ⟨b1, 0, none⟩))) 3 (.pointer (some ⟨b2, 0, none⟩))) 4 (.pointer (some ⟨b3, 0, none⟩))) 6 va0) := ⟨f, by rw [upd_self hf2, upd_self hf3, upd_self hf4, upd_self hf6]⟩
        obtain rfl := Option.some.inj hm2
        exact ⟨_, _, rfl, ⟨_, _, _, rfl, rfl⟩, H⟩
    · skip
      rintro D1 _ _ w ⟨z4, z5, z6, rfl, rfl⟩ hfin H
      have hq : (z4, z5) = (s1, s2) := hfin
      obtain ⟨he0, hq0⟩ := Prod.mk.inj hq; clear hq; subst he0
      subst hq0
      have H := H.keep [0, 1, 2] [marksI (D1 :: []), boxI b1 3 [(.int .i64 z4)], boxI b2 3 [(.int .i64 z5)]] rfl (by decide)
      have hmk := congrArg (D1 :: ·) hmk
      exact ⟨_, rfl, rfl, hmk, H⟩
    · skip
      rintro _ _ _ _ ⟨_, h⟩; exact h.elim
    · skip
      rintro _ _ _ h; exact h.elim
  · skip
    rintro f w ⟨ms1, hf2, hf3, hmk, H⟩
    obtain ⟨u5, rfl⟩ : ∃ u5, f = (upd (upd u5 2 (.pointer (some ⟨b1, 0, none⟩))) 3 (.pointer (some ⟨b2, 0, none⟩))) := ⟨f, by rw [upd_self hf2, upd_self hf3]⟩
    refine W.seq ?_
    refine W.drawS 2 [1] (fun w9 => Inv w0 w9 [marksI ms1, boxI b1 3 [(.int .i64 s1)], boxI b2 3 [(.int .i64 s2)]]) (fun f => f 2 = (.pointer (some ⟨b1, 0, none⟩)) ∧ f 3 = (.pointer (some ⟨b2, 0, none⟩)) ∧ f 17 = (.int .i64 s1) ∧ f 18 = (.int .i64 s2)) fol (by kernel_rfl) rfl ?_ ?_ ?_
    · skip
      refine PL.of (fun b w8 hb hx => match b, hb, hx with | none, _, hx => by have H := H.ext hx; exact O.load sc3 rfl rfl rfl (H.cell 1 rfl 0 _ rfl) (WL.nil ⟨rfl, hx⟩) | some _, hb, _ => absurd (hb rfl) (by decide)) ?_
      refine PL.of (fun b w8 _ hx => match b, hx with | none, hx => by have H := H.ext hx; exact O.load sc3 rfl rfl rfl (H.cell 2 rfl 0 _ rfl) (WL.nil ⟨rfl, hx⟩) | some _, H => O.load sc3 rfl rfl rfl (H.cell 2 rfl 0 _ rfl) (WL.nil ⟨rfl, H⟩)) ?_
      refine PL.nil ?_
      exact ⟨rfl, rfl, rfl, rfl⟩
    · skip
      rintro f ⟨hf2, hf3, hf17, hf18⟩ w hx
      obtain ⟨u6, rfl⟩ : ∃ u6, f = (upd (upd (upd (upd u6 2 (.pointer (some ⟨b1, 0, none⟩))) 3 (.pointer (some ⟨b2, 0, none⟩))) 17 (.int .i64 s1)) 18 (.int .i64 s2)) := ⟨f, by rw [upd_self hf2, upd_self hf3, upd_self hf17, upd_self hf18]⟩
      have H := H.ext hx
      exact O.store 1 0 [(.int .i64 s1)] [(.int .i64 s1)] sz3 H rfl rfl rfl rfl rfl rfl ⟨⟨rfl, rfl⟩, rfl⟩ (one_cons rfl one_nil) (fun _ H => WL.nil ⟨rfl, H⟩)
    · skip
      rintro f w ⟨hf2, hf3, hf17, hf18⟩ hmd H
      have hmk := hmd.trans hmk
      obtain ⟨u7, rfl⟩ : ∃ u7, f = (upd (upd (upd (upd u7 2 (.pointer (some ⟨b1, 0, none⟩))) 3 (.pointer (some ⟨b2, 0, none⟩))) 17 (.int .i64 s1)) 18 (.int .i64 s2)) := ⟨f, by rw [upd_self hf2, upd_self hf3, upd_self hf17, upd_self hf18]⟩
      refine O.store 2 0 [(.int .i64 s2)] [(.int .i64 s2)] sz3 H rfl rfl rfl rfl rfl rfl ⟨⟨rfl, rfl⟩, rfl⟩ (one_cons rfl one_nil) ?_
      intro w9 H
      refine WL.nil ?_
      refine W.ret ?_
      refine endsM_mk H hmk ?_
      intro w H _
      have hq : (s1, s2) = (r0, r1) := Option.some.inj (show some (s1, s2) = some (r0, r1) from hm)
      obtain ⟨he0, hq0⟩ := Prod.mk.inj hq; clear hq; subst he0
      subst hq0
      exact ends2 Try.results55 ⟨_, rfl, run_loadVar_scalar sc3 (H.cell 1 rfl 0 _ rfl)⟩ ⟨_, rfl, run_loadVar_scalar sc3 (H.cell 2 rfl 0 _ rfl)⟩ ⟨_, rfl, H.base, rfl⟩

set_option maxRecDepth 20000 in
theorem c_rate_Trial {w0 : World} (va0_0 : Value) (a0 : GBox) (ha0_0 : SliceR w0 va0_0 a0.Errors) {r0 : GTrial} {r1 : Int} (hm : rate_Trial a0 = some (r0, r1)) :
    Calls Try.prog 15 #[(.agg #[(.string a0.Name), va0_0])] w0 (Ret w0 fun _ v => v = .tuple #[(.agg (Flat.cells r0).toArray), (.int .i64 r1)]) := by
  unfold rate_Trial at hm
  refine calls_of_WM Try.func15 rfl Try.ntmps15 (Nat.le_of_ble_eq_true rfl) ?_
  have H := Inv.startM (w0 := w0)
  have hmk : (fr0 #[(.agg #[(.string a0.Name), va0_0])]).marks = [] := rfl
  refine W.seq ?_
  refine W.region ?_
  refine O.box [(.string a0.Name), va0_0] H rfl rfl rfl rfl ?_
  intro b1 w1 H hb1
  refine O.alloc [(.string ByteArray.empty), (.int .i64 0), (.int .i64 0), (.int .i64 0), (.int .i64 0)] ze28 H rfl rfl rfl ?_
  intro b2 w2 H hb2
  refine O.assign (v := (.int .i64 0)) rfl rfl rfl ?_
  refine WL.nil ?_
  refine W.seq ?_
  refine W.region ?_
  refine O.loadA [(.string a0.Name), va0_0] ag24 rfl rfl rfl rfl (H.cell 1 rfl) ?_
  obtain ⟨⟨t1, t2⟩, hy1, hm⟩ := bind_some hm
  refine O.call Try.call33 rfl rfl rfl (c_rate_Weekly _ (GBox.mk a0.Name a0.Errors) (H.arg ha0_0) hy1) ?_
  rintro _ w3 hb3 ⟨v1, rfl, ho1⟩
  have H := H.addOwn hb3 ho1
  refine O.move (v := (.tuple #[v1, (.int .i64 t2)])) rfl rfl rfl ?_
  refine O.extract (v := v1) rfl rfl rfl rfl ?_
  refine O.extract (v := (.int .i64 t2)) rfl rfl rfl rfl ?_
  refine O.assign (v := v1) rfl rfl rfl ?_
  refine O.assign (v := (.int .i64 t2)) rfl rfl rfl ?_
  refine WL.nil ?_
  refine W.seq ?_
  refine W.block ?_
  refine W.seq ?_
  refine W.region ?_
  refine O.move (v := (.int .i64 t2)) rfl rfl rfl ?_
  refine O.neq rfl rfl rfl rfl ?_
  refine O.assign (v := (.bool (t2 != 0))) rfl rfl rfl ?_
  refine WL.nil ?_
  rcases ite_some hm with ⟨hc1, hm⟩ | ⟨hc1, hm⟩
  · refine W.cond_true (congrArg Value.bool hc1) ?_
    refine W.seq ?_
    refine W.region ?_
    refine O.build (v := (.agg (Flat.cells (GTrial.mk ByteArray.empty 0 0 0 0)).toArray)) (fun w => bd28_  w) rfl rfl rfl ?_
    refine O.move (v := (.int .i64 t2)) rfl rfl rfl ?_
    refine O.store 2 0 [(.string ByteArray.empty), (.int .i64 0), (.int .i64 0), (.int .i64 0), (.int .i64 0)] [(.string ByteArray.empty), (.int .i64 0), (.int .i64 0), (.int .i64 0), (.int .i64 0)] sz28 H rfl rfl rfl rfl rfl rfl ⟨⟨rfl, rfl⟩, rfl⟩ (one_cons rfl (one_cons rfl (one_cons rfl (one_cons rfl (one_cons rfl one_nil))))) ?_
    intro w4 H
    refine O.assign (v := (.int .i64 t2)) rfl rfl rfl ?_
    refine WL.nil ?_
    refine W.ret ?_
    refine endsM_mk H hmk ?_
    intro w H _
    have hq : ((GTrial.mk ByteArray.empty 0 0 0 0), t2) = (r0, r1) := Option.some.inj (show some ((GTrial.mk ByteArray.empty 0 0 0 0), t2) = some (r0, r1) from hm)
    obtain ⟨he0, hq0⟩ := Prod.mk.inj hq; clear hq; subst he0
    subst hq0
    exact ends2 Try.results15 ⟨_, rfl, run_loadVar_agg ag28 rfl (H.cell 2 rfl)⟩ rfl ⟨_, rfl, H.base, rfl⟩
  · refine W.cond_false (congrArg Value.bool hc1) ?_
    refine W.seq ?_
    refine W.region ?_
    refine O.move (v := v1) rfl rfl rfl ?_
    refine O.lenS Try.underlying22 (H.own 3 rfl) rfl rfl rfl ?_
    refine O.lss rfl rfl rfl rfl ?_
    refine O.assign (v := (.bool (decide (((t1.length : Nat) : Int) < 2)))) rfl rfl rfl ?_
    refine WL.nil ?_
    rcases ite_some hm with ⟨hc2, hm⟩ | ⟨hc2, hm⟩
    · refine W.cond_true (congrArg Value.bool hc2) ?_
      refine W.seq ?_
      refine W.region ?_
      refine O.build (v := (.agg (Flat.cells (GTrial.mk ByteArray.empty 0 0 0 0)).toArray)) (fun w => bd28_  w) rfl rfl rfl ?_
      refine O.store 2 0 [(.string ByteArray.empty), (.int .i64 0), (.int .i64 0), (.int .i64 0), (.int .i64 0)] [(.string ByteArray.empty), (.int .i64 0), (.int .i64 0), (.int .i64 0), (.int .i64 0)] sz28 H rfl rfl rfl rfl rfl rfl ⟨⟨rfl, rfl⟩, rfl⟩ (one_cons rfl (one_cons rfl (one_cons rfl (one_cons rfl (one_cons rfl one_nil))))) ?_
      intro w5 H
      refine O.assign (v := (.int .i64 8)) rfl rfl rfl ?_
      refine WL.nil ?_
      refine W.ret ?_
      refine endsM_mk H hmk ?_
      intro w H _
      have hq : ((GTrial.mk ByteArray.empty 0 0 0 0), 8) = (r0, r1) := Option.some.inj (show some ((GTrial.mk ByteArray.empty 0 0 0 0), 8) = some (r0, r1) from hm)
      obtain ⟨he0, hq0⟩ := Prod.mk.inj hq; clear hq; subst he0
      subst hq0
      exact ends2 Try.results15 ⟨_, rfl, run_loadVar_agg ag28 rfl (H.cell 2 rfl)⟩ rfl ⟨_, rfl, H.base, rfl⟩
    · refine W.cond_false (congrArg Value.bool hc2) ?_
      refine W.skip ?_
      refine W.seq ?_
      refine W.region ?_
      refine O.fieldAddr fd24_0 rfl rfl rfl ?_
      refine O.load sc9 rfl rfl rfl (H.cell 1 rfl 0 _ rfl) ?_
      refine O.build (v := (.agg (Flat.cells (GTrial.mk a0.Name 0 0 0 0)).toArray)) (fun w => bd28_0 _ w) rfl rfl rfl ?_
      refine O.alloc [(.string ByteArray.empty), (.int .i64 0), (.int .i64 0), (.int .i64 0), (.int .i64 0)] ze28 H rfl rfl rfl ?_
      intro b3 w6 H hb4
      refine O.store 4 0 [(.string a0.Name), (.int .i64 0), (.int .i64 0), (.int .i64 0), (.int .i64 0)] [(.string a0.Name), (.int .i64 0), (.int .i64 0), (.int .i64 0), (.int .i64 0)] sz28 H rfl rfl rfl rfl rfl rfl ⟨⟨rfl, rfl⟩, rfl⟩ (one_cons rfl (one_cons rfl (one_cons rfl (one_cons rfl (one_cons rfl one_nil))))) ?_
      intro w7 H
      refine WL.nil ?_
      refine W.seq ?_
      refine W.region ?_
      refine O.move (v := v1) rfl rfl rfl ?_
      refine O.call Try.call56 rfl rfl rfl (c_slices_Values_int _ _ (H.own 3 rfl)) ?_
      rintro _ w8 hb5 ⟨b4, rfl, hM1⟩
      have H := H.addAll hb5 hM1
      obtain ⟨xs1, hxs1, hm⟩ := bind_some hm
      obtain ⟨⟨t3, t4⟩, hy2, hm⟩ := bind_some hm
      refine O.call Try.call55 rfl rfl rfl (c_rate_ends_int (.func (.func 90) #[] #[(.pointer (some ⟨b4, 0, none⟩))]) xs1 (iterP_mk rfl Try.call90 fun _ _ hk => it_slices_Values_int_c1 _ _ t1 hxs1 fun w hw => ⟨cells_mono (H.cell 5 rfl) (hk w hw), (H.own 3 rfl).mono (hk w hw)⟩) hy2) ?_
      rintro _ w9 hb6 rfl
      have H := H.ext hb6
      refine O.move (v := (.tuple #[(.int .i64 t3), (.int .i64 t4)])) rfl rfl rfl ?_
      refine O.extract (v := (.int .i64 t3)) rfl rfl rfl rfl ?_
      refine O.extract (v := (.int .i64 t4)) rfl rfl rfl rfl ?_
      refine O.fieldAddr fd28_1 rfl rfl rfl ?_
      refine O.store 4 1 [(.int .i64 t3)] [(.string a0.Name), (.int .i64 t3), (.int .i64 0), (.int .i64 0), (.int .i64 0)] sz3 H rfl rfl rfl rfl rfl rfl ⟨⟨rfl, rfl⟩, rfl⟩ (one_cons rfl one_nil) ?_
      intro w10 H
      refine O.fieldAddr fd28_2 rfl rfl rfl ?_
      refine O.store 4 2 [(.int .i64 t4)] [(.string a0.Name), (.int .i64 t3), (.int .i64 t4), (.int .i64 0), (.int .i64 0)] sz3 H rfl rfl rfl rfl rfl rfl ⟨⟨rfl, rfl⟩, rfl⟩ (one_cons rfl one_nil) ?_
      intro w11 H
      refine WL.nil ?_
      refine W.seq ?_
      refine W.seq ?_
      refine W.region ?_
      refine O.move (v := v1) rfl rfl rfl ?_
      refine O.call Try.call57 rfl rfl rfl (c_rate_differences _ _ (H.own 3 rfl) _) ?_
      rintro _ w12 hb7 ⟨b5, b6, rfl, hM2⟩
      have H := H.addAll hb7 hM2
      refine WL.nil ?_
      obtain ⟨xs2, hxs2, hm⟩ := bind_some hm
      obtain ⟨s1, hm1, hm⟩ := bind_some hm
      refine W.via (fun f w => ∃ ms1 : List Nat, f 2 = (.pointer (some ⟨b2, 0, none⟩)) ∧ f 6 = (.pointer (some ⟨b3, 0, none⟩)) ∧ f.marks = ms1 ∧ Inv w0 w [marksI ms1, boxI b2 28 [(.string ByteArray.empty), (.int .i64 0), (.int .i64 0), (.int .i64 0), (.int .i64 0)], boxI b3 28 [(.string a0.Name), (.int .i64 t3), (.int .i64 t4), (.int .i64 s1), (.int .i64 0)]]) ?_ ?_
      · skip
        refine W.block ?_
        have H := H.keep [0, 2, 3, 4, 6, 7] [marksI [], boxI b2 28 [(.string ByteArray.empty), (.int .i64 0), (.int .i64 0), (.int .i64 0), (.int .i64 0)], ownI (α := Int) v1 3 t1, boxI b3 28 [(.string a0.Name), (.int .i64 t3), (.int .i64 t4), (.int .i64 0), (.int .i64 0)], boxI b5 3 [(.int .i64 1)], boxI b6 22 [v1]] rfl (by decide)
        refine W.rangeFuncL (α := Int) (σ := Int) (X := Int) (xs := xs2) (rep := (repF (α := Int))) hm1 (fun s L => ∃ z2 : Int, z2 = s ∧ L = [boxI b2 28 [(.string ByteArray.empty), (.int .i64 0), (.int .i64 0), (.int .i64 0), (.int .i64 0)], ownI (α := Int) v1 3 t1, boxI b3 28 [(.string a0.Name), (.int .i64 t3), (.int .i64 t4), (.int .i64 z2), (.int .i64 0)], boxI b5 3 [(.int .i64 1)], boxI b6 22 [v1]]) (fun y j L => match j with | some j => j = 1 ∧ (False) | none => False) rfl Try.call91 rfl (fun _ _ _ h => by rw [h]; rfl) (fun Kp W hs hk => it_rate_differences_c1 _ 1 _ _ t1 hxs2 fun w1 hw => by obtain ⟨_, _, _, _, ⟨_, _, rfl⟩, H⟩ := hk w1 hw; exact ⟨H.cell 6 rfl, H.cell 7 rfl, (H.own 4 rfl)⟩) H ⟨_, rfl, rfl⟩ ?_ ?_ ?_ ?_
        · skip
          rintro _ rs lp lp2 iz x1 _ st _ w _ ⟨z2, rfl, rfl⟩ rfl hm2 H
          change W _ _ _ _ _ _ _ (upd _ 36 (.int .i64 x1)) w
          refine W.region ?_
          refine O.assign (v := (.int .i64 x1)) rfl rfl rfl ?_
          refine WL.nil ?_
          refine ⟨_, H, fun w hsl H => ?_⟩
          refine W.block ?_
          refine W.region ?_
          refine O.fieldAddr fd28_3 rfl rfl rfl ?_
          refine O.load sc3 rfl rfl rfl (H.cell 5 rfl 3 _ rfl) ?_
          refine O.move (v := (.int .i64 x1)) rfl rfl rfl ?_
          refine O.move (v := (.int .i64 x1)) rfl rfl rfl ?_
          refine O.negW rfl rfl rfl ?_
          refine O.max3 rfl rfl rfl rfl rfl ?_
          refine O.fieldAddr fd28_3 rfl rfl rfl ?_
          refine O.store 5 3 [(.int .i64 (max (max z2 x1) (negW x1)))] [(.string a0.Name), (.int .i64 t3), (.int .i64 t4), (.int .i64 (max (max z2 x1) (negW x1))), (.int .i64 0)] sz3 H rfl rfl rfl rfl rfl rfl ⟨⟨rfl, rfl⟩, rfl⟩ (one_cons rfl one_nil) ?_
          intro w13 H
          refine WL.nil ?_
          obtain rfl := Option.some.inj hm2
          exact ⟨_, _, rfl, ⟨_, rfl, rfl⟩, H⟩
        · skip
          rintro D1 _ _ w ⟨z2, rfl, rfl⟩ hfin H
          have hq : z2 = s1 := hfin
          subst hq
          have H := H.keep [0, 1, 3] [marksI (D1 :: []), boxI b2 28 [(.string ByteArray.empty), (.int .i64 0), (.int .i64 0), (.int .i64 0), (.int .i64 0)], boxI b3 28 [(.string a0.Name), (.int .i64 t3), (.int .i64 t4), (.int .i64 z2), (.int .i64 0)]] rfl (by decide)
          have hmk := congrArg (D1 :: ·) hmk
          exact ⟨_, rfl, rfl, hmk, H⟩
        · skip
          rintro _ _ _ _ ⟨_, h⟩; exact h.elim
        · skip
          rintro _ _ _ h; exact h.elim
      · skip
        rintro f w ⟨ms1, hf2, hf6, hmk, H⟩
        obtain ⟨u1, rfl⟩ : ∃ u1, f = (upd (upd u1 2 (.pointer (some ⟨b2, 0, none⟩))) 6 (.pointer (some ⟨b3, 0, none⟩))) := ⟨f, by rw [upd_self hf2, upd_self hf6]⟩
        refine W.seq ?_
        refine W.region ?_
        refine O.fieldAddr fd28_2 rfl rfl rfl ?_
        refine O.load sc3 rfl rfl rfl (H.cell 2 rfl 2 _ rfl) ?_
        refine O.fieldAddr fd28_1 rfl rfl rfl ?_
        refine O.load sc3 rfl rfl rfl (H.cell 2 rfl 1 _ rfl) ?_
        obtain ⟨t5, ht5, hm⟩ := bind_some hm
        refine O.sub rfl rfl rfl rfl ht5 ?_
        refine O.fieldAddr fd28_3 rfl rfl rfl ?_
        refine O.load sc3 rfl rfl rfl (H.cell 2 rfl 3 _ rfl) ?_
        obtain ⟨t6, ht6, hm⟩ := bind_some hm
        refine O.mul rfl rfl rfl rfl ht6 ?_
        obtain ⟨t7, ht7, hm⟩ := bind_some hm
        refine O.add rfl rfl rfl rfl ht7 ?_
        refine O.fieldAddr fd28_4 rfl rfl rfl ?_
        refine O.store 2 4 [(.int .i64 t7)] [(.string a0.Name), (.int .i64 t3), (.int .i64 t4), (.int .i64 s1), (.int .i64 t7)] sz3 H rfl rfl rfl rfl rfl rfl ⟨⟨rfl, rfl⟩, rfl⟩ (one_cons rfl one_nil) ?_
        intro w14 H
        refine WL.nil ?_
        refine W.seq ?_
        refine W.region ?_
        refine O.loadA [(.string a0.Name), (.int .i64 t3), (.int .i64 t4), (.int .i64 s1), (.int .i64 t7)] ag28 rfl rfl rfl rfl (H.cell 2 rfl) ?_
        refine O.store 1 0 [(.string a0.Name), (.int .i64 t3), (.int .i64 t4), (.int .i64 s1), (.int .i64 t7)] [(.string a0.Name), (.int .i64 t3), (.int .i64 t4), (.int .i64 s1), (.int .i64 t7)] sz28 H rfl rfl rfl rfl rfl rfl ⟨⟨rfl, rfl⟩, rfl⟩ (one_cons rfl (one_cons rfl (one_cons rfl (one_cons rfl (one_cons rfl one_nil))))) ?_
        intro w15 H
        refine O.assign (v := (.int .i64 0)) rfl rfl rfl ?_
        refine WL.nil ?_
        refine W.ret ?_
        refine endsM_mk H hmk ?_
        intro w H _
        have hq : ((GTrial.mk a0.Name t3 t4 s1 t7), 0) = (r0, r1) := Option.some.inj (show some ((GTrial.mk a0.Name t3 t4 s1 t7), 0) = some (r0, r1) from hm)
        obtain ⟨he0, hq0⟩ := Prod.mk.inj hq; clear hq; subst he0
        subst hq0
        exact ends2 Try.results15 ⟨_, rfl, run_loadVar_agg ag28 rfl (H.cell 1 rfl)⟩ rfl ⟨_, rfl, H.base, rfl⟩

theorem c_rate_Arc {w0 : World} (a0 : Int) {r0 : Int} {r1 : Int} {r2 : Int} (hm : rate_Arc a0 = some (r0, r1, r2)) :
    Calls Try.prog 40 #[(.int .i64 a0)] w0 (Ret w0 fun _ v => v = .tuple #[(.int .i64 r0), (.int .i64 r1), (.int .i64 r2)]) := by
  unfold rate_Arc at hm
  refine calls_of_W Try.func40 rfl Try.ntmps40 (Nat.le_of_ble_eq_true rfl) ?_
  have H := Inv.start (w := w0)
  refine W.seq ?_
  refine W.region ?_
  refine O.assign (v := (.int .i64 0)) rfl rfl rfl ?_
  refine O.assign (v := (.int .i64 0)) rfl rfl rfl ?_
  refine O.assign (v := (.int .i64 0)) rfl rfl rfl ?_
  refine WL.nil ?_
  refine W.seq ?_
  refine W.seq ?_
  refine W.region ?_
  refine O.move (v := (.int .i64 a0)) rfl rfl rfl ?_
  obtain ⟨t1, hy1, hm⟩ := bind_some hm
  refine O.call Try.call59 rfl rfl rfl (c_rate_within _ _ _ hy1) ?_
  rintro _ w1 hb1 rfl
  have H := H.ext hb1
  refine O.not rfl rfl rfl ?_
  refine WL.nil ?_
  rcases ite_some hm with ⟨hc1, hm⟩ | ⟨hc1, hm⟩
  · refine W.cond_true (congrArg Value.bool hc1) ?_
    refine W.seq ?_
    refine W.region ?_
    refine O.assign (v := (.int .i64 0)) rfl rfl rfl ?_
    refine O.assign (v := (.int .i64 0)) rfl rfl rfl ?_
    refine O.assign (v := (.int .i64 7)) rfl rfl rfl ?_
    refine WL.nil ?_
    refine W.ret ?_
    have hq : (0, 0, 7) = (r0, r1, r2) := Option.some.inj (show some (0, 0, 7) = some (r0, r1, r2) from hm)
    obtain ⟨he0, hq0⟩ := Prod.mk.inj hq; clear hq; subst he0
    obtain ⟨he1, hq1⟩ := Prod.mk.inj hq0; clear hq0; subst he1
    subst hq1
    exact ends3 Try.results40 rfl rfl rfl ⟨_, rfl, H.base, rfl⟩
  · refine W.cond_false (congrArg Value.bool hc1) ?_
    refine W.skip ?_
    refine W.seq ?_
    refine W.region ?_
    refine O.move (v := (.int .i64 a0)) rfl rfl rfl ?_
    refine O.move (v := (.int .i64 a0)) rfl rfl rfl ?_
    refine O.negW rfl rfl rfl ?_
    refine O.max2 rfl rfl rfl rfl ?_
    obtain ⟨t2, ht2, hm⟩ := bind_some hm
    refine O.mul rfl rfl rfl rfl ht2 ?_
    refine O.assign (v := (.int .i64 t2)) rfl rfl rfl ?_
    refine WL.nil ?_
    refine W.seq ?_
    refine W.region ?_
    refine O.move (v := (.int .i64 t2)) rfl rfl rfl ?_
    obtain ⟨t3, ht3, hm⟩ := bind_some hm
    refine O.quo rfl rfl rfl rfl ht3 ?_
    refine O.move (v := (.int .i64 t2)) rfl rfl rfl ?_
    obtain ⟨t4, ht4, hm⟩ := bind_some hm
    refine O.rem rfl rfl rfl rfl ht4 ?_
    refine O.assign (v := (.int .i64 t3)) rfl rfl rfl ?_
    refine O.assign (v := (.int .i64 t4)) rfl rfl rfl ?_
    refine O.assign (v := (.int .i64 0)) rfl rfl rfl ?_
    refine WL.nil ?_
    refine W.ret ?_
    have hq : (t3, t4, 0) = (r0, r1, r2) := Option.some.inj (show some (t3, t4, 0) = some (r0, r1, r2) from hm)
    obtain ⟨he0, hq0⟩ := Prod.mk.inj hq; clear hq; subst he0
    obtain ⟨he1, hq1⟩ := Prod.mk.inj hq0; clear hq0; subst he1
    subst hq1
    exact ends3 Try.results40 rfl rfl rfl ⟨_, rfl, H.base, rfl⟩

theorem c_noongunlaw06_awake {w0 : World}  {r0 : Bool} (hm : noongunlaw06_awake  = some r0) :
    Calls Try.prog 14 #[] w0 (Ret w0 fun _ v => v = (.bool r0)) := by
  unfold noongunlaw06_awake at hm
  refine calls_of_W Try.func14 rfl Try.ntmps14 (Nat.le_of_ble_eq_true rfl) ?_
  have H := Inv.start (w := w0)
  refine W.seq ?_
  refine W.region ?_
  refine O.assign (v := (.bool false)) rfl rfl rfl ?_
  refine WL.nil ?_
  refine W.seq ?_
  refine W.region ?_
  refine O.buildSlice (α := Int) [(.int .i64 0), (.int .i64 7), (.int .i64 14), (.int .i64 21), (.int .i64 28), (.int .i64 35), (.int .i64 42), (.int .i64 49), (.int .i64 57), (.int .i64 65), (.int .i64 73), (.int .i64 81), (.int .i64 89), (.int .i64 97), (.int .i64 105)] [0, 7, 14, 21, 28, 35, 42, 49, 57, 65, 73, 81, 89, 97, 105] Try.underlying22 el3 H rfl rfl rfl rfl rfl rfl rfl ?_
  intro v1 w1 H hb1
  obtain ⟨ad1, cap1, hvad1, _⟩ := (H.own 0 rfl).shape
  refine O.build (v := (.agg #[(.string (bs [97])), v1])) (fun w => by rw [hvad1]; exact bd24_0_1 _ _ _ _ w) rfl rfl rfl ?_
  obtain ⟨⟨t1, t2⟩, hy1, hm⟩ := bind_some hm
  refine O.call Try.call15 rfl rfl rfl (c_rate_Trial _ (GBox.mk (bs [97]) ([0, 7, 14, 21, 28, 35, 42, 49, 57, 65, 73, 81, 89, 97, 105] : List Int)) (H.own 0 rfl) hy1) ?_
  rintro _ w2 hb2 rfl
  have H := H.ext hb2
  refine O.move (v := (.tuple #[(.agg (Flat.cells t1).toArray), (.int .i64 t2)])) rfl rfl rfl ?_
  refine O.extract (v := (.agg (Flat.cells t1).toArray)) rfl rfl rfl rfl ?_
  refine O.extract (v := (.int .i64 t2)) rfl rfl rfl rfl ?_
  refine O.alloc [(.string ByteArray.empty), (.int .i64 0), (.int .i64 0), (.int .i64 0), (.int .i64 0)] ze28 H rfl rfl rfl ?_
  intro b1 w3 H hb3
  refine O.store 1 0 [(.string t1.Name), (.int .i64 t1.Least), (.int .i64 t1.Greatest), (.int .i64 t1.Leap), (.int .i64 t1.Number)] [(.string t1.Name), (.int .i64 t1.Least), (.int .i64 t1.Greatest), (.int .i64 t1.Leap), (.int .i64 t1.Number)] sz28 H rfl rfl rfl rfl rfl rfl ⟨⟨rfl, rfl⟩, rfl⟩ (one_cons rfl (one_cons rfl (one_cons rfl (one_cons rfl (one_cons rfl one_nil))))) ?_
  intro w4 H
  refine O.assign (v := (.int .i64 t2)) rfl rfl rfl ?_
  refine WL.nil ?_
  refine W.seq ?_
  refine W.region ?_
  obtain ⟨⟨t3, t4, t5⟩, hy2, hm⟩ := bind_some hm
  refine O.call Try.call40 rfl rfl rfl (c_rate_Arc _ hy2) ?_
  rintro _ w5 hb4 rfl
  have H := H.ext hb4
  refine O.move (v := (.tuple #[(.int .i64 t3), (.int .i64 t4), (.int .i64 t5)])) rfl rfl rfl ?_
  refine O.extract (v := (.int .i64 t3)) rfl rfl rfl rfl ?_
  refine O.extract (v := (.int .i64 t4)) rfl rfl rfl rfl ?_
  refine O.extract (v := (.int .i64 t5)) rfl rfl rfl rfl ?_
  refine O.assign (v := (.int .i64 t3)) rfl rfl rfl ?_
  refine O.assign (v := (.int .i64 t4)) rfl rfl rfl ?_
  refine O.assign (v := (.int .i64 t5)) rfl rfl rfl ?_
  refine WL.nil ?_
  refine W.seq ?_
  refine W.region ?_
  refine O.move (v := (.int .i64 t2)) rfl rfl rfl ?_
  refine O.eql rfl rfl rfl rfl ?_
  refine O.move (v := (.bool (t2 == 0))) rfl rfl rfl ?_
  refine WL.cut 4 (fun f w => f 3 = (.int .i64 t3) ∧ f 5 = (.int .i64 t5) ∧ f 23 = .bool ((t2 == 0) && (t1 == (GTrial.mk (bs [97]) 49 56 7 21))) ∧ Inv w0 w [ownI (α := Int) v1 3 ([0, 7, 14, 21, 28, 35, 42, 49, 57, 65, 73, 81, 89, 97, 105] : List Int), boxI b1 28 [(.string t1.Name), (.int .i64 t1.Least), (.int .i64 t1.Greatest), (.int .i64 t1.Leap), (.int .i64 t1.Number)]]) ?_ ?_
  · skip
    rcases bool_ft (t2 == 0) with hc1 | hc1
    · skip
      refine WL.reset (i := 19) (v := .bool false) (congrArg Value.bool hc1) ?_
      refine O.skip rfl rfl ?_
      refine O.skip rfl rfl ?_
      refine O.skip rfl rfl ?_
      refine O.pick_false (v := (.bool false)) rfl rfl rfl rfl ?_
      refine WL.nil ?_
      exact ⟨rfl, rfl, congrArg Value.bool (and_f hc1), H⟩
    · skip
      refine WL.reset (i := 19) (v := .bool true) (congrArg Value.bool hc1) ?_
      refine O.loadA [(.string t1.Name), (.int .i64 t1.Least), (.int .i64 t1.Greatest), (.int .i64 t1.Leap), (.int .i64 t1.Number)] ag28 rfl rfl rfl rfl (H.cell 1 rfl) ?_
      refine O.build (v := (.agg (Flat.cells (GTrial.mk (bs [97]) 49 56 7 21)).toArray)) (fun w => bd28_0_1_2_3_4 _ _ _ _ _ w) rfl rfl rfl ?_
      refine O.eqlSt t1 (GTrial.mk (bs [97]) 49 56 7 21) eq28 rfl rfl rfl rfl ?_
      refine O.pick_true (v := (.bool (t1 == (GTrial.mk (bs [97]) 49 56 7 21)))) rfl rfl rfl rfl ?_
      refine WL.nil ?_
      exact ⟨rfl, rfl, congrArg Value.bool (and_t hc1), H⟩
  · skip
    rintro f w ⟨hf3, hf5, hf23, H⟩
    obtain ⟨u1, rfl⟩ : ∃ u1, f = (upd (upd (upd u1 3 (.int .i64 t3)) 5 (.int .i64 t5)) 23 (.bool ((t2 == 0) && (t1 == (GTrial.mk (bs [97]) 49 56 7 21))))) := ⟨f, by rw [upd_self hf3, upd_self hf5, upd_self hf23]⟩
    refine O.move (v := (.bool ((t2 == 0) && (t1 == (GTrial.mk (bs [97]) 49 56 7 21))))) rfl rfl rfl ?_
    refine WL.cut 3 (fun f w => f 3 = (.int .i64 t3) ∧ f 27 = .bool (((t2 == 0) && (t1 == (GTrial.mk (bs [97]) 49 56 7 21))) && (t5 == 0)) ∧ Inv w0 w [ownI (α := Int) v1 3 ([0, 7, 14, 21, 28, 35, 42, 49, 57, 65, 73, 81, 89, 97, 105] : List Int), boxI b1 28 [(.string t1.Name), (.int .i64 t1.Least), (.int .i64 t1.Greatest), (.int .i64 t1.Leap), (.int .i64 t1.Number)]]) ?_ ?_
    · skip
      rcases bool_ft ((t2 == 0) && (t1 == (GTrial.mk (bs [97]) 49 56 7 21))) with hc2 | hc2
      · skip
        refine WL.reset (i := 24) (v := .bool false) (congrArg Value.bool hc2) ?_
        refine O.skip rfl rfl ?_
        refine O.skip rfl rfl ?_
        refine O.pick_false (v := (.bool false)) rfl rfl rfl rfl ?_
        refine WL.nil ?_
        exact ⟨rfl, congrArg Value.bool (and_f hc2), H⟩
      · skip
        refine WL.reset (i := 24) (v := .bool true) (congrArg Value.bool hc2) ?_
        refine O.move (v := (.int .i64 t5)) rfl rfl rfl ?_
        refine O.eql rfl rfl rfl rfl ?_
        refine O.pick_true (v := (.bool (t5 == 0))) rfl rfl rfl rfl ?_
        refine WL.nil ?_
        exact ⟨rfl, congrArg Value.bool (and_t hc2), H⟩
    · skip
      rintro f w ⟨hf3, hf27, H⟩
      obtain ⟨u2, rfl⟩ : ∃ u2, f = (upd (upd u2 3 (.int .i64 t3)) 27 (.bool (((t2 == 0) && (t1 == (GTrial.mk (bs [97]) 49 56 7 21))) && (t5 == 0)))) := ⟨f, by rw [upd_self hf3, upd_self hf27]⟩
      refine O.move (v := (.bool (((t2 == 0) && (t1 == (GTrial.mk (bs [97]) 49 56 7 21))) && (t5 == 0)))) rfl rfl rfl ?_
      refine WL.cut 3 (fun f w => f 31 = .bool ((((t2 == 0) && (t1 == (GTrial.mk (bs [97]) 49 56 7 21))) && (t5 == 0)) && (t3 == 60)) ∧ Inv w0 w [ownI (α := Int) v1 3 ([0, 7, 14, 21, 28, 35, 42, 49, 57, 65, 73, 81, 89, 97, 105] : List Int), boxI b1 28 [(.string t1.Name), (.int .i64 t1.Least), (.int .i64 t1.Greatest), (.int .i64 t1.Leap), (.int .i64 t1.Number)]]) ?_ ?_
      · skip
        rcases bool_ft (((t2 == 0) && (t1 == (GTrial.mk (bs [97]) 49 56 7 21))) && (t5 == 0)) with hc3 | hc3
        · skip
          refine WL.reset (i := 28) (v := .bool false) (congrArg Value.bool hc3) ?_
          refine O.skip rfl rfl ?_
          refine O.skip rfl rfl ?_
          refine O.pick_false (v := (.bool false)) rfl rfl rfl rfl ?_
          refine WL.nil ?_
          exact ⟨congrArg Value.bool (and_f hc3), H⟩
        · skip
          refine WL.reset (i := 28) (v := .bool true) (congrArg Value.bool hc3) ?_
          refine O.move (v := (.int .i64 t3)) rfl rfl rfl ?_
          refine O.eql rfl rfl rfl rfl ?_
          refine O.pick_true (v := (.bool (t3 == 60))) rfl rfl rfl rfl ?_
          refine WL.nil ?_
          exact ⟨congrArg Value.bool (and_t hc3), H⟩
      · skip
        rintro f w ⟨hf31, H⟩
        obtain ⟨u3, rfl⟩ : ∃ u3, f = (upd u3 31 (.bool ((((t2 == 0) && (t1 == (GTrial.mk (bs [97]) 49 56 7 21))) && (t5 == 0)) && (t3 == 60)))) := ⟨f, by rw [upd_self hf31]⟩
        refine O.assign (v := (.bool ((((t2 == 0) && (t1 == (GTrial.mk (bs [97]) 49 56 7 21))) && (t5 == 0)) && (t3 == 60)))) rfl rfl rfl ?_
        refine WL.nil ?_
        refine W.ret ?_
        have hq : ((((t2 == 0) && (t1 == (GTrial.mk (bs [97]) 49 56 7 21))) && (t5 == 0)) && (t3 == 60)) = r0 := Option.some.inj (show some ((((t2 == 0) && (t1 == (GTrial.mk (bs [97]) 49 56 7 21))) && (t5 == 0)) && (t3 == 60)) = some r0 from hm)
        subst hq
        exact ends1 Try.results14 rfl ⟨_, rfl, H.base, rfl⟩

set_option maxRecDepth 20000 in
theorem c_noongunlaw06_RateOpposite {w0 : World} (va0_0 : Value) (a0 : GBox) (ha0_0 : SliceR w0 va0_0 a0.Errors) {r0 : Bool} (hm : noongunlaw06_RateOpposite a0 = some r0) :
    Calls Try.prog 3 #[(.agg #[(.string a0.Name), va0_0])] w0 (Ret w0 fun _ v => v = (.bool r0)) := by
  unfold noongunlaw06_RateOpposite at hm
  refine calls_of_W Try.func3 rfl Try.ntmps3 (Nat.le_of_ble_eq_true rfl) ?_
  have H := Inv.start (w := w0)
  refine W.seq ?_
  refine W.region ?_
  refine O.box [(.string a0.Name), va0_0] H rfl rfl rfl rfl ?_
  intro b1 w1 H hb1
  refine O.assign (v := (.bool false)) rfl rfl rfl ?_
  refine WL.nil ?_
  refine W.seq ?_
  refine W.seq ?_
  refine W.region ?_
  refine O.loadA [(.string a0.Name), va0_0] ag24 rfl rfl rfl rfl (H.cell 0 rfl) ?_
  refine O.buildSliceR (α := GBox) [(.agg #[(.string a0.Name), va0_0])] [(GBox.mk a0.Name a0.Errors)] Try.underlying55 el24 (RepL.cons (α := GBox) (v := (.agg #[(.string a0.Name), va0_0])) (GBox_rep (H.arg ha0_0)) RepL.nil) rfl rfl rfl rfl rfl ?_
  intro v1 w2 hb2 hs1
  have H := H.ext hb2
  obtain ⟨t1, hy1, hm⟩ := bind_some hm
  refine O.call Try.call13 rfl rfl rfl (c_noongunlaw06_fit _ _ hs1 hy1) ?_
  rintro _ w3 hb3 rfl
  have hs1 := hs1.mono hb3
  have H := H.ext hb3
  refine O.not rfl rfl rfl ?_
  refine WL.nil ?_
  rcases ite_some hm with ⟨hc1, hm⟩ | ⟨hc1, hm⟩
  · refine W.cond_true (congrArg Value.bool hc1) ?_
    refine W.seq ?_
    refine W.region ?_
    obtain ⟨t2, hy2, hm⟩ := bind_some hm
    refine O.call Try.call14 rfl rfl rfl (c_noongunlaw06_awake  hy2) ?_
    rintro _ w4 hb4 rfl
    have hs1 := hs1.mono hb4
    have H := H.ext hb4
    refine O.assign (v := (.bool t2)) rfl rfl rfl ?_
    refine WL.nil ?_
    refine W.ret ?_
    have hq : t2 = r0 := Option.some.inj (show some t2 = some r0 from hm)
    subst hq
    exact ends1 Try.results3 rfl ⟨_, rfl, H.base, rfl⟩
  · refine W.cond_false (congrArg Value.bool hc1) ?_
    refine W.skip ?_
    refine W.seq ?_
    refine W.region ?_
    refine O.fieldAddr fd24_0 rfl rfl rfl ?_
    refine O.load sc9 rfl rfl rfl (H.cell 0 rfl 0 _ rfl) ?_
    refine O.build (v := (.agg #[(.string a0.Name), (.slice none 0 0)])) (fun w => bd24_0 _ w) rfl rfl rfl ?_
    refine O.alloc [(.string ByteArray.empty), (.slice none 0 0)] ze24 H rfl rfl rfl ?_
    intro b2 w5 H hb5
    have hs1 := hs1.mono hb5
    have H := H.addNil (α := Int) (E := 3)
    have H := H.addNil (α := Int) (E := 3)
    refine O.store 1 0 [(.string a0.Name), (.slice none 0 0)] [(.string a0.Name), (.slice none 0 0)] sz24 H rfl rfl rfl rfl rfl rfl ⟨⟨rfl, rfl⟩, rfl⟩ (one_cons rfl (one_cons rfl one_nil)) ?_
    intro w6 H
    clear hs1
    refine WL.nil ?_
    refine W.seq ?_
    refine W.seq ?_
    refine W.region ?_
    refine O.fieldAddr fd24_1 rfl rfl rfl ?_
    refine O.load sc22 rfl rfl rfl (H.cell 0 rfl 1 _ rfl) ?_
    refine O.lenS Try.underlying22 (H.arg ha0_0) rfl rfl rfl ?_
    refine O.move (v := (.int .i64 0)) rfl rfl rfl ?_
    refine WL.nil ?_
    obtain ⟨s1, hm1, hm⟩ := bind_some hm
    refine W.via (fun f w => ∃ v5 : Value, f 1 = (.pointer (some ⟨b1, 0, none⟩)) ∧ f 3 = (.pointer (some ⟨b2, 0, none⟩)) ∧ Inv w0 w [boxI b1 24 [(.string a0.Name), va0_0], boxI b2 24 [(.string a0.Name), v5], ownI (α := Int) v5 3 s1]) ?_ ?_
    · skip
      refine W.block ?_
      have H := H.keep [0, 1, 3] [boxI b1 24 [(.string a0.Name), va0_0], boxI b2 24 [(.string a0.Name), (.slice none 0 0)], ownI (α := Int) (.slice none 0 0) 3 ([] : List Int)] rfl (by decide)
      refine W.rangeL (i := 0) hm1 (fun rem ik1 s f w => ∃ z2 : (List Int), ∃ v3 : Value, z2 = s ∧ a0.Errors.drop ik1 = rem ∧ f 21 = .int .i64 (ik1 : Int) ∧ f 20 = (.int .i64 ((a0.Errors.length : Nat) : Int)) ∧ f 1 = (.pointer (some ⟨b1, 0, none⟩)) ∧ f 3 = (.pointer (some ⟨b2, 0, none⟩)) ∧ f 19 = va0_0 ∧ Inv w0 w [boxI b1 24 [(.string a0.Name), va0_0], boxI b2 24 [(.string a0.Name), v3], ownI (α := Int) v3 3 z2]) ?_ ?_ ?_
      · skip
        exact ⟨_, (.slice none 0 0), rfl, List.drop_zero, rfl, rfl, rfl, rfl, rfl, H⟩
      · skip
        rintro yk1 xs ik1 _ st f w ⟨z2, v3, rfl, hdropk1, hf21, hf20, hf1, hf3, hf19, H⟩ hm2
        have hltk1 := drop_lt hdropk1; have hixk1 := drop_idx hdropk1
        obtain ⟨u1, rfl⟩ : ∃ u1, f = (upd (upd (upd (upd (upd u1 21 (.int .i64 (ik1 : Int))) 20 (.int .i64 ((a0.Errors.length : Nat) : Int))) 1 (.pointer (some ⟨b1, 0, none⟩))) 3 (.pointer (some ⟨b2, 0, none⟩))) 19 va0_0) := ⟨f, by rw [upd_self hf21, upd_self hf20, upd_self hf1, upd_self hf3, upd_self hf19]⟩
        have hinck1 := addI_lt hltk1 (H.arg ha0_0).len_le
        refine W.seq ?_
        refine W.region ?_
        refine O.lss rfl rfl rfl rfl ?_
        refine WL.nil ?_
        refine W.seq ?_
        refine W.cond_true (congrArg Value.bool (decide_eq_true hltk1)) ?_
        refine W.skip ?_
        refine W.seq ?_
        refine W.block ?_
        refine W.seq ?_
        refine W.region ?_
        obtain ⟨p1, hp1, hrp1⟩ := fix_indexAddr Try.underlying22 sz3 ha0_0 hixk1
        refine hrp1 rfl rfl rfl rfl ?_
        refine O.load sc3 rfl rfl rfl ((hp1.mono H.base).flat 0 _ rfl) ?_
        refine O.assign (v := (.int .i64 yk1)) rfl rfl rfl ?_
        refine WL.nil ?_
        refine W.region ?_
        refine O.fieldAddr fd24_1 rfl rfl rfl ?_
        refine O.load sc22 rfl rfl rfl (H.cell 1 rfl 1 _ rfl) ?_
        refine O.move (v := (.int .i64 yk1)) rfl rfl rfl ?_
        refine O.negW rfl rfl rfl ?_
        refine O.buildSlice (α := Int) [(.int .i64 (negW yk1))] [(negW yk1)] Try.underlying22 el3 H rfl rfl rfl rfl rfl rfl rfl ?_
        intro v6 w7 H hb6
        obtain ⟨t3, ht3, hm2⟩ := bind_some hm2
        refine O.append 2 Try.underlying22 el3 rfl H rfl (H.own 3 rfl) ht3 rfl rfl rfl rfl ?_
        intro v7 w8 H
        refine O.fieldAddr fd24_1 rfl rfl rfl ?_
        refine O.store 1 1 [v7] [(.string a0.Name), v7] sz22 H rfl rfl rfl rfl rfl (SliceR.cells1 (H.own 2 rfl)) ⟨⟨rfl, rfl⟩, rfl⟩ (one_cons (SliceR.one (H.own 2 rfl)) one_nil) ?_
        intro w9 H
        refine WL.nil ?_
        refine W.region ?_
        refine O.add rfl rfl rfl rfl hinck1 ?_
        refine O.move (v := .int .i64 ((ik1 : Int) + 1)) rfl rfl rfl ?_
        refine WL.nil ?_
        have H := H.keep [0, 1, 2] [boxI b1 24 [(.string a0.Name), va0_0], boxI b2 24 [(.string a0.Name), v7], ownI (α := Int) v7 3 t3] rfl (by decide)
        obtain rfl := Option.some.inj hm2
        exact ⟨_, rfl, _, v7, rfl, drop_next hdropk1, rfl, rfl, rfl, rfl, rfl, H⟩
      · skip
        rintro ik1 _ f w ⟨z2, v3, rfl, hdropk1, hf21, hf20, hf1, hf3, hf19, H⟩ hfin
        have hltk1 := drop_end hdropk1
        obtain ⟨u2, rfl⟩ : ∃ u2, f = (upd (upd (upd (upd (upd u2 21 (.int .i64 (ik1 : Int))) 20 (.int .i64 ((a0.Errors.length : Nat) : Int))) 1 (.pointer (some ⟨b1, 0, none⟩))) 3 (.pointer (some ⟨b2, 0, none⟩))) 19 va0_0) := ⟨f, by rw [upd_self hf21, upd_self hf20, upd_self hf1, upd_self hf3, upd_self hf19]⟩
        refine W.seq ?_
        refine W.region ?_
        refine O.lss rfl rfl rfl rfl ?_
        refine WL.nil ?_
        refine W.seq ?_
        refine W.cond_false (congrArg Value.bool (decide_eq_false hltk1)) ?_
        refine W.exit ?_
        have hq : z2 = s1 := hfin
        subst hq
        refine xT rfl ?_
        exact ⟨v3, rfl, rfl, H⟩
    · skip
      rintro f w ⟨v5, hf1, hf3, H⟩
      obtain ⟨u3, rfl⟩ : ∃ u3, f = (upd (upd u3 1 (.pointer (some ⟨b1, 0, none⟩))) 3 (.pointer (some ⟨b2, 0, none⟩))) := ⟨f, by rw [upd_self hf1, upd_self hf3]⟩
      refine W.seq ?_
      refine W.region ?_
      refine O.loadA [(.string a0.Name), va0_0] ag24 rfl rfl rfl rfl (H.cell 0 rfl) ?_
      obtain ⟨⟨t4, t5⟩, hy3, hm⟩ := bind_some hm
      refine O.call Try.call15 rfl rfl rfl (c_rate_Trial _ (GBox.mk a0.Name a0.Errors) (H.arg ha0_0) hy3) ?_
      rintro _ w10 hb7 rfl
      have H := H.ext hb7
      refine O.move (v := (.tuple #[(.agg (Flat.cells t4).toArray), (.int .i64 t5)])) rfl rfl rfl ?_
      refine O.extract (v := (.agg (Flat.cells t4).toArray)) rfl rfl rfl rfl ?_
      refine O.extract (v := (.int .i64 t5)) rfl rfl rfl rfl ?_
      refine O.alloc [(.string ByteArray.empty), (.int .i64 0), (.int .i64 0), (.int .i64 0), (.int .i64 0)] ze28 H rfl rfl rfl ?_
      intro b3 w11 H hb8
      refine O.store 3 0 [(.string t4.Name), (.int .i64 t4.Least), (.int .i64 t4.Greatest), (.int .i64 t4.Leap), (.int .i64 t4.Number)] [(.string t4.Name), (.int .i64 t4.Least), (.int .i64 t4.Greatest), (.int .i64 t4.Leap), (.int .i64 t4.Number)] sz28 H rfl rfl rfl rfl rfl rfl ⟨⟨rfl, rfl⟩, rfl⟩ (one_cons rfl (one_cons rfl (one_cons rfl (one_cons rfl (one_cons rfl one_nil))))) ?_
      intro w12 H
      refine O.assign (v := (.int .i64 t5)) rfl rfl rfl ?_
      refine WL.nil ?_
      refine W.seq ?_
      refine W.region ?_
      refine O.loadA [(.string a0.Name), v5] ag24 rfl rfl rfl rfl (H.cell 1 rfl) ?_
      obtain ⟨⟨t6, t7⟩, hy4, hm⟩ := bind_some hm
      refine O.call Try.call15 rfl rfl rfl (c_rate_Trial _ (GBox.mk a0.Name s1) (H.own 2 rfl) hy4) ?_
      rintro _ w13 hb9 rfl
      have H := H.ext hb9
      refine O.move (v := (.tuple #[(.agg (Flat.cells t6).toArray), (.int .i64 t7)])) rfl rfl rfl ?_
      refine O.extract (v := (.agg (Flat.cells t6).toArray)) rfl rfl rfl rfl ?_
      refine O.extract (v := (.int .i64 t7)) rfl rfl rfl rfl ?_
      refine O.alloc [(.string ByteArray.empty), (.int .i64 0), (.int .i64 0), (.int .i64 0), (.int .i64 0)] ze28 H rfl rfl rfl ?_
      intro b4 w14 H hb10
      refine O.store 4 0 [(.string t6.Name), (.int .i64 t6.Least), (.int .i64 t6.Greatest), (.int .i64 t6.Leap), (.int .i64 t6.Number)] [(.string t6.Name), (.int .i64 t6.Least), (.int .i64 t6.Greatest), (.int .i64 t6.Leap), (.int .i64 t6.Number)] sz28 H rfl rfl rfl rfl rfl rfl ⟨⟨rfl, rfl⟩, rfl⟩ (one_cons rfl (one_cons rfl (one_cons rfl (one_cons rfl (one_cons rfl one_nil))))) ?_
      intro w15 H
      refine O.assign (v := (.int .i64 t7)) rfl rfl rfl ?_
      refine WL.nil ?_
      refine W.seq ?_
      refine W.seq ?_
      refine W.region ?_
      refine O.loadA [(.string a0.Name), va0_0] ag24 rfl rfl rfl rfl (H.cell 0 rfl) ?_
      obtain ⟨t8, hy5, hm⟩ := bind_some hm
      refine O.call Try.call16 rfl rfl rfl (c_rate_ValidBox _ (GBox.mk a0.Name a0.Errors) (H.arg ha0_0) hy5) ?_
      rintro _ w16 hb11 rfl
      have H := H.ext hb11
      refine O.not rfl rfl rfl ?_
      refine WL.nil ?_
      rcases ite_some hm with ⟨hc2, hm⟩ | ⟨hc2, hm⟩
      · refine W.cond_true (congrArg Value.bool hc2) ?_
        refine W.seq ?_
        refine W.region ?_
        refine O.move (v := (.int .i64 t5)) rfl rfl rfl ?_
        refine O.eql rfl rfl rfl rfl ?_
        refine O.move (v := (.bool (t5 == 1))) rfl rfl rfl ?_
        obtain ⟨b5, hm3, hm⟩ := bind_some hm
        refine WL.cut 2 (fun f w => f 50 = .bool b5 ∧ Inv w0 w [boxI b1 24 [(.string a0.Name), va0_0], boxI b2 24 [(.string a0.Name), v5], ownI (α := Int) v5 3 s1, boxI b3 28 [(.string t4.Name), (.int .i64 t4.Least), (.int .i64 t4.Greatest), (.int .i64 t4.Leap), (.int .i64 t4.Number)], boxI b4 28 [(.string t6.Name), (.int .i64 t6.Least), (.int .i64 t6.Greatest), (.int .i64 t6.Leap), (.int .i64 t6.Number)]]) ?_ ?_
        · skip
          rcases ite_some hm3 with ⟨hc3, hm3⟩ | ⟨hc3, hm3⟩
          · skip
            refine WL.reset (i := 48) (v := .bool true) (congrArg Value.bool hc3) ?_
            obtain ⟨t9, hy6, hm3⟩ := bind_some hm3
            refine O.call Try.call14 rfl rfl rfl (c_noongunlaw06_awake  hy6) ?_
            rintro _ w17 hb12 rfl
            have H := H.ext hb12
            refine O.pick_true (v := (.bool t9)) rfl rfl rfl rfl ?_
            refine WL.nil ?_
            have hq : t9 = b5 := Option.some.inj (show some t9 = some b5 from hm3)
            subst hq
            exact ⟨rfl, H⟩
          · skip
            refine WL.reset (i := 48) (v := .bool false) (congrArg Value.bool hc3) ?_
            refine O.skip rfl rfl ?_
            refine O.pick_false (v := (.bool false)) rfl rfl rfl rfl ?_
            refine WL.nil ?_
            have hq : false = b5 := Option.some.inj (show some false = some b5 from hm3)
            subst hq
            exact ⟨rfl, H⟩
        · skip
          rintro f w ⟨hf50, H⟩
          obtain ⟨u4, rfl⟩ : ∃ u4, f = (upd u4 50 (.bool b5)) := ⟨f, by rw [upd_self hf50]⟩
          refine O.assign (v := (.bool b5)) rfl rfl rfl ?_
          refine WL.nil ?_
          refine W.ret ?_
          have hq : b5 = r0 := Option.some.inj (show some b5 = some r0 from hm)
          subst hq
          exact ends1 Try.results3 rfl ⟨_, rfl, H.base, rfl⟩
      · refine W.cond_false (congrArg Value.bool hc2) ?_
        refine W.skip ?_
        refine W.seq ?_
        refine W.region ?_
        refine O.move (v := (.int .i64 t5)) rfl rfl rfl ?_
        refine O.move (v := (.int .i64 t7)) rfl rfl rfl ?_
        refine O.eql rfl rfl rfl rfl ?_
        refine O.move (v := (.bool (t5 == t7))) rfl rfl rfl ?_
        refine WL.cut 6 (fun f w => f 6 = (.pointer (some ⟨b3, 0, none⟩)) ∧ f 8 = (.pointer (some ⟨b4, 0, none⟩)) ∧ f 60 = .bool ((t5 == t7) && (t4.Number == t6.Number)) ∧ Inv w0 w [boxI b1 24 [(.string a0.Name), va0_0], boxI b2 24 [(.string a0.Name), v5], ownI (α := Int) v5 3 s1, boxI b3 28 [(.string t4.Name), (.int .i64 t4.Least), (.int .i64 t4.Greatest), (.int .i64 t4.Leap), (.int .i64 t4.Number)], boxI b4 28 [(.string t6.Name), (.int .i64 t6.Least), (.int .i64 t6.Greatest), (.int .i64 t6.Leap), (.int .i64 t6.Number)]]) ?_ ?_
        · skip
          rcases bool_ft (t5 == t7) with hc4 | hc4
          · skip
            refine WL.reset (i := 54) (v := .bool false) (congrArg Value.bool hc4) ?_
            refine O.skip rfl rfl ?_
            refine O.skip rfl rfl ?_
            refine O.skip rfl rfl ?_
            refine O.skip rfl rfl ?_
            refine O.skip rfl rfl ?_
            refine O.pick_false (v := (.bool false)) rfl rfl rfl rfl ?_
            refine WL.nil ?_
            exact ⟨rfl, rfl, congrArg Value.bool (and_f hc4), H⟩
          · skip
            refine WL.reset (i := 54) (v := .bool true) (congrArg Value.bool hc4) ?_
            refine O.fieldAddr fd28_4 rfl rfl rfl ?_
            refine O.load sc3 rfl rfl rfl (H.cell 3 rfl 4 _ rfl) ?_
            refine O.fieldAddr fd28_4 rfl rfl rfl ?_
            refine O.load sc3 rfl rfl rfl (H.cell 4 rfl 4 _ rfl) ?_
            refine O.eql rfl rfl rfl rfl ?_
            refine O.pick_true (v := (.bool (t4.Number == t6.Number))) rfl rfl rfl rfl ?_
            refine WL.nil ?_
            exact ⟨rfl, rfl, congrArg Value.bool (and_t hc4), H⟩
        · skip
          rintro f w ⟨hf6, hf8, hf60, H⟩
          obtain ⟨u5, rfl⟩ : ∃ u5, f = (upd (upd (upd u5 6 (.pointer (some ⟨b3, 0, none⟩))) 8 (.pointer (some ⟨b4, 0, none⟩))) 60 (.bool ((t5 == t7) && (t4.Number == t6.Number)))) := ⟨f, by rw [upd_self hf6, upd_self hf8, upd_self hf60]⟩
          refine O.move (v := (.bool ((t5 == t7) && (t4.Number == t6.Number)))) rfl rfl rfl ?_
          refine WL.cut 6 (fun f w => f 6 = (.pointer (some ⟨b3, 0, none⟩)) ∧ f 8 = (.pointer (some ⟨b4, 0, none⟩)) ∧ f 67 = .bool (((t5 == t7) && (t4.Number == t6.Number)) && (t4.Leap == t6.Leap)) ∧ Inv w0 w [boxI b1 24 [(.string a0.Name), va0_0], boxI b2 24 [(.string a0.Name), v5], ownI (α := Int) v5 3 s1, boxI b3 28 [(.string t4.Name), (.int .i64 t4.Least), (.int .i64 t4.Greatest), (.int .i64 t4.Leap), (.int .i64 t4.Number)], boxI b4 28 [(.string t6.Name), (.int .i64 t6.Least), (.int .i64 t6.Greatest), (.int .i64 t6.Leap), (.int .i64 t6.Number)]]) ?_ ?_
          · skip
            rcases bool_ft ((t5 == t7) && (t4.Number == t6.Number)) with hc5 | hc5
            · skip
              refine WL.reset (i := 61) (v := .bool false) (congrArg Value.bool hc5) ?_
              refine O.skip rfl rfl ?_
              refine O.skip rfl rfl ?_
              refine O.skip rfl rfl ?_
              refine O.skip rfl rfl ?_
              refine O.skip rfl rfl ?_
              refine O.pick_false (v := (.bool false)) rfl rfl rfl rfl ?_
              refine WL.nil ?_
              exact ⟨rfl, rfl, congrArg Value.bool (and_f hc5), H⟩
            · skip
              refine WL.reset (i := 61) (v := .bool true) (congrArg Value.bool hc5) ?_
              refine O.fieldAddr fd28_3 rfl rfl rfl ?_
              refine O.load sc3 rfl rfl rfl (H.cell 3 rfl 3 _ rfl) ?_
              refine O.fieldAddr fd28_3 rfl rfl rfl ?_
              refine O.load sc3 rfl rfl rfl (H.cell 4 rfl 3 _ rfl) ?_
              refine O.eql rfl rfl rfl rfl ?_
              refine O.pick_true (v := (.bool (t4.Leap == t6.Leap))) rfl rfl rfl rfl ?_
              refine WL.nil ?_
              exact ⟨rfl, rfl, congrArg Value.bool (and_t hc5), H⟩
          · skip
            rintro f w ⟨hf6, hf8, hf67, H⟩
            obtain ⟨u6, rfl⟩ : ∃ u6, f = (upd (upd (upd u6 6 (.pointer (some ⟨b3, 0, none⟩))) 8 (.pointer (some ⟨b4, 0, none⟩))) 67 (.bool (((t5 == t7) && (t4.Number == t6.Number)) && (t4.Leap == t6.Leap)))) := ⟨f, by rw [upd_self hf6, upd_self hf8, upd_self hf67]⟩
            refine O.move (v := (.bool (((t5 == t7) && (t4.Number == t6.Number)) && (t4.Leap == t6.Leap)))) rfl rfl rfl ?_
            refine WL.cut 7 (fun f w => f 6 = (.pointer (some ⟨b3, 0, none⟩)) ∧ f 8 = (.pointer (some ⟨b4, 0, none⟩)) ∧ f 75 = .bool ((((t5 == t7) && (t4.Number == t6.Number)) && (t4.Leap == t6.Leap)) && (t4.Least == (negW t6.Greatest))) ∧ Inv w0 w [boxI b1 24 [(.string a0.Name), va0_0], boxI b2 24 [(.string a0.Name), v5], ownI (α := Int) v5 3 s1, boxI b3 28 [(.string t4.Name), (.int .i64 t4.Least), (.int .i64 t4.Greatest), (.int .i64 t4.Leap), (.int .i64 t4.Number)], boxI b4 28 [(.string t6.Name), (.int .i64 t6.Least), (.int .i64 t6.Greatest), (.int .i64 t6.Leap), (.int .i64 t6.Number)]]) ?_ ?_
            · skip
              rcases bool_ft (((t5 == t7) && (t4.Number == t6.Number)) && (t4.Leap == t6.Leap)) with hc6 | hc6
              · skip
                refine WL.reset (i := 68) (v := .bool false) (congrArg Value.bool hc6) ?_
                refine O.skip rfl rfl ?_
                refine O.skip rfl rfl ?_
                refine O.skip rfl rfl ?_
                refine O.skip rfl rfl ?_
                refine O.skip rfl rfl ?_
                refine O.skip rfl rfl ?_
                refine O.pick_false (v := (.bool false)) rfl rfl rfl rfl ?_
                refine WL.nil ?_
                exact ⟨rfl, rfl, congrArg Value.bool (and_f hc6), H⟩
              · skip
                refine WL.reset (i := 68) (v := .bool true) (congrArg Value.bool hc6) ?_
                refine O.fieldAddr fd28_1 rfl rfl rfl ?_
                refine O.load sc3 rfl rfl rfl (H.cell 3 rfl 1 _ rfl) ?_
                refine O.fieldAddr fd28_2 rfl rfl rfl ?_
                refine O.load sc3 rfl rfl rfl (H.cell 4 rfl 2 _ rfl) ?_
                refine O.negW rfl rfl rfl ?_
                refine O.eql rfl rfl rfl rfl ?_
                refine O.pick_true (v := (.bool (t4.Least == (negW t6.Greatest)))) rfl rfl rfl rfl ?_
                refine WL.nil ?_
                exact ⟨rfl, rfl, congrArg Value.bool (and_t hc6), H⟩
            · skip
              rintro f w ⟨hf6, hf8, hf75, H⟩
              obtain ⟨u7, rfl⟩ : ∃ u7, f = (upd (upd (upd u7 6 (.pointer (some ⟨b3, 0, none⟩))) 8 (.pointer (some ⟨b4, 0, none⟩))) 75 (.bool ((((t5 == t7) && (t4.Number == t6.Number)) && (t4.Leap == t6.Leap)) && (t4.Least == (negW t6.Greatest))))) := ⟨f, by rw [upd_self hf6, upd_self hf8, upd_self hf75]⟩
              refine O.move (v := (.bool ((((t5 == t7) && (t4.Number == t6.Number)) && (t4.Leap == t6.Leap)) && (t4.Least == (negW t6.Greatest))))) rfl rfl rfl ?_
              refine WL.cut 7 (fun f w => f 83 = .bool (((((t5 == t7) && (t4.Number == t6.Number)) && (t4.Leap == t6.Leap)) && (t4.Least == (negW t6.Greatest))) && (t4.Greatest == (negW t6.Least))) ∧ Inv w0 w [boxI b1 24 [(.string a0.Name), va0_0], boxI b2 24 [(.string a0.Name), v5], ownI (α := Int) v5 3 s1, boxI b3 28 [(.string t4.Name), (.int .i64 t4.Least), (.int .i64 t4.Greatest), (.int .i64 t4.Leap), (.int .i64 t4.Number)], boxI b4 28 [(.string t6.Name), (.int .i64 t6.Least), (.int .i64 t6.Greatest), (.int .i64 t6.Leap), (.int .i64 t6.Number)]]) ?_ ?_
              · skip
                rcases bool_ft ((((t5 == t7) && (t4.Number == t6.Number)) && (t4.Leap == t6.Leap)) && (t4.Least == (negW t6.Greatest))) with hc7 | hc7
                · skip
                  refine WL.reset (i := 76) (v := .bool false) (congrArg Value.bool hc7) ?_
                  refine O.skip rfl rfl ?_
                  refine O.skip rfl rfl ?_
                  refine O.skip rfl rfl ?_
                  refine O.skip rfl rfl ?_
                  refine O.skip rfl rfl ?_
                  refine O.skip rfl rfl ?_
                  refine O.pick_false (v := (.bool false)) rfl rfl rfl rfl ?_
                  refine WL.nil ?_
                  exact ⟨congrArg Value.bool (and_f hc7), H⟩
                · skip
                  refine WL.reset (i := 76) (v := .bool true) (congrArg Value.bool hc7) ?_
                  refine O.fieldAddr fd28_2 rfl rfl rfl ?_
                  refine O.load sc3 rfl rfl rfl (H.cell 3 rfl 2 _ rfl) ?_
                  refine O.fieldAddr fd28_1 rfl rfl rfl ?_
                  refine O.load sc3 rfl rfl rfl (H.cell 4 rfl 1 _ rfl) ?_
                  refine O.negW rfl rfl rfl ?_
                  refine O.eql rfl rfl rfl rfl ?_
                  refine O.pick_true (v := (.bool (t4.Greatest == (negW t6.Least)))) rfl rfl rfl rfl ?_
                  refine WL.nil ?_
                  exact ⟨congrArg Value.bool (and_t hc7), H⟩
              · skip
                rintro f w ⟨hf83, H⟩
                obtain ⟨u8, rfl⟩ : ∃ u8, f = (upd u8 83 (.bool (((((t5 == t7) && (t4.Number == t6.Number)) && (t4.Leap == t6.Leap)) && (t4.Least == (negW t6.Greatest))) && (t4.Greatest == (negW t6.Least))))) := ⟨f, by rw [upd_self hf83]⟩
                refine O.move (v := (.bool (((((t5 == t7) && (t4.Number == t6.Number)) && (t4.Leap == t6.Leap)) && (t4.Least == (negW t6.Greatest))) && (t4.Greatest == (negW t6.Least))))) rfl rfl rfl ?_
                obtain ⟨b6, hm4, hm⟩ := bind_some hm
                refine WL.cut 2 (fun f w => f 86 = .bool b6 ∧ Inv w0 w [boxI b1 24 [(.string a0.Name), va0_0], boxI b2 24 [(.string a0.Name), v5], ownI (α := Int) v5 3 s1, boxI b3 28 [(.string t4.Name), (.int .i64 t4.Least), (.int .i64 t4.Greatest), (.int .i64 t4.Leap), (.int .i64 t4.Number)], boxI b4 28 [(.string t6.Name), (.int .i64 t6.Least), (.int .i64 t6.Greatest), (.int .i64 t6.Leap), (.int .i64 t6.Number)]]) ?_ ?_
                · skip
                  rcases ite_some hm4 with ⟨hc8, hm4⟩ | ⟨hc8, hm4⟩
                  · skip
                    refine WL.reset (i := 84) (v := .bool true) (congrArg Value.bool hc8) ?_
                    obtain ⟨t10, hy7, hm4⟩ := bind_some hm4
                    refine O.call Try.call14 rfl rfl rfl (c_noongunlaw06_awake  hy7) ?_
                    rintro _ w18 hb13 rfl
                    have H := H.ext hb13
                    refine O.pick_true (v := (.bool t10)) rfl rfl rfl rfl ?_
                    refine WL.nil ?_
                    have hq : t10 = b6 := Option.some.inj (show some t10 = some b6 from hm4)
                    subst hq
                    exact ⟨rfl, H⟩
                  · skip
                    refine WL.reset (i := 84) (v := .bool false) (congrArg Value.bool hc8) ?_
                    refine O.skip rfl rfl ?_
                    refine O.pick_false (v := (.bool false)) rfl rfl rfl rfl ?_
                    refine WL.nil ?_
                    have hq : false = b6 := Option.some.inj (show some false = some b6 from hm4)
                    subst hq
                    exact ⟨rfl, H⟩
                · skip
                  rintro f w ⟨hf86, H⟩
                  obtain ⟨u9, rfl⟩ : ∃ u9, f = (upd u9 86 (.bool b6)) := ⟨f, by rw [upd_self hf86]⟩
                  refine O.assign (v := (.bool b6)) rfl rfl rfl ?_
                  refine WL.nil ?_
                  refine W.ret ?_
                  have hq : b6 = r0 := Option.some.inj (show some b6 = some r0 from hm)
                  subst hq
                  exact ends1 Try.results3 rfl ⟨_, rfl, H.base, rfl⟩

theorem c_rate_told {w0 : World} (va0_0 : Value) (a0 : GBox) (ha0_0 : SliceR w0 va0_0 a0.Errors) {r0 : GBox} {r1 : Int} (hm : rate_told a0 = some (r0, r1)) :
    Calls Try.prog 62 #[(.agg #[(.string a0.Name), va0_0])] w0 (Ret w0 fun _ v => ∃ vr0_0 : Value, v = .tuple #[(.agg #[(.string r0.Name), vr0_0]), (.int .i64 r1)] ∧ PassR vr0_0 va0_0 r0.Errors a0.Errors) := by
  unfold rate_told at hm
  refine calls_of_W Try.func62 rfl Try.ntmps62 (Nat.le_of_ble_eq_true rfl) ?_
  have H := Inv.start (w := w0)
  refine W.seq ?_
  refine W.region ?_
  refine O.box [(.string a0.Name), va0_0] H rfl rfl rfl rfl ?_
  intro b1 w1 H hb1
  refine O.alloc [(.string ByteArray.empty), (.slice none 0 0)] ze24 H rfl rfl rfl ?_
  intro b2 w2 H hb2
  have H := H.addNil (α := Int) (E := 3)
  refine O.assign (v := (.int .i64 0)) rfl rfl rfl ?_
  refine WL.nil ?_
  refine W.seq ?_
  refine W.seq ?_
  refine W.region ?_
  refine O.loadA [(.string a0.Name), va0_0] ag24 rfl rfl rfl rfl (H.cell 0 rfl) ?_
  obtain ⟨t1, hy1, hm⟩ := bind_some hm
  refine O.call Try.call16 rfl rfl rfl (c_rate_ValidBox _ (GBox.mk a0.Name a0.Errors) (H.arg ha0_0) hy1) ?_
  rintro _ w3 hb3 rfl
  have H := H.ext hb3
  refine O.not rfl rfl rfl ?_
  refine WL.nil ?_
  rcases ite_some hm with ⟨hc1, hm⟩ | ⟨hc1, hm⟩
  · refine W.cond_true (congrArg Value.bool hc1) ?_
    refine W.seq ?_
    refine W.region ?_
    refine O.build (v := (.agg #[(.string ByteArray.empty), (.slice none 0 0)])) (fun w => bd24_  w) rfl rfl rfl ?_
    have H := H.addNil (α := Int) (E := 3)
    refine O.store 1 0 [(.string ByteArray.empty), (.slice none 0 0)] [(.string ByteArray.empty), (.slice none 0 0)] sz24 H rfl rfl rfl rfl rfl rfl ⟨⟨rfl, rfl⟩, rfl⟩ (one_cons rfl (one_cons rfl one_nil)) ?_
    intro w4 H
    refine O.assign (v := (.int .i64 4)) rfl rfl rfl ?_
    refine WL.nil ?_
    refine W.ret ?_
    have hq : ((GBox.mk ByteArray.empty ([] : List Int)), 4) = (r0, r1) := Option.some.inj (show some ((GBox.mk ByteArray.empty ([] : List Int)), 4) = some (r0, r1) from hm)
    obtain ⟨he0, hq0⟩ := Prod.mk.inj hq; clear hq; subst he0
    subst hq0
    exact ends2 Try.results62 ⟨_, rfl, run_loadVar_agg ag24 rfl (H.cell 1 rfl)⟩ rfl ⟨_, rfl, H.base, ⟨_, rfl, .inl ⟨rfl, rfl⟩⟩⟩
  · refine W.cond_false (congrArg Value.bool hc1) ?_
    refine W.skip ?_
    refine W.seq ?_
    refine W.region ?_
    refine O.loadA [(.string a0.Name), va0_0] ag24 rfl rfl rfl rfl (H.cell 0 rfl) ?_
    refine O.store 1 0 [(.string a0.Name), va0_0] [(.string a0.Name), va0_0] sz24 H rfl rfl rfl rfl rfl rfl ⟨⟨rfl, rfl⟩, rfl⟩ (one_cons rfl (one_cons (SliceR.one (H.arg ha0_0)) one_nil)) ?_
    intro w5 H
    refine O.assign (v := (.int .i64 0)) rfl rfl rfl ?_
    refine WL.nil ?_
    refine W.ret ?_
    have hq : ((GBox.mk a0.Name a0.Errors), 0) = (r0, r1) := Option.some.inj (show some ((GBox.mk a0.Name a0.Errors), 0) = some (r0, r1) from hm)
    obtain ⟨he0, hq0⟩ := Prod.mk.inj hq; clear hq; subst he0
    subst hq0
    exact ends2 Try.results62 ⟨_, rfl, run_loadVar_agg ag24 rfl (H.cell 1 rfl)⟩ rfl ⟨_, rfl, H.base, ⟨_, rfl, .inr ⟨rfl, rfl⟩⟩⟩

set_option maxRecDepth 20000 in
theorem c_rate_Shifted {w0 : World} (va0_0 : Value) (a0 : GBox) (ha0_0 : SliceR w0 va0_0 a0.Errors) (a1 : Int) (a2 : Int) {r0 : GBox} {r1 : Int} (hm : rate_Shifted a0 a1 a2 = some (r0, r1)) :
    Calls Try.prog 17 #[(.agg #[(.string a0.Name), va0_0]), (.int .i64 a1), (.int .i64 a2)] w0 (Ret w0 fun w v => ∃ vr0_0 : Value, v = .tuple #[(.agg #[(.string r0.Name), vr0_0]), (.int .i64 r1)] ∧ OwnR w0 w vr0_0 3 r0.Errors) := by
  unfold rate_Shifted at hm
  refine calls_of_W Try.func17 rfl Try.ntmps17 (Nat.le_of_ble_eq_true rfl) ?_
  have H := Inv.start (w := w0)
  refine W.seq ?_
  refine W.region ?_
  refine O.box [(.string a0.Name), va0_0] H rfl rfl rfl rfl ?_
  intro b1 w1 H hb1
  refine O.alloc [(.string ByteArray.empty), (.slice none 0 0)] ze24 H rfl rfl rfl ?_
  intro b2 w2 H hb2
  have H := H.addNil (α := Int) (E := 3)
  refine O.assign (v := (.int .i64 0)) rfl rfl rfl ?_
  refine WL.nil ?_
  refine W.seq ?_
  refine W.block ?_
  refine W.seq ?_
  refine W.region ?_
  refine O.loadA [(.string a0.Name), va0_0] ag24 rfl rfl rfl rfl (H.cell 0 rfl) ?_
  obtain ⟨t1, hy1, hm⟩ := bind_some hm
  refine O.call Try.call16 rfl rfl rfl (c_rate_ValidBox _ (GBox.mk a0.Name a0.Errors) (H.arg ha0_0) hy1) ?_
  rintro _ w3 hb3 rfl
  have H := H.ext hb3
  refine O.not rfl rfl rfl ?_
  refine O.assign (v := (.bool (!t1))) rfl rfl rfl ?_
  refine WL.nil ?_
  rcases ite_some hm with ⟨hc1, hm⟩ | ⟨hc1, hm⟩
  · refine W.cond_true (congrArg Value.bool hc1) ?_
    refine W.seq ?_
    refine W.region ?_
    refine O.build (v := (.agg #[(.string ByteArray.empty), (.slice none 0 0)])) (fun w => bd24_  w) rfl rfl rfl ?_
    have H := H.addNil (α := Int) (E := 3)
    refine O.store 1 0 [(.string ByteArray.empty), (.slice none 0 0)] [(.string ByteArray.empty), (.slice none 0 0)] sz24 H rfl rfl rfl rfl rfl rfl ⟨⟨rfl, rfl⟩, rfl⟩ (one_cons rfl (one_cons rfl one_nil)) ?_
    intro w4 H
    refine O.assign (v := (.int .i64 1)) rfl rfl rfl ?_
    refine WL.nil ?_
    refine W.ret ?_
    have hq : ((GBox.mk ByteArray.empty ([] : List Int)), 1) = (r0, r1) := Option.some.inj (show some ((GBox.mk ByteArray.empty ([] : List Int)), 1) = some (r0, r1) from hm)
    obtain ⟨he0, hq0⟩ := Prod.mk.inj hq; clear hq; subst he0
    subst hq0
    exact ends2 Try.results17 ⟨_, rfl, run_loadVar_agg ag24 rfl (H.cell 1 rfl)⟩ rfl ⟨_, rfl, H.base, ⟨_, rfl, H.ownR 3 rfl⟩⟩
  · refine W.cond_false (congrArg Value.bool hc1) ?_
    refine W.seq ?_
    refine W.region ?_
    refine O.move (v := (.int .i64 a1)) rfl rfl rfl ?_
    obtain ⟨t2, hy2, hm⟩ := bind_some hm
    refine O.call Try.call61 rfl rfl rfl (c_rate_far _ hy2) ?_
    rintro _ w5 hb4 rfl
    have H := H.ext hb4
    refine O.move (v := (.bool t2)) rfl rfl rfl ?_
    obtain ⟨b3, hm1, hm⟩ := bind_some hm
    refine WL.cut 4 (fun f w => f 1 = (.int .i64 a1) ∧ f 2 = (.int .i64 a2) ∧ f 3 = (.pointer (some ⟨b1, 0, none⟩)) ∧ f 6 = (.pointer (some ⟨b2, 0, none⟩)) ∧ f 23 = .bool b3 ∧ Inv w0 w [boxI b1 24 [(.string a0.Name), va0_0], boxI b2 24 [(.string ByteArray.empty), (.slice none 0 0)], ownI (α := Int) (.slice none 0 0) 3 ([] : List Int)]) ?_ ?_
    · skip
      rcases ite_some hm1 with ⟨hc2, hm1⟩ | ⟨hc2, hm1⟩
      · skip
        refine WL.reset (i := 19) (v := .bool true) (congrArg Value.bool hc2) ?_
        refine O.skip rfl rfl ?_
        refine O.skip rfl rfl ?_
        refine O.skip rfl rfl ?_
        refine O.pick_true (v := (.bool true)) rfl rfl rfl rfl ?_
        refine WL.nil ?_
        have hq : true = b3 := Option.some.inj (show some true = some b3 from hm1)
        subst hq
        exact ⟨rfl, rfl, rfl, rfl, rfl, H⟩
      · skip
        refine WL.reset (i := 19) (v := .bool false) (congrArg Value.bool hc2) ?_
        refine O.move (v := (.int .i64 a2)) rfl rfl rfl ?_
        obtain ⟨t3, hy3, hm1⟩ := bind_some hm1
        refine O.call Try.call59 rfl rfl rfl (c_rate_within _ _ _ hy3) ?_
        rintro _ w6 hb5 rfl
        have H := H.ext hb5
        refine O.not rfl rfl rfl ?_
        refine O.pick_false (v := (.bool (!t3))) rfl rfl rfl rfl ?_
        refine WL.nil ?_
        have hq : (!t3) = b3 := Option.some.inj (show some (!t3) = some b3 from hm1)
        subst hq
        exact ⟨rfl, rfl, rfl, rfl, rfl, H⟩
    · skip
      rintro f w ⟨hf1, hf2, hf3, hf6, hf23, H⟩
      obtain ⟨u1, rfl⟩ : ∃ u1, f = (upd (upd (upd (upd (upd u1 1 (.int .i64 a1)) 2 (.int .i64 a2)) 3 (.pointer (some ⟨b1, 0, none⟩))) 6 (.pointer (some ⟨b2, 0, none⟩))) 23 (.bool b3)) := ⟨f, by rw [upd_self hf1, upd_self hf2, upd_self hf3, upd_self hf6, upd_self hf23]⟩
      refine O.assign (v := (.bool b3)) rfl rfl rfl ?_
      refine WL.nil ?_
      rcases ite_some hm with ⟨hc3, hm⟩ | ⟨hc3, hm⟩
      · refine W.cond_true (congrArg Value.bool hc3) ?_
        refine W.seq ?_
        refine W.region ?_
        refine O.build (v := (.agg #[(.string ByteArray.empty), (.slice none 0 0)])) (fun w => bd24_  w) rfl rfl rfl ?_
        have H := H.addNil (α := Int) (E := 3)
        refine O.store 1 0 [(.string ByteArray.empty), (.slice none 0 0)] [(.string ByteArray.empty), (.slice none 0 0)] sz24 H rfl rfl rfl rfl rfl rfl ⟨⟨rfl, rfl⟩, rfl⟩ (one_cons rfl (one_cons rfl one_nil)) ?_
        intro w7 H
        refine O.assign (v := (.int .i64 7)) rfl rfl rfl ?_
        refine WL.nil ?_
        refine W.ret ?_
        have hq : ((GBox.mk ByteArray.empty ([] : List Int)), 7) = (r0, r1) := Option.some.inj (show some ((GBox.mk ByteArray.empty ([] : List Int)), 7) = some (r0, r1) from hm)
        obtain ⟨he0, hq0⟩ := Prod.mk.inj hq; clear hq; subst he0
        subst hq0
        exact ends2 Try.results17 ⟨_, rfl, run_loadVar_agg ag24 rfl (H.cell 1 rfl)⟩ rfl ⟨_, rfl, H.base, ⟨_, rfl, H.ownR 3 rfl⟩⟩
      · refine W.cond_false (congrArg Value.bool hc3) ?_
        refine W.skip ?_
        refine W.seq ?_
        refine W.region ?_
        refine O.fieldAddr fd24_0 rfl rfl rfl ?_
        refine O.load sc9 rfl rfl rfl (H.cell 0 rfl 0 _ rfl) ?_
        refine O.build (v := (.agg #[(.string a0.Name), (.slice none 0 0)])) (fun w => bd24_0 _ w) rfl rfl rfl ?_
        refine O.alloc [(.string ByteArray.empty), (.slice none 0 0)] ze24 H rfl rfl rfl ?_
        intro b4 w8 H hb6
        have H := H.addNil (α := Int) (E := 3)
        have H := H.addNil (α := Int) (E := 3)
        refine O.store 3 0 [(.string a0.Name), (.slice none 0 0)] [(.string a0.Name), (.slice none 0 0)] sz24 H rfl rfl rfl rfl rfl rfl ⟨⟨rfl, rfl⟩, rfl⟩ (one_cons rfl (one_cons rfl one_nil)) ?_
        intro w9 H
        refine WL.nil ?_
        refine W.seq ?_
        refine W.seq ?_
        refine W.region ?_
        refine O.fieldAddr fd24_1 rfl rfl rfl ?_
        refine O.load sc22 rfl rfl rfl (H.cell 0 rfl 1 _ rfl) ?_
        refine O.lenS Try.underlying22 (H.arg ha0_0) rfl rfl rfl ?_
        refine O.move (v := (.int .i64 0)) rfl rfl rfl ?_
        refine WL.nil ?_
        obtain ⟨s1, hm2, hm⟩ := bind_some hm
        refine W.via (fun f w => ∃ v4 : Value, f 6 = (.pointer (some ⟨b2, 0, none⟩)) ∧ f 8 = (.pointer (some ⟨b4, 0, none⟩)) ∧ Inv w0 w [boxI b2 24 [(.string ByteArray.empty), (.slice none 0 0)], ownI (α := Int) (.slice none 0 0) 3 ([] : List Int), boxI b4 24 [(.string a0.Name), v4], ownI (α := Int) v4 3 s1]) ?_ ?_
        · skip
          refine W.block ?_
          have hbdik1 := (H.arg ha0_0).len_le
          have H := H.keep [1, 2, 3, 5] [boxI b2 24 [(.string ByteArray.empty), (.slice none 0 0)], ownI (α := Int) (.slice none 0 0) 3 ([] : List Int), boxI b4 24 [(.string a0.Name), (.slice none 0 0)], ownI (α := Int) (.slice none 0 0) 3 ([] : List Int)] rfl (by decide)
          refine W.rangeN (i := 0) hm2 (fun rem ik1 s f w => ∃ z2 : (List Int), ∃ v2 : Value, z2 = s ∧ (ik1 : Int) + rem = max 0 ((a0.Errors.length : Nat) : Int) ∧ f 31 = .int .i64 (ik1 : Int) ∧ f 30 = (.int .i64 ((a0.Errors.length : Nat) : Int)) ∧ f 1 = (.int .i64 a1) ∧ f 2 = (.int .i64 a2) ∧ f 6 = (.pointer (some ⟨b2, 0, none⟩)) ∧ f 8 = (.pointer (some ⟨b4, 0, none⟩)) ∧ f 29 = va0_0 ∧ Inv w0 w [boxI b2 24 [(.string ByteArray.empty), (.slice none 0 0)], ownI (α := Int) (.slice none 0 0) 3 ([] : List Int), boxI b4 24 [(.string a0.Name), v2], ownI (α := Int) v2 3 z2]) ?_ ?_ ?_
          · skip
            exact ⟨_, (.slice none 0 0), rfl, rangeN_start, rfl, rfl, rfl, rfl, rfl, rfl, rfl, H⟩
          · skip
            rintro k ik1 _ st f w ⟨z2, v2, rfl, hdropk1, hf31, hf30, hf1, hf2, hf6, hf8, hf29, H⟩ hm3
            have hltk1 := rangeN_lt hdropk1
            obtain ⟨u2, rfl⟩ : ∃ u2, f = (upd (upd (upd (upd (upd (upd (upd u2 31 (.int .i64 (ik1 : Int))) 30 (.int .i64 ((a0.Errors.length : Nat) : Int))) 1 (.int .i64 a1)) 2 (.int .i64 a2)) 6 (.pointer (some ⟨b2, 0, none⟩))) 8 (.pointer (some ⟨b4, 0, none⟩))) 29 va0_0) := ⟨f, by rw [upd_self hf31, upd_self hf30, upd_self hf1, upd_self hf2, upd_self hf6, upd_self hf8, upd_self hf29]⟩
            have hinck1 := addI_lt hltk1 hbdik1
            refine W.seq ?_
            refine W.region ?_
            refine O.lss rfl rfl rfl rfl ?_
            refine WL.nil ?_
            refine W.seq ?_
            refine W.cond_true (congrArg Value.bool (decide_eq_true hltk1)) ?_
            refine W.skip ?_
            refine W.seq ?_
            refine W.block ?_
            refine W.seq ?_
            refine W.region ?_
            refine O.move (v := (.int .i64 (ik1 : Int))) rfl rfl rfl ?_
            obtain ⟨x1, hx1, hm3⟩ := bind_some hm3
            obtain ⟨p1, hp1, hrp1⟩ := fix_indexAddr Try.underlying22 sz3 ha0_0 hx1
            refine hrp1 rfl rfl rfl rfl ?_
            refine O.load sc3 rfl rfl rfl ((hp1.mono H.base).flat 0 _ rfl) ?_
            refine O.assign (v := (.int .i64 (ik1 : Int))) rfl rfl rfl ?_
            refine O.assign (v := (.int .i64 x1)) rfl rfl rfl ?_
            refine WL.nil ?_
            refine W.region ?_
            refine O.fieldAddr fd24_1 rfl rfl rfl ?_
            refine O.load sc22 rfl rfl rfl (H.cell 2 rfl 1 _ rfl) ?_
            refine O.move (v := (.int .i64 x1)) rfl rfl rfl ?_
            refine O.move (v := (.int .i64 a1)) rfl rfl rfl ?_
            obtain ⟨t4, ht4, hm3⟩ := bind_some hm3
            refine O.add rfl rfl rfl rfl ht4 ?_
            refine O.move (v := (.int .i64 a2)) rfl rfl rfl ?_
            refine O.move (v := (.int .i64 (ik1 : Int))) rfl rfl rfl ?_
            obtain ⟨t5, ht5, hm3⟩ := bind_some hm3
            refine O.mul rfl rfl rfl rfl ht5 ?_
            obtain ⟨t6, ht6, hm3⟩ := bind_some hm3
            refine O.add rfl rfl rfl rfl ht6 ?_
            refine O.buildSlice (α := Int) [(.int .i64 t6)] [t6] Try.underlying22 el3 H rfl rfl rfl rfl rfl rfl rfl ?_
            intro v5 w10 H hb7
            obtain ⟨t7, ht7, hm3⟩ := bind_some hm3
            refine O.append 3 Try.underlying22 el3 rfl H rfl (H.own 4 rfl) ht7 rfl rfl rfl rfl ?_
            intro v6 w11 H
            refine O.fieldAddr fd24_1 rfl rfl rfl ?_
            refine O.store 2 1 [v6] [(.string a0.Name), v6] sz22 H rfl rfl rfl rfl rfl (SliceR.cells1 (H.own 3 rfl)) ⟨⟨rfl, rfl⟩, rfl⟩ (one_cons (SliceR.one (H.own 3 rfl)) one_nil) ?_
            intro w12 H
            refine WL.nil ?_
            refine W.region ?_
            refine O.add rfl rfl rfl rfl hinck1 ?_
            refine O.move (v := .int .i64 ((ik1 : Int) + 1)) rfl rfl rfl ?_
            refine WL.nil ?_
            have H := H.keep [0, 1, 2, 3] [boxI b2 24 [(.string ByteArray.empty), (.slice none 0 0)], ownI (α := Int) (.slice none 0 0) 3 ([] : List Int), boxI b4 24 [(.string a0.Name), v6], ownI (α := Int) v6 3 t7] rfl (by decide)
            obtain rfl := Option.some.inj hm3
            exact ⟨_, rfl, _, v6, rfl, rangeN_next hdropk1, rfl, rfl, rfl, rfl, rfl, rfl, rfl, H⟩
          · skip
            rintro ik1 _ f w ⟨z2, v2, rfl, hdropk1, hf31, hf30, hf1, hf2, hf6, hf8, hf29, H⟩ hfin
            have hltk1 := rangeN_end hdropk1
            obtain ⟨u3, rfl⟩ : ∃ u3, f = (upd (upd (upd (upd (upd (upd (upd u3 31 (.int .i64 (ik1 : Int))) 30 (.int .i64 ((a0.Errors.length : Nat) : Int))) 1 (.int .i64 a1)) 2 (.int .i64 a2)) 6 (.pointer (some ⟨b2, 0, none⟩))) 8 (.pointer (some ⟨b4, 0, none⟩))) 29 va0_0) := ⟨f, by rw [upd_self hf31, upd_self hf30, upd_self hf1, upd_self hf2, upd_self hf6, upd_self hf8, upd_self hf29]⟩
            refine W.seq ?_
            refine W.region ?_
            refine O.lss rfl rfl rfl rfl ?_
            refine WL.nil ?_
            refine W.seq ?_
            refine W.cond_false (congrArg Value.bool (decide_eq_false hltk1)) ?_
            refine W.exit ?_
            have hq : z2 = s1 := hfin
            subst hq
            refine xT rfl ?_
            exact ⟨v2, rfl, rfl, H⟩
        · skip
          rintro f w ⟨v4, hf6, hf8, H⟩
          obtain ⟨u4, rfl⟩ : ∃ u4, f = (upd (upd u4 6 (.pointer (some ⟨b2, 0, none⟩))) 8 (.pointer (some ⟨b4, 0, none⟩))) := ⟨f, by rw [upd_self hf6, upd_self hf8]⟩
          refine W.seq ?_
          refine W.region ?_
          refine O.loadA [(.string a0.Name), v4] ag24 rfl rfl rfl rfl (H.cell 2 rfl) ?_
          obtain ⟨⟨t8, t9⟩, hy4, hm⟩ := bind_some hm
          refine O.call Try.call62 rfl rfl rfl (c_rate_told _ (GBox.mk a0.Name s1) (H.own 3 rfl) hy4) ?_
          rintro _ w13 hb8 ⟨v7, rfl, ho1⟩
          have H := H.ext hb8
          have H := H.pass 3 rfl ho1
          refine O.extract (v := (.agg #[(.string t8.Name), v7])) rfl rfl rfl rfl ?_
          refine O.extract (v := (.int .i64 t9)) rfl rfl rfl rfl ?_
          refine O.store 0 0 [(.string t8.Name), v7] [(.string t8.Name), v7] sz24 H rfl rfl rfl rfl rfl rfl ⟨⟨rfl, rfl⟩, rfl⟩ (one_cons rfl (one_cons (SliceR.one (H.own 3 rfl)) one_nil)) ?_
          intro w14 H
          refine O.assign (v := (.int .i64 t9)) rfl rfl rfl ?_
          refine WL.nil ?_
          refine W.ret ?_
          have hq : ((GBox.mk t8.Name t8.Errors), t9) = (r0, r1) := Option.some.inj (show some ((GBox.mk t8.Name t8.Errors), t9) = some (r0, r1) from hm)
          obtain ⟨he0, hq0⟩ := Prod.mk.inj hq; clear hq; subst he0
          subst hq0
          exact ends2 Try.results17 ⟨_, rfl, run_loadVar_agg ag24 rfl (H.cell 0 rfl)⟩ rfl ⟨_, rfl, H.base, ⟨_, rfl, H.ownR 3 rfl⟩⟩

set_option maxRecDepth 20000 in
theorem c_noongunref06_Name {w0 : World} (a0 : ByteArray) {r0 : Bool} (hm : noongunref06_Name a0 = some r0) :
    Calls Try.prog 70 #[(.string a0)] w0 (Ret w0 fun _ v => v = (.bool r0)) := by
  unfold noongunref06_Name at hm
  refine calls_of_W Try.func70 rfl Try.ntmps70 (Nat.le_of_ble_eq_true rfl) ?_
  have H := Inv.start (w := w0)
  refine W.seq ?_
  refine W.region ?_
  refine O.assign (v := (.bool false)) rfl rfl rfl ?_
  refine WL.nil ?_
  refine W.seq ?_
  refine W.seq ?_
  refine W.region ?_
  refine O.move (v := (.string a0)) rfl rfl rfl ?_
  refine O.lenStr Try.underlying9 rfl rfl rfl ?_
  refine O.move (v := (.int .i64 0)) rfl rfl rfl ?_
  refine WL.nil ?_
  obtain ⟨o1, hm1, hm⟩ := bind_some hm
  refine W.via (fun f w => o1 = .next () ∧ f 0 = (.string a0) ∧ Inv w0 w []) ?_ ?_
  · skip
    refine W.block ?_
    obtain ⟨hbdik1, hm1⟩ := chk_some hm1
    refine W.rangeN (i := 0) hm1 (fun rem ik1 s f w => () = s ∧ (ik1 : Int) + rem = max 0 ((a0.size : Nat) : Int) ∧ f 7 = .int .i64 (ik1 : Int) ∧ f 6 = (.int .i64 ((a0.size : Nat) : Int)) ∧ f 0 = (.string a0) ∧ Inv w0 w []) ?_ ?_ ?_
    · skip
      exact ⟨rfl, rangeN_start, rfl, rfl, rfl, H⟩
    · skip
      rintro k ik1 _ st f w ⟨rfl, hdropk1, hf7, hf6, hf0, H⟩ hm2
      have hltk1 := rangeN_lt hdropk1
      obtain ⟨u1, rfl⟩ : ∃ u1, f = (upd (upd (upd u1 7 (.int .i64 (ik1 : Int))) 6 (.int .i64 ((a0.size : Nat) : Int))) 0 (.string a0)) := ⟨f, by rw [upd_self hf7, upd_self hf6, upd_self hf0]⟩
      have hinck1 := addI_lt hltk1 (inI_iff.1 hbdik1).2
      refine W.seq ?_
      refine W.region ?_
      refine O.lss rfl rfl rfl rfl ?_
      refine WL.nil ?_
      refine W.seq ?_
      refine W.cond_true (congrArg Value.bool (decide_eq_true hltk1)) ?_
      refine W.skip ?_
      refine W.seq ?_
      refine W.block ?_
      refine W.seq ?_
      refine W.region ?_
      refine O.move (v := (.int .i64 (ik1 : Int))) rfl rfl rfl ?_
      refine O.assign (v := (.int .i64 (ik1 : Int))) rfl rfl rfl ?_
      refine WL.nil ?_
      refine W.seq ?_
      refine W.region ?_
      refine O.move (v := (.string a0)) rfl rfl rfl ?_
      refine O.move (v := (.int .i64 (ik1 : Int))) rfl rfl rfl ?_
      obtain ⟨x1, hx1, hm2⟩ := bind_some hm2
      refine O.indexStr Try.underlying9 hx1 rfl rfl rfl rfl ?_
      refine O.assign (v := (.int .u8 (x1.toNat : Int))) rfl rfl rfl ?_
      refine WL.nil ?_
      refine W.seq ?_
      refine W.region ?_
      refine O.move (v := (.int .u8 (x1.toNat : Int))) rfl rfl rfl ?_
      refine O.lss rfl rfl rfl rfl ?_
      refine O.move (v := (.bool (decide ((x1.toNat : Int) < 97)))) rfl rfl rfl ?_
      refine WL.cut 3 (fun f w => f 0 = (.string a0) ∧ f 3 = (.int .i64 (ik1 : Int)) ∧ f 4 = (.int .u8 (x1.toNat : Int)) ∧ f 6 = (.int .i64 ((a0.size : Nat) : Int)) ∧ f 7 = (.int .i64 (ik1 : Int)) ∧ f 18 = .bool ((decide ((x1.toNat : Int) < 97)) || (decide (122 < (x1.toNat : Int)))) ∧ Inv w0 w []) ?_ ?_
      · skip
        rcases bool_ft (decide ((x1.toNat : Int) < 97)) with hc1 | hc1
        · skip
          refine WL.reset (i := 15) (v := .bool false) (congrArg Value.bool hc1) ?_
          refine O.move (v := (.int .u8 (x1.toNat : Int))) rfl rfl rfl ?_
          refine O.gtr rfl rfl rfl rfl ?_
          refine O.pick_false (v := (.bool (decide (122 < (x1.toNat : Int))))) rfl rfl rfl rfl ?_
          refine WL.nil ?_
          exact ⟨rfl, rfl, rfl, rfl, rfl, congrArg Value.bool (or_f hc1), H⟩
        · skip
          refine WL.reset (i := 15) (v := .bool true) (congrArg Value.bool hc1) ?_
          refine O.skip rfl rfl ?_
          refine O.skip rfl rfl ?_
          refine O.pick_true (v := (.bool true)) rfl rfl rfl rfl ?_
          refine WL.nil ?_
          exact ⟨rfl, rfl, rfl, rfl, rfl, congrArg Value.bool (or_t hc1), H⟩
      · skip
        rintro f w ⟨hf0, hf3, hf4, hf6, hf7, hf18, H⟩
        obtain ⟨u2, rfl⟩ : ∃ u2, f = (upd (upd (upd (upd (upd (upd u2 0 (.string a0)) 3 (.int .i64 (ik1 : Int))) 4 (.int .u8 (x1.toNat : Int))) 6 (.int .i64 ((a0.size : Nat) : Int))) 7 (.int .i64 (ik1 : Int))) 18 (.bool ((decide ((x1.toNat : Int) < 97)) || (decide (122 < (x1.toNat : Int)))))) := ⟨f, by rw [upd_self hf0, upd_self hf3, upd_self hf4, upd_self hf6, upd_self hf7, upd_self hf18]⟩
        refine O.move (v := (.bool ((decide ((x1.toNat : Int) < 97)) || (decide (122 < (x1.toNat : Int)))))) rfl rfl rfl ?_
        refine WL.cut 15 (fun f w => f 0 = (.string a0) ∧ f 6 = (.int .i64 ((a0.size : Nat) : Int)) ∧ f 7 = (.int .i64 (ik1 : Int)) ∧ f 34 = .bool (((decide ((x1.toNat : Int) < 97)) || (decide (122 < (x1.toNat : Int)))) && (((ik1 : Int) == 0) || (((x1.toNat : Int) != 95) && ((decide ((x1.toNat : Int) < 48)) || (decide (57 < (x1.toNat : Int))))))) ∧ Inv w0 w []) ?_ ?_
        · skip
          rcases bool_ft ((decide ((x1.toNat : Int) < 97)) || (decide (122 < (x1.toNat : Int)))) with hc2 | hc2
          · skip
            refine WL.reset (i := 19) (v := .bool false) (congrArg Value.bool hc2) ?_
            refine O.skip rfl rfl ?_
            refine O.skip rfl rfl ?_
            refine O.skip rfl rfl ?_
            refine O.skip rfl rfl ?_
            refine O.skip rfl rfl ?_
            refine O.skip rfl rfl ?_
            refine O.skip rfl rfl ?_
            refine O.skip rfl rfl ?_
            refine O.skip rfl rfl ?_
            refine O.skip rfl rfl ?_
            refine O.skip rfl rfl ?_
            refine O.skip rfl rfl ?_
            refine O.skip rfl rfl ?_
            refine O.skip rfl rfl ?_
            refine O.pick_false (v := (.bool false)) rfl rfl rfl rfl ?_
            refine WL.nil ?_
            exact ⟨rfl, rfl, rfl, congrArg Value.bool (and_f hc2), H⟩
          · skip
            refine WL.reset (i := 19) (v := .bool true) (congrArg Value.bool hc2) ?_
            refine O.move (v := (.int .i64 (ik1 : Int))) rfl rfl rfl ?_
            refine O.eql rfl rfl rfl rfl ?_
            refine O.move (v := (.bool ((ik1 : Int) == 0))) rfl rfl rfl ?_
            refine WL.cut 11 (fun f w => f 0 = (.string a0) ∧ f 6 = (.int .i64 ((a0.size : Nat) : Int)) ∧ f 7 = (.int .i64 (ik1 : Int)) ∧ f 19 = (.bool true) ∧ f 20 = (.int .i64 (ik1 : Int)) ∧ f 21 = (.bool ((ik1 : Int) == 0)) ∧ f 22 = (.bool ((ik1 : Int) == 0)) ∧ f 33 = .bool (((ik1 : Int) == 0) || (((x1.toNat : Int) != 95) && ((decide ((x1.toNat : Int) < 48)) || (decide (57 < (x1.toNat : Int)))))) ∧ Inv w0 w []) ?_ ?_
            · skip
              rcases bool_ft ((ik1 : Int) == 0) with hc3 | hc3
              · skip
                refine WL.reset (i := 22) (v := .bool false) (congrArg Value.bool hc3) ?_
                refine O.move (v := (.int .u8 (x1.toNat : Int))) rfl rfl rfl ?_
                refine O.neq rfl rfl rfl rfl ?_
                refine O.move (v := (.bool ((x1.toNat : Int) != 95))) rfl rfl rfl ?_
                refine WL.cut 7 (fun f w => f 0 = (.string a0) ∧ f 6 = (.int .i64 ((a0.size : Nat) : Int)) ∧ f 7 = (.int .i64 (ik1 : Int)) ∧ f 19 = (.bool true) ∧ f 20 = (.int .i64 (ik1 : Int)) ∧ f 21 = (.bool ((ik1 : Int) == 0)) ∧ f 22 = (.bool false) ∧ f 23 = (.int .u8 (x1.toNat : Int)) ∧ f 24 = (.bool ((x1.toNat : Int) != 95)) ∧ f 25 = (.bool ((x1.toNat : Int) != 95)) ∧ f 32 = .bool (((x1.toNat : Int) != 95) && ((decide ((x1.toNat : Int) < 48)) || (decide (57 < (x1.toNat : Int))))) ∧ Inv w0 w []) ?_ ?_
                · skip
                  rcases bool_ft ((x1.toNat : Int) != 95) with hc4 | hc4
                  · skip
                    refine WL.reset (i := 25) (v := .bool false) (congrArg Value.bool hc4) ?_
                    refine O.skip rfl rfl ?_
                    refine O.skip rfl rfl ?_
                    refine O.skip rfl rfl ?_
                    refine O.skip rfl rfl ?_
                    refine O.skip rfl rfl ?_
                    refine O.skip rfl rfl ?_
                    refine O.pick_false (v := (.bool false)) rfl rfl rfl rfl ?_
                    refine WL.nil ?_
                    exact ⟨rfl, rfl, rfl, rfl, rfl, rfl, rfl, rfl, rfl, (congrArg Value.bool hc4).symm, congrArg Value.bool (and_f hc4), H⟩
                  · skip
                    refine WL.reset (i := 25) (v := .bool true) (congrArg Value.bool hc4) ?_
                    refine O.move (v := (.int .u8 (x1.toNat : Int))) rfl rfl rfl ?_
                    refine O.lss rfl rfl rfl rfl ?_
                    refine O.move (v := (.bool (decide ((x1.toNat : Int) < 48)))) rfl rfl rfl ?_
                    refine WL.cut 3 (fun f w => f 0 = (.string a0) ∧ f 6 = (.int .i64 ((a0.size : Nat) : Int)) ∧ f 7 = (.int .i64 (ik1 : Int)) ∧ f 19 = (.bool true) ∧ f 20 = (.int .i64 (ik1 : Int)) ∧ f 21 = (.bool ((ik1 : Int) == 0)) ∧ f 22 = (.bool false) ∧ f 23 = (.int .u8 (x1.toNat : Int)) ∧ f 24 = (.bool ((x1.toNat : Int) != 95)) ∧ f 25 = (.bool true) ∧ f 26 = (.int .u8 (x1.toNat : Int)) ∧ f 27 = (.bool (decide ((x1.toNat : Int) < 48))) ∧ f 28 = (.bool (decide ((x1.toNat : Int) < 48))) ∧ f 31 = .bool ((decide ((x1.toNat : Int) < 48)) || (decide (57 < (x1.toNat : Int)))) ∧ Inv w0 w []) ?_ ?_
                    · skip
                      rcases bool_ft (decide ((x1.toNat : Int) < 48)) with hc5 | hc5
                      · skip
                        refine WL.reset (i := 28) (v := .bool false) (congrArg Value.bool hc5) ?_
                        refine O.move (v := (.int .u8 (x1.toNat : Int))) rfl rfl rfl ?_
                        refine O.gtr rfl rfl rfl rfl ?_
                        refine O.pick_false (v := (.bool (decide (57 < (x1.toNat : Int))))) rfl rfl rfl rfl ?_
                        refine WL.nil ?_
                        exact ⟨rfl, rfl, rfl, rfl, rfl, rfl, rfl, rfl, rfl, rfl, rfl, rfl, (congrArg Value.bool hc5).symm, congrArg Value.bool (or_f hc5), H⟩
                      · skip
                        refine WL.reset (i := 28) (v := .bool true) (congrArg Value.bool hc5) ?_
                        refine O.skip rfl rfl ?_
                        refine O.skip rfl rfl ?_
                        refine O.pick_true (v := (.bool true)) rfl rfl rfl rfl ?_
                        refine WL.nil ?_
                        exact ⟨rfl, rfl, rfl, rfl, rfl, rfl, rfl, rfl, rfl, rfl, rfl, rfl, (congrArg Value.bool hc5).symm, congrArg Value.bool (or_t hc5), H⟩
                    · skip
                      rintro f w ⟨hf0, hf6, hf7, hf19, hf20, hf21, hf22, hf23, hf24, hf25, hf26, hf27, hf28, hf31, H⟩
                      obtain ⟨u3, rfl⟩ : ∃ u3, f = (upd (upd (upd (upd (upd (upd (upd (upd (upd (upd (upd (upd (upd (upd u3 0 (.string a0)) 6 (.int .i64 ((a0.size : Nat) : Int))) 7 (.int .i64 (ik1 : Int))) 19 (.bool true)) 20 (.int .i64 (ik1 : Int))) 21 (.bool ((ik1 : Int) == 0))) 22 (.bool false)) 23 (.int .u8 (x1.toNat : Int))) 24 (.bool ((x1.toNat : Int) != 95))) 25 (.bool true)) 26 (.int .u8 (x1.toNat : Int))) 27 (.bool (decide ((x1.toNat : Int) < 48)))) 28 (.bool (decide ((x1.toNat : Int) < 48)))) 31 (.bool ((decide ((x1.toNat : Int) < 48)) || (decide (57 < (x1.toNat : Int)))))) := ⟨f, by rw [upd_self hf0, upd_self hf6, upd_self hf7, upd_self hf19, upd_self hf20, upd_self hf21, upd_self hf22, upd_self hf23, upd_self hf24, upd_self hf25, upd_self hf26, upd_self hf27, upd_self hf28, upd_self hf31]⟩
                      refine O.pick_true (v := (.bool ((decide ((x1.toNat : Int) < 48)) || (decide (57 < (x1.toNat : Int)))))) rfl rfl rfl rfl ?_
                      refine WL.nil ?_
                      exact ⟨rfl, rfl, rfl, rfl, rfl, rfl, rfl, rfl, rfl, (congrArg Value.bool hc4).symm, congrArg Value.bool (and_t hc4), H⟩
                · skip
                  rintro f w ⟨hf0, hf6, hf7, hf19, hf20, hf21, hf22, hf23, hf24, hf25, hf32, H⟩
                  obtain ⟨u4, rfl⟩ : ∃ u4, f = (upd (upd (upd (upd (upd (upd (upd (upd (upd (upd (upd u4 0 (.string a0)) 6 (.int .i64 ((a0.size : Nat) : Int))) 7 (.int .i64 (ik1 : Int))) 19 (.bool true)) 20 (.int .i64 (ik1 : Int))) 21 (.bool ((ik1 : Int) == 0))) 22 (.bool false)) 23 (.int .u8 (x1.toNat : Int))) 24 (.bool ((x1.toNat : Int) != 95))) 25 (.bool ((x1.toNat : Int) != 95))) 32 (.bool (((x1.toNat : Int) != 95) && ((decide ((x1.toNat : Int) < 48)) || (decide (57 < (x1.toNat : Int))))))) := ⟨f, by rw [upd_self hf0, upd_self hf6, upd_self hf7, upd_self hf19, upd_self hf20, upd_self hf21, upd_self hf22, upd_self hf23, upd_self hf24, upd_self hf25, upd_self hf32]⟩
                  refine O.pick_false (v := (.bool (((x1.toNat : Int) != 95) && ((decide ((x1.toNat : Int) < 48)) || (decide (57 < (x1.toNat : Int))))))) rfl rfl rfl rfl ?_
                  refine WL.nil ?_
                  exact ⟨rfl, rfl, rfl, rfl, rfl, rfl, (congrArg Value.bool hc3).symm, congrArg Value.bool (or_f hc3), H⟩
              · skip
                refine WL.reset (i := 22) (v := .bool true) (congrArg Value.bool hc3) ?_
                refine O.skip rfl rfl ?_
                refine O.skip rfl rfl ?_
                refine O.skip rfl rfl ?_
                refine O.skip rfl rfl ?_
                refine O.skip rfl rfl ?_
                refine O.skip rfl rfl ?_
                refine O.skip rfl rfl ?_
                refine O.skip rfl rfl ?_
                refine O.skip rfl rfl ?_
                refine O.skip rfl rfl ?_
                refine O.pick_true (v := (.bool true)) rfl rfl rfl rfl ?_
                refine WL.nil ?_
                exact ⟨rfl, rfl, rfl, rfl, rfl, rfl, (congrArg Value.bool hc3).symm, congrArg Value.bool (or_t hc3), H⟩
            · skip
              rintro f w ⟨hf0, hf6, hf7, hf19, hf20, hf21, hf22, hf33, H⟩
              obtain ⟨u5, rfl⟩ : ∃ u5, f = (upd (upd (upd (upd (upd (upd (upd (upd u5 0 (.string a0)) 6 (.int .i64 ((a0.size : Nat) : Int))) 7 (.int .i64 (ik1 : Int))) 19 (.bool true)) 20 (.int .i64 (ik1 : Int))) 21 (.bool ((ik1 : Int) == 0))) 22 (.bool ((ik1 : Int) == 0))) 33 (.bool (((ik1 : Int) == 0) || (((x1.toNat : Int) != 95) && ((decide ((x1.toNat : Int) < 48)) || (decide (57 < (x1.toNat : Int)))))))) := ⟨f, by rw [upd_self hf0, upd_self hf6, upd_self hf7, upd_self hf19, upd_self hf20, upd_self hf21, upd_self hf22, upd_self hf33]⟩
              refine O.pick_true (v := (.bool (((ik1 : Int) == 0) || (((x1.toNat : Int) != 95) && ((decide ((x1.toNat : Int) < 48)) || (decide (57 < (x1.toNat : Int)))))))) rfl rfl rfl rfl ?_
              refine WL.nil ?_
              exact ⟨rfl, rfl, rfl, congrArg Value.bool (and_t hc2), H⟩
        · skip
          rintro f w ⟨hf0, hf6, hf7, hf34, H⟩
          obtain ⟨u6, rfl⟩ : ∃ u6, f = (upd (upd (upd (upd u6 0 (.string a0)) 6 (.int .i64 ((a0.size : Nat) : Int))) 7 (.int .i64 (ik1 : Int))) 34 (.bool (((decide ((x1.toNat : Int) < 97)) || (decide (122 < (x1.toNat : Int)))) && (((ik1 : Int) == 0) || (((x1.toNat : Int) != 95) && ((decide ((x1.toNat : Int) < 48)) || (decide (57 < (x1.toNat : Int))))))))) := ⟨f, by rw [upd_self hf0, upd_self hf6, upd_self hf7, upd_self hf34]⟩
          refine WL.nil ?_
          rcases ite_some hm2 with ⟨hc6, hm2⟩ | ⟨hc6, hm2⟩
          · refine W.cond_true (congrArg Value.bool hc6) ?_
            refine W.seq ?_
            refine W.region ?_
            refine O.assign (v := (.bool false)) rfl rfl rfl ?_
            refine WL.nil ?_
            refine W.ret ?_
            obtain rfl := Option.some.inj hm2
            refine ⟨_, rfl, ?_⟩
            rintro rfl
            have hq : false = r0 := Option.some.inj (show some false = some r0 from hm)
            subst hq
            exact ends1 Try.results70 rfl ⟨_, rfl, H.base, rfl⟩
          · refine W.cond_false (congrArg Value.bool hc6) ?_
            refine W.skip ?_
            refine W.region ?_
            refine O.add rfl rfl rfl rfl hinck1 ?_
            refine O.move (v := .int .i64 ((ik1 : Int) + 1)) rfl rfl rfl ?_
            refine WL.nil ?_
            obtain rfl := Option.some.inj hm2
            exact ⟨_, rfl, rfl, rangeN_next hdropk1, rfl, rfl, rfl, H⟩
    · skip
      rintro ik1 _ f w ⟨rfl, hdropk1, hf7, hf6, hf0, H⟩ hfin
      have hltk1 := rangeN_end hdropk1
      obtain ⟨u7, rfl⟩ : ∃ u7, f = (upd (upd (upd u7 7 (.int .i64 (ik1 : Int))) 6 (.int .i64 ((a0.size : Nat) : Int))) 0 (.string a0)) := ⟨f, by rw [upd_self hf7, upd_self hf6, upd_self hf0]⟩
      refine W.seq ?_
      refine W.region ?_
      refine O.lss rfl rfl rfl rfl ?_
      refine WL.nil ?_
      refine W.seq ?_
      refine W.cond_false (congrArg Value.bool (decide_eq_false hltk1)) ?_
      refine W.exit ?_
      obtain rfl : Ctl.next () = o1 := hfin
      refine xT rfl ?_
      exact ⟨rfl, rfl, H⟩
  · skip
    rintro f w ⟨rfl, hf0, H⟩
    obtain ⟨u8, rfl⟩ : ∃ u8, f = (upd u8 0 (.string a0)) := ⟨f, by rw [upd_self hf0]⟩
    refine W.seq ?_
    refine W.region ?_
    refine O.move (v := (.string a0)) rfl rfl rfl ?_
    refine O.lenStr Try.underlying9 rfl rfl rfl ?_
    refine O.geq rfl rfl rfl rfl ?_
    refine O.move (v := (.bool (decide (1 ≤ ((a0.size : Nat) : Int))))) rfl rfl rfl ?_
    refine WL.cut 4 (fun f w => f 43 = .bool ((decide (1 ≤ ((a0.size : Nat) : Int))) && (decide (((a0.size : Nat) : Int) ≤ 16))) ∧ Inv w0 w []) ?_ ?_
    · skip
      rcases bool_ft (decide (1 ≤ ((a0.size : Nat) : Int))) with hc7 | hc7
      · skip
        refine WL.reset (i := 39) (v := .bool false) (congrArg Value.bool hc7) ?_
        refine O.skip rfl rfl ?_
        refine O.skip rfl rfl ?_
        refine O.skip rfl rfl ?_
        refine O.pick_false (v := (.bool false)) rfl rfl rfl rfl ?_
        refine WL.nil ?_
        exact ⟨congrArg Value.bool (and_f hc7), H⟩
      · skip
        refine WL.reset (i := 39) (v := .bool true) (congrArg Value.bool hc7) ?_
        refine O.move (v := (.string a0)) rfl rfl rfl ?_
        refine O.lenStr Try.underlying9 rfl rfl rfl ?_
        refine O.leq rfl rfl rfl rfl ?_
        refine O.pick_true (v := (.bool (decide (((a0.size : Nat) : Int) ≤ 16)))) rfl rfl rfl rfl ?_
        refine WL.nil ?_
        exact ⟨congrArg Value.bool (and_t hc7), H⟩
    · skip
      rintro f w ⟨hf43, H⟩
      obtain ⟨u9, rfl⟩ : ∃ u9, f = (upd u9 43 (.bool ((decide (1 ≤ ((a0.size : Nat) : Int))) && (decide (((a0.size : Nat) : Int) ≤ 16))))) := ⟨f, by rw [upd_self hf43]⟩
      refine O.assign (v := (.bool ((decide (1 ≤ ((a0.size : Nat) : Int))) && (decide (((a0.size : Nat) : Int) ≤ 16))))) rfl rfl rfl ?_
      refine WL.nil ?_
      refine W.ret ?_
      have hq : ((decide (1 ≤ ((a0.size : Nat) : Int))) && (decide (((a0.size : Nat) : Int) ≤ 16))) = r0 := Option.some.inj (show some ((decide (1 ≤ ((a0.size : Nat) : Int))) && (decide (((a0.size : Nat) : Int) ≤ 16))) = some r0 from hm)
      subst hq
      exact ends1 Try.results70 rfl ⟨_, rfl, H.base, rfl⟩

set_option maxRecDepth 20000 in
theorem c_noongunref06_ValidBox {w0 : World} (va0_0 : Value) (a0 : GBox) (ha0_0 : SliceR w0 va0_0 a0.Errors) {r0 : Bool} (hm : noongunref06_ValidBox a0 = some r0) :
    Calls Try.prog 37 #[(.agg #[(.string a0.Name), va0_0])] w0 (Ret w0 fun _ v => v = (.bool r0)) := by
  unfold noongunref06_ValidBox at hm
  refine calls_of_W Try.func37 rfl Try.ntmps37 (Nat.le_of_ble_eq_true rfl) ?_
  have H := Inv.start (w := w0)
  refine W.seq ?_
  refine W.region ?_
  refine O.box [(.string a0.Name), va0_0] H rfl rfl rfl rfl ?_
  intro b1 w1 H hb1
  refine O.assign (v := (.bool false)) rfl rfl rfl ?_
  refine WL.nil ?_
  refine W.seq ?_
  refine W.seq ?_
  refine W.region ?_
  refine O.fieldAddr fd24_1 rfl rfl rfl ?_
  refine O.load sc22 rfl rfl rfl (H.cell 0 rfl 1 _ rfl) ?_
  refine O.lenS Try.underlying22 (H.arg ha0_0) rfl rfl rfl ?_
  refine O.move (v := (.int .i64 0)) rfl rfl rfl ?_
  refine WL.nil ?_
  obtain ⟨o1, hm1, hm⟩ := bind_some hm
  refine W.via (fun f w => o1 = .next () ∧ f 1 = (.pointer (some ⟨b1, 0, none⟩)) ∧ Inv w0 w [boxI b1 24 [(.string a0.Name), va0_0]]) ?_ ?_
  · skip
    refine W.block ?_
    refine W.rangeL (i := 0) hm1 (fun rem ik1 s f w => () = s ∧ a0.Errors.drop ik1 = rem ∧ f 8 = .int .i64 (ik1 : Int) ∧ f 7 = (.int .i64 ((a0.Errors.length : Nat) : Int)) ∧ f 1 = (.pointer (some ⟨b1, 0, none⟩)) ∧ f 6 = va0_0 ∧ Inv w0 w [boxI b1 24 [(.string a0.Name), va0_0]]) ?_ ?_ ?_
    · skip
      exact ⟨rfl, List.drop_zero, rfl, rfl, rfl, rfl, H⟩
    · skip
      rintro yk1 xs ik1 _ st f w ⟨rfl, hdropk1, hf8, hf7, hf1, hf6, H⟩ hm2
      have hltk1 := drop_lt hdropk1; have hixk1 := drop_idx hdropk1
      obtain ⟨u1, rfl⟩ : ∃ u1, f = (upd (upd (upd (upd u1 8 (.int .i64 (ik1 : Int))) 7 (.int .i64 ((a0.Errors.length : Nat) : Int))) 1 (.pointer (some ⟨b1, 0, none⟩))) 6 va0_0) := ⟨f, by rw [upd_self hf8, upd_self hf7, upd_self hf1, upd_self hf6]⟩
      have hinck1 := addI_lt hltk1 (H.arg ha0_0).len_le
      refine W.seq ?_
      refine W.region ?_
      refine O.lss rfl rfl rfl rfl ?_
      refine WL.nil ?_
      refine W.seq ?_
      refine W.cond_true (congrArg Value.bool (decide_eq_true hltk1)) ?_
      refine W.skip ?_
      refine W.seq ?_
      refine W.block ?_
      refine W.seq ?_
      refine W.region ?_
      obtain ⟨p1, hp1, hrp1⟩ := fix_indexAddr Try.underlying22 sz3 ha0_0 hixk1
      refine hrp1 rfl rfl rfl rfl ?_
      refine O.load sc3 rfl rfl rfl ((hp1.mono H.base).flat 0 _ rfl) ?_
      refine O.assign (v := (.int .i64 yk1)) rfl rfl rfl ?_
      refine WL.nil ?_
      refine W.seq ?_
      refine W.region ?_
      refine O.move (v := (.int .i64 yk1)) rfl rfl rfl ?_
      refine O.lss rfl rfl rfl rfl ?_
      refine O.move (v := (.bool (decide (yk1 < (-86400000))))) rfl rfl rfl ?_
      refine WL.cut 3 (fun f w => f 1 = (.pointer (some ⟨b1, 0, none⟩)) ∧ f 6 = va0_0 ∧ f 7 = (.int .i64 ((a0.Errors.length : Nat) : Int)) ∧ f 8 = (.int .i64 (ik1 : Int)) ∧ f 17 = .bool ((decide (yk1 < (-86400000))) || (decide (86400000 < yk1))) ∧ Inv w0 w [boxI b1 24 [(.string a0.Name), va0_0]]) ?_ ?_
      · skip
        rcases bool_ft (decide (yk1 < (-86400000))) with hc1 | hc1
        · skip
          refine WL.reset (i := 14) (v := .bool false) (congrArg Value.bool hc1) ?_
          refine O.move (v := (.int .i64 yk1)) rfl rfl rfl ?_
          refine O.gtr rfl rfl rfl rfl ?_
          refine O.pick_false (v := (.bool (decide (86400000 < yk1)))) rfl rfl rfl rfl ?_
          refine WL.nil ?_
          exact ⟨rfl, rfl, rfl, rfl, congrArg Value.bool (or_f hc1), H⟩
        · skip
          refine WL.reset (i := 14) (v := .bool true) (congrArg Value.bool hc1) ?_
          refine O.skip rfl rfl ?_
          refine O.skip rfl rfl ?_
          refine O.pick_true (v := (.bool true)) rfl rfl rfl rfl ?_
          refine WL.nil ?_
          exact ⟨rfl, rfl, rfl, rfl, congrArg Value.bool (or_t hc1), H⟩
      · skip
        rintro f w ⟨hf1, hf6, hf7, hf8, hf17, H⟩
        obtain ⟨u2, rfl⟩ : ∃ u2, f = (upd (upd (upd (upd (upd u2 1 (.pointer (some ⟨b1, 0, none⟩))) 6 va0_0) 7 (.int .i64 ((a0.Errors.length : Nat) : Int))) 8 (.int .i64 (ik1 : Int))) 17 (.bool ((decide (yk1 < (-86400000))) || (decide (86400000 < yk1))))) := ⟨f, by rw [upd_self hf1, upd_self hf6, upd_self hf7, upd_self hf8, upd_self hf17]⟩
        refine WL.nil ?_
        rcases ite_some hm2 with ⟨hc2, hm2⟩ | ⟨hc2, hm2⟩
        · refine W.cond_true (congrArg Value.bool hc2) ?_
          refine W.seq ?_
          refine W.region ?_
          refine O.assign (v := (.bool false)) rfl rfl rfl ?_
          refine WL.nil ?_
          refine W.ret ?_
          obtain rfl := Option.some.inj hm2
          refine ⟨_, rfl, ?_⟩
          rintro rfl
          have hq : false = r0 := Option.some.inj (show some false = some r0 from hm)
          subst hq
          exact ends1 Try.results37 rfl ⟨_, rfl, H.base, rfl⟩
        · refine W.cond_false (congrArg Value.bool hc2) ?_
          refine W.skip ?_
          refine W.region ?_
          refine O.add rfl rfl rfl rfl hinck1 ?_
          refine O.move (v := .int .i64 ((ik1 : Int) + 1)) rfl rfl rfl ?_
          refine WL.nil ?_
          obtain rfl := Option.some.inj hm2
          exact ⟨_, rfl, rfl, drop_next hdropk1, rfl, rfl, rfl, rfl, H⟩
    · skip
      rintro ik1 _ f w ⟨rfl, hdropk1, hf8, hf7, hf1, hf6, H⟩ hfin
      have hltk1 := drop_end hdropk1
      obtain ⟨u3, rfl⟩ : ∃ u3, f = (upd (upd (upd (upd u3 8 (.int .i64 (ik1 : Int))) 7 (.int .i64 ((a0.Errors.length : Nat) : Int))) 1 (.pointer (some ⟨b1, 0, none⟩))) 6 va0_0) := ⟨f, by rw [upd_self hf8, upd_self hf7, upd_self hf1, upd_self hf6]⟩
      refine W.seq ?_
      refine W.region ?_
      refine O.lss rfl rfl rfl rfl ?_
      refine WL.nil ?_
      refine W.seq ?_
      refine W.cond_false (congrArg Value.bool (decide_eq_false hltk1)) ?_
      refine W.exit ?_
      obtain rfl : Ctl.next () = o1 := hfin
      refine xT rfl ?_
      exact ⟨rfl, rfl, H⟩
  · skip
    rintro f w ⟨rfl, hf1, H⟩
    obtain ⟨u4, rfl⟩ : ∃ u4, f = (upd u4 1 (.pointer (some ⟨b1, 0, none⟩))) := ⟨f, by rw [upd_self hf1]⟩
    refine W.seq ?_
    refine W.region ?_
    refine O.fieldAddr fd24_0 rfl rfl rfl ?_
    refine O.load sc9 rfl rfl rfl (H.cell 0 rfl 0 _ rfl) ?_
    obtain ⟨t1, hy1, hm⟩ := bind_some hm
    refine O.call Try.call70 rfl rfl rfl (c_noongunref06_Name _ hy1) ?_
    rintro _ w2 hb2 rfl
    have H := H.ext hb2
    refine O.move (v := (.bool t1)) rfl rfl rfl ?_
    refine WL.cut 5 (fun f w => f 1 = (.pointer (some ⟨b1, 0, none⟩)) ∧ f 27 = .bool (t1 && (decide (2 ≤ ((a0.Errors.length : Nat) : Int)))) ∧ Inv w0 w [boxI b1 24 [(.string a0.Name), va0_0]]) ?_ ?_
    · skip
      rcases bool_ft t1 with hc3 | hc3
      · skip
        refine WL.reset (i := 22) (v := .bool false) (congrArg Value.bool hc3) ?_
        refine O.skip rfl rfl ?_
        refine O.skip rfl rfl ?_
        refine O.skip rfl rfl ?_
        refine O.skip rfl rfl ?_
        refine O.pick_false (v := (.bool false)) rfl rfl rfl rfl ?_
        refine WL.nil ?_
        exact ⟨rfl, congrArg Value.bool (and_f hc3), H⟩
      · skip
        refine WL.reset (i := 22) (v := .bool true) (congrArg Value.bool hc3) ?_
        refine O.fieldAddr fd24_1 rfl rfl rfl ?_
        refine O.load sc22 rfl rfl rfl (H.cell 0 rfl 1 _ rfl) ?_
        refine O.lenS Try.underlying22 (H.arg ha0_0) rfl rfl rfl ?_
        refine O.geq rfl rfl rfl rfl ?_
        refine O.pick_true (v := (.bool (decide (2 ≤ ((a0.Errors.length : Nat) : Int))))) rfl rfl rfl rfl ?_
        refine WL.nil ?_
        exact ⟨rfl, congrArg Value.bool (and_t hc3), H⟩
    · skip
      rintro f w ⟨hf1, hf27, H⟩
      obtain ⟨u5, rfl⟩ : ∃ u5, f = (upd (upd u5 1 (.pointer (some ⟨b1, 0, none⟩))) 27 (.bool (t1 && (decide (2 ≤ ((a0.Errors.length : Nat) : Int)))))) := ⟨f, by rw [upd_self hf1, upd_self hf27]⟩
      refine O.move (v := (.bool (t1 && (decide (2 ≤ ((a0.Errors.length : Nat) : Int)))))) rfl rfl rfl ?_
      refine WL.cut 5 (fun f w => f 33 = .bool ((t1 && (decide (2 ≤ ((a0.Errors.length : Nat) : Int)))) && (decide (((a0.Errors.length : Nat) : Int) ≤ 400))) ∧ Inv w0 w [boxI b1 24 [(.string a0.Name), va0_0]]) ?_ ?_
      · skip
        rcases bool_ft (t1 && (decide (2 ≤ ((a0.Errors.length : Nat) : Int)))) with hc4 | hc4
        · skip
          refine WL.reset (i := 28) (v := .bool false) (congrArg Value.bool hc4) ?_
          refine O.skip rfl rfl ?_
          refine O.skip rfl rfl ?_
          refine O.skip rfl rfl ?_
          refine O.skip rfl rfl ?_
          refine O.pick_false (v := (.bool false)) rfl rfl rfl rfl ?_
          refine WL.nil ?_
          exact ⟨congrArg Value.bool (and_f hc4), H⟩
        · skip
          refine WL.reset (i := 28) (v := .bool true) (congrArg Value.bool hc4) ?_
          refine O.fieldAddr fd24_1 rfl rfl rfl ?_
          refine O.load sc22 rfl rfl rfl (H.cell 0 rfl 1 _ rfl) ?_
          refine O.lenS Try.underlying22 (H.arg ha0_0) rfl rfl rfl ?_
          refine O.leq rfl rfl rfl rfl ?_
          refine O.pick_true (v := (.bool (decide (((a0.Errors.length : Nat) : Int) ≤ 400)))) rfl rfl rfl rfl ?_
          refine WL.nil ?_
          exact ⟨congrArg Value.bool (and_t hc4), H⟩
      · skip
        rintro f w ⟨hf33, H⟩
        obtain ⟨u6, rfl⟩ : ∃ u6, f = (upd u6 33 (.bool ((t1 && (decide (2 ≤ ((a0.Errors.length : Nat) : Int)))) && (decide (((a0.Errors.length : Nat) : Int) ≤ 400))))) := ⟨f, by rw [upd_self hf33]⟩
        refine O.assign (v := (.bool ((t1 && (decide (2 ≤ ((a0.Errors.length : Nat) : Int)))) && (decide (((a0.Errors.length : Nat) : Int) ≤ 400))))) rfl rfl rfl ?_
        refine WL.nil ?_
        refine W.ret ?_
        have hq : ((t1 && (decide (2 ≤ ((a0.Errors.length : Nat) : Int)))) && (decide (((a0.Errors.length : Nat) : Int) ≤ 400))) = r0 := Option.some.inj (show some ((t1 && (decide (2 ≤ ((a0.Errors.length : Nat) : Int)))) && (decide (((a0.Errors.length : Nat) : Int) ≤ 400))) = some r0 from hm)
        subst hq
        exact ends1 Try.results37 rfl ⟨_, rfl, H.base, rfl⟩

set_option maxRecDepth 20000 in
theorem c_noongunref06_Shifted {w0 : World} (va0_0 : Value) (a0 : GBox) (ha0_0 : SliceR w0 va0_0 a0.Errors) (a1 : Int) (a2 : Int) {r0 : GBox} {r1 : Int} (hm : noongunref06_Shifted a0 a1 a2 = some (r0, r1)) :
    Calls Try.prog 18 #[(.agg #[(.string a0.Name), va0_0]), (.int .i64 a1), (.int .i64 a2)] w0 (Ret w0 fun w v => ∃ vr0_0 : Value, v = .tuple #[(.agg #[(.string r0.Name), vr0_0]), (.int .i64 r1)] ∧ OwnR w0 w vr0_0 3 r0.Errors) := by
  unfold noongunref06_Shifted at hm
  refine calls_of_W Try.func18 rfl Try.ntmps18 (Nat.le_of_ble_eq_true rfl) ?_
  have H := Inv.start (w := w0)
  refine W.seq ?_
  refine W.region ?_
  refine O.box [(.string a0.Name), va0_0] H rfl rfl rfl rfl ?_
  intro b1 w1 H hb1
  refine O.alloc [(.string ByteArray.empty), (.slice none 0 0)] ze24 H rfl rfl rfl ?_
  intro b2 w2 H hb2
  have H := H.addNil (α := Int) (E := 3)
  refine O.assign (v := (.int .i64 0)) rfl rfl rfl ?_
  refine WL.nil ?_
  refine W.seq ?_
  refine W.seq ?_
  refine W.region ?_
  refine O.loadA [(.string a0.Name), va0_0] ag24 rfl rfl rfl rfl (H.cell 0 rfl) ?_
  obtain ⟨t1, hy1, hm⟩ := bind_some hm
  refine O.call Try.call37 rfl rfl rfl (c_noongunref06_ValidBox _ (GBox.mk a0.Name a0.Errors) (H.arg ha0_0) hy1) ?_
  rintro _ w3 hb3 rfl
  have H := H.ext hb3
  refine O.not rfl rfl rfl ?_
  refine WL.nil ?_
  rcases ite_some hm with ⟨hc1, hm⟩ | ⟨hc1, hm⟩
  · refine W.cond_true (congrArg Value.bool hc1) ?_
    refine W.seq ?_
    refine W.region ?_
    refine O.build (v := (.agg #[(.string ByteArray.empty), (.slice none 0 0)])) (fun w => bd24_  w) rfl rfl rfl ?_
    have H := H.addNil (α := Int) (E := 3)
    refine O.store 1 0 [(.string ByteArray.empty), (.slice none 0 0)] [(.string ByteArray.empty), (.slice none 0 0)] sz24 H rfl rfl rfl rfl rfl rfl ⟨⟨rfl, rfl⟩, rfl⟩ (one_cons rfl (one_cons rfl one_nil)) ?_
    intro w4 H
    refine O.assign (v := (.int .i64 1)) rfl rfl rfl ?_
    refine WL.nil ?_
    refine W.ret ?_
    have hq : ((GBox.mk ByteArray.empty ([] : List Int)), 1) = (r0, r1) := Option.some.inj (show some ((GBox.mk ByteArray.empty ([] : List Int)), 1) = some (r0, r1) from hm)
    obtain ⟨he0, hq0⟩ := Prod.mk.inj hq; clear hq; subst he0
    subst hq0
    exact ends2 Try.results18 ⟨_, rfl, run_loadVar_agg ag24 rfl (H.cell 1 rfl)⟩ rfl ⟨_, rfl, H.base, ⟨_, rfl, H.ownR 3 rfl⟩⟩
  · refine W.cond_false (congrArg Value.bool hc1) ?_
    refine W.skip ?_
    refine W.seq ?_
    refine W.seq ?_
    refine W.region ?_
    refine O.move (v := (.int .i64 a1)) rfl rfl rfl ?_
    refine O.lss rfl rfl rfl rfl ?_
    refine O.move (v := (.bool (decide (a1 < (-86400000))))) rfl rfl rfl ?_
    refine WL.cut 3 (fun f w => f 1 = (.int .i64 a1) ∧ f 2 = (.int .i64 a2) ∧ f 3 = (.pointer (some ⟨b1, 0, none⟩)) ∧ f 6 = (.pointer (some ⟨b2, 0, none⟩)) ∧ f 20 = .bool ((decide (a1 < (-86400000))) || (decide (86400000 < a1))) ∧ Inv w0 w [boxI b1 24 [(.string a0.Name), va0_0], boxI b2 24 [(.string ByteArray.empty), (.slice none 0 0)], ownI (α := Int) (.slice none 0 0) 3 ([] : List Int)]) ?_ ?_
    · skip
      rcases bool_ft (decide (a1 < (-86400000))) with hc2 | hc2
      · skip
        refine WL.reset (i := 17) (v := .bool false) (congrArg Value.bool hc2) ?_
        refine O.move (v := (.int .i64 a1)) rfl rfl rfl ?_
        refine O.gtr rfl rfl rfl rfl ?_
        refine O.pick_false (v := (.bool (decide (86400000 < a1)))) rfl rfl rfl rfl ?_
        refine WL.nil ?_
        exact ⟨rfl, rfl, rfl, rfl, congrArg Value.bool (or_f hc2), H⟩
      · skip
        refine WL.reset (i := 17) (v := .bool true) (congrArg Value.bool hc2) ?_
        refine O.skip rfl rfl ?_
        refine O.skip rfl rfl ?_
        refine O.pick_true (v := (.bool true)) rfl rfl rfl rfl ?_
        refine WL.nil ?_
        exact ⟨rfl, rfl, rfl, rfl, congrArg Value.bool (or_t hc2), H⟩
    · skip
      rintro f w ⟨hf1, hf2, hf3, hf6, hf20, H⟩
      obtain ⟨u1, rfl⟩ : ∃ u1, f = (upd (upd (upd (upd (upd u1 1 (.int .i64 a1)) 2 (.int .i64 a2)) 3 (.pointer (some ⟨b1, 0, none⟩))) 6 (.pointer (some ⟨b2, 0, none⟩))) 20 (.bool ((decide (a1 < (-86400000))) || (decide (86400000 < a1))))) := ⟨f, by rw [upd_self hf1, upd_self hf2, upd_self hf3, upd_self hf6, upd_self hf20]⟩
      refine O.move (v := (.bool ((decide (a1 < (-86400000))) || (decide (86400000 < a1))))) rfl rfl rfl ?_
      refine WL.cut 3 (fun f w => f 1 = (.int .i64 a1) ∧ f 2 = (.int .i64 a2) ∧ f 3 = (.pointer (some ⟨b1, 0, none⟩)) ∧ f 6 = (.pointer (some ⟨b2, 0, none⟩)) ∧ f 24 = .bool (((decide (a1 < (-86400000))) || (decide (86400000 < a1))) || (decide (a2 < (-1000000)))) ∧ Inv w0 w [boxI b1 24 [(.string a0.Name), va0_0], boxI b2 24 [(.string ByteArray.empty), (.slice none 0 0)], ownI (α := Int) (.slice none 0 0) 3 ([] : List Int)]) ?_ ?_
      · skip
        rcases bool_ft ((decide (a1 < (-86400000))) || (decide (86400000 < a1))) with hc3 | hc3
        · skip
          refine WL.reset (i := 21) (v := .bool false) (congrArg Value.bool hc3) ?_
          refine O.move (v := (.int .i64 a2)) rfl rfl rfl ?_
          refine O.lss rfl rfl rfl rfl ?_
          refine O.pick_false (v := (.bool (decide (a2 < (-1000000))))) rfl rfl rfl rfl ?_
          refine WL.nil ?_
          exact ⟨rfl, rfl, rfl, rfl, congrArg Value.bool (or_f hc3), H⟩
        · skip
          refine WL.reset (i := 21) (v := .bool true) (congrArg Value.bool hc3) ?_
          refine O.skip rfl rfl ?_
          refine O.skip rfl rfl ?_
          refine O.pick_true (v := (.bool true)) rfl rfl rfl rfl ?_
          refine WL.nil ?_
          exact ⟨rfl, rfl, rfl, rfl, congrArg Value.bool (or_t hc3), H⟩
      · skip
        rintro f w ⟨hf1, hf2, hf3, hf6, hf24, H⟩
        obtain ⟨u2, rfl⟩ : ∃ u2, f = (upd (upd (upd (upd (upd u2 1 (.int .i64 a1)) 2 (.int .i64 a2)) 3 (.pointer (some ⟨b1, 0, none⟩))) 6 (.pointer (some ⟨b2, 0, none⟩))) 24 (.bool (((decide (a1 < (-86400000))) || (decide (86400000 < a1))) || (decide (a2 < (-1000000)))))) := ⟨f, by rw [upd_self hf1, upd_self hf2, upd_self hf3, upd_self hf6, upd_self hf24]⟩
        refine O.move (v := (.bool (((decide (a1 < (-86400000))) || (decide (86400000 < a1))) || (decide (a2 < (-1000000)))))) rfl rfl rfl ?_
        refine WL.cut 3 (fun f w => f 1 = (.int .i64 a1) ∧ f 2 = (.int .i64 a2) ∧ f 3 = (.pointer (some ⟨b1, 0, none⟩)) ∧ f 6 = (.pointer (some ⟨b2, 0, none⟩)) ∧ f 28 = .bool ((((decide (a1 < (-86400000))) || (decide (86400000 < a1))) || (decide (a2 < (-1000000)))) || (decide (1000000 < a2))) ∧ Inv w0 w [boxI b1 24 [(.string a0.Name), va0_0], boxI b2 24 [(.string ByteArray.empty), (.slice none 0 0)], ownI (α := Int) (.slice none 0 0) 3 ([] : List Int)]) ?_ ?_
        · skip
          rcases bool_ft (((decide (a1 < (-86400000))) || (decide (86400000 < a1))) || (decide (a2 < (-1000000)))) with hc4 | hc4
          · skip
            refine WL.reset (i := 25) (v := .bool false) (congrArg Value.bool hc4) ?_
            refine O.move (v := (.int .i64 a2)) rfl rfl rfl ?_
            refine O.gtr rfl rfl rfl rfl ?_
            refine O.pick_false (v := (.bool (decide (1000000 < a2)))) rfl rfl rfl rfl ?_
            refine WL.nil ?_
            exact ⟨rfl, rfl, rfl, rfl, congrArg Value.bool (or_f hc4), H⟩
          · skip
            refine WL.reset (i := 25) (v := .bool true) (congrArg Value.bool hc4) ?_
            refine O.skip rfl rfl ?_
            refine O.skip rfl rfl ?_
            refine O.pick_true (v := (.bool true)) rfl rfl rfl rfl ?_
            refine WL.nil ?_
            exact ⟨rfl, rfl, rfl, rfl, congrArg Value.bool (or_t hc4), H⟩
        · skip
          rintro f w ⟨hf1, hf2, hf3, hf6, hf28, H⟩
          obtain ⟨u3, rfl⟩ : ∃ u3, f = (upd (upd (upd (upd (upd u3 1 (.int .i64 a1)) 2 (.int .i64 a2)) 3 (.pointer (some ⟨b1, 0, none⟩))) 6 (.pointer (some ⟨b2, 0, none⟩))) 28 (.bool ((((decide (a1 < (-86400000))) || (decide (86400000 < a1))) || (decide (a2 < (-1000000)))) || (decide (1000000 < a2))))) := ⟨f, by rw [upd_self hf1, upd_self hf2, upd_self hf3, upd_self hf6, upd_self hf28]⟩
          refine WL.nil ?_
          rcases ite_some hm with ⟨hc5, hm⟩ | ⟨hc5, hm⟩
          · refine W.cond_true (congrArg Value.bool hc5) ?_
            refine W.seq ?_
            refine W.region ?_
            refine O.build (v := (.agg #[(.string ByteArray.empty), (.slice none 0 0)])) (fun w => bd24_  w) rfl rfl rfl ?_
            have H := H.addNil (α := Int) (E := 3)
            refine O.store 1 0 [(.string ByteArray.empty), (.slice none 0 0)] [(.string ByteArray.empty), (.slice none 0 0)] sz24 H rfl rfl rfl rfl rfl rfl ⟨⟨rfl, rfl⟩, rfl⟩ (one_cons rfl (one_cons rfl one_nil)) ?_
            intro w5 H
            refine O.assign (v := (.int .i64 7)) rfl rfl rfl ?_
            refine WL.nil ?_
            refine W.ret ?_
            have hq : ((GBox.mk ByteArray.empty ([] : List Int)), 7) = (r0, r1) := Option.some.inj (show some ((GBox.mk ByteArray.empty ([] : List Int)), 7) = some (r0, r1) from hm)
            obtain ⟨he0, hq0⟩ := Prod.mk.inj hq; clear hq; subst he0
            subst hq0
            exact ends2 Try.results18 ⟨_, rfl, run_loadVar_agg ag24 rfl (H.cell 1 rfl)⟩ rfl ⟨_, rfl, H.base, ⟨_, rfl, H.ownR 3 rfl⟩⟩
          · refine W.cond_false (congrArg Value.bool hc5) ?_
            refine W.skip ?_
            refine W.seq ?_
            refine W.region ?_
            refine O.fieldAddr fd24_0 rfl rfl rfl ?_
            refine O.load sc9 rfl rfl rfl (H.cell 0 rfl 0 _ rfl) ?_
            refine O.build (v := (.agg #[(.string a0.Name), (.slice none 0 0)])) (fun w => bd24_0 _ w) rfl rfl rfl ?_
            refine O.alloc [(.string ByteArray.empty), (.slice none 0 0)] ze24 H rfl rfl rfl ?_
            intro b3 w6 H hb4
            have H := H.addNil (α := Int) (E := 3)
            have H := H.addNil (α := Int) (E := 3)
            refine O.store 3 0 [(.string a0.Name), (.slice none 0 0)] [(.string a0.Name), (.slice none 0 0)] sz24 H rfl rfl rfl rfl rfl rfl ⟨⟨rfl, rfl⟩, rfl⟩ (one_cons rfl (one_cons rfl one_nil)) ?_
            intro w7 H
            refine WL.nil ?_
            refine W.seq ?_
            refine W.seq ?_
            refine W.region ?_
            refine O.fieldAddr fd24_1 rfl rfl rfl ?_
            refine O.load sc22 rfl rfl rfl (H.cell 0 rfl 1 _ rfl) ?_
            refine O.lenS Try.underlying22 (H.arg ha0_0) rfl rfl rfl ?_
            refine O.move (v := (.int .i64 0)) rfl rfl rfl ?_
            refine WL.nil ?_
            obtain ⟨s1, hm1, hm⟩ := bind_some hm
            refine W.via (fun f w => ∃ v4 : Value, f 6 = (.pointer (some ⟨b2, 0, none⟩)) ∧ f 8 = (.pointer (some ⟨b3, 0, none⟩)) ∧ Inv w0 w [boxI b2 24 [(.string ByteArray.empty), (.slice none 0 0)], ownI (α := Int) (.slice none 0 0) 3 ([] : List Int), boxI b3 24 [(.string a0.Name), v4], ownI (α := Int) v4 3 s1]) ?_ ?_
            · skip
              refine W.block ?_
              have hbdik1 := (H.arg ha0_0).len_le
              have H := H.keep [1, 2, 3, 5] [boxI b2 24 [(.string ByteArray.empty), (.slice none 0 0)], ownI (α := Int) (.slice none 0 0) 3 ([] : List Int), boxI b3 24 [(.string a0.Name), (.slice none 0 0)], ownI (α := Int) (.slice none 0 0) 3 ([] : List Int)] rfl (by decide)
              refine W.rangeN (i := 0) hm1 (fun rem ik1 s f w => ∃ z2 : (List Int), ∃ v2 : Value, z2 = s ∧ (ik1 : Int) + rem = max 0 ((a0.Errors.length : Nat) : Int) ∧ f 36 = .int .i64 (ik1 : Int) ∧ f 35 = (.int .i64 ((a0.Errors.length : Nat) : Int)) ∧ f 1 = (.int .i64 a1) ∧ f 2 = (.int .i64 a2) ∧ f 6 = (.pointer (some ⟨b2, 0, none⟩)) ∧ f 8 = (.pointer (some ⟨b3, 0, none⟩)) ∧ f 34 = va0_0 ∧ Inv w0 w [boxI b2 24 [(.string ByteArray.empty), (.slice none 0 0)], ownI (α := Int) (.slice none 0 0) 3 ([] : List Int), boxI b3 24 [(.string a0.Name), v2], ownI (α := Int) v2 3 z2]) ?_ ?_ ?_
              · skip
                exact ⟨_, (.slice none 0 0), rfl, rangeN_start, rfl, rfl, rfl, rfl, rfl, rfl, rfl, H⟩
              · skip
                rintro k ik1 _ st f w ⟨z2, v2, rfl, hdropk1, hf36, hf35, hf1, hf2, hf6, hf8, hf34, H⟩ hm2
                have hltk1 := rangeN_lt hdropk1
                obtain ⟨u4, rfl⟩ : ∃ u4, f = (upd (upd (upd (upd (upd (upd (upd u4 36 (.int .i64 (ik1 : Int))) 35 (.int .i64 ((a0.Errors.length : Nat) : Int))) 1 (.int .i64 a1)) 2 (.int .i64 a2)) 6 (.pointer (some ⟨b2, 0, none⟩))) 8 (.pointer (some ⟨b3, 0, none⟩))) 34 va0_0) := ⟨f, by rw [upd_self hf36, upd_self hf35, upd_self hf1, upd_self hf2, upd_self hf6, upd_self hf8, upd_self hf34]⟩
                have hinck1 := addI_lt hltk1 hbdik1
                refine W.seq ?_
                refine W.region ?_
                refine O.lss rfl rfl rfl rfl ?_
                refine WL.nil ?_
                refine W.seq ?_
                refine W.cond_true (congrArg Value.bool (decide_eq_true hltk1)) ?_
                refine W.skip ?_
                refine W.seq ?_
                refine W.block ?_
                refine W.seq ?_
                refine W.region ?_
                refine O.move (v := (.int .i64 (ik1 : Int))) rfl rfl rfl ?_
                obtain ⟨x1, hx1, hm2⟩ := bind_some hm2
                obtain ⟨p1, hp1, hrp1⟩ := fix_indexAddr Try.underlying22 sz3 ha0_0 hx1
                refine hrp1 rfl rfl rfl rfl ?_
                refine O.load sc3 rfl rfl rfl ((hp1.mono H.base).flat 0 _ rfl) ?_
                refine O.assign (v := (.int .i64 (ik1 : Int))) rfl rfl rfl ?_
                refine O.assign (v := (.int .i64 x1)) rfl rfl rfl ?_
                refine WL.nil ?_
                refine W.region ?_
                refine O.fieldAddr fd24_1 rfl rfl rfl ?_
                refine O.load sc22 rfl rfl rfl (H.cell 2 rfl 1 _ rfl) ?_
                refine O.move (v := (.int .i64 x1)) rfl rfl rfl ?_
                refine O.move (v := (.int .i64 a1)) rfl rfl rfl ?_
                obtain ⟨t2, ht2, hm2⟩ := bind_some hm2
                refine O.add rfl rfl rfl rfl ht2 ?_
                refine O.move (v := (.int .i64 a2)) rfl rfl rfl ?_
                refine O.move (v := (.int .i64 (ik1 : Int))) rfl rfl rfl ?_
                obtain ⟨t3, ht3, hm2⟩ := bind_some hm2
                refine O.mul rfl rfl rfl rfl ht3 ?_
                obtain ⟨t4, ht4, hm2⟩ := bind_some hm2
                refine O.add rfl rfl rfl rfl ht4 ?_
                refine O.buildSlice (α := Int) [(.int .i64 t4)] [t4] Try.underlying22 el3 H rfl rfl rfl rfl rfl rfl rfl ?_
                intro v5 w8 H hb5
                obtain ⟨t5, ht5, hm2⟩ := bind_some hm2
                refine O.append 3 Try.underlying22 el3 rfl H rfl (H.own 4 rfl) ht5 rfl rfl rfl rfl ?_
                intro v6 w9 H
                refine O.fieldAddr fd24_1 rfl rfl rfl ?_
                refine O.store 2 1 [v6] [(.string a0.Name), v6] sz22 H rfl rfl rfl rfl rfl (SliceR.cells1 (H.own 3 rfl)) ⟨⟨rfl, rfl⟩, rfl⟩ (one_cons (SliceR.one (H.own 3 rfl)) one_nil) ?_
                intro w10 H
                refine WL.nil ?_
                refine W.region ?_
                refine O.add rfl rfl rfl rfl hinck1 ?_
                refine O.move (v := .int .i64 ((ik1 : Int) + 1)) rfl rfl rfl ?_
                refine WL.nil ?_
                have H := H.keep [0, 1, 2, 3] [boxI b2 24 [(.string ByteArray.empty), (.slice none 0 0)], ownI (α := Int) (.slice none 0 0) 3 ([] : List Int), boxI b3 24 [(.string a0.Name), v6], ownI (α := Int) v6 3 t5] rfl (by decide)
                obtain rfl := Option.some.inj hm2
                exact ⟨_, rfl, _, v6, rfl, rangeN_next hdropk1, rfl, rfl, rfl, rfl, rfl, rfl, rfl, H⟩
              · skip
                rintro ik1 _ f w ⟨z2, v2, rfl, hdropk1, hf36, hf35, hf1, hf2, hf6, hf8, hf34, H⟩ hfin
                have hltk1 := rangeN_end hdropk1
                obtain ⟨u5, rfl⟩ : ∃ u5, f = (upd (upd (upd (upd (upd (upd (upd u5 36 (.int .i64 (ik1 : Int))) 35 (.int .i64 ((a0.Errors.length : Nat) : Int))) 1 (.int .i64 a1)) 2 (.int .i64 a2)) 6 (.pointer (some ⟨b2, 0, none⟩))) 8 (.pointer (some ⟨b3, 0, none⟩))) 34 va0_0) := ⟨f, by rw [upd_self hf36, upd_self hf35, upd_self hf1, upd_self hf2, upd_self hf6, upd_self hf8, upd_self hf34]⟩
                refine W.seq ?_
                refine W.region ?_
                refine O.lss rfl rfl rfl rfl ?_
                refine WL.nil ?_
                refine W.seq ?_
                refine W.cond_false (congrArg Value.bool (decide_eq_false hltk1)) ?_
                refine W.exit ?_
                have hq : z2 = s1 := hfin
                subst hq
                refine xT rfl ?_
                exact ⟨v2, rfl, rfl, H⟩
            · skip
              rintro f w ⟨v4, hf6, hf8, H⟩
              obtain ⟨u6, rfl⟩ : ∃ u6, f = (upd (upd u6 6 (.pointer (some ⟨b2, 0, none⟩))) 8 (.pointer (some ⟨b3, 0, none⟩))) := ⟨f, by rw [upd_self hf6, upd_self hf8]⟩
              refine W.seq ?_
              refine W.seq ?_
              refine W.region ?_
              refine O.loadA [(.string a0.Name), v4] ag24 rfl rfl rfl rfl (H.cell 2 rfl) ?_
              obtain ⟨t6, hy2, hm⟩ := bind_some hm
              refine O.call Try.call37 rfl rfl rfl (c_noongunref06_ValidBox _ (GBox.mk a0.Name s1) (H.own 3 rfl) hy2) ?_
              rintro _ w11 hb6 rfl
              have H := H.ext hb6
              refine O.not rfl rfl rfl ?_
              refine WL.nil ?_
              rcases ite_some hm with ⟨hc6, hm⟩ | ⟨hc6, hm⟩
              · refine W.cond_true (congrArg Value.bool hc6) ?_
                refine W.seq ?_
                refine W.region ?_
                refine O.build (v := (.agg #[(.string ByteArray.empty), (.slice none 0 0)])) (fun w => bd24_  w) rfl rfl rfl ?_
                have H := H.addNil (α := Int) (E := 3)
                refine O.store 0 0 [(.string ByteArray.empty), (.slice none 0 0)] [(.string ByteArray.empty), (.slice none 0 0)] sz24 H rfl rfl rfl rfl rfl rfl ⟨⟨rfl, rfl⟩, rfl⟩ (one_cons rfl (one_cons rfl one_nil)) ?_
                intro w12 H
                refine O.assign (v := (.int .i64 4)) rfl rfl rfl ?_
                refine WL.nil ?_
                refine W.ret ?_
                have hq : ((GBox.mk ByteArray.empty ([] : List Int)), 4) = (r0, r1) := Option.some.inj (show some ((GBox.mk ByteArray.empty ([] : List Int)), 4) = some (r0, r1) from hm)
                obtain ⟨he0, hq0⟩ := Prod.mk.inj hq; clear hq; subst he0
                subst hq0
                exact ends2 Try.results18 ⟨_, rfl, run_loadVar_agg ag24 rfl (H.cell 0 rfl)⟩ rfl ⟨_, rfl, H.base, ⟨_, rfl, H.ownR 4 rfl⟩⟩
              · refine W.cond_false (congrArg Value.bool hc6) ?_
                refine W.skip ?_
                refine W.seq ?_
                refine W.region ?_
                refine O.loadA [(.string a0.Name), v4] ag24 rfl rfl rfl rfl (H.cell 2 rfl) ?_
                refine O.store 0 0 [(.string a0.Name), v4] [(.string a0.Name), v4] sz24 H rfl rfl rfl rfl rfl rfl ⟨⟨rfl, rfl⟩, rfl⟩ (one_cons rfl (one_cons (SliceR.one (H.own 3 rfl)) one_nil)) ?_
                intro w13 H
                refine O.assign (v := (.int .i64 0)) rfl rfl rfl ?_
                refine WL.nil ?_
                refine W.ret ?_
                have hq : ((GBox.mk a0.Name s1), 0) = (r0, r1) := Option.some.inj (show some ((GBox.mk a0.Name s1), 0) = some (r0, r1) from hm)
                obtain ⟨he0, hq0⟩ := Prod.mk.inj hq; clear hq; subst he0
                subst hq0
                exact ends2 Try.results18 ⟨_, rfl, run_loadVar_agg ag24 rfl (H.cell 0 rfl)⟩ rfl ⟨_, rfl, H.base, ⟨_, rfl, H.ownR 3 rfl⟩⟩

set_option maxRecDepth 20000 in
theorem c_noongunref06_SameInts {w0 : World} (va0 : Value) (a0 : (List Int)) (ha0 : SliceR w0 va0 a0) (va1 : Value) (a1 : (List Int)) (ha1 : SliceR w0 va1 a1) {r0 : Bool} (hm : noongunref06_SameInts a0 a1 = some r0) :
    Calls Try.prog 26 #[va0, va1] w0 (Ret w0 fun _ v => v = (.bool r0)) := by
  unfold noongunref06_SameInts at hm
  refine calls_of_W Try.func26 rfl Try.ntmps26 (Nat.le_of_ble_eq_true rfl) ?_
  have H := Inv.start (w := w0)
  refine W.seq ?_
  refine W.region ?_
  refine O.assign (v := (.bool false)) rfl rfl rfl ?_
  refine WL.nil ?_
  refine W.seq ?_
  refine W.seq ?_
  refine W.region ?_
  refine O.move (v := va0) rfl rfl rfl ?_
  refine O.lenS Try.underlying22 (H.arg ha0) rfl rfl rfl ?_
  refine O.move (v := va1) rfl rfl rfl ?_
  refine O.lenS Try.underlying22 (H.arg ha1) rfl rfl rfl ?_
  refine O.neq rfl rfl rfl rfl ?_
  refine WL.nil ?_
  rcases ite_some hm with ⟨hc1, hm⟩ | ⟨hc1, hm⟩
  · refine W.cond_true (congrArg Value.bool hc1) ?_
    refine W.seq ?_
    refine W.region ?_
    refine O.assign (v := (.bool false)) rfl rfl rfl ?_
    refine WL.nil ?_
    refine W.ret ?_
    have hq : false = r0 := Option.some.inj (show some false = some r0 from hm)
    subst hq
    exact ends1 Try.results26 rfl ⟨_, rfl, H.base, rfl⟩
  · refine W.cond_false (congrArg Value.bool hc1) ?_
    refine W.skip ?_
    refine W.seq ?_
    refine W.seq ?_
    refine W.region ?_
    refine O.move (v := va0) rfl rfl rfl ?_
    refine O.lenS Try.underlying22 (H.arg ha0) rfl rfl rfl ?_
    refine O.move (v := (.int .i64 0)) rfl rfl rfl ?_
    refine WL.nil ?_
    obtain ⟨o1, hm1, hm⟩ := bind_some hm
    refine W.via (fun f w => o1 = .next () ∧ Inv w0 w []) ?_ ?_
    · skip
      refine W.block ?_
      have hbdik1 := (H.arg ha0).len_le
      refine W.rangeN (i := 0) hm1 (fun rem ik1 s f w => () = s ∧ (ik1 : Int) + rem = max 0 ((a0.length : Nat) : Int) ∧ f 13 = .int .i64 (ik1 : Int) ∧ f 12 = (.int .i64 ((a0.length : Nat) : Int)) ∧ f 0 = va0 ∧ f 1 = va1 ∧ Inv w0 w []) ?_ ?_ ?_
      · skip
        exact ⟨rfl, rangeN_start, rfl, rfl, rfl, rfl, H⟩
      · skip
        rintro k ik1 _ st f w ⟨rfl, hdropk1, hf13, hf12, hf0, hf1, H⟩ hm2
        have hltk1 := rangeN_lt hdropk1
        obtain ⟨u1, rfl⟩ : ∃ u1, f = (upd (upd (upd (upd u1 13 (.int .i64 (ik1 : Int))) 12 (.int .i64 ((a0.length : Nat) : Int))) 0 va0) 1 va1) := ⟨f, by rw [upd_self hf13, upd_self hf12, upd_self hf0, upd_self hf1]⟩
        have hinck1 := addI_lt hltk1 hbdik1
        refine W.seq ?_
        refine W.region ?_
        refine O.lss rfl rfl rfl rfl ?_
        refine WL.nil ?_
        refine W.seq ?_
        refine W.cond_true (congrArg Value.bool (decide_eq_true hltk1)) ?_
        refine W.skip ?_
        refine W.seq ?_
        refine W.block ?_
        refine W.seq ?_
        refine W.region ?_
        refine O.move (v := (.int .i64 (ik1 : Int))) rfl rfl rfl ?_
        refine O.assign (v := (.int .i64 (ik1 : Int))) rfl rfl rfl ?_
        refine WL.nil ?_
        refine W.seq ?_
        obtain ⟨x1, hx1, hm2⟩ := bind_some hm2
        obtain ⟨p1, hp1, hrp1⟩ := fix_indexAddr Try.underlying22 sz3 (H.arg ha0) hx1
        obtain ⟨x2, hx2, hm2⟩ := bind_some hm2
        obtain ⟨p2, hp2, hrp2⟩ := fix_indexAddr Try.underlying22 sz3 (H.arg ha1) hx2
        refine W.drawN 8 (fun f => f 0 = va0 ∧ f 1 = va1 ∧ f 12 = (.int .i64 ((a0.length : Nat) : Int)) ∧ f 13 = (.int .i64 (ik1 : Int)) ∧ f 19 = (.int .i64 x1) ∧ f 23 = (.int .i64 x2)) fol (by kernel_rfl) ?_ ?_
        · skip
          refine PL.of (fun _ w8 _ hx => O.move (v := va0) rfl rfl rfl (WL.nil ⟨rfl, hx⟩)) ?_
          refine PL.of (fun _ w8 _ hx => O.move (v := (.int .i64 (ik1 : Int))) rfl rfl rfl (WL.nil ⟨rfl, hx⟩)) ?_
          refine PL.of (fun _ w8 _ hx => hrp1 rfl rfl rfl rfl (WL.nil ⟨rfl, hx⟩)) ?_
          refine PL.of (fun _ w8 _ hx => by have hp1 := hp1.mono hx; exact O.load sc3 rfl rfl rfl (hp1.flat 0 _ rfl) (WL.nil ⟨rfl, hx⟩)) ?_
          refine PL.of (fun _ w8 _ hx => O.move (v := va1) rfl rfl rfl (WL.nil ⟨rfl, hx⟩)) ?_
          refine PL.of (fun _ w8 _ hx => O.move (v := (.int .i64 (ik1 : Int))) rfl rfl rfl (WL.nil ⟨rfl, hx⟩)) ?_
          refine PL.of (fun _ w8 _ hx => hrp2 rfl rfl rfl rfl (WL.nil ⟨rfl, hx⟩)) ?_
          refine PL.of (fun _ w8 _ hx => by have hp2 := hp2.mono hx; exact O.load sc3 rfl rfl rfl (hp2.flat 0 _ rfl) (WL.nil ⟨rfl, hx⟩)) ?_
          refine PL.nil ?_
          exact ⟨rfl, rfl, rfl, rfl, rfl, rfl⟩
        · skip
          rintro f w ⟨hf0, hf1, hf12, hf13, hf19, hf23⟩ hmd hx
          have H := H.ext hx
          have hp1 := hp1.mono hx
          have hp2 := hp2.mono hx
          obtain ⟨u2, rfl⟩ : ∃ u2, f = (upd (upd (upd (upd (upd (upd u2 0 va0) 1 va1) 12 (.int .i64 ((a0.length : Nat) : Int))) 13 (.int .i64 (ik1 : Int))) 19 (.int .i64 x1)) 23 (.int .i64 x2)) := ⟨f, by rw [upd_self hf0, upd_self hf1, upd_self hf12, upd_self hf13, upd_self hf19, upd_self hf23]⟩
          refine O.neq rfl rfl rfl rfl ?_
          refine WL.nil ?_
          rcases ite_some hm2 with ⟨hc2, hm2⟩ | ⟨hc2, hm2⟩
          · refine W.cond_true (congrArg Value.bool hc2) ?_
            refine W.seq ?_
            refine W.region ?_
            refine O.assign (v := (.bool false)) rfl rfl rfl ?_
            refine WL.nil ?_
            refine W.ret ?_
            obtain rfl := Option.some.inj hm2
            refine ⟨_, rfl, ?_⟩
            rintro rfl
            have hq : false = r0 := Option.some.inj (show some false = some r0 from hm)
            subst hq
            exact ends1 Try.results26 rfl ⟨_, rfl, H.base, rfl⟩
          · refine W.cond_false (congrArg Value.bool hc2) ?_
            refine W.skip ?_
            refine W.region ?_
            refine O.add rfl rfl rfl rfl hinck1 ?_
            refine O.move (v := .int .i64 ((ik1 : Int) + 1)) rfl rfl rfl ?_
            refine WL.nil ?_
            obtain rfl := Option.some.inj hm2
            exact ⟨_, rfl, rfl, rangeN_next hdropk1, rfl, rfl, rfl, rfl, H⟩
      · skip
        rintro ik1 _ f w ⟨rfl, hdropk1, hf13, hf12, hf0, hf1, H⟩ hfin
        have hltk1 := rangeN_end hdropk1
        obtain ⟨u3, rfl⟩ : ∃ u3, f = (upd (upd (upd (upd u3 13 (.int .i64 (ik1 : Int))) 12 (.int .i64 ((a0.length : Nat) : Int))) 0 va0) 1 va1) := ⟨f, by rw [upd_self hf13, upd_self hf12, upd_self hf0, upd_self hf1]⟩
        refine W.seq ?_
        refine W.region ?_
        refine O.lss rfl rfl rfl rfl ?_
        refine WL.nil ?_
        refine W.seq ?_
        refine W.cond_false (congrArg Value.bool (decide_eq_false hltk1)) ?_
        refine W.exit ?_
        obtain rfl : Ctl.next () = o1 := hfin
        refine xT rfl ?_
        exact ⟨rfl, H⟩
    · skip
      rintro f w ⟨rfl, H⟩
      refine W.seq ?_
      refine W.region ?_
      refine O.assign (v := (.bool true)) rfl rfl rfl ?_
      refine WL.nil ?_
      refine W.ret ?_
      have hq : true = r0 := Option.some.inj (show some true = some r0 from hm)
      subst hq
      exact ends1 Try.results26 rfl ⟨_, rfl, H.base, rfl⟩

theorem c_noongunref06_SameBox {w0 : World} (va0_0 : Value) (a0 : GBox) (ha0_0 : SliceR w0 va0_0 a0.Errors) (va1_0 : Value) (a1 : GBox) (ha1_0 : SliceR w0 va1_0 a1.Errors) {r0 : Bool} (hm : noongunref06_SameBox a0 a1 = some r0) :
    Calls Try.prog 19 #[(.agg #[(.string a0.Name), va0_0]), (.agg #[(.string a1.Name), va1_0])] w0 (Ret w0 fun _ v => v = (.bool r0)) := by
  unfold noongunref06_SameBox at hm
  refine calls_of_W Try.func19 rfl Try.ntmps19 (Nat.le_of_ble_eq_true rfl) ?_
  have H := Inv.start (w := w0)
  refine W.seq ?_
  refine W.region ?_
  refine O.box [(.string a0.Name), va0_0] H rfl rfl rfl rfl ?_
  intro b1 w1 H hb1
  refine O.box [(.string a1.Name), va1_0] H rfl rfl rfl rfl ?_
  intro b2 w2 H hb2
  refine O.assign (v := (.bool false)) rfl rfl rfl ?_
  refine WL.nil ?_
  refine W.seq ?_
  refine W.region ?_
  refine O.fieldAddr fd24_0 rfl rfl rfl ?_
  refine O.load sc9 rfl rfl rfl (H.cell 0 rfl 0 _ rfl) ?_
  refine O.fieldAddr fd24_0 rfl rfl rfl ?_
  refine O.load sc9 rfl rfl rfl (H.cell 1 rfl 0 _ rfl) ?_
  refine O.eqlS rfl rfl rfl rfl ?_
  refine O.move (v := (.bool (decide (a0.Name = a1.Name)))) rfl rfl rfl ?_
  obtain ⟨b3, hm1, hm⟩ := bind_some hm
  refine WL.cut 6 (fun f w => f 16 = .bool b3 ∧ Inv w0 w [boxI b1 24 [(.string a0.Name), va0_0], boxI b2 24 [(.string a1.Name), va1_0]]) ?_ ?_
  · skip
    rcases ite_some hm1 with ⟨hc1, hm1⟩ | ⟨hc1, hm1⟩
    · skip
      refine WL.reset (i := 10) (v := .bool true) (congrArg Value.bool hc1) ?_
      refine O.fieldAddr fd24_1 rfl rfl rfl ?_
      refine O.load sc22 rfl rfl rfl (H.cell 0 rfl 1 _ rfl) ?_
      refine O.fieldAddr fd24_1 rfl rfl rfl ?_
      refine O.load sc22 rfl rfl rfl (H.cell 1 rfl 1 _ rfl) ?_
      obtain ⟨t1, hy1, hm1⟩ := bind_some hm1
      refine O.call Try.call26 rfl rfl rfl (c_noongunref06_SameInts _ _ (H.arg ha0_0) _ _ (H.arg ha1_0) hy1) ?_
      rintro _ w3 hb3 rfl
      have H := H.ext hb3
      refine O.pick_true (v := (.bool t1)) rfl rfl rfl rfl ?_
      refine WL.nil ?_
      have hq : t1 = b3 := Option.some.inj (show some t1 = some b3 from hm1)
      subst hq
      exact ⟨rfl, H⟩
    · skip
      refine WL.reset (i := 10) (v := .bool false) (congrArg Value.bool hc1) ?_
      refine O.skip rfl rfl ?_
      refine O.skip rfl rfl ?_
      refine O.skip rfl rfl ?_
      refine O.skip rfl rfl ?_
      refine O.skip rfl rfl ?_
      refine O.pick_false (v := (.bool false)) rfl rfl rfl rfl ?_
      refine WL.nil ?_
      have hq : false = b3 := Option.some.inj (show some false = some b3 from hm1)
      subst hq
      exact ⟨rfl, H⟩
  · skip
    rintro f w ⟨hf16, H⟩
    obtain ⟨u1, rfl⟩ : ∃ u1, f = (upd u1 16 (.bool b3)) := ⟨f, by rw [upd_self hf16]⟩
    refine O.assign (v := (.bool b3)) rfl rfl rfl ?_
    refine WL.nil ?_
    refine W.ret ?_
    have hq : b3 = r0 := Option.some.inj (show some b3 = some r0 from hm)
    subst hq
    exact ends1 Try.results19 rfl ⟨_, rfl, H.base, rfl⟩

set_option maxRecDepth 20000 in
theorem c_noongunlaw06_RateShifted {w0 : World} (va0_0 : Value) (a0 : GBox) (ha0_0 : SliceR w0 va0_0 a0.Errors) (a1 : Int) (a2 : Int) {r0 : Bool} (hm : noongunlaw06_RateShifted a0 a1 a2 = some r0) :
    Calls Try.prog 4 #[(.agg #[(.string a0.Name), va0_0]), (.int .i64 a1), (.int .i64 a2)] w0 (Ret w0 fun _ v => v = (.bool r0)) := by
  unfold noongunlaw06_RateShifted at hm
  refine calls_of_W Try.func4 rfl Try.ntmps4 (Nat.le_of_ble_eq_true rfl) ?_
  have H := Inv.start (w := w0)
  refine W.seq ?_
  refine W.region ?_
  refine O.box [(.string a0.Name), va0_0] H rfl rfl rfl rfl ?_
  intro b1 w1 H hb1
  refine O.assign (v := (.bool false)) rfl rfl rfl ?_
  refine WL.nil ?_
  refine W.seq ?_
  refine W.seq ?_
  refine W.region ?_
  refine O.loadA [(.string a0.Name), va0_0] ag24 rfl rfl rfl rfl (H.cell 0 rfl) ?_
  refine O.buildSliceR (α := GBox) [(.agg #[(.string a0.Name), va0_0])] [(GBox.mk a0.Name a0.Errors)] Try.underlying55 el24 (RepL.cons (α := GBox) (v := (.agg #[(.string a0.Name), va0_0])) (GBox_rep (H.arg ha0_0)) RepL.nil) rfl rfl rfl rfl rfl ?_
  intro v1 w2 hb2 hs1
  have H := H.ext hb2
  obtain ⟨t1, hy1, hm⟩ := bind_some hm
  refine O.call Try.call13 rfl rfl rfl (c_noongunlaw06_fit _ _ hs1 hy1) ?_
  rintro _ w3 hb3 rfl
  have hs1 := hs1.mono hb3
  have H := H.ext hb3
  refine O.not rfl rfl rfl ?_
  refine WL.nil ?_
  rcases ite_some hm with ⟨hc1, hm⟩ | ⟨hc1, hm⟩
  · refine W.cond_true (congrArg Value.bool hc1) ?_
    refine W.seq ?_
    refine W.region ?_
    obtain ⟨t2, hy2, hm⟩ := bind_some hm
    refine O.call Try.call14 rfl rfl rfl (c_noongunlaw06_awake  hy2) ?_
    rintro _ w4 hb4 rfl
    have hs1 := hs1.mono hb4
    have H := H.ext hb4
    refine O.assign (v := (.bool t2)) rfl rfl rfl ?_
    refine WL.nil ?_
    refine W.ret ?_
    have hq : t2 = r0 := Option.some.inj (show some t2 = some r0 from hm)
    subst hq
    exact ends1 Try.results4 rfl ⟨_, rfl, H.base, rfl⟩
  · refine W.cond_false (congrArg Value.bool hc1) ?_
    refine W.skip ?_
    refine W.seq ?_
    refine W.region ?_
    refine O.loadA [(.string a0.Name), va0_0] ag24 rfl rfl rfl rfl (H.cell 0 rfl) ?_
    refine O.move (v := (.int .i64 a1)) rfl rfl rfl ?_
    refine O.move (v := (.int .i64 a2)) rfl rfl rfl ?_
    obtain ⟨⟨t3, t4⟩, hy3, hm⟩ := bind_some hm
    refine O.call Try.call17 rfl rfl rfl (c_rate_Shifted _ (GBox.mk a0.Name a0.Errors) (H.arg ha0_0) _ _ hy3) ?_
    rintro _ w5 hb5 ⟨v2, rfl, ho1⟩
    have hs1 := hs1.mono hb5
    have H := H.addOwn hb5 ho1
    refine O.move (v := (.tuple #[(.agg #[(.string t3.Name), v2]), (.int .i64 t4)])) rfl rfl rfl ?_
    refine O.extract (v := (.agg #[(.string t3.Name), v2])) rfl rfl rfl rfl ?_
    refine O.extract (v := (.int .i64 t4)) rfl rfl rfl rfl ?_
    refine O.alloc [(.string ByteArray.empty), (.slice none 0 0)] ze24 H rfl rfl rfl ?_
    intro b2 w6 H hb6
    have hs1 := hs1.mono hb6
    have H := H.addNil (α := Int) (E := 3)
    refine O.store 2 0 [(.string t3.Name), v2] [(.string t3.Name), v2] sz24 H rfl rfl rfl rfl rfl rfl ⟨⟨rfl, rfl⟩, rfl⟩ (one_cons rfl (one_cons (SliceR.one (H.own 1 rfl)) one_nil)) ?_
    intro w7 H
    clear hs1
    refine O.assign (v := (.int .i64 t4)) rfl rfl rfl ?_
    refine WL.nil ?_
    refine W.seq ?_
    refine W.region ?_
    refine O.loadA [(.string a0.Name), va0_0] ag24 rfl rfl rfl rfl (H.cell 0 rfl) ?_
    refine O.move (v := (.int .i64 a1)) rfl rfl rfl ?_
    refine O.move (v := (.int .i64 a2)) rfl rfl rfl ?_
    obtain ⟨⟨t5, t6⟩, hy4, hm⟩ := bind_some hm
    refine O.call Try.call18 rfl rfl rfl (c_noongunref06_Shifted _ (GBox.mk a0.Name a0.Errors) (H.arg ha0_0) _ _ hy4) ?_
    rintro _ w8 hb7 ⟨v3, rfl, ho3⟩
    have H := H.addOwn hb7 ho3
    refine O.move (v := (.tuple #[(.agg #[(.string t5.Name), v3]), (.int .i64 t6)])) rfl rfl rfl ?_
    refine O.extract (v := (.agg #[(.string t5.Name), v3])) rfl rfl rfl rfl ?_
    refine O.extract (v := (.int .i64 t6)) rfl rfl rfl rfl ?_
    refine O.alloc [(.string ByteArray.empty), (.slice none 0 0)] ze24 H rfl rfl rfl ?_
    intro b3 w9 H hb8
    have H := H.addNil (α := Int) (E := 3)
    refine O.store 5 0 [(.string t5.Name), v3] [(.string t5.Name), v3] sz24 H rfl rfl rfl rfl rfl rfl ⟨⟨rfl, rfl⟩, rfl⟩ (one_cons rfl (one_cons (SliceR.one (H.own 4 rfl)) one_nil)) ?_
    intro w10 H
    refine O.assign (v := (.int .i64 t6)) rfl rfl rfl ?_
    refine WL.nil ?_
    refine W.seq ?_
    refine W.seq ?_
    refine W.region ?_
    refine O.loadA [(.string t3.Name), v2] ag24 rfl rfl rfl rfl (H.cell 2 rfl) ?_
    refine O.loadA [(.string t5.Name), v3] ag24 rfl rfl rfl rfl (H.cell 5 rfl) ?_
    obtain ⟨t7, hy5, hm⟩ := bind_some hm
    refine O.call Try.call19 rfl rfl rfl (c_noongunref06_SameBox _ (GBox.mk t3.Name t3.Errors) (H.own 1 rfl) _ (GBox.mk t5.Name t5.Errors) (H.own 4 rfl) hy5) ?_
    rintro _ w11 hb9 rfl
    have H := H.ext hb9
    refine O.not rfl rfl rfl ?_
    refine O.move (v := (.bool (!t7))) rfl rfl rfl ?_
    refine WL.cut 4 (fun f w => f 2 = (.int .i64 a2) ∧ f 3 = (.pointer (some ⟨b1, 0, none⟩)) ∧ f 7 = (.pointer (some ⟨b2, 0, none⟩)) ∧ f 8 = (.int .i64 t4) ∧ f 42 = .bool ((!t7) || (t4 != t6)) ∧ Inv w0 w [boxI b1 24 [(.string a0.Name), va0_0], ownI (α := Int) v2 3 t3.Errors, boxI b2 24 [(.string t3.Name), v2], ownI (α := Int) (.slice none 0 0) 3 ([] : List Int), ownI (α := Int) v3 3 t5.Errors, boxI b3 24 [(.string t5.Name), v3], ownI (α := Int) (.slice none 0 0) 3 ([] : List Int)]) ?_ ?_
    · skip
      rcases bool_ft (!t7) with hc2 | hc2
      · skip
        refine WL.reset (i := 38) (v := .bool false) (congrArg Value.bool hc2) ?_
        refine O.move (v := (.int .i64 t4)) rfl rfl rfl ?_
        refine O.move (v := (.int .i64 t6)) rfl rfl rfl ?_
        refine O.neq rfl rfl rfl rfl ?_
        refine O.pick_false (v := (.bool (t4 != t6))) rfl rfl rfl rfl ?_
        refine WL.nil ?_
        exact ⟨rfl, rfl, rfl, rfl, congrArg Value.bool (or_f hc2), H⟩
      · skip
        refine WL.reset (i := 38) (v := .bool true) (congrArg Value.bool hc2) ?_
        refine O.skip rfl rfl ?_
        refine O.skip rfl rfl ?_
        refine O.skip rfl rfl ?_
        refine O.pick_true (v := (.bool true)) rfl rfl rfl rfl ?_
        refine WL.nil ?_
        exact ⟨rfl, rfl, rfl, rfl, congrArg Value.bool (or_t hc2), H⟩
    · skip
      rintro f w ⟨hf2, hf3, hf7, hf8, hf42, H⟩
      obtain ⟨u1, rfl⟩ : ∃ u1, f = (upd (upd (upd (upd (upd u1 2 (.int .i64 a2)) 3 (.pointer (some ⟨b1, 0, none⟩))) 7 (.pointer (some ⟨b2, 0, none⟩))) 8 (.int .i64 t4)) 42 (.bool ((!t7) || (t4 != t6)))) := ⟨f, by rw [upd_self hf2, upd_self hf3, upd_self hf7, upd_self hf8, upd_self hf42]⟩
      refine WL.nil ?_
      rcases ite_some hm with ⟨hc3, hm⟩ | ⟨hc3, hm⟩
      · refine W.cond_true (congrArg Value.bool hc3) ?_
        refine W.seq ?_
        refine W.region ?_
        refine O.assign (v := (.bool false)) rfl rfl rfl ?_
        refine WL.nil ?_
        refine W.ret ?_
        have hq : false = r0 := Option.some.inj (show some false = some r0 from hm)
        subst hq
        exact ends1 Try.results4 rfl ⟨_, rfl, H.base, rfl⟩
      · refine W.cond_false (congrArg Value.bool hc3) ?_
        refine W.skip ?_
        refine W.seq ?_
        refine W.seq ?_
        refine W.region ?_
        refine O.move (v := (.int .i64 t4)) rfl rfl rfl ?_
        refine O.neq rfl rfl rfl rfl ?_
        refine WL.nil ?_
        rcases ite_some hm with ⟨hc4, hm⟩ | ⟨hc4, hm⟩
        · refine W.cond_true (congrArg Value.bool hc4) ?_
          refine W.seq ?_
          refine W.region ?_
          obtain ⟨t8, hy6, hm⟩ := bind_some hm
          refine O.call Try.call14 rfl rfl rfl (c_noongunlaw06_awake  hy6) ?_
          rintro _ w12 hb10 rfl
          have H := H.ext hb10
          refine O.assign (v := (.bool t8)) rfl rfl rfl ?_
          refine WL.nil ?_
          refine W.ret ?_
          have hq : t8 = r0 := Option.some.inj (show some t8 = some r0 from hm)
          subst hq
          exact ends1 Try.results4 rfl ⟨_, rfl, H.base, rfl⟩
        · refine W.cond_false (congrArg Value.bool hc4) ?_
          refine W.skip ?_
          refine W.seq ?_
          refine W.region ?_
          refine O.loadA [(.string a0.Name), va0_0] ag24 rfl rfl rfl rfl (H.cell 0 rfl) ?_
          obtain ⟨⟨t9, t10⟩, hy7, hm⟩ := bind_some hm
          refine O.call Try.call15 rfl rfl rfl (c_rate_Trial _ (GBox.mk a0.Name a0.Errors) (H.arg ha0_0) hy7) ?_
          rintro _ w13 hb11 rfl
          have H := H.ext hb11
          refine O.move (v := (.tuple #[(.agg (Flat.cells t9).toArray), (.int .i64 t10)])) rfl rfl rfl ?_
          refine O.extract (v := (.agg (Flat.cells t9).toArray)) rfl rfl rfl rfl ?_
          refine O.extract (v := (.int .i64 t10)) rfl rfl rfl rfl ?_
          refine O.alloc [(.string ByteArray.empty), (.int .i64 0), (.int .i64 0), (.int .i64 0), (.int .i64 0)] ze28 H rfl rfl rfl ?_
          intro b4 w14 H hb12
          refine O.store 7 0 [(.string t9.Name), (.int .i64 t9.Least), (.int .i64 t9.Greatest), (.int .i64 t9.Leap), (.int .i64 t9.Number)] [(.string t9.Name), (.int .i64 t9.Least), (.int .i64 t9.Greatest), (.int .i64 t9.Leap), (.int .i64 t9.Number)] sz28 H rfl rfl rfl rfl rfl rfl ⟨⟨rfl, rfl⟩, rfl⟩ (one_cons rfl (one_cons rfl (one_cons rfl (one_cons rfl (one_cons rfl one_nil))))) ?_
          intro w15 H
          refine O.assign (v := (.int .i64 t10)) rfl rfl rfl ?_
          refine WL.nil ?_
          refine W.seq ?_
          refine W.region ?_
          refine O.loadA [(.string t3.Name), v2] ag24 rfl rfl rfl rfl (H.cell 2 rfl) ?_
          obtain ⟨⟨t11, t12⟩, hy8, hm⟩ := bind_some hm
          refine O.call Try.call15 rfl rfl rfl (c_rate_Trial _ (GBox.mk t3.Name t3.Errors) (H.own 1 rfl) hy8) ?_
          rintro _ w16 hb13 rfl
          have H := H.ext hb13
          refine O.move (v := (.tuple #[(.agg (Flat.cells t11).toArray), (.int .i64 t12)])) rfl rfl rfl ?_
          refine O.extract (v := (.agg (Flat.cells t11).toArray)) rfl rfl rfl rfl ?_
          refine O.extract (v := (.int .i64 t12)) rfl rfl rfl rfl ?_
          refine O.alloc [(.string ByteArray.empty), (.int .i64 0), (.int .i64 0), (.int .i64 0), (.int .i64 0)] ze28 H rfl rfl rfl ?_
          intro b5 w17 H hb14
          refine O.store 8 0 [(.string t11.Name), (.int .i64 t11.Least), (.int .i64 t11.Greatest), (.int .i64 t11.Leap), (.int .i64 t11.Number)] [(.string t11.Name), (.int .i64 t11.Least), (.int .i64 t11.Greatest), (.int .i64 t11.Leap), (.int .i64 t11.Number)] sz28 H rfl rfl rfl rfl rfl rfl ⟨⟨rfl, rfl⟩, rfl⟩ (one_cons rfl (one_cons rfl (one_cons rfl (one_cons rfl (one_cons rfl one_nil))))) ?_
          intro w18 H
          refine O.assign (v := (.int .i64 t12)) rfl rfl rfl ?_
          refine WL.nil ?_
          refine W.seq ?_
          refine W.seq ?_
          refine W.region ?_
          refine O.move (v := (.int .i64 t10)) rfl rfl rfl ?_
          refine O.neq rfl rfl rfl rfl ?_
          refine WL.nil ?_
          rcases ite_some hm with ⟨hc5, hm⟩ | ⟨hc5, hm⟩
          · refine W.cond_true (congrArg Value.bool hc5) ?_
            refine W.seq ?_
            refine W.region ?_
            refine O.move (v := (.int .i64 t12)) rfl rfl rfl ?_
            refine O.move (v := (.int .i64 t10)) rfl rfl rfl ?_
            refine O.eql rfl rfl rfl rfl ?_
            refine O.move (v := (.bool (t12 == t10))) rfl rfl rfl ?_
            obtain ⟨b6, hm1, hm⟩ := bind_some hm
            refine WL.cut 2 (fun f w => f 63 = .bool b6 ∧ Inv w0 w [boxI b1 24 [(.string a0.Name), va0_0], ownI (α := Int) v2 3 t3.Errors, boxI b2 24 [(.string t3.Name), v2], ownI (α := Int) (.slice none 0 0) 3 ([] : List Int), ownI (α := Int) v3 3 t5.Errors, boxI b3 24 [(.string t5.Name), v3], ownI (α := Int) (.slice none 0 0) 3 ([] : List Int), boxI b4 28 [(.string t9.Name), (.int .i64 t9.Least), (.int .i64 t9.Greatest), (.int .i64 t9.Leap), (.int .i64 t9.Number)], boxI b5 28 [(.string t11.Name), (.int .i64 t11.Least), (.int .i64 t11.Greatest), (.int .i64 t11.Leap), (.int .i64 t11.Number)]]) ?_ ?_
            · skip
              rcases ite_some hm1 with ⟨hc6, hm1⟩ | ⟨hc6, hm1⟩
              · skip
                refine WL.reset (i := 61) (v := .bool true) (congrArg Value.bool hc6) ?_
                obtain ⟨t13, hy9, hm1⟩ := bind_some hm1
                refine O.call Try.call14 rfl rfl rfl (c_noongunlaw06_awake  hy9) ?_
                rintro _ w19 hb15 rfl
                have H := H.ext hb15
                refine O.pick_true (v := (.bool t13)) rfl rfl rfl rfl ?_
                refine WL.nil ?_
                have hq : t13 = b6 := Option.some.inj (show some t13 = some b6 from hm1)
                subst hq
                exact ⟨rfl, H⟩
              · skip
                refine WL.reset (i := 61) (v := .bool false) (congrArg Value.bool hc6) ?_
                refine O.skip rfl rfl ?_
                refine O.pick_false (v := (.bool false)) rfl rfl rfl rfl ?_
                refine WL.nil ?_
                have hq : false = b6 := Option.some.inj (show some false = some b6 from hm1)
                subst hq
                exact ⟨rfl, H⟩
            · skip
              rintro f w ⟨hf63, H⟩
              obtain ⟨u2, rfl⟩ : ∃ u2, f = (upd u2 63 (.bool b6)) := ⟨f, by rw [upd_self hf63]⟩
              refine O.assign (v := (.bool b6)) rfl rfl rfl ?_
              refine WL.nil ?_
              refine W.ret ?_
              have hq : b6 = r0 := Option.some.inj (show some b6 = some r0 from hm)
              subst hq
              exact ends1 Try.results4 rfl ⟨_, rfl, H.base, rfl⟩
          · refine W.cond_false (congrArg Value.bool hc5) ?_
            refine W.skip ?_
            refine W.seq ?_
            refine W.region ?_
            refine O.move (v := (.int .i64 t12)) rfl rfl rfl ?_
            refine O.eql rfl rfl rfl rfl ?_
            refine O.move (v := (.bool (t12 == 0))) rfl rfl rfl ?_
            obtain ⟨b7, hm2, hm⟩ := bind_some hm
            refine WL.cut 9 (fun f w => f 2 = (.int .i64 a2) ∧ f 11 = (.pointer (some ⟨b4, 0, none⟩)) ∧ f 13 = (.pointer (some ⟨b5, 0, none⟩)) ∧ f 75 = .bool b7 ∧ Inv w0 w [boxI b1 24 [(.string a0.Name), va0_0], ownI (α := Int) v2 3 t3.Errors, boxI b2 24 [(.string t3.Name), v2], ownI (α := Int) (.slice none 0 0) 3 ([] : List Int), ownI (α := Int) v3 3 t5.Errors, boxI b3 24 [(.string t5.Name), v3], ownI (α := Int) (.slice none 0 0) 3 ([] : List Int), boxI b4 28 [(.string t9.Name), (.int .i64 t9.Least), (.int .i64 t9.Greatest), (.int .i64 t9.Leap), (.int .i64 t9.Number)], boxI b5 28 [(.string t11.Name), (.int .i64 t11.Least), (.int .i64 t11.Greatest), (.int .i64 t11.Leap), (.int .i64 t11.Number)]]) ?_ ?_
            · skip
              rcases ite_some hm2 with ⟨hc7, hm2⟩ | ⟨hc7, hm2⟩
              · skip
                refine WL.reset (i := 66) (v := .bool true) (congrArg Value.bool hc7) ?_
                refine O.fieldAddr fd28_1 rfl rfl rfl ?_
                refine O.load sc3 rfl rfl rfl (H.cell 8 rfl 1 _ rfl) ?_
                refine O.fieldAddr fd28_1 rfl rfl rfl ?_
                refine O.load sc3 rfl rfl rfl (H.cell 7 rfl 1 _ rfl) ?_
                refine O.move (v := (.int .i64 a2)) rfl rfl rfl ?_
                obtain ⟨t14, ht14, hm2⟩ := bind_some hm2
                refine O.mul rfl rfl rfl rfl ht14 ?_
                obtain ⟨t15, ht15, hm2⟩ := bind_some hm2
                refine O.add rfl rfl rfl rfl ht15 ?_
                refine O.eql rfl rfl rfl rfl ?_
                refine O.pick_true (v := (.bool (t11.Least == t15))) rfl rfl rfl rfl ?_
                refine WL.nil ?_
                have hq : (t11.Least == t15) = b7 := Option.some.inj (show some (t11.Least == t15) = some b7 from hm2)
                subst hq
                exact ⟨rfl, rfl, rfl, rfl, H⟩
              · skip
                refine WL.reset (i := 66) (v := .bool false) (congrArg Value.bool hc7) ?_
                refine O.skip rfl rfl ?_
                refine O.skip rfl rfl ?_
                refine O.skip rfl rfl ?_
                refine O.skip rfl rfl ?_
                refine O.skip rfl rfl ?_
                refine O.skip rfl rfl ?_
                refine O.skip rfl rfl ?_
                refine O.skip rfl rfl ?_
                refine O.pick_false (v := (.bool false)) rfl rfl rfl rfl ?_
                refine WL.nil ?_
                have hq : false = b7 := Option.some.inj (show some false = some b7 from hm2)
                subst hq
                exact ⟨rfl, rfl, rfl, rfl, H⟩
            · skip
              rintro f w ⟨hf2, hf11, hf13, hf75, H⟩
              obtain ⟨u3, rfl⟩ : ∃ u3, f = (upd (upd (upd (upd u3 2 (.int .i64 a2)) 11 (.pointer (some ⟨b4, 0, none⟩))) 13 (.pointer (some ⟨b5, 0, none⟩))) 75 (.bool b7)) := ⟨f, by rw [upd_self hf2, upd_self hf11, upd_self hf13, upd_self hf75]⟩
              refine O.move (v := (.bool b7)) rfl rfl rfl ?_
              obtain ⟨b8, hm3, hm⟩ := bind_some hm
              refine WL.cut 9 (fun f w => f 11 = (.pointer (some ⟨b4, 0, none⟩)) ∧ f 13 = (.pointer (some ⟨b5, 0, none⟩)) ∧ f 85 = .bool b8 ∧ Inv w0 w [boxI b1 24 [(.string a0.Name), va0_0], ownI (α := Int) v2 3 t3.Errors, boxI b2 24 [(.string t3.Name), v2], ownI (α := Int) (.slice none 0 0) 3 ([] : List Int), ownI (α := Int) v3 3 t5.Errors, boxI b3 24 [(.string t5.Name), v3], ownI (α := Int) (.slice none 0 0) 3 ([] : List Int), boxI b4 28 [(.string t9.Name), (.int .i64 t9.Least), (.int .i64 t9.Greatest), (.int .i64 t9.Leap), (.int .i64 t9.Number)], boxI b5 28 [(.string t11.Name), (.int .i64 t11.Least), (.int .i64 t11.Greatest), (.int .i64 t11.Leap), (.int .i64 t11.Number)]]) ?_ ?_
              · skip
                rcases ite_some hm3 with ⟨hc8, hm3⟩ | ⟨hc8, hm3⟩
                · skip
                  refine WL.reset (i := 76) (v := .bool true) (congrArg Value.bool hc8) ?_
                  refine O.fieldAddr fd28_2 rfl rfl rfl ?_
                  refine O.load sc3 rfl rfl rfl (H.cell 8 rfl 2 _ rfl) ?_
                  refine O.fieldAddr fd28_2 rfl rfl rfl ?_
                  refine O.load sc3 rfl rfl rfl (H.cell 7 rfl 2 _ rfl) ?_
                  refine O.move (v := (.int .i64 a2)) rfl rfl rfl ?_
                  obtain ⟨t16, ht16, hm3⟩ := bind_some hm3
                  refine O.mul rfl rfl rfl rfl ht16 ?_
                  obtain ⟨t17, ht17, hm3⟩ := bind_some hm3
                  refine O.add rfl rfl rfl rfl ht17 ?_
                  refine O.eql rfl rfl rfl rfl ?_
                  refine O.pick_true (v := (.bool (t11.Greatest == t17))) rfl rfl rfl rfl ?_
                  refine WL.nil ?_
                  have hq : (t11.Greatest == t17) = b8 := Option.some.inj (show some (t11.Greatest == t17) = some b8 from hm3)
                  subst hq
                  exact ⟨rfl, rfl, rfl, H⟩
                · skip
                  refine WL.reset (i := 76) (v := .bool false) (congrArg Value.bool hc8) ?_
                  refine O.skip rfl rfl ?_
                  refine O.skip rfl rfl ?_
                  refine O.skip rfl rfl ?_
                  refine O.skip rfl rfl ?_
                  refine O.skip rfl rfl ?_
                  refine O.skip rfl rfl ?_
                  refine O.skip rfl rfl ?_
                  refine O.skip rfl rfl ?_
                  refine O.pick_false (v := (.bool false)) rfl rfl rfl rfl ?_
                  refine WL.nil ?_
                  have hq : false = b8 := Option.some.inj (show some false = some b8 from hm3)
                  subst hq
                  exact ⟨rfl, rfl, rfl, H⟩
              · skip
                rintro f w ⟨hf11, hf13, hf85, H⟩
                obtain ⟨u4, rfl⟩ : ∃ u4, f = (upd (upd (upd u4 11 (.pointer (some ⟨b4, 0, none⟩))) 13 (.pointer (some ⟨b5, 0, none⟩))) 85 (.bool b8)) := ⟨f, by rw [upd_self hf11, upd_self hf13, upd_self hf85]⟩
                refine O.move (v := (.bool b8)) rfl rfl rfl ?_
                refine WL.cut 6 (fun f w => f 11 = (.pointer (some ⟨b4, 0, none⟩)) ∧ f 13 = (.pointer (some ⟨b5, 0, none⟩)) ∧ f 92 = .bool (b8 && (t11.Leap == t9.Leap)) ∧ Inv w0 w [boxI b1 24 [(.string a0.Name), va0_0], ownI (α := Int) v2 3 t3.Errors, boxI b2 24 [(.string t3.Name), v2], ownI (α := Int) (.slice none 0 0) 3 ([] : List Int), ownI (α := Int) v3 3 t5.Errors, boxI b3 24 [(.string t5.Name), v3], ownI (α := Int) (.slice none 0 0) 3 ([] : List Int), boxI b4 28 [(.string t9.Name), (.int .i64 t9.Least), (.int .i64 t9.Greatest), (.int .i64 t9.Leap), (.int .i64 t9.Number)], boxI b5 28 [(.string t11.Name), (.int .i64 t11.Least), (.int .i64 t11.Greatest), (.int .i64 t11.Leap), (.int .i64 t11.Number)]]) ?_ ?_
                · skip
                  rcases bool_ft b8 with hc9 | hc9
                  · skip
                    refine WL.reset (i := 86) (v := .bool false) (congrArg Value.bool hc9) ?_
                    refine O.skip rfl rfl ?_
                    refine O.skip rfl rfl ?_
                    refine O.skip rfl rfl ?_
                    refine O.skip rfl rfl ?_
                    refine O.skip rfl rfl ?_
                    refine O.pick_false (v := (.bool false)) rfl rfl rfl rfl ?_
                    refine WL.nil ?_
                    exact ⟨rfl, rfl, congrArg Value.bool (and_f hc9), H⟩
                  · skip
                    refine WL.reset (i := 86) (v := .bool true) (congrArg Value.bool hc9) ?_
                    refine O.fieldAddr fd28_3 rfl rfl rfl ?_
                    refine O.load sc3 rfl rfl rfl (H.cell 8 rfl 3 _ rfl) ?_
                    refine O.fieldAddr fd28_3 rfl rfl rfl ?_
                    refine O.load sc3 rfl rfl rfl (H.cell 7 rfl 3 _ rfl) ?_
                    refine O.eql rfl rfl rfl rfl ?_
                    refine O.pick_true (v := (.bool (t11.Leap == t9.Leap))) rfl rfl rfl rfl ?_
                    refine WL.nil ?_
                    exact ⟨rfl, rfl, congrArg Value.bool (and_t hc9), H⟩
                · skip
                  rintro f w ⟨hf11, hf13, hf92, H⟩
                  obtain ⟨u5, rfl⟩ : ∃ u5, f = (upd (upd (upd u5 11 (.pointer (some ⟨b4, 0, none⟩))) 13 (.pointer (some ⟨b5, 0, none⟩))) 92 (.bool (b8 && (t11.Leap == t9.Leap)))) := ⟨f, by rw [upd_self hf11, upd_self hf13, upd_self hf92]⟩
                  refine O.move (v := (.bool (b8 && (t11.Leap == t9.Leap)))) rfl rfl rfl ?_
                  refine WL.cut 6 (fun f w => f 99 = .bool ((b8 && (t11.Leap == t9.Leap)) && (t11.Number == t9.Number)) ∧ Inv w0 w [boxI b1 24 [(.string a0.Name), va0_0], ownI (α := Int) v2 3 t3.Errors, boxI b2 24 [(.string t3.Name), v2], ownI (α := Int) (.slice none 0 0) 3 ([] : List Int), ownI (α := Int) v3 3 t5.Errors, boxI b3 24 [(.string t5.Name), v3], ownI (α := Int) (.slice none 0 0) 3 ([] : List Int), boxI b4 28 [(.string t9.Name), (.int .i64 t9.Least), (.int .i64 t9.Greatest), (.int .i64 t9.Leap), (.int .i64 t9.Number)], boxI b5 28 [(.string t11.Name), (.int .i64 t11.Least), (.int .i64 t11.Greatest), (.int .i64 t11.Leap), (.int .i64 t11.Number)]]) ?_ ?_
                  · skip
                    rcases bool_ft (b8 && (t11.Leap == t9.Leap)) with hc10 | hc10
                    · skip
                      refine WL.reset (i := 93) (v := .bool false) (congrArg Value.bool hc10) ?_
                      refine O.skip rfl rfl ?_
                      refine O.skip rfl rfl ?_
                      refine O.skip rfl rfl ?_
                      refine O.skip rfl rfl ?_
                      refine O.skip rfl rfl ?_
                      refine O.pick_false (v := (.bool false)) rfl rfl rfl rfl ?_
                      refine WL.nil ?_
                      exact ⟨congrArg Value.bool (and_f hc10), H⟩
                    · skip
                      refine WL.reset (i := 93) (v := .bool true) (congrArg Value.bool hc10) ?_
                      refine O.fieldAddr fd28_4 rfl rfl rfl ?_
                      refine O.load sc3 rfl rfl rfl (H.cell 8 rfl 4 _ rfl) ?_
                      refine O.fieldAddr fd28_4 rfl rfl rfl ?_
                      refine O.load sc3 rfl rfl rfl (H.cell 7 rfl 4 _ rfl) ?_
                      refine O.eql rfl rfl rfl rfl ?_
                      refine O.pick_true (v := (.bool (t11.Number == t9.Number))) rfl rfl rfl rfl ?_
                      refine WL.nil ?_
                      exact ⟨congrArg Value.bool (and_t hc10), H⟩
                  · skip
                    rintro f w ⟨hf99, H⟩
                    obtain ⟨u6, rfl⟩ : ∃ u6, f = (upd u6 99 (.bool ((b8 && (t11.Leap == t9.Leap)) && (t11.Number == t9.Number)))) := ⟨f, by rw [upd_self hf99]⟩
                    refine O.move (v := (.bool ((b8 && (t11.Leap == t9.Leap)) && (t11.Number == t9.Number)))) rfl rfl rfl ?_
                    obtain ⟨b9, hm4, hm⟩ := bind_some hm
                    refine WL.cut 2 (fun f w => f 102 = .bool b9 ∧ Inv w0 w [boxI b1 24 [(.string a0.Name), va0_0], ownI (α := Int) v2 3 t3.Errors, boxI b2 24 [(.string t3.Name), v2], ownI (α := Int) (.slice none 0 0) 3 ([] : List Int), ownI (α := Int) v3 3 t5.Errors, boxI b3 24 [(.string t5.Name), v3], ownI (α := Int) (.slice none 0 0) 3 ([] : List Int), boxI b4 28 [(.string t9.Name), (.int .i64 t9.Least), (.int .i64 t9.Greatest), (.int .i64 t9.Leap), (.int .i64 t9.Number)], boxI b5 28 [(.string t11.Name), (.int .i64 t11.Least), (.int .i64 t11.Greatest), (.int .i64 t11.Leap), (.int .i64 t11.Number)]]) ?_ ?_
                    · skip
                      rcases ite_some hm4 with ⟨hc11, hm4⟩ | ⟨hc11, hm4⟩
                      · skip
                        refine WL.reset (i := 100) (v := .bool true) (congrArg Value.bool hc11) ?_
                        obtain ⟨t18, hy10, hm4⟩ := bind_some hm4
                        refine O.call Try.call14 rfl rfl rfl (c_noongunlaw06_awake  hy10) ?_
                        rintro _ w20 hb16 rfl
                        have H := H.ext hb16
                        refine O.pick_true (v := (.bool t18)) rfl rfl rfl rfl ?_
                        refine WL.nil ?_
                        have hq : t18 = b9 := Option.some.inj (show some t18 = some b9 from hm4)
                        subst hq
                        exact ⟨rfl, H⟩
                      · skip
                        refine WL.reset (i := 100) (v := .bool false) (congrArg Value.bool hc11) ?_
                        refine O.skip rfl rfl ?_
                        refine O.pick_false (v := (.bool false)) rfl rfl rfl rfl ?_
                        refine WL.nil ?_
                        have hq : false = b9 := Option.some.inj (show some false = some b9 from hm4)
                        subst hq
                        exact ⟨rfl, H⟩
                    · skip
                      rintro f w ⟨hf102, H⟩
                      obtain ⟨u7, rfl⟩ : ∃ u7, f = (upd u7 102 (.bool b9)) := ⟨f, by rw [upd_self hf102]⟩
                      refine O.assign (v := (.bool b9)) rfl rfl rfl ?_
                      refine WL.nil ?_
                      refine W.ret ?_
                      have hq : b9 = r0 := Option.some.inj (show some b9 = some r0 from hm)
                      subst hq
                      exact ends1 Try.results4 rfl ⟨_, rfl, H.base, rfl⟩

theorem c_rate_Daily {w0 : World} (va0_0 : Value) (a0 : GBox) (ha0_0 : SliceR w0 va0_0 a0.Errors) {r0 : (List Int)} {r1 : Int} (hm : rate_Daily a0 = some (r0, r1)) :
    Calls Try.prog 20 #[(.agg #[(.string a0.Name), va0_0])] w0 (Ret w0 fun w v => ∃ vr0 : Value, v = .tuple #[vr0, (.int .i64 r1)] ∧ OwnR w0 w vr0 3 r0) := by
  unfold rate_Daily at hm
  refine calls_of_W Try.func20 rfl Try.ntmps20 (Nat.le_of_ble_eq_true rfl) ?_
  have H := Inv.start (w := w0)
  refine W.seq ?_
  refine W.region ?_
  refine O.box [(.string a0.Name), va0_0] H rfl rfl rfl rfl ?_
  intro b1 w1 H hb1
  have H := H.addNil (α := Int) (E := 3)
  refine O.assign (v := (.slice none 0 0)) rfl rfl rfl ?_
  refine O.assign (v := (.int .i64 0)) rfl rfl rfl ?_
  refine WL.nil ?_
  refine W.seq ?_
  refine W.seq ?_
  refine W.region ?_
  refine O.loadA [(.string a0.Name), va0_0] ag24 rfl rfl rfl rfl (H.cell 0 rfl) ?_
  obtain ⟨t1, hy1, hm⟩ := bind_some hm
  refine O.call Try.call16 rfl rfl rfl (c_rate_ValidBox _ (GBox.mk a0.Name a0.Errors) (H.arg ha0_0) hy1) ?_
  rintro _ w2 hb2 rfl
  have H := H.ext hb2
  refine O.not rfl rfl rfl ?_
  refine WL.nil ?_
  rcases ite_some hm with ⟨hc1, hm⟩ | ⟨hc1, hm⟩
  · refine W.cond_true (congrArg Value.bool hc1) ?_
    refine W.seq ?_
    refine W.region ?_
    have H := H.addNil (α := Int) (E := 3)
    refine O.assign (v := (.slice none 0 0)) rfl rfl rfl ?_
    refine O.assign (v := (.int .i64 1)) rfl rfl rfl ?_
    refine WL.nil ?_
    refine W.ret ?_
    have hq : (([] : List Int), 1) = (r0, r1) := Option.some.inj (show some (([] : List Int), 1) = some (r0, r1) from hm)
    obtain ⟨he0, hq0⟩ := Prod.mk.inj hq; clear hq; subst he0
    subst hq0
    exact ends2 Try.results20 rfl rfl ⟨_, rfl, H.base, ⟨_, rfl, H.ownR 2 rfl⟩⟩
  · refine W.cond_false (congrArg Value.bool hc1) ?_
    refine W.skip ?_
    refine W.seq ?_
    refine W.region ?_
    refine O.fieldAddr fd24_1 rfl rfl rfl ?_
    refine O.load sc22 rfl rfl rfl (H.cell 0 rfl 1 _ rfl) ?_
    refine O.call Try.call57 rfl rfl rfl (c_rate_differences _ _ (H.arg ha0_0) _) ?_
    rintro _ w3 hb3 ⟨b2, b3, rfl, hM1⟩
    have H := H.addAll hb3 hM1
    obtain ⟨xs1, hxs1, hm⟩ := bind_some hm
    obtain ⟨t2, hy2, hm⟩ := bind_some hm
    refine O.call Try.call63 rfl rfl rfl (c_slices_Collect_int (.func (.func 91) #[] #[(.pointer (some ⟨b2, 0, none⟩)), (.pointer (some ⟨b3, 0, none⟩))]) xs1 (iterP_mk rfl Try.call91 fun _ _ hk => it_rate_differences_c1 _ 1 _ _ a0.Errors hxs1 fun w hw => ⟨cells_mono (H.cell 2 rfl) (hk w hw), cells_mono (H.cell 3 rfl) (hk w hw), (H.arg ha0_0).mono (hk w hw)⟩) hy2) ?_
    rintro v1 w4 hb4 ho1
    have H := H.addOwn hb4 ho1
    refine O.assign (v := v1) rfl rfl rfl ?_
    refine O.assign (v := (.int .i64 0)) rfl rfl rfl ?_
    refine WL.nil ?_
    refine W.ret ?_
    have hq : (t2, 0) = (r0, r1) := Option.some.inj (show some (t2, 0) = some (r0, r1) from hm)
    obtain ⟨he0, hq0⟩ := Prod.mk.inj hq; clear hq; subst he0
    subst hq0
    exact ends2 Try.results20 rfl rfl ⟨_, rfl, H.base, ⟨_, rfl, H.ownR 4 rfl⟩⟩

theorem c_noongunref06_Least {w0 : World} (va0 : Value) (a0 : (List Int)) (ha0 : SliceR w0 va0 a0) {r0 : Int} (hm : noongunref06_Least a0 = some r0) :
    Calls Try.prog 21 #[va0] w0 (Ret w0 fun _ v => v = (.int .i64 r0)) := by
  unfold noongunref06_Least at hm
  refine calls_of_W Try.func21 rfl Try.ntmps21 (Nat.le_of_ble_eq_true rfl) ?_
  have H := Inv.start (w := w0)
  refine W.seq ?_
  refine W.region ?_
  refine O.assign (v := (.int .i64 0)) rfl rfl rfl ?_
  refine WL.nil ?_
  refine W.seq ?_
  refine W.region ?_
  refine O.move (v := va0) rfl rfl rfl ?_
  obtain ⟨x1, hx1, hm⟩ := bind_some hm
  obtain ⟨p1, hp1, hrp1⟩ := fix_indexAddr Try.underlying22 sz3 ha0 hx1
  refine hrp1 rfl rfl rfl rfl ?_
  refine O.load sc3 rfl rfl rfl ((hp1.mono H.base).flat 0 _ rfl) ?_
  refine O.assign (v := (.int .i64 x1)) rfl rfl rfl ?_
  refine WL.nil ?_
  refine W.seq ?_
  refine W.seq ?_
  refine W.region ?_
  refine O.move (v := va0) rfl rfl rfl ?_
  refine O.lenS Try.underlying22 (H.arg ha0) rfl rfl rfl ?_
  refine O.move (v := (.int .i64 0)) rfl rfl rfl ?_
  refine WL.nil ?_
  obtain ⟨s1, hm1, hm⟩ := bind_some hm
  refine W.via (fun f w => f 3 = (.int .i64 s1) ∧ Inv w0 w []) ?_ ?_
  · skip
    refine W.block ?_
    refine W.rangeL (i := 0) hm1 (fun rem ik1 s f w => ∃ z2 : Int, z2 = s ∧ a0.drop ik1 = rem ∧ f 11 = .int .i64 (ik1 : Int) ∧ f 10 = (.int .i64 ((a0.length : Nat) : Int)) ∧ f 3 = (.int .i64 z2) ∧ f 9 = va0 ∧ Inv w0 w []) ?_ ?_ ?_
    · skip
      exact ⟨_, rfl, List.drop_zero, rfl, rfl, rfl, rfl, H⟩
    · skip
      rintro yk1 xs ik1 _ st f w ⟨z2, rfl, hdropk1, hf11, hf10, hf3, hf9, H⟩ hm2
      have hltk1 := drop_lt hdropk1; have hixk1 := drop_idx hdropk1
      obtain ⟨u1, rfl⟩ : ∃ u1, f = (upd (upd (upd (upd u1 11 (.int .i64 (ik1 : Int))) 10 (.int .i64 ((a0.length : Nat) : Int))) 3 (.int .i64 z2)) 9 va0) := ⟨f, by rw [upd_self hf11, upd_self hf10, upd_self hf3, upd_self hf9]⟩
      have hinck1 := addI_lt hltk1 (H.arg ha0).len_le
      refine W.seq ?_
      refine W.region ?_
      refine O.lss rfl rfl rfl rfl ?_
      refine WL.nil ?_
      refine W.seq ?_
      refine W.cond_true (congrArg Value.bool (decide_eq_true hltk1)) ?_
      refine W.skip ?_
      refine W.seq ?_
      refine W.block ?_
      refine W.seq ?_
      refine W.region ?_
      obtain ⟨p2, hp2, hrp2⟩ := fix_indexAddr Try.underlying22 sz3 ha0 hixk1
      refine hrp2 rfl rfl rfl rfl ?_
      refine O.load sc3 rfl rfl rfl ((hp2.mono H.base).flat 0 _ rfl) ?_
      refine O.assign (v := (.int .i64 yk1)) rfl rfl rfl ?_
      refine WL.nil ?_
      refine W.region ?_
      refine O.move (v := (.int .i64 z2)) rfl rfl rfl ?_
      refine O.move (v := (.int .i64 yk1)) rfl rfl rfl ?_
      refine O.min2 rfl rfl rfl rfl ?_
      refine O.assign (v := (.int .i64 (min z2 yk1))) rfl rfl rfl ?_
      refine WL.nil ?_
      refine W.region ?_
      refine O.add rfl rfl rfl rfl hinck1 ?_
      refine O.move (v := .int .i64 ((ik1 : Int) + 1)) rfl rfl rfl ?_
      refine WL.nil ?_
      obtain rfl := Option.some.inj hm2
      exact ⟨_, rfl, _, rfl, drop_next hdropk1, rfl, rfl, rfl, rfl, H⟩
    · skip
      rintro ik1 _ f w ⟨z2, rfl, hdropk1, hf11, hf10, hf3, hf9, H⟩ hfin
      have hltk1 := drop_end hdropk1
      obtain ⟨u2, rfl⟩ : ∃ u2, f = (upd (upd (upd (upd u2 11 (.int .i64 (ik1 : Int))) 10 (.int .i64 ((a0.length : Nat) : Int))) 3 (.int .i64 z2)) 9 va0) := ⟨f, by rw [upd_self hf11, upd_self hf10, upd_self hf3, upd_self hf9]⟩
      refine W.seq ?_
      refine W.region ?_
      refine O.lss rfl rfl rfl rfl ?_
      refine WL.nil ?_
      refine W.seq ?_
      refine W.cond_false (congrArg Value.bool (decide_eq_false hltk1)) ?_
      refine W.exit ?_
      have hq : z2 = s1 := hfin
      subst hq
      refine xT rfl ?_
      exact ⟨rfl, H⟩
  · skip
    rintro f w ⟨hf3, H⟩
    obtain ⟨u3, rfl⟩ : ∃ u3, f = (upd u3 3 (.int .i64 s1)) := ⟨f, by rw [upd_self hf3]⟩
    refine W.seq ?_
    refine W.region ?_
    refine O.move (v := (.int .i64 s1)) rfl rfl rfl ?_
    refine O.assign (v := (.int .i64 s1)) rfl rfl rfl ?_
    refine WL.nil ?_
    refine W.ret ?_
    have hq : s1 = r0 := Option.some.inj (show some s1 = some r0 from hm)
    subst hq
    exact ends1 Try.results21 rfl ⟨_, rfl, H.base, rfl⟩

theorem c_noongunref06_Greatest {w0 : World} (va0 : Value) (a0 : (List Int)) (ha0 : SliceR w0 va0 a0) {r0 : Int} (hm : noongunref06_Greatest a0 = some r0) :
    Calls Try.prog 22 #[va0] w0 (Ret w0 fun _ v => v = (.int .i64 r0)) := by
  unfold noongunref06_Greatest at hm
  refine calls_of_W Try.func22 rfl Try.ntmps22 (Nat.le_of_ble_eq_true rfl) ?_
  have H := Inv.start (w := w0)
  refine W.seq ?_
  refine W.region ?_
  refine O.assign (v := (.int .i64 0)) rfl rfl rfl ?_
  refine WL.nil ?_
  refine W.seq ?_
  refine W.region ?_
  refine O.move (v := va0) rfl rfl rfl ?_
  obtain ⟨x1, hx1, hm⟩ := bind_some hm
  obtain ⟨p1, hp1, hrp1⟩ := fix_indexAddr Try.underlying22 sz3 ha0 hx1
  refine hrp1 rfl rfl rfl rfl ?_
  refine O.load sc3 rfl rfl rfl ((hp1.mono H.base).flat 0 _ rfl) ?_
  refine O.assign (v := (.int .i64 x1)) rfl rfl rfl ?_
  refine WL.nil ?_
  refine W.seq ?_
  refine W.seq ?_
  refine W.region ?_
  refine O.move (v := va0) rfl rfl rfl ?_
  refine O.lenS Try.underlying22 (H.arg ha0) rfl rfl rfl ?_
  refine O.move (v := (.int .i64 0)) rfl rfl rfl ?_
  refine WL.nil ?_
  obtain ⟨s1, hm1, hm⟩ := bind_some hm
  refine W.via (fun f w => f 3 = (.int .i64 s1) ∧ Inv w0 w []) ?_ ?_
  · skip
    refine W.block ?_
    refine W.rangeL (i := 0) hm1 (fun rem ik1 s f w => ∃ z2 : Int, z2 = s ∧ a0.drop ik1 = rem ∧ f 11 = .int .i64 (ik1 : Int) ∧ f 10 = (.int .i64 ((a0.length : Nat) : Int)) ∧ f 3 = (.int .i64 z2) ∧ f 9 = va0 ∧ Inv w0 w []) ?_ ?_ ?_
    · skip
      exact ⟨_, rfl, List.drop_zero, rfl, rfl, rfl, rfl, H⟩
    · skip
      rintro yk1 xs ik1 _ st f w ⟨z2, rfl, hdropk1, hf11, hf10, hf3, hf9, H⟩ hm2
      have hltk1 := drop_lt hdropk1; have hixk1 := drop_idx hdropk1
      obtain ⟨u1, rfl⟩ : ∃ u1, f = (upd (upd (upd (upd u1 11 (.int .i64 (ik1 : Int))) 10 (.int .i64 ((a0.length : Nat) : Int))) 3 (.int .i64 z2)) 9 va0) := ⟨f, by rw [upd_self hf11, upd_self hf10, upd_self hf3, upd_self hf9]⟩
      have hinck1 := addI_lt hltk1 (H.arg ha0).len_le
      refine W.seq ?_
      refine W.region ?_
      refine O.lss rfl rfl rfl rfl ?_
      refine WL.nil ?_
      refine W.seq ?_
      refine W.cond_true (congrArg Value.bool (decide_eq_true hltk1)) ?_
      refine W.skip ?_
      refine W.seq ?_
      refine W.block ?_
      refine W.seq ?_
      refine W.region ?_
      obtain ⟨p2, hp2, hrp2⟩ := fix_indexAddr Try.underlying22 sz3 ha0 hixk1
      refine hrp2 rfl rfl rfl rfl ?_
      refine O.load sc3 rfl rfl rfl ((hp2.mono H.base).flat 0 _ rfl) ?_
      refine O.assign (v := (.int .i64 yk1)) rfl rfl rfl ?_
      refine WL.nil ?_
      refine W.region ?_
      refine O.move (v := (.int .i64 z2)) rfl rfl rfl ?_
      refine O.move (v := (.int .i64 yk1)) rfl rfl rfl ?_
      refine O.max2 rfl rfl rfl rfl ?_
      refine O.assign (v := (.int .i64 (max z2 yk1))) rfl rfl rfl ?_
      refine WL.nil ?_
      refine W.region ?_
      refine O.add rfl rfl rfl rfl hinck1 ?_
      refine O.move (v := .int .i64 ((ik1 : Int) + 1)) rfl rfl rfl ?_
      refine WL.nil ?_
      obtain rfl := Option.some.inj hm2
      exact ⟨_, rfl, _, rfl, drop_next hdropk1, rfl, rfl, rfl, rfl, H⟩
    · skip
      rintro ik1 _ f w ⟨z2, rfl, hdropk1, hf11, hf10, hf3, hf9, H⟩ hfin
      have hltk1 := drop_end hdropk1
      obtain ⟨u2, rfl⟩ : ∃ u2, f = (upd (upd (upd (upd u2 11 (.int .i64 (ik1 : Int))) 10 (.int .i64 ((a0.length : Nat) : Int))) 3 (.int .i64 z2)) 9 va0) := ⟨f, by rw [upd_self hf11, upd_self hf10, upd_self hf3, upd_self hf9]⟩
      refine W.seq ?_
      refine W.region ?_
      refine O.lss rfl rfl rfl rfl ?_
      refine WL.nil ?_
      refine W.seq ?_
      refine W.cond_false (congrArg Value.bool (decide_eq_false hltk1)) ?_
      refine W.exit ?_
      have hq : z2 = s1 := hfin
      subst hq
      refine xT rfl ?_
      exact ⟨rfl, H⟩
  · skip
    rintro f w ⟨hf3, H⟩
    obtain ⟨u3, rfl⟩ : ∃ u3, f = (upd u3 3 (.int .i64 s1)) := ⟨f, by rw [upd_self hf3]⟩
    refine W.seq ?_
    refine W.region ?_
    refine O.move (v := (.int .i64 s1)) rfl rfl rfl ?_
    refine O.assign (v := (.int .i64 s1)) rfl rfl rfl ?_
    refine WL.nil ?_
    refine W.ret ?_
    have hq : s1 = r0 := Option.some.inj (show some s1 = some r0 from hm)
    subst hq
    exact ends1 Try.results22 rfl ⟨_, rfl, H.base, rfl⟩

theorem c_span_ValidSpan {w0 : World} (a0 : GSpan) {r0 : Bool} (hm : span_ValidSpan a0 = some r0) :
    Calls Try.prog 64 #[(.agg (Flat.cells a0).toArray)] w0 (Ret w0 fun _ v => v = (.bool r0)) := by
  unfold span_ValidSpan at hm
  refine calls_of_W Try.func64 rfl Try.ntmps64 (Nat.le_of_ble_eq_true rfl) ?_
  have H := Inv.start (w := w0)
  refine W.seq ?_
  refine W.region ?_
  refine O.box [(.int .i64 a0.Lo), (.int .i64 a0.Hi)] H rfl rfl rfl rfl ?_
  intro b1 w1 H hb1
  refine O.assign (v := (.bool false)) rfl rfl rfl ?_
  refine WL.nil ?_
  refine W.seq ?_
  refine W.region ?_
  refine O.fieldAddr fd41_0 rfl rfl rfl ?_
  refine O.load sc3 rfl rfl rfl (H.cell 0 rfl 0 _ rfl) ?_
  refine O.geq rfl rfl rfl rfl ?_
  refine O.move (v := (.bool (decide ((-1000000000000) ≤ a0.Lo)))) rfl rfl rfl ?_
  refine WL.cut 6 (fun f w => f 1 = (.pointer (some ⟨b1, 0, none⟩)) ∧ f 12 = .bool ((decide ((-1000000000000) ≤ a0.Lo)) && (decide (a0.Lo ≤ a0.Hi))) ∧ Inv w0 w [boxI b1 41 [(.int .i64 a0.Lo), (.int .i64 a0.Hi)]]) ?_ ?_
  · skip
    rcases bool_ft (decide ((-1000000000000) ≤ a0.Lo)) with hc1 | hc1
    · skip
      refine WL.reset (i := 6) (v := .bool false) (congrArg Value.bool hc1) ?_
      refine O.skip rfl rfl ?_
      refine O.skip rfl rfl ?_
      refine O.skip rfl rfl ?_
      refine O.skip rfl rfl ?_
      refine O.skip rfl rfl ?_
      refine O.pick_false (v := (.bool false)) rfl rfl rfl rfl ?_
      refine WL.nil ?_
      exact ⟨rfl, congrArg Value.bool (and_f hc1), H⟩
    · skip
      refine WL.reset (i := 6) (v := .bool true) (congrArg Value.bool hc1) ?_
      refine O.fieldAddr fd41_0 rfl rfl rfl ?_
      refine O.load sc3 rfl rfl rfl (H.cell 0 rfl 0 _ rfl) ?_
      refine O.fieldAddr fd41_1 rfl rfl rfl ?_
      refine O.load sc3 rfl rfl rfl (H.cell 0 rfl 1 _ rfl) ?_
      refine O.leq rfl rfl rfl rfl ?_
      refine O.pick_true (v := (.bool (decide (a0.Lo ≤ a0.Hi)))) rfl rfl rfl rfl ?_
      refine WL.nil ?_
      exact ⟨rfl, congrArg Value.bool (and_t hc1), H⟩
  · skip
    rintro f w ⟨hf1, hf12, H⟩
    obtain ⟨u1, rfl⟩ : ∃ u1, f = (upd (upd u1 1 (.pointer (some ⟨b1, 0, none⟩))) 12 (.bool ((decide ((-1000000000000) ≤ a0.Lo)) && (decide (a0.Lo ≤ a0.Hi))))) := ⟨f, by rw [upd_self hf1, upd_self hf12]⟩
    refine O.move (v := (.bool ((decide ((-1000000000000) ≤ a0.Lo)) && (decide (a0.Lo ≤ a0.Hi))))) rfl rfl rfl ?_
    refine WL.cut 4 (fun f w => f 17 = .bool (((decide ((-1000000000000) ≤ a0.Lo)) && (decide (a0.Lo ≤ a0.Hi))) && (decide (a0.Hi ≤ 1000000000000))) ∧ Inv w0 w [boxI b1 41 [(.int .i64 a0.Lo), (.int .i64 a0.Hi)]]) ?_ ?_
    · skip
      rcases bool_ft ((decide ((-1000000000000) ≤ a0.Lo)) && (decide (a0.Lo ≤ a0.Hi))) with hc2 | hc2
      · skip
        refine WL.reset (i := 13) (v := .bool false) (congrArg Value.bool hc2) ?_
        refine O.skip rfl rfl ?_
        refine O.skip rfl rfl ?_
        refine O.skip rfl rfl ?_
        refine O.pick_false (v := (.bool false)) rfl rfl rfl rfl ?_
        refine WL.nil ?_
        exact ⟨congrArg Value.bool (and_f hc2), H⟩
      · skip
        refine WL.reset (i := 13) (v := .bool true) (congrArg Value.bool hc2) ?_
        refine O.fieldAddr fd41_1 rfl rfl rfl ?_
        refine O.load sc3 rfl rfl rfl (H.cell 0 rfl 1 _ rfl) ?_
        refine O.leq rfl rfl rfl rfl ?_
        refine O.pick_true (v := (.bool (decide (a0.Hi ≤ 1000000000000)))) rfl rfl rfl rfl ?_
        refine WL.nil ?_
        exact ⟨congrArg Value.bool (and_t hc2), H⟩
    · skip
      rintro f w ⟨hf17, H⟩
      obtain ⟨u2, rfl⟩ : ∃ u2, f = (upd u2 17 (.bool (((decide ((-1000000000000) ≤ a0.Lo)) && (decide (a0.Lo ≤ a0.Hi))) && (decide (a0.Hi ≤ 1000000000000))))) := ⟨f, by rw [upd_self hf17]⟩
      refine O.assign (v := (.bool (((decide ((-1000000000000) ≤ a0.Lo)) && (decide (a0.Lo ≤ a0.Hi))) && (decide (a0.Hi ≤ 1000000000000))))) rfl rfl rfl ?_
      refine WL.nil ?_
      refine W.ret ?_
      have hq : (((decide ((-1000000000000) ≤ a0.Lo)) && (decide (a0.Lo ≤ a0.Hi))) && (decide (a0.Hi ≤ 1000000000000))) = r0 := Option.some.inj (show some (((decide ((-1000000000000) ≤ a0.Lo)) && (decide (a0.Lo ≤ a0.Hi))) && (decide (a0.Hi ≤ 1000000000000))) = some r0 from hm)
      subst hq
      exact ends1 Try.results64 rfl ⟨_, rfl, H.base, rfl⟩

set_option maxRecDepth 20000 in
theorem c_rate_Ahead {w0 : World} (va0_0 : Value) (a0 : GBox) (ha0_0 : SliceR w0 va0_0 a0.Errors) (a1 : Int) (a2 : Int) {r0 : GSpan} {r1 : Int} (hm : rate_Ahead a0 a1 a2 = some (r0, r1)) :
    Calls Try.prog 23 #[(.agg #[(.string a0.Name), va0_0]), (.int .i64 a1), (.int .i64 a2)] w0 (Ret w0 fun _ v => v = .tuple #[(.agg (Flat.cells r0).toArray), (.int .i64 r1)]) := by
  unfold rate_Ahead at hm
  refine calls_of_W Try.func23 rfl Try.ntmps23 (Nat.le_of_ble_eq_true rfl) ?_
  have H := Inv.start (w := w0)
  refine W.seq ?_
  refine W.region ?_
  refine O.box [(.string a0.Name), va0_0] H rfl rfl rfl rfl ?_
  intro b1 w1 H hb1
  refine O.alloc [(.int .i64 0), (.int .i64 0)] ze41 H rfl rfl rfl ?_
  intro b2 w2 H hb2
  refine O.assign (v := (.int .i64 0)) rfl rfl rfl ?_
  refine WL.nil ?_
  refine W.seq ?_
  refine W.region ?_
  refine O.loadA [(.string a0.Name), va0_0] ag24 rfl rfl rfl rfl (H.cell 0 rfl) ?_
  obtain ⟨⟨t1, t2⟩, hy1, hm⟩ := bind_some hm
  refine O.call Try.call20 rfl rfl rfl (c_rate_Daily _ (GBox.mk a0.Name a0.Errors) (H.arg ha0_0) hy1) ?_
  rintro _ w3 hb3 ⟨v1, rfl, ho1⟩
  have H := H.addOwn hb3 ho1
  refine O.move (v := (.tuple #[v1, (.int .i64 t2)])) rfl rfl rfl ?_
  refine O.extract (v := v1) rfl rfl rfl rfl ?_
  refine O.extract (v := (.int .i64 t2)) rfl rfl rfl rfl ?_
  refine O.assign (v := v1) rfl rfl rfl ?_
  refine O.assign (v := (.int .i64 t2)) rfl rfl rfl ?_
  refine WL.nil ?_
  refine W.seq ?_
  refine W.block ?_
  refine W.seq ?_
  refine W.region ?_
  refine O.move (v := (.int .i64 t2)) rfl rfl rfl ?_
  refine O.neq rfl rfl rfl rfl ?_
  refine O.assign (v := (.bool (t2 != 0))) rfl rfl rfl ?_
  refine WL.nil ?_
  rcases ite_some hm with ⟨hc1, hm⟩ | ⟨hc1, hm⟩
  · refine W.cond_true (congrArg Value.bool hc1) ?_
    refine W.seq ?_
    refine W.region ?_
    refine O.build (v := (.agg (Flat.cells (GSpan.mk 0 0)).toArray)) (fun w => bd41_  w) rfl rfl rfl ?_
    refine O.move (v := (.int .i64 t2)) rfl rfl rfl ?_
    refine O.store 1 0 [(.int .i64 0), (.int .i64 0)] [(.int .i64 0), (.int .i64 0)] sz41 H rfl rfl rfl rfl rfl rfl ⟨⟨rfl, rfl⟩, rfl⟩ (one_cons rfl (one_cons rfl one_nil)) ?_
    intro w4 H
    refine O.assign (v := (.int .i64 t2)) rfl rfl rfl ?_
    refine WL.nil ?_
    refine W.ret ?_
    have hq : ((GSpan.mk 0 0), t2) = (r0, r1) := Option.some.inj (show some ((GSpan.mk 0 0), t2) = some (r0, r1) from hm)
    obtain ⟨he0, hq0⟩ := Prod.mk.inj hq; clear hq; subst he0
    subst hq0
    exact ends2 Try.results23 ⟨_, rfl, run_loadVar_agg ag41 rfl (H.cell 1 rfl)⟩ rfl ⟨_, rfl, H.base, rfl⟩
  · refine W.cond_false (congrArg Value.bool hc1) ?_
    refine W.seq ?_
    refine W.region ?_
    refine O.move (v := (.int .i64 a1)) rfl rfl rfl ?_
    refine O.lss rfl rfl rfl rfl ?_
    refine O.move (v := (.bool (decide (a1 < 1)))) rfl rfl rfl ?_
    obtain ⟨b3, hm1, hm⟩ := bind_some hm
    refine WL.cut 4 (fun f w => f 1 = (.int .i64 a1) ∧ f 2 = (.int .i64 a2) ∧ f 3 = (.pointer (some ⟨b1, 0, none⟩)) ∧ f 6 = (.pointer (some ⟨b2, 0, none⟩)) ∧ f 8 = v1 ∧ f 31 = .bool b3 ∧ Inv w0 w [boxI b1 24 [(.string a0.Name), va0_0], boxI b2 41 [(.int .i64 0), (.int .i64 0)], ownI (α := Int) v1 3 t1]) ?_ ?_
    · skip
      rcases ite_some hm1 with ⟨hc2, hm1⟩ | ⟨hc2, hm1⟩
      · skip
        refine WL.reset (i := 27) (v := .bool true) (congrArg Value.bool hc2) ?_
        refine O.skip rfl rfl ?_
        refine O.skip rfl rfl ?_
        refine O.skip rfl rfl ?_
        refine O.pick_true (v := (.bool true)) rfl rfl rfl rfl ?_
        refine WL.nil ?_
        have hq : true = b3 := Option.some.inj (show some true = some b3 from hm1)
        subst hq
        exact ⟨rfl, rfl, rfl, rfl, rfl, rfl, H⟩
      · skip
        refine WL.reset (i := 27) (v := .bool false) (congrArg Value.bool hc2) ?_
        refine O.move (v := (.int .i64 a2)) rfl rfl rfl ?_
        obtain ⟨t3, hy2, hm1⟩ := bind_some hm1
        refine O.call Try.call59 rfl rfl rfl (c_rate_within _ _ _ hy2) ?_
        rintro _ w5 hb4 rfl
        have H := H.ext hb4
        refine O.not rfl rfl rfl ?_
        refine O.pick_false (v := (.bool (!t3))) rfl rfl rfl rfl ?_
        refine WL.nil ?_
        have hq : (!t3) = b3 := Option.some.inj (show some (!t3) = some b3 from hm1)
        subst hq
        exact ⟨rfl, rfl, rfl, rfl, rfl, rfl, H⟩
    · skip
      rintro f w ⟨hf1, hf2, hf3, hf6, hf8, hf31, H⟩
      obtain ⟨u1, rfl⟩ : ∃ u1, f = (upd (upd (upd (upd (upd (upd u1 1 (.int .i64 a1)) 2 (.int .i64 a2)) 3 (.pointer (some ⟨b1, 0, none⟩))) 6 (.pointer (some ⟨b2, 0, none⟩))) 8 v1) 31 (.bool b3)) := ⟨f, by rw [upd_self hf1, upd_self hf2, upd_self hf3, upd_self hf6, upd_self hf8, upd_self hf31]⟩
      refine O.assign (v := (.bool b3)) rfl rfl rfl ?_
      refine WL.nil ?_
      rcases ite_some hm with ⟨hc3, hm⟩ | ⟨hc3, hm⟩
      · refine W.cond_true (congrArg Value.bool hc3) ?_
        refine W.seq ?_
        refine W.region ?_
        refine O.build (v := (.agg (Flat.cells (GSpan.mk 0 0)).toArray)) (fun w => bd41_  w) rfl rfl rfl ?_
        refine O.store 1 0 [(.int .i64 0), (.int .i64 0)] [(.int .i64 0), (.int .i64 0)] sz41 H rfl rfl rfl rfl rfl rfl ⟨⟨rfl, rfl⟩, rfl⟩ (one_cons rfl (one_cons rfl one_nil)) ?_
        intro w6 H
        refine O.assign (v := (.int .i64 7)) rfl rfl rfl ?_
        refine WL.nil ?_
        refine W.ret ?_
        have hq : ((GSpan.mk 0 0), 7) = (r0, r1) := Option.some.inj (show some ((GSpan.mk 0 0), 7) = some (r0, r1) from hm)
        obtain ⟨he0, hq0⟩ := Prod.mk.inj hq; clear hq; subst he0
        subst hq0
        exact ends2 Try.results23 ⟨_, rfl, run_loadVar_agg ag41 rfl (H.cell 1 rfl)⟩ rfl ⟨_, rfl, H.base, rfl⟩
      · refine W.cond_false (congrArg Value.bool hc3) ?_
        refine W.seq ?_
        refine W.region ?_
        refine O.move (v := v1) rfl rfl rfl ?_
        refine O.lenS Try.underlying22 (H.own 2 rfl) rfl rfl rfl ?_
        refine O.move (v := (.int .i64 a1)) rfl rfl rfl ?_
        refine O.lss rfl rfl rfl rfl ?_
        refine O.assign (v := (.bool (decide (((t1.length : Nat) : Int) < a1)))) rfl rfl rfl ?_
        refine WL.nil ?_
        rcases ite_some hm with ⟨hc4, hm⟩ | ⟨hc4, hm⟩
        · refine W.cond_true (congrArg Value.bool hc4) ?_
          refine W.seq ?_
          refine W.region ?_
          refine O.build (v := (.agg (Flat.cells (GSpan.mk 0 0)).toArray)) (fun w => bd41_  w) rfl rfl rfl ?_
          refine O.store 1 0 [(.int .i64 0), (.int .i64 0)] [(.int .i64 0), (.int .i64 0)] sz41 H rfl rfl rfl rfl rfl rfl ⟨⟨rfl, rfl⟩, rfl⟩ (one_cons rfl (one_cons rfl one_nil)) ?_
          intro w7 H
          refine O.assign (v := (.int .i64 8)) rfl rfl rfl ?_
          refine WL.nil ?_
          refine W.ret ?_
          have hq : ((GSpan.mk 0 0), 8) = (r0, r1) := Option.some.inj (show some ((GSpan.mk 0 0), 8) = some (r0, r1) from hm)
          obtain ⟨he0, hq0⟩ := Prod.mk.inj hq; clear hq; subst he0
          subst hq0
          exact ends2 Try.results23 ⟨_, rfl, run_loadVar_agg ag41 rfl (H.cell 1 rfl)⟩ rfl ⟨_, rfl, H.base, rfl⟩
        · refine W.cond_false (congrArg Value.bool hc4) ?_
          refine W.skip ?_
          refine W.seq ?_
          refine W.region ?_
          refine O.move (v := v1) rfl rfl rfl ?_
          refine O.move (v := v1) rfl rfl rfl ?_
          refine O.lenS Try.underlying22 (H.own 2 rfl) rfl rfl rfl ?_
          refine O.move (v := (.int .i64 a1)) rfl rfl rfl ?_
          obtain ⟨t4, ht4, hm⟩ := bind_some hm
          refine O.sub rfl rfl rfl rfl ht4 ?_
          obtain ⟨t5, ht5, hm⟩ := bind_some hm
          refine O.sliceL Try.underlying22 sz3 (H.own 2 rfl) ht5 rfl rfl rfl rfl ?_
          intro v2 hs1
          refine O.call Try.call56 rfl rfl rfl (c_slices_Values_int _ _ hs1) ?_
          rintro _ w8 hb5 ⟨b4, rfl, hM1⟩
          have hs1 := hs1.mono hb5
          have H := H.addAll hb5 hM1
          obtain ⟨xs1, hxs1, hm⟩ := bind_some hm
          obtain ⟨⟨t6, t7⟩, hy3, hm⟩ := bind_some hm
          refine O.call Try.call55 rfl rfl rfl (c_rate_ends_int (.func (.func 90) #[] #[(.pointer (some ⟨b4, 0, none⟩))]) xs1 (iterP_mk rfl Try.call90 fun _ _ hk => it_slices_Values_int_c1 _ _ t5 hxs1 fun w hw => ⟨cells_mono (H.cell 3 rfl) (hk w hw), hs1.mono (hk w hw)⟩) hy3) ?_
          rintro _ w9 hb6 rfl
          have hs1 := hs1.mono hb6
          have H := H.ext hb6
          refine O.move (v := (.tuple #[(.int .i64 t6), (.int .i64 t7)])) rfl rfl rfl ?_
          refine O.extract (v := (.int .i64 t6)) rfl rfl rfl rfl ?_
          refine O.extract (v := (.int .i64 t7)) rfl rfl rfl rfl ?_
          refine O.assign (v := (.int .i64 t6)) rfl rfl rfl ?_
          refine O.assign (v := (.int .i64 t7)) rfl rfl rfl ?_
          refine WL.nil ?_
          refine W.seq ?_
          refine W.region ?_
          refine O.fieldAddr fd24_1 rfl rfl rfl ?_
          refine O.load sc22 rfl rfl rfl (H.cell 0 rfl 1 _ rfl) ?_
          refine O.fieldAddr fd24_1 rfl rfl rfl ?_
          refine O.load sc22 rfl rfl rfl (H.cell 0 rfl 1 _ rfl) ?_
          refine O.lenS Try.underlying22 (H.arg ha0_0) rfl rfl rfl ?_
          obtain ⟨t8, ht8, hm⟩ := bind_some hm
          refine O.sub rfl rfl rfl rfl ht8 ?_
          obtain ⟨x1, hx1, hm⟩ := bind_some hm
          obtain ⟨p1, hp1, hrp1⟩ := fix_indexAddr Try.underlying22 sz3 ha0_0 hx1
          refine hrp1 rfl rfl rfl rfl ?_
          refine O.load sc3 rfl rfl rfl ((hp1.mono H.base).flat 0 _ rfl) ?_
          refine O.assign (v := (.int .i64 x1)) rfl rfl rfl ?_
          refine WL.nil ?_
          refine W.seq ?_
          refine W.region ?_
          refine O.move (v := (.int .i64 x1)) rfl rfl rfl ?_
          refine O.move (v := (.int .i64 a2)) rfl rfl rfl ?_
          refine O.move (v := (.int .i64 t6)) rfl rfl rfl ?_
          obtain ⟨t9, ht9, hm⟩ := bind_some hm
          refine O.mul rfl rfl rfl rfl ht9 ?_
          obtain ⟨t10, ht10, hm⟩ := bind_some hm
          refine O.add rfl rfl rfl rfl ht10 ?_
          refine O.move (v := (.int .i64 x1)) rfl rfl rfl ?_
          refine O.move (v := (.int .i64 a2)) rfl rfl rfl ?_
          refine O.move (v := (.int .i64 t7)) rfl rfl rfl ?_
          obtain ⟨t11, ht11, hm⟩ := bind_some hm
          refine O.mul rfl rfl rfl rfl ht11 ?_
          obtain ⟨t12, ht12, hm⟩ := bind_some hm
          refine O.add rfl rfl rfl rfl ht12 ?_
          refine O.build (v := (.agg (Flat.cells (GSpan.mk t10 t12)).toArray)) (fun w => bd41_0_1 _ _ w) rfl rfl rfl ?_
          refine O.alloc [(.int .i64 0), (.int .i64 0)] ze41 H rfl rfl rfl ?_
          intro b5 w10 H hb7
          have hs1 := hs1.mono hb7
          refine O.store 4 0 [(.int .i64 t10), (.int .i64 t12)] [(.int .i64 t10), (.int .i64 t12)] sz41 H rfl rfl rfl rfl rfl rfl ⟨⟨rfl, rfl⟩, rfl⟩ (one_cons rfl (one_cons rfl one_nil)) ?_
          intro w11 H
          clear hs1
          refine WL.nil ?_
          refine W.seq ?_
          refine W.seq ?_
          refine W.region ?_
          refine O.loadA [(.int .i64 t10), (.int .i64 t12)] ag41 rfl rfl rfl rfl (H.cell 4 rfl) ?_
          obtain ⟨t13, hy4, hm⟩ := bind_some hm
          refine O.call Try.call64 rfl rfl rfl (c_span_ValidSpan (GSpan.mk t10 t12) hy4) ?_
          rintro _ w12 hb8 rfl
          have H := H.ext hb8
          refine O.not rfl rfl rfl ?_
          refine WL.nil ?_
          rcases ite_some hm with ⟨hc5, hm⟩ | ⟨hc5, hm⟩
          · refine W.cond_true (congrArg Value.bool hc5) ?_
            refine W.seq ?_
            refine W.region ?_
            refine O.build (v := (.agg (Flat.cells (GSpan.mk 0 0)).toArray)) (fun w => bd41_  w) rfl rfl rfl ?_
            refine O.store 1 0 [(.int .i64 0), (.int .i64 0)] [(.int .i64 0), (.int .i64 0)] sz41 H rfl rfl rfl rfl rfl rfl ⟨⟨rfl, rfl⟩, rfl⟩ (one_cons rfl (one_cons rfl one_nil)) ?_
            intro w13 H
            refine O.assign (v := (.int .i64 4)) rfl rfl rfl ?_
            refine WL.nil ?_
            refine W.ret ?_
            have hq : ((GSpan.mk 0 0), 4) = (r0, r1) := Option.some.inj (show some ((GSpan.mk 0 0), 4) = some (r0, r1) from hm)
            obtain ⟨he0, hq0⟩ := Prod.mk.inj hq; clear hq; subst he0
            subst hq0
            exact ends2 Try.results23 ⟨_, rfl, run_loadVar_agg ag41 rfl (H.cell 1 rfl)⟩ rfl ⟨_, rfl, H.base, rfl⟩
          · refine W.cond_false (congrArg Value.bool hc5) ?_
            refine W.skip ?_
            refine W.seq ?_
            refine W.region ?_
            refine O.loadA [(.int .i64 t10), (.int .i64 t12)] ag41 rfl rfl rfl rfl (H.cell 4 rfl) ?_
            refine O.store 1 0 [(.int .i64 t10), (.int .i64 t12)] [(.int .i64 t10), (.int .i64 t12)] sz41 H rfl rfl rfl rfl rfl rfl ⟨⟨rfl, rfl⟩, rfl⟩ (one_cons rfl (one_cons rfl one_nil)) ?_
            intro w14 H
            refine O.assign (v := (.int .i64 0)) rfl rfl rfl ?_
            refine WL.nil ?_
            refine W.ret ?_
            have hq : ((GSpan.mk t10 t12), 0) = (r0, r1) := Option.some.inj (show some ((GSpan.mk t10 t12), 0) = some (r0, r1) from hm)
            obtain ⟨he0, hq0⟩ := Prod.mk.inj hq; clear hq; subst he0
            subst hq0
            exact ends2 Try.results23 ⟨_, rfl, run_loadVar_agg ag41 rfl (H.cell 1 rfl)⟩ rfl ⟨_, rfl, H.base, rfl⟩

end Go.Proofs
