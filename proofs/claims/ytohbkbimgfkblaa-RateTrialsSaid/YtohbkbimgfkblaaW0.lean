/-
  The walks: each function does what its model says, where the model has a value. No other condition.
-/
import Derived.Test.YtohbkbimgfkblaaRows
import Derived.Test.YtohbkbimgfkblaaM
import Derived.Test.YtohbkbimgfkblaaFwW
import Derived.Test.YtohbkbimgfkblaaFwO
import Derived.Test.YtohbkbimgfkblaaShelf
import Derived.Test.YtohbkbimgfkblaaFwUp
namespace Go.Proofs
open Go.Fw Go.RowKit Go.Shelf
theorem sz24 : SizeT Try.prog 24 2 := SizeT.mk (by kernel_rfl)
theorem ag24 : AggT Try.prog 24 2 := AggT.mk Try.underlying24 rfl (by kernel_rfl)
theorem ze24 : ZeroT Try.prog 24 (.agg #[(.string ByteArray.empty), (.slice none 0 0)]) := ZeroT.mk (by kernel_rfl)
theorem fd24_0 : FieldT Try.prog 24 0 0 := FieldT.mk (k := 1) Try.underlying24 rfl rfl (by kernel_rfl) (by decide)
theorem sc9 : ScalarT Try.prog 9 := ScalarT.mk Try.underlying9 rfl
theorem fd24_1 : FieldT Try.prog 24 1 1 := FieldT.mk (k := 1) Try.underlying24 rfl rfl (by kernel_rfl) (by decide)
theorem sc22 : ScalarT Try.prog 22 := ScalarT.mk Try.underlying22 rfl
theorem sz5 : SizeT Try.prog 5 1 := SizeT.mk (by kernel_rfl)
theorem sc5 : ScalarT Try.prog 5 := ScalarT.mk Try.underlying5 rfl
theorem sz3 : SizeT Try.prog 3 1 := SizeT.mk (by kernel_rfl)
theorem sc3 : ScalarT Try.prog 3 := ScalarT.mk Try.underlying3 rfl
theorem fol : Try.prog.follows .mixedOrders = true := by kernel_rfl
theorem el3 : ElemT Try.prog 3 1 8 := ElemT.mk (z := (.int .i64 (0))) (by kernel_rfl) rfl
theorem sz22 : SizeT Try.prog 22 1 := SizeT.mk (by kernel_rfl)
theorem ze3 : ZeroT Try.prog 3 (.int .i64 (0)) := ZeroT.mk (by kernel_rfl)
theorem ze4 : ZeroT Try.prog 4 (.bool false) := ZeroT.mk (by kernel_rfl)
theorem sz4 : SizeT Try.prog 4 1 := SizeT.mk (by kernel_rfl)
theorem sc4 : ScalarT Try.prog 4 := ScalarT.mk Try.underlying4 rfl
theorem ze28 : ZeroT Try.prog 28 (.agg #[(.string ByteArray.empty), (.int .i64 (0)), (.int .i64 (0)), (.int .i64 (0)), (.int .i64 (0))]) := ZeroT.mk (by kernel_rfl)
theorem bd28_ : ∀  (w : World), (Instr.build 28 #[]).run Try.prog w = .ok (.agg #[(.string ByteArray.empty), (.int .i64 0), (.int .i64 0), (.int .i64 0), (.int .i64 0)]) w := by
  intro  w
  simp [Instr.build, Try.zeroValue28, Try.runUnderlying28, Instr.fill, Try.sizeOf3, Try.sizeOf9, Value.cells] <;> rfl
theorem sz28 : SizeT Try.prog 28 5 := SizeT.mk (by kernel_rfl)
theorem ag28 : AggT Try.prog 28 5 := AggT.mk Try.underlying28 rfl (by kernel_rfl)
theorem bd28_0 : ∀ (v0 : ByteArray) (w : World), (Instr.build 28 #[(0, (.string v0))]).run Try.prog w = .ok (.agg #[(.string v0), (.int .i64 0), (.int .i64 0), (.int .i64 0), (.int .i64 0)]) w := by
  intro v0 w
  simp [Instr.build, Try.zeroValue28, Try.runUnderlying28, Instr.fill, Try.sizeOf3, Try.sizeOf9, Value.cells]
theorem fd28_1 : FieldT Try.prog 28 1 1 := FieldT.mk (k := 1) Try.underlying28 rfl rfl (by kernel_rfl) (by decide)
theorem fd28_2 : FieldT Try.prog 28 2 2 := FieldT.mk (k := 1) Try.underlying28 rfl rfl (by kernel_rfl) (by decide)
theorem fd28_3 : FieldT Try.prog 28 3 3 := FieldT.mk (k := 1) Try.underlying28 rfl rfl (by kernel_rfl) (by decide)
theorem fd28_4 : FieldT Try.prog 28 4 4 := FieldT.mk (k := 1) Try.underlying28 rfl rfl (by kernel_rfl) (by decide)
theorem bd24_0_1 : ∀ (v0 : ByteArray) (y1 : Option Addr) (n1 m1 : Nat) (w : World), (Instr.build 24 #[(0, (.string v0)), (1, .slice y1 n1 m1)]).run Try.prog w = .ok (.agg #[(.string v0), .slice y1 n1 m1]) w := by
  intro v0 y1 n1 m1 w
  simp [Instr.build, Try.zeroValue24, Try.runUnderlying24, Instr.fill, Try.sizeOf22, Try.sizeOf9, Value.cells]
theorem bd28_0_1_2_3_4 : ∀ (v0 : ByteArray) (v1 : Int) (v2 : Int) (v3 : Int) (v4 : Int) (w : World), (Instr.build 28 #[(0, (.string v0)), (1, (.int .i64 v1)), (2, (.int .i64 v2)), (3, (.int .i64 v3)), (4, (.int .i64 v4))]).run Try.prog w = .ok (.agg #[(.string v0), (.int .i64 v1), (.int .i64 v2), (.int .i64 v3), (.int .i64 v4)]) w := by
  intro v0 v1 v2 v3 v4 w
  simp [Instr.build, Try.zeroValue28, Try.runUnderlying28, Instr.fill, Try.sizeOf3, Try.sizeOf9, Value.cells]
theorem eq28 : EqT Try.prog 28 GTrial := by
  refine ⟨Try.eqGuardType28, ?_⟩
  intro a b w
  obtain ⟨a0, a1, a2, a3, a4⟩ := a
  obtain ⟨b0, b1, b2, b3, b4⟩ := b
  have hs : Try.prog.underlying 28 = some (.struct (Try.prog.fieldsOf 28)) := by kernel_rfl
  rw [run_equalIn_agg w 9999 28 _ _ hs Try.stoodInHeld28]
  simp only [Program.fieldsOf, Try.underlying28]
  simp [Op.eqFields, Flat.cells, part, Try.isAgg3, Try.isAgg9, run_equalIn_int _ _ _ _ _ _ _ Try.underlying3, run_equalIn_string _ _ _ _ _ Try.underlying9, ← beq_toListBytes, beq_bytes]
  cases h0 : decide (a0 = b0) <;> cases h1 : decide (a1 = b1) <;> cases h2 : decide (a2 = b2) <;> cases h3 : decide (a3 = b3) <;> cases h4 : decide (a4 = b4) <;> simp_all
theorem key9 : KeyT Try.prog 9 ByteArray := KeyT.string Try.underlying9
theorem bd28_0_1_2 : ∀ (v0 : ByteArray) (v1 : Int) (v2 : Int) (w : World), (Instr.build 28 #[(0, (.string v0)), (1, (.int .i64 v1)), (2, (.int .i64 v2))]).run Try.prog w = .ok (.agg #[(.string v0), (.int .i64 v1), (.int .i64 v2), (.int .i64 0), (.int .i64 0)]) w := by
  intro v0 v1 v2 w
  simp [Instr.build, Try.zeroValue28, Try.runUnderlying28, Instr.fill, Try.sizeOf3, Try.sizeOf9, Value.cells]
theorem fd28_0 : FieldT Try.prog 28 0 0 := FieldT.mk (k := 1) Try.underlying28 rfl rfl (by kernel_rfl) (by decide)
theorem el28 : ElemT Try.prog 28 5 48 := ElemT.mk (z := (.agg #[(.string ByteArray.empty), (.int .i64 (0)), (.int .i64 (0)), (.int .i64 (0)), (.int .i64 (0))])) (by kernel_rfl) rfl
theorem el9 : ElemT Try.prog 9 1 16 := ElemT.mk (z := (.string ByteArray.empty)) (by kernel_rfl) rfl
theorem sz9 : SizeT Try.prog 9 1 := SizeT.mk (by kernel_rfl)
set_option maxRecDepth 20000 in
theorem c_noongunlaw06_fit {w0 : World} (va0 : Value) (a0 : (List GBox)) (ha0 : SliceR w0 va0 a0) {r0 : Bool} (hm : noongunlaw06_fit a0 = some r0) :
  Calls Try.prog 13 #[va0] w0 (Ret w0 fun _ v => v = (.bool r0)) := by
 unfold noongunlaw06_fit at hm
 refine calls_of_W Try.func13 rfl Try.ntmps13 (Nat.le_of_ble_eq_true rfl) ?_
 have H := Inv.start (w := w0)
 refine W.seq ?_
 refine W.region ?_
 refine O.assign (v := (.bool false)) rfl rfl rfl ?_
 refine WL.nil ?_
 refine W.seq ?_
 refine W.seq ?_
 refine W.region ?_
 refine O.move (v := va0) rfl rfl rfl ?_
 refine O.lenS Try.underlying55 (H.arg ha0) rfl rfl rfl ?_
 refine O.move (v := (.int .i64 0)) rfl rfl rfl ?_
 refine WL.nil ?_
 obtain ⟨o1, hm1, hm⟩ := bind_some hm
 refine W.via (fun f w => o1 = .next () ∧ f 0 = va0 ∧ Inv w0 w []) ?_ ?_
 ·
  refine W.block ?_
  refine W.rangeL (i := 0) hm1 (fun rem ik1 s f w => () = s ∧ a0.drop ik1 = rem ∧ f 7 = .int .i64 (ik1 : Int) ∧ f 6 = (.int .i64 ((a0.length : Nat) : Int)) ∧ f 0 = va0 ∧ f 5 = va0 ∧ Inv w0 w []) ?_ ?_ ?_
  ·
   exact ⟨rfl, List.drop_zero, rfl, rfl, rfl, rfl, H⟩
  ·
   rintro yk1 xs ik1 _ st f w ⟨rfl, hdropk1, hf7, hf6, hf0, hf5, H⟩ hm2
   have hltk1 := drop_lt hdropk1; have hixk1 := drop_idx hdropk1
   obtain ⟨u1, rfl⟩ := up4 hf7 hf6 hf0 hf5
   have hinck1 := addI_lt hltk1 (H.arg ha0).len_le
   refine W.seq ?_
   refine W.region ?_
   refine O.lss rfl rfl rfl rfl ?_
   refine WL.nil ?_
   refine W.seq ?_
   refine W.cond_true (congrArg Value.bool (decide_eq_true hltk1)) ?_
   refine W.skip ?_
   refine W.seq ?_
   refine W.block ?_
   refine W.seq ?_
   refine W.region ?_
   obtain ⟨p1, hp1, hrp1⟩ := fix_indexAddr Try.underlying55 sz24 ha0 hixk1
   obtain ⟨v1, hs1, hc1⟩ := GBox_open hp1
   refine hrp1 rfl rfl rfl rfl ?_
   refine O.loadA [(.string yk1.Name), v1] ag24 rfl rfl rfl rfl ((cells_mono hc1 H.base)) ?_
   refine O.alloc [(.string ByteArray.empty), (.slice none 0 0)] ze24 H rfl rfl rfl ?_
   intro b1 w1 H hb1
   have H := H.addNil (α := Int) (E := 3)
   refine O.store 0 0 [(.string yk1.Name), v1] [(.string yk1.Name), v1] sz24 H rfl rfl rfl rfl rfl rfl ⟨⟨rfl, rfl⟩, rfl⟩ (one_cons rfl (one_cons (SliceR.one (H.arg hs1)) one_nil)) ?_
   intro w2 H
   refine WL.nil ?_
   refine W.seq ?_
   refine W.region ?_
   refine O.fieldAddr fd24_0 rfl rfl rfl ?_
   refine O.load sc9 rfl rfl rfl (H.cell 0 rfl 0 _ rfl) ?_
   refine O.lenStr Try.underlying9 rfl rfl rfl ?_
   refine O.gtr rfl rfl rfl rfl ?_
   refine O.move (v := (.bool (decide (100 < ((yk1.Name.size : Nat) : Int))))) rfl rfl rfl ?_
   refine WL.cut 11 (fun f w => f 0 = va0 ∧ f 4 = (.pointer (some ⟨b1, 0, none⟩)) ∧ f 5 = va0 ∧ f 6 = (.int .i64 ((a0.length : Nat) : Int)) ∧ f 7 = (.int .i64 (ik1 : Int)) ∧ f 26 = .bool ((decide (100 < ((yk1.Name.size : Nat) : Int))) || ((decide (60 < ((yk1.Errors.length : Nat) : Int))) && (decide (((yk1.Errors.length : Nat) : Int) < 399)))) ∧ Inv w0 w [boxI b1 24 [(.string yk1.Name), v1], ownI (α := Int) (.slice none 0 0) 3 ([] : List Int)]) ?_ ?_
   ·
    rcases bool_ft (decide (100 < ((yk1.Name.size : Nat) : Int))) with hc2 | hc2
    ·
     refine WL.reset (i := 15) (v := .bool false) (congrArg Value.bool hc2) ?_
     refine O.fieldAddr fd24_1 rfl rfl rfl ?_
     refine O.load sc22 rfl rfl rfl (H.cell 0 rfl 1 _ rfl) ?_
     refine O.lenS Try.underlying22 (H.arg hs1) rfl rfl rfl ?_
     refine O.gtr rfl rfl rfl rfl ?_
     refine O.move (v := (.bool (decide (60 < ((yk1.Errors.length : Nat) : Int))))) rfl rfl rfl ?_
     refine WL.cut 5 (fun f w => f 0 = va0 ∧ f 4 = (.pointer (some ⟨b1, 0, none⟩)) ∧ f 5 = va0 ∧ f 6 = (.int .i64 ((a0.length : Nat) : Int)) ∧ f 7 = (.int .i64 (ik1 : Int)) ∧ f 15 = (.bool false) ∧ f 16 = (.pointer (some (Addr.add (Addr.mk b1 0 none) 1))) ∧ f 17 = v1 ∧ f 18 = (.int .i64 ((yk1.Errors.length : Nat) : Int)) ∧ f 19 = (.bool (decide (60 < ((yk1.Errors.length : Nat) : Int)))) ∧ f 20 = (.bool (decide (60 < ((yk1.Errors.length : Nat) : Int)))) ∧ f 25 = .bool ((decide (60 < ((yk1.Errors.length : Nat) : Int))) && (decide (((yk1.Errors.length : Nat) : Int) < 399))) ∧ Inv w0 w [boxI b1 24 [(.string yk1.Name), v1], ownI (α := Int) (.slice none 0 0) 3 ([] : List Int)]) ?_ ?_
     ·
      rcases bool_ft (decide (60 < ((yk1.Errors.length : Nat) : Int))) with hc3 | hc3
      ·
       refine WL.reset (i := 20) (v := .bool false) (congrArg Value.bool hc3) ?_
       refine O.skip rfl rfl ?_
       refine O.skip rfl rfl ?_
       refine O.skip rfl rfl ?_
       refine O.skip rfl rfl ?_
       refine O.pick_false (v := (.bool false)) rfl rfl rfl rfl ?_
       exact WL.nil ⟨rfl, rfl, rfl, rfl, rfl, rfl, rfl, rfl, rfl, rfl, (congrArg Value.bool hc3).symm, congrArg Value.bool (and_f hc3), H⟩
      ·
       refine WL.reset (i := 20) (v := .bool true) (congrArg Value.bool hc3) ?_
       refine O.fieldAddr fd24_1 rfl rfl rfl ?_
       refine O.load sc22 rfl rfl rfl (H.cell 0 rfl 1 _ rfl) ?_
       refine O.lenS Try.underlying22 (H.arg hs1) rfl rfl rfl ?_
       refine O.lss rfl rfl rfl rfl ?_
       refine O.pick_true (v := (.bool (decide (((yk1.Errors.length : Nat) : Int) < 399)))) rfl rfl rfl rfl ?_
       exact WL.nil ⟨rfl, rfl, rfl, rfl, rfl, rfl, rfl, rfl, rfl, rfl, (congrArg Value.bool hc3).symm, congrArg Value.bool (and_t hc3), H⟩
     ·
      rintro f w ⟨hf0, hf4, hf5, hf6, hf7, hf15, hf16, hf17, hf18, hf19, hf20, hf25, H⟩
      obtain ⟨u2, rfl⟩ : ∃ u2, f = (upd (upd (upd (upd (upd (upd (upd (upd (upd (upd (upd (upd u2 0 va0) 4 (.pointer (some ⟨b1, 0, none⟩))) 5 va0) 6 (.int .i64 ((a0.length : Nat) : Int))) 7 (.int .i64 (ik1 : Int))) 15 (.bool false)) 16 (.pointer (some (Addr.add (Addr.mk b1 0 none) 1)))) 17 v1) 18 (.int .i64 ((yk1.Errors.length : Nat) : Int))) 19 (.bool (decide (60 < ((yk1.Errors.length : Nat) : Int))))) 20 (.bool (decide (60 < ((yk1.Errors.length : Nat) : Int))))) 25 (.bool ((decide (60 < ((yk1.Errors.length : Nat) : Int))) && (decide (((yk1.Errors.length : Nat) : Int) < 399))))) := ⟨f, by rw [upd_self hf0, upd_self hf4, upd_self hf5, upd_self hf6, upd_self hf7, upd_self hf15, upd_self hf16, upd_self hf17, upd_self hf18, upd_self hf19, upd_self hf20, upd_self hf25]⟩
      refine O.pick_false (v := (.bool ((decide (60 < ((yk1.Errors.length : Nat) : Int))) && (decide (((yk1.Errors.length : Nat) : Int) < 399))))) rfl rfl rfl rfl ?_
      exact WL.nil ⟨rfl, rfl, rfl, rfl, rfl, congrArg Value.bool (or_f hc2), H⟩
    ·
     refine WL.reset (i := 15) (v := .bool true) (congrArg Value.bool hc2) ?_
     refine O.skip rfl rfl ?_
     refine O.skip rfl rfl ?_
     refine O.skip rfl rfl ?_
     refine O.skip rfl rfl ?_
     refine O.skip rfl rfl ?_
     refine O.skip rfl rfl ?_
     refine O.skip rfl rfl ?_
     refine O.skip rfl rfl ?_
     refine O.skip rfl rfl ?_
     refine O.skip rfl rfl ?_
     refine O.pick_true (v := (.bool true)) rfl rfl rfl rfl ?_
     exact WL.nil ⟨rfl, rfl, rfl, rfl, rfl, congrArg Value.bool (or_t hc2), H⟩
   ·
    rintro f w ⟨hf0, hf4, hf5, hf6, hf7, hf26, H⟩
    obtain ⟨u3, rfl⟩ := up6 hf0 hf4 hf5 hf6 hf7 hf26
    refine O.move (v := (.bool ((decide (100 < ((yk1.Name.size : Nat) : Int))) || ((decide (60 < ((yk1.Errors.length : Nat) : Int))) && (decide (((yk1.Errors.length : Nat) : Int) < 399)))))) rfl rfl rfl ?_
    refine WL.cut 5 (fun f w => f 0 = va0 ∧ f 5 = va0 ∧ f 6 = (.int .i64 ((a0.length : Nat) : Int)) ∧ f 7 = (.int .i64 (ik1 : Int)) ∧ f 32 = .bool (((decide (100 < ((yk1.Name.size : Nat) : Int))) || ((decide (60 < ((yk1.Errors.length : Nat) : Int))) && (decide (((yk1.Errors.length : Nat) : Int) < 399)))) || (decide (410 < ((yk1.Errors.length : Nat) : Int)))) ∧ Inv w0 w [boxI b1 24 [(.string yk1.Name), v1], ownI (α := Int) (.slice none 0 0) 3 ([] : List Int)]) ?_ ?_
    ·
     rcases bool_ft ((decide (100 < ((yk1.Name.size : Nat) : Int))) || ((decide (60 < ((yk1.Errors.length : Nat) : Int))) && (decide (((yk1.Errors.length : Nat) : Int) < 399)))) with hc4 | hc4
     ·
      refine WL.reset (i := 27) (v := .bool false) (congrArg Value.bool hc4) ?_
      refine O.fieldAddr fd24_1 rfl rfl rfl ?_
      refine O.load sc22 rfl rfl rfl (H.cell 0 rfl 1 _ rfl) ?_
      refine O.lenS Try.underlying22 (H.arg hs1) rfl rfl rfl ?_
      refine O.gtr rfl rfl rfl rfl ?_
      refine O.pick_false (v := (.bool (decide (410 < ((yk1.Errors.length : Nat) : Int))))) rfl rfl rfl rfl ?_
      exact WL.nil ⟨rfl, rfl, rfl, rfl, congrArg Value.bool (or_f hc4), H⟩
     ·
      refine WL.reset (i := 27) (v := .bool true) (congrArg Value.bool hc4) ?_
      refine O.skip rfl rfl ?_
      refine O.skip rfl rfl ?_
      refine O.skip rfl rfl ?_
      refine O.skip rfl rfl ?_
      refine O.pick_true (v := (.bool true)) rfl rfl rfl rfl ?_
      exact WL.nil ⟨rfl, rfl, rfl, rfl, congrArg Value.bool (or_t hc4), H⟩
    ·
     rintro f w ⟨hf0, hf5, hf6, hf7, hf32, H⟩
     obtain ⟨u4, rfl⟩ := up5 hf0 hf5 hf6 hf7 hf32
     refine WL.nil ?_
     rcases ite_some hm2 with ⟨hc5, hm2⟩ | ⟨hc5, hm2⟩
     ·
      refine W.cond_true (congrArg Value.bool hc5) ?_
      refine W.seq ?_
      refine W.region ?_
      refine O.assign (v := (.bool false)) rfl rfl rfl ?_
      refine WL.nil ?_
      refine W.ret ?_
      obtain rfl := Option.some.inj hm2
      refine ⟨_, rfl, ?_⟩
      rintro rfl
      have hq : false = r0 := Option.some.inj (show some false = some r0 from hm)
      subst hq
      exact ends1 Try.results13 rfl ⟨_, rfl, H.base, rfl⟩
     ·
      refine W.cond_false (congrArg Value.bool hc5) ?_
      refine W.skip ?_
      refine W.region ?_
      refine O.add rfl rfl rfl rfl hinck1 ?_
      refine O.move (v := .int .i64 ((ik1 : Int) + 1)) rfl rfl rfl ?_
      refine WL.nil ?_
      have H := H.keep [] [] rfl (by decide)
      obtain rfl := Option.some.inj hm2
      exact ⟨_, rfl, rfl, drop_next hdropk1, rfl, rfl, rfl, rfl, H⟩
  ·
   rintro ik1 _ f w ⟨rfl, hdropk1, hf7, hf6, hf0, hf5, H⟩ hfin
   have hltk1 := drop_end hdropk1
   obtain ⟨u5, rfl⟩ := up4 hf7 hf6 hf0 hf5
   refine W.seq ?_
   refine W.region ?_
   refine O.lss rfl rfl rfl rfl ?_
   refine WL.nil ?_
   refine W.seq ?_
   refine W.cond_false (congrArg Value.bool (decide_eq_false hltk1)) ?_
   refine W.exit ?_
   obtain rfl : Ctl.next () = o1 := hfin
   refine xT rfl ?_
   exact ⟨rfl, rfl, H⟩
 ·
  rintro f w ⟨rfl, hf0, H⟩
  obtain ⟨u6, rfl⟩ := up1 hf0
  refine W.seq ?_
  refine W.region ?_
  refine O.move (v := va0) rfl rfl rfl ?_
  refine O.lenS Try.underlying55 (H.arg ha0) rfl rfl rfl ?_
  refine O.leq rfl rfl rfl rfl ?_
  refine O.assign (v := (.bool (decide (((a0.length : Nat) : Int) ≤ 20)))) rfl rfl rfl ?_
  refine WL.nil ?_
  refine W.ret ?_
  have hq : (decide (((a0.length : Nat) : Int) ≤ 20)) = r0 := Option.some.inj (show some (decide (((a0.length : Nat) : Int) ≤ 20)) = some r0 from hm)
  subst hq
  exact ends1 Try.results13 rfl ⟨_, rfl, H.base, rfl⟩

theorem c_rate_within {w0 : World} (a0 : Int) (a1 : Int) (a2 : Int) {r0 : Bool} (hm : rate_within a0 a1 a2 = some r0) :
  Calls Try.prog 59 #[(.int .i64 a0), (.int .i64 a1), (.int .i64 a2)] w0 (Ret w0 fun _ v => v = (.bool r0)) := by
 unfold rate_within at hm
 refine calls_of_W Try.func59 rfl Try.ntmps59 (Nat.le_of_ble_eq_true rfl) ?_
 have H := Inv.start (w := w0)
 refine W.seq ?_
 refine W.region ?_
 refine O.assign (v := (.bool false)) rfl rfl rfl ?_
 refine WL.nil ?_
 refine W.seq ?_
 refine W.region ?_
 refine O.move (v := (.int .i64 a0)) rfl rfl rfl ?_
 refine O.move (v := (.int .i64 a1)) rfl rfl rfl ?_
 refine O.geq rfl rfl rfl rfl ?_
 refine O.move (v := (.bool (decide (a1 ≤ a0)))) rfl rfl rfl ?_
 refine WL.cut 4 (fun f w => f 14 = .bool ((decide (a1 ≤ a0)) && (decide (a0 ≤ a2))) ∧ Inv w0 w []) ?_ ?_
 ·
  rcases bool_ft (decide (a1 ≤ a0)) with hc1 | hc1
  ·
   refine WL.reset (i := 10) (v := .bool false) (congrArg Value.bool hc1) ?_
   refine O.skip rfl rfl ?_
   refine O.skip rfl rfl ?_
   refine O.skip rfl rfl ?_
   refine O.pick_false (v := (.bool false)) rfl rfl rfl rfl ?_
   exact WL.nil ⟨congrArg Value.bool (and_f hc1), H⟩
  ·
   refine WL.reset (i := 10) (v := .bool true) (congrArg Value.bool hc1) ?_
   refine O.move (v := (.int .i64 a0)) rfl rfl rfl ?_
   refine O.move (v := (.int .i64 a2)) rfl rfl rfl ?_
   refine O.leq rfl rfl rfl rfl ?_
   refine O.pick_true (v := (.bool (decide (a0 ≤ a2)))) rfl rfl rfl rfl ?_
   exact WL.nil ⟨congrArg Value.bool (and_t hc1), H⟩
 ·
  rintro f w ⟨hf14, H⟩
  obtain ⟨u1, rfl⟩ := up1 hf14
  refine O.assign (v := (.bool ((decide (a1 ≤ a0)) && (decide (a0 ≤ a2))))) rfl rfl rfl ?_
  refine WL.nil ?_
  refine W.ret ?_
  have hq : ((decide (a1 ≤ a0)) && (decide (a0 ≤ a2))) = r0 := Option.some.inj (show some ((decide (a1 ≤ a0)) && (decide (a0 ≤ a2))) = some r0 from hm)
  subst hq
  exact ends1 Try.results59 rfl ⟨_, rfl, H.base, rfl⟩

set_option maxRecDepth 20000 in
theorem c_rate_name {w0 : World} (a0 : ByteArray) {r0 : Bool} (hm : rate_name a0 = some r0) :
  Calls Try.prog 58 #[(.string a0)] w0 (Ret w0 fun _ v => v = (.bool r0)) := by
 unfold rate_name at hm
 refine calls_of_W Try.func58 rfl Try.ntmps58 (Nat.le_of_ble_eq_true rfl) ?_
 have H := Inv.start (w := w0)
 refine W.seq ?_
 refine W.region ?_
 refine O.assign (v := (.bool false)) rfl rfl rfl ?_
 refine WL.nil ?_
 refine W.seq ?_
 refine W.seq ?_
 refine W.region ?_
 refine O.move (v := (.string a0)) rfl rfl rfl ?_
 obtain ⟨t1, ht1, hm⟩ := bind_some hm
 refine O.bytesOf Try.underlying9 Try.underlying108 Try.underlying5 ht1 rfl rfl rfl ?_
 intro v1 w1 hb1 hs1
 have H := H.ext hb1
 refine O.lenS Try.underlying108 hs1 rfl rfl rfl ?_
 refine O.move (v := (.int .i64 0)) rfl rfl rfl ?_
 refine WL.nil ?_
 obtain ⟨o1, hm1, hm⟩ := bind_some hm
 refine W.via (fun f w => o1 = .next () ∧ f 0 = (.string a0) ∧ Inv w0 w []) ?_ ?_
 ·
  refine W.block ?_
  have hbdik1 := hs1.len_le
  refine W.rangeN (i := 0) hm1 (fun rem ik1 s f w => () = s ∧ (ik1 : Int) + rem = max 0 ((t1.length : Nat) : Int) ∧ f 9 = .int .i64 (ik1 : Int) ∧ f 8 = (.int .i64 ((t1.length : Nat) : Int)) ∧ f 0 = (.string a0) ∧ f 7 = v1 ∧ SliceR w v1 t1 ∧ Inv w0 w []) ?_ ?_ ?_
  ·
   exact ⟨rfl, rangeN_start, rfl, rfl, rfl, rfl, hs1, H⟩
  ·
   rintro k ik1 _ st f w ⟨rfl, hdropk1, hf9, hf8, hf0, hf7, hs4, H⟩ hm2
   have hltk1 := rangeN_lt hdropk1
   obtain ⟨u1, rfl⟩ := up4 hf9 hf8 hf0 hf7
   have hinck1 := addI_lt hltk1 hbdik1
   refine W.seq ?_
   refine W.region ?_
   refine O.lss rfl rfl rfl rfl ?_
   refine WL.nil ?_
   refine W.seq ?_
   refine W.cond_true (congrArg Value.bool (decide_eq_true hltk1)) ?_
   refine W.skip ?_
   refine W.seq ?_
   refine W.block ?_
   refine W.seq ?_
   refine W.region ?_
   refine O.move (v := (.int .i64 (ik1 : Int))) rfl rfl rfl ?_
   obtain ⟨x1, hx1, hm2⟩ := bind_some hm2
   refine O.indexAddr Try.underlying108 sz5 hs4 hx1 rfl rfl rfl rfl ?_
   intro p1 hp1
   refine O.load sc5 rfl rfl rfl (hp1.flat 0 _ rfl) ?_
   refine O.assign (v := (.int .i64 (ik1 : Int))) rfl rfl rfl ?_
   refine O.assign (v := (.int .u8 (x1.toNat : Int))) rfl rfl rfl ?_
   refine WL.nil ?_
   refine W.seq ?_
   refine W.region ?_
   refine O.move (v := (.int .u8 (x1.toNat : Int))) rfl rfl rfl ?_
   refine O.geq rfl rfl rfl rfl ?_
   refine O.move (v := (.bool (decide (97 ≤ (x1.toNat : Int))))) rfl rfl rfl ?_
   refine WL.cut 3 (fun f w => f 0 = (.string a0) ∧ f 3 = (.int .i64 (ik1 : Int)) ∧ f 4 = (.int .u8 (x1.toNat : Int)) ∧ f 7 = v1 ∧ f 8 = (.int .i64 ((t1.length : Nat) : Int)) ∧ f 9 = (.int .i64 (ik1 : Int)) ∧ f 19 = .bool ((decide (97 ≤ (x1.toNat : Int))) && (decide ((x1.toNat : Int) ≤ 122))) ∧ SliceR w v1 t1 ∧ Inv w0 w []) ?_ ?_
   ·
    rcases bool_ft (decide (97 ≤ (x1.toNat : Int))) with hc1 | hc1
    ·
     refine WL.reset (i := 16) (v := .bool false) (congrArg Value.bool hc1) ?_
     refine O.skip rfl rfl ?_
     refine O.skip rfl rfl ?_
     refine O.pick_false (v := (.bool false)) rfl rfl rfl rfl ?_
     exact WL.nil ⟨rfl, rfl, rfl, rfl, rfl, rfl, congrArg Value.bool (and_f hc1), hs4, H⟩
    ·
     refine WL.reset (i := 16) (v := .bool true) (congrArg Value.bool hc1) ?_
     refine O.move (v := (.int .u8 (x1.toNat : Int))) rfl rfl rfl ?_
     refine O.leq rfl rfl rfl rfl ?_
     refine O.pick_true (v := (.bool (decide ((x1.toNat : Int) ≤ 122)))) rfl rfl rfl rfl ?_
     exact WL.nil ⟨rfl, rfl, rfl, rfl, rfl, rfl, congrArg Value.bool (and_t hc1), hs4, H⟩
   ·
    rintro f w ⟨hf0, hf3, hf4, hf7, hf8, hf9, hf19, hs6, H⟩
    obtain ⟨u2, rfl⟩ := up7 hf0 hf3 hf4 hf7 hf8 hf9 hf19
    refine O.assign (v := (.bool ((decide (97 ≤ (x1.toNat : Int))) && (decide ((x1.toNat : Int) ≤ 122))))) rfl rfl rfl ?_
    refine WL.nil ?_
    refine W.seq ?_
    refine W.region ?_
    refine O.move (v := (.bool ((decide (97 ≤ (x1.toNat : Int))) && (decide ((x1.toNat : Int) ≤ 122))))) rfl rfl rfl ?_
    refine O.not rfl rfl rfl ?_
    refine O.move (v := (.bool (!((decide (97 ≤ (x1.toNat : Int))) && (decide ((x1.toNat : Int) ≤ 122)))))) rfl rfl rfl ?_
    obtain ⟨b1, hm3, hm2⟩ := bind_some hm2
    refine WL.cut 13 (fun f w => f 0 = (.string a0) ∧ f 7 = v1 ∧ f 8 = (.int .i64 ((t1.length : Nat) : Int)) ∧ f 9 = (.int .i64 (ik1 : Int)) ∧ f 35 = .bool b1 ∧ SliceR w v1 t1 ∧ Inv w0 w []) ?_ ?_
    ·
     rcases ite_some hm3 with ⟨hc2, hm3⟩ | ⟨hc2, hm3⟩
     ·
      refine WL.reset (i := 22) (v := .bool true) (congrArg Value.bool hc2) ?_
      refine O.move (v := (.int .i64 (ik1 : Int))) rfl rfl rfl ?_
      refine O.eql rfl rfl rfl rfl ?_
      refine O.move (v := (.bool ((ik1 : Int) == 0))) rfl rfl rfl ?_
      obtain ⟨b2, hm4, hm3⟩ := bind_some hm3
      refine WL.cut 9 (fun f w => f 0 = (.string a0) ∧ f 7 = v1 ∧ f 8 = (.int .i64 ((t1.length : Nat) : Int)) ∧ f 9 = (.int .i64 (ik1 : Int)) ∧ f 22 = (.bool true) ∧ f 23 = (.int .i64 (ik1 : Int)) ∧ f 24 = (.bool ((ik1 : Int) == 0)) ∧ f 25 = (.bool ((ik1 : Int) == 0)) ∧ f 34 = .bool b2 ∧ SliceR w v1 t1 ∧ Inv w0 w []) ?_ ?_
      ·
       rcases ite_some hm4 with ⟨hc3, hm4⟩ | ⟨hc3, hm4⟩
       ·
        refine WL.reset (i := 25) (v := .bool true) (congrArg Value.bool hc3) ?_
        refine O.skip rfl rfl ?_
        refine O.skip rfl rfl ?_
        refine O.skip rfl rfl ?_
        refine O.skip rfl rfl ?_
        refine O.skip rfl rfl ?_
        refine O.skip rfl rfl ?_
        refine O.skip rfl rfl ?_
        refine O.skip rfl rfl ?_
        refine O.pick_true (v := (.bool true)) rfl rfl rfl rfl ?_
        refine WL.nil ?_
        have hq : true = b2 := Option.some.inj (show some true = some b2 from hm4)
        subst hq
        exact ⟨rfl, rfl, rfl, rfl, rfl, rfl, rfl, (congrArg Value.bool hc3).symm, rfl, hs6, H⟩
       ·
        refine WL.reset (i := 25) (v := .bool false) (congrArg Value.bool hc3) ?_
        refine O.move (v := (.int .u8 (x1.toNat : Int))) rfl rfl rfl ?_
        refine O.neq rfl rfl rfl rfl ?_
        refine O.move (v := (.bool ((x1.toNat : Int) != 95))) rfl rfl rfl ?_
        obtain ⟨b3, hm5, hm4⟩ := bind_some hm4
        refine WL.cut 5 (fun f w => f 0 = (.string a0) ∧ f 7 = v1 ∧ f 8 = (.int .i64 ((t1.length : Nat) : Int)) ∧ f 9 = (.int .i64 (ik1 : Int)) ∧ f 22 = (.bool true) ∧ f 23 = (.int .i64 (ik1 : Int)) ∧ f 24 = (.bool ((ik1 : Int) == 0)) ∧ f 25 = (.bool false) ∧ f 26 = (.int .u8 (x1.toNat : Int)) ∧ f 27 = (.bool ((x1.toNat : Int) != 95)) ∧ f 28 = (.bool ((x1.toNat : Int) != 95)) ∧ f 33 = .bool b3 ∧ SliceR w v1 t1 ∧ Inv w0 w []) ?_ ?_
        ·
         rcases ite_some hm5 with ⟨hc4, hm5⟩ | ⟨hc4, hm5⟩
         ·
          refine WL.reset (i := 28) (v := .bool true) (congrArg Value.bool hc4) ?_
          refine O.move (v := (.int .u8 (x1.toNat : Int))) rfl rfl rfl ?_
          obtain ⟨t2, ht2, hm5⟩ := bind_some hm5
          refine O.convI (by rw [Try.underlying5]; rfl) Try.underlying3 ht2 rfl rfl rfl ?_
          obtain ⟨t3, hy1, hm5⟩ := bind_some hm5
          refine O.call Try.call59 rfl rfl rfl (c_rate_within _ _ _ hy1) ?_
          rintro _ w2 hb2 rfl
          have hs6 := hs6.mono hb2
          have H := H.ext hb2
          refine O.not rfl rfl rfl ?_
          refine O.pick_true (v := (.bool (!t3))) rfl rfl rfl rfl ?_
          refine WL.nil ?_
          have hq : (!t3) = b3 := Option.some.inj (show some (!t3) = some b3 from hm5)
          subst hq
          exact ⟨rfl, rfl, rfl, rfl, rfl, rfl, rfl, rfl, rfl, rfl, (congrArg Value.bool hc4).symm, rfl, hs6, H⟩
         ·
          refine WL.reset (i := 28) (v := .bool false) (congrArg Value.bool hc4) ?_
          refine O.skip rfl rfl ?_
          refine O.skip rfl rfl ?_
          refine O.skip rfl rfl ?_
          refine O.skip rfl rfl ?_
          refine O.pick_false (v := (.bool false)) rfl rfl rfl rfl ?_
          refine WL.nil ?_
          have hq : false = b3 := Option.some.inj (show some false = some b3 from hm5)
          subst hq
          exact ⟨rfl, rfl, rfl, rfl, rfl, rfl, rfl, rfl, rfl, rfl, (congrArg Value.bool hc4).symm, rfl, hs6, H⟩
        ·
         rintro f w ⟨hf0, hf7, hf8, hf9, hf22, hf23, hf24, hf25, hf26, hf27, hf28, hf33, hs7, H⟩
         obtain ⟨u3, rfl⟩ : ∃ u3, f = (upd (upd (upd (upd (upd (upd (upd (upd (upd (upd (upd (upd u3 0 (.string a0)) 7 v1) 8 (.int .i64 ((t1.length : Nat) : Int))) 9 (.int .i64 (ik1 : Int))) 22 (.bool true)) 23 (.int .i64 (ik1 : Int))) 24 (.bool ((ik1 : Int) == 0))) 25 (.bool false)) 26 (.int .u8 (x1.toNat : Int))) 27 (.bool ((x1.toNat : Int) != 95))) 28 (.bool ((x1.toNat : Int) != 95))) 33 (.bool b3)) := ⟨f, by rw [upd_self hf0, upd_self hf7, upd_self hf8, upd_self hf9, upd_self hf22, upd_self hf23, upd_self hf24, upd_self hf25, upd_self hf26, upd_self hf27, upd_self hf28, upd_self hf33]⟩
         refine O.pick_false (v := (.bool b3)) rfl rfl rfl rfl ?_
         refine WL.nil ?_
         have hq : b3 = b2 := Option.some.inj (show some b3 = some b2 from hm4)
         subst hq
         exact ⟨rfl, rfl, rfl, rfl, rfl, rfl, rfl, (congrArg Value.bool hc3).symm, rfl, hs7, H⟩
      ·
       rintro f w ⟨hf0, hf7, hf8, hf9, hf22, hf23, hf24, hf25, hf34, hs8, H⟩
       obtain ⟨u4, rfl⟩ := up9 hf0 hf7 hf8 hf9 hf22 hf23 hf24 hf25 hf34
       refine O.pick_true (v := (.bool b2)) rfl rfl rfl rfl ?_
       refine WL.nil ?_
       have hq : b2 = b1 := Option.some.inj (show some b2 = some b1 from hm3)
       subst hq
       exact ⟨rfl, rfl, rfl, rfl, rfl, hs8, H⟩
     ·
      refine WL.reset (i := 22) (v := .bool false) (congrArg Value.bool hc2) ?_
      refine O.skip rfl rfl ?_
      refine O.skip rfl rfl ?_
      refine O.skip rfl rfl ?_
      refine O.skip rfl rfl ?_
      refine O.skip rfl rfl ?_
      refine O.skip rfl rfl ?_
      refine O.skip rfl rfl ?_
      refine O.skip rfl rfl ?_
      refine O.skip rfl rfl ?_
      refine O.skip rfl rfl ?_
      refine O.skip rfl rfl ?_
      refine O.skip rfl rfl ?_
      refine O.pick_false (v := (.bool false)) rfl rfl rfl rfl ?_
      refine WL.nil ?_
      have hq : false = b1 := Option.some.inj (show some false = some b1 from hm3)
      subst hq
      exact ⟨rfl, rfl, rfl, rfl, rfl, hs6, H⟩
    ·
     rintro f w ⟨hf0, hf7, hf8, hf9, hf35, hs9, H⟩
     obtain ⟨u5, rfl⟩ := up5 hf0 hf7 hf8 hf9 hf35
     refine WL.nil ?_
     rcases ite_some hm2 with ⟨hc5, hm2⟩ | ⟨hc5, hm2⟩
     ·
      refine W.cond_true (congrArg Value.bool hc5) ?_
      refine W.seq ?_
      refine W.region ?_
      refine O.assign (v := (.bool false)) rfl rfl rfl ?_
      refine WL.nil ?_
      refine W.ret ?_
      obtain rfl := Option.some.inj hm2
      refine ⟨_, rfl, ?_⟩
      rintro rfl
      have hq : false = r0 := Option.some.inj (show some false = some r0 from hm)
      subst hq
      exact ends1 Try.results58 rfl ⟨_, rfl, H.base, rfl⟩
     ·
      refine W.cond_false (congrArg Value.bool hc5) ?_
      refine W.skip ?_
      refine W.region ?_
      refine O.add rfl rfl rfl rfl hinck1 ?_
      refine O.move (v := .int .i64 ((ik1 : Int) + 1)) rfl rfl rfl ?_
      refine WL.nil ?_
      obtain rfl := Option.some.inj hm2
      exact ⟨_, rfl, rfl, rangeN_next hdropk1, rfl, rfl, rfl, rfl, hs9, H⟩
  ·
   rintro ik1 _ f w ⟨rfl, hdropk1, hf9, hf8, hf0, hf7, hs4, H⟩ hfin
   have hltk1 := rangeN_end hdropk1
   obtain ⟨u6, rfl⟩ := up4 hf9 hf8 hf0 hf7
   refine W.seq ?_
   refine W.region ?_
   refine O.lss rfl rfl rfl rfl ?_
   refine WL.nil ?_
   refine W.seq ?_
   refine W.cond_false (congrArg Value.bool (decide_eq_false hltk1)) ?_
   refine W.exit ?_
   obtain rfl : Ctl.next () = o1 := hfin
   refine xT rfl ?_
   exact ⟨rfl, rfl, H⟩
 ·
  rintro f w ⟨rfl, hf0, H⟩
  obtain ⟨u7, rfl⟩ := up1 hf0
  refine W.seq ?_
  refine W.region ?_
  refine O.move (v := (.string a0)) rfl rfl rfl ?_
  refine O.lenStr Try.underlying9 rfl rfl rfl ?_
  obtain ⟨t4, hy2, hm⟩ := bind_some hm
  refine O.call Try.call59 rfl rfl rfl (c_rate_within _ _ _ hy2) ?_
  rintro _ w3 hb3 rfl
  have H := H.ext hb3
  refine O.assign (v := (.bool t4)) rfl rfl rfl ?_
  refine WL.nil ?_
  refine W.ret ?_
  have hq : t4 = r0 := Option.some.inj (show some t4 = some r0 from hm)
  subst hq
  exact ends1 Try.results58 rfl ⟨_, rfl, H.base, rfl⟩

theorem c_slices_IndexFunc_int {w0 : World} (va0 : Value) (a0 : (List Int)) (ha0 : SliceR w0 va0 a0) (va1 : Value) (a1 : Int → Option (Bool)) (ha1 : ∀ (w : World), Below w0.heap.size w0 w → ∀ (x0 : Int) (y0 : Bool), a1 x0 = some y0 → CallsV Try.prog va1 #[(.int .i64 x0)] w (Ret w fun _ v => v = (.bool y0))) {r0 : Int} (hm : slices_IndexFunc_int a0 a1 = some r0) :
  Calls Try.prog 92 #[va0, va1] w0 (Ret w0 fun _ v => v = (.int .i64 r0)) := by
 unfold slices_IndexFunc_int at hm
 refine calls_of_W Try.func92 rfl Try.ntmps92 (Nat.le_of_ble_eq_true rfl) ?_
 have H := Inv.start (w := w0)
 refine W.seq ?_
 refine W.region ?_
 refine O.assign (v := (.int .i64 0)) rfl rfl rfl ?_
 refine WL.nil ?_
 refine W.seq ?_
 refine W.seq ?_
 refine W.region ?_
 refine O.move (v := va0) rfl rfl rfl ?_
 refine O.lenS Try.underlying22 (H.arg ha0) rfl rfl rfl ?_
 refine O.move (v := (.int .i64 0)) rfl rfl rfl ?_
 refine WL.nil ?_
 obtain ⟨o1, hm1, hm⟩ := bind_some hm
 refine W.via (fun f w => o1 = .next () ∧ Inv w0 w []) ?_ ?_
 ·
  refine W.block ?_
  have hbdik1 := (H.arg ha0).len_le
  refine W.rangeN (i := 0) hm1 (fun rem ik1 s f w => () = s ∧ (ik1 : Int) + rem = max 0 ((a0.length : Nat) : Int) ∧ f 8 = .int .i64 (ik1 : Int) ∧ f 7 = (.int .i64 ((a0.length : Nat) : Int)) ∧ f 0 = va0 ∧ f 1 = va1 ∧ Inv w0 w []) ?_ ?_ ?_
  ·
   exact ⟨rfl, rangeN_start, rfl, rfl, rfl, rfl, H⟩
  ·
   rintro k ik1 _ st f w ⟨rfl, hdropk1, hf8, hf7, hf0, hf1, H⟩ hm2
   have hltk1 := rangeN_lt hdropk1
   obtain ⟨u1, rfl⟩ := up4 hf8 hf7 hf0 hf1
   have hinck1 := addI_lt hltk1 hbdik1
   refine W.seq ?_
   refine W.region ?_
   refine O.lss rfl rfl rfl rfl ?_
   refine WL.nil ?_
   refine W.seq ?_
   refine W.cond_true (congrArg Value.bool (decide_eq_true hltk1)) ?_
   refine W.skip ?_
   refine W.seq ?_
   refine W.block ?_
   refine W.seq ?_
   refine W.region ?_
   refine O.move (v := (.int .i64 (ik1 : Int))) rfl rfl rfl ?_
   refine O.assign (v := (.int .i64 (ik1 : Int))) rfl rfl rfl ?_
   refine WL.nil ?_
   refine W.seq ?_
   refine W.region ?_
   refine O.move (v := va1) rfl rfl rfl ?_
   refine O.move (v := va0) rfl rfl rfl ?_
   refine O.move (v := (.int .i64 (ik1 : Int))) rfl rfl rfl ?_
   obtain ⟨x1, hx1, hm2⟩ := bind_some hm2
   obtain ⟨p1, hp1, hrp1⟩ := fix_indexAddr Try.underlying22 sz3 ha0 hx1
   refine hrp1 rfl rfl rfl rfl ?_
   refine O.load sc3 rfl rfl rfl ((hp1.mono H.base).flat 0 _ rfl) ?_
   obtain ⟨t1, hy1, hm2⟩ := bind_some hm2
   refine O.callV rfl rfl rfl rfl (ha1 _ H.base _ _ hy1) ?_
   rintro _ w1 hb1 rfl
   have H := H.ext hb1
   refine WL.nil ?_
   rcases ite_some hm2 with ⟨hc1, hm2⟩ | ⟨hc1, hm2⟩
   ·
    refine W.cond_true (congrArg Value.bool hc1) ?_
    refine W.seq ?_
    refine W.region ?_
    refine O.move (v := (.int .i64 (ik1 : Int))) rfl rfl rfl ?_
    refine O.assign (v := (.int .i64 (ik1 : Int))) rfl rfl rfl ?_
    refine WL.nil ?_
    refine W.ret ?_
    obtain rfl := Option.some.inj hm2
    refine ⟨_, rfl, ?_⟩
    rintro rfl
    have hq : (ik1 : Int) = r0 := Option.some.inj (show some (ik1 : Int) = some r0 from hm)
    subst hq
    exact ends1 Try.results92 rfl ⟨_, rfl, H.base, rfl⟩
   ·
    refine W.cond_false (congrArg Value.bool hc1) ?_
    refine W.skip ?_
    refine W.region ?_
    refine O.add rfl rfl rfl rfl hinck1 ?_
    refine O.move (v := .int .i64 ((ik1 : Int) + 1)) rfl rfl rfl ?_
    refine WL.nil ?_
    obtain rfl := Option.some.inj hm2
    exact ⟨_, rfl, rfl, rangeN_next hdropk1, rfl, rfl, rfl, rfl, H⟩
  ·
   rintro ik1 _ f w ⟨rfl, hdropk1, hf8, hf7, hf0, hf1, H⟩ hfin
   have hltk1 := rangeN_end hdropk1
   obtain ⟨u2, rfl⟩ := up4 hf8 hf7 hf0 hf1
   refine W.seq ?_
   refine W.region ?_
   refine O.lss rfl rfl rfl rfl ?_
   refine WL.nil ?_
   refine W.seq ?_
   refine W.cond_false (congrArg Value.bool (decide_eq_false hltk1)) ?_
   refine W.exit ?_
   obtain rfl : Ctl.next () = o1 := hfin
   refine xT rfl ?_
   exact ⟨rfl, H⟩
 ·
  rintro f w ⟨rfl, H⟩
  refine W.seq ?_
  refine W.region ?_
  refine O.assign (v := (.int .i64 (-1))) rfl rfl rfl ?_
  refine WL.nil ?_
  refine W.ret ?_
  have hq : (-1) = r0 := Option.some.inj (show some (-1) = some r0 from hm)
  subst hq
  exact ends1 Try.results92 rfl ⟨_, rfl, H.base, rfl⟩

theorem c_slices_ContainsFunc_int {w0 : World} (va0 : Value) (a0 : (List Int)) (ha0 : SliceR w0 va0 a0) (va1 : Value) (a1 : Int → Option (Bool)) (ha1 : ∀ (w : World), Below w0.heap.size w0 w → ∀ (x0 : Int) (y0 : Bool), a1 x0 = some y0 → CallsV Try.prog va1 #[(.int .i64 x0)] w (Ret w fun _ v => v = (.bool y0))) {r0 : Bool} (hm : slices_ContainsFunc_int a0 a1 = some r0) :
  Calls Try.prog 60 #[va0, va1] w0 (Ret w0 fun _ v => v = (.bool r0)) := by
 unfold slices_ContainsFunc_int at hm
 refine calls_of_W Try.func60 rfl Try.ntmps60 (Nat.le_of_ble_eq_true rfl) ?_
 have H := Inv.start (w := w0)
 refine W.seq ?_
 refine W.region ?_
 refine O.assign (v := (.bool false)) rfl rfl rfl ?_
 refine WL.nil ?_
 refine W.seq ?_
 refine W.region ?_
 refine O.move (v := va0) rfl rfl rfl ?_
 refine O.move (v := va1) rfl rfl rfl ?_
 obtain ⟨t1, hy1, hm⟩ := bind_some hm
 refine O.call Try.call92 rfl rfl rfl (c_slices_IndexFunc_int _ _ (H.arg ha0) va1 a1 (fun w hw => ha1 w (H.base.trans (hw.mono H.base.size))) hy1) ?_
 rintro _ w1 hb1 rfl
 have H := H.ext hb1
 refine O.geq rfl rfl rfl rfl ?_
 refine O.assign (v := (.bool (decide (0 ≤ t1)))) rfl rfl rfl ?_
 refine WL.nil ?_
 refine W.ret ?_
 have hq : (decide (0 ≤ t1)) = r0 := Option.some.inj (show some (decide (0 ≤ t1)) = some r0 from hm)
 subst hq
 exact ends1 Try.results60 rfl ⟨_, rfl, H.base, rfl⟩

theorem c_rate_far {w0 : World} (a0 : Int) {r0 : Bool} (hm : rate_far a0 = some r0) :
  Calls Try.prog 61 #[(.int .i64 a0)] w0 (Ret w0 fun _ v => v = (.bool r0)) := by
 unfold rate_far at hm
 refine calls_of_W Try.func61 rfl Try.ntmps61 (Nat.le_of_ble_eq_true rfl) ?_
 have H := Inv.start (w := w0)
 refine W.seq ?_
 refine W.region ?_
 refine O.assign (v := (.bool false)) rfl rfl rfl ?_
 refine WL.nil ?_
 refine W.seq ?_
 refine W.region ?_
 refine O.move (v := (.int .i64 a0)) rfl rfl rfl ?_
 obtain ⟨t1, hy1, hm⟩ := bind_some hm
 refine O.call Try.call59 rfl rfl rfl (c_rate_within _ _ _ hy1) ?_
 rintro _ w1 hb1 rfl
 have H := H.ext hb1
 refine O.not rfl rfl rfl ?_
 refine O.assign (v := (.bool (!t1))) rfl rfl rfl ?_
 refine WL.nil ?_
 refine W.ret ?_
 have hq : (!t1) = r0 := Option.some.inj (show some (!t1) = some r0 from hm)
 subst hq
 exact ends1 Try.results61 rfl ⟨_, rfl, H.base, rfl⟩

theorem c_rate_ValidBox {w0 : World} (va0_0 : Value) (a0 : GBox) (ha0_0 : SliceR w0 va0_0 a0.Errors) {r0 : Bool} (hm : rate_ValidBox a0 = some r0) :
  Calls Try.prog 16 #[(.agg #[(.string a0.Name), va0_0])] w0 (Ret w0 fun _ v => v = (.bool r0)) := by
 unfold rate_ValidBox at hm
 refine calls_of_W Try.func16 rfl Try.ntmps16 (Nat.le_of_ble_eq_true rfl) ?_
 have H := Inv.start (w := w0)
 refine W.seq ?_
 refine W.region ?_
 refine O.box [(.string a0.Name), va0_0] H rfl rfl rfl rfl ?_
 intro b1 w1 H hb1
 refine O.assign (v := (.bool false)) rfl rfl rfl ?_
 refine WL.nil ?_
 refine W.seq ?_
 refine W.region ?_
 refine O.fieldAddr fd24_0 rfl rfl rfl ?_
 refine O.load sc9 rfl rfl rfl (H.cell 0 rfl 0 _ rfl) ?_
 obtain ⟨t1, hy1, hm⟩ := bind_some hm
 refine O.call Try.call58 rfl rfl rfl (c_rate_name _ hy1) ?_
 rintro _ w2 hb2 rfl
 have H := H.ext hb2
 refine O.move (v := (.bool t1)) rfl rfl rfl ?_
 obtain ⟨b2, hm1, hm⟩ := bind_some hm
 refine WL.cut 5 (fun f w => f 1 = (.pointer (some ⟨b1, 0, none⟩)) ∧ f 11 = .bool b2 ∧ Inv w0 w [boxI b1 24 [(.string a0.Name), va0_0]]) ?_ ?_
 ·
  rcases ite_some hm1 with ⟨hc1, hm1⟩ | ⟨hc1, hm1⟩
  ·
   refine WL.reset (i := 6) (v := .bool true) (congrArg Value.bool hc1) ?_
   refine O.fieldAddr fd24_1 rfl rfl rfl ?_
   refine O.load sc22 rfl rfl rfl (H.cell 0 rfl 1 _ rfl) ?_
   refine O.lenS Try.underlying22 (H.arg ha0_0) rfl rfl rfl ?_
   obtain ⟨t2, hy2, hm1⟩ := bind_some hm1
   refine O.call Try.call59 rfl rfl rfl (c_rate_within _ _ _ hy2) ?_
   rintro _ w3 hb3 rfl
   have H := H.ext hb3
   refine O.pick_true (v := (.bool t2)) rfl rfl rfl rfl ?_
   refine WL.nil ?_
   have hq : t2 = b2 := Option.some.inj (show some t2 = some b2 from hm1)
   subst hq
   exact ⟨rfl, rfl, H⟩
  ·
   refine WL.reset (i := 6) (v := .bool false) (congrArg Value.bool hc1) ?_
   refine O.skip rfl rfl ?_
   refine O.skip rfl rfl ?_
   refine O.skip rfl rfl ?_
   refine O.skip rfl rfl ?_
   refine O.pick_false (v := (.bool false)) rfl rfl rfl rfl ?_
   refine WL.nil ?_
   have hq : false = b2 := Option.some.inj (show some false = some b2 from hm1)
   subst hq
   exact ⟨rfl, rfl, H⟩
 ·
  rintro f w ⟨hf1, hf11, H⟩
  obtain ⟨u1, rfl⟩ := up2 hf1 hf11
  refine O.move (v := (.bool b2)) rfl rfl rfl ?_
  obtain ⟨b3, hm2, hm⟩ := bind_some hm
  refine WL.cut 5 (fun f w => f 17 = .bool b3 ∧ Inv w0 w [boxI b1 24 [(.string a0.Name), va0_0]]) ?_ ?_
  ·
   rcases ite_some hm2 with ⟨hc2, hm2⟩ | ⟨hc2, hm2⟩
   ·
    refine WL.reset (i := 12) (v := .bool true) (congrArg Value.bool hc2) ?_
    refine O.fieldAddr fd24_1 rfl rfl rfl ?_
    refine O.load sc22 rfl rfl rfl (H.cell 0 rfl 1 _ rfl) ?_
    obtain ⟨t3, hy3, hm2⟩ := bind_some hm2
    refine O.call Try.call60 rfl rfl rfl (c_slices_ContainsFunc_int _ _ (H.arg ha0_0) _ (fun x0 => rate_far x0) (fun w hw x0 _ hy => callsV_mk Try.call61 (c_rate_far x0 hy)) hy3) ?_
    rintro _ w4 hb4 rfl
    have H := H.ext hb4
    refine O.not rfl rfl rfl ?_
    refine O.pick_true (v := (.bool (!t3))) rfl rfl rfl rfl ?_
    refine WL.nil ?_
    have hq : (!t3) = b3 := Option.some.inj (show some (!t3) = some b3 from hm2)
    subst hq
    exact ⟨rfl, H⟩
   ·
    refine WL.reset (i := 12) (v := .bool false) (congrArg Value.bool hc2) ?_
    refine O.skip rfl rfl ?_
    refine O.skip rfl rfl ?_
    refine O.skip rfl rfl ?_
    refine O.skip rfl rfl ?_
    refine O.pick_false (v := (.bool false)) rfl rfl rfl rfl ?_
    refine WL.nil ?_
    have hq : false = b3 := Option.some.inj (show some false = some b3 from hm2)
    subst hq
    exact ⟨rfl, H⟩
  ·
   rintro f w ⟨hf17, H⟩
   obtain ⟨u2, rfl⟩ := up1 hf17
   refine O.assign (v := (.bool b3)) rfl rfl rfl ?_
   refine WL.nil ?_
   refine W.ret ?_
   have hq : b3 = r0 := Option.some.inj (show some b3 = some r0 from hm)
   subst hq
   exact ends1 Try.results16 rfl ⟨_, rfl, H.base, rfl⟩

theorem it_rate_differences_c1 {wi : World} {Kp : World → Prop} (pc0 : Addr) (c0 : Int) (pc1 : Addr) (vc1 : Value) (c1 : List Int) {r : List Int} (hm : rate_differences_c1 c0 c1 = some r)
    (hk : ∀ w, Kp w → (∀ j c, (Flat.cells c0)[j]? = some c → w.cell? (pc0.add j) = some c) ∧ (∀ j c, [vc1][j]? = some c → w.cell? (pc1.add j) = some c) ∧ SliceR w vc1 c1) :
    IterAt Try.prog 91 #[.pointer (some pc0), .pointer (some pc1)] (repF (α := Int)) (fun ys => ys = r) Kp wi := by
  intro l J Jx hc h0
  refine calls_of_W Try.func91 rfl Try.ntmps91 (Nat.le_of_ble_eq_true rfl) ?_
  have H := InvI.start hc h0
  have hK := hk _ (InvI.kp H)
  unfold rate_differences_c1 at hm
  refine W.seq ?_
  refine W.region ?_
  refine O.load (q := pc0) (v := .int .i64 c0) sc3 rfl rfl rfl (hK.1 0 _ rfl) ?_
  refine O.assign (v := .int .i64 c0) rfl rfl rfl ?_
  refine WL.nil ?_
  refine W.block ?_
  refine W.loopL (l := r) (fun rem f w => ∃ ik : Nat, r.drop ik = rem ∧ ∃ n i, diffsFrom c0 c1 n i = some rem ∧ f 4 = .int .i64 i ∧ f 0 = .func (.yield l) #[] #[] ∧ f 1 = .pointer (some pc0) ∧ f 2 = .pointer (some pc1) ∧ ∃ C, InvI wi w [consI hc (r.take ik) C]) ?_ ?_ ?_
  · exact ⟨0, List.drop_zero, _, _, hm, rfl, rfl, rfl, rfl, _, H⟩
  · rintro y xs f w ⟨ik, hd0, n, i, hm, hf4, hf0, hf1, hf2, C, H⟩
    obtain ⟨u1, rfl⟩ := up4 hf4 hf0 hf1 hf2
    have hK := hk _ (InvI.kp H)
    have htake : r.take (ik + 1) = r.take ik ++ [y] := by
      have hy : r[ik]? = some y := by have := congrArg (fun m => m[0]?) hd0; simpa using this
      rw [List.take_add_one, hy]; rfl
    have hsplit : r.take ik ++ y :: xs = r := by rw [← hd0, List.take_append_drop]
    cases n with
    | zero => cases hm
    | succ n =>
    rw [diffsFrom] at hm
    by_cases hlt : i < (c1.length : Int)
    · rw [if_pos hlt] at hm
      obtain ⟨x1, hx1, hm⟩ := bind_some hm
      obtain ⟨j1, hj1, hm⟩ := bind_some hm
      obtain ⟨x2, hx2, hm⟩ := bind_some hm
      obtain ⟨d1, hd1, hm⟩ := bind_some hm
      obtain ⟨i1, hi1, hm⟩ := bind_some hm
      obtain ⟨xs1, hxs, hm⟩ := bind_some hm
      obtain ⟨rfl, rfl⟩ : d1 = y ∧ xs1 = xs := by have := Option.some.inj hm; simpa using this
      refine W.seq ?_
      refine W.seq ?_
      refine W.region ?_
      refine O.move (v := .int .i64 i) rfl rfl rfl ?_
      refine O.load (q := pc1) (v := vc1) sc22 rfl rfl rfl (hK.2.1 0 _ rfl) ?_
      refine O.lenS Try.underlying22 hK.2.2 rfl rfl rfl ?_
      refine O.lss rfl rfl rfl rfl ?_
      refine WL.nil ?_
      refine W.cond_true (congrArg Value.bool (decide_eq_true hlt)) ?_
      refine W.skip ?_
      refine W.seq ?_
      refine W.block ?_
      refine W.seq ?_
      obtain ⟨wd, rfl⟩ : ∃ x, x = w := ⟨w, rfl⟩
      obtain ⟨p1, hp1, hr1⟩ := fix_indexAddr Try.underlying22 sz3 hK.2.2 hx1
      obtain ⟨p2, hp2, hr2⟩ := fix_indexAddr Try.underlying22 sz3 hK.2.2 hx2
      refine W.drawN 12 (fun f => f 0 = .func (.yield l) #[] #[] ∧ f 1 = .pointer (some pc0) ∧ f 2 = .pointer (some pc1) ∧ f 4 = .int .i64 i ∧ f 13 = .func (.yield l) #[] #[] ∧ f 24 = .int .i64 d1) fol (by kernel_rfl) ?_ ?_
      · refine PL.of (fun _ wk _ hx => O.move (v := .func (.yield l) #[] #[]) rfl rfl rfl (WL.nil ⟨rfl, hx⟩)) ?_
        refine PL.of (fun _ wk _ hx => O.load (q := pc1) (v := vc1) sc22 rfl rfl rfl ((hk _ (InvI.kp (H.ext hx))).2.1 0 _ rfl) (WL.nil ⟨rfl, hx⟩)) ?_
        refine PL.of (fun _ wk _ hx => O.move (v := .int .i64 i) rfl rfl rfl (WL.nil ⟨rfl, hx⟩)) ?_
        refine PL.of (fun _ wk _ hx => hr1 rfl rfl rfl rfl (WL.nil ⟨rfl, hx⟩)) ?_
        refine PL.of (fun _ wk _ hx => O.load sc3 rfl rfl rfl ((hp1.mono hx).flat 0 _ rfl) (WL.nil ⟨rfl, hx⟩)) ?_
        refine PL.of (fun _ wk _ hx => O.load (q := pc1) (v := vc1) sc22 rfl rfl rfl ((hk _ (InvI.kp (H.ext hx))).2.1 0 _ rfl) (WL.nil ⟨rfl, hx⟩)) ?_
        refine PL.of (fun _ wk _ hx => O.move (v := .int .i64 i) rfl rfl rfl (WL.nil ⟨rfl, hx⟩)) ?_
        refine PL.of (fun _ wk _ hx => O.load (q := pc0) (v := .int .i64 c0) sc3 rfl rfl rfl ((hk _ (InvI.kp (H.ext hx))).1 0 _ rfl) (WL.nil ⟨rfl, hx⟩)) ?_
        refine PL.of (fun _ wk _ hx => O.sub rfl rfl rfl rfl hj1 (WL.nil ⟨rfl, hx⟩)) ?_
        refine PL.of (fun _ wk _ hx => hr2 rfl rfl rfl rfl (WL.nil ⟨rfl, hx⟩)) ?_
        refine PL.of (fun _ wk _ hx => O.load sc3 rfl rfl rfl ((hp2.mono hx).flat 0 _ rfl) (WL.nil ⟨rfl, hx⟩)) ?_
        refine PL.of (fun _ wk _ hx => O.sub rfl rfl rfl rfl hd1 (WL.nil ⟨rfl, hx⟩)) ?_
        exact ⟨rfl, rfl, rfl, rfl, rfl, rfl⟩
      · rintro f wk ⟨hf0, hf1, hf2, hf4, h13, h24⟩ _ hx
        obtain ⟨u1, rfl⟩ : ∃ u1, f = (upd (upd (upd (upd (upd (upd u1 4 (.int .i64 i)) 0 (.func (.yield l) #[] #[])) 1 (.pointer (some pc0))) 2 (.pointer (some pc1))) 13 (.func (.yield l) #[] #[])) 24 (.int .i64 d1)) :=
          ⟨f, by rw [upd_self hf4, upd_self hf0, upd_self hf1, upd_self hf2, upd_self h13, upd_self h24]⟩
        refine O.yield d1 [.int .i64 d1] (H.ext hx) ⟨xs1, hsplit⟩ rfl rfl rfl rfl rfl ?_ ?_
        · intro w' C' H
          have hK := hk _ (InvI.kp H)
          refine O.not rfl rfl rfl ?_
          refine WL.nil ?_
          refine W.cond_false rfl ?_
          refine W.skip ?_
          refine W.region ?_
          refine O.move (v := .int .i64 i) rfl rfl rfl ?_
          refine O.load (q := pc0) (v := .int .i64 c0) sc3 rfl rfl rfl (hK.1 0 _ rfl) ?_
          refine O.add rfl rfl rfl rfl hi1 ?_
          refine O.assign (v := .int .i64 i1) rfl rfl rfl ?_
          exact WL.nil ⟨ik + 1, drop_next hd0, _, _, hxs, rfl, rfl, rfl, rfl, _, by rw [htake]; exact H⟩
        · intro w' C' H
          refine O.not rfl rfl rfl ?_
          refine WL.nil ?_
          refine W.cond_true rfl ?_
          refine W.ret ?_
          exact ends0 Try.results91 ⟨_, _, rfl, .inr (H.items _ (List.mem_cons_self ..)).1⟩
    · rw [if_neg hlt] at hm
      cases hm
  · rintro f w ⟨ik, hd, n, i, hm, hf4, hf0, hf1, hf2, C, H⟩
    obtain ⟨u1, rfl⟩ := up4 hf4 hf0 hf1 hf2
    have hK := hk _ (InvI.kp H)
    have hlt : ¬ i < (c1.length : Int) := by
      cases n with
      | zero => cases hm
      | succ n =>
        rw [diffsFrom] at hm
        intro hlt
        rw [if_pos hlt] at hm
        obtain ⟨_, _, hm⟩ := bind_some hm
        obtain ⟨_, _, hm⟩ := bind_some hm
        obtain ⟨_, _, hm⟩ := bind_some hm
        obtain ⟨_, _, hm⟩ := bind_some hm
        obtain ⟨_, _, hm⟩ := bind_some hm
        obtain ⟨_, _, hm⟩ := bind_some hm
        cases hm
    refine W.seq ?_
    refine W.seq ?_
    refine W.region ?_
    refine O.move (v := .int .i64 i) rfl rfl rfl ?_
    refine O.load (q := pc1) (v := vc1) sc22 rfl rfl rfl (hK.2.1 0 _ rfl) ?_
    refine O.lenS Try.underlying22 hK.2.2 rfl rfl rfl ?_
    refine O.lss rfl rfl rfl rfl ?_
    refine WL.nil ?_
    refine W.cond_false (congrArg Value.bool (decide_eq_false hlt)) ?_
    refine W.exit ?_
    refine xT rfl ?_
    refine ends0 Try.results91 ⟨_, C, rfl, .inl ⟨_, rfl, ?_⟩⟩
    have htk : r.take ik = r := List.take_of_length_le (by have := List.drop_eq_nil_iff.1 hd; omega)
    rw [htk] at H
    exact (H.items _ (List.mem_cons_self ..)).1

theorem c_rate_differences {w0 : World} (va0 : Value) (a0 : (List Int)) (ha0 : SliceR w0 va0 a0) (a1 : Int) :
  Calls Try.prog 57 #[va0, (.int .i64 a1)] w0 (Ret w0 fun w v => ∃ b2 : Nat, ∃ b1 : Nat, v = (.func (.func 91) #[] #[(.pointer (some ⟨b2, 0, none⟩)), (.pointer (some ⟨b1, 0, none⟩))]) ∧ Inv w0 w [boxI b2 3 [(.int .i64 a1)], boxI b1 22 [va0]]) := by
 refine calls_of_W Try.func57 rfl Try.ntmps57 (Nat.le_of_ble_eq_true rfl) ?_
 have H := Inv.start (w := w0)
 refine W.seq ?_
 refine W.region ?_
 refine O.box [va0] H rfl rfl rfl (SliceR.cells1 (H.arg ha0)) ?_
 intro b1 w1 H hb1
 refine O.box [(.int .i64 a1)] H rfl rfl rfl rfl ?_
 intro b2 w2 H hb2
 refine O.assign (v := .nilFunc) rfl rfl rfl ?_
 refine WL.nil ?_
 refine W.seq ?_
 refine W.region ?_
 refine O.makeFunc rfl rfl rfl rfl ?_
 refine O.assign (v := (.func (.func 91) #[] #[(.pointer (some ⟨b2, 0, none⟩)), (.pointer (some ⟨b1, 0, none⟩))])) rfl rfl rfl ?_
 refine WL.nil ?_
 refine W.ret ?_
 exact ends1 Try.results57 rfl ⟨_, rfl, H.base, ⟨_, _, rfl, H.pick [1, 0] [boxI b2 3 [(.int .i64 a1)], boxI b1 22 [va0]] rfl (by decide)⟩⟩

theorem c_slices_AppendSeq_int {w0 : World} (va1 : Value) (a1 : List Int) (ha1 : IterP Try.prog w0 va1 (repF (α := Int)) (fun ys => ys = a1)) {r0 : (List Int)} (hm : slices_AppendSeq_int a1 = some r0) :
  Calls Try.prog 93 #[(.slice none 0 0), va1] w0 (Ret w0 fun w v => OwnR w0 w v 3 r0) := by
 unfold slices_AppendSeq_int at hm
 refine calls_of_WM Try.func93 rfl Try.ntmps93 (Nat.le_of_ble_eq_true rfl) ?_
 have H := Inv.startM (w0 := w0)
 have hmk : (fr0 #[(.slice none 0 0), va1]).marks = [] := rfl
 refine W.seq ?_
 refine W.region ?_
 refine O.box [(.slice none 0 0)] H rfl rfl rfl rfl ?_
 intro b1 w1 H hb1
 have H := H.addNil (α := Int) (E := 3)
 have H := H.addNil (α := Int) (E := 3)
 refine O.assign (v := (.slice none 0 0)) rfl rfl rfl ?_
 refine WL.nil ?_
 refine W.seq ?_
 refine W.seq ?_
 refine W.region ?_
 refine O.move (v := va1) rfl rfl rfl ?_
 refine WL.nil ?_
 obtain ⟨s1, hm1, hm⟩ := bind_some hm
 refine W.via (fun f w => ∃ ms1 : List Nat, ∃ v4 : Value, f 2 = (.pointer (some ⟨b1, 0, none⟩)) ∧ f.marks = ms1 ∧ Inv w0 w [marksI ms1, boxI b1 22 [v4], ownI (α := Int) v4 3 s1]) ?_ ?_
 ·
  refine W.block ?_
  obtain ⟨gf1, lb1, hvgf1, hcbgf1, hitgf1⟩ := ha1
  have H := H.keep [0, 1, 2] [marksI [], boxI b1 22 [(.slice none 0 0)], ownI (α := Int) (.slice none 0 0) 3 ([] : List Int)] rfl (by decide)
  refine W.rangeFuncL (α := Int) (σ := (List Int)) (X := (List Int)) (xs := a1) (rep := (repF (α := Int))) hm1 (fun s L => ∃ z2 : (List Int), ∃ v2 : Value, z2 = s ∧ L = [boxI b1 22 [v2], ownI (α := Int) v2 3 z2]) (fun y j L => match j with | some j => j = 0 ∧ (False) | none => False) (show ev _ _ = _ from hvgf1) hcbgf1 rfl (fun _ _ _ h => by rw [h]; rfl) (fun Kp W hs hk => hitgf1 W Kp (Nat.le_trans H.base.size hs) fun w1 hw => by obtain ⟨_, _, _, _, _, hI⟩ := hk w1 hw; exact hI.base) H ⟨_, (.slice none 0 0), rfl, rfl⟩ ?_ ?_ ?_ ?_
  ·
   rintro _ rs lp lp2 iz x1 _ st _ w _ ⟨z2, v2, rfl, rfl⟩ rfl hm2 H
   change W _ _ _ _ _ _ _ (upd _ 7 (.int .i64 x1)) w
   refine W.region ?_
   refine O.assign (v := (.int .i64 x1)) rfl rfl rfl ?_
   refine WL.nil ?_
   refine ⟨_, H, fun w hsl H => ?_⟩
   refine W.block ?_
   refine W.region ?_
   refine O.load sc22 rfl rfl rfl (H.cell 3 rfl 0 _ rfl) ?_
   refine O.move (v := (.int .i64 x1)) rfl rfl rfl ?_
   refine O.buildSlice (α := Int) [(.int .i64 x1)] [x1] Try.underlying22 el3 H rfl rfl rfl rfl rfl rfl rfl ?_
   intro v5 w2 H hb2
   obtain ⟨t1, ht1, hm2⟩ := bind_some hm2
   refine O.append 4 Try.underlying22 el3 rfl H rfl (H.own 5 rfl) ht1 rfl rfl rfl rfl ?_
   intro v6 w3 H
   refine O.store 3 0 [v6] [v6] sz22 H rfl rfl rfl rfl rfl (SliceR.cells1 (H.own 4 rfl)) ⟨⟨rfl, rfl⟩, rfl⟩ (one_cons (SliceR.one (H.own 4 rfl)) one_nil) ?_
   intro w4 H
   refine WL.nil ?_
   have H := H.keep [0, 1, 2, 3, 4] [rs, lp2, marksI [], boxI b1 22 [v6], ownI (α := Int) v6 3 t1] rfl (by decide)
   obtain rfl := Option.some.inj hm2
   exact ⟨_, _, rfl, ⟨_, v6, rfl, rfl⟩, H⟩
  ·
   rintro D1 _ _ w ⟨z2, v2, rfl, rfl⟩ hfin H
   have hq : z2 = s1 := hfin
   subst hq
   have hmk := congrArg (D1 :: ·) hmk
   exact ⟨_, v2, rfl, hmk, H⟩
  ·
   rintro _ _ _ _ ⟨_, h⟩; exact h.elim
  ·
   rintro _ _ _ h; exact h.elim
 ·
  rintro f w ⟨ms1, v4, hf2, hmk, H⟩
  obtain ⟨u1, rfl⟩ := up1 hf2
  refine W.seq ?_
  refine W.region ?_
  refine O.load sc22 rfl rfl rfl (H.cell 1 rfl 0 _ rfl) ?_
  refine O.assign (v := v4) rfl rfl rfl ?_
  refine WL.nil ?_
  refine W.ret ?_
  refine endsM_mk H hmk ?_
  intro w H _
  have hq : s1 = r0 := Option.some.inj (show some s1 = some r0 from hm)
  subst hq
  exact ends1 Try.results93 rfl ⟨_, rfl, H.base, H.ownR 2 rfl⟩

theorem c_slices_Collect_int {w0 : World} (va0 : Value) (a0 : List Int) (ha0 : IterP Try.prog w0 va0 (repF (α := Int)) (fun ys => ys = a0)) {r0 : (List Int)} (hm : slices_Collect_int a0 = some r0) :
  Calls Try.prog 63 #[va0] w0 (Ret w0 fun w v => OwnR w0 w v 3 r0) := by
 unfold slices_Collect_int at hm
 refine calls_of_W Try.func63 rfl Try.ntmps63 (Nat.le_of_ble_eq_true rfl) ?_
 have H := Inv.start (w := w0)
 refine W.seq ?_
 refine W.region ?_
 have H := H.addNil (α := Int) (E := 3)
 refine O.assign (v := (.slice none 0 0)) rfl rfl rfl ?_
 refine WL.nil ?_
 refine W.seq ?_
 refine W.region ?_
 refine O.move (v := va0) rfl rfl rfl ?_
 obtain ⟨t1, hy1, hm⟩ := bind_some hm
 refine O.call Try.call93 rfl rfl rfl (c_slices_AppendSeq_int va0 a0 (ha0.mono H.base) hy1) ?_
 rintro v1 w1 hb1 ho1
 have H := H.addOwn hb1 ho1
 refine O.assign (v := v1) rfl rfl rfl ?_
 refine WL.nil ?_
 refine W.ret ?_
 have hq : t1 = r0 := Option.some.inj (show some t1 = some r0 from hm)
 subst hq
 exact ends1 Try.results63 rfl ⟨_, rfl, H.base, H.ownR 1 rfl⟩

theorem c_rate_Weekly {w0 : World} (va0_0 : Value) (a0 : GBox) (ha0_0 : SliceR w0 va0_0 a0.Errors) {r0 : (List Int)} {r1 : Int} (hm : rate_Weekly a0 = some (r0, r1)) :
  Calls Try.prog 33 #[(.agg #[(.string a0.Name), va0_0])] w0 (Ret w0 fun w v => ∃ vr0 : Value, v = .tuple #[vr0, (.int .i64 r1)] ∧ OwnR w0 w vr0 3 r0) := by
 unfold rate_Weekly at hm
 refine calls_of_W Try.func33 rfl Try.ntmps33 (Nat.le_of_ble_eq_true rfl) ?_
 have H := Inv.start (w := w0)
 refine W.seq ?_
 refine W.region ?_
 refine O.box [(.string a0.Name), va0_0] H rfl rfl rfl rfl ?_
 intro b1 w1 H hb1
 have H := H.addNil (α := Int) (E := 3)
 refine O.assign (v := (.slice none 0 0)) rfl rfl rfl ?_
 refine O.assign (v := (.int .i64 0)) rfl rfl rfl ?_
 refine WL.nil ?_
 refine W.seq ?_
 refine W.seq ?_
 refine W.region ?_
 refine O.loadA [(.string a0.Name), va0_0] ag24 rfl rfl rfl rfl (H.cell 0 rfl) ?_
 obtain ⟨t1, hy1, hm⟩ := bind_some hm
 refine O.call Try.call16 rfl rfl rfl (c_rate_ValidBox _ (GBox.mk a0.Name a0.Errors) (H.arg ha0_0) hy1) ?_
 rintro _ w2 hb2 rfl
 have H := H.ext hb2
 refine O.not rfl rfl rfl ?_
 refine WL.nil ?_
 rcases ite_some hm with ⟨hc1, hm⟩ | ⟨hc1, hm⟩
 ·
  refine W.cond_true (congrArg Value.bool hc1) ?_
  refine W.seq ?_
  refine W.region ?_
  have H := H.addNil (α := Int) (E := 3)
  refine O.assign (v := (.slice none 0 0)) rfl rfl rfl ?_
  refine O.assign (v := (.int .i64 1)) rfl rfl rfl ?_
  refine WL.nil ?_
  refine W.ret ?_
  have hq : (([] : List Int), 1) = (r0, r1) := Option.some.inj (show some (([] : List Int), 1) = some (r0, r1) from hm)
  obtain ⟨he0, hq0⟩ := Prod.mk.inj hq; clear hq; subst he0
  subst hq0
  exact ends2 Try.results33 rfl rfl ⟨_, rfl, H.base, ⟨_, rfl, H.ownR 2 rfl⟩⟩
 ·
  refine W.cond_false (congrArg Value.bool hc1) ?_
  refine W.skip ?_
  refine W.seq ?_
  refine W.region ?_
  refine O.fieldAddr fd24_1 rfl rfl rfl ?_
  refine O.load sc22 rfl rfl rfl (H.cell 0 rfl 1 _ rfl) ?_
  refine O.call Try.call57 rfl rfl rfl (c_rate_differences _ _ (H.arg ha0_0) _) ?_
  rintro _ w3 hb3 ⟨b2, b3, rfl, hM1⟩
  have H := H.addAll hb3 hM1
  obtain ⟨xs1, hxs1, hm⟩ := bind_some hm
  obtain ⟨t2, hy2, hm⟩ := bind_some hm
  refine O.call Try.call63 rfl rfl rfl (c_slices_Collect_int (.func (.func 91) #[] #[(.pointer (some ⟨b2, 0, none⟩)), (.pointer (some ⟨b3, 0, none⟩))]) xs1 (iterP_mk rfl Try.call91 fun _ _ hk => it_rate_differences_c1 _ 7 _ _ a0.Errors hxs1 fun w hw => ⟨cells_mono (H.cell 2 rfl) (hk w hw), cells_mono (H.cell 3 rfl) (hk w hw), (H.arg ha0_0).mono (hk w hw)⟩) hy2) ?_
  rintro v1 w4 hb4 ho1
  have H := H.addOwn hb4 ho1
  refine O.assign (v := v1) rfl rfl rfl ?_
  refine WL.nil ?_
  refine W.seq ?_
  refine W.seq ?_
  refine W.region ?_
  refine O.move (v := v1) rfl rfl rfl ?_
  refine O.lenS Try.underlying22 (H.own 4 rfl) rfl rfl rfl ?_
  refine O.eql rfl rfl rfl rfl ?_
  refine WL.nil ?_
  rcases ite_some hm with ⟨hc2, hm⟩ | ⟨hc2, hm⟩
  ·
   refine W.cond_true (congrArg Value.bool hc2) ?_
   refine W.seq ?_
   refine W.region ?_
   have H := H.addNil (α := Int) (E := 3)
   refine O.assign (v := (.slice none 0 0)) rfl rfl rfl ?_
   refine O.assign (v := (.int .i64 8)) rfl rfl rfl ?_
   refine WL.nil ?_
   refine W.ret ?_
   have hq : (([] : List Int), 8) = (r0, r1) := Option.some.inj (show some (([] : List Int), 8) = some (r0, r1) from hm)
   obtain ⟨he0, hq0⟩ := Prod.mk.inj hq; clear hq; subst he0
   subst hq0
   exact ends2 Try.results33 rfl rfl ⟨_, rfl, H.base, ⟨_, rfl, H.ownR 5 rfl⟩⟩
  ·
   refine W.cond_false (congrArg Value.bool hc2) ?_
   refine W.skip ?_
   refine W.seq ?_
   refine W.region ?_
   refine O.move (v := v1) rfl rfl rfl ?_
   refine O.assign (v := v1) rfl rfl rfl ?_
   refine O.assign (v := (.int .i64 0)) rfl rfl rfl ?_
   refine WL.nil ?_
   refine W.ret ?_
   have hq : (t2, 0) = (r0, r1) := Option.some.inj (show some (t2, 0) = some (r0, r1) from hm)
   obtain ⟨he0, hq0⟩ := Prod.mk.inj hq; clear hq; subst he0
   subst hq0
   exact ends2 Try.results33 rfl rfl ⟨_, rfl, H.base, ⟨_, rfl, H.ownR 4 rfl⟩⟩

theorem it_slices_Values_int_c1 {wi : World} {Kp : World → Prop} (pc0 : Addr) (vc0 : Value) (c0 : List Int) {r : List Int} (hm : slices_Values_int_c1 c0 = some r)
    (hk : ∀ w, Kp w → (∀ j c, [vc0][j]? = some c → w.cell? (pc0.add j) = some c) ∧ SliceR w vc0 c0) : IterAt Try.prog 90 #[.pointer (some pc0)] (repF (α := Int)) (fun ys => ys = r) Kp wi := by
  obtain rfl := Option.some.inj hm
  intro l J Jx hc h0
  refine calls_of_W Try.func90 rfl Try.ntmps90 (Nat.le_of_ble_eq_true rfl) ?_
  have H := InvI.start hc h0
  have hK := hk _ (InvI.kp H)
  refine W.seq ?_
  refine W.region ?_
  refine O.load (q := pc0) (v := vc0) sc22 rfl rfl rfl (hK.1 0 _ rfl) ?_
  refine O.lenS Try.underlying22 hK.2 rfl rfl rfl ?_
  refine O.move (v := (.int .i64 0)) rfl rfl rfl ?_
  refine WL.nil ?_
  refine W.block ?_
  refine W.loopL (l := c0) (fun rem f w => ∃ ik : Nat, c0.drop ik = rem ∧ f 7 = .int .i64 (ik : Int) ∧ f 6 = .int .i64 (c0.length : Int) ∧ f 5 = vc0 ∧ f 0 = .func (.yield l) #[] #[] ∧ ∃ C, InvI wi w [consI hc (c0.take ik) C]) ?_ ?_ ?_
  · exact ⟨0, List.drop_zero, rfl, rfl, rfl, rfl, _, H⟩
  · rintro y xs f w ⟨ik, hd, hf7, hf6, hf5, hf0, C, H⟩
    have hlt := drop_lt hd; have hix := drop_idx hd
    obtain ⟨u1, rfl⟩ := up4 hf7 hf6 hf5 hf0
    have hK := hk _ (InvI.kp H)
    have hinc := addI_lt hlt hK.2.len_le
    have htake : c0.take (ik + 1) = c0.take ik ++ [y] := by
      have hy : c0[ik]? = some y := by have := congrArg (fun m => m[0]?) hd; simpa using this
      rw [List.take_add_one, hy]; rfl
    have hsplit : c0.take ik ++ y :: xs = c0 := by rw [← hd, List.take_append_drop]
    refine W.seq ?_
    refine W.region ?_
    refine O.lss rfl rfl rfl rfl ?_
    refine WL.nil ?_
    refine W.seq ?_
    refine W.cond_true (congrArg Value.bool (decide_eq_true hlt)) ?_
    refine W.skip ?_
    refine W.seq ?_
    refine W.block ?_
    refine W.seq ?_
    refine W.region ?_
    refine O.indexAddr Try.underlying22 sz3 hK.2 hix rfl rfl rfl rfl ?_
    intro p1 hp1
    refine O.load sc3 rfl rfl rfl (hp1.flat 0 _ rfl) ?_
    refine O.assign (v := (.int .i64 y)) rfl rfl rfl ?_
    refine WL.nil ?_
    refine W.seq ?_
    refine W.region ?_
    refine O.move (v := (.func (.yield l) #[] #[])) rfl rfl rfl ?_
    refine O.move (v := (.int .i64 y)) rfl rfl rfl ?_
    refine O.yield y [(.int .i64 y)] H ⟨xs, hsplit⟩ rfl rfl rfl rfl rfl ?_ ?_
    · intro w' C' H
      refine O.not rfl rfl rfl ?_
      refine WL.nil ?_
      refine W.cond_false rfl ?_
      refine W.skip ?_
      refine W.region ?_
      refine O.add rfl rfl rfl rfl hinc ?_
      refine O.move (v := .int .i64 ((ik : Int) + 1)) rfl rfl rfl ?_
      exact WL.nil ⟨ik + 1, drop_next hd, rfl, rfl, rfl, rfl, _, by rw [htake]; exact H⟩
    · intro w' C' H
      refine O.not rfl rfl rfl ?_
      refine WL.nil ?_
      refine W.cond_true rfl ?_
      refine W.ret ?_
      exact ends0 Try.results90 ⟨_, _, rfl, .inr (H.items _ (List.mem_cons_self ..)).1⟩
  · rintro f w ⟨ik, hd, hf7, hf6, hf5, hf0, C, H⟩
    have hlt := drop_end hd
    obtain ⟨u1, rfl⟩ := up2 hf7 hf6
    refine W.seq ?_
    refine W.region ?_
    refine O.lss rfl rfl rfl rfl ?_
    refine WL.nil ?_
    refine W.seq ?_
    refine W.cond_false (congrArg Value.bool (decide_eq_false hlt)) ?_
    refine W.exit ?_
    refine xT rfl ?_
    refine ends0 Try.results90 ⟨_, C, rfl, .inl ⟨_, rfl, ?_⟩⟩
    have htk : c0.take ik = c0 := List.take_of_length_le (by have := List.drop_eq_nil_iff.1 hd; omega)
    rw [htk] at H
    exact (H.items _ (List.mem_cons_self ..)).1

theorem c_slices_Values_int {w0 : World} (va0 : Value) (a0 : (List Int)) (ha0 : SliceR w0 va0 a0) :
  Calls Try.prog 56 #[va0] w0 (Ret w0 fun w v => ∃ b1 : Nat, v = (.func (.func 90) #[] #[(.pointer (some ⟨b1, 0, none⟩))]) ∧ Inv w0 w [boxI b1 22 [va0]]) := by
 refine calls_of_W Try.func56 rfl Try.ntmps56 (Nat.le_of_ble_eq_true rfl) ?_
 have H := Inv.start (w := w0)
 refine W.seq ?_
 refine W.region ?_
 refine O.box [va0] H rfl rfl rfl (SliceR.cells1 (H.arg ha0)) ?_
 intro b1 w1 H hb1
 refine O.assign (v := .nilFunc) rfl rfl rfl ?_
 refine WL.nil ?_
 refine W.seq ?_
 refine W.region ?_
 refine O.makeFunc rfl rfl rfl rfl ?_
 refine O.assign (v := (.func (.func 90) #[] #[(.pointer (some ⟨b1, 0, none⟩))])) rfl rfl rfl ?_
 refine WL.nil ?_
 refine W.ret ?_
 exact ends1 Try.results56 rfl ⟨_, rfl, H.base, ⟨_, rfl, H.pick [0] [boxI b1 22 [va0]] rfl (by decide)⟩⟩

set_option maxRecDepth 20000 in
theorem c_rate_ends_int {w0 : World} (va0 : Value) (a0 : List Int) (ha0 : IterP Try.prog w0 va0 (repF (α := Int)) (fun ys => ys = a0)) {r0 : Int} {r1 : Int} (hm : rate_ends_int a0 = some (r0, r1)) :
  Calls Try.prog 55 #[va0] w0 (Ret w0 fun _ v => v = .tuple #[(.int .i64 r0), (.int .i64 r1)]) := by
 unfold rate_ends_int at hm
 refine calls_of_WM Try.func55 rfl Try.ntmps55 (Nat.le_of_ble_eq_true rfl) ?_
 have H := Inv.startM (w0 := w0)
 have hmk : (fr0 #[va0]).marks = [] := rfl
 refine W.seq ?_
 refine W.region ?_
 refine O.alloc [(.int .i64 0)] ze3 H rfl rfl rfl ?_
 intro b1 w1 H hb1
 refine O.alloc [(.int .i64 0)] ze3 H rfl rfl rfl ?_
 intro b2 w2 H hb2
 refine WL.nil ?_
 refine W.seq ?_
 refine W.region ?_
 refine O.alloc [(.bool false)] ze4 H rfl rfl rfl ?_
 intro b3 w3 H hb3
 refine O.store 3 0 [(.bool true)] [(.bool true)] sz4 H rfl rfl rfl rfl rfl rfl ⟨⟨rfl, rfl⟩, rfl⟩ (one_cons rfl one_nil) ?_
 intro w4 H
 refine WL.nil ?_
 refine W.seq ?_
 refine W.seq ?_
 refine W.region ?_
 refine O.move (v := va0) rfl rfl rfl ?_
 refine WL.nil ?_
 obtain ⟨⟨s1, s2⟩, hm1, hm⟩ := bind_some hm
 refine W.via (fun f w => ∃ ms1 : List Nat, f 2 = (.pointer (some ⟨b1, 0, none⟩)) ∧ f 3 = (.pointer (some ⟨b2, 0, none⟩)) ∧ f.marks = ms1 ∧ Inv w0 w [marksI ms1, boxI b1 3 [(.int .i64 s1)], boxI b2 3 [(.int .i64 s2)]]) ?_ ?_
 ·
  refine W.block ?_
  obtain ⟨gf1, lb1, hvgf1, hcbgf1, hitgf1⟩ := ha0
  refine W.rangeFuncL (α := Int) (σ := Int × Int × Bool) (X := Int × Int) (xs := a0) (rep := (repF (α := Int))) hm1 (fun s L => ∃ z4 : Int, ∃ z5 : Int, ∃ z6 : Bool, (z4, z5, z6) = s ∧ L = [boxI b1 3 [(.int .i64 z4)], boxI b2 3 [(.int .i64 z5)], boxI b3 4 [(.bool z6)]]) (fun y j L => match j with | some j => j = 0 ∧ (False) | none => False) (show ev _ _ = _ from hvgf1) hcbgf1 rfl (fun _ _ _ h => by rw [h]; rfl) (fun Kp W hs hk => hitgf1 W Kp (Nat.le_trans H.base.size hs) fun w1 hw => by obtain ⟨_, _, _, _, _, hI⟩ := hk w1 hw; exact hI.base) H ⟨_, _, _, rfl, rfl⟩ ?_ ?_ ?_ ?_
  ·
   rintro _ rs lp lp2 iz x1 _ st _ w _ ⟨z4, z5, z6, rfl, rfl⟩ rfl hm2 H
   change W _ _ _ _ _ _ _ (upd _ 7 (.int .i64 x1)) w
   refine W.region ?_
   refine O.assign (v := (.int .i64 x1)) rfl rfl rfl ?_
   refine WL.nil ?_
   refine ⟨_, H, fun w hsl H => ?_⟩
   obtain ⟨⟨s3, s4, s5⟩, hm3, hm2⟩ := bind_some hm2
   refine W.via (fun f w => f 2 = (.pointer (some ⟨b1, 0, none⟩)) ∧ f 3 = (.pointer (some ⟨b2, 0, none⟩)) ∧ f 4 = (.pointer (some ⟨b3, 0, none⟩)) ∧ f 6 = va0 ∧ Inv w0 w [rs, lp2, marksI [], boxI b1 3 [(.int .i64 s3)], boxI b2 3 [(.int .i64 s4)], boxI b3 4 [(.bool s5)]]) ?_ ?_
   ·
    refine W.block ?_
    refine W.seq ?_
    refine W.seq ?_
    refine W.region ?_
    refine O.load sc4 rfl rfl rfl (H.cell 5 rfl 0 _ rfl) ?_
    refine WL.nil ?_
    obtain ⟨⟨s6, s7, s8⟩, hm4, hm3⟩ := bind_some hm3
    refine W.via (fun f w => f 2 = (.pointer (some ⟨b1, 0, none⟩)) ∧ f 3 = (.pointer (some ⟨b2, 0, none⟩)) ∧ f 4 = (.pointer (some ⟨b3, 0, none⟩)) ∧ f 5 = (.int .i64 x1) ∧ f 6 = va0 ∧ Inv w0 w [rs, lp2, marksI [], boxI b1 3 [(.int .i64 s6)], boxI b2 3 [(.int .i64 s7)], boxI b3 4 [(.bool s8)]]) ?_ ?_
    ·
     rcases ite_some hm4 with ⟨hc1, hm4⟩ | ⟨hc1, hm4⟩
     ·
      refine W.cond_true (congrArg Value.bool hc1) ?_
      refine W.region ?_
      refine O.move (v := (.int .i64 x1)) rfl rfl rfl ?_
      refine O.move (v := (.int .i64 x1)) rfl rfl rfl ?_
      refine O.store 3 0 [(.int .i64 x1)] [(.int .i64 x1)] sz3 H rfl rfl rfl rfl rfl rfl ⟨⟨rfl, rfl⟩, rfl⟩ (one_cons rfl one_nil) ?_
      intro w5 H
      refine O.store 4 0 [(.int .i64 x1)] [(.int .i64 x1)] sz3 H rfl rfl rfl rfl rfl rfl ⟨⟨rfl, rfl⟩, rfl⟩ (one_cons rfl one_nil) ?_
      intro w6 H
      refine O.store 5 0 [(.bool false)] [(.bool false)] sz4 H rfl rfl rfl rfl rfl rfl ⟨⟨rfl, rfl⟩, rfl⟩ (one_cons rfl one_nil) ?_
      intro w7 H
      refine WL.nil ?_
      have hq : (x1, x1, false) = (s6, s7, s8) := Option.some.inj (show some (x1, x1, false) = some (s6, s7, s8) from hm4)
      obtain ⟨he0, hq0⟩ := Prod.mk.inj hq; clear hq; subst he0
      obtain ⟨he1, hq1⟩ := Prod.mk.inj hq0; clear hq0; subst he1
      subst hq1
      exact ⟨rfl, rfl, rfl, rfl, rfl, H⟩
     ·
      refine W.cond_false (congrArg Value.bool hc1) ?_
      refine W.skip ?_
      have hq : (z4, z5, z6) = (s6, s7, s8) := Option.some.inj (show some (z4, z5, z6) = some (s6, s7, s8) from hm4)
      obtain ⟨he0, hq0⟩ := Prod.mk.inj hq; clear hq; subst he0
      obtain ⟨he1, hq1⟩ := Prod.mk.inj hq0; clear hq0; subst he1
      subst hq1
      exact ⟨rfl, rfl, rfl, rfl, rfl, H⟩
    ·
     rintro f w ⟨hf2, hf3, hf4, hf5, hf6, H⟩
     obtain ⟨u1, rfl⟩ := up5 hf2 hf3 hf4 hf5 hf6
     refine W.drawS 6 [3, 4, 5] (fun w9 => Inv w0 w9 [rs, lp2, marksI [], boxI b1 3 [(.int .i64 (min s6 x1))], boxI b2 3 [(.int .i64 s7)], boxI b3 4 [(.bool s8)]]) (fun f => f 2 = (.pointer (some ⟨b1, 0, none⟩)) ∧ f 3 = (.pointer (some ⟨b2, 0, none⟩)) ∧ f 4 = (.pointer (some ⟨b3, 0, none⟩)) ∧ f 6 = va0 ∧ f 13 = (.int .i64 (min s6 x1)) ∧ f 16 = (.int .i64 (max s7 x1))) fol (by kernel_rfl) rfl ?_ ?_ ?_
     ·
      refine PL.of (fun b w8 hb hx => match b, hb, hx with | none, _, hx => by have H := H.ext hx; exact O.load sc3 rfl rfl rfl (H.cell 3 rfl 0 _ rfl) (WL.nil ⟨rfl, hx⟩) | some _, hb, _ => absurd (hb rfl) (by decide)) ?_
      refine PL.of (fun b w8 hb hx => match b, hb, hx with | none, _, hx => by exact O.move (v := (.int .i64 x1)) rfl rfl rfl (WL.nil ⟨rfl, hx⟩) | some _, hb, _ => absurd (hb rfl) (by decide)) ?_
      refine PL.of (fun b w8 hb hx => match b, hb, hx with | none, _, hx => by exact O.min2 rfl rfl rfl rfl (WL.nil ⟨rfl, hx⟩) | some _, hb, _ => absurd (hb rfl) (by decide)) ?_
      refine PL.of (fun b w8 _ hx => match b, hx with | none, hx => by have H := H.ext hx; exact O.load sc3 rfl rfl rfl (H.cell 4 rfl 0 _ rfl) (WL.nil ⟨rfl, hx⟩) | some _, H => O.load sc3 rfl rfl rfl (H.cell 4 rfl 0 _ rfl) (WL.nil ⟨rfl, H⟩)) ?_
      refine PL.of (fun b w8 _ hx => match b, hx with | none, hx => by exact O.move (v := (.int .i64 x1)) rfl rfl rfl (WL.nil ⟨rfl, hx⟩) | some _, H => O.move (v := (.int .i64 x1)) rfl rfl rfl (WL.nil ⟨rfl, H⟩)) ?_
      refine PL.of (fun b w8 _ hx => match b, hx with | none, hx => by exact O.max2 rfl rfl rfl rfl (WL.nil ⟨rfl, hx⟩) | some _, H => O.max2 rfl rfl rfl rfl (WL.nil ⟨rfl, H⟩)) ?_
      refine PL.nil ?_
      exact ⟨rfl, rfl, rfl, rfl, rfl, rfl⟩
     ·
      rintro f ⟨hf2, hf3, hf4, hf6, hf13, hf16⟩ w hx
      obtain ⟨u2, rfl⟩ := up6 hf2 hf3 hf4 hf6 hf13 hf16
      have H := H.ext hx
      exact O.store 3 0 [(.int .i64 (min s6 x1))] [(.int .i64 (min s6 x1))] sz3 H rfl rfl rfl rfl rfl rfl ⟨⟨rfl, rfl⟩, rfl⟩ (one_cons rfl one_nil) (fun _ H => WL.nil ⟨rfl, H⟩)
     ·
      rintro f w ⟨hf2, hf3, hf4, hf6, hf13, hf16⟩ hmd H
      obtain ⟨u3, rfl⟩ := up6 hf2 hf3 hf4 hf6 hf13 hf16
      refine O.store 4 0 [(.int .i64 (max s7 x1))] [(.int .i64 (max s7 x1))] sz3 H rfl rfl rfl rfl rfl rfl ⟨⟨rfl, rfl⟩, rfl⟩ (one_cons rfl one_nil) ?_
      intro w8 H
      refine WL.nil ?_
      have hq : ((min s6 x1), (max s7 x1), s8) = (s3, s4, s5) := Option.some.inj (show some ((min s6 x1), (max s7 x1), s8) = some (s3, s4, s5) from hm3)
      obtain ⟨he0, hq0⟩ := Prod.mk.inj hq; clear hq; subst he0
      obtain ⟨he1, hq1⟩ := Prod.mk.inj hq0; clear hq0; subst he1
      subst hq1
      exact ⟨rfl, rfl, rfl, rfl, H⟩
   ·
    rintro f w ⟨hf2, hf3, hf4, hf6, H⟩
    obtain ⟨u4, rfl⟩ := up4 hf2 hf3 hf4 hf6
    obtain rfl := Option.some.inj hm2
    exact ⟨_, _, rfl, ⟨_, _, _, rfl, rfl⟩, H⟩
  ·
   rintro D1 _ _ w ⟨z4, z5, z6, rfl, rfl⟩ hfin H
   have hq : (z4, z5) = (s1, s2) := hfin
   obtain ⟨he0, hq0⟩ := Prod.mk.inj hq; clear hq; subst he0
   subst hq0
   have H := H.keep [0, 1, 2] [marksI (D1 :: []), boxI b1 3 [(.int .i64 z4)], boxI b2 3 [(.int .i64 z5)]] rfl (by decide)
   have hmk := congrArg (D1 :: ·) hmk
   exact ⟨_, rfl, rfl, hmk, H⟩
  ·
   rintro _ _ _ _ ⟨_, h⟩; exact h.elim
  ·
   rintro _ _ _ h; exact h.elim
 ·
  rintro f w ⟨ms1, hf2, hf3, hmk, H⟩
  obtain ⟨u5, rfl⟩ := up2 hf2 hf3
  refine W.seq ?_
  refine W.drawS 2 [1] (fun w9 => Inv w0 w9 [marksI ms1, boxI b1 3 [(.int .i64 s1)], boxI b2 3 [(.int .i64 s2)]]) (fun f => f 2 = (.pointer (some ⟨b1, 0, none⟩)) ∧ f 3 = (.pointer (some ⟨b2, 0, none⟩)) ∧ f 17 = (.int .i64 s1) ∧ f 18 = (.int .i64 s2)) fol (by kernel_rfl) rfl ?_ ?_ ?_
  ·
   refine PL.of (fun b w8 hb hx => match b, hb, hx with | none, _, hx => by have H := H.ext hx; exact O.load sc3 rfl rfl rfl (H.cell 1 rfl 0 _ rfl) (WL.nil ⟨rfl, hx⟩) | some _, hb, _ => absurd (hb rfl) (by decide)) ?_
   refine PL.of (fun b w8 _ hx => match b, hx with | none, hx => by have H := H.ext hx; exact O.load sc3 rfl rfl rfl (H.cell 2 rfl 0 _ rfl) (WL.nil ⟨rfl, hx⟩) | some _, H => O.load sc3 rfl rfl rfl (H.cell 2 rfl 0 _ rfl) (WL.nil ⟨rfl, H⟩)) ?_
   refine PL.nil ?_
   exact ⟨rfl, rfl, rfl, rfl⟩
  ·
   rintro f ⟨hf2, hf3, hf17, hf18⟩ w hx
   obtain ⟨u6, rfl⟩ := up4 hf2 hf3 hf17 hf18
   have H := H.ext hx
   exact O.store 1 0 [(.int .i64 s1)] [(.int .i64 s1)] sz3 H rfl rfl rfl rfl rfl rfl ⟨⟨rfl, rfl⟩, rfl⟩ (one_cons rfl one_nil) (fun _ H => WL.nil ⟨rfl, H⟩)
  ·
   rintro f w ⟨hf2, hf3, hf17, hf18⟩ hmd H
   have hmk := hmd.trans hmk
   obtain ⟨u7, rfl⟩ := up4 hf2 hf3 hf17 hf18
   refine O.store 2 0 [(.int .i64 s2)] [(.int .i64 s2)] sz3 H rfl rfl rfl rfl rfl rfl ⟨⟨rfl, rfl⟩, rfl⟩ (one_cons rfl one_nil) ?_
   intro w9 H
   refine WL.nil ?_
   refine W.ret ?_
   refine endsM_mk H hmk ?_
   intro w H _
   have hq : (s1, s2) = (r0, r1) := Option.some.inj (show some (s1, s2) = some (r0, r1) from hm)
   obtain ⟨he0, hq0⟩ := Prod.mk.inj hq; clear hq; subst he0
   subst hq0
   exact ends2 Try.results55 ⟨_, rfl, run_loadVar_scalar sc3 (H.cell 1 rfl 0 _ rfl)⟩ ⟨_, rfl, run_loadVar_scalar sc3 (H.cell 2 rfl 0 _ rfl)⟩ ⟨_, rfl, H.base, rfl⟩

set_option maxRecDepth 20000 in
theorem c_rate_Trial {w0 : World} (va0_0 : Value) (a0 : GBox) (ha0_0 : SliceR w0 va0_0 a0.Errors) {r0 : GTrial} {r1 : Int} (hm : rate_Trial a0 = some (r0, r1)) :
  Calls Try.prog 15 #[(.agg #[(.string a0.Name), va0_0])] w0 (Ret w0 fun _ v => v = .tuple #[(.agg (Flat.cells r0).toArray), (.int .i64 r1)]) := by
 unfold rate_Trial at hm
 refine calls_of_WM Try.func15 rfl Try.ntmps15 (Nat.le_of_ble_eq_true rfl) ?_
 have H := Inv.startM (w0 := w0)
 have hmk : (fr0 #[(.agg #[(.string a0.Name), va0_0])]).marks = [] := rfl
 refine W.seq ?_
 refine W.region ?_
 refine O.box [(.string a0.Name), va0_0] H rfl rfl rfl rfl ?_
 intro b1 w1 H hb1
 refine O.alloc [(.string ByteArray.empty), (.int .i64 0), (.int .i64 0), (.int .i64 0), (.int .i64 0)] ze28 H rfl rfl rfl ?_
 intro b2 w2 H hb2
 refine O.assign (v := (.int .i64 0)) rfl rfl rfl ?_
 refine WL.nil ?_
 refine W.seq ?_
 refine W.region ?_
 refine O.loadA [(.string a0.Name), va0_0] ag24 rfl rfl rfl rfl (H.cell 1 rfl) ?_
 obtain ⟨⟨t1, t2⟩, hy1, hm⟩ := bind_some hm
 refine O.call Try.call33 rfl rfl rfl (c_rate_Weekly _ (GBox.mk a0.Name a0.Errors) (H.arg ha0_0) hy1) ?_
 rintro _ w3 hb3 ⟨v1, rfl, ho1⟩
 have H := H.addOwn hb3 ho1
 refine O.move (v := (.tuple #[v1, (.int .i64 t2)])) rfl rfl rfl ?_
 refine O.extract (v := v1) rfl rfl rfl rfl ?_
 refine O.extract (v := (.int .i64 t2)) rfl rfl rfl rfl ?_
 refine O.assign (v := v1) rfl rfl rfl ?_
 refine O.assign (v := (.int .i64 t2)) rfl rfl rfl ?_
 refine WL.nil ?_
 refine W.seq ?_
 refine W.block ?_
 refine W.seq ?_
 refine W.region ?_
 refine O.move (v := (.int .i64 t2)) rfl rfl rfl ?_
 refine O.neq rfl rfl rfl rfl ?_
 refine O.assign (v := (.bool (t2 != 0))) rfl rfl rfl ?_
 refine WL.nil ?_
 rcases ite_some hm with ⟨hc1, hm⟩ | ⟨hc1, hm⟩
 ·
  refine W.cond_true (congrArg Value.bool hc1) ?_
  refine W.seq ?_
  refine W.region ?_
  refine O.build (v := (.agg (Flat.cells (GTrial.mk ByteArray.empty 0 0 0 0)).toArray)) (fun w => bd28_  w) rfl rfl rfl ?_
  refine O.move (v := (.int .i64 t2)) rfl rfl rfl ?_
  refine O.store 2 0 [(.string ByteArray.empty), (.int .i64 0), (.int .i64 0), (.int .i64 0), (.int .i64 0)] [(.string ByteArray.empty), (.int .i64 0), (.int .i64 0), (.int .i64 0), (.int .i64 0)] sz28 H rfl rfl rfl rfl rfl rfl ⟨⟨rfl, rfl⟩, rfl⟩ (one_cons rfl (one_cons rfl (one_cons rfl (one_cons rfl (one_cons rfl one_nil))))) ?_
  intro w4 H
  refine O.assign (v := (.int .i64 t2)) rfl rfl rfl ?_
  refine WL.nil ?_
  refine W.ret ?_
  refine endsM_mk H hmk ?_
  intro w H _
  have hq : ((GTrial.mk ByteArray.empty 0 0 0 0), t2) = (r0, r1) := Option.some.inj (show some ((GTrial.mk ByteArray.empty 0 0 0 0), t2) = some (r0, r1) from hm)
  obtain ⟨he0, hq0⟩ := Prod.mk.inj hq; clear hq; subst he0
  subst hq0
  exact ends2 Try.results15 ⟨_, rfl, run_loadVar_agg ag28 rfl (H.cell 2 rfl)⟩ rfl ⟨_, rfl, H.base, rfl⟩
 ·
  refine W.cond_false (congrArg Value.bool hc1) ?_
  refine W.seq ?_
  refine W.region ?_
  refine O.move (v := v1) rfl rfl rfl ?_
  refine O.lenS Try.underlying22 (H.own 3 rfl) rfl rfl rfl ?_
  refine O.lss rfl rfl rfl rfl ?_
  refine O.assign (v := (.bool (decide (((t1.length : Nat) : Int) < 2)))) rfl rfl rfl ?_
  refine WL.nil ?_
  rcases ite_some hm with ⟨hc2, hm⟩ | ⟨hc2, hm⟩
  ·
   refine W.cond_true (congrArg Value.bool hc2) ?_
   refine W.seq ?_
   refine W.region ?_
   refine O.build (v := (.agg (Flat.cells (GTrial.mk ByteArray.empty 0 0 0 0)).toArray)) (fun w => bd28_  w) rfl rfl rfl ?_
   refine O.store 2 0 [(.string ByteArray.empty), (.int .i64 0), (.int .i64 0), (.int .i64 0), (.int .i64 0)] [(.string ByteArray.empty), (.int .i64 0), (.int .i64 0), (.int .i64 0), (.int .i64 0)] sz28 H rfl rfl rfl rfl rfl rfl ⟨⟨rfl, rfl⟩, rfl⟩ (one_cons rfl (one_cons rfl (one_cons rfl (one_cons rfl (one_cons rfl one_nil))))) ?_
   intro w5 H
   refine O.assign (v := (.int .i64 8)) rfl rfl rfl ?_
   refine WL.nil ?_
   refine W.ret ?_
   refine endsM_mk H hmk ?_
   intro w H _
   have hq : ((GTrial.mk ByteArray.empty 0 0 0 0), 8) = (r0, r1) := Option.some.inj (show some ((GTrial.mk ByteArray.empty 0 0 0 0), 8) = some (r0, r1) from hm)
   obtain ⟨he0, hq0⟩ := Prod.mk.inj hq; clear hq; subst he0
   subst hq0
   exact ends2 Try.results15 ⟨_, rfl, run_loadVar_agg ag28 rfl (H.cell 2 rfl)⟩ rfl ⟨_, rfl, H.base, rfl⟩
  ·
   refine W.cond_false (congrArg Value.bool hc2) ?_
   refine W.skip ?_
   refine W.seq ?_
   refine W.region ?_
   refine O.fieldAddr fd24_0 rfl rfl rfl ?_
   refine O.load sc9 rfl rfl rfl (H.cell 1 rfl 0 _ rfl) ?_
   refine O.build (v := (.agg (Flat.cells (GTrial.mk a0.Name 0 0 0 0)).toArray)) (fun w => bd28_0 _ w) rfl rfl rfl ?_
   refine O.alloc [(.string ByteArray.empty), (.int .i64 0), (.int .i64 0), (.int .i64 0), (.int .i64 0)] ze28 H rfl rfl rfl ?_
   intro b3 w6 H hb4
   refine O.store 4 0 [(.string a0.Name), (.int .i64 0), (.int .i64 0), (.int .i64 0), (.int .i64 0)] [(.string a0.Name), (.int .i64 0), (.int .i64 0), (.int .i64 0), (.int .i64 0)] sz28 H rfl rfl rfl rfl rfl rfl ⟨⟨rfl, rfl⟩, rfl⟩ (one_cons rfl (one_cons rfl (one_cons rfl (one_cons rfl (one_cons rfl one_nil))))) ?_
   intro w7 H
   refine WL.nil ?_
   refine W.seq ?_
   refine W.region ?_
   refine O.move (v := v1) rfl rfl rfl ?_
   refine O.call Try.call56 rfl rfl rfl (c_slices_Values_int _ _ (H.own 3 rfl)) ?_
   rintro _ w8 hb5 ⟨b4, rfl, hM1⟩
   have H := H.addAll hb5 hM1
   obtain ⟨xs1, hxs1, hm⟩ := bind_some hm
   obtain ⟨⟨t3, t4⟩, hy2, hm⟩ := bind_some hm
   refine O.call Try.call55 rfl rfl rfl (c_rate_ends_int (.func (.func 90) #[] #[(.pointer (some ⟨b4, 0, none⟩))]) xs1 (iterP_mk rfl Try.call90 fun _ _ hk => it_slices_Values_int_c1 _ _ t1 hxs1 fun w hw => ⟨cells_mono (H.cell 5 rfl) (hk w hw), (H.own 3 rfl).mono (hk w hw)⟩) hy2) ?_
   rintro _ w9 hb6 rfl
   have H := H.ext hb6
   refine O.move (v := (.tuple #[(.int .i64 t3), (.int .i64 t4)])) rfl rfl rfl ?_
   refine O.extract (v := (.int .i64 t3)) rfl rfl rfl rfl ?_
   refine O.extract (v := (.int .i64 t4)) rfl rfl rfl rfl ?_
   refine O.fieldAddr fd28_1 rfl rfl rfl ?_
   refine O.store 4 1 [(.int .i64 t3)] [(.string a0.Name), (.int .i64 t3), (.int .i64 0), (.int .i64 0), (.int .i64 0)] sz3 H rfl rfl rfl rfl rfl rfl ⟨⟨rfl, rfl⟩, rfl⟩ (one_cons rfl one_nil) ?_
   intro w10 H
   refine O.fieldAddr fd28_2 rfl rfl rfl ?_
   refine O.store 4 2 [(.int .i64 t4)] [(.string a0.Name), (.int .i64 t3), (.int .i64 t4), (.int .i64 0), (.int .i64 0)] sz3 H rfl rfl rfl rfl rfl rfl ⟨⟨rfl, rfl⟩, rfl⟩ (one_cons rfl one_nil) ?_
   intro w11 H
   refine WL.nil ?_
   refine W.seq ?_
   refine W.seq ?_
   refine W.region ?_
   refine O.move (v := v1) rfl rfl rfl ?_
   refine O.call Try.call57 rfl rfl rfl (c_rate_differences _ _ (H.own 3 rfl) _) ?_
   rintro _ w12 hb7 ⟨b5, b6, rfl, hM2⟩
   have H := H.addAll hb7 hM2
   refine WL.nil ?_
   obtain ⟨xs2, hxs2, hm⟩ := bind_some hm
   obtain ⟨s1, hm1, hm⟩ := bind_some hm
   refine W.via (fun f w => ∃ ms1 : List Nat, f 2 = (.pointer (some ⟨b2, 0, none⟩)) ∧ f 6 = (.pointer (some ⟨b3, 0, none⟩)) ∧ f.marks = ms1 ∧ Inv w0 w [marksI ms1, boxI b2 28 [(.string ByteArray.empty), (.int .i64 0), (.int .i64 0), (.int .i64 0), (.int .i64 0)], boxI b3 28 [(.string a0.Name), (.int .i64 t3), (.int .i64 t4), (.int .i64 s1), (.int .i64 0)]]) ?_ ?_
   ·
    refine W.block ?_
    have H := H.keep [0, 2, 3, 4, 6, 7] [marksI [], boxI b2 28 [(.string ByteArray.empty), (.int .i64 0), (.int .i64 0), (.int .i64 0), (.int .i64 0)], ownI (α := Int) v1 3 t1, boxI b3 28 [(.string a0.Name), (.int .i64 t3), (.int .i64 t4), (.int .i64 0), (.int .i64 0)], boxI b5 3 [(.int .i64 1)], boxI b6 22 [v1]] rfl (by decide)
    refine W.rangeFuncL (α := Int) (σ := Int) (X := Int) (xs := xs2) (rep := (repF (α := Int))) hm1 (fun s L => ∃ z2 : Int, z2 = s ∧ L = [boxI b2 28 [(.string ByteArray.empty), (.int .i64 0), (.int .i64 0), (.int .i64 0), (.int .i64 0)], ownI (α := Int) v1 3 t1, boxI b3 28 [(.string a0.Name), (.int .i64 t3), (.int .i64 t4), (.int .i64 z2), (.int .i64 0)], boxI b5 3 [(.int .i64 1)], boxI b6 22 [v1]]) (fun y j L => match j with | some j => j = 1 ∧ (False) | none => False) rfl Try.call91 rfl (fun _ _ _ h => by rw [h]; rfl) (fun Kp W hs hk => it_rate_differences_c1 _ 1 _ _ t1 hxs2 fun w1 hw => by obtain ⟨_, _, _, _, ⟨_, _, rfl⟩, H⟩ := hk w1 hw; exact ⟨H.cell 6 rfl, H.cell 7 rfl, (H.own 4 rfl)⟩) H ⟨_, rfl, rfl⟩ ?_ ?_ ?_ ?_
    ·
     rintro _ rs lp lp2 iz x1 _ st _ w _ ⟨z2, rfl, rfl⟩ rfl hm2 H
     change W _ _ _ _ _ _ _ (upd _ 36 (.int .i64 x1)) w
     refine W.region ?_
     refine O.assign (v := (.int .i64 x1)) rfl rfl rfl ?_
     refine WL.nil ?_
     refine ⟨_, H, fun w hsl H => ?_⟩
     refine W.block ?_
     refine W.region ?_
     refine O.fieldAddr fd28_3 rfl rfl rfl ?_
     refine O.load sc3 rfl rfl rfl (H.cell 5 rfl 3 _ rfl) ?_
     refine O.move (v := (.int .i64 x1)) rfl rfl rfl ?_
     refine O.move (v := (.int .i64 x1)) rfl rfl rfl ?_
     refine O.negW rfl rfl rfl ?_
     refine O.max3 rfl rfl rfl rfl rfl ?_
     refine O.fieldAddr fd28_3 rfl rfl rfl ?_
     refine O.store 5 3 [(.int .i64 (max (max z2 x1) (negW x1)))] [(.string a0.Name), (.int .i64 t3), (.int .i64 t4), (.int .i64 (max (max z2 x1) (negW x1))), (.int .i64 0)] sz3 H rfl rfl rfl rfl rfl rfl ⟨⟨rfl, rfl⟩, rfl⟩ (one_cons rfl one_nil) ?_
     intro w13 H
     refine WL.nil ?_
     obtain rfl := Option.some.inj hm2
     exact ⟨_, _, rfl, ⟨_, rfl, rfl⟩, H⟩
    ·
     rintro D1 _ _ w ⟨z2, rfl, rfl⟩ hfin H
     have hq : z2 = s1 := hfin
     subst hq
     have H := H.keep [0, 1, 3] [marksI (D1 :: []), boxI b2 28 [(.string ByteArray.empty), (.int .i64 0), (.int .i64 0), (.int .i64 0), (.int .i64 0)], boxI b3 28 [(.string a0.Name), (.int .i64 t3), (.int .i64 t4), (.int .i64 z2), (.int .i64 0)]] rfl (by decide)
     have hmk := congrArg (D1 :: ·) hmk
     exact ⟨_, rfl, rfl, hmk, H⟩
    ·
     rintro _ _ _ _ ⟨_, h⟩; exact h.elim
    ·
     rintro _ _ _ h; exact h.elim
   ·
    rintro f w ⟨ms1, hf2, hf6, hmk, H⟩
    obtain ⟨u1, rfl⟩ := up2 hf2 hf6
    refine W.seq ?_
    refine W.region ?_
    refine O.fieldAddr fd28_2 rfl rfl rfl ?_
    refine O.load sc3 rfl rfl rfl (H.cell 2 rfl 2 _ rfl) ?_
    refine O.fieldAddr fd28_1 rfl rfl rfl ?_
    refine O.load sc3 rfl rfl rfl (H.cell 2 rfl 1 _ rfl) ?_
    obtain ⟨t5, ht5, hm⟩ := bind_some hm
    refine O.sub rfl rfl rfl rfl ht5 ?_
    refine O.fieldAddr fd28_3 rfl rfl rfl ?_
    refine O.load sc3 rfl rfl rfl (H.cell 2 rfl 3 _ rfl) ?_
    obtain ⟨t6, ht6, hm⟩ := bind_some hm
    refine O.mul rfl rfl rfl rfl ht6 ?_
    obtain ⟨t7, ht7, hm⟩ := bind_some hm
    refine O.add rfl rfl rfl rfl ht7 ?_
    refine O.fieldAddr fd28_4 rfl rfl rfl ?_
    refine O.store 2 4 [(.int .i64 t7)] [(.string a0.Name), (.int .i64 t3), (.int .i64 t4), (.int .i64 s1), (.int .i64 t7)] sz3 H rfl rfl rfl rfl rfl rfl ⟨⟨rfl, rfl⟩, rfl⟩ (one_cons rfl one_nil) ?_
    intro w14 H
    refine WL.nil ?_
    refine W.seq ?_
    refine W.region ?_
    refine O.loadA [(.string a0.Name), (.int .i64 t3), (.int .i64 t4), (.int .i64 s1), (.int .i64 t7)] ag28 rfl rfl rfl rfl (H.cell 2 rfl) ?_
    refine O.store 1 0 [(.string a0.Name), (.int .i64 t3), (.int .i64 t4), (.int .i64 s1), (.int .i64 t7)] [(.string a0.Name), (.int .i64 t3), (.int .i64 t4), (.int .i64 s1), (.int .i64 t7)] sz28 H rfl rfl rfl rfl rfl rfl ⟨⟨rfl, rfl⟩, rfl⟩ (one_cons rfl (one_cons rfl (one_cons rfl (one_cons rfl (one_cons rfl one_nil))))) ?_
    intro w15 H
    refine O.assign (v := (.int .i64 0)) rfl rfl rfl ?_
    refine WL.nil ?_
    refine W.ret ?_
    refine endsM_mk H hmk ?_
    intro w H _
    have hq : ((GTrial.mk a0.Name t3 t4 s1 t7), 0) = (r0, r1) := Option.some.inj (show some ((GTrial.mk a0.Name t3 t4 s1 t7), 0) = some (r0, r1) from hm)
    obtain ⟨he0, hq0⟩ := Prod.mk.inj hq; clear hq; subst he0
    subst hq0
    exact ends2 Try.results15 ⟨_, rfl, run_loadVar_agg ag28 rfl (H.cell 1 rfl)⟩ rfl ⟨_, rfl, H.base, rfl⟩

theorem c_rate_Arc {w0 : World} (a0 : Int) {r0 : Int} {r1 : Int} {r2 : Int} (hm : rate_Arc a0 = some (r0, r1, r2)) :
  Calls Try.prog 40 #[(.int .i64 a0)] w0 (Ret w0 fun _ v => v = .tuple #[(.int .i64 r0), (.int .i64 r1), (.int .i64 r2)]) := by
 unfold rate_Arc at hm
 refine calls_of_W Try.func40 rfl Try.ntmps40 (Nat.le_of_ble_eq_true rfl) ?_
 have H := Inv.start (w := w0)
 refine W.seq ?_
 refine W.region ?_
 refine O.assign (v := (.int .i64 0)) rfl rfl rfl ?_
 refine O.assign (v := (.int .i64 0)) rfl rfl rfl ?_
 refine O.assign (v := (.int .i64 0)) rfl rfl rfl ?_
 refine WL.nil ?_
 refine W.seq ?_
 refine W.seq ?_
 refine W.region ?_
 refine O.move (v := (.int .i64 a0)) rfl rfl rfl ?_
 obtain ⟨t1, hy1, hm⟩ := bind_some hm
 refine O.call Try.call59 rfl rfl rfl (c_rate_within _ _ _ hy1) ?_
 rintro _ w1 hb1 rfl
 have H := H.ext hb1
 refine O.not rfl rfl rfl ?_
 refine WL.nil ?_
 rcases ite_some hm with ⟨hc1, hm⟩ | ⟨hc1, hm⟩
 ·
  refine W.cond_true (congrArg Value.bool hc1) ?_
  refine W.seq ?_
  refine W.region ?_
  refine O.assign (v := (.int .i64 0)) rfl rfl rfl ?_
  refine O.assign (v := (.int .i64 0)) rfl rfl rfl ?_
  refine O.assign (v := (.int .i64 7)) rfl rfl rfl ?_
  refine WL.nil ?_
  refine W.ret ?_
  have hq : (0, 0, 7) = (r0, r1, r2) := Option.some.inj (show some (0, 0, 7) = some (r0, r1, r2) from hm)
  obtain ⟨he0, hq0⟩ := Prod.mk.inj hq; clear hq; subst he0
  obtain ⟨he1, hq1⟩ := Prod.mk.inj hq0; clear hq0; subst he1
  subst hq1
  exact ends3 Try.results40 rfl rfl rfl ⟨_, rfl, H.base, rfl⟩
 ·
  refine W.cond_false (congrArg Value.bool hc1) ?_
  refine W.skip ?_
  refine W.seq ?_
  refine W.region ?_
  refine O.move (v := (.int .i64 a0)) rfl rfl rfl ?_
  refine O.move (v := (.int .i64 a0)) rfl rfl rfl ?_
  refine O.negW rfl rfl rfl ?_
  refine O.max2 rfl rfl rfl rfl ?_
  obtain ⟨t2, ht2, hm⟩ := bind_some hm
  refine O.mul rfl rfl rfl rfl ht2 ?_
  refine O.assign (v := (.int .i64 t2)) rfl rfl rfl ?_
  refine WL.nil ?_
  refine W.seq ?_
  refine W.region ?_
  refine O.move (v := (.int .i64 t2)) rfl rfl rfl ?_
  obtain ⟨t3, ht3, hm⟩ := bind_some hm
  refine O.quo rfl rfl rfl rfl ht3 ?_
  refine O.move (v := (.int .i64 t2)) rfl rfl rfl ?_
  obtain ⟨t4, ht4, hm⟩ := bind_some hm
  refine O.rem rfl rfl rfl rfl ht4 ?_
  refine O.assign (v := (.int .i64 t3)) rfl rfl rfl ?_
  refine O.assign (v := (.int .i64 t4)) rfl rfl rfl ?_
  refine O.assign (v := (.int .i64 0)) rfl rfl rfl ?_
  refine WL.nil ?_
  refine W.ret ?_
  have hq : (t3, t4, 0) = (r0, r1, r2) := Option.some.inj (show some (t3, t4, 0) = some (r0, r1, r2) from hm)
  obtain ⟨he0, hq0⟩ := Prod.mk.inj hq; clear hq; subst he0
  obtain ⟨he1, hq1⟩ := Prod.mk.inj hq0; clear hq0; subst he1
  subst hq1
  exact ends3 Try.results40 rfl rfl rfl ⟨_, rfl, H.base, rfl⟩

theorem c_noongunlaw06_awake {w0 : World}  {r0 : Bool} (hm : noongunlaw06_awake  = some r0) :
  Calls Try.prog 14 #[] w0 (Ret w0 fun _ v => v = (.bool r0)) := by
 unfold noongunlaw06_awake at hm
 refine calls_of_W Try.func14 rfl Try.ntmps14 (Nat.le_of_ble_eq_true rfl) ?_
 have H := Inv.start (w := w0)
 refine W.seq ?_
 refine W.region ?_
 refine O.assign (v := (.bool false)) rfl rfl rfl ?_
 refine WL.nil ?_
 refine W.seq ?_
 refine W.region ?_
 refine O.buildSlice (α := Int) [(.int .i64 0), (.int .i64 7), (.int .i64 14), (.int .i64 21), (.int .i64 28), (.int .i64 35), (.int .i64 42), (.int .i64 49), (.int .i64 57), (.int .i64 65), (.int .i64 73), (.int .i64 81), (.int .i64 89), (.int .i64 97), (.int .i64 105)] [0, 7, 14, 21, 28, 35, 42, 49, 57, 65, 73, 81, 89, 97, 105] Try.underlying22 el3 H rfl rfl rfl rfl rfl rfl rfl ?_
 intro v1 w1 H hb1
 obtain ⟨ad1, cap1, hvad1, _⟩ := (H.own 0 rfl).shape
 refine O.build (v := (.agg #[(.string (bs [97])), v1])) (fun w => by rw [hvad1]; exact bd24_0_1 _ _ _ _ w) rfl rfl rfl ?_
 obtain ⟨⟨t1, t2⟩, hy1, hm⟩ := bind_some hm
 refine O.call Try.call15 rfl rfl rfl (c_rate_Trial _ (GBox.mk (bs [97]) ([0, 7, 14, 21, 28, 35, 42, 49, 57, 65, 73, 81, 89, 97, 105] : List Int)) (H.own 0 rfl) hy1) ?_
 rintro _ w2 hb2 rfl
 have H := H.ext hb2
 refine O.move (v := (.tuple #[(.agg (Flat.cells t1).toArray), (.int .i64 t2)])) rfl rfl rfl ?_
 refine O.extract (v := (.agg (Flat.cells t1).toArray)) rfl rfl rfl rfl ?_
 refine O.extract (v := (.int .i64 t2)) rfl rfl rfl rfl ?_
 refine O.alloc [(.string ByteArray.empty), (.int .i64 0), (.int .i64 0), (.int .i64 0), (.int .i64 0)] ze28 H rfl rfl rfl ?_
 intro b1 w3 H hb3
 refine O.store 1 0 [(.string t1.Name), (.int .i64 t1.Least), (.int .i64 t1.Greatest), (.int .i64 t1.Leap), (.int .i64 t1.Number)] [(.string t1.Name), (.int .i64 t1.Least), (.int .i64 t1.Greatest), (.int .i64 t1.Leap), (.int .i64 t1.Number)] sz28 H rfl rfl rfl rfl rfl rfl ⟨⟨rfl, rfl⟩, rfl⟩ (one_cons rfl (one_cons rfl (one_cons rfl (one_cons rfl (one_cons rfl one_nil))))) ?_
 intro w4 H
 refine O.assign (v := (.int .i64 t2)) rfl rfl rfl ?_
 refine WL.nil ?_
 refine W.seq ?_
 refine W.region ?_
 obtain ⟨⟨t3, t4, t5⟩, hy2, hm⟩ := bind_some hm
 refine O.call Try.call40 rfl rfl rfl (c_rate_Arc _ hy2) ?_
 rintro _ w5 hb4 rfl
 have H := H.ext hb4
 refine O.move (v := (.tuple #[(.int .i64 t3), (.int .i64 t4), (.int .i64 t5)])) rfl rfl rfl ?_
 refine O.extract (v := (.int .i64 t3)) rfl rfl rfl rfl ?_
 refine O.extract (v := (.int .i64 t4)) rfl rfl rfl rfl ?_
 refine O.extract (v := (.int .i64 t5)) rfl rfl rfl rfl ?_
 refine O.assign (v := (.int .i64 t3)) rfl rfl rfl ?_
 refine O.assign (v := (.int .i64 t4)) rfl rfl rfl ?_
 refine O.assign (v := (.int .i64 t5)) rfl rfl rfl ?_
 refine WL.nil ?_
 refine W.seq ?_
 refine W.region ?_
 refine O.move (v := (.int .i64 t2)) rfl rfl rfl ?_
 refine O.eql rfl rfl rfl rfl ?_
 refine O.move (v := (.bool (t2 == 0))) rfl rfl rfl ?_
 refine WL.cut 4 (fun f w => f 3 = (.int .i64 t3) ∧ f 5 = (.int .i64 t5) ∧ f 23 = .bool ((t2 == 0) && (t1 == (GTrial.mk (bs [97]) 49 56 7 21))) ∧ Inv w0 w [ownI (α := Int) v1 3 ([0, 7, 14, 21, 28, 35, 42, 49, 57, 65, 73, 81, 89, 97, 105] : List Int), boxI b1 28 [(.string t1.Name), (.int .i64 t1.Least), (.int .i64 t1.Greatest), (.int .i64 t1.Leap), (.int .i64 t1.Number)]]) ?_ ?_
 ·
  rcases bool_ft (t2 == 0) with hc1 | hc1
  ·
   refine WL.reset (i := 19) (v := .bool false) (congrArg Value.bool hc1) ?_
   refine O.skip rfl rfl ?_
   refine O.skip rfl rfl ?_
   refine O.skip rfl rfl ?_
   refine O.pick_false (v := (.bool false)) rfl rfl rfl rfl ?_
   exact WL.nil ⟨rfl, rfl, congrArg Value.bool (and_f hc1), H⟩
  ·
   refine WL.reset (i := 19) (v := .bool true) (congrArg Value.bool hc1) ?_
   refine O.loadA [(.string t1.Name), (.int .i64 t1.Least), (.int .i64 t1.Greatest), (.int .i64 t1.Leap), (.int .i64 t1.Number)] ag28 rfl rfl rfl rfl (H.cell 1 rfl) ?_
   refine O.build (v := (.agg (Flat.cells (GTrial.mk (bs [97]) 49 56 7 21)).toArray)) (fun w => bd28_0_1_2_3_4 _ _ _ _ _ w) rfl rfl rfl ?_
   refine O.eqlSt t1 (GTrial.mk (bs [97]) 49 56 7 21) eq28 rfl rfl rfl rfl ?_
   refine O.pick_true (v := (.bool (t1 == (GTrial.mk (bs [97]) 49 56 7 21)))) rfl rfl rfl rfl ?_
   exact WL.nil ⟨rfl, rfl, congrArg Value.bool (and_t hc1), H⟩
 ·
  rintro f w ⟨hf3, hf5, hf23, H⟩
  obtain ⟨u1, rfl⟩ := up3 hf3 hf5 hf23
  refine O.move (v := (.bool ((t2 == 0) && (t1 == (GTrial.mk (bs [97]) 49 56 7 21))))) rfl rfl rfl ?_
  refine WL.cut 3 (fun f w => f 3 = (.int .i64 t3) ∧ f 27 = .bool (((t2 == 0) && (t1 == (GTrial.mk (bs [97]) 49 56 7 21))) && (t5 == 0)) ∧ Inv w0 w [ownI (α := Int) v1 3 ([0, 7, 14, 21, 28, 35, 42, 49, 57, 65, 73, 81, 89, 97, 105] : List Int), boxI b1 28 [(.string t1.Name), (.int .i64 t1.Least), (.int .i64 t1.Greatest), (.int .i64 t1.Leap), (.int .i64 t1.Number)]]) ?_ ?_
  ·
   rcases bool_ft ((t2 == 0) && (t1 == (GTrial.mk (bs [97]) 49 56 7 21))) with hc2 | hc2
   ·
    refine WL.reset (i := 24) (v := .bool false) (congrArg Value.bool hc2) ?_
    refine O.skip rfl rfl ?_
    refine O.skip rfl rfl ?_
    refine O.pick_false (v := (.bool false)) rfl rfl rfl rfl ?_
    exact WL.nil ⟨rfl, congrArg Value.bool (and_f hc2), H⟩
   ·
    refine WL.reset (i := 24) (v := .bool true) (congrArg Value.bool hc2) ?_
    refine O.move (v := (.int .i64 t5)) rfl rfl rfl ?_
    refine O.eql rfl rfl rfl rfl ?_
    refine O.pick_true (v := (.bool (t5 == 0))) rfl rfl rfl rfl ?_
    exact WL.nil ⟨rfl, congrArg Value.bool (and_t hc2), H⟩
  ·
   rintro f w ⟨hf3, hf27, H⟩
   obtain ⟨u2, rfl⟩ := up2 hf3 hf27
   refine O.move (v := (.bool (((t2 == 0) && (t1 == (GTrial.mk (bs [97]) 49 56 7 21))) && (t5 == 0)))) rfl rfl rfl ?_
   refine WL.cut 3 (fun f w => f 31 = .bool ((((t2 == 0) && (t1 == (GTrial.mk (bs [97]) 49 56 7 21))) && (t5 == 0)) && (t3 == 60)) ∧ Inv w0 w [ownI (α := Int) v1 3 ([0, 7, 14, 21, 28, 35, 42, 49, 57, 65, 73, 81, 89, 97, 105] : List Int), boxI b1 28 [(.string t1.Name), (.int .i64 t1.Least), (.int .i64 t1.Greatest), (.int .i64 t1.Leap), (.int .i64 t1.Number)]]) ?_ ?_
   ·
    rcases bool_ft (((t2 == 0) && (t1 == (GTrial.mk (bs [97]) 49 56 7 21))) && (t5 == 0)) with hc3 | hc3
    ·
     refine WL.reset (i := 28) (v := .bool false) (congrArg Value.bool hc3) ?_
     refine O.skip rfl rfl ?_
     refine O.skip rfl rfl ?_
     refine O.pick_false (v := (.bool false)) rfl rfl rfl rfl ?_
     exact WL.nil ⟨congrArg Value.bool (and_f hc3), H⟩
    ·
     refine WL.reset (i := 28) (v := .bool true) (congrArg Value.bool hc3) ?_
     refine O.move (v := (.int .i64 t3)) rfl rfl rfl ?_
     refine O.eql rfl rfl rfl rfl ?_
     refine O.pick_true (v := (.bool (t3 == 60))) rfl rfl rfl rfl ?_
     exact WL.nil ⟨congrArg Value.bool (and_t hc3), H⟩
   ·
    rintro f w ⟨hf31, H⟩
    obtain ⟨u3, rfl⟩ := up1 hf31
    refine O.assign (v := (.bool ((((t2 == 0) && (t1 == (GTrial.mk (bs [97]) 49 56 7 21))) && (t5 == 0)) && (t3 == 60)))) rfl rfl rfl ?_
    refine WL.nil ?_
    refine W.ret ?_
    have hq : ((((t2 == 0) && (t1 == (GTrial.mk (bs [97]) 49 56 7 21))) && (t5 == 0)) && (t3 == 60)) = r0 := Option.some.inj (show some ((((t2 == 0) && (t1 == (GTrial.mk (bs [97]) 49 56 7 21))) && (t5 == 0)) && (t3 == 60)) = some r0 from hm)
    subst hq
    exact ends1 Try.results14 rfl ⟨_, rfl, H.base, rfl⟩

set_option maxRecDepth 20000 in
theorem c_rate_ValidBoxes {w0 : World} (va0 : Value) (a0 : (List GBox)) (ha0 : SliceR w0 va0 a0) {r0 : Bool} (hm : rate_ValidBoxes a0 = some r0) :
  Calls Try.prog 46 #[va0] w0 (Ret w0 fun _ v => v = (.bool r0)) := by
 unfold rate_ValidBoxes at hm
 refine calls_of_W Try.func46 rfl Try.ntmps46 (Nat.le_of_ble_eq_true rfl) ?_
 have H := Inv.start (w := w0)
 refine W.seq ?_
 refine W.region ?_
 refine O.assign (v := (.bool false)) rfl rfl rfl ?_
 refine WL.nil ?_
 refine W.seq ?_
 refine W.region ?_
 refine O.makeMap (α := ByteArray) (β := Bool) H rfl rfl ?_
 intro m1 w1 H hb1
 refine O.assign (v := (.map (some m1))) rfl rfl rfl ?_
 refine WL.nil ?_
 refine W.seq ?_
 refine W.seq ?_
 refine W.region ?_
 refine O.move (v := va0) rfl rfl rfl ?_
 refine O.lenS Try.underlying55 (H.arg ha0) rfl rfl rfl ?_
 refine O.move (v := (.int .i64 0)) rfl rfl rfl ?_
 refine WL.nil ?_
 obtain ⟨o1, hm1, hm⟩ := bind_some hm
 refine W.via (fun f w => o1 = .next () ∧ f 0 = va0 ∧ Inv w0 w []) ?_ ?_
 ·
  refine W.block ?_
  refine W.rangeL (i := 0) hm1 (fun rem ik1 s f w => ∃ z2 : (List (ByteArray × Bool)), z2 = s ∧ a0.drop ik1 = rem ∧ f 9 = .int .i64 (ik1 : Int) ∧ f 8 = (.int .i64 ((a0.length : Nat) : Int)) ∧ f 0 = va0 ∧ f 3 = (.map (some m1)) ∧ f 7 = va0 ∧ Inv w0 w [mapI (K := ByteArray) (V := Bool) m1 z2]) ?_ ?_ ?_
  ·
   exact ⟨_, rfl, List.drop_zero, rfl, rfl, rfl, rfl, rfl, H⟩
  ·
   rintro yk1 xs ik1 _ st f w ⟨z2, rfl, hdropk1, hf9, hf8, hf0, hf3, hf7, H⟩ hm2
   have hltk1 := drop_lt hdropk1; have hixk1 := drop_idx hdropk1
   obtain ⟨u1, rfl⟩ := up5 hf9 hf8 hf0 hf3 hf7
   have hinck1 := addI_lt hltk1 (H.arg ha0).len_le
   refine W.seq ?_
   refine W.region ?_
   refine O.lss rfl rfl rfl rfl ?_
   refine WL.nil ?_
   refine W.seq ?_
   refine W.cond_true (congrArg Value.bool (decide_eq_true hltk1)) ?_
   refine W.skip ?_
   refine W.seq ?_
   refine W.block ?_
   refine W.seq ?_
   refine W.region ?_
   obtain ⟨p1, hp1, hrp1⟩ := fix_indexAddr Try.underlying55 sz24 ha0 hixk1
   obtain ⟨v1, hs1, hc1⟩ := GBox_open hp1
   refine hrp1 rfl rfl rfl rfl ?_
   refine O.loadA [(.string yk1.Name), v1] ag24 rfl rfl rfl rfl ((cells_mono hc1 H.base)) ?_
   refine O.alloc [(.string ByteArray.empty), (.slice none 0 0)] ze24 H rfl rfl rfl ?_
   intro b1 w2 H hb2
   have H := H.addNil (α := Int) (E := 3)
   refine O.store 1 0 [(.string yk1.Name), v1] [(.string yk1.Name), v1] sz24 H rfl rfl rfl rfl rfl rfl ⟨⟨rfl, rfl⟩, rfl⟩ (one_cons rfl (one_cons (SliceR.one (H.arg hs1)) one_nil)) ?_
   intro w3 H
   refine WL.nil ?_
   refine W.seq ?_
   refine W.seq ?_
   refine W.region ?_
   refine O.loadA [(.string yk1.Name), v1] ag24 rfl rfl rfl rfl (H.cell 1 rfl) ?_
   obtain ⟨t1, hy1, hm2⟩ := bind_some hm2
   refine O.call Try.call16 rfl rfl rfl (c_rate_ValidBox _ (GBox.mk yk1.Name yk1.Errors) (H.arg hs1) hy1) ?_
   rintro _ w4 hb3 rfl
   have H := H.ext hb3
   refine O.not rfl rfl rfl ?_
   refine O.move (v := (.bool (!t1))) rfl rfl rfl ?_
   refine WL.cut 5 (fun f w => f 0 = va0 ∧ f 3 = (.map (some m1)) ∧ f 5 = (.pointer (some ⟨b1, 0, none⟩)) ∧ f 7 = va0 ∧ f 8 = (.int .i64 ((a0.length : Nat) : Int)) ∧ f 9 = (.int .i64 (ik1 : Int)) ∧ f 21 = .bool ((!t1) || ((mget z2 yk1.Name).getD false)) ∧ Inv w0 w [mapI (K := ByteArray) (V := Bool) m1 z2, boxI b1 24 [(.string yk1.Name), v1], ownI (α := Int) (.slice none 0 0) 3 ([] : List Int)]) ?_ ?_
   ·
    rcases bool_ft (!t1) with hc2 | hc2
    ·
     refine WL.reset (i := 16) (v := .bool false) (congrArg Value.bool hc2) ?_
     refine O.move (v := (.map (some m1))) rfl rfl rfl ?_
     refine O.fieldAddr fd24_0 rfl rfl rfl ?_
     refine O.load sc9 rfl rfl rfl (H.cell 1 rfl 0 _ rfl) ?_
     refine O.lookup1 (z := false) yk1.Name Try.underlying102 key9 ze4 (H.map 0 rfl) rfl rfl rfl rfl ?_
     refine O.pick_false (v := (.bool ((mget z2 yk1.Name).getD false))) rfl rfl rfl rfl ?_
     exact WL.nil ⟨rfl, rfl, rfl, rfl, rfl, rfl, congrArg Value.bool (or_f hc2), H⟩
    ·
     refine WL.reset (i := 16) (v := .bool true) (congrArg Value.bool hc2) ?_
     refine O.skip rfl rfl ?_
     refine O.skip rfl rfl ?_
     refine O.skip rfl rfl ?_
     refine O.skip rfl rfl ?_
     refine O.pick_true (v := (.bool true)) rfl rfl rfl rfl ?_
     exact WL.nil ⟨rfl, rfl, rfl, rfl, rfl, rfl, congrArg Value.bool (or_t hc2), H⟩
   ·
    rintro f w ⟨hf0, hf3, hf5, hf7, hf8, hf9, hf21, H⟩
    obtain ⟨u2, rfl⟩ := up7 hf0 hf3 hf5 hf7 hf8 hf9 hf21
    refine WL.nil ?_
    rcases ite_some hm2 with ⟨hc3, hm2⟩ | ⟨hc3, hm2⟩
    ·
     refine W.cond_true (congrArg Value.bool hc3) ?_
     refine W.seq ?_
     refine W.region ?_
     refine O.assign (v := (.bool false)) rfl rfl rfl ?_
     refine WL.nil ?_
     refine W.ret ?_
     obtain rfl := Option.some.inj hm2
     refine ⟨_, rfl, ?_⟩
     rintro rfl
     have hq : false = r0 := Option.some.inj (show some false = some r0 from hm)
     subst hq
     exact ends1 Try.results46 rfl ⟨_, rfl, H.base, rfl⟩
    ·
     refine W.cond_false (congrArg Value.bool hc3) ?_
     refine W.skip ?_
     refine W.region ?_
     refine O.move (v := (.map (some m1))) rfl rfl rfl ?_
     refine O.fieldAddr fd24_0 rfl rfl rfl ?_
     refine O.load sc9 rfl rfl rfl (H.cell 1 rfl 0 _ rfl) ?_
     refine O.mapUpdate 0 yk1.Name true Try.underlying102 key9 H rfl rfl rfl rfl rfl ?_
     intro w5 H
     refine WL.nil ?_
     refine W.region ?_
     refine O.add rfl rfl rfl rfl hinck1 ?_
     refine O.move (v := .int .i64 ((ik1 : Int) + 1)) rfl rfl rfl ?_
     refine WL.nil ?_
     have H := H.keep [0] [mapI (K := ByteArray) (V := Bool) m1 (mput z2 yk1.Name true)] rfl (by decide)
     obtain rfl := Option.some.inj hm2
     exact ⟨_, rfl, _, rfl, drop_next hdropk1, rfl, rfl, rfl, rfl, rfl, H⟩
  ·
   rintro ik1 _ f w ⟨z2, rfl, hdropk1, hf9, hf8, hf0, hf3, hf7, H⟩ hfin
   have hltk1 := drop_end hdropk1
   obtain ⟨u3, rfl⟩ := up5 hf9 hf8 hf0 hf3 hf7
   refine W.seq ?_
   refine W.region ?_
   refine O.lss rfl rfl rfl rfl ?_
   refine WL.nil ?_
   refine W.seq ?_
   refine W.cond_false (congrArg Value.bool (decide_eq_false hltk1)) ?_
   refine W.exit ?_
   obtain rfl : Ctl.next () = o1 := hfin
   have H := H.keep [] [] rfl (by decide)
   refine xT rfl ?_
   exact ⟨rfl, rfl, H⟩
 ·
  rintro f w ⟨rfl, hf0, H⟩
  obtain ⟨u4, rfl⟩ := up1 hf0
  refine W.seq ?_
  refine W.region ?_
  refine O.move (v := va0) rfl rfl rfl ?_
  refine O.lenS Try.underlying55 (H.arg ha0) rfl rfl rfl ?_
  obtain ⟨t2, hy2, hm⟩ := bind_some hm
  refine O.call Try.call59 rfl rfl rfl (c_rate_within _ _ _ hy2) ?_
  rintro _ w6 hb4 rfl
  have H := H.ext hb4
  refine O.assign (v := (.bool t2)) rfl rfl rfl ?_
  refine WL.nil ?_
  refine W.ret ?_
  have hq : t2 = r0 := Option.some.inj (show some t2 = some r0 from hm)
  subst hq
  exact ends1 Try.results46 rfl ⟨_, rfl, H.base, rfl⟩

set_option maxRecDepth 20000 in
theorem c_noongunref06_Name {w0 : World} (a0 : ByteArray) {r0 : Bool} (hm : noongunref06_Name a0 = some r0) :
  Calls Try.prog 70 #[(.string a0)] w0 (Ret w0 fun _ v => v = (.bool r0)) := by
 unfold noongunref06_Name at hm
 refine calls_of_W Try.func70 rfl Try.ntmps70 (Nat.le_of_ble_eq_true rfl) ?_
 have H := Inv.start (w := w0)
 refine W.seq ?_
 refine W.region ?_
 refine O.assign (v := (.bool false)) rfl rfl rfl ?_
 refine WL.nil ?_
 refine W.seq ?_
 refine W.seq ?_
 refine W.region ?_
 refine O.move (v := (.string a0)) rfl rfl rfl ?_
 refine O.lenStr Try.underlying9 rfl rfl rfl ?_
 refine O.move (v := (.int .i64 0)) rfl rfl rfl ?_
 refine WL.nil ?_
 obtain ⟨o1, hm1, hm⟩ := bind_some hm
 refine W.via (fun f w => o1 = .next () ∧ f 0 = (.string a0) ∧ Inv w0 w []) ?_ ?_
 ·
  refine W.block ?_
  obtain ⟨hbdik1, hm1⟩ := chk_some hm1
  refine W.rangeN (i := 0) hm1 (fun rem ik1 s f w => () = s ∧ (ik1 : Int) + rem = max 0 ((a0.size : Nat) : Int) ∧ f 7 = .int .i64 (ik1 : Int) ∧ f 6 = (.int .i64 ((a0.size : Nat) : Int)) ∧ f 0 = (.string a0) ∧ Inv w0 w []) ?_ ?_ ?_
  ·
   exact ⟨rfl, rangeN_start, rfl, rfl, rfl, H⟩
  ·
   rintro k ik1 _ st f w ⟨rfl, hdropk1, hf7, hf6, hf0, H⟩ hm2
   have hltk1 := rangeN_lt hdropk1
   obtain ⟨u1, rfl⟩ := up3 hf7 hf6 hf0
   have hinck1 := addI_lt hltk1 (inI_iff.1 hbdik1).2
   refine W.seq ?_
   refine W.region ?_
   refine O.lss rfl rfl rfl rfl ?_
   refine WL.nil ?_
   refine W.seq ?_
   refine W.cond_true (congrArg Value.bool (decide_eq_true hltk1)) ?_
   refine W.skip ?_
   refine W.seq ?_
   refine W.block ?_
   refine W.seq ?_
   refine W.region ?_
   refine O.move (v := (.int .i64 (ik1 : Int))) rfl rfl rfl ?_
   refine O.assign (v := (.int .i64 (ik1 : Int))) rfl rfl rfl ?_
   refine WL.nil ?_
   refine W.seq ?_
   refine W.region ?_
   refine O.move (v := (.string a0)) rfl rfl rfl ?_
   refine O.move (v := (.int .i64 (ik1 : Int))) rfl rfl rfl ?_
   obtain ⟨x1, hx1, hm2⟩ := bind_some hm2
   refine O.indexStr Try.underlying9 hx1 rfl rfl rfl rfl ?_
   refine O.assign (v := (.int .u8 (x1.toNat : Int))) rfl rfl rfl ?_
   refine WL.nil ?_
   refine W.seq ?_
   refine W.region ?_
   refine O.move (v := (.int .u8 (x1.toNat : Int))) rfl rfl rfl ?_
   refine O.lss rfl rfl rfl rfl ?_
   refine O.move (v := (.bool (decide ((x1.toNat : Int) < 97)))) rfl rfl rfl ?_
   refine WL.cut 3 (fun f w => f 0 = (.string a0) ∧ f 3 = (.int .i64 (ik1 : Int)) ∧ f 4 = (.int .u8 (x1.toNat : Int)) ∧ f 6 = (.int .i64 ((a0.size : Nat) : Int)) ∧ f 7 = (.int .i64 (ik1 : Int)) ∧ f 18 = .bool ((decide ((x1.toNat : Int) < 97)) || (decide (122 < (x1.toNat : Int)))) ∧ Inv w0 w []) ?_ ?_
   ·
    rcases bool_ft (decide ((x1.toNat : Int) < 97)) with hc1 | hc1
    ·
     refine WL.reset (i := 15) (v := .bool false) (congrArg Value.bool hc1) ?_
     refine O.move (v := (.int .u8 (x1.toNat : Int))) rfl rfl rfl ?_
     refine O.gtr rfl rfl rfl rfl ?_
     refine O.pick_false (v := (.bool (decide (122 < (x1.toNat : Int))))) rfl rfl rfl rfl ?_
     exact WL.nil ⟨rfl, rfl, rfl, rfl, rfl, congrArg Value.bool (or_f hc1), H⟩
    ·
     refine WL.reset (i := 15) (v := .bool true) (congrArg Value.bool hc1) ?_
     refine O.skip rfl rfl ?_
     refine O.skip rfl rfl ?_
     refine O.pick_true (v := (.bool true)) rfl rfl rfl rfl ?_
     exact WL.nil ⟨rfl, rfl, rfl, rfl, rfl, congrArg Value.bool (or_t hc1), H⟩
   ·
    rintro f w ⟨hf0, hf3, hf4, hf6, hf7, hf18, H⟩
    obtain ⟨u2, rfl⟩ := up6 hf0 hf3 hf4 hf6 hf7 hf18
    refine O.move (v := (.bool ((decide ((x1.toNat : Int) < 97)) || (decide (122 < (x1.toNat : Int)))))) rfl rfl rfl ?_
    refine WL.cut 15 (fun f w => f 0 = (.string a0) ∧ f 6 = (.int .i64 ((a0.size : Nat) : Int)) ∧ f 7 = (.int .i64 (ik1 : Int)) ∧ f 34 = .bool (((decide ((x1.toNat : Int) < 97)) || (decide (122 < (x1.toNat : Int)))) && (((ik1 : Int) == 0) || (((x1.toNat : Int) != 95) && ((decide ((x1.toNat : Int) < 48)) || (decide (57 < (x1.toNat : Int))))))) ∧ Inv w0 w []) ?_ ?_
    ·
     rcases bool_ft ((decide ((x1.toNat : Int) < 97)) || (decide (122 < (x1.toNat : Int)))) with hc2 | hc2
     ·
      refine WL.reset (i := 19) (v := .bool false) (congrArg Value.bool hc2) ?_
      refine O.skip rfl rfl ?_
      refine O.skip rfl rfl ?_
      refine O.skip rfl rfl ?_
      refine O.skip rfl rfl ?_
      refine O.skip rfl rfl ?_
      refine O.skip rfl rfl ?_
      refine O.skip rfl rfl ?_
      refine O.skip rfl rfl ?_
      refine O.skip rfl rfl ?_
      refine O.skip rfl rfl ?_
      refine O.skip rfl rfl ?_
      refine O.skip rfl rfl ?_
      refine O.skip rfl rfl ?_
      refine O.skip rfl rfl ?_
      refine O.pick_false (v := (.bool false)) rfl rfl rfl rfl ?_
      exact WL.nil ⟨rfl, rfl, rfl, congrArg Value.bool (and_f hc2), H⟩
     ·
      refine WL.reset (i := 19) (v := .bool true) (congrArg Value.bool hc2) ?_
      refine O.move (v := (.int .i64 (ik1 : Int))) rfl rfl rfl ?_
      refine O.eql rfl rfl rfl rfl ?_
      refine O.move (v := (.bool ((ik1 : Int) == 0))) rfl rfl rfl ?_
      refine WL.cut 11 (fun f w => f 0 = (.string a0) ∧ f 6 = (.int .i64 ((a0.size : Nat) : Int)) ∧ f 7 = (.int .i64 (ik1 : Int)) ∧ f 19 = (.bool true) ∧ f 20 = (.int .i64 (ik1 : Int)) ∧ f 21 = (.bool ((ik1 : Int) == 0)) ∧ f 22 = (.bool ((ik1 : Int) == 0)) ∧ f 33 = .bool (((ik1 : Int) == 0) || (((x1.toNat : Int) != 95) && ((decide ((x1.toNat : Int) < 48)) || (decide (57 < (x1.toNat : Int)))))) ∧ Inv w0 w []) ?_ ?_
      ·
       rcases bool_ft ((ik1 : Int) == 0) with hc3 | hc3
       ·
        refine WL.reset (i := 22) (v := .bool false) (congrArg Value.bool hc3) ?_
        refine O.move (v := (.int .u8 (x1.toNat : Int))) rfl rfl rfl ?_
        refine O.neq rfl rfl rfl rfl ?_
        refine O.move (v := (.bool ((x1.toNat : Int) != 95))) rfl rfl rfl ?_
        refine WL.cut 7 (fun f w => f 0 = (.string a0) ∧ f 6 = (.int .i64 ((a0.size : Nat) : Int)) ∧ f 7 = (.int .i64 (ik1 : Int)) ∧ f 19 = (.bool true) ∧ f 20 = (.int .i64 (ik1 : Int)) ∧ f 21 = (.bool ((ik1 : Int) == 0)) ∧ f 22 = (.bool false) ∧ f 23 = (.int .u8 (x1.toNat : Int)) ∧ f 24 = (.bool ((x1.toNat : Int) != 95)) ∧ f 25 = (.bool ((x1.toNat : Int) != 95)) ∧ f 32 = .bool (((x1.toNat : Int) != 95) && ((decide ((x1.toNat : Int) < 48)) || (decide (57 < (x1.toNat : Int))))) ∧ Inv w0 w []) ?_ ?_
        ·
         rcases bool_ft ((x1.toNat : Int) != 95) with hc4 | hc4
         ·
          refine WL.reset (i := 25) (v := .bool false) (congrArg Value.bool hc4) ?_
          refine O.skip rfl rfl ?_
          refine O.skip rfl rfl ?_
          refine O.skip rfl rfl ?_
          refine O.skip rfl rfl ?_
          refine O.skip rfl rfl ?_
          refine O.skip rfl rfl ?_
          refine O.pick_false (v := (.bool false)) rfl rfl rfl rfl ?_
          exact WL.nil ⟨rfl, rfl, rfl, rfl, rfl, rfl, rfl, rfl, rfl, (congrArg Value.bool hc4).symm, congrArg Value.bool (and_f hc4), H⟩
         ·
          refine WL.reset (i := 25) (v := .bool true) (congrArg Value.bool hc4) ?_
          refine O.move (v := (.int .u8 (x1.toNat : Int))) rfl rfl rfl ?_
          refine O.lss rfl rfl rfl rfl ?_
          refine O.move (v := (.bool (decide ((x1.toNat : Int) < 48)))) rfl rfl rfl ?_
          refine WL.cut 3 (fun f w => f 0 = (.string a0) ∧ f 6 = (.int .i64 ((a0.size : Nat) : Int)) ∧ f 7 = (.int .i64 (ik1 : Int)) ∧ f 19 = (.bool true) ∧ f 20 = (.int .i64 (ik1 : Int)) ∧ f 21 = (.bool ((ik1 : Int) == 0)) ∧ f 22 = (.bool false) ∧ f 23 = (.int .u8 (x1.toNat : Int)) ∧ f 24 = (.bool ((x1.toNat : Int) != 95)) ∧ f 25 = (.bool true) ∧ f 26 = (.int .u8 (x1.toNat : Int)) ∧ f 27 = (.bool (decide ((x1.toNat : Int) < 48))) ∧ f 28 = (.bool (decide ((x1.toNat : Int) < 48))) ∧ f 31 = .bool ((decide ((x1.toNat : Int) < 48)) || (decide (57 < (x1.toNat : Int)))) ∧ Inv w0 w []) ?_ ?_
          ·
           rcases bool_ft (decide ((x1.toNat : Int) < 48)) with hc5 | hc5
           ·
            refine WL.reset (i := 28) (v := .bool false) (congrArg Value.bool hc5) ?_
            refine O.move (v := (.int .u8 (x1.toNat : Int))) rfl rfl rfl ?_
            refine O.gtr rfl rfl rfl rfl ?_
            refine O.pick_false (v := (.bool (decide (57 < (x1.toNat : Int))))) rfl rfl rfl rfl ?_
            exact WL.nil ⟨rfl, rfl, rfl, rfl, rfl, rfl, rfl, rfl, rfl, rfl, rfl, rfl, (congrArg Value.bool hc5).symm, congrArg Value.bool (or_f hc5), H⟩
           ·
            refine WL.reset (i := 28) (v := .bool true) (congrArg Value.bool hc5) ?_
            refine O.skip rfl rfl ?_
            refine O.skip rfl rfl ?_
            refine O.pick_true (v := (.bool true)) rfl rfl rfl rfl ?_
            exact WL.nil ⟨rfl, rfl, rfl, rfl, rfl, rfl, rfl, rfl, rfl, rfl, rfl, rfl, (congrArg Value.bool hc5).symm, congrArg Value.bool (or_t hc5), H⟩
          ·
           rintro f w ⟨hf0, hf6, hf7, hf19, hf20, hf21, hf22, hf23, hf24, hf25, hf26, hf27, hf28, hf31, H⟩
           obtain ⟨u3, rfl⟩ : ∃ u3, f = (upd (upd (upd (upd (upd (upd (upd (upd (upd (upd (upd (upd (upd (upd u3 0 (.string a0)) 6 (.int .i64 ((a0.size : Nat) : Int))) 7 (.int .i64 (ik1 : Int))) 19 (.bool true)) 20 (.int .i64 (ik1 : Int))) 21 (.bool ((ik1 : Int) == 0))) 22 (.bool false)) 23 (.int .u8 (x1.toNat : Int))) 24 (.bool ((x1.toNat : Int) != 95))) 25 (.bool true)) 26 (.int .u8 (x1.toNat : Int))) 27 (.bool (decide ((x1.toNat : Int) < 48)))) 28 (.bool (decide ((x1.toNat : Int) < 48)))) 31 (.bool ((decide ((x1.toNat : Int) < 48)) || (decide (57 < (x1.toNat : Int)))))) := ⟨f, by rw [upd_self hf0, upd_self hf6, upd_self hf7, upd_self hf19, upd_self hf20, upd_self hf21, upd_self hf22, upd_self hf23, upd_self hf24, upd_self hf25, upd_self hf26, upd_self hf27, upd_self hf28, upd_self hf31]⟩
           refine O.pick_true (v := (.bool ((decide ((x1.toNat : Int) < 48)) || (decide (57 < (x1.toNat : Int)))))) rfl rfl rfl rfl ?_
           exact WL.nil ⟨rfl, rfl, rfl, rfl, rfl, rfl, rfl, rfl, rfl, (congrArg Value.bool hc4).symm, congrArg Value.bool (and_t hc4), H⟩
        ·
         rintro f w ⟨hf0, hf6, hf7, hf19, hf20, hf21, hf22, hf23, hf24, hf25, hf32, H⟩
         obtain ⟨u4, rfl⟩ : ∃ u4, f = (upd (upd (upd (upd (upd (upd (upd (upd (upd (upd (upd u4 0 (.string a0)) 6 (.int .i64 ((a0.size : Nat) : Int))) 7 (.int .i64 (ik1 : Int))) 19 (.bool true)) 20 (.int .i64 (ik1 : Int))) 21 (.bool ((ik1 : Int) == 0))) 22 (.bool false)) 23 (.int .u8 (x1.toNat : Int))) 24 (.bool ((x1.toNat : Int) != 95))) 25 (.bool ((x1.toNat : Int) != 95))) 32 (.bool (((x1.toNat : Int) != 95) && ((decide ((x1.toNat : Int) < 48)) || (decide (57 < (x1.toNat : Int))))))) := ⟨f, by rw [upd_self hf0, upd_self hf6, upd_self hf7, upd_self hf19, upd_self hf20, upd_self hf21, upd_self hf22, upd_self hf23, upd_self hf24, upd_self hf25, upd_self hf32]⟩
         refine O.pick_false (v := (.bool (((x1.toNat : Int) != 95) && ((decide ((x1.toNat : Int) < 48)) || (decide (57 < (x1.toNat : Int))))))) rfl rfl rfl rfl ?_
         exact WL.nil ⟨rfl, rfl, rfl, rfl, rfl, rfl, (congrArg Value.bool hc3).symm, congrArg Value.bool (or_f hc3), H⟩
       ·
        refine WL.reset (i := 22) (v := .bool true) (congrArg Value.bool hc3) ?_
        refine O.skip rfl rfl ?_
        refine O.skip rfl rfl ?_
        refine O.skip rfl rfl ?_
        refine O.skip rfl rfl ?_
        refine O.skip rfl rfl ?_
        refine O.skip rfl rfl ?_
        refine O.skip rfl rfl ?_
        refine O.skip rfl rfl ?_
        refine O.skip rfl rfl ?_
        refine O.skip rfl rfl ?_
        refine O.pick_true (v := (.bool true)) rfl rfl rfl rfl ?_
        exact WL.nil ⟨rfl, rfl, rfl, rfl, rfl, rfl, (congrArg Value.bool hc3).symm, congrArg Value.bool (or_t hc3), H⟩
      ·
       rintro f w ⟨hf0, hf6, hf7, hf19, hf20, hf21, hf22, hf33, H⟩
       obtain ⟨u5, rfl⟩ := up8 hf0 hf6 hf7 hf19 hf20 hf21 hf22 hf33
       refine O.pick_true (v := (.bool (((ik1 : Int) == 0) || (((x1.toNat : Int) != 95) && ((decide ((x1.toNat : Int) < 48)) || (decide (57 < (x1.toNat : Int)))))))) rfl rfl rfl rfl ?_
       exact WL.nil ⟨rfl, rfl, rfl, congrArg Value.bool (and_t hc2), H⟩
    ·
     rintro f w ⟨hf0, hf6, hf7, hf34, H⟩
     obtain ⟨u6, rfl⟩ := up4 hf0 hf6 hf7 hf34
     refine WL.nil ?_
     rcases ite_some hm2 with ⟨hc6, hm2⟩ | ⟨hc6, hm2⟩
     ·
      refine W.cond_true (congrArg Value.bool hc6) ?_
      refine W.seq ?_
      refine W.region ?_
      refine O.assign (v := (.bool false)) rfl rfl rfl ?_
      refine WL.nil ?_
      refine W.ret ?_
      obtain rfl := Option.some.inj hm2
      refine ⟨_, rfl, ?_⟩
      rintro rfl
      have hq : false = r0 := Option.some.inj (show some false = some r0 from hm)
      subst hq
      exact ends1 Try.results70 rfl ⟨_, rfl, H.base, rfl⟩
     ·
      refine W.cond_false (congrArg Value.bool hc6) ?_
      refine W.skip ?_
      refine W.region ?_
      refine O.add rfl rfl rfl rfl hinck1 ?_
      refine O.move (v := .int .i64 ((ik1 : Int) + 1)) rfl rfl rfl ?_
      refine WL.nil ?_
      obtain rfl := Option.some.inj hm2
      exact ⟨_, rfl, rfl, rangeN_next hdropk1, rfl, rfl, rfl, H⟩
  ·
   rintro ik1 _ f w ⟨rfl, hdropk1, hf7, hf6, hf0, H⟩ hfin
   have hltk1 := rangeN_end hdropk1
   obtain ⟨u7, rfl⟩ := up3 hf7 hf6 hf0
   refine W.seq ?_
   refine W.region ?_
   refine O.lss rfl rfl rfl rfl ?_
   refine WL.nil ?_
   refine W.seq ?_
   refine W.cond_false (congrArg Value.bool (decide_eq_false hltk1)) ?_
   refine W.exit ?_
   obtain rfl : Ctl.next () = o1 := hfin
   refine xT rfl ?_
   exact ⟨rfl, rfl, H⟩
 ·
  rintro f w ⟨rfl, hf0, H⟩
  obtain ⟨u8, rfl⟩ := up1 hf0
  refine W.seq ?_
  refine W.region ?_
  refine O.move (v := (.string a0)) rfl rfl rfl ?_
  refine O.lenStr Try.underlying9 rfl rfl rfl ?_
  refine O.geq rfl rfl rfl rfl ?_
  refine O.move (v := (.bool (decide (1 ≤ ((a0.size : Nat) : Int))))) rfl rfl rfl ?_
  refine WL.cut 4 (fun f w => f 43 = .bool ((decide (1 ≤ ((a0.size : Nat) : Int))) && (decide (((a0.size : Nat) : Int) ≤ 16))) ∧ Inv w0 w []) ?_ ?_
  ·
   rcases bool_ft (decide (1 ≤ ((a0.size : Nat) : Int))) with hc7 | hc7
   ·
    refine WL.reset (i := 39) (v := .bool false) (congrArg Value.bool hc7) ?_
    refine O.skip rfl rfl ?_
    refine O.skip rfl rfl ?_
    refine O.skip rfl rfl ?_
    refine O.pick_false (v := (.bool false)) rfl rfl rfl rfl ?_
    exact WL.nil ⟨congrArg Value.bool (and_f hc7), H⟩
   ·
    refine WL.reset (i := 39) (v := .bool true) (congrArg Value.bool hc7) ?_
    refine O.move (v := (.string a0)) rfl rfl rfl ?_
    refine O.lenStr Try.underlying9 rfl rfl rfl ?_
    refine O.leq rfl rfl rfl rfl ?_
    refine O.pick_true (v := (.bool (decide (((a0.size : Nat) : Int) ≤ 16)))) rfl rfl rfl rfl ?_
    exact WL.nil ⟨congrArg Value.bool (and_t hc7), H⟩
  ·
   rintro f w ⟨hf43, H⟩
   obtain ⟨u9, rfl⟩ := up1 hf43
   refine O.assign (v := (.bool ((decide (1 ≤ ((a0.size : Nat) : Int))) && (decide (((a0.size : Nat) : Int) ≤ 16))))) rfl rfl rfl ?_
   refine WL.nil ?_
   refine W.ret ?_
   have hq : ((decide (1 ≤ ((a0.size : Nat) : Int))) && (decide (((a0.size : Nat) : Int) ≤ 16))) = r0 := Option.some.inj (show some ((decide (1 ≤ ((a0.size : Nat) : Int))) && (decide (((a0.size : Nat) : Int) ≤ 16))) = some r0 from hm)
   subst hq
   exact ends1 Try.results70 rfl ⟨_, rfl, H.base, rfl⟩

set_option maxRecDepth 20000 in
theorem c_noongunref06_ValidBox {w0 : World} (va0_0 : Value) (a0 : GBox) (ha0_0 : SliceR w0 va0_0 a0.Errors) {r0 : Bool} (hm : noongunref06_ValidBox a0 = some r0) :
  Calls Try.prog 37 #[(.agg #[(.string a0.Name), va0_0])] w0 (Ret w0 fun _ v => v = (.bool r0)) := by
 unfold noongunref06_ValidBox at hm
 refine calls_of_W Try.func37 rfl Try.ntmps37 (Nat.le_of_ble_eq_true rfl) ?_
 have H := Inv.start (w := w0)
 refine W.seq ?_
 refine W.region ?_
 refine O.box [(.string a0.Name), va0_0] H rfl rfl rfl rfl ?_
 intro b1 w1 H hb1
 refine O.assign (v := (.bool false)) rfl rfl rfl ?_
 refine WL.nil ?_
 refine W.seq ?_
 refine W.seq ?_
 refine W.region ?_
 refine O.fieldAddr fd24_1 rfl rfl rfl ?_
 refine O.load sc22 rfl rfl rfl (H.cell 0 rfl 1 _ rfl) ?_
 refine O.lenS Try.underlying22 (H.arg ha0_0) rfl rfl rfl ?_
 refine O.move (v := (.int .i64 0)) rfl rfl rfl ?_
 refine WL.nil ?_
 obtain ⟨o1, hm1, hm⟩ := bind_some hm
 refine W.via (fun f w => o1 = .next () ∧ f 1 = (.pointer (some ⟨b1, 0, none⟩)) ∧ Inv w0 w [boxI b1 24 [(.string a0.Name), va0_0]]) ?_ ?_
 ·
  refine W.block ?_
  refine W.rangeL (i := 0) hm1 (fun rem ik1 s f w => () = s ∧ a0.Errors.drop ik1 = rem ∧ f 8 = .int .i64 (ik1 : Int) ∧ f 7 = (.int .i64 ((a0.Errors.length : Nat) : Int)) ∧ f 1 = (.pointer (some ⟨b1, 0, none⟩)) ∧ f 6 = va0_0 ∧ Inv w0 w [boxI b1 24 [(.string a0.Name), va0_0]]) ?_ ?_ ?_
  ·
   exact ⟨rfl, List.drop_zero, rfl, rfl, rfl, rfl, H⟩
  ·
   rintro yk1 xs ik1 _ st f w ⟨rfl, hdropk1, hf8, hf7, hf1, hf6, H⟩ hm2
   have hltk1 := drop_lt hdropk1; have hixk1 := drop_idx hdropk1
   obtain ⟨u1, rfl⟩ := up4 hf8 hf7 hf1 hf6
   have hinck1 := addI_lt hltk1 (H.arg ha0_0).len_le
   refine W.seq ?_
   refine W.region ?_
   refine O.lss rfl rfl rfl rfl ?_
   refine WL.nil ?_
   refine W.seq ?_
   refine W.cond_true (congrArg Value.bool (decide_eq_true hltk1)) ?_
   refine W.skip ?_
   refine W.seq ?_
   refine W.block ?_
   refine W.seq ?_
   refine W.region ?_
   obtain ⟨p1, hp1, hrp1⟩ := fix_indexAddr Try.underlying22 sz3 ha0_0 hixk1
   refine hrp1 rfl rfl rfl rfl ?_
   refine O.load sc3 rfl rfl rfl ((hp1.mono H.base).flat 0 _ rfl) ?_
   refine O.assign (v := (.int .i64 yk1)) rfl rfl rfl ?_
   refine WL.nil ?_
   refine W.seq ?_
   refine W.region ?_
   refine O.move (v := (.int .i64 yk1)) rfl rfl rfl ?_
   refine O.lss rfl rfl rfl rfl ?_
   refine O.move (v := (.bool (decide (yk1 < (-86400000))))) rfl rfl rfl ?_
   refine WL.cut 3 (fun f w => f 1 = (.pointer (some ⟨b1, 0, none⟩)) ∧ f 6 = va0_0 ∧ f 7 = (.int .i64 ((a0.Errors.length : Nat) : Int)) ∧ f 8 = (.int .i64 (ik1 : Int)) ∧ f 17 = .bool ((decide (yk1 < (-86400000))) || (decide (86400000 < yk1))) ∧ Inv w0 w [boxI b1 24 [(.string a0.Name), va0_0]]) ?_ ?_
   ·
    rcases bool_ft (decide (yk1 < (-86400000))) with hc1 | hc1
    ·
     refine WL.reset (i := 14) (v := .bool false) (congrArg Value.bool hc1) ?_
     refine O.move (v := (.int .i64 yk1)) rfl rfl rfl ?_
     refine O.gtr rfl rfl rfl rfl ?_
     refine O.pick_false (v := (.bool (decide (86400000 < yk1)))) rfl rfl rfl rfl ?_
     exact WL.nil ⟨rfl, rfl, rfl, rfl, congrArg Value.bool (or_f hc1), H⟩
    ·
     refine WL.reset (i := 14) (v := .bool true) (congrArg Value.bool hc1) ?_
     refine O.skip rfl rfl ?_
     refine O.skip rfl rfl ?_
     refine O.pick_true (v := (.bool true)) rfl rfl rfl rfl ?_
     exact WL.nil ⟨rfl, rfl, rfl, rfl, congrArg Value.bool (or_t hc1), H⟩
   ·
    rintro f w ⟨hf1, hf6, hf7, hf8, hf17, H⟩
    obtain ⟨u2, rfl⟩ := up5 hf1 hf6 hf7 hf8 hf17
    refine WL.nil ?_
    rcases ite_some hm2 with ⟨hc2, hm2⟩ | ⟨hc2, hm2⟩
    ·
     refine W.cond_true (congrArg Value.bool hc2) ?_
     refine W.seq ?_
     refine W.region ?_
     refine O.assign (v := (.bool false)) rfl rfl rfl ?_
     refine WL.nil ?_
     refine W.ret ?_
     obtain rfl := Option.some.inj hm2
     refine ⟨_, rfl, ?_⟩
     rintro rfl
     have hq : false = r0 := Option.some.inj (show some false = some r0 from hm)
     subst hq
     exact ends1 Try.results37 rfl ⟨_, rfl, H.base, rfl⟩
    ·
     refine W.cond_false (congrArg Value.bool hc2) ?_
     refine W.skip ?_
     refine W.region ?_
     refine O.add rfl rfl rfl rfl hinck1 ?_
     refine O.move (v := .int .i64 ((ik1 : Int) + 1)) rfl rfl rfl ?_
     refine WL.nil ?_
     obtain rfl := Option.some.inj hm2
     exact ⟨_, rfl, rfl, drop_next hdropk1, rfl, rfl, rfl, rfl, H⟩
  ·
   rintro ik1 _ f w ⟨rfl, hdropk1, hf8, hf7, hf1, hf6, H⟩ hfin
   have hltk1 := drop_end hdropk1
   obtain ⟨u3, rfl⟩ := up4 hf8 hf7 hf1 hf6
   refine W.seq ?_
   refine W.region ?_
   refine O.lss rfl rfl rfl rfl ?_
   refine WL.nil ?_
   refine W.seq ?_
   refine W.cond_false (congrArg Value.bool (decide_eq_false hltk1)) ?_
   refine W.exit ?_
   obtain rfl : Ctl.next () = o1 := hfin
   refine xT rfl ?_
   exact ⟨rfl, rfl, H⟩
 ·
  rintro f w ⟨rfl, hf1, H⟩
  obtain ⟨u4, rfl⟩ := up1 hf1
  refine W.seq ?_
  refine W.region ?_
  refine O.fieldAddr fd24_0 rfl rfl rfl ?_
  refine O.load sc9 rfl rfl rfl (H.cell 0 rfl 0 _ rfl) ?_
  obtain ⟨t1, hy1, hm⟩ := bind_some hm
  refine O.call Try.call70 rfl rfl rfl (c_noongunref06_Name _ hy1) ?_
  rintro _ w2 hb2 rfl
  have H := H.ext hb2
  refine O.move (v := (.bool t1)) rfl rfl rfl ?_
  refine WL.cut 5 (fun f w => f 1 = (.pointer (some ⟨b1, 0, none⟩)) ∧ f 27 = .bool (t1 && (decide (2 ≤ ((a0.Errors.length : Nat) : Int)))) ∧ Inv w0 w [boxI b1 24 [(.string a0.Name), va0_0]]) ?_ ?_
  ·
   rcases bool_ft t1 with hc3 | hc3
   ·
    refine WL.reset (i := 22) (v := .bool false) (congrArg Value.bool hc3) ?_
    refine O.skip rfl rfl ?_
    refine O.skip rfl rfl ?_
    refine O.skip rfl rfl ?_
    refine O.skip rfl rfl ?_
    refine O.pick_false (v := (.bool false)) rfl rfl rfl rfl ?_
    exact WL.nil ⟨rfl, congrArg Value.bool (and_f hc3), H⟩
   ·
    refine WL.reset (i := 22) (v := .bool true) (congrArg Value.bool hc3) ?_
    refine O.fieldAddr fd24_1 rfl rfl rfl ?_
    refine O.load sc22 rfl rfl rfl (H.cell 0 rfl 1 _ rfl) ?_
    refine O.lenS Try.underlying22 (H.arg ha0_0) rfl rfl rfl ?_
    refine O.geq rfl rfl rfl rfl ?_
    refine O.pick_true (v := (.bool (decide (2 ≤ ((a0.Errors.length : Nat) : Int))))) rfl rfl rfl rfl ?_
    exact WL.nil ⟨rfl, congrArg Value.bool (and_t hc3), H⟩
  ·
   rintro f w ⟨hf1, hf27, H⟩
   obtain ⟨u5, rfl⟩ := up2 hf1 hf27
   refine O.move (v := (.bool (t1 && (decide (2 ≤ ((a0.Errors.length : Nat) : Int)))))) rfl rfl rfl ?_
   refine WL.cut 5 (fun f w => f 33 = .bool ((t1 && (decide (2 ≤ ((a0.Errors.length : Nat) : Int)))) && (decide (((a0.Errors.length : Nat) : Int) ≤ 400))) ∧ Inv w0 w [boxI b1 24 [(.string a0.Name), va0_0]]) ?_ ?_
   ·
    rcases bool_ft (t1 && (decide (2 ≤ ((a0.Errors.length : Nat) : Int)))) with hc4 | hc4
    ·
     refine WL.reset (i := 28) (v := .bool false) (congrArg Value.bool hc4) ?_
     refine O.skip rfl rfl ?_
     refine O.skip rfl rfl ?_
     refine O.skip rfl rfl ?_
     refine O.skip rfl rfl ?_
     refine O.pick_false (v := (.bool false)) rfl rfl rfl rfl ?_
     exact WL.nil ⟨congrArg Value.bool (and_f hc4), H⟩
    ·
     refine WL.reset (i := 28) (v := .bool true) (congrArg Value.bool hc4) ?_
     refine O.fieldAddr fd24_1 rfl rfl rfl ?_
     refine O.load sc22 rfl rfl rfl (H.cell 0 rfl 1 _ rfl) ?_
     refine O.lenS Try.underlying22 (H.arg ha0_0) rfl rfl rfl ?_
     refine O.leq rfl rfl rfl rfl ?_
     refine O.pick_true (v := (.bool (decide (((a0.Errors.length : Nat) : Int) ≤ 400)))) rfl rfl rfl rfl ?_
     exact WL.nil ⟨congrArg Value.bool (and_t hc4), H⟩
   ·
    rintro f w ⟨hf33, H⟩
    obtain ⟨u6, rfl⟩ := up1 hf33
    refine O.assign (v := (.bool ((t1 && (decide (2 ≤ ((a0.Errors.length : Nat) : Int)))) && (decide (((a0.Errors.length : Nat) : Int) ≤ 400))))) rfl rfl rfl ?_
    refine WL.nil ?_
    refine W.ret ?_
    have hq : ((t1 && (decide (2 ≤ ((a0.Errors.length : Nat) : Int)))) && (decide (((a0.Errors.length : Nat) : Int) ≤ 400))) = r0 := Option.some.inj (show some ((t1 && (decide (2 ≤ ((a0.Errors.length : Nat) : Int)))) && (decide (((a0.Errors.length : Nat) : Int) ≤ 400))) = some r0 from hm)
    subst hq
    exact ends1 Try.results37 rfl ⟨_, rfl, H.base, rfl⟩

set_option maxRecDepth 20000 in
theorem c_noongunref06_several {w0 : World} (va0 : Value) (a0 : (List GBox)) (ha0 : SliceR w0 va0 a0) {r0 : Bool} (hm : noongunref06_several a0 = some r0) :
  Calls Try.prog 84 #[va0] w0 (Ret w0 fun _ v => v = (.bool r0)) := by
 unfold noongunref06_several at hm
 refine calls_of_W Try.func84 rfl Try.ntmps84 (Nat.le_of_ble_eq_true rfl) ?_
 have H := Inv.start (w := w0)
 refine W.seq ?_
 refine W.region ?_
 refine O.assign (v := (.bool false)) rfl rfl rfl ?_
 refine WL.nil ?_
 refine W.seq ?_
 refine W.seq ?_
 refine W.region ?_
 refine O.move (v := va0) rfl rfl rfl ?_
 refine O.lenS Try.underlying55 (H.arg ha0) rfl rfl rfl ?_
 refine O.move (v := (.int .i64 0)) rfl rfl rfl ?_
 refine WL.nil ?_
 obtain ⟨o1, hm1, hm⟩ := bind_some hm
 refine W.via (fun f w => o1 = .next () ∧ f 0 = va0 ∧ Inv w0 w []) ?_ ?_
 ·
  refine W.block ?_
  have hbdik1 := (H.arg ha0).len_le
  refine W.rangeN (i := 0) hm1 (fun rem ik1 s f w => () = s ∧ (ik1 : Int) + rem = max 0 ((a0.length : Nat) : Int) ∧ f 9 = .int .i64 (ik1 : Int) ∧ f 8 = (.int .i64 ((a0.length : Nat) : Int)) ∧ f 0 = va0 ∧ f 7 = va0 ∧ Inv w0 w []) ?_ ?_ ?_
  ·
   exact ⟨rfl, rangeN_start, rfl, rfl, rfl, rfl, H⟩
  ·
   rintro k ik1 _ st f w ⟨rfl, hdropk1, hf9, hf8, hf0, hf7, H⟩ hm2
   have hltk1 := rangeN_lt hdropk1
   obtain ⟨u1, rfl⟩ := up4 hf9 hf8 hf0 hf7
   have hinck1 := addI_lt hltk1 hbdik1
   refine W.seq ?_
   refine W.region ?_
   refine O.lss rfl rfl rfl rfl ?_
   refine WL.nil ?_
   refine W.seq ?_
   refine W.cond_true (congrArg Value.bool (decide_eq_true hltk1)) ?_
   refine W.skip ?_
   refine W.seq ?_
   obtain ⟨o2, hm3, hm2⟩ := bind_some hm2
   refine W.via (fun f w => o2 = .next () ∧ f 0 = va0 ∧ f 7 = va0 ∧ f 8 = (.int .i64 ((a0.length : Nat) : Int)) ∧ f 9 = (.int .i64 (ik1 : Int)) ∧ Inv w0 w []) ?_ ?_
   ·
    refine W.block ?_
    refine W.seq ?_
    refine W.region ?_
    refine O.move (v := (.int .i64 (ik1 : Int))) rfl rfl rfl ?_
    obtain ⟨x1, hx1, hm3⟩ := bind_some hm3
    obtain ⟨p1, hp1, hrp1⟩ := fix_indexAddr Try.underlying55 sz24 ha0 hx1
    obtain ⟨v1, hs1, hc1⟩ := GBox_open hp1
    refine hrp1 rfl rfl rfl rfl ?_
    refine O.loadA [(.string x1.Name), v1] ag24 rfl rfl rfl rfl ((cells_mono hc1 H.base)) ?_
    refine O.alloc [(.string ByteArray.empty), (.slice none 0 0)] ze24 H rfl rfl rfl ?_
    intro b1 w1 H hb1
    have H := H.addNil (α := Int) (E := 3)
    refine O.assign (v := (.int .i64 (ik1 : Int))) rfl rfl rfl ?_
    refine O.store 0 0 [(.string x1.Name), v1] [(.string x1.Name), v1] sz24 H rfl rfl rfl rfl rfl rfl ⟨⟨rfl, rfl⟩, rfl⟩ (one_cons rfl (one_cons (SliceR.one (H.arg hs1)) one_nil)) ?_
    intro w2 H
    refine WL.nil ?_
    refine W.seq ?_
    refine W.seq ?_
    refine W.region ?_
    refine O.loadA [(.string x1.Name), v1] ag24 rfl rfl rfl rfl (H.cell 0 rfl) ?_
    obtain ⟨t1, hy1, hm3⟩ := bind_some hm3
    refine O.call Try.call37 rfl rfl rfl (c_noongunref06_ValidBox _ (GBox.mk x1.Name x1.Errors) (H.arg hs1) hy1) ?_
    rintro _ w3 hb2 rfl
    have H := H.ext hb2
    refine O.not rfl rfl rfl ?_
    refine WL.nil ?_
    rcases ite_some hm3 with ⟨hc2, hm3⟩ | ⟨hc2, hm3⟩
    ·
     refine W.cond_true (congrArg Value.bool hc2) ?_
     refine W.seq ?_
     refine W.region ?_
     refine O.assign (v := (.bool false)) rfl rfl rfl ?_
     refine WL.nil ?_
     refine W.ret ?_
     obtain rfl := Option.some.inj hm3
     obtain rfl := Option.some.inj hm2
     refine ⟨_, rfl, ?_⟩
     rintro rfl
     have hq : false = r0 := Option.some.inj (show some false = some r0 from hm)
     subst hq
     exact ends1 Try.results84 rfl ⟨_, rfl, H.base, rfl⟩
    ·
     refine W.cond_false (congrArg Value.bool hc2) ?_
     refine W.skip ?_
     refine W.seq ?_
     refine W.region ?_
     refine O.move (v := va0) rfl rfl rfl ?_
     refine O.move (v := (.int .i64 (ik1 : Int))) rfl rfl rfl ?_
     obtain ⟨t2, ht2, hm3⟩ := bind_some hm3
     obtain ⟨v2, hs2, hrv2⟩ := fix_sliceH Try.underlying55 sz24 ha0 ht2
     refine hrv2 rfl rfl rfl rfl ?_
     refine O.lenS Try.underlying55 (H.arg hs2) rfl rfl rfl ?_
     refine O.move (v := (.int .i64 0)) rfl rfl rfl ?_
     refine WL.nil ?_
     obtain ⟨o3, hm4, hm3⟩ := bind_some hm3
     refine W.via (fun f w => o3 = .next () ∧ f 0 = va0 ∧ f 7 = va0 ∧ f 8 = (.int .i64 ((a0.length : Nat) : Int)) ∧ f 9 = (.int .i64 (ik1 : Int)) ∧ Inv w0 w []) ?_ ?_
     ·
      refine W.block ?_
      have H := H.keep [0] [boxI b1 24 [(.string x1.Name), v1]] rfl (by decide)
      refine W.rangeL (i := 0) hm4 (fun rem ik2 s f w => () = s ∧ t2.drop ik2 = rem ∧ f 21 = .int .i64 (ik2 : Int) ∧ f 20 = (.int .i64 ((t2.length : Nat) : Int)) ∧ f 0 = va0 ∧ f 4 = (.pointer (some ⟨b1, 0, none⟩)) ∧ f 7 = va0 ∧ f 8 = (.int .i64 ((a0.length : Nat) : Int)) ∧ f 9 = (.int .i64 (ik1 : Int)) ∧ f 19 = v2 ∧ Inv w0 w [boxI b1 24 [(.string x1.Name), v1]]) ?_ ?_ ?_
      ·
       exact ⟨rfl, List.drop_zero, rfl, rfl, rfl, rfl, rfl, rfl, rfl, rfl, H⟩
      ·
       rintro yk2 xs ik2 _ st f w ⟨rfl, hdropk2, hf21, hf20, hf0, hf4, hf7, hf8, hf9, hf19, H⟩ hm5
       have hltk2 := drop_lt hdropk2; have hixk2 := drop_idx hdropk2
       obtain ⟨u2, rfl⟩ := up8 hf21 hf20 hf0 hf4 hf7 hf8 hf9 hf19
       have hinck2 := addI_lt hltk2 (H.arg hs2).len_le
       refine W.seq ?_
       refine W.region ?_
       refine O.lss rfl rfl rfl rfl ?_
       refine WL.nil ?_
       refine W.seq ?_
       refine W.cond_true (congrArg Value.bool (decide_eq_true hltk2)) ?_
       refine W.skip ?_
       refine W.seq ?_
       refine W.block ?_
       refine W.seq ?_
       refine W.region ?_
       obtain ⟨p2, hp2, hrp2⟩ := fix_indexAddr Try.underlying55 sz24 hs2 hixk2
       obtain ⟨v3, hs3, hc3⟩ := GBox_open hp2
       refine hrp2 rfl rfl rfl rfl ?_
       refine O.loadA [(.string yk2.Name), v3] ag24 rfl rfl rfl rfl ((cells_mono hc3 H.base)) ?_
       refine O.alloc [(.string ByteArray.empty), (.slice none 0 0)] ze24 H rfl rfl rfl ?_
       intro b2 w4 H hb3
       have H := H.addNil (α := Int) (E := 3)
       refine O.store 1 0 [(.string yk2.Name), v3] [(.string yk2.Name), v3] sz24 H rfl rfl rfl rfl rfl rfl ⟨⟨rfl, rfl⟩, rfl⟩ (one_cons rfl (one_cons (SliceR.one (H.arg hs3)) one_nil)) ?_
       intro w5 H
       refine WL.nil ?_
       refine W.seq ?_
       refine W.region ?_
       refine O.fieldAddr fd24_0 rfl rfl rfl ?_
       refine O.load sc9 rfl rfl rfl (H.cell 0 rfl 0 _ rfl) ?_
       refine O.fieldAddr fd24_0 rfl rfl rfl ?_
       refine O.load sc9 rfl rfl rfl (H.cell 1 rfl 0 _ rfl) ?_
       refine O.eqlS rfl rfl rfl rfl ?_
       refine WL.nil ?_
       rcases ite_some hm5 with ⟨hc4, hm5⟩ | ⟨hc4, hm5⟩
       ·
        refine W.cond_true (congrArg Value.bool hc4) ?_
        refine W.seq ?_
        refine W.region ?_
        refine O.assign (v := (.bool false)) rfl rfl rfl ?_
        refine WL.nil ?_
        refine W.ret ?_
        obtain rfl := Option.some.inj hm5
        refine ⟨_, rfl, ?_⟩
        rintro rfl
        obtain rfl := Option.some.inj hm3
        obtain rfl := Option.some.inj hm2
        refine ⟨_, rfl, ?_⟩
        rintro rfl
        have hq : false = r0 := Option.some.inj (show some false = some r0 from hm)
        subst hq
        exact ends1 Try.results84 rfl ⟨_, rfl, H.base, rfl⟩
       ·
        refine W.cond_false (congrArg Value.bool hc4) ?_
        refine W.skip ?_
        refine W.region ?_
        refine O.add rfl rfl rfl rfl hinck2 ?_
        refine O.move (v := .int .i64 ((ik2 : Int) + 1)) rfl rfl rfl ?_
        refine WL.nil ?_
        have H := H.keep [0] [boxI b1 24 [(.string x1.Name), v1]] rfl (by decide)
        obtain rfl := Option.some.inj hm5
        exact ⟨_, rfl, rfl, drop_next hdropk2, rfl, rfl, rfl, rfl, rfl, rfl, rfl, rfl, H⟩
      ·
       rintro ik2 _ f w ⟨rfl, hdropk2, hf21, hf20, hf0, hf4, hf7, hf8, hf9, hf19, H⟩ hfin
       have hltk2 := drop_end hdropk2
       obtain ⟨u3, rfl⟩ := up8 hf21 hf20 hf0 hf4 hf7 hf8 hf9 hf19
       refine W.seq ?_
       refine W.region ?_
       refine O.lss rfl rfl rfl rfl ?_
       refine WL.nil ?_
       refine W.seq ?_
       refine W.cond_false (congrArg Value.bool (decide_eq_false hltk2)) ?_
       refine W.exit ?_
       obtain rfl : Ctl.next () = o3 := hfin
       have H := H.keep [] [] rfl (by decide)
       refine xT rfl ?_
       exact ⟨rfl, rfl, rfl, rfl, rfl, H⟩
     ·
      rintro f w ⟨rfl, hf0, hf7, hf8, hf9, H⟩
      obtain ⟨u4, rfl⟩ := up4 hf0 hf7 hf8 hf9
      obtain rfl := Option.some.inj hm3
      exact ⟨rfl, rfl, rfl, rfl, rfl, H⟩
   ·
    rintro f w ⟨rfl, hf0, hf7, hf8, hf9, H⟩
    obtain ⟨u5, rfl⟩ := up4 hf0 hf7 hf8 hf9
    refine W.region ?_
    refine O.add rfl rfl rfl rfl hinck1 ?_
    refine O.move (v := .int .i64 ((ik1 : Int) + 1)) rfl rfl rfl ?_
    refine WL.nil ?_
    obtain rfl := Option.some.inj hm2
    exact ⟨_, rfl, rfl, rangeN_next hdropk1, rfl, rfl, rfl, rfl, H⟩
  ·
   rintro ik1 _ f w ⟨rfl, hdropk1, hf9, hf8, hf0, hf7, H⟩ hfin
   have hltk1 := rangeN_end hdropk1
   obtain ⟨u6, rfl⟩ := up4 hf9 hf8 hf0 hf7
   refine W.seq ?_
   refine W.region ?_
   refine O.lss rfl rfl rfl rfl ?_
   refine WL.nil ?_
   refine W.seq ?_
   refine W.cond_false (congrArg Value.bool (decide_eq_false hltk1)) ?_
   refine W.exit ?_
   obtain rfl : Ctl.next () = o1 := hfin
   refine xT rfl ?_
   exact ⟨rfl, rfl, H⟩
 ·
  rintro f w ⟨rfl, hf0, H⟩
  obtain ⟨u7, rfl⟩ := up1 hf0
  refine W.seq ?_
  refine W.region ?_
  refine O.move (v := va0) rfl rfl rfl ?_
  refine O.lenS Try.underlying55 (H.arg ha0) rfl rfl rfl ?_
  refine O.leq rfl rfl rfl rfl ?_
  refine O.assign (v := (.bool (decide (((a0.length : Nat) : Int) ≤ 16)))) rfl rfl rfl ?_
  refine WL.nil ?_
  refine W.ret ?_
  have hq : (decide (((a0.length : Nat) : Int) ≤ 16)) = r0 := Option.some.inj (show some (decide (((a0.length : Nat) : Int) ≤ 16)) = some r0 from hm)
  subst hq
  exact ends1 Try.results84 rfl ⟨_, rfl, H.base, rfl⟩

theorem c_noongunref06_ValidBoxes {w0 : World} (va0 : Value) (a0 : (List GBox)) (ha0 : SliceR w0 va0 a0) {r0 : Bool} (hm : noongunref06_ValidBoxes a0 = some r0) :
  Calls Try.prog 47 #[va0] w0 (Ret w0 fun _ v => v = (.bool r0)) := by
 unfold noongunref06_ValidBoxes at hm
 refine calls_of_W Try.func47 rfl Try.ntmps47 (Nat.le_of_ble_eq_true rfl) ?_
 have H := Inv.start (w := w0)
 refine W.seq ?_
 refine W.region ?_
 refine O.assign (v := (.bool false)) rfl rfl rfl ?_
 refine WL.nil ?_
 refine W.seq ?_
 refine W.region ?_
 refine O.move (v := va0) rfl rfl rfl ?_
 refine O.lenS Try.underlying55 (H.arg ha0) rfl rfl rfl ?_
 refine O.geq rfl rfl rfl rfl ?_
 refine O.move (v := (.bool (decide (1 ≤ ((a0.length : Nat) : Int))))) rfl rfl rfl ?_
 obtain ⟨b1, hm1, hm⟩ := bind_some hm
 refine WL.cut 3 (fun f w => f 9 = .bool b1 ∧ Inv w0 w []) ?_ ?_
 ·
  rcases ite_some hm1 with ⟨hc1, hm1⟩ | ⟨hc1, hm1⟩
  ·
   refine WL.reset (i := 6) (v := .bool true) (congrArg Value.bool hc1) ?_
   refine O.move (v := va0) rfl rfl rfl ?_
   obtain ⟨t1, hy1, hm1⟩ := bind_some hm1
   refine O.call Try.call84 rfl rfl rfl (c_noongunref06_several _ _ (H.arg ha0) hy1) ?_
   rintro _ w1 hb1 rfl
   have H := H.ext hb1
   refine O.pick_true (v := (.bool t1)) rfl rfl rfl rfl ?_
   refine WL.nil ?_
   have hq : t1 = b1 := Option.some.inj (show some t1 = some b1 from hm1)
   subst hq
   exact ⟨rfl, H⟩
  ·
   refine WL.reset (i := 6) (v := .bool false) (congrArg Value.bool hc1) ?_
   refine O.skip rfl rfl ?_
   refine O.skip rfl rfl ?_
   refine O.pick_false (v := (.bool false)) rfl rfl rfl rfl ?_
   refine WL.nil ?_
   have hq : false = b1 := Option.some.inj (show some false = some b1 from hm1)
   subst hq
   exact ⟨rfl, H⟩
 ·
  rintro f w ⟨hf9, H⟩
  obtain ⟨u1, rfl⟩ := up1 hf9
  refine O.assign (v := (.bool b1)) rfl rfl rfl ?_
  refine WL.nil ?_
  refine W.ret ?_
  have hq : b1 = r0 := Option.some.inj (show some b1 = some r0 from hm)
  subst hq
  exact ends1 Try.results47 rfl ⟨_, rfl, H.base, rfl⟩

set_option maxRecDepth 20000 in
theorem c_noongunref06_rates {w0 : World} (va0_0 : Value) (a0 : GBox) (ha0_0 : SliceR w0 va0_0 a0.Errors) (a1 : Int) {r0 : (List Int)} (hm : noongunref06_rates a0 a1 = some r0) :
  Calls Try.prog 66 #[(.agg #[(.string a0.Name), va0_0]), (.int .i64 a1)] w0 (Ret w0 fun w v => OwnR w0 w v 3 r0) := by
 unfold noongunref06_rates at hm
 refine calls_of_W Try.func66 rfl Try.ntmps66 (Nat.le_of_ble_eq_true rfl) ?_
 have H := Inv.start (w := w0)
 refine W.seq ?_
 refine W.region ?_
 refine O.box [(.string a0.Name), va0_0] H rfl rfl rfl rfl ?_
 intro b1 w1 H hb1
 have H := H.addNil (α := Int) (E := 3)
 refine O.assign (v := (.slice none 0 0)) rfl rfl rfl ?_
 refine WL.nil ?_
 refine W.seq ?_
 refine W.region ?_
 have H := H.addNil (α := Int) (E := 3)
 refine O.assign (v := (.slice none 0 0)) rfl rfl rfl ?_
 refine WL.nil ?_
 refine W.seq ?_
 refine W.seq ?_
 refine W.region ?_
 refine O.move (v := (.int .i64 a1)) rfl rfl rfl ?_
 refine O.assign (v := (.int .i64 a1)) rfl rfl rfl ?_
 refine WL.nil ?_
 obtain ⟨s1, hm1, hm⟩ := bind_some hm
 refine W.via (fun f w => ∃ v4 : Value, f 5 = v4 ∧ Inv w0 w [ownI (α := Int) v4 3 s1]) ?_ ?_
 ·
  refine W.block ?_
  have H := H.keep [0, 2] [boxI b1 24 [(.string a0.Name), va0_0], ownI (α := Int) (.slice none 0 0) 3 ([] : List Int)] rfl (by decide)
  refine W.loopR hm1 (fun s f w => ∃ z3 : Int, ∃ z4 : (List Int), ∃ v2 : Value, (z3, z4) = s ∧ f 1 = (.int .i64 a1) ∧ f 2 = (.pointer (some ⟨b1, 0, none⟩)) ∧ f 5 = v2 ∧ f 6 = (.int .i64 z3) ∧ Inv w0 w [boxI b1 24 [(.string a0.Name), va0_0], ownI (α := Int) v2 3 z4]) ?_ ?_
  ·
   exact ⟨_, _, (.slice none 0 0), rfl, rfl, rfl, rfl, rfl, H⟩
  ·
   rintro _ st f w ⟨z3, z4, v2, rfl, hf1, hf2, hf5, hf6, H⟩ hm2
   obtain ⟨u1, rfl⟩ := up4 hf1 hf2 hf5 hf6
   refine W.seq ?_
   refine W.seq ?_
   refine W.region ?_
   refine O.move (v := (.int .i64 z3)) rfl rfl rfl ?_
   refine O.fieldAddr fd24_1 rfl rfl rfl ?_
   refine O.load sc22 rfl rfl rfl (H.cell 0 rfl 1 _ rfl) ?_
   refine O.lenS Try.underlying22 (H.arg ha0_0) rfl rfl rfl ?_
   refine O.lss rfl rfl rfl rfl ?_
   refine WL.nil ?_
   rcases ite_some hm2 with ⟨hc1, hm2⟩ | ⟨hc1, hm2⟩
   ·
    refine W.cond_true (congrArg Value.bool hc1) ?_
    refine W.skip ?_
    refine W.seq ?_
    refine W.block ?_
    obtain ⟨x1, hx1, hm2⟩ := bind_some hm2
    obtain ⟨t1, ht1, hm2⟩ := bind_some hm2
    obtain ⟨x2, hx2, hm2⟩ := bind_some hm2
    obtain ⟨t2, ht2, hm2⟩ := bind_some hm2
    obtain ⟨wd1, rfl⟩ : ∃ x, x = w := ⟨w, rfl⟩
    refine W.draw 15 (fun k v wk => match k with | 0 => v = v2 | 1 => v = (.pointer (some (Addr.add (Addr.mk b1 0 none) 1))) | 2 => v = va0_0 | 3 => v = (.int .i64 z3) | 4 => ∃ p1 : Addr, v = (.pointer (some p1)) ∧ ElemAt wk p1 x1 | 5 => v = (.int .i64 x1) | 6 => v = (.pointer (some (Addr.add (Addr.mk b1 0 none) 1))) | 7 => v = va0_0 | 8 => v = (.int .i64 z3) | 9 => v = (.int .i64 a1) | 10 => v = (.int .i64 t1) | 11 => ∃ p2 : Addr, v = (.pointer (some p2)) ∧ ElemAt wk p2 x2 | 12 => v = (.int .i64 x2) | 13 => v = (.int .i64 t2) | 14 => OwnR wd1 wk v 3 ([t2] : List Int) | _ => True) (by intro k v w w' h hb; match k, h with | 0, h => exact h | 1, h => exact h | 2, h => exact h | 3, h => exact h | 4, ⟨p, e, hp⟩ => exact ⟨p, e, hp.mono hb⟩ | 5, h => exact h | 6, h => exact h | 7, h => exact h | 8, h => exact h | 9, h => exact h | 10, h => exact h | 11, ⟨p, e, hp⟩ => exact ⟨p, e, hp.mono hb⟩ | 12, h => exact h | 13, h => exact h | 14, h => exact OwnR.mono h hb | _ + 15, h => exact h) fol (by kernel_rfl) ?_ ?_
    ·
     refine ⟨⟨⟨⟨⟨⟨⟨⟨⟨⟨⟨⟨⟨⟨⟨trivial, ?_⟩, ?_⟩, ?_⟩, ?_⟩, ?_⟩, ?_⟩, ?_⟩, ?_⟩, ?_⟩, ?_⟩, ?_⟩, ?_⟩, ?_⟩, ?_⟩, ?_⟩
     ·
      intro f wk hx hf hd
      have H := H.ext hx
      have hf5 : f 5 = v2 := hf 5 rfl
      obtain ⟨u2, rfl⟩ := up1 hf5
      refine O.move (v := v2) rfl rfl rfl ?_
      exact WL.nil ⟨Below.refl _ _, _, rfl, rfl⟩
     ·
      intro f wk hx hf hd
      have H := H.ext hx
      have hf2 : f 2 = (.pointer (some ⟨b1, 0, none⟩)) := hf 2 rfl
      obtain ⟨u3, rfl⟩ := up1 hf2
      refine O.fieldAddr fd24_1 rfl rfl rfl ?_
      exact WL.nil ⟨Below.refl _ _, _, rfl, rfl⟩
     ·
      intro f wk hx hf hd
      have H := H.ext hx
      have hf17 : f 17 = (.pointer (some (Addr.add (Addr.mk b1 0 none) 1))) := hd 1 rfl
      obtain ⟨u4, rfl⟩ := up1 hf17
      refine O.load sc22 rfl rfl rfl (H.cell 0 rfl 1 _ rfl) ?_
      exact WL.nil ⟨Below.refl _ _, _, rfl, rfl⟩
     ·
      intro f wk hx hf hd
      have H := H.ext hx
      have hf6 : f 6 = (.int .i64 z3) := hf 6 rfl
      obtain ⟨u5, rfl⟩ := up1 hf6
      refine O.move (v := (.int .i64 z3)) rfl rfl rfl ?_
      exact WL.nil ⟨Below.refl _ _, _, rfl, rfl⟩
     ·
      intro f wk hx hf hd
      have H := H.ext hx
      have hf18 : f 18 = va0_0 := hd 2 rfl
      have hf19 : f 19 = (.int .i64 z3) := hd 3 rfl
      obtain ⟨u6, rfl⟩ := up2 hf18 hf19
      refine O.indexAddr Try.underlying22 sz3 (H.arg ha0_0) hx1 rfl rfl rfl rfl ?_
      intro p1 hp1
      exact WL.nil ⟨Below.refl _ _, _, rfl, ⟨_, rfl, hp1⟩⟩
     ·
      intro f wk hx hf hd
      have H := H.ext hx
      obtain ⟨p1, hf20, hp1⟩ : ∃ p1 : Addr, f 20 = (.pointer (some p1)) ∧ ElemAt wk p1 x1 := hd 4 rfl
      obtain ⟨u7, rfl⟩ := up1 hf20
      refine O.load sc3 rfl rfl rfl (hp1.flat 0 _ rfl) ?_
      exact WL.nil ⟨Below.refl _ _, _, rfl, rfl⟩
     ·
      intro f wk hx hf hd
      have H := H.ext hx
      have hf2 : f 2 = (.pointer (some ⟨b1, 0, none⟩)) := hf 2 rfl
      obtain ⟨u8, rfl⟩ := up1 hf2
      refine O.fieldAddr fd24_1 rfl rfl rfl ?_
      exact WL.nil ⟨Below.refl _ _, _, rfl, rfl⟩
     ·
      intro f wk hx hf hd
      have H := H.ext hx
      have hf22 : f 22 = (.pointer (some (Addr.add (Addr.mk b1 0 none) 1))) := hd 6 rfl
      obtain ⟨u9, rfl⟩ := up1 hf22
      refine O.load sc22 rfl rfl rfl (H.cell 0 rfl 1 _ rfl) ?_
      exact WL.nil ⟨Below.refl _ _, _, rfl, rfl⟩
     ·
      intro f wk hx hf hd
      have H := H.ext hx
      have hf6 : f 6 = (.int .i64 z3) := hf 6 rfl
      obtain ⟨u10, rfl⟩ := up1 hf6
      refine O.move (v := (.int .i64 z3)) rfl rfl rfl ?_
      exact WL.nil ⟨Below.refl _ _, _, rfl, rfl⟩
     ·
      intro f wk hx hf hd
      have H := H.ext hx
      have hf1 : f 1 = (.int .i64 a1) := hf 1 rfl
      obtain ⟨u11, rfl⟩ := up1 hf1
      refine O.move (v := (.int .i64 a1)) rfl rfl rfl ?_
      exact WL.nil ⟨Below.refl _ _, _, rfl, rfl⟩
     ·
      intro f wk hx hf hd
      have H := H.ext hx
      have hf24 : f 24 = (.int .i64 z3) := hd 8 rfl
      have hf25 : f 25 = (.int .i64 a1) := hd 9 rfl
      obtain ⟨u12, rfl⟩ := up2 hf24 hf25
      refine O.sub rfl rfl rfl rfl ht1 ?_
      exact WL.nil ⟨Below.refl _ _, _, rfl, rfl⟩
     ·
      intro f wk hx hf hd
      have H := H.ext hx
      have hf23 : f 23 = va0_0 := hd 7 rfl
      have hf26 : f 26 = (.int .i64 t1) := hd 10 rfl
      obtain ⟨u13, rfl⟩ := up2 hf23 hf26
      refine O.indexAddr Try.underlying22 sz3 (H.arg ha0_0) hx2 rfl rfl rfl rfl ?_
      intro p2 hp2
      exact WL.nil ⟨Below.refl _ _, _, rfl, ⟨_, rfl, hp2⟩⟩
     ·
      intro f wk hx hf hd
      have H := H.ext hx
      obtain ⟨p2, hf27, hp2⟩ : ∃ p2 : Addr, f 27 = (.pointer (some p2)) ∧ ElemAt wk p2 x2 := hd 11 rfl
      obtain ⟨u14, rfl⟩ := up1 hf27
      refine O.load sc3 rfl rfl rfl (hp2.flat 0 _ rfl) ?_
      exact WL.nil ⟨Below.refl _ _, _, rfl, rfl⟩
     ·
      intro f wk hx hf hd
      have H := H.ext hx
      have hf21 : f 21 = (.int .i64 x1) := hd 5 rfl
      have hf28 : f 28 = (.int .i64 x2) := hd 12 rfl
      obtain ⟨u15, rfl⟩ := up2 hf21 hf28
      refine O.sub rfl rfl rfl rfl ht2 ?_
      exact WL.nil ⟨Below.refl _ _, _, rfl, rfl⟩
     ·
      intro f wk hx hf hd
      have H := H.ext hx
      have hf29 : f 29 = (.int .i64 t2) := hd 13 rfl
      obtain ⟨u16, rfl⟩ := up1 hf29
      refine O.buildSlice (α := Int) [(.int .i64 t2)] [t2] Try.underlying22 el3 (Inv.start (w := _)) rfl rfl rfl rfl rfl rfl rfl ?_
      intro v5 w2 H hb2
      exact WL.nil ⟨hb2, _, rfl, (H.ownR 0 rfl).base hx.size⟩
    ·
     intro f wk hx hf hmd hd
     have hf1 : f 1 = (.int .i64 a1) := hf 1 rfl
     have hf2 : f 2 = (.pointer (some ⟨b1, 0, none⟩)) := hf 2 rfl
     have hf6 : f 6 = (.int .i64 z3) := hf 6 rfl
     have hf16 : f 16 = v2 := hd 0 rfl
     have ho30 : OwnR wd1 wk (f 30) 3 ([t2] : List Int) := hd 14 rfl
     obtain ⟨v5, hf30⟩ : ∃ v5, f 30 = v5 := ⟨_, rfl⟩
     rw [hf30] at ho30
     have H := H.addOwn hx ho30
     obtain ⟨u17, rfl⟩ := up5 hf1 hf2 hf6 hf16 hf30
     obtain ⟨t3, ht3, hm2⟩ := bind_some hm2
     refine O.append 1 Try.underlying22 el3 rfl H rfl (H.own 2 rfl) ht3 rfl rfl rfl rfl ?_
     intro v6 w3 H
     refine O.assign (v := v6) rfl rfl rfl ?_
     refine WL.nil ?_
     refine W.region ?_
     refine O.move (v := (.int .i64 z3)) rfl rfl rfl ?_
     refine O.move (v := (.int .i64 a1)) rfl rfl rfl ?_
     obtain ⟨t4, ht4, hm2⟩ := bind_some hm2
     refine O.add rfl rfl rfl rfl ht4 ?_
     refine O.assign (v := (.int .i64 t4)) rfl rfl rfl ?_
     refine WL.nil ?_
     have H := H.keep [0, 1] [boxI b1 24 [(.string a0.Name), va0_0], ownI (α := Int) v6 3 t3] rfl (by decide)
     obtain rfl := Option.some.inj hm2
     exact ⟨_, rfl, _, _, v6, rfl, rfl, rfl, rfl, rfl, H⟩
   ·
    refine W.cond_false (congrArg Value.bool hc1) ?_
    refine W.exit ?_
    obtain rfl := Option.some.inj hm2
    refine ⟨_, rfl, ?_⟩
    intro hy
    have hq : z4 = s1 := hy
    subst hq
    have H := H.keep [1] [ownI (α := Int) v2 3 z4] rfl (by decide)
    refine xT rfl ?_
    exact ⟨v2, rfl, H⟩
 ·
  rintro f w ⟨v4, hf5, H⟩
  obtain ⟨u18, rfl⟩ := up1 hf5
  refine W.seq ?_
  refine W.region ?_
  refine O.move (v := v4) rfl rfl rfl ?_
  refine O.assign (v := v4) rfl rfl rfl ?_
  refine WL.nil ?_
  refine W.ret ?_
  have hq : s1 = r0 := Option.some.inj (show some s1 = some r0 from hm)
  subst hq
  exact ends1 Try.results66 rfl ⟨_, rfl, H.base, H.ownR 0 rfl⟩

theorem c_noongunref06_Least {w0 : World} (va0 : Value) (a0 : (List Int)) (ha0 : SliceR w0 va0 a0) {r0 : Int} (hm : noongunref06_Least a0 = some r0) :
  Calls Try.prog 21 #[va0] w0 (Ret w0 fun _ v => v = (.int .i64 r0)) := by
 unfold noongunref06_Least at hm
 refine calls_of_W Try.func21 rfl Try.ntmps21 (Nat.le_of_ble_eq_true rfl) ?_
 have H := Inv.start (w := w0)
 refine W.seq ?_
 refine W.region ?_
 refine O.assign (v := (.int .i64 0)) rfl rfl rfl ?_
 refine WL.nil ?_
 refine W.seq ?_
 refine W.region ?_
 refine O.move (v := va0) rfl rfl rfl ?_
 obtain ⟨x1, hx1, hm⟩ := bind_some hm
 obtain ⟨p1, hp1, hrp1⟩ := fix_indexAddr Try.underlying22 sz3 ha0 hx1
 refine hrp1 rfl rfl rfl rfl ?_
 refine O.load sc3 rfl rfl rfl ((hp1.mono H.base).flat 0 _ rfl) ?_
 refine O.assign (v := (.int .i64 x1)) rfl rfl rfl ?_
 refine WL.nil ?_
 refine W.seq ?_
 refine W.seq ?_
 refine W.region ?_
 refine O.move (v := va0) rfl rfl rfl ?_
 refine O.lenS Try.underlying22 (H.arg ha0) rfl rfl rfl ?_
 refine O.move (v := (.int .i64 0)) rfl rfl rfl ?_
 refine WL.nil ?_
 obtain ⟨s1, hm1, hm⟩ := bind_some hm
 refine W.via (fun f w => f 3 = (.int .i64 s1) ∧ Inv w0 w []) ?_ ?_
 ·
  refine W.block ?_
  refine W.rangeL (i := 0) hm1 (fun rem ik1 s f w => ∃ z2 : Int, z2 = s ∧ a0.drop ik1 = rem ∧ f 11 = .int .i64 (ik1 : Int) ∧ f 10 = (.int .i64 ((a0.length : Nat) : Int)) ∧ f 3 = (.int .i64 z2) ∧ f 9 = va0 ∧ Inv w0 w []) ?_ ?_ ?_
  ·
   exact ⟨_, rfl, List.drop_zero, rfl, rfl, rfl, rfl, H⟩
  ·
   rintro yk1 xs ik1 _ st f w ⟨z2, rfl, hdropk1, hf11, hf10, hf3, hf9, H⟩ hm2
   have hltk1 := drop_lt hdropk1; have hixk1 := drop_idx hdropk1
   obtain ⟨u1, rfl⟩ := up4 hf11 hf10 hf3 hf9
   have hinck1 := addI_lt hltk1 (H.arg ha0).len_le
   refine W.seq ?_
   refine W.region ?_
   refine O.lss rfl rfl rfl rfl ?_
   refine WL.nil ?_
   refine W.seq ?_
   refine W.cond_true (congrArg Value.bool (decide_eq_true hltk1)) ?_
   refine W.skip ?_
   refine W.seq ?_
   refine W.block ?_
   refine W.seq ?_
   refine W.region ?_
   obtain ⟨p2, hp2, hrp2⟩ := fix_indexAddr Try.underlying22 sz3 ha0 hixk1
   refine hrp2 rfl rfl rfl rfl ?_
   refine O.load sc3 rfl rfl rfl ((hp2.mono H.base).flat 0 _ rfl) ?_
   refine O.assign (v := (.int .i64 yk1)) rfl rfl rfl ?_
   refine WL.nil ?_
   refine W.region ?_
   refine O.move (v := (.int .i64 z2)) rfl rfl rfl ?_
   refine O.move (v := (.int .i64 yk1)) rfl rfl rfl ?_
   refine O.min2 rfl rfl rfl rfl ?_
   refine O.assign (v := (.int .i64 (min z2 yk1))) rfl rfl rfl ?_
   refine WL.nil ?_
   refine W.region ?_
   refine O.add rfl rfl rfl rfl hinck1 ?_
   refine O.move (v := .int .i64 ((ik1 : Int) + 1)) rfl rfl rfl ?_
   refine WL.nil ?_
   obtain rfl := Option.some.inj hm2
   exact ⟨_, rfl, _, rfl, drop_next hdropk1, rfl, rfl, rfl, rfl, H⟩
  ·
   rintro ik1 _ f w ⟨z2, rfl, hdropk1, hf11, hf10, hf3, hf9, H⟩ hfin
   have hltk1 := drop_end hdropk1
   obtain ⟨u2, rfl⟩ := up4 hf11 hf10 hf3 hf9
   refine W.seq ?_
   refine W.region ?_
   refine O.lss rfl rfl rfl rfl ?_
   refine WL.nil ?_
   refine W.seq ?_
   refine W.cond_false (congrArg Value.bool (decide_eq_false hltk1)) ?_
   refine W.exit ?_
   have hq : z2 = s1 := hfin
   subst hq
   refine xT rfl ?_
   exact ⟨rfl, H⟩
 ·
  rintro f w ⟨hf3, H⟩
  obtain ⟨u3, rfl⟩ := up1 hf3
  refine W.seq ?_
  refine W.region ?_
  refine O.move (v := (.int .i64 s1)) rfl rfl rfl ?_
  refine O.assign (v := (.int .i64 s1)) rfl rfl rfl ?_
  refine WL.nil ?_
  refine W.ret ?_
  have hq : s1 = r0 := Option.some.inj (show some s1 = some r0 from hm)
  subst hq
  exact ends1 Try.results21 rfl ⟨_, rfl, H.base, rfl⟩

theorem c_noongunref06_Greatest {w0 : World} (va0 : Value) (a0 : (List Int)) (ha0 : SliceR w0 va0 a0) {r0 : Int} (hm : noongunref06_Greatest a0 = some r0) :
  Calls Try.prog 22 #[va0] w0 (Ret w0 fun _ v => v = (.int .i64 r0)) := by
 unfold noongunref06_Greatest at hm
 refine calls_of_W Try.func22 rfl Try.ntmps22 (Nat.le_of_ble_eq_true rfl) ?_
 have H := Inv.start (w := w0)
 refine W.seq ?_
 refine W.region ?_
 refine O.assign (v := (.int .i64 0)) rfl rfl rfl ?_
 refine WL.nil ?_
 refine W.seq ?_
 refine W.region ?_
 refine O.move (v := va0) rfl rfl rfl ?_
 obtain ⟨x1, hx1, hm⟩ := bind_some hm
 obtain ⟨p1, hp1, hrp1⟩ := fix_indexAddr Try.underlying22 sz3 ha0 hx1
 refine hrp1 rfl rfl rfl rfl ?_
 refine O.load sc3 rfl rfl rfl ((hp1.mono H.base).flat 0 _ rfl) ?_
 refine O.assign (v := (.int .i64 x1)) rfl rfl rfl ?_
 refine WL.nil ?_
 refine W.seq ?_
 refine W.seq ?_
 refine W.region ?_
 refine O.move (v := va0) rfl rfl rfl ?_
 refine O.lenS Try.underlying22 (H.arg ha0) rfl rfl rfl ?_
 refine O.move (v := (.int .i64 0)) rfl rfl rfl ?_
 refine WL.nil ?_
 obtain ⟨s1, hm1, hm⟩ := bind_some hm
 refine W.via (fun f w => f 3 = (.int .i64 s1) ∧ Inv w0 w []) ?_ ?_
 ·
  refine W.block ?_
  refine W.rangeL (i := 0) hm1 (fun rem ik1 s f w => ∃ z2 : Int, z2 = s ∧ a0.drop ik1 = rem ∧ f 11 = .int .i64 (ik1 : Int) ∧ f 10 = (.int .i64 ((a0.length : Nat) : Int)) ∧ f 3 = (.int .i64 z2) ∧ f 9 = va0 ∧ Inv w0 w []) ?_ ?_ ?_
  ·
   exact ⟨_, rfl, List.drop_zero, rfl, rfl, rfl, rfl, H⟩
  ·
   rintro yk1 xs ik1 _ st f w ⟨z2, rfl, hdropk1, hf11, hf10, hf3, hf9, H⟩ hm2
   have hltk1 := drop_lt hdropk1; have hixk1 := drop_idx hdropk1
   obtain ⟨u1, rfl⟩ := up4 hf11 hf10 hf3 hf9
   have hinck1 := addI_lt hltk1 (H.arg ha0).len_le
   refine W.seq ?_
   refine W.region ?_
   refine O.lss rfl rfl rfl rfl ?_
   refine WL.nil ?_
   refine W.seq ?_
   refine W.cond_true (congrArg Value.bool (decide_eq_true hltk1)) ?_
   refine W.skip ?_
   refine W.seq ?_
   refine W.block ?_
   refine W.seq ?_
   refine W.region ?_
   obtain ⟨p2, hp2, hrp2⟩ := fix_indexAddr Try.underlying22 sz3 ha0 hixk1
   refine hrp2 rfl rfl rfl rfl ?_
   refine O.load sc3 rfl rfl rfl ((hp2.mono H.base).flat 0 _ rfl) ?_
   refine O.assign (v := (.int .i64 yk1)) rfl rfl rfl ?_
   refine WL.nil ?_
   refine W.region ?_
   refine O.move (v := (.int .i64 z2)) rfl rfl rfl ?_
   refine O.move (v := (.int .i64 yk1)) rfl rfl rfl ?_
   refine O.max2 rfl rfl rfl rfl ?_
   refine O.assign (v := (.int .i64 (max z2 yk1))) rfl rfl rfl ?_
   refine WL.nil ?_
   refine W.region ?_
   refine O.add rfl rfl rfl rfl hinck1 ?_
   refine O.move (v := .int .i64 ((ik1 : Int) + 1)) rfl rfl rfl ?_
   refine WL.nil ?_
   obtain rfl := Option.some.inj hm2
   exact ⟨_, rfl, _, rfl, drop_next hdropk1, rfl, rfl, rfl, rfl, H⟩
  ·
   rintro ik1 _ f w ⟨z2, rfl, hdropk1, hf11, hf10, hf3, hf9, H⟩ hfin
   have hltk1 := drop_end hdropk1
   obtain ⟨u2, rfl⟩ := up4 hf11 hf10 hf3 hf9
   refine W.seq ?_
   refine W.region ?_
   refine O.lss rfl rfl rfl rfl ?_
   refine WL.nil ?_
   refine W.seq ?_
   refine W.cond_false (congrArg Value.bool (decide_eq_false hltk1)) ?_
   refine W.exit ?_
   have hq : z2 = s1 := hfin
   subst hq
   refine xT rfl ?_
   exact ⟨rfl, H⟩
 ·
  rintro f w ⟨hf3, H⟩
  obtain ⟨u3, rfl⟩ := up1 hf3
  refine W.seq ?_
  refine W.region ?_
  refine O.move (v := (.int .i64 s1)) rfl rfl rfl ?_
  refine O.assign (v := (.int .i64 s1)) rfl rfl rfl ?_
  refine WL.nil ?_
  refine W.ret ?_
  have hq : s1 = r0 := Option.some.inj (show some s1 = some r0 from hm)
  subst hq
  exact ends1 Try.results22 rfl ⟨_, rfl, H.base, rfl⟩

theorem c_noongunref06_Abs {w0 : World} (a0 : Int) {r0 : Int} (hm : noongunref06_Abs a0 = some r0) :
  Calls Try.prog 69 #[(.int .i64 a0)] w0 (Ret w0 fun _ v => v = (.int .i64 r0)) := by
 unfold noongunref06_Abs at hm
 refine calls_of_W Try.func69 rfl Try.ntmps69 (Nat.le_of_ble_eq_true rfl) ?_
 have H := Inv.start (w := w0)
 refine W.seq ?_
 refine W.region ?_
 refine O.assign (v := (.int .i64 0)) rfl rfl rfl ?_
 refine WL.nil ?_
 refine W.seq ?_
 refine W.seq ?_
 refine W.region ?_
 refine O.move (v := (.int .i64 a0)) rfl rfl rfl ?_
 refine O.lss rfl rfl rfl rfl ?_
 refine WL.nil ?_
 rcases ite_some hm with ⟨hc1, hm⟩ | ⟨hc1, hm⟩
 ·
  refine W.cond_true (congrArg Value.bool hc1) ?_
  refine W.seq ?_
  refine W.region ?_
  refine O.move (v := (.int .i64 a0)) rfl rfl rfl ?_
  refine O.negW rfl rfl rfl ?_
  refine O.assign (v := (.int .i64 (negW a0))) rfl rfl rfl ?_
  refine WL.nil ?_
  refine W.ret ?_
  have hq : (negW a0) = r0 := Option.some.inj (show some (negW a0) = some r0 from hm)
  subst hq
  exact ends1 Try.results69 rfl ⟨_, rfl, H.base, rfl⟩
 ·
  refine W.cond_false (congrArg Value.bool hc1) ?_
  refine W.skip ?_
  refine W.seq ?_
  refine W.region ?_
  refine O.move (v := (.int .i64 a0)) rfl rfl rfl ?_
  refine O.assign (v := (.int .i64 a0)) rfl rfl rfl ?_
  refine WL.nil ?_
  refine W.ret ?_
  have hq : a0 = r0 := Option.some.inj (show some a0 = some r0 from hm)
  subst hq
  exact ends1 Try.results69 rfl ⟨_, rfl, H.base, rfl⟩

set_option maxRecDepth 20000 in
theorem c_noongunref06_Trial {w0 : World} (va0_0 : Value) (a0 : GBox) (ha0_0 : SliceR w0 va0_0 a0.Errors) {r0 : GTrial} {r1 : Int} (hm : noongunref06_Trial a0 = some (r0, r1)) :
  Calls Try.prog 48 #[(.agg #[(.string a0.Name), va0_0])] w0 (Ret w0 fun _ v => v = .tuple #[(.agg (Flat.cells r0).toArray), (.int .i64 r1)]) := by
 unfold noongunref06_Trial at hm
 refine calls_of_W Try.func48 rfl Try.ntmps48 (Nat.le_of_ble_eq_true rfl) ?_
 have H := Inv.start (w := w0)
 refine W.seq ?_
 refine W.region ?_
 refine O.box [(.string a0.Name), va0_0] H rfl rfl rfl rfl ?_
 intro b1 w1 H hb1
 refine O.alloc [(.string ByteArray.empty), (.int .i64 0), (.int .i64 0), (.int .i64 0), (.int .i64 0)] ze28 H rfl rfl rfl ?_
 intro b2 w2 H hb2
 refine O.assign (v := (.int .i64 0)) rfl rfl rfl ?_
 refine WL.nil ?_
 refine W.seq ?_
 refine W.seq ?_
 refine W.region ?_
 refine O.loadA [(.string a0.Name), va0_0] ag24 rfl rfl rfl rfl (H.cell 0 rfl) ?_
 obtain ⟨t1, hy1, hm⟩ := bind_some hm
 refine O.call Try.call37 rfl rfl rfl (c_noongunref06_ValidBox _ (GBox.mk a0.Name a0.Errors) (H.arg ha0_0) hy1) ?_
 rintro _ w3 hb3 rfl
 have H := H.ext hb3
 refine O.not rfl rfl rfl ?_
 refine WL.nil ?_
 rcases ite_some hm with ⟨hc1, hm⟩ | ⟨hc1, hm⟩
 ·
  refine W.cond_true (congrArg Value.bool hc1) ?_
  refine W.seq ?_
  refine W.region ?_
  refine O.build (v := (.agg (Flat.cells (GTrial.mk ByteArray.empty 0 0 0 0)).toArray)) (fun w => bd28_  w) rfl rfl rfl ?_
  refine O.store 1 0 [(.string ByteArray.empty), (.int .i64 0), (.int .i64 0), (.int .i64 0), (.int .i64 0)] [(.string ByteArray.empty), (.int .i64 0), (.int .i64 0), (.int .i64 0), (.int .i64 0)] sz28 H rfl rfl rfl rfl rfl rfl ⟨⟨rfl, rfl⟩, rfl⟩ (one_cons rfl (one_cons rfl (one_cons rfl (one_cons rfl (one_cons rfl one_nil))))) ?_
  intro w4 H
  refine O.assign (v := (.int .i64 1)) rfl rfl rfl ?_
  refine WL.nil ?_
  refine W.ret ?_
  have hq : ((GTrial.mk ByteArray.empty 0 0 0 0), 1) = (r0, r1) := Option.some.inj (show some ((GTrial.mk ByteArray.empty 0 0 0 0), 1) = some (r0, r1) from hm)
  obtain ⟨he0, hq0⟩ := Prod.mk.inj hq; clear hq; subst he0
  subst hq0
  exact ends2 Try.results48 ⟨_, rfl, run_loadVar_agg ag28 rfl (H.cell 1 rfl)⟩ rfl ⟨_, rfl, H.base, rfl⟩
 ·
  refine W.cond_false (congrArg Value.bool hc1) ?_
  refine W.skip ?_
  refine W.seq ?_
  refine W.region ?_
  refine O.loadA [(.string a0.Name), va0_0] ag24 rfl rfl rfl rfl (H.cell 0 rfl) ?_
  obtain ⟨t2, hy2, hm⟩ := bind_some hm
  refine O.call Try.call66 rfl rfl rfl (c_noongunref06_rates _ (GBox.mk a0.Name a0.Errors) (H.arg ha0_0) _ hy2) ?_
  rintro v1 w5 hb4 ho1
  have H := H.addOwn hb4 ho1
  refine O.assign (v := v1) rfl rfl rfl ?_
  refine WL.nil ?_
  refine W.seq ?_
  refine W.seq ?_
  refine W.region ?_
  refine O.move (v := v1) rfl rfl rfl ?_
  refine O.lenS Try.underlying22 (H.own 2 rfl) rfl rfl rfl ?_
  refine O.lss rfl rfl rfl rfl ?_
  refine WL.nil ?_
  rcases ite_some hm with ⟨hc2, hm⟩ | ⟨hc2, hm⟩
  ·
   refine W.cond_true (congrArg Value.bool hc2) ?_
   refine W.seq ?_
   refine W.region ?_
   refine O.build (v := (.agg (Flat.cells (GTrial.mk ByteArray.empty 0 0 0 0)).toArray)) (fun w => bd28_  w) rfl rfl rfl ?_
   refine O.store 1 0 [(.string ByteArray.empty), (.int .i64 0), (.int .i64 0), (.int .i64 0), (.int .i64 0)] [(.string ByteArray.empty), (.int .i64 0), (.int .i64 0), (.int .i64 0), (.int .i64 0)] sz28 H rfl rfl rfl rfl rfl rfl ⟨⟨rfl, rfl⟩, rfl⟩ (one_cons rfl (one_cons rfl (one_cons rfl (one_cons rfl (one_cons rfl one_nil))))) ?_
   intro w6 H
   refine O.assign (v := (.int .i64 8)) rfl rfl rfl ?_
   refine WL.nil ?_
   refine W.ret ?_
   have hq : ((GTrial.mk ByteArray.empty 0 0 0 0), 8) = (r0, r1) := Option.some.inj (show some ((GTrial.mk ByteArray.empty 0 0 0 0), 8) = some (r0, r1) from hm)
   obtain ⟨he0, hq0⟩ := Prod.mk.inj hq; clear hq; subst he0
   subst hq0
   exact ends2 Try.results48 ⟨_, rfl, run_loadVar_agg ag28 rfl (H.cell 1 rfl)⟩ rfl ⟨_, rfl, H.base, rfl⟩
  ·
   refine W.cond_false (congrArg Value.bool hc2) ?_
   refine W.skip ?_
   refine W.seq ?_
   obtain ⟨t3, hy3, hm⟩ := bind_some hm
   obtain ⟨t4, hy4, hm⟩ := bind_some hm
   refine W.drawA (d := 5) 7 [0, 1, 2, 3, 4, 5, 6] (fun b9 w9 => Inv w0 w9 [boxI b1 24 [(.string a0.Name), va0_0], boxI b2 28 [(.string ByteArray.empty), (.int .i64 0), (.int .i64 0), (.int .i64 0), (.int .i64 0)], ownI (α := Int) v1 3 t2, boxI b9 28 [(.string ByteArray.empty), (.int .i64 0), (.int .i64 0), (.int .i64 0), (.int .i64 0)]]) (fun f => f 2 = (.pointer (some ⟨b2, 0, none⟩)) ∧ f 4 = v1 ∧ f 23 = (.agg (Flat.cells (GTrial.mk a0.Name t3 t4 0 0)).toArray)) fol (by kernel_rfl) rfl ?_ ?_ ?_
   ·
    refine PL.of (fun b w8 _ hx => match b, hx with | none, hx => by exact O.fieldAddr fd24_0 rfl rfl rfl (WL.nil ⟨rfl, hx⟩) | some _, ⟨bb, hv, hx, H⟩ => by exact O.fieldAddr fd24_0 rfl rfl rfl (WL.nil ⟨rfl, bb, hv, hx, H⟩)) ?_
    refine PL.of (fun b w8 _ hx => match b, hx with | none, hx => by have H := H.ext hx; exact O.load sc9 rfl rfl rfl (H.cell 0 rfl 0 _ rfl) (WL.nil ⟨rfl, hx⟩) | some _, ⟨bb, hv, hx, H⟩ => by exact O.load sc9 rfl rfl rfl (H.cell 0 rfl 0 _ rfl) (WL.nil ⟨rfl, bb, hv, hx, H⟩)) ?_
    refine PL.of (fun b w8 _ hx => match b, hx with | none, hx => by exact O.move (v := v1) rfl rfl rfl (WL.nil ⟨rfl, hx⟩) | some _, ⟨bb, hv, hx, H⟩ => by exact O.move (v := v1) rfl rfl rfl (WL.nil ⟨rfl, bb, hv, hx, H⟩)) ?_
    refine PL.of (fun b w8 _ hx => match b, hx with | none, hx => by have H := H.ext hx; exact O.call Try.call21 rfl rfl rfl (c_noongunref06_Least _ _ (H.own 2 rfl) hy3) (by rintro _ _ hb rfl; exact WL.nil ⟨rfl, hx.trans (hb.mono hx.size)⟩) | some _, ⟨bb, hv, hx, H⟩ => by exact O.call Try.call21 rfl rfl rfl (c_noongunref06_Least _ _ (H.own 2 rfl) hy3) (by rintro _ _ hb rfl; exact WL.nil ⟨rfl, bb, hv, hx.trans (hb.mono hx.size), H.ext hb⟩)) ?_
    refine PL.of (fun b w8 _ hx => match b, hx with | none, hx => by exact O.move (v := v1) rfl rfl rfl (WL.nil ⟨rfl, hx⟩) | some _, ⟨bb, hv, hx, H⟩ => by exact O.move (v := v1) rfl rfl rfl (WL.nil ⟨rfl, bb, hv, hx, H⟩)) ?_
    refine PL.of (fun b w8 _ hx => match b, hx with | none, hx => by have H := H.ext hx; exact O.call Try.call22 rfl rfl rfl (c_noongunref06_Greatest _ _ (H.own 2 rfl) hy4) (by rintro _ _ hb rfl; exact WL.nil ⟨rfl, hx.trans (hb.mono hx.size)⟩) | some _, ⟨bb, hv, hx, H⟩ => by exact O.call Try.call22 rfl rfl rfl (c_noongunref06_Greatest _ _ (H.own 2 rfl) hy4) (by rintro _ _ hb rfl; exact WL.nil ⟨rfl, bb, hv, hx.trans (hb.mono hx.size), H.ext hb⟩)) ?_
    refine PL.of (fun b w8 _ hx => match b, hx with | none, hx => by exact O.build (v := (.agg (Flat.cells (GTrial.mk a0.Name t3 t4 0 0)).toArray)) (fun w => bd28_0_1_2 _ _ _ w) rfl rfl rfl (WL.nil ⟨rfl, hx⟩) | some _, ⟨bb, hv, hx, H⟩ => by exact O.build (v := (.agg (Flat.cells (GTrial.mk a0.Name t3 t4 0 0)).toArray)) (fun w => bd28_0_1_2 _ _ _ w) rfl rfl rfl (WL.nil ⟨rfl, bb, hv, hx, H⟩)) ?_
    refine PL.nil ?_
    exact ⟨rfl, rfl, rfl⟩
   ·
    rintro f _ w hx
    have H := H.ext hx
    exact O.alloc [(.string ByteArray.empty), (.int .i64 0), (.int .i64 0), (.int .i64 0), (.int .i64 0)] ze28 H rfl rfl rfl (fun b _ H hb => WL.nil ⟨_, rfl, b, rfl, hx.trans (hb.mono hx.size), H⟩)
   ·
    rintro f w b3 ⟨hf2, hf4, hf23⟩ hmd hx H
    obtain ⟨u1, rfl⟩ := up3 hf2 hf4 hf23
    refine O.store 3 0 [(.string a0.Name), (.int .i64 t3), (.int .i64 t4), (.int .i64 0), (.int .i64 0)] [(.string a0.Name), (.int .i64 t3), (.int .i64 t4), (.int .i64 0), (.int .i64 0)] sz28 H rfl rfl rfl rfl rfl rfl ⟨⟨rfl, rfl⟩, rfl⟩ (one_cons rfl (one_cons rfl (one_cons rfl (one_cons rfl (one_cons rfl one_nil))))) ?_
    intro w7 H
    refine WL.nil ?_
    refine W.seq ?_
    refine W.seq ?_
    refine W.region ?_
    refine O.assign (v := (.int .i64 1)) rfl rfl rfl ?_
    refine WL.nil ?_
    obtain ⟨s1, hm1, hm⟩ := bind_some hm
    refine W.via (fun f w => f 2 = (.pointer (some ⟨b2, 0, none⟩)) ∧ f 5 = (.pointer (some ⟨b3, 0, none⟩)) ∧ Inv w0 w [boxI b2 28 [(.string ByteArray.empty), (.int .i64 0), (.int .i64 0), (.int .i64 0), (.int .i64 0)], boxI b3 28 [(.string a0.Name), (.int .i64 t3), (.int .i64 t4), (.int .i64 s1), (.int .i64 0)]]) ?_ ?_
    ·
     refine W.block ?_
     have H := H.keep [1, 2, 3] [boxI b2 28 [(.string ByteArray.empty), (.int .i64 0), (.int .i64 0), (.int .i64 0), (.int .i64 0)], ownI (α := Int) v1 3 t2, boxI b3 28 [(.string a0.Name), (.int .i64 t3), (.int .i64 t4), (.int .i64 0), (.int .i64 0)]] rfl (by decide)
     refine W.loopR hm1 (fun s f w => ∃ z3 : Int, ∃ z4 : Int, (z3, z4) = s ∧ f 2 = (.pointer (some ⟨b2, 0, none⟩)) ∧ f 4 = v1 ∧ f 5 = (.pointer (some ⟨b3, 0, none⟩)) ∧ f 6 = (.int .i64 z3) ∧ Inv w0 w [boxI b2 28 [(.string ByteArray.empty), (.int .i64 0), (.int .i64 0), (.int .i64 0), (.int .i64 0)], ownI (α := Int) v1 3 t2, boxI b3 28 [(.string a0.Name), (.int .i64 t3), (.int .i64 t4), (.int .i64 z4), (.int .i64 0)]]) ?_ ?_
     ·
      exact ⟨_, _, rfl, rfl, rfl, rfl, rfl, H⟩
     ·
      rintro _ st f w ⟨z3, z4, rfl, hf2, hf4, hf5, hf6, H⟩ hm2
      obtain ⟨u2, rfl⟩ := up4 hf2 hf4 hf5 hf6
      refine W.seq ?_
      refine W.seq ?_
      refine W.region ?_
      refine O.move (v := (.int .i64 z3)) rfl rfl rfl ?_
      refine O.move (v := v1) rfl rfl rfl ?_
      refine O.lenS Try.underlying22 (H.own 1 rfl) rfl rfl rfl ?_
      refine O.lss rfl rfl rfl rfl ?_
      refine WL.nil ?_
      rcases ite_some hm2 with ⟨hc3, hm2⟩ | ⟨hc3, hm2⟩
      ·
       refine W.cond_true (congrArg Value.bool hc3) ?_
       refine W.skip ?_
       refine W.seq ?_
       refine W.block ?_
       obtain ⟨x1, hx1, hm2⟩ := bind_some hm2
       obtain ⟨p1, hp1, hrp1⟩ := fix_indexAddr Try.underlying22 sz3 (H.own 1 rfl) hx1
       obtain ⟨t5, ht5, hm2⟩ := bind_some hm2
       obtain ⟨x2, hx2, hm2⟩ := bind_some hm2
       obtain ⟨p2, hp2, hrp2⟩ := fix_indexAddr Try.underlying22 sz3 (H.own 1 rfl) hx2
       obtain ⟨t6, ht6, hm2⟩ := bind_some hm2
       obtain ⟨t7, hy5, hm2⟩ := bind_some hm2
       refine W.drawN 13 (fun f => f 2 = (.pointer (some ⟨b2, 0, none⟩)) ∧ f 4 = v1 ∧ f 5 = (.pointer (some ⟨b3, 0, none⟩)) ∧ f 6 = (.int .i64 z3) ∧ f 31 = (.int .i64 z4) ∧ f 42 = (.int .i64 t7)) fol (by kernel_rfl) ?_ ?_
       ·
        refine PL.of (fun _ w8 _ hx => O.fieldAddr fd28_3 rfl rfl rfl (WL.nil ⟨rfl, hx⟩)) ?_
        refine PL.of (fun _ w8 _ hx => by have H := H.ext hx; exact O.load sc3 rfl rfl rfl (H.cell 2 rfl 3 _ rfl) (WL.nil ⟨rfl, hx⟩)) ?_
        refine PL.of (fun _ w8 _ hx => O.move (v := v1) rfl rfl rfl (WL.nil ⟨rfl, hx⟩)) ?_
        refine PL.of (fun _ w8 _ hx => O.move (v := (.int .i64 z3)) rfl rfl rfl (WL.nil ⟨rfl, hx⟩)) ?_
        refine PL.of (fun _ w8 _ hx => hrp1 rfl rfl rfl rfl (WL.nil ⟨rfl, hx⟩)) ?_
        refine PL.of (fun _ w8 _ hx => by have hp1 := hp1.mono hx; exact O.load sc3 rfl rfl rfl (hp1.flat 0 _ rfl) (WL.nil ⟨rfl, hx⟩)) ?_
        refine PL.of (fun _ w8 _ hx => O.move (v := v1) rfl rfl rfl (WL.nil ⟨rfl, hx⟩)) ?_
        refine PL.of (fun _ w8 _ hx => O.move (v := (.int .i64 z3)) rfl rfl rfl (WL.nil ⟨rfl, hx⟩)) ?_
        refine PL.of (fun _ w8 _ hx => O.sub rfl rfl rfl rfl ht5 (WL.nil ⟨rfl, hx⟩)) ?_
        refine PL.of (fun _ w8 _ hx => hrp2 rfl rfl rfl rfl (WL.nil ⟨rfl, hx⟩)) ?_
        refine PL.of (fun _ w8 _ hx => by have hp2 := hp2.mono hx; exact O.load sc3 rfl rfl rfl (hp2.flat 0 _ rfl) (WL.nil ⟨rfl, hx⟩)) ?_
        refine PL.of (fun _ w8 _ hx => O.sub rfl rfl rfl rfl ht6 (WL.nil ⟨rfl, hx⟩)) ?_
        refine PL.of (fun _ w8 _ hx => O.call Try.call69 rfl rfl rfl (c_noongunref06_Abs _ hy5) (by rintro _ _ hb rfl; exact WL.nil ⟨rfl, hx.trans (hb.mono hx.size)⟩)) ?_
        refine PL.nil ?_
        exact ⟨rfl, rfl, rfl, rfl, rfl, rfl⟩
       ·
        rintro f w ⟨hf2, hf4, hf5, hf6, hf31, hf42⟩ hmd hx
        have H := H.ext hx
        have hp1 := hp1.mono hx
        have hp2 := hp2.mono hx
        obtain ⟨u3, rfl⟩ := up6 hf2 hf4 hf5 hf6 hf31 hf42
        refine O.max2 rfl rfl rfl rfl ?_
        refine O.fieldAddr fd28_3 rfl rfl rfl ?_
        refine O.store 2 3 [(.int .i64 (max z4 t7))] [(.string a0.Name), (.int .i64 t3), (.int .i64 t4), (.int .i64 (max z4 t7)), (.int .i64 0)] sz3 H rfl rfl rfl rfl rfl rfl ⟨⟨rfl, rfl⟩, rfl⟩ (one_cons rfl one_nil) ?_
        intro w8 H
        clear hp1
        clear hp2
        refine WL.nil ?_
        refine W.region ?_
        refine O.move (v := (.int .i64 z3)) rfl rfl rfl ?_
        obtain ⟨t8, ht8, hm2⟩ := bind_some hm2
        refine O.add rfl rfl rfl rfl ht8 ?_
        refine O.assign (v := (.int .i64 t8)) rfl rfl rfl ?_
        refine WL.nil ?_
        obtain rfl := Option.some.inj hm2
        exact ⟨_, rfl, _, _, rfl, rfl, rfl, rfl, rfl, H⟩
      ·
       refine W.cond_false (congrArg Value.bool hc3) ?_
       refine W.exit ?_
       obtain rfl := Option.some.inj hm2
       refine ⟨_, rfl, ?_⟩
       intro hy
       have hq : z4 = s1 := hy
       subst hq
       have H := H.keep [0, 2] [boxI b2 28 [(.string ByteArray.empty), (.int .i64 0), (.int .i64 0), (.int .i64 0), (.int .i64 0)], boxI b3 28 [(.string a0.Name), (.int .i64 t3), (.int .i64 t4), (.int .i64 z4), (.int .i64 0)]] rfl (by decide)
       refine xT rfl ?_
       exact ⟨rfl, rfl, H⟩
    ·
     rintro f w ⟨hf2, hf5, H⟩
     obtain ⟨u4, rfl⟩ := up2 hf2 hf5
     refine W.seq ?_
     refine W.region ?_
     refine O.fieldAddr fd28_2 rfl rfl rfl ?_
     refine O.load sc3 rfl rfl rfl (H.cell 1 rfl 2 _ rfl) ?_
     refine O.fieldAddr fd28_1 rfl rfl rfl ?_
     refine O.load sc3 rfl rfl rfl (H.cell 1 rfl 1 _ rfl) ?_
     obtain ⟨t9, ht9, hm⟩ := bind_some hm
     refine O.sub rfl rfl rfl rfl ht9 ?_
     refine O.fieldAddr fd28_3 rfl rfl rfl ?_
     refine O.load sc3 rfl rfl rfl (H.cell 1 rfl 3 _ rfl) ?_
     obtain ⟨t10, ht10, hm⟩ := bind_some hm
     refine O.mul rfl rfl rfl rfl ht10 ?_
     obtain ⟨t11, ht11, hm⟩ := bind_some hm
     refine O.add rfl rfl rfl rfl ht11 ?_
     refine O.fieldAddr fd28_4 rfl rfl rfl ?_
     refine O.store 1 4 [(.int .i64 t11)] [(.string a0.Name), (.int .i64 t3), (.int .i64 t4), (.int .i64 s1), (.int .i64 t11)] sz3 H rfl rfl rfl rfl rfl rfl ⟨⟨rfl, rfl⟩, rfl⟩ (one_cons rfl one_nil) ?_
     intro w9 H
     refine WL.nil ?_
     refine W.seq ?_
     refine W.region ?_
     refine O.loadA [(.string a0.Name), (.int .i64 t3), (.int .i64 t4), (.int .i64 s1), (.int .i64 t11)] ag28 rfl rfl rfl rfl (H.cell 1 rfl) ?_
     refine O.store 0 0 [(.string a0.Name), (.int .i64 t3), (.int .i64 t4), (.int .i64 s1), (.int .i64 t11)] [(.string a0.Name), (.int .i64 t3), (.int .i64 t4), (.int .i64 s1), (.int .i64 t11)] sz28 H rfl rfl rfl rfl rfl rfl ⟨⟨rfl, rfl⟩, rfl⟩ (one_cons rfl (one_cons rfl (one_cons rfl (one_cons rfl (one_cons rfl one_nil))))) ?_
     intro w10 H
     refine O.assign (v := (.int .i64 0)) rfl rfl rfl ?_
     refine WL.nil ?_
     refine W.ret ?_
     have hq : ((GTrial.mk a0.Name t3 t4 s1 t11), 0) = (r0, r1) := Option.some.inj (show some ((GTrial.mk a0.Name t3 t4 s1 t11), 0) = some (r0, r1) from hm)
     obtain ⟨he0, hq0⟩ := Prod.mk.inj hq; clear hq; subst he0
     subst hq0
     exact ends2 Try.results48 ⟨_, rfl, run_loadVar_agg ag28 rfl (H.cell 0 rfl)⟩ rfl ⟨_, rfl, H.base, rfl⟩

theorem c_cmp_isNaN_int {w0 : World} (a0 : Int) {r0 : Bool} (hm : cmp_isNaN_int a0 = some r0) :
  Calls Try.prog 100 #[(.int .i64 a0)] w0 (Ret w0 fun _ v => v = (.bool r0)) := by
 unfold cmp_isNaN_int at hm
 refine calls_of_W Try.func100 rfl Try.ntmps100 (Nat.le_of_ble_eq_true rfl) ?_
 have H := Inv.start (w := w0)
 refine W.seq ?_
 refine W.region ?_
 refine O.assign (v := (.bool false)) rfl rfl rfl ?_
 refine WL.nil ?_
 refine W.seq ?_
 refine W.region ?_
 refine O.move (v := (.int .i64 a0)) rfl rfl rfl ?_
 refine O.move (v := (.int .i64 a0)) rfl rfl rfl ?_
 refine O.neq rfl rfl rfl rfl ?_
 refine O.assign (v := (.bool (a0 != a0))) rfl rfl rfl ?_
 refine WL.nil ?_
 refine W.ret ?_
 have hq : (a0 != a0) = r0 := Option.some.inj (show some (a0 != a0) = some r0 from hm)
 subst hq
 exact ends1 Try.results100 rfl ⟨_, rfl, H.base, rfl⟩

set_option maxRecDepth 20000 in
theorem c_cmp_Compare_int {w0 : World} (a0 : Int) (a1 : Int) {r0 : Int} (hm : cmp_Compare_int a0 a1 = some r0) :
  Calls Try.prog 88 #[(.int .i64 a0), (.int .i64 a1)] w0 (Ret w0 fun _ v => v = (.int .i64 r0)) := by
 unfold cmp_Compare_int at hm
 refine calls_of_W Try.func88 rfl Try.ntmps88 (Nat.le_of_ble_eq_true rfl) ?_
 have H := Inv.start (w := w0)
 refine W.seq ?_
 refine W.region ?_
 refine O.assign (v := (.int .i64 0)) rfl rfl rfl ?_
 refine WL.nil ?_
 refine W.seq ?_
 refine W.region ?_
 refine O.move (v := (.int .i64 a0)) rfl rfl rfl ?_
 obtain ⟨t1, hy1, hm⟩ := bind_some hm
 refine O.call Try.call100 rfl rfl rfl (c_cmp_isNaN_int _ hy1) ?_
 rintro _ w1 hb1 rfl
 have H := H.ext hb1
 refine O.assign (v := (.bool t1)) rfl rfl rfl ?_
 refine WL.nil ?_
 refine W.seq ?_
 refine W.region ?_
 refine O.move (v := (.int .i64 a1)) rfl rfl rfl ?_
 obtain ⟨t2, hy2, hm⟩ := bind_some hm
 refine O.call Try.call100 rfl rfl rfl (c_cmp_isNaN_int _ hy2) ?_
 rintro _ w2 hb2 rfl
 have H := H.ext hb2
 refine O.assign (v := (.bool t2)) rfl rfl rfl ?_
 refine WL.nil ?_
 refine W.seq ?_
 refine W.seq ?_
 refine W.region ?_
 refine O.move (v := (.bool t1)) rfl rfl rfl ?_
 refine WL.nil ?_
 rcases ite_some hm with ⟨hc1, hm⟩ | ⟨hc1, hm⟩
 ·
  refine W.cond_true (congrArg Value.bool hc1) ?_
  refine W.seq ?_
  refine W.seq ?_
  refine W.region ?_
  refine O.move (v := (.bool t2)) rfl rfl rfl ?_
  refine WL.nil ?_
  rcases ite_some hm with ⟨hc2, hm⟩ | ⟨hc2, hm⟩
  ·
   refine W.cond_true (congrArg Value.bool hc2) ?_
   refine W.seq ?_
   refine W.region ?_
   refine O.assign (v := (.int .i64 0)) rfl rfl rfl ?_
   refine WL.nil ?_
   refine W.ret ?_
   have hq : 0 = r0 := Option.some.inj (show some 0 = some r0 from hm)
   subst hq
   exact ends1 Try.results88 rfl ⟨_, rfl, H.base, rfl⟩
  ·
   refine W.cond_false (congrArg Value.bool hc2) ?_
   refine W.skip ?_
   refine W.seq ?_
   refine W.region ?_
   refine O.assign (v := (.int .i64 (-1))) rfl rfl rfl ?_
   refine WL.nil ?_
   refine W.ret ?_
   have hq : (-1) = r0 := Option.some.inj (show some (-1) = some r0 from hm)
   subst hq
   exact ends1 Try.results88 rfl ⟨_, rfl, H.base, rfl⟩
 ·
  refine W.cond_false (congrArg Value.bool hc1) ?_
  refine W.skip ?_
  refine W.seq ?_
  refine W.seq ?_
  refine W.region ?_
  refine O.move (v := (.bool t2)) rfl rfl rfl ?_
  refine WL.nil ?_
  rcases ite_some hm with ⟨hc3, hm⟩ | ⟨hc3, hm⟩
  ·
   refine W.cond_true (congrArg Value.bool hc3) ?_
   refine W.seq ?_
   refine W.region ?_
   refine O.assign (v := (.int .i64 1)) rfl rfl rfl ?_
   refine WL.nil ?_
   refine W.ret ?_
   have hq : 1 = r0 := Option.some.inj (show some 1 = some r0 from hm)
   subst hq
   exact ends1 Try.results88 rfl ⟨_, rfl, H.base, rfl⟩
  ·
   refine W.cond_false (congrArg Value.bool hc3) ?_
   refine W.skip ?_
   refine W.seq ?_
   refine W.seq ?_
   refine W.region ?_
   refine O.move (v := (.int .i64 a0)) rfl rfl rfl ?_
   refine O.move (v := (.int .i64 a1)) rfl rfl rfl ?_
   refine O.lss rfl rfl rfl rfl ?_
   refine WL.nil ?_
   rcases ite_some hm with ⟨hc4, hm⟩ | ⟨hc4, hm⟩
   ·
    refine W.cond_true (congrArg Value.bool hc4) ?_
    refine W.seq ?_
    refine W.region ?_
    refine O.assign (v := (.int .i64 (-1))) rfl rfl rfl ?_
    refine WL.nil ?_
    refine W.ret ?_
    have hq : (-1) = r0 := Option.some.inj (show some (-1) = some r0 from hm)
    subst hq
    exact ends1 Try.results88 rfl ⟨_, rfl, H.base, rfl⟩
   ·
    refine W.cond_false (congrArg Value.bool hc4) ?_
    refine W.skip ?_
    refine W.seq ?_
    refine W.seq ?_
    refine W.region ?_
    refine O.move (v := (.int .i64 a0)) rfl rfl rfl ?_
    refine O.move (v := (.int .i64 a1)) rfl rfl rfl ?_
    refine O.gtr rfl rfl rfl rfl ?_
    refine WL.nil ?_
    rcases ite_some hm with ⟨hc5, hm⟩ | ⟨hc5, hm⟩
    ·
     refine W.cond_true (congrArg Value.bool hc5) ?_
     refine W.seq ?_
     refine W.region ?_
     refine O.assign (v := (.int .i64 1)) rfl rfl rfl ?_
     refine WL.nil ?_
     refine W.ret ?_
     have hq : 1 = r0 := Option.some.inj (show some 1 = some r0 from hm)
     subst hq
     exact ends1 Try.results88 rfl ⟨_, rfl, H.base, rfl⟩
    ·
     refine W.cond_false (congrArg Value.bool hc5) ?_
     refine W.skip ?_
     refine W.seq ?_
     refine W.region ?_
     refine O.assign (v := (.int .i64 0)) rfl rfl rfl ?_
     refine WL.nil ?_
     refine W.ret ?_
     have hq : 0 = r0 := Option.some.inj (show some 0 = some r0 from hm)
     subst hq
     exact ends1 Try.results88 rfl ⟨_, rfl, H.base, rfl⟩

theorem c_cmp_isNaN_string {w0 : World} (a0 : ByteArray) {r0 : Bool} (hm : cmp_isNaN_string a0 = some r0) :
  Calls Try.prog 101 #[(.string a0)] w0 (Ret w0 fun _ v => v = (.bool r0)) := by
 unfold cmp_isNaN_string at hm
 refine calls_of_W Try.func101 rfl Try.ntmps101 (Nat.le_of_ble_eq_true rfl) ?_
 have H := Inv.start (w := w0)
 refine W.seq ?_
 refine W.region ?_
 refine O.assign (v := (.bool false)) rfl rfl rfl ?_
 refine WL.nil ?_
 refine W.seq ?_
 refine W.region ?_
 refine O.move (v := (.string a0)) rfl rfl rfl ?_
 refine O.move (v := (.string a0)) rfl rfl rfl ?_
 refine O.neqS rfl rfl rfl rfl ?_
 refine O.assign (v := (.bool (!(decide (a0 = a0))))) rfl rfl rfl ?_
 refine WL.nil ?_
 refine W.ret ?_
 have hq : (!(decide (a0 = a0))) = r0 := Option.some.inj (show some (!(decide (a0 = a0))) = some r0 from hm)
 subst hq
 exact ends1 Try.results101 rfl ⟨_, rfl, H.base, rfl⟩

set_option maxRecDepth 20000 in
theorem c_cmp_Compare_string {w0 : World} (a0 : ByteArray) (a1 : ByteArray) {r0 : Int} (hm : cmp_Compare_string a0 a1 = some r0) :
  Calls Try.prog 89 #[(.string a0), (.string a1)] w0 (Ret w0 fun _ v => v = (.int .i64 r0)) := by
 unfold cmp_Compare_string at hm
 refine calls_of_W Try.func89 rfl Try.ntmps89 (Nat.le_of_ble_eq_true rfl) ?_
 have H := Inv.start (w := w0)
 refine W.seq ?_
 refine W.region ?_
 refine O.assign (v := (.int .i64 0)) rfl rfl rfl ?_
 refine WL.nil ?_
 refine W.seq ?_
 refine W.region ?_
 refine O.move (v := (.string a0)) rfl rfl rfl ?_
 obtain ⟨t1, hy1, hm⟩ := bind_some hm
 refine O.call Try.call101 rfl rfl rfl (c_cmp_isNaN_string _ hy1) ?_
 rintro _ w1 hb1 rfl
 have H := H.ext hb1
 refine O.assign (v := (.bool t1)) rfl rfl rfl ?_
 refine WL.nil ?_
 refine W.seq ?_
 refine W.region ?_
 refine O.move (v := (.string a1)) rfl rfl rfl ?_
 obtain ⟨t2, hy2, hm⟩ := bind_some hm
 refine O.call Try.call101 rfl rfl rfl (c_cmp_isNaN_string _ hy2) ?_
 rintro _ w2 hb2 rfl
 have H := H.ext hb2
 refine O.assign (v := (.bool t2)) rfl rfl rfl ?_
 refine WL.nil ?_
 refine W.seq ?_
 refine W.seq ?_
 refine W.region ?_
 refine O.move (v := (.bool t1)) rfl rfl rfl ?_
 refine WL.nil ?_
 rcases ite_some hm with ⟨hc1, hm⟩ | ⟨hc1, hm⟩
 ·
  refine W.cond_true (congrArg Value.bool hc1) ?_
  refine W.seq ?_
  refine W.seq ?_
  refine W.region ?_
  refine O.move (v := (.bool t2)) rfl rfl rfl ?_
  refine WL.nil ?_
  rcases ite_some hm with ⟨hc2, hm⟩ | ⟨hc2, hm⟩
  ·
   refine W.cond_true (congrArg Value.bool hc2) ?_
   refine W.seq ?_
   refine W.region ?_
   refine O.assign (v := (.int .i64 0)) rfl rfl rfl ?_
   refine WL.nil ?_
   refine W.ret ?_
   have hq : 0 = r0 := Option.some.inj (show some 0 = some r0 from hm)
   subst hq
   exact ends1 Try.results89 rfl ⟨_, rfl, H.base, rfl⟩
  ·
   refine W.cond_false (congrArg Value.bool hc2) ?_
   refine W.skip ?_
   refine W.seq ?_
   refine W.region ?_
   refine O.assign (v := (.int .i64 (-1))) rfl rfl rfl ?_
   refine WL.nil ?_
   refine W.ret ?_
   have hq : (-1) = r0 := Option.some.inj (show some (-1) = some r0 from hm)
   subst hq
   exact ends1 Try.results89 rfl ⟨_, rfl, H.base, rfl⟩
 ·
  refine W.cond_false (congrArg Value.bool hc1) ?_
  refine W.skip ?_
  refine W.seq ?_
  refine W.seq ?_
  refine W.region ?_
  refine O.move (v := (.bool t2)) rfl rfl rfl ?_
  refine WL.nil ?_
  rcases ite_some hm with ⟨hc3, hm⟩ | ⟨hc3, hm⟩
  ·
   refine W.cond_true (congrArg Value.bool hc3) ?_
   refine W.seq ?_
   refine W.region ?_
   refine O.assign (v := (.int .i64 1)) rfl rfl rfl ?_
   refine WL.nil ?_
   refine W.ret ?_
   have hq : 1 = r0 := Option.some.inj (show some 1 = some r0 from hm)
   subst hq
   exact ends1 Try.results89 rfl ⟨_, rfl, H.base, rfl⟩
  ·
   refine W.cond_false (congrArg Value.bool hc3) ?_
   refine W.skip ?_
   refine W.seq ?_
   refine W.seq ?_
   refine W.region ?_
   refine O.move (v := (.string a0)) rfl rfl rfl ?_
   refine O.move (v := (.string a1)) rfl rfl rfl ?_
   refine O.lssS rfl rfl rfl rfl ?_
   refine WL.nil ?_
   rcases ite_some hm with ⟨hc4, hm⟩ | ⟨hc4, hm⟩
   ·
    refine W.cond_true (congrArg Value.bool hc4) ?_
    refine W.seq ?_
    refine W.region ?_
    refine O.assign (v := (.int .i64 (-1))) rfl rfl rfl ?_
    refine WL.nil ?_
    refine W.ret ?_
    have hq : (-1) = r0 := Option.some.inj (show some (-1) = some r0 from hm)
    subst hq
    exact ends1 Try.results89 rfl ⟨_, rfl, H.base, rfl⟩
   ·
    refine W.cond_false (congrArg Value.bool hc4) ?_
    refine W.skip ?_
    refine W.seq ?_
    refine W.seq ?_
    refine W.region ?_
    refine O.move (v := (.string a0)) rfl rfl rfl ?_
    refine O.move (v := (.string a1)) rfl rfl rfl ?_
    refine O.gtrS rfl rfl rfl rfl ?_
    refine WL.nil ?_
    rcases ite_some hm with ⟨hc5, hm⟩ | ⟨hc5, hm⟩
    ·
     refine W.cond_true (congrArg Value.bool hc5) ?_
     refine W.seq ?_
     refine W.region ?_
     refine O.assign (v := (.int .i64 1)) rfl rfl rfl ?_
     refine WL.nil ?_
     refine W.ret ?_
     have hq : 1 = r0 := Option.some.inj (show some 1 = some r0 from hm)
     subst hq
     exact ends1 Try.results89 rfl ⟨_, rfl, H.base, rfl⟩
    ·
     refine W.cond_false (congrArg Value.bool hc5) ?_
     refine W.skip ?_
     refine W.seq ?_
     refine W.region ?_
     refine O.assign (v := (.int .i64 0)) rfl rfl rfl ?_
     refine WL.nil ?_
     refine W.ret ?_
     have hq : 0 = r0 := Option.some.inj (show some 0 = some r0 from hm)
     subst hq
     exact ends1 Try.results89 rfl ⟨_, rfl, H.base, rfl⟩

theorem c_cmp_Or_int {w0 : World} (va0 : Value) (a0 : (List Int)) (ha0 : SliceR w0 va0 a0) {r0 : Int} (hm : cmp_Or_int a0 = some r0) :
  Calls Try.prog 87 #[va0] w0 (Ret w0 fun _ v => v = (.int .i64 r0)) := by
 unfold cmp_Or_int at hm
 refine calls_of_W Try.func87 rfl Try.ntmps87 (Nat.le_of_ble_eq_true rfl) ?_
 have H := Inv.start (w := w0)
 refine W.seq ?_
 refine W.region ?_
 refine O.assign (v := (.int .i64 0)) rfl rfl rfl ?_
 refine WL.nil ?_
 refine W.seq ?_
 refine W.region ?_
 refine O.assign (v := (.int .i64 0)) rfl rfl rfl ?_
 refine WL.nil ?_
 refine W.seq ?_
 refine W.seq ?_
 refine W.region ?_
 refine O.move (v := va0) rfl rfl rfl ?_
 refine O.lenS Try.underlying22 (H.arg ha0) rfl rfl rfl ?_
 refine O.move (v := (.int .i64 0)) rfl rfl rfl ?_
 refine WL.nil ?_
 obtain ⟨o1, hm1, hm⟩ := bind_some hm
 refine W.via (fun f w => o1 = .next () ∧ f 3 = (.int .i64 0) ∧ Inv w0 w []) ?_ ?_
 ·
  refine W.block ?_
  refine W.rangeL (i := 0) hm1 (fun rem ik1 s f w => () = s ∧ a0.drop ik1 = rem ∧ f 8 = .int .i64 (ik1 : Int) ∧ f 7 = (.int .i64 ((a0.length : Nat) : Int)) ∧ f 3 = (.int .i64 0) ∧ f 6 = va0 ∧ Inv w0 w []) ?_ ?_ ?_
  ·
   exact ⟨rfl, List.drop_zero, rfl, rfl, rfl, rfl, H⟩
  ·
   rintro yk1 xs ik1 _ st f w ⟨rfl, hdropk1, hf8, hf7, hf3, hf6, H⟩ hm2
   have hltk1 := drop_lt hdropk1; have hixk1 := drop_idx hdropk1
   obtain ⟨u1, rfl⟩ := up4 hf8 hf7 hf3 hf6
   have hinck1 := addI_lt hltk1 (H.arg ha0).len_le
   refine W.seq ?_
   refine W.region ?_
   refine O.lss rfl rfl rfl rfl ?_
   refine WL.nil ?_
   refine W.seq ?_
   refine W.cond_true (congrArg Value.bool (decide_eq_true hltk1)) ?_
   refine W.skip ?_
   refine W.seq ?_
   refine W.block ?_
   refine W.seq ?_
   refine W.region ?_
   obtain ⟨p1, hp1, hrp1⟩ := fix_indexAddr Try.underlying22 sz3 ha0 hixk1
   refine hrp1 rfl rfl rfl rfl ?_
   refine O.load sc3 rfl rfl rfl ((hp1.mono H.base).flat 0 _ rfl) ?_
   refine O.assign (v := (.int .i64 yk1)) rfl rfl rfl ?_
   refine WL.nil ?_
   refine W.seq ?_
   refine W.region ?_
   refine O.move (v := (.int .i64 yk1)) rfl rfl rfl ?_
   refine O.move (v := (.int .i64 0)) rfl rfl rfl ?_
   refine O.neq rfl rfl rfl rfl ?_
   refine WL.nil ?_
   rcases ite_some hm2 with ⟨hc1, hm2⟩ | ⟨hc1, hm2⟩
   ·
    refine W.cond_true (congrArg Value.bool hc1) ?_
    refine W.seq ?_
    refine W.region ?_
    refine O.move (v := (.int .i64 yk1)) rfl rfl rfl ?_
    refine O.assign (v := (.int .i64 yk1)) rfl rfl rfl ?_
    refine WL.nil ?_
    refine W.ret ?_
    obtain rfl := Option.some.inj hm2
    refine ⟨_, rfl, ?_⟩
    rintro rfl
    have hq : yk1 = r0 := Option.some.inj (show some yk1 = some r0 from hm)
    subst hq
    exact ends1 Try.results87 rfl ⟨_, rfl, H.base, rfl⟩
   ·
    refine W.cond_false (congrArg Value.bool hc1) ?_
    refine W.skip ?_
    refine W.region ?_
    refine O.add rfl rfl rfl rfl hinck1 ?_
    refine O.move (v := .int .i64 ((ik1 : Int) + 1)) rfl rfl rfl ?_
    refine WL.nil ?_
    obtain rfl := Option.some.inj hm2
    exact ⟨_, rfl, rfl, drop_next hdropk1, rfl, rfl, rfl, rfl, H⟩
  ·
   rintro ik1 _ f w ⟨rfl, hdropk1, hf8, hf7, hf3, hf6, H⟩ hfin
   have hltk1 := drop_end hdropk1
   obtain ⟨u2, rfl⟩ := up4 hf8 hf7 hf3 hf6
   refine W.seq ?_
   refine W.region ?_
   refine O.lss rfl rfl rfl rfl ?_
   refine WL.nil ?_
   refine W.seq ?_
   refine W.cond_false (congrArg Value.bool (decide_eq_false hltk1)) ?_
   refine W.exit ?_
   obtain rfl : Ctl.next () = o1 := hfin
   refine xT rfl ?_
   exact ⟨rfl, rfl, H⟩
 ·
  rintro f w ⟨rfl, hf3, H⟩
  obtain ⟨u3, rfl⟩ := up1 hf3
  refine W.seq ?_
  refine W.region ?_
  refine O.move (v := (.int .i64 0)) rfl rfl rfl ?_
  refine O.assign (v := (.int .i64 0)) rfl rfl rfl ?_
  refine WL.nil ?_
  refine W.ret ?_
  have hq : 0 = r0 := Option.some.inj (show some 0 = some r0 from hm)
  subst hq
  exact ends1 Try.results87 rfl ⟨_, rfl, H.base, rfl⟩

theorem c_rate_Ranked_c1 {w0 : World} (a0 : GTrial) (a1 : GTrial) {r0 : Int} (hm : rate_Ranked_c1 a0 a1 = some r0) :
  Calls Try.prog 86 #[(.agg (Flat.cells a0).toArray), (.agg (Flat.cells a1).toArray)] w0 (Ret w0 fun _ v => v = (.int .i64 r0)) := by
 unfold rate_Ranked_c1 at hm
 refine calls_of_W Try.func86 rfl Try.ntmps86 (Nat.le_of_ble_eq_true rfl) ?_
 have H := Inv.start (w := w0)
 refine W.seq ?_
 refine W.region ?_
 refine O.box [(.string a0.Name), (.int .i64 a0.Least), (.int .i64 a0.Greatest), (.int .i64 a0.Leap), (.int .i64 a0.Number)] H rfl rfl rfl rfl ?_
 intro b1 w1 H hb1
 refine O.box [(.string a1.Name), (.int .i64 a1.Least), (.int .i64 a1.Greatest), (.int .i64 a1.Leap), (.int .i64 a1.Number)] H rfl rfl rfl rfl ?_
 intro b2 w2 H hb2
 refine O.assign (v := (.int .i64 0)) rfl rfl rfl ?_
 refine WL.nil ?_
 refine W.seq ?_
 obtain ⟨t1, hy1, hm⟩ := bind_some hm
 refine W.drawN 9 (fun f => f 9 = (.int .i64 t1) ∧ f 11 = (.string a0.Name) ∧ f 13 = (.string a1.Name)) fol (by kernel_rfl) ?_ ?_
 ·
  refine PL.of (fun _ w8 _ hx => O.fieldAddr fd28_4 rfl rfl rfl (WL.nil ⟨rfl, hx⟩)) ?_
  refine PL.of (fun _ w8 _ hx => by have H := H.ext hx; exact O.load sc3 rfl rfl rfl (H.cell 0 rfl 4 _ rfl) (WL.nil ⟨rfl, hx⟩)) ?_
  refine PL.of (fun _ w8 _ hx => O.fieldAddr fd28_4 rfl rfl rfl (WL.nil ⟨rfl, hx⟩)) ?_
  refine PL.of (fun _ w8 _ hx => by have H := H.ext hx; exact O.load sc3 rfl rfl rfl (H.cell 1 rfl 4 _ rfl) (WL.nil ⟨rfl, hx⟩)) ?_
  refine PL.of (fun _ w8 _ hx => O.call Try.call88 rfl rfl rfl (c_cmp_Compare_int _ _ hy1) (by rintro _ _ hb rfl; exact WL.nil ⟨rfl, hx.trans (hb.mono hx.size)⟩)) ?_
  refine PL.of (fun _ w8 _ hx => O.fieldAddr fd28_0 rfl rfl rfl (WL.nil ⟨rfl, hx⟩)) ?_
  refine PL.of (fun _ w8 _ hx => by have H := H.ext hx; exact O.load sc9 rfl rfl rfl (H.cell 0 rfl 0 _ rfl) (WL.nil ⟨rfl, hx⟩)) ?_
  refine PL.of (fun _ w8 _ hx => O.fieldAddr fd28_0 rfl rfl rfl (WL.nil ⟨rfl, hx⟩)) ?_
  refine PL.of (fun _ w8 _ hx => by have H := H.ext hx; exact O.load sc9 rfl rfl rfl (H.cell 1 rfl 0 _ rfl) (WL.nil ⟨rfl, hx⟩)) ?_
  refine PL.nil ?_
  exact ⟨rfl, rfl, rfl⟩
 ·
  rintro f w ⟨hf9, hf11, hf13⟩ hmd hx
  have H := H.ext hx
  obtain ⟨u1, rfl⟩ := up3 hf9 hf11 hf13
  obtain ⟨t2, hy2, hm⟩ := bind_some hm
  refine O.call Try.call89 rfl rfl rfl (c_cmp_Compare_string _ _ hy2) ?_
  rintro _ w3 hb3 rfl
  have H := H.ext hb3
  refine O.buildSlice (α := Int) [(.int .i64 t1), (.int .i64 t2)] [t1, t2] Try.underlying22 el3 H rfl rfl rfl rfl rfl rfl rfl ?_
  intro v1 w4 H hb4
  obtain ⟨t3, hy3, hm⟩ := bind_some hm
  refine O.call Try.call87 rfl rfl rfl (c_cmp_Or_int _ _ (H.own 2 rfl) hy3) ?_
  rintro _ w5 hb5 rfl
  have H := H.ext hb5
  refine O.assign (v := (.int .i64 t3)) rfl rfl rfl ?_
  refine WL.nil ?_
  refine W.ret ?_
  have hq : t3 = r0 := Option.some.inj (show some t3 = some r0 from hm)
  subst hq
  exact ends1 Try.results86 rfl ⟨_, rfl, H.base, rfl⟩

theorem g_cmp_isNaN_int {w0 : World} (a0 : Int) {r0 : Bool} (hm : cmp_isNaN_int a0 = some r0) :
  Calls Try.prog 100 #[(.int .i64 a0)] w0 (Ret w0 fun w v => v = (.bool r0) ∧ GrewQ w0 w) := by
 unfold cmp_isNaN_int at hm
 refine calls_of_W Try.func100 rfl Try.ntmps100 (Nat.le_of_ble_eq_true rfl) ?_
 have H := GInv.start (w := w0)
 refine W.seq ?_
 refine W.region ?_
 refine O.assign (v := (.bool false)) rfl rfl rfl ?_
 refine WL.nil ?_
 refine W.seq ?_
 refine W.region ?_
 refine O.move (v := (.int .i64 a0)) rfl rfl rfl ?_
 refine O.move (v := (.int .i64 a0)) rfl rfl rfl ?_
 refine O.neq rfl rfl rfl rfl ?_
 refine O.assign (v := (.bool (a0 != a0))) rfl rfl rfl ?_
 refine WL.nil ?_
 refine W.ret ?_
 have hq : (a0 != a0) = r0 := Option.some.inj (show some (a0 != a0) = some r0 from hm)
 subst hq
 exact ends1 Try.results100 rfl ⟨_, rfl, H.base, rfl, H.g⟩

set_option maxRecDepth 20000 in
theorem g_cmp_Compare_int {w0 : World} (a0 : Int) (a1 : Int) {r0 : Int} (hm : cmp_Compare_int a0 a1 = some r0) :
  Calls Try.prog 88 #[(.int .i64 a0), (.int .i64 a1)] w0 (Ret w0 fun w v => v = (.int .i64 r0) ∧ GrewQ w0 w) := by
 unfold cmp_Compare_int at hm
 refine calls_of_W Try.func88 rfl Try.ntmps88 (Nat.le_of_ble_eq_true rfl) ?_
 have H := GInv.start (w := w0)
 refine W.seq ?_
 refine W.region ?_
 refine O.assign (v := (.int .i64 0)) rfl rfl rfl ?_
 refine WL.nil ?_
 refine W.seq ?_
 refine W.region ?_
 refine O.move (v := (.int .i64 a0)) rfl rfl rfl ?_
 obtain ⟨t1, hy1, hm⟩ := bind_some hm
 refine O.call Try.call100 rfl rfl rfl (g_cmp_isNaN_int _ hy1) ?_
 rintro _ w1 hb1 ⟨rfl, hghb1⟩
 have H := H.ext hghb1
 refine O.assign (v := (.bool t1)) rfl rfl rfl ?_
 refine WL.nil ?_
 refine W.seq ?_
 refine W.region ?_
 refine O.move (v := (.int .i64 a1)) rfl rfl rfl ?_
 obtain ⟨t2, hy2, hm⟩ := bind_some hm
 refine O.call Try.call100 rfl rfl rfl (g_cmp_isNaN_int _ hy2) ?_
 rintro _ w2 hb2 ⟨rfl, hghb2⟩
 have H := H.ext hghb2
 refine O.assign (v := (.bool t2)) rfl rfl rfl ?_
 refine WL.nil ?_
 refine W.seq ?_
 refine W.seq ?_
 refine W.region ?_
 refine O.move (v := (.bool t1)) rfl rfl rfl ?_
 refine WL.nil ?_
 rcases ite_some hm with ⟨hc1, hm⟩ | ⟨hc1, hm⟩
 ·
  refine W.cond_true (congrArg Value.bool hc1) ?_
  refine W.seq ?_
  refine W.seq ?_
  refine W.region ?_
  refine O.move (v := (.bool t2)) rfl rfl rfl ?_
  refine WL.nil ?_
  rcases ite_some hm with ⟨hc2, hm⟩ | ⟨hc2, hm⟩
  ·
   refine W.cond_true (congrArg Value.bool hc2) ?_
   refine W.seq ?_
   refine W.region ?_
   refine O.assign (v := (.int .i64 0)) rfl rfl rfl ?_
   refine WL.nil ?_
   refine W.ret ?_
   have hq : 0 = r0 := Option.some.inj (show some 0 = some r0 from hm)
   subst hq
   exact ends1 Try.results88 rfl ⟨_, rfl, H.base, rfl, H.g⟩
  ·
   refine W.cond_false (congrArg Value.bool hc2) ?_
   refine W.skip ?_
   refine W.seq ?_
   refine W.region ?_
   refine O.assign (v := (.int .i64 (-1))) rfl rfl rfl ?_
   refine WL.nil ?_
   refine W.ret ?_
   have hq : (-1) = r0 := Option.some.inj (show some (-1) = some r0 from hm)
   subst hq
   exact ends1 Try.results88 rfl ⟨_, rfl, H.base, rfl, H.g⟩
 ·
  refine W.cond_false (congrArg Value.bool hc1) ?_
  refine W.skip ?_
  refine W.seq ?_
  refine W.seq ?_
  refine W.region ?_
  refine O.move (v := (.bool t2)) rfl rfl rfl ?_
  refine WL.nil ?_
  rcases ite_some hm with ⟨hc3, hm⟩ | ⟨hc3, hm⟩
  ·
   refine W.cond_true (congrArg Value.bool hc3) ?_
   refine W.seq ?_
   refine W.region ?_
   refine O.assign (v := (.int .i64 1)) rfl rfl rfl ?_
   refine WL.nil ?_
   refine W.ret ?_
   have hq : 1 = r0 := Option.some.inj (show some 1 = some r0 from hm)
   subst hq
   exact ends1 Try.results88 rfl ⟨_, rfl, H.base, rfl, H.g⟩
  ·
   refine W.cond_false (congrArg Value.bool hc3) ?_
   refine W.skip ?_
   refine W.seq ?_
   refine W.seq ?_
   refine W.region ?_
   refine O.move (v := (.int .i64 a0)) rfl rfl rfl ?_
   refine O.move (v := (.int .i64 a1)) rfl rfl rfl ?_
   refine O.lss rfl rfl rfl rfl ?_
   refine WL.nil ?_
   rcases ite_some hm with ⟨hc4, hm⟩ | ⟨hc4, hm⟩
   ·
    refine W.cond_true (congrArg Value.bool hc4) ?_
    refine W.seq ?_
    refine W.region ?_
    refine O.assign (v := (.int .i64 (-1))) rfl rfl rfl ?_
    refine WL.nil ?_
    refine W.ret ?_
    have hq : (-1) = r0 := Option.some.inj (show some (-1) = some r0 from hm)
    subst hq
    exact ends1 Try.results88 rfl ⟨_, rfl, H.base, rfl, H.g⟩
   ·
    refine W.cond_false (congrArg Value.bool hc4) ?_
    refine W.skip ?_
    refine W.seq ?_
    refine W.seq ?_
    refine W.region ?_
    refine O.move (v := (.int .i64 a0)) rfl rfl rfl ?_
    refine O.move (v := (.int .i64 a1)) rfl rfl rfl ?_
    refine O.gtr rfl rfl rfl rfl ?_
    refine WL.nil ?_
    rcases ite_some hm with ⟨hc5, hm⟩ | ⟨hc5, hm⟩
    ·
     refine W.cond_true (congrArg Value.bool hc5) ?_
     refine W.seq ?_
     refine W.region ?_
     refine O.assign (v := (.int .i64 1)) rfl rfl rfl ?_
     refine WL.nil ?_
     refine W.ret ?_
     have hq : 1 = r0 := Option.some.inj (show some 1 = some r0 from hm)
     subst hq
     exact ends1 Try.results88 rfl ⟨_, rfl, H.base, rfl, H.g⟩
    ·
     refine W.cond_false (congrArg Value.bool hc5) ?_
     refine W.skip ?_
     refine W.seq ?_
     refine W.region ?_
     refine O.assign (v := (.int .i64 0)) rfl rfl rfl ?_
     refine WL.nil ?_
     refine W.ret ?_
     have hq : 0 = r0 := Option.some.inj (show some 0 = some r0 from hm)
     subst hq
     exact ends1 Try.results88 rfl ⟨_, rfl, H.base, rfl, H.g⟩

theorem g_cmp_isNaN_string {w0 : World} (a0 : ByteArray) {r0 : Bool} (hm : cmp_isNaN_string a0 = some r0) :
  Calls Try.prog 101 #[(.string a0)] w0 (Ret w0 fun w v => v = (.bool r0) ∧ GrewQ w0 w) := by
 unfold cmp_isNaN_string at hm
 refine calls_of_W Try.func101 rfl Try.ntmps101 (Nat.le_of_ble_eq_true rfl) ?_
 have H := GInv.start (w := w0)
 refine W.seq ?_
 refine W.region ?_
 refine O.assign (v := (.bool false)) rfl rfl rfl ?_
 refine WL.nil ?_
 refine W.seq ?_
 refine W.region ?_
 refine O.move (v := (.string a0)) rfl rfl rfl ?_
 refine O.move (v := (.string a0)) rfl rfl rfl ?_
 refine O.neqS rfl rfl rfl rfl ?_
 refine O.assign (v := (.bool (!(decide (a0 = a0))))) rfl rfl rfl ?_
 refine WL.nil ?_
 refine W.ret ?_
 have hq : (!(decide (a0 = a0))) = r0 := Option.some.inj (show some (!(decide (a0 = a0))) = some r0 from hm)
 subst hq
 exact ends1 Try.results101 rfl ⟨_, rfl, H.base, rfl, H.g⟩

set_option maxRecDepth 20000 in
theorem g_cmp_Compare_string {w0 : World} (a0 : ByteArray) (a1 : ByteArray) {r0 : Int} (hm : cmp_Compare_string a0 a1 = some r0) :
  Calls Try.prog 89 #[(.string a0), (.string a1)] w0 (Ret w0 fun w v => v = (.int .i64 r0) ∧ GrewQ w0 w) := by
 unfold cmp_Compare_string at hm
 refine calls_of_W Try.func89 rfl Try.ntmps89 (Nat.le_of_ble_eq_true rfl) ?_
 have H := GInv.start (w := w0)
 refine W.seq ?_
 refine W.region ?_
 refine O.assign (v := (.int .i64 0)) rfl rfl rfl ?_
 refine WL.nil ?_
 refine W.seq ?_
 refine W.region ?_
 refine O.move (v := (.string a0)) rfl rfl rfl ?_
 obtain ⟨t1, hy1, hm⟩ := bind_some hm
 refine O.call Try.call101 rfl rfl rfl (g_cmp_isNaN_string _ hy1) ?_
 rintro _ w1 hb1 ⟨rfl, hghb1⟩
 have H := H.ext hghb1
 refine O.assign (v := (.bool t1)) rfl rfl rfl ?_
 refine WL.nil ?_
 refine W.seq ?_
 refine W.region ?_
 refine O.move (v := (.string a1)) rfl rfl rfl ?_
 obtain ⟨t2, hy2, hm⟩ := bind_some hm
 refine O.call Try.call101 rfl rfl rfl (g_cmp_isNaN_string _ hy2) ?_
 rintro _ w2 hb2 ⟨rfl, hghb2⟩
 have H := H.ext hghb2
 refine O.assign (v := (.bool t2)) rfl rfl rfl ?_
 refine WL.nil ?_
 refine W.seq ?_
 refine W.seq ?_
 refine W.region ?_
 refine O.move (v := (.bool t1)) rfl rfl rfl ?_
 refine WL.nil ?_
 rcases ite_some hm with ⟨hc1, hm⟩ | ⟨hc1, hm⟩
 ·
  refine W.cond_true (congrArg Value.bool hc1) ?_
  refine W.seq ?_
  refine W.seq ?_
  refine W.region ?_
  refine O.move (v := (.bool t2)) rfl rfl rfl ?_
  refine WL.nil ?_
  rcases ite_some hm with ⟨hc2, hm⟩ | ⟨hc2, hm⟩
  ·
   refine W.cond_true (congrArg Value.bool hc2) ?_
   refine W.seq ?_
   refine W.region ?_
   refine O.assign (v := (.int .i64 0)) rfl rfl rfl ?_
   refine WL.nil ?_
   refine W.ret ?_
   have hq : 0 = r0 := Option.some.inj (show some 0 = some r0 from hm)
   subst hq
   exact ends1 Try.results89 rfl ⟨_, rfl, H.base, rfl, H.g⟩
  ·
   refine W.cond_false (congrArg Value.bool hc2) ?_
   refine W.skip ?_
   refine W.seq ?_
   refine W.region ?_
   refine O.assign (v := (.int .i64 (-1))) rfl rfl rfl ?_
   refine WL.nil ?_
   refine W.ret ?_
   have hq : (-1) = r0 := Option.some.inj (show some (-1) = some r0 from hm)
   subst hq
   exact ends1 Try.results89 rfl ⟨_, rfl, H.base, rfl, H.g⟩
 ·
  refine W.cond_false (congrArg Value.bool hc1) ?_
  refine W.skip ?_
  refine W.seq ?_
  refine W.seq ?_
  refine W.region ?_
  refine O.move (v := (.bool t2)) rfl rfl rfl ?_
  refine WL.nil ?_
  rcases ite_some hm with ⟨hc3, hm⟩ | ⟨hc3, hm⟩
  ·
   refine W.cond_true (congrArg Value.bool hc3) ?_
   refine W.seq ?_
   refine W.region ?_
   refine O.assign (v := (.int .i64 1)) rfl rfl rfl ?_
   refine WL.nil ?_
   refine W.ret ?_
   have hq : 1 = r0 := Option.some.inj (show some 1 = some r0 from hm)
   subst hq
   exact ends1 Try.results89 rfl ⟨_, rfl, H.base, rfl, H.g⟩
  ·
   refine W.cond_false (congrArg Value.bool hc3) ?_
   refine W.skip ?_
   refine W.seq ?_
   refine W.seq ?_
   refine W.region ?_
   refine O.move (v := (.string a0)) rfl rfl rfl ?_
   refine O.move (v := (.string a1)) rfl rfl rfl ?_
   refine O.lssS rfl rfl rfl rfl ?_
   refine WL.nil ?_
   rcases ite_some hm with ⟨hc4, hm⟩ | ⟨hc4, hm⟩
   ·
    refine W.cond_true (congrArg Value.bool hc4) ?_
    refine W.seq ?_
    refine W.region ?_
    refine O.assign (v := (.int .i64 (-1))) rfl rfl rfl ?_
    refine WL.nil ?_
    refine W.ret ?_
    have hq : (-1) = r0 := Option.some.inj (show some (-1) = some r0 from hm)
    subst hq
    exact ends1 Try.results89 rfl ⟨_, rfl, H.base, rfl, H.g⟩
   ·
    refine W.cond_false (congrArg Value.bool hc4) ?_
    refine W.skip ?_
    refine W.seq ?_
    refine W.seq ?_
    refine W.region ?_
    refine O.move (v := (.string a0)) rfl rfl rfl ?_
    refine O.move (v := (.string a1)) rfl rfl rfl ?_
    refine O.gtrS rfl rfl rfl rfl ?_
    refine WL.nil ?_
    rcases ite_some hm with ⟨hc5, hm⟩ | ⟨hc5, hm⟩
    ·
     refine W.cond_true (congrArg Value.bool hc5) ?_
     refine W.seq ?_
     refine W.region ?_
     refine O.assign (v := (.int .i64 1)) rfl rfl rfl ?_
     refine WL.nil ?_
     refine W.ret ?_
     have hq : 1 = r0 := Option.some.inj (show some 1 = some r0 from hm)
     subst hq
     exact ends1 Try.results89 rfl ⟨_, rfl, H.base, rfl, H.g⟩
    ·
     refine W.cond_false (congrArg Value.bool hc5) ?_
     refine W.skip ?_
     refine W.seq ?_
     refine W.region ?_
     refine O.assign (v := (.int .i64 0)) rfl rfl rfl ?_
     refine WL.nil ?_
     refine W.ret ?_
     have hq : 0 = r0 := Option.some.inj (show some 0 = some r0 from hm)
     subst hq
     exact ends1 Try.results89 rfl ⟨_, rfl, H.base, rfl, H.g⟩

theorem g_cmp_Or_int {w0 : World} (va0 : Value) (a0 : (List Int)) (ha0 : SliceR w0 va0 a0) {r0 : Int} (hm : cmp_Or_int a0 = some r0) :
  Calls Try.prog 87 #[va0] w0 (Ret w0 fun w v => v = (.int .i64 r0) ∧ GrewQ w0 w) := by
 unfold cmp_Or_int at hm
 refine calls_of_W Try.func87 rfl Try.ntmps87 (Nat.le_of_ble_eq_true rfl) ?_
 have H := GInv.start (w := w0)
 refine W.seq ?_
 refine W.region ?_
 refine O.assign (v := (.int .i64 0)) rfl rfl rfl ?_
 refine WL.nil ?_
 refine W.seq ?_
 refine W.region ?_
 refine O.assign (v := (.int .i64 0)) rfl rfl rfl ?_
 refine WL.nil ?_
 refine W.seq ?_
 refine W.seq ?_
 refine W.region ?_
 refine O.move (v := va0) rfl rfl rfl ?_
 refine O.lenS Try.underlying22 (H.arg ha0) rfl rfl rfl ?_
 refine O.move (v := (.int .i64 0)) rfl rfl rfl ?_
 refine WL.nil ?_
 obtain ⟨o1, hm1, hm⟩ := bind_some hm
 refine W.via (fun f w => o1 = .next () ∧ f 3 = (.int .i64 0) ∧ GInv w0 w []) ?_ ?_
 ·
  refine W.block ?_
  refine W.rangeL (i := 0) hm1 (fun rem ik1 s f w => () = s ∧ a0.drop ik1 = rem ∧ f 8 = .int .i64 (ik1 : Int) ∧ f 7 = (.int .i64 ((a0.length : Nat) : Int)) ∧ f 3 = (.int .i64 0) ∧ f 6 = va0 ∧ GInv w0 w []) ?_ ?_ ?_
  ·
   exact ⟨rfl, List.drop_zero, rfl, rfl, rfl, rfl, H⟩
  ·
   rintro yk1 xs ik1 _ st f w ⟨rfl, hdropk1, hf8, hf7, hf3, hf6, H⟩ hm2
   have hltk1 := drop_lt hdropk1; have hixk1 := drop_idx hdropk1
   obtain ⟨u1, rfl⟩ := up4 hf8 hf7 hf3 hf6
   have hinck1 := addI_lt hltk1 (H.arg ha0).len_le
   refine W.seq ?_
   refine W.region ?_
   refine O.lss rfl rfl rfl rfl ?_
   refine WL.nil ?_
   refine W.seq ?_
   refine W.cond_true (congrArg Value.bool (decide_eq_true hltk1)) ?_
   refine W.skip ?_
   refine W.seq ?_
   refine W.block ?_
   refine W.seq ?_
   refine W.region ?_
   obtain ⟨p1, hp1, hrp1⟩ := fix_indexAddr Try.underlying22 sz3 ha0 hixk1
   refine hrp1 rfl rfl rfl rfl ?_
   refine O.load sc3 rfl rfl rfl ((hp1.mono H.base).flat 0 _ rfl) ?_
   refine O.assign (v := (.int .i64 yk1)) rfl rfl rfl ?_
   refine WL.nil ?_
   refine W.seq ?_
   refine W.region ?_
   refine O.move (v := (.int .i64 yk1)) rfl rfl rfl ?_
   refine O.move (v := (.int .i64 0)) rfl rfl rfl ?_
   refine O.neq rfl rfl rfl rfl ?_
   refine WL.nil ?_
   rcases ite_some hm2 with ⟨hc1, hm2⟩ | ⟨hc1, hm2⟩
   ·
    refine W.cond_true (congrArg Value.bool hc1) ?_
    refine W.seq ?_
    refine W.region ?_
    refine O.move (v := (.int .i64 yk1)) rfl rfl rfl ?_
    refine O.assign (v := (.int .i64 yk1)) rfl rfl rfl ?_
    refine WL.nil ?_
    refine W.ret ?_
    obtain rfl := Option.some.inj hm2
    refine ⟨_, rfl, ?_⟩
    rintro rfl
    have hq : yk1 = r0 := Option.some.inj (show some yk1 = some r0 from hm)
    subst hq
    exact ends1 Try.results87 rfl ⟨_, rfl, H.base, rfl, H.g⟩
   ·
    refine W.cond_false (congrArg Value.bool hc1) ?_
    refine W.skip ?_
    refine W.region ?_
    refine O.add rfl rfl rfl rfl hinck1 ?_
    refine O.move (v := .int .i64 ((ik1 : Int) + 1)) rfl rfl rfl ?_
    refine WL.nil ?_
    obtain rfl := Option.some.inj hm2
    exact ⟨_, rfl, rfl, drop_next hdropk1, rfl, rfl, rfl, rfl, H⟩
  ·
   rintro ik1 _ f w ⟨rfl, hdropk1, hf8, hf7, hf3, hf6, H⟩ hfin
   have hltk1 := drop_end hdropk1
   obtain ⟨u2, rfl⟩ := up4 hf8 hf7 hf3 hf6
   refine W.seq ?_
   refine W.region ?_
   refine O.lss rfl rfl rfl rfl ?_
   refine WL.nil ?_
   refine W.seq ?_
   refine W.cond_false (congrArg Value.bool (decide_eq_false hltk1)) ?_
   refine W.exit ?_
   obtain rfl : Ctl.next () = o1 := hfin
   refine xT rfl ?_
   exact ⟨rfl, rfl, H⟩
 ·
  rintro f w ⟨rfl, hf3, H⟩
  obtain ⟨u3, rfl⟩ := up1 hf3
  refine W.seq ?_
  refine W.region ?_
  refine O.move (v := (.int .i64 0)) rfl rfl rfl ?_
  refine O.assign (v := (.int .i64 0)) rfl rfl rfl ?_
  refine WL.nil ?_
  refine W.ret ?_
  have hq : 0 = r0 := Option.some.inj (show some 0 = some r0 from hm)
  subst hq
  exact ends1 Try.results87 rfl ⟨_, rfl, H.base, rfl, H.g⟩

theorem g_rate_Ranked_c1 {w0 : World} (a0 : GTrial) (a1 : GTrial) {r0 : Int} (hm : rate_Ranked_c1 a0 a1 = some r0) :
  Calls Try.prog 86 #[(.agg (Flat.cells a0).toArray), (.agg (Flat.cells a1).toArray)] w0 (Ret w0 fun w v => v = (.int .i64 r0) ∧ GrewQ w0 w) := by
 unfold rate_Ranked_c1 at hm
 refine calls_of_W Try.func86 rfl Try.ntmps86 (Nat.le_of_ble_eq_true rfl) ?_
 have H := GInv.start (w := w0)
 refine W.seq ?_
 refine W.region ?_
 refine O.boxG [(.string a0.Name), (.int .i64 a0.Least), (.int .i64 a0.Greatest), (.int .i64 a0.Leap), (.int .i64 a0.Number)] H rfl rfl rfl rfl ?_
 intro b1 w1 H hb1
 refine O.boxG [(.string a1.Name), (.int .i64 a1.Least), (.int .i64 a1.Greatest), (.int .i64 a1.Leap), (.int .i64 a1.Number)] H rfl rfl rfl rfl ?_
 intro b2 w2 H hb2
 refine O.assign (v := (.int .i64 0)) rfl rfl rfl ?_
 refine WL.nil ?_
 refine W.seq ?_
 obtain ⟨t1, hy1, hm⟩ := bind_some hm
 refine W.drawGr 9 (fun f => f 9 = (.int .i64 t1) ∧ f 11 = (.string a0.Name) ∧ f 13 = (.string a1.Name)) fol (by kernel_rfl) ?_ ?_
 ·
  refine PL.of (fun _ w8 _ hx => O.fieldAddr fd28_4 rfl rfl rfl (WL.nil ⟨rfl, hx⟩)) ?_
  refine PL.of (fun _ w8 _ hx => by have H := H.ext hx; exact O.load sc3 rfl rfl rfl (H.cell 0 rfl 4 _ rfl) (WL.nil ⟨rfl, hx⟩)) ?_
  refine PL.of (fun _ w8 _ hx => O.fieldAddr fd28_4 rfl rfl rfl (WL.nil ⟨rfl, hx⟩)) ?_
  refine PL.of (fun _ w8 _ hx => by have H := H.ext hx; exact O.load sc3 rfl rfl rfl (H.cell 1 rfl 4 _ rfl) (WL.nil ⟨rfl, hx⟩)) ?_
  refine PL.of (fun _ w8 _ hx => O.call Try.call88 rfl rfl rfl (g_cmp_Compare_int _ _ hy1) (by rintro _ _ hb ⟨rfl, hg⟩; exact WL.nil ⟨rfl, hx.trans hg⟩)) ?_
  refine PL.of (fun _ w8 _ hx => O.fieldAddr fd28_0 rfl rfl rfl (WL.nil ⟨rfl, hx⟩)) ?_
  refine PL.of (fun _ w8 _ hx => by have H := H.ext hx; exact O.load sc9 rfl rfl rfl (H.cell 0 rfl 0 _ rfl) (WL.nil ⟨rfl, hx⟩)) ?_
  refine PL.of (fun _ w8 _ hx => O.fieldAddr fd28_0 rfl rfl rfl (WL.nil ⟨rfl, hx⟩)) ?_
  refine PL.of (fun _ w8 _ hx => by have H := H.ext hx; exact O.load sc9 rfl rfl rfl (H.cell 1 rfl 0 _ rfl) (WL.nil ⟨rfl, hx⟩)) ?_
  refine PL.nil ?_
  exact ⟨rfl, rfl, rfl⟩
 ·
  rintro f w ⟨hf9, hf11, hf13⟩ hmd hx
  have H := H.ext hx
  obtain ⟨u1, rfl⟩ := up3 hf9 hf11 hf13
  obtain ⟨t2, hy2, hm⟩ := bind_some hm
  refine O.call Try.call89 rfl rfl rfl (g_cmp_Compare_string _ _ hy2) ?_
  rintro _ w3 hb3 ⟨rfl, hghb3⟩
  have H := H.ext hghb3
  refine O.buildSliceG (α := Int) [(.int .i64 t1), (.int .i64 t2)] [t1, t2] Try.underlying22 el3 H rfl rfl rfl rfl rfl rfl rfl ?_
  intro v1 w4 H hb4
  obtain ⟨t3, hy3, hm⟩ := bind_some hm
  refine O.call Try.call87 rfl rfl rfl (g_cmp_Or_int _ _ (H.own 2 rfl) hy3) ?_
  rintro _ w5 hb5 ⟨rfl, hghb5⟩
  have H := H.ext hghb5
  refine O.assign (v := (.int .i64 t3)) rfl rfl rfl ?_
  refine WL.nil ?_
  refine W.ret ?_
  have hq : t3 = r0 := Option.some.inj (show some t3 = some r0 from hm)
  subst hq
  exact ends1 Try.results86 rfl ⟨_, rfl, H.base, rfl, H.g⟩

theorem trials_sorts : SortsK Try.prog GTrial 85 (.func (.func 86) #[] #[]) sortTrials :=
  sortsK_of (α := GTrial) Try.sortT Try.isAgg28 Try.sizeOf28 trialC trial_swo 86 (enters_of Try.func86 (by kernel_rfl) rfl) fun x y W => (g_rate_Ranked_c1 x y (ranked_c1_some x y)).mono (by rintro e w' ⟨v, rfl, _, rfl, hg⟩; exact ⟨rfl, hg⟩)

set_option maxRecDepth 20000 in
theorem c_rate_Ranked {w0 : World} (va0 : Value) (a0 : (List GBox)) (ha0 : SliceR w0 va0 a0) {r0 : (List GTrial)} {r1 : Int} (hm : rate_Ranked a0 = some (r0, r1)) :
  Calls Try.prog 49 #[va0] w0 (Ret w0 fun w v => ∃ vr0 : Value, v = .tuple #[vr0, (.int .i64 r1)] ∧ OwnR w0 w vr0 28 r0) := by
 unfold rate_Ranked at hm
 refine calls_of_W Try.func49 rfl Try.ntmps49 (Nat.le_of_ble_eq_true rfl) ?_
 have H := Inv.start (w := w0)
 refine W.seq ?_
 refine W.region ?_
 have H := H.addNil (α := GTrial) (E := 28)
 refine O.assign (v := (.slice none 0 0)) rfl rfl rfl ?_
 refine O.assign (v := (.int .i64 0)) rfl rfl rfl ?_
 refine WL.nil ?_
 refine W.seq ?_
 refine W.seq ?_
 refine W.region ?_
 refine O.move (v := va0) rfl rfl rfl ?_
 obtain ⟨t1, hy1, hm⟩ := bind_some hm
 refine O.call Try.call46 rfl rfl rfl (c_rate_ValidBoxes _ _ (H.arg ha0) hy1) ?_
 rintro _ w1 hb1 rfl
 have H := H.ext hb1
 refine O.not rfl rfl rfl ?_
 refine WL.nil ?_
 rcases ite_some hm with ⟨hc1, hm⟩ | ⟨hc1, hm⟩
 ·
  refine W.cond_true (congrArg Value.bool hc1) ?_
  refine W.seq ?_
  refine W.region ?_
  have H := H.addNil (α := GTrial) (E := 28)
  refine O.assign (v := (.slice none 0 0)) rfl rfl rfl ?_
  refine O.assign (v := (.int .i64 1)) rfl rfl rfl ?_
  refine WL.nil ?_
  refine W.ret ?_
  have hq : (([] : List GTrial), 1) = (r0, r1) := Option.some.inj (show some (([] : List GTrial), 1) = some (r0, r1) from hm)
  obtain ⟨he0, hq0⟩ := Prod.mk.inj hq; clear hq; subst he0
  subst hq0
  exact ends2 Try.results49 rfl rfl ⟨_, rfl, H.base, ⟨_, rfl, H.ownR 1 rfl⟩⟩
 ·
  refine W.cond_false (congrArg Value.bool hc1) ?_
  refine W.skip ?_
  refine W.seq ?_
  refine W.region ?_
  have H := H.addNil (α := GTrial) (E := 28)
  refine O.assign (v := (.slice none 0 0)) rfl rfl rfl ?_
  refine WL.nil ?_
  refine W.seq ?_
  refine W.seq ?_
  refine W.region ?_
  refine O.move (v := va0) rfl rfl rfl ?_
  refine O.lenS Try.underlying55 (H.arg ha0) rfl rfl rfl ?_
  refine O.move (v := (.int .i64 0)) rfl rfl rfl ?_
  refine WL.nil ?_
  obtain ⟨o1, hm1, hm⟩ := bind_some hm
  refine W.via (fun f w => ∃ s1 : (List GTrial), ∃ v4 : Value, o1 = .next s1 ∧ f 4 = v4 ∧ Inv w0 w [ownI (α := GTrial) v4 28 s1]) ?_ ?_
  ·
   refine W.block ?_
   have H := H.keep [1] [ownI (α := GTrial) (.slice none 0 0) 28 ([] : List GTrial)] rfl (by decide)
   refine W.rangeL (i := 0) hm1 (fun rem ik1 s f w => ∃ z2 : (List GTrial), ∃ v2 : Value, z2 = s ∧ a0.drop ik1 = rem ∧ f 14 = .int .i64 (ik1 : Int) ∧ f 13 = (.int .i64 ((a0.length : Nat) : Int)) ∧ f 4 = v2 ∧ f 12 = va0 ∧ Inv w0 w [ownI (α := GTrial) v2 28 z2]) ?_ ?_ ?_
   ·
    exact ⟨_, (.slice none 0 0), rfl, List.drop_zero, rfl, rfl, rfl, rfl, H⟩
   ·
    rintro yk1 xs ik1 _ st f w ⟨z2, v2, rfl, hdropk1, hf14, hf13, hf4, hf12, H⟩ hm2
    have hltk1 := drop_lt hdropk1; have hixk1 := drop_idx hdropk1
    obtain ⟨u1, rfl⟩ := up4 hf14 hf13 hf4 hf12
    have hinck1 := addI_lt hltk1 (H.arg ha0).len_le
    refine W.seq ?_
    refine W.region ?_
    refine O.lss rfl rfl rfl rfl ?_
    refine WL.nil ?_
    refine W.seq ?_
    refine W.cond_true (congrArg Value.bool (decide_eq_true hltk1)) ?_
    refine W.skip ?_
    refine W.seq ?_
    refine W.block ?_
    refine W.seq ?_
    refine W.region ?_
    obtain ⟨p1, hp1, hrp1⟩ := fix_indexAddr Try.underlying55 sz24 ha0 hixk1
    obtain ⟨v5, hs1, hc2⟩ := GBox_open hp1
    refine hrp1 rfl rfl rfl rfl ?_
    refine O.loadA [(.string yk1.Name), v5] ag24 rfl rfl rfl rfl ((cells_mono hc2 H.base)) ?_
    refine O.alloc [(.string ByteArray.empty), (.slice none 0 0)] ze24 H rfl rfl rfl ?_
    intro b1 w2 H hb2
    have H := H.addNil (α := Int) (E := 3)
    refine O.store 1 0 [(.string yk1.Name), v5] [(.string yk1.Name), v5] sz24 H rfl rfl rfl rfl rfl rfl ⟨⟨rfl, rfl⟩, rfl⟩ (one_cons rfl (one_cons (SliceR.one (H.arg hs1)) one_nil)) ?_
    intro w3 H
    refine WL.nil ?_
    refine W.seq ?_
    refine W.region ?_
    refine O.loadA [(.string yk1.Name), v5] ag24 rfl rfl rfl rfl (H.cell 1 rfl) ?_
    obtain ⟨⟨t2, t3⟩, hy2, hm2⟩ := bind_some hm2
    refine O.call Try.call15 rfl rfl rfl (c_rate_Trial _ (GBox.mk yk1.Name yk1.Errors) (H.arg hs1) hy2) ?_
    rintro _ w4 hb3 rfl
    have H := H.ext hb3
    refine O.move (v := (.tuple #[(.agg (Flat.cells t2).toArray), (.int .i64 t3)])) rfl rfl rfl ?_
    refine O.extract (v := (.agg (Flat.cells t2).toArray)) rfl rfl rfl rfl ?_
    refine O.extract (v := (.int .i64 t3)) rfl rfl rfl rfl ?_
    refine O.alloc [(.string ByteArray.empty), (.int .i64 0), (.int .i64 0), (.int .i64 0), (.int .i64 0)] ze28 H rfl rfl rfl ?_
    intro b2 w5 H hb4
    refine O.store 3 0 [(.string t2.Name), (.int .i64 t2.Least), (.int .i64 t2.Greatest), (.int .i64 t2.Leap), (.int .i64 t2.Number)] [(.string t2.Name), (.int .i64 t2.Least), (.int .i64 t2.Greatest), (.int .i64 t2.Leap), (.int .i64 t2.Number)] sz28 H rfl rfl rfl rfl rfl rfl ⟨⟨rfl, rfl⟩, rfl⟩ (one_cons rfl (one_cons rfl (one_cons rfl (one_cons rfl (one_cons rfl one_nil))))) ?_
    intro w6 H
    refine O.assign (v := (.int .i64 t3)) rfl rfl rfl ?_
    refine WL.nil ?_
    refine W.seq ?_
    refine W.seq ?_
    refine W.region ?_
    refine O.move (v := (.int .i64 t3)) rfl rfl rfl ?_
    refine O.neq rfl rfl rfl rfl ?_
    refine WL.nil ?_
    rcases ite_some hm2 with ⟨hc3, hm2⟩ | ⟨hc3, hm2⟩
    ·
     refine W.cond_true (congrArg Value.bool hc3) ?_
     refine W.seq ?_
     refine W.region ?_
     refine O.move (v := (.int .i64 t3)) rfl rfl rfl ?_
     have H := H.addNil (α := GTrial) (E := 28)
     refine O.assign (v := (.slice none 0 0)) rfl rfl rfl ?_
     refine O.assign (v := (.int .i64 t3)) rfl rfl rfl ?_
     refine WL.nil ?_
     refine W.ret ?_
     obtain rfl := Option.some.inj hm2
     refine ⟨_, rfl, ?_⟩
     rintro rfl
     have hq : (([] : List GTrial), t3) = (r0, r1) := Option.some.inj (show some (([] : List GTrial), t3) = some (r0, r1) from hm)
     obtain ⟨he0, hq0⟩ := Prod.mk.inj hq; clear hq; subst he0
     subst hq0
     exact ends2 Try.results49 rfl rfl ⟨_, rfl, H.base, ⟨_, rfl, H.ownR 4 rfl⟩⟩
    ·
     refine W.cond_false (congrArg Value.bool hc3) ?_
     refine W.skip ?_
     refine W.region ?_
     refine O.move (v := v2) rfl rfl rfl ?_
     refine O.loadA [(.string t2.Name), (.int .i64 t2.Least), (.int .i64 t2.Greatest), (.int .i64 t2.Leap), (.int .i64 t2.Number)] ag28 rfl rfl rfl rfl (H.cell 3 rfl) ?_
     refine O.buildSlice (α := GTrial) [(.agg (Flat.cells t2).toArray)] [t2] Try.underlying62 el28 H rfl rfl rfl rfl rfl rfl rfl ?_
     intro v6 w7 H hb5
     obtain ⟨t4, ht4, hm2⟩ := bind_some hm2
     refine O.append 0 Try.underlying62 el28 rfl H rfl (H.own 4 rfl) ht4 rfl rfl rfl rfl ?_
     intro v7 w8 H
     refine O.assign (v := v7) rfl rfl rfl ?_
     refine WL.nil ?_
     refine W.region ?_
     refine O.add rfl rfl rfl rfl hinck1 ?_
     refine O.move (v := .int .i64 ((ik1 : Int) + 1)) rfl rfl rfl ?_
     refine WL.nil ?_
     have H := H.keep [0] [ownI (α := GTrial) v7 28 t4] rfl (by decide)
     obtain rfl := Option.some.inj hm2
     exact ⟨_, rfl, _, v7, rfl, drop_next hdropk1, rfl, rfl, rfl, rfl, H⟩
   ·
    rintro ik1 _ f w ⟨z2, v2, rfl, hdropk1, hf14, hf13, hf4, hf12, H⟩ hfin
    have hltk1 := drop_end hdropk1
    obtain ⟨u2, rfl⟩ := up4 hf14 hf13 hf4 hf12
    refine W.seq ?_
    refine W.region ?_
    refine O.lss rfl rfl rfl rfl ?_
    refine WL.nil ?_
    refine W.seq ?_
    refine W.cond_false (congrArg Value.bool (decide_eq_false hltk1)) ?_
    refine W.exit ?_
    obtain rfl : Ctl.next z2 = o1 := hfin
    refine xT rfl ?_
    exact ⟨_, v2, rfl, rfl, H⟩
  ·
   rintro f w ⟨s1, v4, rfl, hf4, H⟩
   obtain ⟨u3, rfl⟩ := up1 hf4
   refine W.seq ?_
   refine W.region ?_
   refine O.move (v := v4) rfl rfl rfl ?_
   obtain ⟨t5, hy3, hm⟩ := bind_some hm
   refine O.sortK 0 H rfl trials_sorts hy3 Try.call85 rfl rfl rfl rfl ?_
   intro w9 H
   refine WL.nil ?_
   refine W.seq ?_
   refine W.region ?_
   refine O.move (v := v4) rfl rfl rfl ?_
   refine O.assign (v := v4) rfl rfl rfl ?_
   refine O.assign (v := (.int .i64 0)) rfl rfl rfl ?_
   refine WL.nil ?_
   refine W.ret ?_
   have hq : (t5, 0) = (r0, r1) := Option.some.inj (show some (t5, 0) = some (r0, r1) from hm)
   obtain ⟨he0, hq0⟩ := Prod.mk.inj hq; clear hq; subst he0
   subst hq0
   exact ends2 Try.results49 rfl rfl ⟨_, rfl, H.base, ⟨_, rfl, H.ownR 0 rfl⟩⟩

end Go.Proofs
