/-
  The walks: each function does what its model says, where the model has a value. No other condition.
-/
import Derived.Test.YtohbkbimgfkblaaRows
import Derived.Test.YtohbkbimgfkblaaM
import Derived.Test.YtohbkbimgfkblaaFwV
import Derived.Test.YtohbkbimgfkblaaFwO
import Derived.Test.YtohbkbimgfkblaaFwRo
import Derived.Test.YtohbkbimgfkblaaBetterL
import Derived.Test.YtohbkbimgfkblaaFwUp
namespace Go.Proofs
open Go.Fw Go.RowKit
theorem sz5 : SizeT Try.prog 5 1 := SizeT.mk (by kernel_rfl)
theorem sc5 : ScalarT Try.prog 5 := ScalarT.mk Try.underlying5 rfl
theorem sz3 : SizeT Try.prog 3 1 := SizeT.mk (by kernel_rfl)
theorem sc3 : ScalarT Try.prog 3 := ScalarT.mk Try.underlying3 rfl
theorem fd24_0 : FieldT Try.prog 24 0 0 := FieldT.mk (k := 1) Try.underlying24 rfl rfl (by kernel_rfl) (by decide)
theorem sc9 : ScalarT Try.prog 9 := ScalarT.mk Try.underlying9 rfl
theorem fd24_1 : FieldT Try.prog 24 1 1 := FieldT.mk (k := 1) Try.underlying24 rfl rfl (by kernel_rfl) (by decide)
theorem sc22 : ScalarT Try.prog 22 := ScalarT.mk Try.underlying22 rfl
theorem fol : Try.prog.follows .mixedOrders = true := by kernel_rfl
theorem el3 : ElemT Try.prog 3 1 8 := ElemT.mk (z := (.int .i64 (0))) (by kernel_rfl) rfl
theorem sz22 : SizeT Try.prog 22 1 := SizeT.mk (by kernel_rfl)
theorem ag24 : AggT Try.prog 24 2 := AggT.mk Try.underlying24 rfl (by kernel_rfl)
theorem ze3 : ZeroT Try.prog 3 (.int .i64 (0)) := ZeroT.mk (by kernel_rfl)
theorem ze4 : ZeroT Try.prog 4 (.bool false) := ZeroT.mk (by kernel_rfl)
theorem sz4 : SizeT Try.prog 4 1 := SizeT.mk (by kernel_rfl)
theorem sc4 : ScalarT Try.prog 4 := ScalarT.mk Try.underlying4 rfl
theorem ze28 : ZeroT Try.prog 28 (.agg #[(.string ByteArray.empty), (.int .i64 (0)), (.int .i64 (0)), (.int .i64 (0)), (.int .i64 (0))]) := ZeroT.mk (by kernel_rfl)
theorem bd28_ : ∀  (w : World), (Instr.build 28 #[]).run Try.prog w = .ok (.agg #[(.string ByteArray.empty), (.int .i64 0), (.int .i64 0), (.int .i64 0), (.int .i64 0)]) w := by
  intro  w
  simp [Instr.build, Try.zeroValue28, Try.runUnderlying28, Instr.fill, Try.sizeOf3, Try.sizeOf9, Value.cells] <;> rfl
theorem sz28 : SizeT Try.prog 28 5 := SizeT.mk (by kernel_rfl)
theorem ag28 : AggT Try.prog 28 5 := AggT.mk Try.underlying28 rfl (by kernel_rfl)
theorem bd28_0 : ∀ (v0 : ByteArray) (w : World), (Instr.build 28 #[(0, (.string v0))]).run Try.prog w = .ok (.agg #[(.string v0), (.int .i64 0), (.int .i64 0), (.int .i64 0), (.int .i64 0)]) w := by
  intro v0 w
  simp [Instr.build, Try.zeroValue28, Try.runUnderlying28, Instr.fill, Try.sizeOf3, Try.sizeOf9, Value.cells]
theorem fd28_1 : FieldT Try.prog 28 1 1 := FieldT.mk (k := 1) Try.underlying28 rfl rfl (by kernel_rfl) (by decide)
theorem fd28_2 : FieldT Try.prog 28 2 2 := FieldT.mk (k := 1) Try.underlying28 rfl rfl (by kernel_rfl) (by decide)
theorem fd28_3 : FieldT Try.prog 28 3 3 := FieldT.mk (k := 1) Try.underlying28 rfl rfl (by kernel_rfl) (by decide)
theorem fd28_4 : FieldT Try.prog 28 4 4 := FieldT.mk (k := 1) Try.underlying28 rfl rfl (by kernel_rfl) (by decide)
theorem bd24_0_1 : ∀ (v0 : ByteArray) (y1 : Option Addr) (n1 m1 : Nat) (w : World), (Instr.build 24 #[(0, (.string v0)), (1, .slice y1 n1 m1)]).run Try.prog w = .ok (.agg #[(.string v0), .slice y1 n1 m1]) w := by
  intro v0 y1 n1 m1 w
  simp [Instr.build, Try.zeroValue24, Try.runUnderlying24, Instr.fill, Try.sizeOf22, Try.sizeOf9, Value.cells]
theorem bd28_0_1_2_3_4 : ∀ (v0 : ByteArray) (v1 : Int) (v2 : Int) (v3 : Int) (v4 : Int) (w : World), (Instr.build 28 #[(0, (.string v0)), (1, (.int .i64 v1)), (2, (.int .i64 v2)), (3, (.int .i64 v3)), (4, (.int .i64 v4))]).run Try.prog w = .ok (.agg #[(.string v0), (.int .i64 v1), (.int .i64 v2), (.int .i64 v3), (.int .i64 v4)]) w := by
  intro v0 v1 v2 v3 v4 w
  simp [Instr.build, Try.zeroValue28, Try.runUnderlying28, Instr.fill, Try.sizeOf3, Try.sizeOf9, Value.cells]
theorem eq28 : EqT Try.prog 28 GTrial := by
  refine ⟨Try.eqGuardType28, ?_⟩
  intro a b w
  obtain ⟨a0, a1, a2, a3, a4⟩ := a
  obtain ⟨b0, b1, b2, b3, b4⟩ := b
  have hs : Try.prog.underlying 28 = some (.struct (Try.prog.fieldsOf 28)) := by kernel_rfl
  rw [run_equalIn_agg w 9999 28 _ _ hs Try.stoodInHeld28]
  simp only [Program.fieldsOf, Try.underlying28]
  simp [Op.eqFields, Flat.cells, part, Try.isAgg3, Try.isAgg9, run_equalIn_int _ _ _ _ _ _ _ Try.underlying3, run_equalIn_string _ _ _ _ _ Try.underlying9, ← beq_toListBytes, beq_bytes]
  cases h0 : decide (a0 = b0) <;> cases h1 : decide (a1 = b1) <;> cases h2 : decide (a2 = b2) <;> cases h3 : decide (a3 = b3) <;> cases h4 : decide (a4 = b4) <;> simp_all
theorem fd99_0 : FieldT Try.prog 99 0 0 := FieldT.mk (k := 1) Try.underlying99 rfl rfl (by kernel_rfl) (by decide)
theorem fd99_1 : FieldT Try.prog 99 1 1 := FieldT.mk (k := 1) Try.underlying99 rfl rfl (by kernel_rfl) (by decide)
theorem ze99 : ZeroT Try.prog 99 (.agg #[(.slice none 0 0), (.int .i64 (0))]) := ZeroT.mk (by kernel_rfl)
theorem sz99 : SizeT Try.prog 99 2 := SizeT.mk (by kernel_rfl)
theorem ze100 : ZeroT Try.prog 100 .nilFunc := ZeroT.mk (by kernel_rfl)
theorem sz100 : SizeT Try.prog 100 1 := SizeT.mk (by kernel_rfl)
theorem sc62 : ScalarT Try.prog 62 := ScalarT.mk Try.underlying62 rfl
theorem ag99 : AggT Try.prog 99 2 := AggT.mk Try.underlying99 rfl (by kernel_rfl)
theorem sc100 : ScalarT Try.prog 100 := ScalarT.mk Try.underlying100 rfl
theorem c_rate_within {w0 : World} (a0 : Int) (a1 : Int) (a2 : Int) {r0 : Bool} (hm : rate_within a0 a1 a2 = some r0) :
  Calls Try.prog 59 #[(.int .i64 a0), (.int .i64 a1), (.int .i64 a2)] w0 (Ret w0 fun _ v => v = (.bool r0)) := by
 unfold rate_within at hm
 refine calls_of_W Try.func59 rfl Try.ntmps59 (Nat.le_of_ble_eq_true rfl) ?_
 have H := Inv.start (w := w0)
 refine W.seq ?_
 refine W.region ?_
 refine O.assign (v := (.bool false)) rfl rfl rfl ?_
 refine WL.nil ?_
 refine W.seq ?_
 refine W.region ?_
 refine O.move (v := (.int .i64 a0)) rfl rfl rfl ?_
 refine O.move (v := (.int .i64 a1)) rfl rfl rfl ?_
 refine O.geq rfl rfl rfl rfl ?_
 refine O.move (v := (.bool (decide (a1 ≤ a0)))) rfl rfl rfl ?_
 refine WL.cut 4 (fun f w => f 14 = .bool ((decide (a1 ≤ a0)) && (decide (a0 ≤ a2))) ∧ Inv w0 w []) ?_ ?_
 ·
  rcases bool_ft (decide (a1 ≤ a0)) with hc1 | hc1
  ·
   refine WL.reset (i := 10) (v := .bool false) (congrArg Value.bool hc1) ?_
   refine O.skip rfl rfl ?_
   refine O.skip rfl rfl ?_
   refine O.skip rfl rfl ?_
   refine O.pick_false (v := (.bool false)) rfl rfl rfl rfl ?_
   exact WL.nil ⟨congrArg Value.bool (and_f hc1), H⟩
  ·
   refine WL.reset (i := 10) (v := .bool true) (congrArg Value.bool hc1) ?_
   refine O.move (v := (.int .i64 a0)) rfl rfl rfl ?_
   refine O.move (v := (.int .i64 a2)) rfl rfl rfl ?_
   refine O.leq rfl rfl rfl rfl ?_
   refine O.pick_true (v := (.bool (decide (a0 ≤ a2)))) rfl rfl rfl rfl ?_
   exact WL.nil ⟨congrArg Value.bool (and_t hc1), H⟩
 ·
  rintro f w ⟨hf14, H⟩
  obtain ⟨u1, rfl⟩ := up1 hf14
  refine O.assign (v := (.bool ((decide (a1 ≤ a0)) && (decide (a0 ≤ a2))))) rfl rfl rfl ?_
  refine WL.nil ?_
  refine W.ret ?_
  have hq : ((decide (a1 ≤ a0)) && (decide (a0 ≤ a2))) = r0 := Option.some.inj (show some ((decide (a1 ≤ a0)) && (decide (a0 ≤ a2))) = some r0 from hm)
  subst hq
  exact ends1 Try.results59 rfl ⟨_, rfl, H.base, rfl⟩

set_option maxRecDepth 20000 in
theorem c_rate_name {w0 : World} (a0 : ByteArray) {r0 : Bool} (hm : rate_name a0 = some r0) :
  Calls Try.prog 58 #[(.string a0)] w0 (Ret w0 fun _ v => v = (.bool r0)) := by
 unfold rate_name at hm
 refine calls_of_W Try.func58 rfl Try.ntmps58 (Nat.le_of_ble_eq_true rfl) ?_
 have H := Inv.start (w := w0)
 refine W.seq ?_
 refine W.region ?_
 refine O.assign (v := (.bool false)) rfl rfl rfl ?_
 refine WL.nil ?_
 refine W.seq ?_
 refine W.seq ?_
 refine W.region ?_
 refine O.move (v := (.string a0)) rfl rfl rfl ?_
 obtain ⟨t1, ht1, hm⟩ := bind_some hm
 refine O.bytesOf Try.underlying9 Try.underlying108 Try.underlying5 ht1 rfl rfl rfl ?_
 intro v1 w1 hb1 hs1
 have H := H.ext hb1
 refine O.lenS Try.underlying108 hs1 rfl rfl rfl ?_
 refine O.move (v := (.int .i64 0)) rfl rfl rfl ?_
 refine WL.nil ?_
 obtain ⟨o1, hm1, hm⟩ := bind_some hm
 refine W.via (fun f w => o1 = .next () ∧ f 0 = (.string a0) ∧ Inv w0 w []) ?_ ?_
 ·
  refine W.block ?_
  have hbdik1 := hs1.len_le
  refine W.rangeN (i := 0) hm1 (fun rem ik1 s f w => () = s ∧ (ik1 : Int) + rem = max 0 ((t1.length : Nat) : Int) ∧ f 9 = .int .i64 (ik1 : Int) ∧ f 8 = (.int .i64 ((t1.length : Nat) : Int)) ∧ f 0 = (.string a0) ∧ f 7 = v1 ∧ SliceR w v1 t1 ∧ Inv w0 w []) ?_ ?_ ?_
  ·
   exact ⟨rfl, rangeN_start, rfl, rfl, rfl, rfl, hs1, H⟩
  ·
   rintro k ik1 _ st f w ⟨rfl, hdropk1, hf9, hf8, hf0, hf7, hs4, H⟩ hm2
   have hltk1 := rangeN_lt hdropk1
   obtain ⟨u1, rfl⟩ := up4 hf9 hf8 hf0 hf7
   have hinck1 := addI_lt hltk1 hbdik1
   refine W.seq ?_
   refine W.region ?_
   refine O.lss rfl rfl rfl rfl ?_
   refine WL.nil ?_
   refine W.seq ?_
   refine W.cond_true (congrArg Value.bool (decide_eq_true hltk1)) ?_
   refine W.skip ?_
   refine W.seq ?_
   refine W.block ?_
   refine W.seq ?_
   refine W.region ?_
   refine O.move (v := (.int .i64 (ik1 : Int))) rfl rfl rfl ?_
   obtain ⟨x1, hx1, hm2⟩ := bind_some hm2
   refine O.indexAddr Try.underlying108 sz5 hs4 hx1 rfl rfl rfl rfl ?_
   intro p1 hp1
   refine O.load sc5 rfl rfl rfl (hp1.flat 0 _ rfl) ?_
   refine O.assign (v := (.int .i64 (ik1 : Int))) rfl rfl rfl ?_
   refine O.assign (v := (.int .u8 (x1.toNat : Int))) rfl rfl rfl ?_
   refine WL.nil ?_
   refine W.seq ?_
   refine W.region ?_
   refine O.move (v := (.int .u8 (x1.toNat : Int))) rfl rfl rfl ?_
   refine O.geq rfl rfl rfl rfl ?_
   refine O.move (v := (.bool (decide (97 ≤ (x1.toNat : Int))))) rfl rfl rfl ?_
   refine WL.cut 3 (fun f w => f 0 = (.string a0) ∧ f 3 = (.int .i64 (ik1 : Int)) ∧ f 4 = (.int .u8 (x1.toNat : Int)) ∧ f 7 = v1 ∧ f 8 = (.int .i64 ((t1.length : Nat) : Int)) ∧ f 9 = (.int .i64 (ik1 : Int)) ∧ f 19 = .bool ((decide (97 ≤ (x1.toNat : Int))) && (decide ((x1.toNat : Int) ≤ 122))) ∧ SliceR w v1 t1 ∧ Inv w0 w []) ?_ ?_
   ·
    rcases bool_ft (decide (97 ≤ (x1.toNat : Int))) with hc1 | hc1
    ·
     refine WL.reset (i := 16) (v := .bool false) (congrArg Value.bool hc1) ?_
     refine O.skip rfl rfl ?_
     refine O.skip rfl rfl ?_
     refine O.pick_false (v := (.bool false)) rfl rfl rfl rfl ?_
     exact WL.nil ⟨rfl, rfl, rfl, rfl, rfl, rfl, congrArg Value.bool (and_f hc1), hs4, H⟩
    ·
     refine WL.reset (i := 16) (v := .bool true) (congrArg Value.bool hc1) ?_
     refine O.move (v := (.int .u8 (x1.toNat : Int))) rfl rfl rfl ?_
     refine O.leq rfl rfl rfl rfl ?_
     refine O.pick_true (v := (.bool (decide ((x1.toNat : Int) ≤ 122)))) rfl rfl rfl rfl ?_
     exact WL.nil ⟨rfl, rfl, rfl, rfl, rfl, rfl, congrArg Value.bool (and_t hc1), hs4, H⟩
   ·
    rintro f w ⟨hf0, hf3, hf4, hf7, hf8, hf9, hf19, hs6, H⟩
    obtain ⟨u2, rfl⟩ := up7 hf0 hf3 hf4 hf7 hf8 hf9 hf19
    refine O.assign (v := (.bool ((decide (97 ≤ (x1.toNat : Int))) && (decide ((x1.toNat : Int) ≤ 122))))) rfl rfl rfl ?_
    refine WL.nil ?_
    refine W.seq ?_
    refine W.region ?_
    refine O.move (v := (.bool ((decide (97 ≤ (x1.toNat : Int))) && (decide ((x1.toNat : Int) ≤ 122))))) rfl rfl rfl ?_
    refine O.not rfl rfl rfl ?_
    refine O.move (v := (.bool (!((decide (97 ≤ (x1.toNat : Int))) && (decide ((x1.toNat : Int) ≤ 122)))))) rfl rfl rfl ?_
    obtain ⟨b1, hm3, hm2⟩ := bind_some hm2
    refine WL.cut 13 (fun f w => f 0 = (.string a0) ∧ f 7 = v1 ∧ f 8 = (.int .i64 ((t1.length : Nat) : Int)) ∧ f 9 = (.int .i64 (ik1 : Int)) ∧ f 35 = .bool b1 ∧ SliceR w v1 t1 ∧ Inv w0 w []) ?_ ?_
    ·
     rcases ite_some hm3 with ⟨hc2, hm3⟩ | ⟨hc2, hm3⟩
     ·
      refine WL.reset (i := 22) (v := .bool true) (congrArg Value.bool hc2) ?_
      refine O.move (v := (.int .i64 (ik1 : Int))) rfl rfl rfl ?_
      refine O.eql rfl rfl rfl rfl ?_
      refine O.move (v := (.bool ((ik1 : Int) == 0))) rfl rfl rfl ?_
      obtain ⟨b2, hm4, hm3⟩ := bind_some hm3
      refine WL.cut 9 (fun f w => f 0 = (.string a0) ∧ f 7 = v1 ∧ f 8 = (.int .i64 ((t1.length : Nat) : Int)) ∧ f 9 = (.int .i64 (ik1 : Int)) ∧ f 22 = (.bool true) ∧ f 23 = (.int .i64 (ik1 : Int)) ∧ f 24 = (.bool ((ik1 : Int) == 0)) ∧ f 25 = (.bool ((ik1 : Int) == 0)) ∧ f 34 = .bool b2 ∧ SliceR w v1 t1 ∧ Inv w0 w []) ?_ ?_
      ·
       rcases ite_some hm4 with ⟨hc3, hm4⟩ | ⟨hc3, hm4⟩
       ·
        refine WL.reset (i := 25) (v := .bool true) (congrArg Value.bool hc3) ?_
        refine O.skip rfl rfl ?_
        refine O.skip rfl rfl ?_
        refine O.skip rfl rfl ?_
        refine O.skip rfl rfl ?_
        refine O.skip rfl rfl ?_
        refine O.skip rfl rfl ?_
        refine O.skip rfl rfl ?_
        refine O.skip rfl rfl ?_
        refine O.pick_true (v := (.bool true)) rfl rfl rfl rfl ?_
        refine WL.nil ?_
        have hq : true = b2 := Option.some.inj (show some true = some b2 from hm4)
        subst hq
        exact ⟨rfl, rfl, rfl, rfl, rfl, rfl, rfl, (congrArg Value.bool hc3).symm, rfl, hs6, H⟩
       ·
        refine WL.reset (i := 25) (v := .bool false) (congrArg Value.bool hc3) ?_
        refine O.move (v := (.int .u8 (x1.toNat : Int))) rfl rfl rfl ?_
        refine O.neq rfl rfl rfl rfl ?_
        refine O.move (v := (.bool ((x1.toNat : Int) != 95))) rfl rfl rfl ?_
        obtain ⟨b3, hm5, hm4⟩ := bind_some hm4
        refine WL.cut 5 (fun f w => f 0 = (.string a0) ∧ f 7 = v1 ∧ f 8 = (.int .i64 ((t1.length : Nat) : Int)) ∧ f 9 = (.int .i64 (ik1 : Int)) ∧ f 22 = (.bool true) ∧ f 23 = (.int .i64 (ik1 : Int)) ∧ f 24 = (.bool ((ik1 : Int) == 0)) ∧ f 25 = (.bool false) ∧ f 26 = (.int .u8 (x1.toNat : Int)) ∧ f 27 = (.bool ((x1.toNat : Int) != 95)) ∧ f 28 = (.bool ((x1.toNat : Int) != 95)) ∧ f 33 = .bool b3 ∧ SliceR w v1 t1 ∧ Inv w0 w []) ?_ ?_
        ·
         rcases ite_some hm5 with ⟨hc4, hm5⟩ | ⟨hc4, hm5⟩
         ·
          refine WL.reset (i := 28) (v := .bool true) (congrArg Value.bool hc4) ?_
          refine O.move (v := (.int .u8 (x1.toNat : Int))) rfl rfl rfl ?_
          obtain ⟨t2, ht2, hm5⟩ := bind_some hm5
          refine O.convI (by rw [Try.underlying5]; rfl) Try.underlying3 ht2 rfl rfl rfl ?_
          obtain ⟨t3, hy1, hm5⟩ := bind_some hm5
          refine O.call Try.call59 rfl rfl rfl (c_rate_within _ _ _ hy1) ?_
          rintro _ w2 hb2 rfl
          have hs6 := hs6.mono hb2
          have H := H.ext hb2
          refine O.not rfl rfl rfl ?_
          refine O.pick_true (v := (.bool (!t3))) rfl rfl rfl rfl ?_
          refine WL.nil ?_
          have hq : (!t3) = b3 := Option.some.inj (show some (!t3) = some b3 from hm5)
          subst hq
          exact ⟨rfl, rfl, rfl, rfl, rfl, rfl, rfl, rfl, rfl, rfl, (congrArg Value.bool hc4).symm, rfl, hs6, H⟩
         ·
          refine WL.reset (i := 28) (v := .bool false) (congrArg Value.bool hc4) ?_
          refine O.skip rfl rfl ?_
          refine O.skip rfl rfl ?_
          refine O.skip rfl rfl ?_
          refine O.skip rfl rfl ?_
          refine O.pick_false (v := (.bool false)) rfl rfl rfl rfl ?_
          refine WL.nil ?_
          have hq : false = b3 := Option.some.inj (show some false = some b3 from hm5)
          subst hq
          exact ⟨rfl, rfl, rfl, rfl, rfl, rfl, rfl, rfl, rfl, rfl, (congrArg Value.bool hc4).symm, rfl, hs6, H⟩
        ·
         rintro f w ⟨hf0, hf7, hf8, hf9, hf22, hf23, hf24, hf25, hf26, hf27, hf28, hf33, hs7, H⟩
         obtain ⟨u3, rfl⟩ : ∃ u3, f = (upd (upd (upd (upd (upd (upd (upd (upd (upd (upd (upd (upd u3 0 (.string a0)) 7 v1) 8 (.int .i64 ((t1.length : Nat) : Int))) 9 (.int .i64 (ik1 : Int))) 22 (.bool true)) 23 (.int .i64 (ik1 : Int))) 24 (.bool ((ik1 : Int) == 0))) 25 (.bool false)) 26 (.int .u8 (x1.toNat : Int))) 27 (.bool ((x1.toNat : Int) != 95))) 28 (.bool ((x1.toNat : Int) != 95))) 33 (.bool b3)) := ⟨f, by rw [upd_self hf0, upd_self hf7, upd_self hf8, upd_self hf9, upd_self hf22, upd_self hf23, upd_self hf24, upd_self hf25, upd_self hf26, upd_self hf27, upd_self hf28, upd_self hf33]⟩
         refine O.pick_false (v := (.bool b3)) rfl rfl rfl rfl ?_
         refine WL.nil ?_
         have hq : b3 = b2 := Option.some.inj (show some b3 = some b2 from hm4)
         subst hq
         exact ⟨rfl, rfl, rfl, rfl, rfl, rfl, rfl, (congrArg Value.bool hc3).symm, rfl, hs7, H⟩
      ·
       rintro f w ⟨hf0, hf7, hf8, hf9, hf22, hf23, hf24, hf25, hf34, hs8, H⟩
       obtain ⟨u4, rfl⟩ := up9 hf0 hf7 hf8 hf9 hf22 hf23 hf24 hf25 hf34
       refine O.pick_true (v := (.bool b2)) rfl rfl rfl rfl ?_
       refine WL.nil ?_
       have hq : b2 = b1 := Option.some.inj (show some b2 = some b1 from hm3)
       subst hq
       exact ⟨rfl, rfl, rfl, rfl, rfl, hs8, H⟩
     ·
      refine WL.reset (i := 22) (v := .bool false) (congrArg Value.bool hc2) ?_
      refine O.skip rfl rfl ?_
      refine O.skip rfl rfl ?_
      refine O.skip rfl rfl ?_
      refine O.skip rfl rfl ?_
      refine O.skip rfl rfl ?_
      refine O.skip rfl rfl ?_
      refine O.skip rfl rfl ?_
      refine O.skip rfl rfl ?_
      refine O.skip rfl rfl ?_
      refine O.skip rfl rfl ?_
      refine O.skip rfl rfl ?_
      refine O.skip rfl rfl ?_
      refine O.pick_false (v := (.bool false)) rfl rfl rfl rfl ?_
      refine WL.nil ?_
      have hq : false = b1 := Option.some.inj (show some false = some b1 from hm3)
      subst hq
      exact ⟨rfl, rfl, rfl, rfl, rfl, hs6, H⟩
    ·
     rintro f w ⟨hf0, hf7, hf8, hf9, hf35, hs9, H⟩
     obtain ⟨u5, rfl⟩ := up5 hf0 hf7 hf8 hf9 hf35
     refine WL.nil ?_
     rcases ite_some hm2 with ⟨hc5, hm2⟩ | ⟨hc5, hm2⟩
     ·
      refine W.cond_true (congrArg Value.bool hc5) ?_
      refine W.seq ?_
      refine W.region ?_
      refine O.assign (v := (.bool false)) rfl rfl rfl ?_
      refine WL.nil ?_
      refine W.ret ?_
      obtain rfl := Option.some.inj hm2
      refine ⟨_, rfl, ?_⟩
      rintro rfl
      have hq : false = r0 := Option.some.inj (show some false = some r0 from hm)
      subst hq
      exact ends1 Try.results58 rfl ⟨_, rfl, H.base, rfl⟩
     ·
      refine W.cond_false (congrArg Value.bool hc5) ?_
      refine W.skip ?_
      refine W.region ?_
      refine O.add rfl rfl rfl rfl hinck1 ?_
      refine O.move (v := .int .i64 ((ik1 : Int) + 1)) rfl rfl rfl ?_
      refine WL.nil ?_
      obtain rfl := Option.some.inj hm2
      exact ⟨_, rfl, rfl, rangeN_next hdropk1, rfl, rfl, rfl, rfl, hs9, H⟩
  ·
   rintro ik1 _ f w ⟨rfl, hdropk1, hf9, hf8, hf0, hf7, hs4, H⟩ hfin
   have hltk1 := rangeN_end hdropk1
   obtain ⟨u6, rfl⟩ := up4 hf9 hf8 hf0 hf7
   refine W.seq ?_
   refine W.region ?_
   refine O.lss rfl rfl rfl rfl ?_
   refine WL.nil ?_
   refine W.seq ?_
   refine W.cond_false (congrArg Value.bool (decide_eq_false hltk1)) ?_
   refine W.exit ?_
   obtain rfl : Ctl.next () = o1 := hfin
   refine xT rfl ?_
   exact ⟨rfl, rfl, H⟩
 ·
  rintro f w ⟨rfl, hf0, H⟩
  obtain ⟨u7, rfl⟩ := up1 hf0
  refine W.seq ?_
  refine W.region ?_
  refine O.move (v := (.string a0)) rfl rfl rfl ?_
  refine O.lenStr Try.underlying9 rfl rfl rfl ?_
  obtain ⟨t4, hy2, hm⟩ := bind_some hm
  refine O.call Try.call59 rfl rfl rfl (c_rate_within _ _ _ hy2) ?_
  rintro _ w3 hb3 rfl
  have H := H.ext hb3
  refine O.assign (v := (.bool t4)) rfl rfl rfl ?_
  refine WL.nil ?_
  refine W.ret ?_
  have hq : t4 = r0 := Option.some.inj (show some t4 = some r0 from hm)
  subst hq
  exact ends1 Try.results58 rfl ⟨_, rfl, H.base, rfl⟩

theorem c_slices_IndexFunc_int {w0 : World} (va0 : Value) (a0 : (List Int)) (ha0 : SliceR w0 va0 a0) (va1 : Value) (a1 : Int → Option (Bool)) (ha1 : ∀ (w : World), Below w0.heap.size w0 w → ∀ (x0 : Int) (y0 : Bool), a1 x0 = some y0 → CallsV Try.prog va1 #[(.int .i64 x0)] w (Ret w fun _ v => v = (.bool y0))) {r0 : Int} (hm : slices_IndexFunc_int a0 a1 = some r0) :
  Calls Try.prog 92 #[va0, va1] w0 (Ret w0 fun _ v => v = (.int .i64 r0)) := by
 unfold slices_IndexFunc_int at hm
 refine calls_of_W Try.func92 rfl Try.ntmps92 (Nat.le_of_ble_eq_true rfl) ?_
 have H := Inv.start (w := w0)
 refine W.seq ?_
 refine W.region ?_
 refine O.assign (v := (.int .i64 0)) rfl rfl rfl ?_
 refine WL.nil ?_
 refine W.seq ?_
 refine W.seq ?_
 refine W.region ?_
 refine O.move (v := va0) rfl rfl rfl ?_
 refine O.lenS Try.underlying22 (H.arg ha0) rfl rfl rfl ?_
 refine O.move (v := (.int .i64 0)) rfl rfl rfl ?_
 refine WL.nil ?_
 obtain ⟨o1, hm1, hm⟩ := bind_some hm
 refine W.via (fun f w => o1 = .next () ∧ Inv w0 w []) ?_ ?_
 ·
  refine W.block ?_
  have hbdik1 := (H.arg ha0).len_le
  refine W.rangeN (i := 0) hm1 (fun rem ik1 s f w => () = s ∧ (ik1 : Int) + rem = max 0 ((a0.length : Nat) : Int) ∧ f 8 = .int .i64 (ik1 : Int) ∧ f 7 = (.int .i64 ((a0.length : Nat) : Int)) ∧ f 0 = va0 ∧ f 1 = va1 ∧ Inv w0 w []) ?_ ?_ ?_
  ·
   exact ⟨rfl, rangeN_start, rfl, rfl, rfl, rfl, H⟩
  ·
   rintro k ik1 _ st f w ⟨rfl, hdropk1, hf8, hf7, hf0, hf1, H⟩ hm2
   have hltk1 := rangeN_lt hdropk1
   obtain ⟨u1, rfl⟩ := up4 hf8 hf7 hf0 hf1
   have hinck1 := addI_lt hltk1 hbdik1
   refine W.seq ?_
   refine W.region ?_
   refine O.lss rfl rfl rfl rfl ?_
   refine WL.nil ?_
   refine W.seq ?_
   refine W.cond_true (congrArg Value.bool (decide_eq_true hltk1)) ?_
   refine W.skip ?_
   refine W.seq ?_
   refine W.block ?_
   refine W.seq ?_
   refine W.region ?_
   refine O.move (v := (.int .i64 (ik1 : Int))) rfl rfl rfl ?_
   refine O.assign (v := (.int .i64 (ik1 : Int))) rfl rfl rfl ?_
   refine WL.nil ?_
   refine W.seq ?_
   refine W.region ?_
   refine O.move (v := va1) rfl rfl rfl ?_
   refine O.move (v := va0) rfl rfl rfl ?_
   refine O.move (v := (.int .i64 (ik1 : Int))) rfl rfl rfl ?_
   obtain ⟨x1, hx1, hm2⟩ := bind_some hm2
   obtain ⟨p1, hp1, hrp1⟩ := fix_indexAddr Try.underlying22 sz3 ha0 hx1
   refine hrp1 rfl rfl rfl rfl ?_
   refine O.load sc3 rfl rfl rfl ((hp1.mono H.base).flat 0 _ rfl) ?_
   obtain ⟨t1, hy1, hm2⟩ := bind_some hm2
   refine O.callV rfl rfl rfl rfl (ha1 _ H.base _ _ hy1) ?_
   rintro _ w1 hb1 rfl
   have H := H.ext hb1
   refine WL.nil ?_
   rcases ite_some hm2 with ⟨hc1, hm2⟩ | ⟨hc1, hm2⟩
   ·
    refine W.cond_true (congrArg Value.bool hc1) ?_
    refine W.seq ?_
    refine W.region ?_
    refine O.move (v := (.int .i64 (ik1 : Int))) rfl rfl rfl ?_
    refine O.assign (v := (.int .i64 (ik1 : Int))) rfl rfl rfl ?_
    refine WL.nil ?_
    refine W.ret ?_
    obtain rfl := Option.some.inj hm2
    refine ⟨_, rfl, ?_⟩
    rintro rfl
    have hq : (ik1 : Int) = r0 := Option.some.inj (show some (ik1 : Int) = some r0 from hm)
    subst hq
    exact ends1 Try.results92 rfl ⟨_, rfl, H.base, rfl⟩
   ·
    refine W.cond_false (congrArg Value.bool hc1) ?_
    refine W.skip ?_
    refine W.region ?_
    refine O.add rfl rfl rfl rfl hinck1 ?_
    refine O.move (v := .int .i64 ((ik1 : Int) + 1)) rfl rfl rfl ?_
    refine WL.nil ?_
    obtain rfl := Option.some.inj hm2
    exact ⟨_, rfl, rfl, rangeN_next hdropk1, rfl, rfl, rfl, rfl, H⟩
  ·
   rintro ik1 _ f w ⟨rfl, hdropk1, hf8, hf7, hf0, hf1, H⟩ hfin
   have hltk1 := rangeN_end hdropk1
   obtain ⟨u2, rfl⟩ := up4 hf8 hf7 hf0 hf1
   refine W.seq ?_
   refine W.region ?_
   refine O.lss rfl rfl rfl rfl ?_
   refine WL.nil ?_
   refine W.seq ?_
   refine W.cond_false (congrArg Value.bool (decide_eq_false hltk1)) ?_
   refine W.exit ?_
   obtain rfl : Ctl.next () = o1 := hfin
   refine xT rfl ?_
   exact ⟨rfl, H⟩
 ·
  rintro f w ⟨rfl, H⟩
  refine W.seq ?_
  refine W.region ?_
  refine O.assign (v := (.int .i64 (-1))) rfl rfl rfl ?_
  refine WL.nil ?_
  refine W.ret ?_
  have hq : (-1) = r0 := Option.some.inj (show some (-1) = some r0 from hm)
  subst hq
  exact ends1 Try.results92 rfl ⟨_, rfl, H.base, rfl⟩

theorem c_slices_ContainsFunc_int {w0 : World} (va0 : Value) (a0 : (List Int)) (ha0 : SliceR w0 va0 a0) (va1 : Value) (a1 : Int → Option (Bool)) (ha1 : ∀ (w : World), Below w0.heap.size w0 w → ∀ (x0 : Int) (y0 : Bool), a1 x0 = some y0 → CallsV Try.prog va1 #[(.int .i64 x0)] w (Ret w fun _ v => v = (.bool y0))) {r0 : Bool} (hm : slices_ContainsFunc_int a0 a1 = some r0) :
  Calls Try.prog 60 #[va0, va1] w0 (Ret w0 fun _ v => v = (.bool r0)) := by
 unfold slices_ContainsFunc_int at hm
 refine calls_of_W Try.func60 rfl Try.ntmps60 (Nat.le_of_ble_eq_true rfl) ?_
 have H := Inv.start (w := w0)
 refine W.seq ?_
 refine W.region ?_
 refine O.assign (v := (.bool false)) rfl rfl rfl ?_
 refine WL.nil ?_
 refine W.seq ?_
 refine W.region ?_
 refine O.move (v := va0) rfl rfl rfl ?_
 refine O.move (v := va1) rfl rfl rfl ?_
 obtain ⟨t1, hy1, hm⟩ := bind_some hm
 refine O.call Try.call92 rfl rfl rfl (c_slices_IndexFunc_int _ _ (H.arg ha0) va1 a1 (fun w hw => ha1 w (H.base.trans (hw.mono H.base.size))) hy1) ?_
 rintro _ w1 hb1 rfl
 have H := H.ext hb1
 refine O.geq rfl rfl rfl rfl ?_
 refine O.assign (v := (.bool (decide (0 ≤ t1)))) rfl rfl rfl ?_
 refine WL.nil ?_
 refine W.ret ?_
 have hq : (decide (0 ≤ t1)) = r0 := Option.some.inj (show some (decide (0 ≤ t1)) = some r0 from hm)
 subst hq
 exact ends1 Try.results60 rfl ⟨_, rfl, H.base, rfl⟩

theorem c_rate_far {w0 : World} (a0 : Int) {r0 : Bool} (hm : rate_far a0 = some r0) :
  Calls Try.prog 61 #[(.int .i64 a0)] w0 (Ret w0 fun _ v => v = (.bool r0)) := by
 unfold rate_far at hm
 refine calls_of_W Try.func61 rfl Try.ntmps61 (Nat.le_of_ble_eq_true rfl) ?_
 have H := Inv.start (w := w0)
 refine W.seq ?_
 refine W.region ?_
 refine O.assign (v := (.bool false)) rfl rfl rfl ?_
 refine WL.nil ?_
 refine W.seq ?_
 refine W.region ?_
 refine O.move (v := (.int .i64 a0)) rfl rfl rfl ?_
 obtain ⟨t1, hy1, hm⟩ := bind_some hm
 refine O.call Try.call59 rfl rfl rfl (c_rate_within _ _ _ hy1) ?_
 rintro _ w1 hb1 rfl
 have H := H.ext hb1
 refine O.not rfl rfl rfl ?_
 refine O.assign (v := (.bool (!t1))) rfl rfl rfl ?_
 refine WL.nil ?_
 refine W.ret ?_
 have hq : (!t1) = r0 := Option.some.inj (show some (!t1) = some r0 from hm)
 subst hq
 exact ends1 Try.results61 rfl ⟨_, rfl, H.base, rfl⟩

theorem c_rate_ValidBox {w0 : World} (va0_0 : Value) (a0 : GBox) (ha0_0 : SliceR w0 va0_0 a0.Errors) {r0 : Bool} (hm : rate_ValidBox a0 = some r0) :
  Calls Try.prog 16 #[(.agg #[(.string a0.Name), va0_0])] w0 (Ret w0 fun _ v => v = (.bool r0)) := by
 unfold rate_ValidBox at hm
 refine calls_of_W Try.func16 rfl Try.ntmps16 (Nat.le_of_ble_eq_true rfl) ?_
 have H := Inv.start (w := w0)
 refine W.seq ?_
 refine W.region ?_
 refine O.box [(.string a0.Name), va0_0] H rfl rfl rfl rfl ?_
 intro b1 w1 H hb1
 refine O.assign (v := (.bool false)) rfl rfl rfl ?_
 refine WL.nil ?_
 refine W.seq ?_
 refine W.region ?_
 refine O.fieldAddr fd24_0 rfl rfl rfl ?_
 refine O.load sc9 rfl rfl rfl (H.cell 0 rfl 0 _ rfl) ?_
 obtain ⟨t1, hy1, hm⟩ := bind_some hm
 refine O.call Try.call58 rfl rfl rfl (c_rate_name _ hy1) ?_
 rintro _ w2 hb2 rfl
 have H := H.ext hb2
 refine O.move (v := (.bool t1)) rfl rfl rfl ?_
 obtain ⟨b2, hm1, hm⟩ := bind_some hm
 refine WL.cut 5 (fun f w => f 1 = (.pointer (some ⟨b1, 0, none⟩)) ∧ f 11 = .bool b2 ∧ Inv w0 w [boxI b1 24 [(.string a0.Name), va0_0]]) ?_ ?_
 ·
  rcases ite_some hm1 with ⟨hc1, hm1⟩ | ⟨hc1, hm1⟩
  ·
   refine WL.reset (i := 6) (v := .bool true) (congrArg Value.bool hc1) ?_
   refine O.fieldAddr fd24_1 rfl rfl rfl ?_
   refine O.load sc22 rfl rfl rfl (H.cell 0 rfl 1 _ rfl) ?_
   refine O.lenS Try.underlying22 (H.arg ha0_0) rfl rfl rfl ?_
   obtain ⟨t2, hy2, hm1⟩ := bind_some hm1
   refine O.call Try.call59 rfl rfl rfl (c_rate_within _ _ _ hy2) ?_
   rintro _ w3 hb3 rfl
   have H := H.ext hb3
   refine O.pick_true (v := (.bool t2)) rfl rfl rfl rfl ?_
   refine WL.nil ?_
   have hq : t2 = b2 := Option.some.inj (show some t2 = some b2 from hm1)
   subst hq
   exact ⟨rfl, rfl, H⟩
  ·
   refine WL.reset (i := 6) (v := .bool false) (congrArg Value.bool hc1) ?_
   refine O.skip rfl rfl ?_
   refine O.skip rfl rfl ?_
   refine O.skip rfl rfl ?_
   refine O.skip rfl rfl ?_
   refine O.pick_false (v := (.bool false)) rfl rfl rfl rfl ?_
   refine WL.nil ?_
   have hq : false = b2 := Option.some.inj (show some false = some b2 from hm1)
   subst hq
   exact ⟨rfl, rfl, H⟩
 ·
  rintro f w ⟨hf1, hf11, H⟩
  obtain ⟨u1, rfl⟩ := up2 hf1 hf11
  refine O.move (v := (.bool b2)) rfl rfl rfl ?_
  obtain ⟨b3, hm2, hm⟩ := bind_some hm
  refine WL.cut 5 (fun f w => f 17 = .bool b3 ∧ Inv w0 w [boxI b1 24 [(.string a0.Name), va0_0]]) ?_ ?_
  ·
   rcases ite_some hm2 with ⟨hc2, hm2⟩ | ⟨hc2, hm2⟩
   ·
    refine WL.reset (i := 12) (v := .bool true) (congrArg Value.bool hc2) ?_
    refine O.fieldAddr fd24_1 rfl rfl rfl ?_
    refine O.load sc22 rfl rfl rfl (H.cell 0 rfl 1 _ rfl) ?_
    obtain ⟨t3, hy3, hm2⟩ := bind_some hm2
    refine O.call Try.call60 rfl rfl rfl (c_slices_ContainsFunc_int _ _ (H.arg ha0_0) _ (fun x0 => rate_far x0) (fun w hw x0 _ hy => callsV_mk Try.call61 (c_rate_far x0 hy)) hy3) ?_
    rintro _ w4 hb4 rfl
    have H := H.ext hb4
    refine O.not rfl rfl rfl ?_
    refine O.pick_true (v := (.bool (!t3))) rfl rfl rfl rfl ?_
    refine WL.nil ?_
    have hq : (!t3) = b3 := Option.some.inj (show some (!t3) = some b3 from hm2)
    subst hq
    exact ⟨rfl, H⟩
   ·
    refine WL.reset (i := 12) (v := .bool false) (congrArg Value.bool hc2) ?_
    refine O.skip rfl rfl ?_
    refine O.skip rfl rfl ?_
    refine O.skip rfl rfl ?_
    refine O.skip rfl rfl ?_
    refine O.pick_false (v := (.bool false)) rfl rfl rfl rfl ?_
    refine WL.nil ?_
    have hq : false = b3 := Option.some.inj (show some false = some b3 from hm2)
    subst hq
    exact ⟨rfl, H⟩
  ·
   rintro f w ⟨hf17, H⟩
   obtain ⟨u2, rfl⟩ := up1 hf17
   refine O.assign (v := (.bool b3)) rfl rfl rfl ?_
   refine WL.nil ?_
   refine W.ret ?_
   have hq : b3 = r0 := Option.some.inj (show some b3 = some r0 from hm)
   subst hq
   exact ends1 Try.results16 rfl ⟨_, rfl, H.base, rfl⟩

theorem it_rate_differences_c1 {wi : World} {Kp : World → Prop} (pc0 : Addr) (c0 : Int) (pc1 : Addr) (vc1 : Value) (c1 : List Int) {r : List Int} (hm : rate_differences_c1 c0 c1 = some r)
    (hk : ∀ w, Kp w → (∀ j c, (Flat.cells c0)[j]? = some c → w.cell? (pc0.add j) = some c) ∧ (∀ j c, [vc1][j]? = some c → w.cell? (pc1.add j) = some c) ∧ SliceR w vc1 c1) :
    IterAt Try.prog 91 #[.pointer (some pc0), .pointer (some pc1)] (repF (α := Int)) (fun ys => ys = r) Kp wi := by
  intro l J Jx hc h0
  refine calls_of_W Try.func91 rfl Try.ntmps91 (Nat.le_of_ble_eq_true rfl) ?_
  have H := InvI.start hc h0
  have hK := hk _ (InvI.kp H)
  unfold rate_differences_c1 at hm
  refine W.seq ?_
  refine W.region ?_
  refine O.load (q := pc0) (v := .int .i64 c0) sc3 rfl rfl rfl (hK.1 0 _ rfl) ?_
  refine O.assign (v := .int .i64 c0) rfl rfl rfl ?_
  refine WL.nil ?_
  refine W.block ?_
  refine W.loopL (l := r) (fun rem f w => ∃ ik : Nat, r.drop ik = rem ∧ ∃ n i, diffsFrom c0 c1 n i = some rem ∧ f 4 = .int .i64 i ∧ f 0 = .func (.yield l) #[] #[] ∧ f 1 = .pointer (some pc0) ∧ f 2 = .pointer (some pc1) ∧ ∃ C, InvI wi w [consI hc (r.take ik) C]) ?_ ?_ ?_
  · exact ⟨0, List.drop_zero, _, _, hm, rfl, rfl, rfl, rfl, _, H⟩
  · rintro y xs f w ⟨ik, hd0, n, i, hm, hf4, hf0, hf1, hf2, C, H⟩
    obtain ⟨u1, rfl⟩ := up4 hf4 hf0 hf1 hf2
    have hK := hk _ (InvI.kp H)
    have htake : r.take (ik + 1) = r.take ik ++ [y] := by
      have hy : r[ik]? = some y := by have := congrArg (fun m => m[0]?) hd0; simpa using this
      rw [List.take_add_one, hy]; rfl
    have hsplit : r.take ik ++ y :: xs = r := by rw [← hd0, List.take_append_drop]
    cases n with
    | zero => cases hm
    | succ n =>
    rw [diffsFrom] at hm
    by_cases hlt : i < (c1.length : Int)
    · rw [if_pos hlt] at hm
      obtain ⟨x1, hx1, hm⟩ := bind_some hm
      obtain ⟨j1, hj1, hm⟩ := bind_some hm
      obtain ⟨x2, hx2, hm⟩ := bind_some hm
      obtain ⟨d1, hd1, hm⟩ := bind_some hm
      obtain ⟨i1, hi1, hm⟩ := bind_some hm
      obtain ⟨xs1, hxs, hm⟩ := bind_some hm
      obtain ⟨rfl, rfl⟩ : d1 = y ∧ xs1 = xs := by have := Option.some.inj hm; simpa using this
      refine W.seq ?_
      refine W.seq ?_
      refine W.region ?_
      refine O.move (v := .int .i64 i) rfl rfl rfl ?_
      refine O.load (q := pc1) (v := vc1) sc22 rfl rfl rfl (hK.2.1 0 _ rfl) ?_
      refine O.lenS Try.underlying22 hK.2.2 rfl rfl rfl ?_
      refine O.lss rfl rfl rfl rfl ?_
      refine WL.nil ?_
      refine W.cond_true (congrArg Value.bool (decide_eq_true hlt)) ?_
      refine W.skip ?_
      refine W.seq ?_
      refine W.block ?_
      refine W.seq ?_
      obtain ⟨wd, rfl⟩ : ∃ x, x = w := ⟨w, rfl⟩
      obtain ⟨p1, hp1, hr1⟩ := fix_indexAddr Try.underlying22 sz3 hK.2.2 hx1
      obtain ⟨p2, hp2, hr2⟩ := fix_indexAddr Try.underlying22 sz3 hK.2.2 hx2
      refine W.drawN 12 (fun f => f 0 = .func (.yield l) #[] #[] ∧ f 1 = .pointer (some pc0) ∧ f 2 = .pointer (some pc1) ∧ f 4 = .int .i64 i ∧ f 13 = .func (.yield l) #[] #[] ∧ f 24 = .int .i64 d1) fol (by kernel_rfl) ?_ ?_
      · refine PL.of (fun _ wk _ hx => O.move (v := .func (.yield l) #[] #[]) rfl rfl rfl (WL.nil ⟨rfl, hx⟩)) ?_
        refine PL.of (fun _ wk _ hx => O.load (q := pc1) (v := vc1) sc22 rfl rfl rfl ((hk _ (InvI.kp (H.ext hx))).2.1 0 _ rfl) (WL.nil ⟨rfl, hx⟩)) ?_
        refine PL.of (fun _ wk _ hx => O.move (v := .int .i64 i) rfl rfl rfl (WL.nil ⟨rfl, hx⟩)) ?_
        refine PL.of (fun _ wk _ hx => hr1 rfl rfl rfl rfl (WL.nil ⟨rfl, hx⟩)) ?_
        refine PL.of (fun _ wk _ hx => O.load sc3 rfl rfl rfl ((hp1.mono hx).flat 0 _ rfl) (WL.nil ⟨rfl, hx⟩)) ?_
        refine PL.of (fun _ wk _ hx => O.load (q := pc1) (v := vc1) sc22 rfl rfl rfl ((hk _ (InvI.kp (H.ext hx))).2.1 0 _ rfl) (WL.nil ⟨rfl, hx⟩)) ?_
        refine PL.of (fun _ wk _ hx => O.move (v := .int .i64 i) rfl rfl rfl (WL.nil ⟨rfl, hx⟩)) ?_
        refine PL.of (fun _ wk _ hx => O.load (q := pc0) (v := .int .i64 c0) sc3 rfl rfl rfl ((hk _ (InvI.kp (H.ext hx))).1 0 _ rfl) (WL.nil ⟨rfl, hx⟩)) ?_
        refine PL.of (fun _ wk _ hx => O.sub rfl rfl rfl rfl hj1 (WL.nil ⟨rfl, hx⟩)) ?_
        refine PL.of (fun _ wk _ hx => hr2 rfl rfl rfl rfl (WL.nil ⟨rfl, hx⟩)) ?_
        refine PL.of (fun _ wk _ hx => O.load sc3 rfl rfl rfl ((hp2.mono hx).flat 0 _ rfl) (WL.nil ⟨rfl, hx⟩)) ?_
        refine PL.of (fun _ wk _ hx => O.sub rfl rfl rfl rfl hd1 (WL.nil ⟨rfl, hx⟩)) ?_
        exact ⟨rfl, rfl, rfl, rfl, rfl, rfl⟩
      · rintro f wk ⟨hf0, hf1, hf2, hf4, h13, h24⟩ _ hx
        obtain ⟨u1, rfl⟩ : ∃ u1, f = (upd (upd (upd (upd (upd (upd u1 4 (.int .i64 i)) 0 (.func (.yield l) #[] #[])) 1 (.pointer (some pc0))) 2 (.pointer (some pc1))) 13 (.func (.yield l) #[] #[])) 24 (.int .i64 d1)) :=
          ⟨f, by rw [upd_self hf4, upd_self hf0, upd_self hf1, upd_self hf2, upd_self h13, upd_self h24]⟩
        refine O.yield d1 [.int .i64 d1] (H.ext hx) ⟨xs1, hsplit⟩ rfl rfl rfl rfl rfl ?_ ?_
        · intro w' C' H
          have hK := hk _ (InvI.kp H)
          refine O.not rfl rfl rfl ?_
          refine WL.nil ?_
          refine W.cond_false rfl ?_
          refine W.skip ?_
          refine W.region ?_
          refine O.move (v := .int .i64 i) rfl rfl rfl ?_
          refine O.load (q := pc0) (v := .int .i64 c0) sc3 rfl rfl rfl (hK.1 0 _ rfl) ?_
          refine O.add rfl rfl rfl rfl hi1 ?_
          refine O.assign (v := .int .i64 i1) rfl rfl rfl ?_
          exact WL.nil ⟨ik + 1, drop_next hd0, _, _, hxs, rfl, rfl, rfl, rfl, _, by rw [htake]; exact H⟩
        · intro w' C' H
          refine O.not rfl rfl rfl ?_
          refine WL.nil ?_
          refine W.cond_true rfl ?_
          refine W.ret ?_
          exact ends0 Try.results91 ⟨_, _, rfl, .inr (H.items _ (List.mem_cons_self ..)).1⟩
    · rw [if_neg hlt] at hm
      cases hm
  · rintro f w ⟨ik, hd, n, i, hm, hf4, hf0, hf1, hf2, C, H⟩
    obtain ⟨u1, rfl⟩ := up4 hf4 hf0 hf1 hf2
    have hK := hk _ (InvI.kp H)
    have hlt : ¬ i < (c1.length : Int) := by
      cases n with
      | zero => cases hm
      | succ n =>
        rw [diffsFrom] at hm
        intro hlt
        rw [if_pos hlt] at hm
        obtain ⟨_, _, hm⟩ := bind_some hm
        obtain ⟨_, _, hm⟩ := bind_some hm
        obtain ⟨_, _, hm⟩ := bind_some hm
        obtain ⟨_, _, hm⟩ := bind_some hm
        obtain ⟨_, _, hm⟩ := bind_some hm
        obtain ⟨_, _, hm⟩ := bind_some hm
        cases hm
    refine W.seq ?_
    refine W.seq ?_
    refine W.region ?_
    refine O.move (v := .int .i64 i) rfl rfl rfl ?_
    refine O.load (q := pc1) (v := vc1) sc22 rfl rfl rfl (hK.2.1 0 _ rfl) ?_
    refine O.lenS Try.underlying22 hK.2.2 rfl rfl rfl ?_
    refine O.lss rfl rfl rfl rfl ?_
    refine WL.nil ?_
    refine W.cond_false (congrArg Value.bool (decide_eq_false hlt)) ?_
    refine W.exit ?_
    refine xT rfl ?_
    refine ends0 Try.results91 ⟨_, C, rfl, .inl ⟨_, rfl, ?_⟩⟩
    have htk : r.take ik = r := List.take_of_length_le (by have := List.drop_eq_nil_iff.1 hd; omega)
    rw [htk] at H
    exact (H.items _ (List.mem_cons_self ..)).1

theorem c_rate_differences {w0 : World} (va0 : Value) (a0 : (List Int)) (ha0 : SliceR w0 va0 a0) (a1 : Int) :
  Calls Try.prog 57 #[va0, (.int .i64 a1)] w0 (Ret w0 fun w v => ∃ b2 : Nat, ∃ b1 : Nat, v = (.func (.func 91) #[] #[(.pointer (some ⟨b2, 0, none⟩)), (.pointer (some ⟨b1, 0, none⟩))]) ∧ Inv w0 w [boxI b2 3 [(.int .i64 a1)], boxI b1 22 [va0]]) := by
 refine calls_of_W Try.func57 rfl Try.ntmps57 (Nat.le_of_ble_eq_true rfl) ?_
 have H := Inv.start (w := w0)
 refine W.seq ?_
 refine W.region ?_
 refine O.box [va0] H rfl rfl rfl (SliceR.cells1 (H.arg ha0)) ?_
 intro b1 w1 H hb1
 refine O.box [(.int .i64 a1)] H rfl rfl rfl rfl ?_
 intro b2 w2 H hb2
 refine O.assign (v := .nilFunc) rfl rfl rfl ?_
 refine WL.nil ?_
 refine W.seq ?_
 refine W.region ?_
 refine O.makeFunc rfl rfl rfl rfl ?_
 refine O.assign (v := (.func (.func 91) #[] #[(.pointer (some ⟨b2, 0, none⟩)), (.pointer (some ⟨b1, 0, none⟩))])) rfl rfl rfl ?_
 refine WL.nil ?_
 refine W.ret ?_
 exact ends1 Try.results57 rfl ⟨_, rfl, H.base, ⟨_, _, rfl, H.pick [1, 0] [boxI b2 3 [(.int .i64 a1)], boxI b1 22 [va0]] rfl (by decide)⟩⟩

theorem c_slices_AppendSeq_int {w0 : World} (va1 : Value) (a1 : List Int) (ha1 : IterP Try.prog w0 va1 (repF (α := Int)) (fun ys => ys = a1)) {r0 : (List Int)} (hm : slices_AppendSeq_int a1 = some r0) :
  Calls Try.prog 93 #[(.slice none 0 0), va1] w0 (Ret w0 fun w v => OwnR w0 w v 3 r0) := by
 unfold slices_AppendSeq_int at hm
 refine calls_of_WM Try.func93 rfl Try.ntmps93 (Nat.le_of_ble_eq_true rfl) ?_
 have H := Inv.startM (w0 := w0)
 have hmk : (fr0 #[(.slice none 0 0), va1]).marks = [] := rfl
 refine W.seq ?_
 refine W.region ?_
 refine O.box [(.slice none 0 0)] H rfl rfl rfl rfl ?_
 intro b1 w1 H hb1
 have H := H.addNil (α := Int) (E := 3)
 have H := H.addNil (α := Int) (E := 3)
 refine O.assign (v := (.slice none 0 0)) rfl rfl rfl ?_
 refine WL.nil ?_
 refine W.seq ?_
 refine W.seq ?_
 refine W.region ?_
 refine O.move (v := va1) rfl rfl rfl ?_
 refine WL.nil ?_
 obtain ⟨s1, hm1, hm⟩ := bind_some hm
 refine W.via (fun f w => ∃ ms1 : List Nat, ∃ v4 : Value, f 2 = (.pointer (some ⟨b1, 0, none⟩)) ∧ f.marks = ms1 ∧ Inv w0 w [marksI ms1, boxI b1 22 [v4], ownI (α := Int) v4 3 s1]) ?_ ?_
 ·
  refine W.block ?_
  obtain ⟨gf1, lb1, hvgf1, hcbgf1, hitgf1⟩ := ha1
  have H := H.keep [0, 1, 2] [marksI [], boxI b1 22 [(.slice none 0 0)], ownI (α := Int) (.slice none 0 0) 3 ([] : List Int)] rfl (by decide)
  refine W.rangeFuncL (α := Int) (σ := (List Int)) (X := (List Int)) (xs := a1) (rep := (repF (α := Int))) hm1 (fun s L => ∃ z2 : (List Int), ∃ v2 : Value, z2 = s ∧ L = [boxI b1 22 [v2], ownI (α := Int) v2 3 z2]) (fun y j L => match j with | some j => j = 0 ∧ (False) | none => False) (show ev _ _ = _ from hvgf1) hcbgf1 rfl (fun _ _ _ h => by rw [h]; rfl) (fun Kp W hs hk => hitgf1 W Kp (Nat.le_trans H.base.size hs) fun w1 hw => by obtain ⟨_, _, _, _, _, hI⟩ := hk w1 hw; exact hI.base) H ⟨_, (.slice none 0 0), rfl, rfl⟩ ?_ ?_ ?_ ?_
  ·
   rintro _ rs lp lp2 iz x1 _ st _ w _ ⟨z2, v2, rfl, rfl⟩ rfl hm2 H
   change W _ _ _ _ _ _ _ (upd _ 7 (.int .i64 x1)) w
   refine W.region ?_
   refine O.assign (v := (.int .i64 x1)) rfl rfl rfl ?_
   refine WL.nil ?_
   refine ⟨_, H, fun w hsl H => ?_⟩
   refine W.block ?_
   refine W.region ?_
   refine O.load sc22 rfl rfl rfl (H.cell 3 rfl 0 _ rfl) ?_
   refine O.move (v := (.int .i64 x1)) rfl rfl rfl ?_
   refine O.buildSlice (α := Int) [(.int .i64 x1)] [x1] Try.underlying22 el3 H rfl rfl rfl rfl rfl rfl rfl ?_
   intro v5 w2 H hb2
   obtain ⟨t1, ht1, hm2⟩ := bind_some hm2
   refine O.append 4 Try.underlying22 el3 rfl H rfl (H.own 5 rfl) ht1 rfl rfl rfl rfl ?_
   intro v6 w3 H
   refine O.store 3 0 [v6] [v6] sz22 H rfl rfl rfl rfl rfl (SliceR.cells1 (H.own 4 rfl)) ⟨⟨rfl, rfl⟩, rfl⟩ (one_cons (SliceR.one (H.own 4 rfl)) one_nil) ?_
   intro w4 H
   refine WL.nil ?_
   have H := H.keep [0, 1, 2, 3, 4] [rs, lp2, marksI [], boxI b1 22 [v6], ownI (α := Int) v6 3 t1] rfl (by decide)
   obtain rfl := Option.some.inj hm2
   exact ⟨_, _, rfl, ⟨_, v6, rfl, rfl⟩, H⟩
  ·
   rintro D1 _ _ w ⟨z2, v2, rfl, rfl⟩ hfin H
   have hq : z2 = s1 := hfin
   subst hq
   have hmk := congrArg (D1 :: ·) hmk
   exact ⟨_, v2, rfl, hmk, H⟩
  ·
   rintro _ _ _ _ ⟨_, h⟩; exact h.elim
  ·
   rintro _ _ _ h; exact h.elim
 ·
  rintro f w ⟨ms1, v4, hf2, hmk, H⟩
  obtain ⟨u1, rfl⟩ := up1 hf2
  refine W.seq ?_
  refine W.region ?_
  refine O.load sc22 rfl rfl rfl (H.cell 1 rfl 0 _ rfl) ?_
  refine O.assign (v := v4) rfl rfl rfl ?_
  refine WL.nil ?_
  refine W.ret ?_
  refine endsM_mk H hmk ?_
  intro w H _
  have hq : s1 = r0 := Option.some.inj (show some s1 = some r0 from hm)
  subst hq
  exact ends1 Try.results93 rfl ⟨_, rfl, H.base, H.ownR 2 rfl⟩

theorem c_slices_Collect_int {w0 : World} (va0 : Value) (a0 : List Int) (ha0 : IterP Try.prog w0 va0 (repF (α := Int)) (fun ys => ys = a0)) {r0 : (List Int)} (hm : slices_Collect_int a0 = some r0) :
  Calls Try.prog 63 #[va0] w0 (Ret w0 fun w v => OwnR w0 w v 3 r0) := by
 unfold slices_Collect_int at hm
 refine calls_of_W Try.func63 rfl Try.ntmps63 (Nat.le_of_ble_eq_true rfl) ?_
 have H := Inv.start (w := w0)
 refine W.seq ?_
 refine W.region ?_
 have H := H.addNil (α := Int) (E := 3)
 refine O.assign (v := (.slice none 0 0)) rfl rfl rfl ?_
 refine WL.nil ?_
 refine W.seq ?_
 refine W.region ?_
 refine O.move (v := va0) rfl rfl rfl ?_
 obtain ⟨t1, hy1, hm⟩ := bind_some hm
 refine O.call Try.call93 rfl rfl rfl (c_slices_AppendSeq_int va0 a0 (ha0.mono H.base) hy1) ?_
 rintro v1 w1 hb1 ho1
 have H := H.addOwn hb1 ho1
 refine O.assign (v := v1) rfl rfl rfl ?_
 refine WL.nil ?_
 refine W.ret ?_
 have hq : t1 = r0 := Option.some.inj (show some t1 = some r0 from hm)
 subst hq
 exact ends1 Try.results63 rfl ⟨_, rfl, H.base, H.ownR 1 rfl⟩

theorem c_rate_Weekly {w0 : World} (va0_0 : Value) (a0 : GBox) (ha0_0 : SliceR w0 va0_0 a0.Errors) {r0 : (List Int)} {r1 : Int} (hm : rate_Weekly a0 = some (r0, r1)) :
  Calls Try.prog 33 #[(.agg #[(.string a0.Name), va0_0])] w0 (Ret w0 fun w v => ∃ vr0 : Value, v = .tuple #[vr0, (.int .i64 r1)] ∧ OwnR w0 w vr0 3 r0) := by
 unfold rate_Weekly at hm
 refine calls_of_W Try.func33 rfl Try.ntmps33 (Nat.le_of_ble_eq_true rfl) ?_
 have H := Inv.start (w := w0)
 refine W.seq ?_
 refine W.region ?_
 refine O.box [(.string a0.Name), va0_0] H rfl rfl rfl rfl ?_
 intro b1 w1 H hb1
 have H := H.addNil (α := Int) (E := 3)
 refine O.assign (v := (.slice none 0 0)) rfl rfl rfl ?_
 refine O.assign (v := (.int .i64 0)) rfl rfl rfl ?_
 refine WL.nil ?_
 refine W.seq ?_
 refine W.seq ?_
 refine W.region ?_
 refine O.loadA [(.string a0.Name), va0_0] ag24 rfl rfl rfl rfl (H.cell 0 rfl) ?_
 obtain ⟨t1, hy1, hm⟩ := bind_some hm
 refine O.call Try.call16 rfl rfl rfl (c_rate_ValidBox _ (GBox.mk a0.Name a0.Errors) (H.arg ha0_0) hy1) ?_
 rintro _ w2 hb2 rfl
 have H := H.ext hb2
 refine O.not rfl rfl rfl ?_
 refine WL.nil ?_
 rcases ite_some hm with ⟨hc1, hm⟩ | ⟨hc1, hm⟩
 ·
  refine W.cond_true (congrArg Value.bool hc1) ?_
  refine W.seq ?_
  refine W.region ?_
  have H := H.addNil (α := Int) (E := 3)
  refine O.assign (v := (.slice none 0 0)) rfl rfl rfl ?_
  refine O.assign (v := (.int .i64 1)) rfl rfl rfl ?_
  refine WL.nil ?_
  refine W.ret ?_
  have hq : (([] : List Int), 1) = (r0, r1) := Option.some.inj (show some (([] : List Int), 1) = some (r0, r1) from hm)
  obtain ⟨he0, hq0⟩ := Prod.mk.inj hq; clear hq; subst he0
  subst hq0
  exact ends2 Try.results33 rfl rfl ⟨_, rfl, H.base, ⟨_, rfl, H.ownR 2 rfl⟩⟩
 ·
  refine W.cond_false (congrArg Value.bool hc1) ?_
  refine W.skip ?_
  refine W.seq ?_
  refine W.region ?_
  refine O.fieldAddr fd24_1 rfl rfl rfl ?_
  refine O.load sc22 rfl rfl rfl (H.cell 0 rfl 1 _ rfl) ?_
  refine O.call Try.call57 rfl rfl rfl (c_rate_differences _ _ (H.arg ha0_0) _) ?_
  rintro _ w3 hb3 ⟨b2, b3, rfl, hM1⟩
  have H := H.addAll hb3 hM1
  obtain ⟨xs1, hxs1, hm⟩ := bind_some hm
  obtain ⟨t2, hy2, hm⟩ := bind_some hm
  refine O.call Try.call63 rfl rfl rfl (c_slices_Collect_int (.func (.func 91) #[] #[(.pointer (some ⟨b2, 0, none⟩)), (.pointer (some ⟨b3, 0, none⟩))]) xs1 (iterP_mk rfl Try.call91 fun _ _ hk => it_rate_differences_c1 _ 7 _ _ a0.Errors hxs1 fun w hw => ⟨cells_mono (H.cell 2 rfl) (hk w hw), cells_mono (H.cell 3 rfl) (hk w hw), (H.arg ha0_0).mono (hk w hw)⟩) hy2) ?_
  rintro v1 w4 hb4 ho1
  have H := H.addOwn hb4 ho1
  refine O.assign (v := v1) rfl rfl rfl ?_
  refine WL.nil ?_
  refine W.seq ?_
  refine W.seq ?_
  refine W.region ?_
  refine O.move (v := v1) rfl rfl rfl ?_
  refine O.lenS Try.underlying22 (H.own 4 rfl) rfl rfl rfl ?_
  refine O.eql rfl rfl rfl rfl ?_
  refine WL.nil ?_
  rcases ite_some hm with ⟨hc2, hm⟩ | ⟨hc2, hm⟩
  ·
   refine W.cond_true (congrArg Value.bool hc2) ?_
   refine W.seq ?_
   refine W.region ?_
   have H := H.addNil (α := Int) (E := 3)
   refine O.assign (v := (.slice none 0 0)) rfl rfl rfl ?_
   refine O.assign (v := (.int .i64 8)) rfl rfl rfl ?_
   refine WL.nil ?_
   refine W.ret ?_
   have hq : (([] : List Int), 8) = (r0, r1) := Option.some.inj (show some (([] : List Int), 8) = some (r0, r1) from hm)
   obtain ⟨he0, hq0⟩ := Prod.mk.inj hq; clear hq; subst he0
   subst hq0
   exact ends2 Try.results33 rfl rfl ⟨_, rfl, H.base, ⟨_, rfl, H.ownR 5 rfl⟩⟩
  ·
   refine W.cond_false (congrArg Value.bool hc2) ?_
   refine W.skip ?_
   refine W.seq ?_
   refine W.region ?_
   refine O.move (v := v1) rfl rfl rfl ?_
   refine O.assign (v := v1) rfl rfl rfl ?_
   refine O.assign (v := (.int .i64 0)) rfl rfl rfl ?_
   refine WL.nil ?_
   refine W.ret ?_
   have hq : (t2, 0) = (r0, r1) := Option.some.inj (show some (t2, 0) = some (r0, r1) from hm)
   obtain ⟨he0, hq0⟩ := Prod.mk.inj hq; clear hq; subst he0
   subst hq0
   exact ends2 Try.results33 rfl rfl ⟨_, rfl, H.base, ⟨_, rfl, H.ownR 4 rfl⟩⟩

theorem it_slices_Values_int_c1 {wi : World} {Kp : World → Prop} (pc0 : Addr) (vc0 : Value) (c0 : List Int) {r : List Int} (hm : slices_Values_int_c1 c0 = some r)
    (hk : ∀ w, Kp w → (∀ j c, [vc0][j]? = some c → w.cell? (pc0.add j) = some c) ∧ SliceR w vc0 c0) : IterAt Try.prog 90 #[.pointer (some pc0)] (repF (α := Int)) (fun ys => ys = r) Kp wi := by
  obtain rfl := Option.some.inj hm
  intro l J Jx hc h0
  refine calls_of_W Try.func90 rfl Try.ntmps90 (Nat.le_of_ble_eq_true rfl) ?_
  have H := InvI.start hc h0
  have hK := hk _ (InvI.kp H)
  refine W.seq ?_
  refine W.region ?_
  refine O.load (q := pc0) (v := vc0) sc22 rfl rfl rfl (hK.1 0 _ rfl) ?_
  refine O.lenS Try.underlying22 hK.2 rfl rfl rfl ?_
  refine O.move (v := (.int .i64 0)) rfl rfl rfl ?_
  refine WL.nil ?_
  refine W.block ?_
  refine W.loopL (l := c0) (fun rem f w => ∃ ik : Nat, c0.drop ik = rem ∧ f 7 = .int .i64 (ik : Int) ∧ f 6 = .int .i64 (c0.length : Int) ∧ f 5 = vc0 ∧ f 0 = .func (.yield l) #[] #[] ∧ ∃ C, InvI wi w [consI hc (c0.take ik) C]) ?_ ?_ ?_
  · exact ⟨0, List.drop_zero, rfl, rfl, rfl, rfl, _, H⟩
  · rintro y xs f w ⟨ik, hd, hf7, hf6, hf5, hf0, C, H⟩
    have hlt := drop_lt hd; have hix := drop_idx hd
    obtain ⟨u1, rfl⟩ := up4 hf7 hf6 hf5 hf0
    have hK := hk _ (InvI.kp H)
    have hinc := addI_lt hlt hK.2.len_le
    have htake : c0.take (ik + 1) = c0.take ik ++ [y] := by
      have hy : c0[ik]? = some y := by have := congrArg (fun m => m[0]?) hd; simpa using this
      rw [List.take_add_one, hy]; rfl
    have hsplit : c0.take ik ++ y :: xs = c0 := by rw [← hd, List.take_append_drop]
    refine W.seq ?_
    refine W.region ?_
    refine O.lss rfl rfl rfl rfl ?_
    refine WL.nil ?_
    refine W.seq ?_
    refine W.cond_true (congrArg Value.bool (decide_eq_true hlt)) ?_
    refine W.skip ?_
    refine W.seq ?_
    refine W.block ?_
    refine W.seq ?_
    refine W.region ?_
    refine O.indexAddr Try.underlying22 sz3 hK.2 hix rfl rfl rfl rfl ?_
    intro p1 hp1
    refine O.load sc3 rfl rfl rfl (hp1.flat 0 _ rfl) ?_
    refine O.assign (v := (.int .i64 y)) rfl rfl rfl ?_
    refine WL.nil ?_
    refine W.seq ?_
    refine W.region ?_
    refine O.move (v := (.func (.yield l) #[] #[])) rfl rfl rfl ?_
    refine O.move (v := (.int .i64 y)) rfl rfl rfl ?_
    refine O.yield y [(.int .i64 y)] H ⟨xs, hsplit⟩ rfl rfl rfl rfl rfl ?_ ?_
    · intro w' C' H
      refine O.not rfl rfl rfl ?_
      refine WL.nil ?_
      refine W.cond_false rfl ?_
      refine W.skip ?_
      refine W.region ?_
      refine O.add rfl rfl rfl rfl hinc ?_
      refine O.move (v := .int .i64 ((ik : Int) + 1)) rfl rfl rfl ?_
      exact WL.nil ⟨ik + 1, drop_next hd, rfl, rfl, rfl, rfl, _, by rw [htake]; exact H⟩
    · intro w' C' H
      refine O.not rfl rfl rfl ?_
      refine WL.nil ?_
      refine W.cond_true rfl ?_
      refine W.ret ?_
      exact ends0 Try.results90 ⟨_, _, rfl, .inr (H.items _ (List.mem_cons_self ..)).1⟩
  · rintro f w ⟨ik, hd, hf7, hf6, hf5, hf0, C, H⟩
    have hlt := drop_end hd
    obtain ⟨u1, rfl⟩ := up2 hf7 hf6
    refine W.seq ?_
    refine W.region ?_
    refine O.lss rfl rfl rfl rfl ?_
    refine WL.nil ?_
    refine W.seq ?_
    refine W.cond_false (congrArg Value.bool (decide_eq_false hlt)) ?_
    refine W.exit ?_
    refine xT rfl ?_
    refine ends0 Try.results90 ⟨_, C, rfl, .inl ⟨_, rfl, ?_⟩⟩
    have htk : c0.take ik = c0 := List.take_of_length_le (by have := List.drop_eq_nil_iff.1 hd; omega)
    rw [htk] at H
    exact (H.items _ (List.mem_cons_self ..)).1

theorem c_slices_Values_int {w0 : World} (va0 : Value) (a0 : (List Int)) (ha0 : SliceR w0 va0 a0) :
  Calls Try.prog 56 #[va0] w0 (Ret w0 fun w v => ∃ b1 : Nat, v = (.func (.func 90) #[] #[(.pointer (some ⟨b1, 0, none⟩))]) ∧ Inv w0 w [boxI b1 22 [va0]]) := by
 refine calls_of_W Try.func56 rfl Try.ntmps56 (Nat.le_of_ble_eq_true rfl) ?_
 have H := Inv.start (w := w0)
 refine W.seq ?_
 refine W.region ?_
 refine O.box [va0] H rfl rfl rfl (SliceR.cells1 (H.arg ha0)) ?_
 intro b1 w1 H hb1
 refine O.assign (v := .nilFunc) rfl rfl rfl ?_
 refine WL.nil ?_
 refine W.seq ?_
 refine W.region ?_
 refine O.makeFunc rfl rfl rfl rfl ?_
 refine O.assign (v := (.func (.func 90) #[] #[(.pointer (some ⟨b1, 0, none⟩))])) rfl rfl rfl ?_
 refine WL.nil ?_
 refine W.ret ?_
 exact ends1 Try.results56 rfl ⟨_, rfl, H.base, ⟨_, rfl, H.pick [0] [boxI b1 22 [va0]] rfl (by decide)⟩⟩

set_option maxRecDepth 20000 in
theorem c_rate_ends_int {w0 : World} (va0 : Value) (a0 : List Int) (ha0 : IterP Try.prog w0 va0 (repF (α := Int)) (fun ys => ys = a0)) {r0 : Int} {r1 : Int} (hm : rate_ends_int a0 = some (r0, r1)) :
  Calls Try.prog 55 #[va0] w0 (Ret w0 fun _ v => v = .tuple #[(.int .i64 r0), (.int .i64 r1)]) := by
 unfold rate_ends_int at hm
 refine calls_of_WM Try.func55 rfl Try.ntmps55 (Nat.le_of_ble_eq_true rfl) ?_
 have H := Inv.startM (w0 := w0)
 have hmk : (fr0 #[va0]).marks = [] := rfl
 refine W.seq ?_
 refine W.region ?_
 refine O.alloc [(.int .i64 0)] ze3 H rfl rfl rfl ?_
 intro b1 w1 H hb1
 refine O.alloc [(.int .i64 0)] ze3 H rfl rfl rfl ?_
 intro b2 w2 H hb2
 refine WL.nil ?_
 refine W.seq ?_
 refine W.region ?_
 refine O.alloc [(.bool false)] ze4 H rfl rfl rfl ?_
 intro b3 w3 H hb3
 refine O.store 3 0 [(.bool true)] [(.bool true)] sz4 H rfl rfl rfl rfl rfl rfl ⟨⟨rfl, rfl⟩, rfl⟩ (one_cons rfl one_nil) ?_
 intro w4 H
 refine WL.nil ?_
 refine W.seq ?_
 refine W.seq ?_
 refine W.region ?_
 refine O.move (v := va0) rfl rfl rfl ?_
 refine WL.nil ?_
 obtain ⟨⟨s1, s2⟩, hm1, hm⟩ := bind_some hm
 refine W.via (fun f w => ∃ ms1 : List Nat, f 2 = (.pointer (some ⟨b1, 0, none⟩)) ∧ f 3 = (.pointer (some ⟨b2, 0, none⟩)) ∧ f.marks = ms1 ∧ Inv w0 w [marksI ms1, boxI b1 3 [(.int .i64 s1)], boxI b2 3 [(.int .i64 s2)]]) ?_ ?_
 ·
  refine W.block ?_
  obtain ⟨gf1, lb1, hvgf1, hcbgf1, hitgf1⟩ := ha0
  refine W.rangeFuncL (α := Int) (σ := Int × Int × Bool) (X := Int × Int) (xs := a0) (rep := (repF (α := Int))) hm1 (fun s L => ∃ z4 : Int, ∃ z5 : Int, ∃ z6 : Bool, (z4, z5, z6) = s ∧ L = [boxI b1 3 [(.int .i64 z4)], boxI b2 3 [(.int .i64 z5)], boxI b3 4 [(.bool z6)]]) (fun y j L => match j with | some j => j = 0 ∧ (False) | none => False) (show ev _ _ = _ from hvgf1) hcbgf1 rfl (fun _ _ _ h => by rw [h]; rfl) (fun Kp W hs hk => hitgf1 W Kp (Nat.le_trans H.base.size hs) fun w1 hw => by obtain ⟨_, _, _, _, _, hI⟩ := hk w1 hw; exact hI.base) H ⟨_, _, _, rfl, rfl⟩ ?_ ?_ ?_ ?_
  ·
   rintro _ rs lp lp2 iz x1 _ st _ w _ ⟨z4, z5, z6, rfl, rfl⟩ rfl hm2 H
   change W _ _ _ _ _ _ _ (upd _ 7 (.int .i64 x1)) w
   refine W.region ?_
   refine O.assign (v := (.int .i64 x1)) rfl rfl rfl ?_
   refine WL.nil ?_
   refine ⟨_, H, fun w hsl H => ?_⟩
   obtain ⟨⟨s3, s4, s5⟩, hm3, hm2⟩ := bind_some hm2
   refine W.via (fun f w => f 2 = (.pointer (some ⟨b1, 0, none⟩)) ∧ f 3 = (.pointer (some ⟨b2, 0, none⟩)) ∧ f 4 = (.pointer (some ⟨b3, 0, none⟩)) ∧ f 6 = va0 ∧ Inv w0 w [rs, lp2, marksI [], boxI b1 3 [(.int .i64 s3)], boxI b2 3 [(.int .i64 s4)], boxI b3 4 [(.bool s5)]]) ?_ ?_
   ·
    refine W.block ?_
    refine W.seq ?_
    refine W.seq ?_
    refine W.region ?_
    refine O.load sc4 rfl rfl rfl (H.cell 5 rfl 0 _ rfl) ?_
    refine WL.nil ?_
    obtain ⟨⟨s6, s7, s8⟩, hm4, hm3⟩ := bind_some hm3
    refine W.via (fun f w => f 2 = (.pointer (some ⟨b1, 0, none⟩)) ∧ f 3 = (.pointer (some ⟨b2, 0, none⟩)) ∧ f 4 = (.pointer (some ⟨b3, 0, none⟩)) ∧ f 5 = (.int .i64 x1) ∧ f 6 = va0 ∧ Inv w0 w [rs, lp2, marksI [], boxI b1 3 [(.int .i64 s6)], boxI b2 3 [(.int .i64 s7)], boxI b3 4 [(.bool s8)]]) ?_ ?_
    ·
     rcases ite_some hm4 with ⟨hc1, hm4⟩ | ⟨hc1, hm4⟩
     ·
      refine W.cond_true (congrArg Value.bool hc1) ?_
      refine W.region ?_
      refine O.move (v := (.int .i64 x1)) rfl rfl rfl ?_
      refine O.move (v := (.int .i64 x1)) rfl rfl rfl ?_
      refine O.store 3 0 [(.int .i64 x1)] [(.int .i64 x1)] sz3 H rfl rfl rfl rfl rfl rfl ⟨⟨rfl, rfl⟩, rfl⟩ (one_cons rfl one_nil) ?_
      intro w5 H
      refine O.store 4 0 [(.int .i64 x1)] [(.int .i64 x1)] sz3 H rfl rfl rfl rfl rfl rfl ⟨⟨rfl, rfl⟩, rfl⟩ (one_cons rfl one_nil) ?_
      intro w6 H
      refine O.store 5 0 [(.bool false)] [(.bool false)] sz4 H rfl rfl rfl rfl rfl rfl ⟨⟨rfl, rfl⟩, rfl⟩ (one_cons rfl one_nil) ?_
      intro w7 H
      refine WL.nil ?_
      have hq : (x1, x1, false) = (s6, s7, s8) := Option.some.inj (show some (x1, x1, false) = some (s6, s7, s8) from hm4)
      obtain ⟨he0, hq0⟩ := Prod.mk.inj hq; clear hq; subst he0
      obtain ⟨he1, hq1⟩ := Prod.mk.inj hq0; clear hq0; subst he1
      subst hq1
      exact ⟨rfl, rfl, rfl, rfl, rfl, H⟩
     ·
      refine W.cond_false (congrArg Value.bool hc1) ?_
      refine W.skip ?_
      have hq : (z4, z5, z6) = (s6, s7, s8) := Option.some.inj (show some (z4, z5, z6) = some (s6, s7, s8) from hm4)
      obtain ⟨he0, hq0⟩ := Prod.mk.inj hq; clear hq; subst he0
      obtain ⟨he1, hq1⟩ := Prod.mk.inj hq0; clear hq0; subst he1
      subst hq1
      exact ⟨rfl, rfl, rfl, rfl, rfl, H⟩
    ·
     rintro f w ⟨hf2, hf3, hf4, hf5, hf6, H⟩
     obtain ⟨u1, rfl⟩ := up5 hf2 hf3 hf4 hf5 hf6
     refine W.drawS 6 [3, 4, 5] (fun w9 => Inv w0 w9 [rs, lp2, marksI [], boxI b1 3 [(.int .i64 (min s6 x1))], boxI b2 3 [(.int .i64 s7)], boxI b3 4 [(.bool s8)]]) (fun f => f 2 = (.pointer (some ⟨b1, 0, none⟩)) ∧ f 3 = (.pointer (some ⟨b2, 0, none⟩)) ∧ f 4 = (.pointer (some ⟨b3, 0, none⟩)) ∧ f 6 = va0 ∧ f 13 = (.int .i64 (min s6 x1)) ∧ f 16 = (.int .i64 (max s7 x1))) fol (by kernel_rfl) rfl ?_ ?_ ?_
     ·
      refine PL.of (fun b w8 hb hx => match b, hb, hx with | none, _, hx => by have H := H.ext hx; exact O.load sc3 rfl rfl rfl (H.cell 3 rfl 0 _ rfl) (WL.nil ⟨rfl, hx⟩) | some _, hb, _ => absurd (hb rfl) (by decide)) ?_
      refine PL.of (fun b w8 hb hx => match b, hb, hx with | none, _, hx => by exact O.move (v := (.int .i64 x1)) rfl rfl rfl (WL.nil ⟨rfl, hx⟩) | some _, hb, _ => absurd (hb rfl) (by decide)) ?_
      refine PL.of (fun b w8 hb hx => match b, hb, hx with | none, _, hx => by exact O.min2 rfl rfl rfl rfl (WL.nil ⟨rfl, hx⟩) | some _, hb, _ => absurd (hb rfl) (by decide)) ?_
      refine PL.of (fun b w8 _ hx => match b, hx with | none, hx => by have H := H.ext hx; exact O.load sc3 rfl rfl rfl (H.cell 4 rfl 0 _ rfl) (WL.nil ⟨rfl, hx⟩) | some _, H => O.load sc3 rfl rfl rfl (H.cell 4 rfl 0 _ rfl) (WL.nil ⟨rfl, H⟩)) ?_
      refine PL.of (fun b w8 _ hx => match b, hx with | none, hx => by exact O.move (v := (.int .i64 x1)) rfl rfl rfl (WL.nil ⟨rfl, hx⟩) | some _, H => O.move (v := (.int .i64 x1)) rfl rfl rfl (WL.nil ⟨rfl, H⟩)) ?_
      refine PL.of (fun b w8 _ hx => match b, hx with | none, hx => by exact O.max2 rfl rfl rfl rfl (WL.nil ⟨rfl, hx⟩) | some _, H => O.max2 rfl rfl rfl rfl (WL.nil ⟨rfl, H⟩)) ?_
      refine PL.nil ?_
      exact ⟨rfl, rfl, rfl, rfl, rfl, rfl⟩
     ·
      rintro f ⟨hf2, hf3, hf4, hf6, hf13, hf16⟩ w hx
      obtain ⟨u2, rfl⟩ := up6 hf2 hf3 hf4 hf6 hf13 hf16
      have H := H.ext hx
      exact O.store 3 0 [(.int .i64 (min s6 x1))] [(.int .i64 (min s6 x1))] sz3 H rfl rfl rfl rfl rfl rfl ⟨⟨rfl, rfl⟩, rfl⟩ (one_cons rfl one_nil) (fun _ H => WL.nil ⟨rfl, H⟩)
     ·
      rintro f w ⟨hf2, hf3, hf4, hf6, hf13, hf16⟩ hmd H
      obtain ⟨u3, rfl⟩ := up6 hf2 hf3 hf4 hf6 hf13 hf16
      refine O.store 4 0 [(.int .i64 (max s7 x1))] [(.int .i64 (max s7 x1))] sz3 H rfl rfl rfl rfl rfl rfl ⟨⟨rfl, rfl⟩, rfl⟩ (one_cons rfl one_nil) ?_
      intro w8 H
      refine WL.nil ?_
      have hq : ((min s6 x1), (max s7 x1), s8) = (s3, s4, s5) := Option.some.inj (show some ((min s6 x1), (max s7 x1), s8) = some (s3, s4, s5) from hm3)
      obtain ⟨he0, hq0⟩ := Prod.mk.inj hq; clear hq; subst he0
      obtain ⟨he1, hq1⟩ := Prod.mk.inj hq0; clear hq0; subst he1
      subst hq1
      exact ⟨rfl, rfl, rfl, rfl, H⟩
   ·
    rintro f w ⟨hf2, hf3, hf4, hf6, H⟩
    obtain ⟨u4, rfl⟩ := up4 hf2 hf3 hf4 hf6
    obtain rfl := Option.some.inj hm2
    exact ⟨_, _, rfl, ⟨_, _, _, rfl, rfl⟩, H⟩
  ·
   rintro D1 _ _ w ⟨z4, z5, z6, rfl, rfl⟩ hfin H
   have hq : (z4, z5) = (s1, s2) := hfin
   obtain ⟨he0, hq0⟩ := Prod.mk.inj hq; clear hq; subst he0
   subst hq0
   have H := H.keep [0, 1, 2] [marksI (D1 :: []), boxI b1 3 [(.int .i64 z4)], boxI b2 3 [(.int .i64 z5)]] rfl (by decide)
   have hmk := congrArg (D1 :: ·) hmk
   exact ⟨_, rfl, rfl, hmk, H⟩
  ·
   rintro _ _ _ _ ⟨_, h⟩; exact h.elim
  ·
   rintro _ _ _ h; exact h.elim
 ·
  rintro f w ⟨ms1, hf2, hf3, hmk, H⟩
  obtain ⟨u5, rfl⟩ := up2 hf2 hf3
  refine W.seq ?_
  refine W.drawS 2 [1] (fun w9 => Inv w0 w9 [marksI ms1, boxI b1 3 [(.int .i64 s1)], boxI b2 3 [(.int .i64 s2)]]) (fun f => f 2 = (.pointer (some ⟨b1, 0, none⟩)) ∧ f 3 = (.pointer (some ⟨b2, 0, none⟩)) ∧ f 17 = (.int .i64 s1) ∧ f 18 = (.int .i64 s2)) fol (by kernel_rfl) rfl ?_ ?_ ?_
  ·
   refine PL.of (fun b w8 hb hx => match b, hb, hx with | none, _, hx => by have H := H.ext hx; exact O.load sc3 rfl rfl rfl (H.cell 1 rfl 0 _ rfl) (WL.nil ⟨rfl, hx⟩) | some _, hb, _ => absurd (hb rfl) (by decide)) ?_
   refine PL.of (fun b w8 _ hx => match b, hx with | none, hx => by have H := H.ext hx; exact O.load sc3 rfl rfl rfl (H.cell 2 rfl 0 _ rfl) (WL.nil ⟨rfl, hx⟩) | some _, H => O.load sc3 rfl rfl rfl (H.cell 2 rfl 0 _ rfl) (WL.nil ⟨rfl, H⟩)) ?_
   refine PL.nil ?_
   exact ⟨rfl, rfl, rfl, rfl⟩
  ·
   rintro f ⟨hf2, hf3, hf17, hf18⟩ w hx
   obtain ⟨u6, rfl⟩ := up4 hf2 hf3 hf17 hf18
   have H := H.ext hx
   exact O.store 1 0 [(.int .i64 s1)] [(.int .i64 s1)] sz3 H rfl rfl rfl rfl rfl rfl ⟨⟨rfl, rfl⟩, rfl⟩ (one_cons rfl one_nil) (fun _ H => WL.nil ⟨rfl, H⟩)
  ·
   rintro f w ⟨hf2, hf3, hf17, hf18⟩ hmd H
   have hmk := hmd.trans hmk
   obtain ⟨u7, rfl⟩ := up4 hf2 hf3 hf17 hf18
   refine O.store 2 0 [(.int .i64 s2)] [(.int .i64 s2)] sz3 H rfl rfl rfl rfl rfl rfl ⟨⟨rfl, rfl⟩, rfl⟩ (one_cons rfl one_nil) ?_
   intro w9 H
   refine WL.nil ?_
   refine W.ret ?_
   refine endsM_mk H hmk ?_
   intro w H _
   have hq : (s1, s2) = (r0, r1) := Option.some.inj (show some (s1, s2) = some (r0, r1) from hm)
   obtain ⟨he0, hq0⟩ := Prod.mk.inj hq; clear hq; subst he0
   subst hq0
   exact ends2 Try.results55 ⟨_, rfl, run_loadVar_scalar sc3 (H.cell 1 rfl 0 _ rfl)⟩ ⟨_, rfl, run_loadVar_scalar sc3 (H.cell 2 rfl 0 _ rfl)⟩ ⟨_, rfl, H.base, rfl⟩

set_option maxRecDepth 20000 in
theorem c_rate_Trial {w0 : World} (va0_0 : Value) (a0 : GBox) (ha0_0 : SliceR w0 va0_0 a0.Errors) {r0 : GTrial} {r1 : Int} (hm : rate_Trial a0 = some (r0, r1)) :
  Calls Try.prog 15 #[(.agg #[(.string a0.Name), va0_0])] w0 (Ret w0 fun _ v => v = .tuple #[(.agg (Flat.cells r0).toArray), (.int .i64 r1)]) := by
 unfold rate_Trial at hm
 refine calls_of_WM Try.func15 rfl Try.ntmps15 (Nat.le_of_ble_eq_true rfl) ?_
 have H := Inv.startM (w0 := w0)
 have hmk : (fr0 #[(.agg #[(.string a0.Name), va0_0])]).marks = [] := rfl
 refine W.seq ?_
 refine W.region ?_
 refine O.box [(.string a0.Name), va0_0] H rfl rfl rfl rfl ?_
 intro b1 w1 H hb1
 refine O.alloc [(.string ByteArray.empty), (.int .i64 0), (.int .i64 0), (.int .i64 0), (.int .i64 0)] ze28 H rfl rfl rfl ?_
 intro b2 w2 H hb2
 refine O.assign (v := (.int .i64 0)) rfl rfl rfl ?_
 refine WL.nil ?_
 refine W.seq ?_
 refine W.region ?_
 refine O.loadA [(.string a0.Name), va0_0] ag24 rfl rfl rfl rfl (H.cell 1 rfl) ?_
 obtain ⟨⟨t1, t2⟩, hy1, hm⟩ := bind_some hm
 refine O.call Try.call33 rfl rfl rfl (c_rate_Weekly _ (GBox.mk a0.Name a0.Errors) (H.arg ha0_0) hy1) ?_
 rintro _ w3 hb3 ⟨v1, rfl, ho1⟩
 have H := H.addOwn hb3 ho1
 refine O.move (v := (.tuple #[v1, (.int .i64 t2)])) rfl rfl rfl ?_
 refine O.extract (v := v1) rfl rfl rfl rfl ?_
 refine O.extract (v := (.int .i64 t2)) rfl rfl rfl rfl ?_
 refine O.assign (v := v1) rfl rfl rfl ?_
 refine O.assign (v := (.int .i64 t2)) rfl rfl rfl ?_
 refine WL.nil ?_
 refine W.seq ?_
 refine W.block ?_
 refine W.seq ?_
 refine W.region ?_
 refine O.move (v := (.int .i64 t2)) rfl rfl rfl ?_
 refine O.neq rfl rfl rfl rfl ?_
 refine O.assign (v := (.bool (t2 != 0))) rfl rfl rfl ?_
 refine WL.nil ?_
 rcases ite_some hm with ⟨hc1, hm⟩ | ⟨hc1, hm⟩
 ·
  refine W.cond_true (congrArg Value.bool hc1) ?_
  refine W.seq ?_
  refine W.region ?_
  refine O.build (v := (.agg (Flat.cells (GTrial.mk ByteArray.empty 0 0 0 0)).toArray)) (fun w => bd28_  w) rfl rfl rfl ?_
  refine O.move (v := (.int .i64 t2)) rfl rfl rfl ?_
  refine O.store 2 0 [(.string ByteArray.empty), (.int .i64 0), (.int .i64 0), (.int .i64 0), (.int .i64 0)] [(.string ByteArray.empty), (.int .i64 0), (.int .i64 0), (.int .i64 0), (.int .i64 0)] sz28 H rfl rfl rfl rfl rfl rfl ⟨⟨rfl, rfl⟩, rfl⟩ (one_cons rfl (one_cons rfl (one_cons rfl (one_cons rfl (one_cons rfl one_nil))))) ?_
  intro w4 H
  refine O.assign (v := (.int .i64 t2)) rfl rfl rfl ?_
  refine WL.nil ?_
  refine W.ret ?_
  refine endsM_mk H hmk ?_
  intro w H _
  have hq : ((GTrial.mk ByteArray.empty 0 0 0 0), t2) = (r0, r1) := Option.some.inj (show some ((GTrial.mk ByteArray.empty 0 0 0 0), t2) = some (r0, r1) from hm)
  obtain ⟨he0, hq0⟩ := Prod.mk.inj hq; clear hq; subst he0
  subst hq0
  exact ends2 Try.results15 ⟨_, rfl, run_loadVar_agg ag28 rfl (H.cell 2 rfl)⟩ rfl ⟨_, rfl, H.base, rfl⟩
 ·
  refine W.cond_false (congrArg Value.bool hc1) ?_
  refine W.seq ?_
  refine W.region ?_
  refine O.move (v := v1) rfl rfl rfl ?_
  refine O.lenS Try.underlying22 (H.own 3 rfl) rfl rfl rfl ?_
  refine O.lss rfl rfl rfl rfl ?_
  refine O.assign (v := (.bool (decide (((t1.length : Nat) : Int) < 2)))) rfl rfl rfl ?_
  refine WL.nil ?_
  rcases ite_some hm with ⟨hc2, hm⟩ | ⟨hc2, hm⟩
  ·
   refine W.cond_true (congrArg Value.bool hc2) ?_
   refine W.seq ?_
   refine W.region ?_
   refine O.build (v := (.agg (Flat.cells (GTrial.mk ByteArray.empty 0 0 0 0)).toArray)) (fun w => bd28_  w) rfl rfl rfl ?_
   refine O.store 2 0 [(.string ByteArray.empty), (.int .i64 0), (.int .i64 0), (.int .i64 0), (.int .i64 0)] [(.string ByteArray.empty), (.int .i64 0), (.int .i64 0), (.int .i64 0), (.int .i64 0)] sz28 H rfl rfl rfl rfl rfl rfl ⟨⟨rfl, rfl⟩, rfl⟩ (one_cons rfl (one_cons rfl (one_cons rfl (one_cons rfl (one_cons rfl one_nil))))) ?_
   intro w5 H
   refine O.assign (v := (.int .i64 8)) rfl rfl rfl ?_
   refine WL.nil ?_
   refine W.ret ?_
   refine endsM_mk H hmk ?_
   intro w H _
   have hq : ((GTrial.mk ByteArray.empty 0 0 0 0), 8) = (r0, r1) := Option.some.inj (show some ((GTrial.mk ByteArray.empty 0 0 0 0), 8) = some (r0, r1) from hm)
   obtain ⟨he0, hq0⟩ := Prod.mk.inj hq; clear hq; subst he0
   subst hq0
   exact ends2 Try.results15 ⟨_, rfl, run_loadVar_agg ag28 rfl (H.cell 2 rfl)⟩ rfl ⟨_, rfl, H.base, rfl⟩
  ·
   refine W.cond_false (congrArg Value.bool hc2) ?_
   refine W.skip ?_
   refine W.seq ?_
   refine W.region ?_
   refine O.fieldAddr fd24_0 rfl rfl rfl ?_
   refine O.load sc9 rfl rfl rfl (H.cell 1 rfl 0 _ rfl) ?_
   refine O.build (v := (.agg (Flat.cells (GTrial.mk a0.Name 0 0 0 0)).toArray)) (fun w => bd28_0 _ w) rfl rfl rfl ?_
   refine O.alloc [(.string ByteArray.empty), (.int .i64 0), (.int .i64 0), (.int .i64 0), (.int .i64 0)] ze28 H rfl rfl rfl ?_
   intro b3 w6 H hb4
   refine O.store 4 0 [(.string a0.Name), (.int .i64 0), (.int .i64 0), (.int .i64 0), (.int .i64 0)] [(.string a0.Name), (.int .i64 0), (.int .i64 0), (.int .i64 0), (.int .i64 0)] sz28 H rfl rfl rfl rfl rfl rfl ⟨⟨rfl, rfl⟩, rfl⟩ (one_cons rfl (one_cons rfl (one_cons rfl (one_cons rfl (one_cons rfl one_nil))))) ?_
   intro w7 H
   refine WL.nil ?_
   refine W.seq ?_
   refine W.region ?_
   refine O.move (v := v1) rfl rfl rfl ?_
   refine O.call Try.call56 rfl rfl rfl (c_slices_Values_int _ _ (H.own 3 rfl)) ?_
   rintro _ w8 hb5 ⟨b4, rfl, hM1⟩
   have H := H.addAll hb5 hM1
   obtain ⟨xs1, hxs1, hm⟩ := bind_some hm
   obtain ⟨⟨t3, t4⟩, hy2, hm⟩ := bind_some hm
   refine O.call Try.call55 rfl rfl rfl (c_rate_ends_int (.func (.func 90) #[] #[(.pointer (some ⟨b4, 0, none⟩))]) xs1 (iterP_mk rfl Try.call90 fun _ _ hk => it_slices_Values_int_c1 _ _ t1 hxs1 fun w hw => ⟨cells_mono (H.cell 5 rfl) (hk w hw), (H.own 3 rfl).mono (hk w hw)⟩) hy2) ?_
   rintro _ w9 hb6 rfl
   have H := H.ext hb6
   refine O.move (v := (.tuple #[(.int .i64 t3), (.int .i64 t4)])) rfl rfl rfl ?_
   refine O.extract (v := (.int .i64 t3)) rfl rfl rfl rfl ?_
   refine O.extract (v := (.int .i64 t4)) rfl rfl rfl rfl ?_
   refine O.fieldAddr fd28_1 rfl rfl rfl ?_
   refine O.store 4 1 [(.int .i64 t3)] [(.string a0.Name), (.int .i64 t3), (.int .i64 0), (.int .i64 0), (.int .i64 0)] sz3 H rfl rfl rfl rfl rfl rfl ⟨⟨rfl, rfl⟩, rfl⟩ (one_cons rfl one_nil) ?_
   intro w10 H
   refine O.fieldAddr fd28_2 rfl rfl rfl ?_
   refine O.store 4 2 [(.int .i64 t4)] [(.string a0.Name), (.int .i64 t3), (.int .i64 t4), (.int .i64 0), (.int .i64 0)] sz3 H rfl rfl rfl rfl rfl rfl ⟨⟨rfl, rfl⟩, rfl⟩ (one_cons rfl one_nil) ?_
   intro w11 H
   refine WL.nil ?_
   refine W.seq ?_
   refine W.seq ?_
   refine W.region ?_
   refine O.move (v := v1) rfl rfl rfl ?_
   refine O.call Try.call57 rfl rfl rfl (c_rate_differences _ _ (H.own 3 rfl) _) ?_
   rintro _ w12 hb7 ⟨b5, b6, rfl, hM2⟩
   have H := H.addAll hb7 hM2
   refine WL.nil ?_
   obtain ⟨xs2, hxs2, hm⟩ := bind_some hm
   obtain ⟨s1, hm1, hm⟩ := bind_some hm
   refine W.via (fun f w => ∃ ms1 : List Nat, f 2 = (.pointer (some ⟨b2, 0, none⟩)) ∧ f 6 = (.pointer (some ⟨b3, 0, none⟩)) ∧ f.marks = ms1 ∧ Inv w0 w [marksI ms1, boxI b2 28 [(.string ByteArray.empty), (.int .i64 0), (.int .i64 0), (.int .i64 0), (.int .i64 0)], boxI b3 28 [(.string a0.Name), (.int .i64 t3), (.int .i64 t4), (.int .i64 s1), (.int .i64 0)]]) ?_ ?_
   ·
    refine W.block ?_
    have H := H.keep [0, 2, 3, 4, 6, 7] [marksI [], boxI b2 28 [(.string ByteArray.empty), (.int .i64 0), (.int .i64 0), (.int .i64 0), (.int .i64 0)], ownI (α := Int) v1 3 t1, boxI b3 28 [(.string a0.Name), (.int .i64 t3), (.int .i64 t4), (.int .i64 0), (.int .i64 0)], boxI b5 3 [(.int .i64 1)], boxI b6 22 [v1]] rfl (by decide)
    refine W.rangeFuncL (α := Int) (σ := Int) (X := Int) (xs := xs2) (rep := (repF (α := Int))) hm1 (fun s L => ∃ z2 : Int, z2 = s ∧ L = [boxI b2 28 [(.string ByteArray.empty), (.int .i64 0), (.int .i64 0), (.int .i64 0), (.int .i64 0)], ownI (α := Int) v1 3 t1, boxI b3 28 [(.string a0.Name), (.int .i64 t3), (.int .i64 t4), (.int .i64 z2), (.int .i64 0)], boxI b5 3 [(.int .i64 1)], boxI b6 22 [v1]]) (fun y j L => match j with | some j => j = 1 ∧ (False) | none => False) rfl Try.call91 rfl (fun _ _ _ h => by rw [h]; rfl) (fun Kp W hs hk => it_rate_differences_c1 _ 1 _ _ t1 hxs2 fun w1 hw => by obtain ⟨_, _, _, _, ⟨_, _, rfl⟩, H⟩ := hk w1 hw; exact ⟨H.cell 6 rfl, H.cell 7 rfl, (H.own 4 rfl)⟩) H ⟨_, rfl, rfl⟩ ?_ ?_ ?_ ?_
    ·
     rintro _ rs lp lp2 iz x1 _ st _ w _ ⟨z2, rfl, rfl⟩ rfl hm2 H
     change W _ _ _ _ _ _ _ (upd _ 36 (.int .i64 x1)) w
     refine W.region ?_
     refine O.assign (v := (.int .i64 x1)) rfl rfl rfl ?_
     refine WL.nil ?_
     refine ⟨_, H, fun w hsl H => ?_⟩
     refine W.block ?_
     refine W.region ?_
     refine O.fieldAddr fd28_3 rfl rfl rfl ?_
     refine O.load sc3 rfl rfl rfl (H.cell 5 rfl 3 _ rfl) ?_
     refine O.move (v := (.int .i64 x1)) rfl rfl rfl ?_
     refine O.move (v := (.int .i64 x1)) rfl rfl rfl ?_
     refine O.negW rfl rfl rfl ?_
     refine O.max3 rfl rfl rfl rfl rfl ?_
     refine O.fieldAddr fd28_3 rfl rfl rfl ?_
     refine O.store 5 3 [(.int .i64 (max (max z2 x1) (negW x1)))] [(.string a0.Name), (.int .i64 t3), (.int .i64 t4), (.int .i64 (max (max z2 x1) (negW x1))), (.int .i64 0)] sz3 H rfl rfl rfl rfl rfl rfl ⟨⟨rfl, rfl⟩, rfl⟩ (one_cons rfl one_nil) ?_
     intro w13 H
     refine WL.nil ?_
     obtain rfl := Option.some.inj hm2
     exact ⟨_, _, rfl, ⟨_, rfl, rfl⟩, H⟩
    ·
     rintro D1 _ _ w ⟨z2, rfl, rfl⟩ hfin H
     have hq : z2 = s1 := hfin
     subst hq
     have H := H.keep [0, 1, 3] [marksI (D1 :: []), boxI b2 28 [(.string ByteArray.empty), (.int .i64 0), (.int .i64 0), (.int .i64 0), (.int .i64 0)], boxI b3 28 [(.string a0.Name), (.int .i64 t3), (.int .i64 t4), (.int .i64 z2), (.int .i64 0)]] rfl (by decide)
     have hmk := congrArg (D1 :: ·) hmk
     exact ⟨_, rfl, rfl, hmk, H⟩
    ·
     rintro _ _ _ _ ⟨_, h⟩; exact h.elim
    ·
     rintro _ _ _ h; exact h.elim
   ·
    rintro f w ⟨ms1, hf2, hf6, hmk, H⟩
    obtain ⟨u1, rfl⟩ := up2 hf2 hf6
    refine W.seq ?_
    refine W.region ?_
    refine O.fieldAddr fd28_2 rfl rfl rfl ?_
    refine O.load sc3 rfl rfl rfl (H.cell 2 rfl 2 _ rfl) ?_
    refine O.fieldAddr fd28_1 rfl rfl rfl ?_
    refine O.load sc3 rfl rfl rfl (H.cell 2 rfl 1 _ rfl) ?_
    obtain ⟨t5, ht5, hm⟩ := bind_some hm
    refine O.sub rfl rfl rfl rfl ht5 ?_
    refine O.fieldAddr fd28_3 rfl rfl rfl ?_
    refine O.load sc3 rfl rfl rfl (H.cell 2 rfl 3 _ rfl) ?_
    obtain ⟨t6, ht6, hm⟩ := bind_some hm
    refine O.mul rfl rfl rfl rfl ht6 ?_
    obtain ⟨t7, ht7, hm⟩ := bind_some hm
    refine O.add rfl rfl rfl rfl ht7 ?_
    refine O.fieldAddr fd28_4 rfl rfl rfl ?_
    refine O.store 2 4 [(.int .i64 t7)] [(.string a0.Name), (.int .i64 t3), (.int .i64 t4), (.int .i64 s1), (.int .i64 t7)] sz3 H rfl rfl rfl rfl rfl rfl ⟨⟨rfl, rfl⟩, rfl⟩ (one_cons rfl one_nil) ?_
    intro w14 H
    refine WL.nil ?_
    refine W.seq ?_
    refine W.region ?_
    refine O.loadA [(.string a0.Name), (.int .i64 t3), (.int .i64 t4), (.int .i64 s1), (.int .i64 t7)] ag28 rfl rfl rfl rfl (H.cell 2 rfl) ?_
    refine O.store 1 0 [(.string a0.Name), (.int .i64 t3), (.int .i64 t4), (.int .i64 s1), (.int .i64 t7)] [(.string a0.Name), (.int .i64 t3), (.int .i64 t4), (.int .i64 s1), (.int .i64 t7)] sz28 H rfl rfl rfl rfl rfl rfl ⟨⟨rfl, rfl⟩, rfl⟩ (one_cons rfl (one_cons rfl (one_cons rfl (one_cons rfl (one_cons rfl one_nil))))) ?_
    intro w15 H
    refine O.assign (v := (.int .i64 0)) rfl rfl rfl ?_
    refine WL.nil ?_
    refine W.ret ?_
    refine endsM_mk H hmk ?_
    intro w H _
    have hq : ((GTrial.mk a0.Name t3 t4 s1 t7), 0) = (r0, r1) := Option.some.inj (show some ((GTrial.mk a0.Name t3 t4 s1 t7), 0) = some (r0, r1) from hm)
    obtain ⟨he0, hq0⟩ := Prod.mk.inj hq; clear hq; subst he0
    subst hq0
    exact ends2 Try.results15 ⟨_, rfl, run_loadVar_agg ag28 rfl (H.cell 1 rfl)⟩ rfl ⟨_, rfl, H.base, rfl⟩

theorem c_rate_Arc {w0 : World} (a0 : Int) {r0 : Int} {r1 : Int} {r2 : Int} (hm : rate_Arc a0 = some (r0, r1, r2)) :
  Calls Try.prog 40 #[(.int .i64 a0)] w0 (Ret w0 fun _ v => v = .tuple #[(.int .i64 r0), (.int .i64 r1), (.int .i64 r2)]) := by
 unfold rate_Arc at hm
 refine calls_of_W Try.func40 rfl Try.ntmps40 (Nat.le_of_ble_eq_true rfl) ?_
 have H := Inv.start (w := w0)
 refine W.seq ?_
 refine W.region ?_
 refine O.assign (v := (.int .i64 0)) rfl rfl rfl ?_
 refine O.assign (v := (.int .i64 0)) rfl rfl rfl ?_
 refine O.assign (v := (.int .i64 0)) rfl rfl rfl ?_
 refine WL.nil ?_
 refine W.seq ?_
 refine W.seq ?_
 refine W.region ?_
 refine O.move (v := (.int .i64 a0)) rfl rfl rfl ?_
 obtain ⟨t1, hy1, hm⟩ := bind_some hm
 refine O.call Try.call59 rfl rfl rfl (c_rate_within _ _ _ hy1) ?_
 rintro _ w1 hb1 rfl
 have H := H.ext hb1
 refine O.not rfl rfl rfl ?_
 refine WL.nil ?_
 rcases ite_some hm with ⟨hc1, hm⟩ | ⟨hc1, hm⟩
 ·
  refine W.cond_true (congrArg Value.bool hc1) ?_
  refine W.seq ?_
  refine W.region ?_
  refine O.assign (v := (.int .i64 0)) rfl rfl rfl ?_
  refine O.assign (v := (.int .i64 0)) rfl rfl rfl ?_
  refine O.assign (v := (.int .i64 7)) rfl rfl rfl ?_
  refine WL.nil ?_
  refine W.ret ?_
  have hq : (0, 0, 7) = (r0, r1, r2) := Option.some.inj (show some (0, 0, 7) = some (r0, r1, r2) from hm)
  obtain ⟨he0, hq0⟩ := Prod.mk.inj hq; clear hq; subst he0
  obtain ⟨he1, hq1⟩ := Prod.mk.inj hq0; clear hq0; subst he1
  subst hq1
  exact ends3 Try.results40 rfl rfl rfl ⟨_, rfl, H.base, rfl⟩
 ·
  refine W.cond_false (congrArg Value.bool hc1) ?_
  refine W.skip ?_
  refine W.seq ?_
  refine W.region ?_
  refine O.move (v := (.int .i64 a0)) rfl rfl rfl ?_
  refine O.move (v := (.int .i64 a0)) rfl rfl rfl ?_
  refine O.negW rfl rfl rfl ?_
  refine O.max2 rfl rfl rfl rfl ?_
  obtain ⟨t2, ht2, hm⟩ := bind_some hm
  refine O.mul rfl rfl rfl rfl ht2 ?_
  refine O.assign (v := (.int .i64 t2)) rfl rfl rfl ?_
  refine WL.nil ?_
  refine W.seq ?_
  refine W.region ?_
  refine O.move (v := (.int .i64 t2)) rfl rfl rfl ?_
  obtain ⟨t3, ht3, hm⟩ := bind_some hm
  refine O.quo rfl rfl rfl rfl ht3 ?_
  refine O.move (v := (.int .i64 t2)) rfl rfl rfl ?_
  obtain ⟨t4, ht4, hm⟩ := bind_some hm
  refine O.rem rfl rfl rfl rfl ht4 ?_
  refine O.assign (v := (.int .i64 t3)) rfl rfl rfl ?_
  refine O.assign (v := (.int .i64 t4)) rfl rfl rfl ?_
  refine O.assign (v := (.int .i64 0)) rfl rfl rfl ?_
  refine WL.nil ?_
  refine W.ret ?_
  have hq : (t3, t4, 0) = (r0, r1, r2) := Option.some.inj (show some (t3, t4, 0) = some (r0, r1, r2) from hm)
  obtain ⟨he0, hq0⟩ := Prod.mk.inj hq; clear hq; subst he0
  obtain ⟨he1, hq1⟩ := Prod.mk.inj hq0; clear hq0; subst he1
  subst hq1
  exact ends3 Try.results40 rfl rfl rfl ⟨_, rfl, H.base, rfl⟩

theorem c_noongunlaw06_awake {w0 : World}  {r0 : Bool} (hm : noongunlaw06_awake  = some r0) :
  Calls Try.prog 14 #[] w0 (Ret w0 fun _ v => v = (.bool r0)) := by
 unfold noongunlaw06_awake at hm
 refine calls_of_W Try.func14 rfl Try.ntmps14 (Nat.le_of_ble_eq_true rfl) ?_
 have H := Inv.start (w := w0)
 refine W.seq ?_
 refine W.region ?_
 refine O.assign (v := (.bool false)) rfl rfl rfl ?_
 refine WL.nil ?_
 refine W.seq ?_
 refine W.region ?_
 refine O.buildSlice (α := Int) [(.int .i64 0), (.int .i64 7), (.int .i64 14), (.int .i64 21), (.int .i64 28), (.int .i64 35), (.int .i64 42), (.int .i64 49), (.int .i64 57), (.int .i64 65), (.int .i64 73), (.int .i64 81), (.int .i64 89), (.int .i64 97), (.int .i64 105)] [0, 7, 14, 21, 28, 35, 42, 49, 57, 65, 73, 81, 89, 97, 105] Try.underlying22 el3 H rfl rfl rfl rfl rfl rfl rfl ?_
 intro v1 w1 H hb1
 obtain ⟨ad1, cap1, hvad1, _⟩ := (H.own 0 rfl).shape
 refine O.build (v := (.agg #[(.string (bs [97])), v1])) (fun w => by rw [hvad1]; exact bd24_0_1 _ _ _ _ w) rfl rfl rfl ?_
 obtain ⟨⟨t1, t2⟩, hy1, hm⟩ := bind_some hm
 refine O.call Try.call15 rfl rfl rfl (c_rate_Trial _ (GBox.mk (bs [97]) ([0, 7, 14, 21, 28, 35, 42, 49, 57, 65, 73, 81, 89, 97, 105] : List Int)) (H.own 0 rfl) hy1) ?_
 rintro _ w2 hb2 rfl
 have H := H.ext hb2
 refine O.move (v := (.tuple #[(.agg (Flat.cells t1).toArray), (.int .i64 t2)])) rfl rfl rfl ?_
 refine O.extract (v := (.agg (Flat.cells t1).toArray)) rfl rfl rfl rfl ?_
 refine O.extract (v := (.int .i64 t2)) rfl rfl rfl rfl ?_
 refine O.alloc [(.string ByteArray.empty), (.int .i64 0), (.int .i64 0), (.int .i64 0), (.int .i64 0)] ze28 H rfl rfl rfl ?_
 intro b1 w3 H hb3
 refine O.store 1 0 [(.string t1.Name), (.int .i64 t1.Least), (.int .i64 t1.Greatest), (.int .i64 t1.Leap), (.int .i64 t1.Number)] [(.string t1.Name), (.int .i64 t1.Least), (.int .i64 t1.Greatest), (.int .i64 t1.Leap), (.int .i64 t1.Number)] sz28 H rfl rfl rfl rfl rfl rfl ⟨⟨rfl, rfl⟩, rfl⟩ (one_cons rfl (one_cons rfl (one_cons rfl (one_cons rfl (one_cons rfl one_nil))))) ?_
 intro w4 H
 refine O.assign (v := (.int .i64 t2)) rfl rfl rfl ?_
 refine WL.nil ?_
 refine W.seq ?_
 refine W.region ?_
 obtain ⟨⟨t3, t4, t5⟩, hy2, hm⟩ := bind_some hm
 refine O.call Try.call40 rfl rfl rfl (c_rate_Arc _ hy2) ?_
 rintro _ w5 hb4 rfl
 have H := H.ext hb4
 refine O.move (v := (.tuple #[(.int .i64 t3), (.int .i64 t4), (.int .i64 t5)])) rfl rfl rfl ?_
 refine O.extract (v := (.int .i64 t3)) rfl rfl rfl rfl ?_
 refine O.extract (v := (.int .i64 t4)) rfl rfl rfl rfl ?_
 refine O.extract (v := (.int .i64 t5)) rfl rfl rfl rfl ?_
 refine O.assign (v := (.int .i64 t3)) rfl rfl rfl ?_
 refine O.assign (v := (.int .i64 t4)) rfl rfl rfl ?_
 refine O.assign (v := (.int .i64 t5)) rfl rfl rfl ?_
 refine WL.nil ?_
 refine W.seq ?_
 refine W.region ?_
 refine O.move (v := (.int .i64 t2)) rfl rfl rfl ?_
 refine O.eql rfl rfl rfl rfl ?_
 refine O.move (v := (.bool (t2 == 0))) rfl rfl rfl ?_
 refine WL.cut 4 (fun f w => f 3 = (.int .i64 t3) ∧ f 5 = (.int .i64 t5) ∧ f 23 = .bool ((t2 == 0) && (t1 == (GTrial.mk (bs [97]) 49 56 7 21))) ∧ Inv w0 w [ownI (α := Int) v1 3 ([0, 7, 14, 21, 28, 35, 42, 49, 57, 65, 73, 81, 89, 97, 105] : List Int), boxI b1 28 [(.string t1.Name), (.int .i64 t1.Least), (.int .i64 t1.Greatest), (.int .i64 t1.Leap), (.int .i64 t1.Number)]]) ?_ ?_
 ·
  rcases bool_ft (t2 == 0) with hc1 | hc1
  ·
   refine WL.reset (i := 19) (v := .bool false) (congrArg Value.bool hc1) ?_
   refine O.skip rfl rfl ?_
   refine O.skip rfl rfl ?_
   refine O.skip rfl rfl ?_
   refine O.pick_false (v := (.bool false)) rfl rfl rfl rfl ?_
   exact WL.nil ⟨rfl, rfl, congrArg Value.bool (and_f hc1), H⟩
  ·
   refine WL.reset (i := 19) (v := .bool true) (congrArg Value.bool hc1) ?_
   refine O.loadA [(.string t1.Name), (.int .i64 t1.Least), (.int .i64 t1.Greatest), (.int .i64 t1.Leap), (.int .i64 t1.Number)] ag28 rfl rfl rfl rfl (H.cell 1 rfl) ?_
   refine O.build (v := (.agg (Flat.cells (GTrial.mk (bs [97]) 49 56 7 21)).toArray)) (fun w => bd28_0_1_2_3_4 _ _ _ _ _ w) rfl rfl rfl ?_
   refine O.eqlSt t1 (GTrial.mk (bs [97]) 49 56 7 21) eq28 rfl rfl rfl rfl ?_
   refine O.pick_true (v := (.bool (t1 == (GTrial.mk (bs [97]) 49 56 7 21)))) rfl rfl rfl rfl ?_
   exact WL.nil ⟨rfl, rfl, congrArg Value.bool (and_t hc1), H⟩
 ·
  rintro f w ⟨hf3, hf5, hf23, H⟩
  obtain ⟨u1, rfl⟩ := up3 hf3 hf5 hf23
  refine O.move (v := (.bool ((t2 == 0) && (t1 == (GTrial.mk (bs [97]) 49 56 7 21))))) rfl rfl rfl ?_
  refine WL.cut 3 (fun f w => f 3 = (.int .i64 t3) ∧ f 27 = .bool (((t2 == 0) && (t1 == (GTrial.mk (bs [97]) 49 56 7 21))) && (t5 == 0)) ∧ Inv w0 w [ownI (α := Int) v1 3 ([0, 7, 14, 21, 28, 35, 42, 49, 57, 65, 73, 81, 89, 97, 105] : List Int), boxI b1 28 [(.string t1.Name), (.int .i64 t1.Least), (.int .i64 t1.Greatest), (.int .i64 t1.Leap), (.int .i64 t1.Number)]]) ?_ ?_
  ·
   rcases bool_ft ((t2 == 0) && (t1 == (GTrial.mk (bs [97]) 49 56 7 21))) with hc2 | hc2
   ·
    refine WL.reset (i := 24) (v := .bool false) (congrArg Value.bool hc2) ?_
    refine O.skip rfl rfl ?_
    refine O.skip rfl rfl ?_
    refine O.pick_false (v := (.bool false)) rfl rfl rfl rfl ?_
    exact WL.nil ⟨rfl, congrArg Value.bool (and_f hc2), H⟩
   ·
    refine WL.reset (i := 24) (v := .bool true) (congrArg Value.bool hc2) ?_
    refine O.move (v := (.int .i64 t5)) rfl rfl rfl ?_
    refine O.eql rfl rfl rfl rfl ?_
    refine O.pick_true (v := (.bool (t5 == 0))) rfl rfl rfl rfl ?_
    exact WL.nil ⟨rfl, congrArg Value.bool (and_t hc2), H⟩
  ·
   rintro f w ⟨hf3, hf27, H⟩
   obtain ⟨u2, rfl⟩ := up2 hf3 hf27
   refine O.move (v := (.bool (((t2 == 0) && (t1 == (GTrial.mk (bs [97]) 49 56 7 21))) && (t5 == 0)))) rfl rfl rfl ?_
   refine WL.cut 3 (fun f w => f 31 = .bool ((((t2 == 0) && (t1 == (GTrial.mk (bs [97]) 49 56 7 21))) && (t5 == 0)) && (t3 == 60)) ∧ Inv w0 w [ownI (α := Int) v1 3 ([0, 7, 14, 21, 28, 35, 42, 49, 57, 65, 73, 81, 89, 97, 105] : List Int), boxI b1 28 [(.string t1.Name), (.int .i64 t1.Least), (.int .i64 t1.Greatest), (.int .i64 t1.Leap), (.int .i64 t1.Number)]]) ?_ ?_
   ·
    rcases bool_ft (((t2 == 0) && (t1 == (GTrial.mk (bs [97]) 49 56 7 21))) && (t5 == 0)) with hc3 | hc3
    ·
     refine WL.reset (i := 28) (v := .bool false) (congrArg Value.bool hc3) ?_
     refine O.skip rfl rfl ?_
     refine O.skip rfl rfl ?_
     refine O.pick_false (v := (.bool false)) rfl rfl rfl rfl ?_
     exact WL.nil ⟨congrArg Value.bool (and_f hc3), H⟩
    ·
     refine WL.reset (i := 28) (v := .bool true) (congrArg Value.bool hc3) ?_
     refine O.move (v := (.int .i64 t3)) rfl rfl rfl ?_
     refine O.eql rfl rfl rfl rfl ?_
     refine O.pick_true (v := (.bool (t3 == 60))) rfl rfl rfl rfl ?_
     exact WL.nil ⟨congrArg Value.bool (and_t hc3), H⟩
   ·
    rintro f w ⟨hf31, H⟩
    obtain ⟨u3, rfl⟩ := up1 hf31
    refine O.assign (v := (.bool ((((t2 == 0) && (t1 == (GTrial.mk (bs [97]) 49 56 7 21))) && (t5 == 0)) && (t3 == 60)))) rfl rfl rfl ?_
    refine WL.nil ?_
    refine W.ret ?_
    have hq : ((((t2 == 0) && (t1 == (GTrial.mk (bs [97]) 49 56 7 21))) && (t5 == 0)) && (t3 == 60)) = r0 := Option.some.inj (show some ((((t2 == 0) && (t1 == (GTrial.mk (bs [97]) 49 56 7 21))) && (t5 == 0)) && (t3 == 60)) = some r0 from hm)
    subst hq
    exact ends1 Try.results14 rfl ⟨_, rfl, H.base, rfl⟩

theorem c_rate_Bought_c1 {w0 : World} (a0 : Int) {r0 : Bool} (hm : rate_Bought_c1 a0 = some r0) :
  Calls Try.prog 77 #[(.int .i64 a0)] w0 (Ret w0 fun _ v => v = (.bool r0)) := by
 unfold rate_Bought_c1 at hm
 refine calls_of_W Try.func77 rfl Try.ntmps77 (Nat.le_of_ble_eq_true rfl) ?_
 have H := Inv.start (w := w0)
 refine W.seq ?_
 refine W.region ?_
 refine O.assign (v := (.bool false)) rfl rfl rfl ?_
 refine WL.nil ?_
 refine W.seq ?_
 refine W.region ?_
 refine O.move (v := (.int .i64 a0)) rfl rfl rfl ?_
 obtain ⟨t1, hy1, hm⟩ := bind_some hm
 refine O.call Try.call59 rfl rfl rfl (c_rate_within _ _ _ hy1) ?_
 rintro _ w1 hb1 rfl
 have H := H.ext hb1
 refine O.not rfl rfl rfl ?_
 refine O.assign (v := (.bool (!t1))) rfl rfl rfl ?_
 refine WL.nil ?_
 refine W.ret ?_
 have hq : (!t1) = r0 := Option.some.inj (show some (!t1) = some r0 from hm)
 subst hq
 exact ends1 Try.results77 rfl ⟨_, rfl, H.base, rfl⟩

theorem c_rate_Bought_c2 {w0 : World} (a0 : GTrial) {r0 : Bool} (hm : rate_Bought_c2 a0 = some r0) :
  Calls Try.prog 78 #[(.agg (Flat.cells a0).toArray)] w0 (Ret w0 fun _ v => v = (.bool r0)) := by
 unfold rate_Bought_c2 at hm
 refine calls_of_W Try.func78 rfl Try.ntmps78 (Nat.le_of_ble_eq_true rfl) ?_
 have H := Inv.start (w := w0)
 refine W.seq ?_
 refine W.region ?_
 refine O.box [(.string a0.Name), (.int .i64 a0.Least), (.int .i64 a0.Greatest), (.int .i64 a0.Leap), (.int .i64 a0.Number)] H rfl rfl rfl rfl ?_
 intro b1 w1 H hb1
 refine O.assign (v := (.bool false)) rfl rfl rfl ?_
 refine WL.nil ?_
 refine W.seq ?_
 refine W.region ?_
 refine O.fieldAddr fd28_4 rfl rfl rfl ?_
 refine O.load sc3 rfl rfl rfl (H.cell 0 rfl 4 _ rfl) ?_
 obtain ⟨t1, hy1, hm⟩ := bind_some hm
 refine O.call Try.call59 rfl rfl rfl (c_rate_within _ _ _ hy1) ?_
 rintro _ w2 hb2 rfl
 have H := H.ext hb2
 refine O.not rfl rfl rfl ?_
 refine O.assign (v := (.bool (!t1))) rfl rfl rfl ?_
 refine WL.nil ?_
 refine W.ret ?_
 have hq : (!t1) = r0 := Option.some.inj (show some (!t1) = some r0 from hm)
 subst hq
 exact ends1 Try.results78 rfl ⟨_, rfl, H.base, rfl⟩

theorem c_slices_IndexFunc_Trial {w0 : World} (va0 : Value) (a0 : (List GTrial)) (ha0 : SliceR w0 va0 a0) (va1 : Value) (a1 : GTrial → Option (Bool)) (ha1 : ∀ (w : World), Below w0.heap.size w0 w → ∀ (x0 : GTrial) (y0 : Bool), a1 x0 = some y0 → CallsV Try.prog va1 #[(.agg (Flat.cells x0).toArray)] w (Ret w fun _ v => v = (.bool y0))) {r0 : Int} (hm : slices_IndexFunc_Trial a0 a1 = some r0) :
  Calls Try.prog 96 #[va0, va1] w0 (Ret w0 fun _ v => v = (.int .i64 r0)) := by
 unfold slices_IndexFunc_Trial at hm
 refine calls_of_W Try.func96 rfl Try.ntmps96 (Nat.le_of_ble_eq_true rfl) ?_
 have H := Inv.start (w := w0)
 refine W.seq ?_
 refine W.region ?_
 refine O.assign (v := (.int .i64 0)) rfl rfl rfl ?_
 refine WL.nil ?_
 refine W.seq ?_
 refine W.seq ?_
 refine W.region ?_
 refine O.move (v := va0) rfl rfl rfl ?_
 refine O.lenS Try.underlying62 (H.arg ha0) rfl rfl rfl ?_
 refine O.move (v := (.int .i64 0)) rfl rfl rfl ?_
 refine WL.nil ?_
 obtain ⟨o1, hm1, hm⟩ := bind_some hm
 refine W.via (fun f w => o1 = .next () ∧ Inv w0 w []) ?_ ?_
 ·
  refine W.block ?_
  have hbdik1 := (H.arg ha0).len_le
  refine W.rangeN (i := 0) hm1 (fun rem ik1 s f w => () = s ∧ (ik1 : Int) + rem = max 0 ((a0.length : Nat) : Int) ∧ f 8 = .int .i64 (ik1 : Int) ∧ f 7 = (.int .i64 ((a0.length : Nat) : Int)) ∧ f 0 = va0 ∧ f 1 = va1 ∧ Inv w0 w []) ?_ ?_ ?_
  ·
   exact ⟨rfl, rangeN_start, rfl, rfl, rfl, rfl, H⟩
  ·
   rintro k ik1 _ st f w ⟨rfl, hdropk1, hf8, hf7, hf0, hf1, H⟩ hm2
   have hltk1 := rangeN_lt hdropk1
   obtain ⟨u1, rfl⟩ := up4 hf8 hf7 hf0 hf1
   have hinck1 := addI_lt hltk1 hbdik1
   refine W.seq ?_
   refine W.region ?_
   refine O.lss rfl rfl rfl rfl ?_
   refine WL.nil ?_
   refine W.seq ?_
   refine W.cond_true (congrArg Value.bool (decide_eq_true hltk1)) ?_
   refine W.skip ?_
   refine W.seq ?_
   refine W.block ?_
   refine W.seq ?_
   refine W.region ?_
   refine O.move (v := (.int .i64 (ik1 : Int))) rfl rfl rfl ?_
   refine O.assign (v := (.int .i64 (ik1 : Int))) rfl rfl rfl ?_
   refine WL.nil ?_
   refine W.seq ?_
   refine W.region ?_
   refine O.move (v := va1) rfl rfl rfl ?_
   refine O.move (v := va0) rfl rfl rfl ?_
   refine O.move (v := (.int .i64 (ik1 : Int))) rfl rfl rfl ?_
   obtain ⟨x1, hx1, hm2⟩ := bind_some hm2
   obtain ⟨p1, hp1, hrp1⟩ := fix_indexAddr Try.underlying62 sz28 ha0 hx1
   refine hrp1 rfl rfl rfl rfl ?_
   refine O.loadA [(.string x1.Name), (.int .i64 x1.Least), (.int .i64 x1.Greatest), (.int .i64 x1.Leap), (.int .i64 x1.Number)] ag28 rfl rfl rfl rfl ((hp1.mono H.base).flat) ?_
   obtain ⟨t1, hy1, hm2⟩ := bind_some hm2
   refine O.callV rfl rfl rfl rfl (ha1 _ H.base x1 _ hy1) ?_
   rintro _ w1 hb1 rfl
   have H := H.ext hb1
   refine WL.nil ?_
   rcases ite_some hm2 with ⟨hc1, hm2⟩ | ⟨hc1, hm2⟩
   ·
    refine W.cond_true (congrArg Value.bool hc1) ?_
    refine W.seq ?_
    refine W.region ?_
    refine O.move (v := (.int .i64 (ik1 : Int))) rfl rfl rfl ?_
    refine O.assign (v := (.int .i64 (ik1 : Int))) rfl rfl rfl ?_
    refine WL.nil ?_
    refine W.ret ?_
    obtain rfl := Option.some.inj hm2
    refine ⟨_, rfl, ?_⟩
    rintro rfl
    have hq : (ik1 : Int) = r0 := Option.some.inj (show some (ik1 : Int) = some r0 from hm)
    subst hq
    exact ends1 Try.results96 rfl ⟨_, rfl, H.base, rfl⟩
   ·
    refine W.cond_false (congrArg Value.bool hc1) ?_
    refine W.skip ?_
    refine W.region ?_
    refine O.add rfl rfl rfl rfl hinck1 ?_
    refine O.move (v := .int .i64 ((ik1 : Int) + 1)) rfl rfl rfl ?_
    refine WL.nil ?_
    obtain rfl := Option.some.inj hm2
    exact ⟨_, rfl, rfl, rangeN_next hdropk1, rfl, rfl, rfl, rfl, H⟩
  ·
   rintro ik1 _ f w ⟨rfl, hdropk1, hf8, hf7, hf0, hf1, H⟩ hfin
   have hltk1 := rangeN_end hdropk1
   obtain ⟨u2, rfl⟩ := up4 hf8 hf7 hf0 hf1
   refine W.seq ?_
   refine W.region ?_
   refine O.lss rfl rfl rfl rfl ?_
   refine WL.nil ?_
   refine W.seq ?_
   refine W.cond_false (congrArg Value.bool (decide_eq_false hltk1)) ?_
   refine W.exit ?_
   obtain rfl : Ctl.next () = o1 := hfin
   refine xT rfl ?_
   exact ⟨rfl, H⟩
 ·
  rintro f w ⟨rfl, H⟩
  refine W.seq ?_
  refine W.region ?_
  refine O.assign (v := (.int .i64 (-1))) rfl rfl rfl ?_
  refine WL.nil ?_
  refine W.ret ?_
  have hq : (-1) = r0 := Option.some.inj (show some (-1) = some r0 from hm)
  subst hq
  exact ends1 Try.results96 rfl ⟨_, rfl, H.base, rfl⟩

theorem c_slices_ContainsFunc_Trial {w0 : World} (va0 : Value) (a0 : (List GTrial)) (ha0 : SliceR w0 va0 a0) (va1 : Value) (a1 : GTrial → Option (Bool)) (ha1 : ∀ (w : World), Below w0.heap.size w0 w → ∀ (x0 : GTrial) (y0 : Bool), a1 x0 = some y0 → CallsV Try.prog va1 #[(.agg (Flat.cells x0).toArray)] w (Ret w fun _ v => v = (.bool y0))) {r0 : Bool} (hm : slices_ContainsFunc_Trial a0 a1 = some r0) :
  Calls Try.prog 79 #[va0, va1] w0 (Ret w0 fun _ v => v = (.bool r0)) := by
 unfold slices_ContainsFunc_Trial at hm
 refine calls_of_W Try.func79 rfl Try.ntmps79 (Nat.le_of_ble_eq_true rfl) ?_
 have H := Inv.start (w := w0)
 refine W.seq ?_
 refine W.region ?_
 refine O.assign (v := (.bool false)) rfl rfl rfl ?_
 refine WL.nil ?_
 refine W.seq ?_
 refine W.region ?_
 refine O.move (v := va0) rfl rfl rfl ?_
 refine O.move (v := va1) rfl rfl rfl ?_
 obtain ⟨t1, hy1, hm⟩ := bind_some hm
 refine O.call Try.call96 rfl rfl rfl (c_slices_IndexFunc_Trial _ _ (H.arg ha0) va1 a1 (fun w hw => ha1 w (H.base.trans (hw.mono H.base.size))) hy1) ?_
 rintro _ w1 hb1 rfl
 have H := H.ext hb1
 refine O.geq rfl rfl rfl rfl ?_
 refine O.assign (v := (.bool (decide (0 ≤ t1)))) rfl rfl rfl ?_
 refine WL.nil ?_
 refine W.ret ?_
 have hq : (decide (0 ≤ t1)) = r0 := Option.some.inj (show some (decide (0 ≤ t1)) = some r0 from hm)
 subst hq
 exact ends1 Try.results79 rfl ⟨_, rfl, H.base, rfl⟩

theorem c_cmp_isNaN_int {w0 : World} (a0 : Int) {r0 : Bool} (hm : cmp_isNaN_int a0 = some r0) :
  Calls Try.prog 100 #[(.int .i64 a0)] w0 (Ret w0 fun _ v => v = (.bool r0)) := by
 unfold cmp_isNaN_int at hm
 refine calls_of_W Try.func100 rfl Try.ntmps100 (Nat.le_of_ble_eq_true rfl) ?_
 have H := Inv.start (w := w0)
 refine W.seq ?_
 refine W.region ?_
 refine O.assign (v := (.bool false)) rfl rfl rfl ?_
 refine WL.nil ?_
 refine W.seq ?_
 refine W.region ?_
 refine O.move (v := (.int .i64 a0)) rfl rfl rfl ?_
 refine O.move (v := (.int .i64 a0)) rfl rfl rfl ?_
 refine O.neq rfl rfl rfl rfl ?_
 refine O.assign (v := (.bool (a0 != a0))) rfl rfl rfl ?_
 refine WL.nil ?_
 refine W.ret ?_
 have hq : (a0 != a0) = r0 := Option.some.inj (show some (a0 != a0) = some r0 from hm)
 subst hq
 exact ends1 Try.results100 rfl ⟨_, rfl, H.base, rfl⟩

set_option maxRecDepth 20000 in
theorem c_cmp_Compare_int {w0 : World} (a0 : Int) (a1 : Int) {r0 : Int} (hm : cmp_Compare_int a0 a1 = some r0) :
  Calls Try.prog 88 #[(.int .i64 a0), (.int .i64 a1)] w0 (Ret w0 fun _ v => v = (.int .i64 r0)) := by
 unfold cmp_Compare_int at hm
 refine calls_of_W Try.func88 rfl Try.ntmps88 (Nat.le_of_ble_eq_true rfl) ?_
 have H := Inv.start (w := w0)
 refine W.seq ?_
 refine W.region ?_
 refine O.assign (v := (.int .i64 0)) rfl rfl rfl ?_
 refine WL.nil ?_
 refine W.seq ?_
 refine W.region ?_
 refine O.move (v := (.int .i64 a0)) rfl rfl rfl ?_
 obtain ⟨t1, hy1, hm⟩ := bind_some hm
 refine O.call Try.call100 rfl rfl rfl (c_cmp_isNaN_int _ hy1) ?_
 rintro _ w1 hb1 rfl
 have H := H.ext hb1
 refine O.assign (v := (.bool t1)) rfl rfl rfl ?_
 refine WL.nil ?_
 refine W.seq ?_
 refine W.region ?_
 refine O.move (v := (.int .i64 a1)) rfl rfl rfl ?_
 obtain ⟨t2, hy2, hm⟩ := bind_some hm
 refine O.call Try.call100 rfl rfl rfl (c_cmp_isNaN_int _ hy2) ?_
 rintro _ w2 hb2 rfl
 have H := H.ext hb2
 refine O.assign (v := (.bool t2)) rfl rfl rfl ?_
 refine WL.nil ?_
 refine W.seq ?_
 refine W.seq ?_
 refine W.region ?_
 refine O.move (v := (.bool t1)) rfl rfl rfl ?_
 refine WL.nil ?_
 rcases ite_some hm with ⟨hc1, hm⟩ | ⟨hc1, hm⟩
 ·
  refine W.cond_true (congrArg Value.bool hc1) ?_
  refine W.seq ?_
  refine W.seq ?_
  refine W.region ?_
  refine O.move (v := (.bool t2)) rfl rfl rfl ?_
  refine WL.nil ?_
  rcases ite_some hm with ⟨hc2, hm⟩ | ⟨hc2, hm⟩
  ·
   refine W.cond_true (congrArg Value.bool hc2) ?_
   refine W.seq ?_
   refine W.region ?_
   refine O.assign (v := (.int .i64 0)) rfl rfl rfl ?_
   refine WL.nil ?_
   refine W.ret ?_
   have hq : 0 = r0 := Option.some.inj (show some 0 = some r0 from hm)
   subst hq
   exact ends1 Try.results88 rfl ⟨_, rfl, H.base, rfl⟩
  ·
   refine W.cond_false (congrArg Value.bool hc2) ?_
   refine W.skip ?_
   refine W.seq ?_
   refine W.region ?_
   refine O.assign (v := (.int .i64 (-1))) rfl rfl rfl ?_
   refine WL.nil ?_
   refine W.ret ?_
   have hq : (-1) = r0 := Option.some.inj (show some (-1) = some r0 from hm)
   subst hq
   exact ends1 Try.results88 rfl ⟨_, rfl, H.base, rfl⟩
 ·
  refine W.cond_false (congrArg Value.bool hc1) ?_
  refine W.skip ?_
  refine W.seq ?_
  refine W.seq ?_
  refine W.region ?_
  refine O.move (v := (.bool t2)) rfl rfl rfl ?_
  refine WL.nil ?_
  rcases ite_some hm with ⟨hc3, hm⟩ | ⟨hc3, hm⟩
  ·
   refine W.cond_true (congrArg Value.bool hc3) ?_
   refine W.seq ?_
   refine W.region ?_
   refine O.assign (v := (.int .i64 1)) rfl rfl rfl ?_
   refine WL.nil ?_
   refine W.ret ?_
   have hq : 1 = r0 := Option.some.inj (show some 1 = some r0 from hm)
   subst hq
   exact ends1 Try.results88 rfl ⟨_, rfl, H.base, rfl⟩
  ·
   refine W.cond_false (congrArg Value.bool hc3) ?_
   refine W.skip ?_
   refine W.seq ?_
   refine W.seq ?_
   refine W.region ?_
   refine O.move (v := (.int .i64 a0)) rfl rfl rfl ?_
   refine O.move (v := (.int .i64 a1)) rfl rfl rfl ?_
   refine O.lss rfl rfl rfl rfl ?_
   refine WL.nil ?_
   rcases ite_some hm with ⟨hc4, hm⟩ | ⟨hc4, hm⟩
   ·
    refine W.cond_true (congrArg Value.bool hc4) ?_
    refine W.seq ?_
    refine W.region ?_
    refine O.assign (v := (.int .i64 (-1))) rfl rfl rfl ?_
    refine WL.nil ?_
    refine W.ret ?_
    have hq : (-1) = r0 := Option.some.inj (show some (-1) = some r0 from hm)
    subst hq
    exact ends1 Try.results88 rfl ⟨_, rfl, H.base, rfl⟩
   ·
    refine W.cond_false (congrArg Value.bool hc4) ?_
    refine W.skip ?_
    refine W.seq ?_
    refine W.seq ?_
    refine W.region ?_
    refine O.move (v := (.int .i64 a0)) rfl rfl rfl ?_
    refine O.move (v := (.int .i64 a1)) rfl rfl rfl ?_
    refine O.gtr rfl rfl rfl rfl ?_
    refine WL.nil ?_
    rcases ite_some hm with ⟨hc5, hm⟩ | ⟨hc5, hm⟩
    ·
     refine W.cond_true (congrArg Value.bool hc5) ?_
     refine W.seq ?_
     refine W.region ?_
     refine O.assign (v := (.int .i64 1)) rfl rfl rfl ?_
     refine WL.nil ?_
     refine W.ret ?_
     have hq : 1 = r0 := Option.some.inj (show some 1 = some r0 from hm)
     subst hq
     exact ends1 Try.results88 rfl ⟨_, rfl, H.base, rfl⟩
    ·
     refine W.cond_false (congrArg Value.bool hc5) ?_
     refine W.skip ?_
     refine W.seq ?_
     refine W.region ?_
     refine O.assign (v := (.int .i64 0)) rfl rfl rfl ?_
     refine WL.nil ?_
     refine W.ret ?_
     have hq : 0 = r0 := Option.some.inj (show some 0 = some r0 from hm)
     subst hq
     exact ends1 Try.results88 rfl ⟨_, rfl, H.base, rfl⟩

set_option maxRecDepth 20000 in
theorem c_slices_Compare_int {w0 : World} (va0 : Value) (a0 : (List Int)) (ha0 : SliceR w0 va0 a0) (va1 : Value) (a1 : (List Int)) (ha1 : SliceR w0 va1 a1) {r0 : Int} (hm : slices_Compare_int a0 a1 = some r0) :
  Calls Try.prog 97 #[va0, va1] w0 (Ret w0 fun _ v => v = (.int .i64 r0)) := by
 unfold slices_Compare_int at hm
 refine calls_of_W Try.func97 rfl Try.ntmps97 (Nat.le_of_ble_eq_true rfl) ?_
 have H := Inv.start (w := w0)
 refine W.seq ?_
 refine W.region ?_
 refine O.assign (v := (.int .i64 0)) rfl rfl rfl ?_
 refine WL.nil ?_
 refine W.seq ?_
 refine W.seq ?_
 refine W.region ?_
 refine O.move (v := va0) rfl rfl rfl ?_
 refine O.lenS Try.underlying22 (H.arg ha0) rfl rfl rfl ?_
 refine O.move (v := (.int .i64 0)) rfl rfl rfl ?_
 refine WL.nil ?_
 obtain ⟨o1, hm1, hm⟩ := bind_some hm
 refine W.via (fun f w => o1 = .next () ∧ f 0 = va0 ∧ f 1 = va1 ∧ Inv w0 w []) ?_ ?_
 ·
  refine W.block ?_
  have hbdik1 := (H.arg ha0).len_le
  refine W.rangeN (i := 0) hm1 (fun rem ik1 s f w => () = s ∧ (ik1 : Int) + rem = max 0 ((a0.length : Nat) : Int) ∧ f 11 = .int .i64 (ik1 : Int) ∧ f 10 = (.int .i64 ((a0.length : Nat) : Int)) ∧ f 0 = va0 ∧ f 1 = va1 ∧ f 9 = va0 ∧ Inv w0 w []) ?_ ?_ ?_
  ·
   exact ⟨rfl, rangeN_start, rfl, rfl, rfl, rfl, rfl, H⟩
  ·
   rintro k ik1 _ st f w ⟨rfl, hdropk1, hf11, hf10, hf0, hf1, hf9, H⟩ hm2
   have hltk1 := rangeN_lt hdropk1
   obtain ⟨u1, rfl⟩ := up5 hf11 hf10 hf0 hf1 hf9
   have hinck1 := addI_lt hltk1 hbdik1
   refine W.seq ?_
   refine W.region ?_
   refine O.lss rfl rfl rfl rfl ?_
   refine WL.nil ?_
   refine W.seq ?_
   refine W.cond_true (congrArg Value.bool (decide_eq_true hltk1)) ?_
   refine W.skip ?_
   refine W.seq ?_
   refine W.block ?_
   refine W.seq ?_
   refine W.region ?_
   refine O.move (v := (.int .i64 (ik1 : Int))) rfl rfl rfl ?_
   obtain ⟨x1, hx1, hm2⟩ := bind_some hm2
   obtain ⟨p1, hp1, hrp1⟩ := fix_indexAddr Try.underlying22 sz3 ha0 hx1
   refine hrp1 rfl rfl rfl rfl ?_
   refine O.load sc3 rfl rfl rfl ((hp1.mono H.base).flat 0 _ rfl) ?_
   refine O.assign (v := (.int .i64 (ik1 : Int))) rfl rfl rfl ?_
   refine O.assign (v := (.int .i64 x1)) rfl rfl rfl ?_
   refine WL.nil ?_
   refine W.seq ?_
   refine W.seq ?_
   refine W.region ?_
   refine O.move (v := (.int .i64 (ik1 : Int))) rfl rfl rfl ?_
   refine O.move (v := va1) rfl rfl rfl ?_
   refine O.lenS Try.underlying22 (H.arg ha1) rfl rfl rfl ?_
   refine O.geq rfl rfl rfl rfl ?_
   refine WL.nil ?_
   rcases ite_some hm2 with ⟨hc1, hm2⟩ | ⟨hc1, hm2⟩
   ·
    refine W.cond_true (congrArg Value.bool hc1) ?_
    refine W.seq ?_
    refine W.region ?_
    refine O.assign (v := (.int .i64 1)) rfl rfl rfl ?_
    refine WL.nil ?_
    refine W.ret ?_
    obtain rfl := Option.some.inj hm2
    refine ⟨_, rfl, ?_⟩
    rintro rfl
    have hq : 1 = r0 := Option.some.inj (show some 1 = some r0 from hm)
    subst hq
    exact ends1 Try.results97 rfl ⟨_, rfl, H.base, rfl⟩
   ·
    refine W.cond_false (congrArg Value.bool hc1) ?_
    refine W.skip ?_
    refine W.seq ?_
    refine W.region ?_
    refine O.move (v := va1) rfl rfl rfl ?_
    refine O.move (v := (.int .i64 (ik1 : Int))) rfl rfl rfl ?_
    obtain ⟨x2, hx2, hm2⟩ := bind_some hm2
    obtain ⟨p2, hp2, hrp2⟩ := fix_indexAddr Try.underlying22 sz3 ha1 hx2
    refine hrp2 rfl rfl rfl rfl ?_
    refine O.load sc3 rfl rfl rfl ((hp2.mono H.base).flat 0 _ rfl) ?_
    refine O.assign (v := (.int .i64 x2)) rfl rfl rfl ?_
    refine WL.nil ?_
    refine W.seq ?_
    refine W.region ?_
    refine O.move (v := (.int .i64 x1)) rfl rfl rfl ?_
    refine O.move (v := (.int .i64 x2)) rfl rfl rfl ?_
    obtain ⟨t1, hy1, hm2⟩ := bind_some hm2
    refine O.call Try.call88 rfl rfl rfl (c_cmp_Compare_int _ _ hy1) ?_
    rintro _ w1 hb1 rfl
    have H := H.ext hb1
    refine O.assign (v := (.int .i64 t1)) rfl rfl rfl ?_
    refine WL.nil ?_
    refine W.seq ?_
    refine W.region ?_
    refine O.move (v := (.int .i64 t1)) rfl rfl rfl ?_
    refine O.neq rfl rfl rfl rfl ?_
    refine WL.nil ?_
    rcases ite_some hm2 with ⟨hc2, hm2⟩ | ⟨hc2, hm2⟩
    ·
     refine W.cond_true (congrArg Value.bool hc2) ?_
     refine W.seq ?_
     refine W.region ?_
     refine O.move (v := (.int .i64 t1)) rfl rfl rfl ?_
     refine O.assign (v := (.int .i64 t1)) rfl rfl rfl ?_
     refine WL.nil ?_
     refine W.ret ?_
     obtain rfl := Option.some.inj hm2
     refine ⟨_, rfl, ?_⟩
     rintro rfl
     have hq : t1 = r0 := Option.some.inj (show some t1 = some r0 from hm)
     subst hq
     exact ends1 Try.results97 rfl ⟨_, rfl, H.base, rfl⟩
    ·
     refine W.cond_false (congrArg Value.bool hc2) ?_
     refine W.skip ?_
     refine W.region ?_
     refine O.add rfl rfl rfl rfl hinck1 ?_
     refine O.move (v := .int .i64 ((ik1 : Int) + 1)) rfl rfl rfl ?_
     refine WL.nil ?_
     obtain rfl := Option.some.inj hm2
     exact ⟨_, rfl, rfl, rangeN_next hdropk1, rfl, rfl, rfl, rfl, rfl, H⟩
  ·
   rintro ik1 _ f w ⟨rfl, hdropk1, hf11, hf10, hf0, hf1, hf9, H⟩ hfin
   have hltk1 := rangeN_end hdropk1
   obtain ⟨u2, rfl⟩ := up5 hf11 hf10 hf0 hf1 hf9
   refine W.seq ?_
   refine W.region ?_
   refine O.lss rfl rfl rfl rfl ?_
   refine WL.nil ?_
   refine W.seq ?_
   refine W.cond_false (congrArg Value.bool (decide_eq_false hltk1)) ?_
   refine W.exit ?_
   obtain rfl : Ctl.next () = o1 := hfin
   refine xT rfl ?_
   exact ⟨rfl, rfl, rfl, H⟩
 ·
  rintro f w ⟨rfl, hf0, hf1, H⟩
  obtain ⟨u3, rfl⟩ := up2 hf0 hf1
  refine W.seq ?_
  refine W.seq ?_
  refine W.region ?_
  refine O.move (v := va0) rfl rfl rfl ?_
  refine O.lenS Try.underlying22 (H.arg ha0) rfl rfl rfl ?_
  refine O.move (v := va1) rfl rfl rfl ?_
  refine O.lenS Try.underlying22 (H.arg ha1) rfl rfl rfl ?_
  refine O.lss rfl rfl rfl rfl ?_
  refine WL.nil ?_
  rcases ite_some hm with ⟨hc3, hm⟩ | ⟨hc3, hm⟩
  ·
   refine W.cond_true (congrArg Value.bool hc3) ?_
   refine W.seq ?_
   refine W.region ?_
   refine O.assign (v := (.int .i64 (-1))) rfl rfl rfl ?_
   refine WL.nil ?_
   refine W.ret ?_
   have hq : (-1) = r0 := Option.some.inj (show some (-1) = some r0 from hm)
   subst hq
   exact ends1 Try.results97 rfl ⟨_, rfl, H.base, rfl⟩
  ·
   refine W.cond_false (congrArg Value.bool hc3) ?_
   refine W.skip ?_
   refine W.seq ?_
   refine W.region ?_
   refine O.assign (v := (.int .i64 0)) rfl rfl rfl ?_
   refine WL.nil ?_
   refine W.ret ?_
   have hq : 0 = r0 := Option.some.inj (show some 0 = some r0 from hm)
   subst hq
   exact ends1 Try.results97 rfl ⟨_, rfl, H.base, rfl⟩

theorem c_cmp_Or_int {w0 : World} (va0 : Value) (a0 : (List Int)) (ha0 : SliceR w0 va0 a0) {r0 : Int} (hm : cmp_Or_int a0 = some r0) :
  Calls Try.prog 87 #[va0] w0 (Ret w0 fun _ v => v = (.int .i64 r0)) := by
 unfold cmp_Or_int at hm
 refine calls_of_W Try.func87 rfl Try.ntmps87 (Nat.le_of_ble_eq_true rfl) ?_
 have H := Inv.start (w := w0)
 refine W.seq ?_
 refine W.region ?_
 refine O.assign (v := (.int .i64 0)) rfl rfl rfl ?_
 refine WL.nil ?_
 refine W.seq ?_
 refine W.region ?_
 refine O.assign (v := (.int .i64 0)) rfl rfl rfl ?_
 refine WL.nil ?_
 refine W.seq ?_
 refine W.seq ?_
 refine W.region ?_
 refine O.move (v := va0) rfl rfl rfl ?_
 refine O.lenS Try.underlying22 (H.arg ha0) rfl rfl rfl ?_
 refine O.move (v := (.int .i64 0)) rfl rfl rfl ?_
 refine WL.nil ?_
 obtain ⟨o1, hm1, hm⟩ := bind_some hm
 refine W.via (fun f w => o1 = .next () ∧ f 3 = (.int .i64 0) ∧ Inv w0 w []) ?_ ?_
 ·
  refine W.block ?_
  refine W.rangeL (i := 0) hm1 (fun rem ik1 s f w => () = s ∧ a0.drop ik1 = rem ∧ f 8 = .int .i64 (ik1 : Int) ∧ f 7 = (.int .i64 ((a0.length : Nat) : Int)) ∧ f 3 = (.int .i64 0) ∧ f 6 = va0 ∧ Inv w0 w []) ?_ ?_ ?_
  ·
   exact ⟨rfl, List.drop_zero, rfl, rfl, rfl, rfl, H⟩
  ·
   rintro yk1 xs ik1 _ st f w ⟨rfl, hdropk1, hf8, hf7, hf3, hf6, H⟩ hm2
   have hltk1 := drop_lt hdropk1; have hixk1 := drop_idx hdropk1
   obtain ⟨u1, rfl⟩ := up4 hf8 hf7 hf3 hf6
   have hinck1 := addI_lt hltk1 (H.arg ha0).len_le
   refine W.seq ?_
   refine W.region ?_
   refine O.lss rfl rfl rfl rfl ?_
   refine WL.nil ?_
   refine W.seq ?_
   refine W.cond_true (congrArg Value.bool (decide_eq_true hltk1)) ?_
   refine W.skip ?_
   refine W.seq ?_
   refine W.block ?_
   refine W.seq ?_
   refine W.region ?_
   obtain ⟨p1, hp1, hrp1⟩ := fix_indexAddr Try.underlying22 sz3 ha0 hixk1
   refine hrp1 rfl rfl rfl rfl ?_
   refine O.load sc3 rfl rfl rfl ((hp1.mono H.base).flat 0 _ rfl) ?_
   refine O.assign (v := (.int .i64 yk1)) rfl rfl rfl ?_
   refine WL.nil ?_
   refine W.seq ?_
   refine W.region ?_
   refine O.move (v := (.int .i64 yk1)) rfl rfl rfl ?_
   refine O.move (v := (.int .i64 0)) rfl rfl rfl ?_
   refine O.neq rfl rfl rfl rfl ?_
   refine WL.nil ?_
   rcases ite_some hm2 with ⟨hc1, hm2⟩ | ⟨hc1, hm2⟩
   ·
    refine W.cond_true (congrArg Value.bool hc1) ?_
    refine W.seq ?_
    refine W.region ?_
    refine O.move (v := (.int .i64 yk1)) rfl rfl rfl ?_
    refine O.assign (v := (.int .i64 yk1)) rfl rfl rfl ?_
    refine WL.nil ?_
    refine W.ret ?_
    obtain rfl := Option.some.inj hm2
    refine ⟨_, rfl, ?_⟩
    rintro rfl
    have hq : yk1 = r0 := Option.some.inj (show some yk1 = some r0 from hm)
    subst hq
    exact ends1 Try.results87 rfl ⟨_, rfl, H.base, rfl⟩
   ·
    refine W.cond_false (congrArg Value.bool hc1) ?_
    refine W.skip ?_
    refine W.region ?_
    refine O.add rfl rfl rfl rfl hinck1 ?_
    refine O.move (v := .int .i64 ((ik1 : Int) + 1)) rfl rfl rfl ?_
    refine WL.nil ?_
    obtain rfl := Option.some.inj hm2
    exact ⟨_, rfl, rfl, drop_next hdropk1, rfl, rfl, rfl, rfl, H⟩
  ·
   rintro ik1 _ f w ⟨rfl, hdropk1, hf8, hf7, hf3, hf6, H⟩ hfin
   have hltk1 := drop_end hdropk1
   obtain ⟨u2, rfl⟩ := up4 hf8 hf7 hf3 hf6
   refine W.seq ?_
   refine W.region ?_
   refine O.lss rfl rfl rfl rfl ?_
   refine WL.nil ?_
   refine W.seq ?_
   refine W.cond_false (congrArg Value.bool (decide_eq_false hltk1)) ?_
   refine W.exit ?_
   obtain rfl : Ctl.next () = o1 := hfin
   refine xT rfl ?_
   exact ⟨rfl, rfl, H⟩
 ·
  rintro f w ⟨rfl, hf3, H⟩
  obtain ⟨u3, rfl⟩ := up1 hf3
  refine W.seq ?_
  refine W.region ?_
  refine O.move (v := (.int .i64 0)) rfl rfl rfl ?_
  refine O.assign (v := (.int .i64 0)) rfl rfl rfl ?_
  refine WL.nil ?_
  refine W.ret ?_
  have hq : 0 = r0 := Option.some.inj (show some 0 = some r0 from hm)
  subst hq
  exact ends1 Try.results87 rfl ⟨_, rfl, H.base, rfl⟩

theorem c_rate_purchase_better {w0 : World} (va0_0 : Value) (a0 : GPurchase) (ha0_0 : SliceR w0 va0_0 a0.list) (va1_0 : Value) (a1 : GPurchase) (ha1_0 : SliceR w0 va1_0 a1.list) {r0 : Bool} (hm : rate_purchase_better a0 a1 = some r0) :
  Calls Try.prog 81 #[(.agg #[va0_0, (.int .i64 a0.sum)]), (.agg #[va1_0, (.int .i64 a1.sum)])] w0 (Ret w0 fun _ v => v = (.bool r0)) := by
 unfold rate_purchase_better at hm
 refine calls_of_W Try.func81 rfl Try.ntmps81 (Nat.le_of_ble_eq_true rfl) ?_
 have H := Inv.start (w := w0)
 refine W.seq ?_
 refine W.region ?_
 refine O.box [va0_0, (.int .i64 a0.sum)] H rfl rfl rfl rfl ?_
 intro b1 w1 H hb1
 refine O.box [va1_0, (.int .i64 a1.sum)] H rfl rfl rfl rfl ?_
 intro b2 w2 H hb2
 refine O.assign (v := (.bool false)) rfl rfl rfl ?_
 refine WL.nil ?_
 refine W.seq ?_
 obtain ⟨t1, hy1, hm⟩ := bind_some hm
 obtain ⟨t2, hy2, hm⟩ := bind_some hm
 refine W.drawN 16 (fun f => f 11 = (.int .i64 t1) ∧ f 16 = (.int .i64 t2) ∧ f 18 = va0_0 ∧ f 20 = va1_0) fol (by kernel_rfl) ?_ ?_
 ·
  refine PL.of (fun _ w8 _ hx => O.fieldAddr fd99_0 rfl rfl rfl (WL.nil ⟨rfl, hx⟩)) ?_
  refine PL.of (fun _ w8 _ hx => by have H := H.ext hx; exact O.load sc22 rfl rfl rfl (H.cell 1 rfl 0 _ rfl) (WL.nil ⟨rfl, hx⟩)) ?_
  refine PL.of (fun _ w8 _ hx => by have H := H.ext hx; exact O.lenS Try.underlying22 (H.arg ha1_0) rfl rfl rfl (WL.nil ⟨rfl, hx⟩)) ?_
  refine PL.of (fun _ w8 _ hx => O.fieldAddr fd99_0 rfl rfl rfl (WL.nil ⟨rfl, hx⟩)) ?_
  refine PL.of (fun _ w8 _ hx => by have H := H.ext hx; exact O.load sc22 rfl rfl rfl (H.cell 0 rfl 0 _ rfl) (WL.nil ⟨rfl, hx⟩)) ?_
  refine PL.of (fun _ w8 _ hx => by have H := H.ext hx; exact O.lenS Try.underlying22 (H.arg ha0_0) rfl rfl rfl (WL.nil ⟨rfl, hx⟩)) ?_
  refine PL.of (fun _ w8 _ hx => O.call Try.call88 rfl rfl rfl (c_cmp_Compare_int _ _ hy1) (by rintro _ _ hb rfl; exact WL.nil ⟨rfl, hx.trans (hb.mono hx.size)⟩)) ?_
  refine PL.of (fun _ w8 _ hx => O.fieldAddr fd99_1 rfl rfl rfl (WL.nil ⟨rfl, hx⟩)) ?_
  refine PL.of (fun _ w8 _ hx => by have H := H.ext hx; exact O.load sc3 rfl rfl rfl (H.cell 0 rfl 1 _ rfl) (WL.nil ⟨rfl, hx⟩)) ?_
  refine PL.of (fun _ w8 _ hx => O.fieldAddr fd99_1 rfl rfl rfl (WL.nil ⟨rfl, hx⟩)) ?_
  refine PL.of (fun _ w8 _ hx => by have H := H.ext hx; exact O.load sc3 rfl rfl rfl (H.cell 1 rfl 1 _ rfl) (WL.nil ⟨rfl, hx⟩)) ?_
  refine PL.of (fun _ w8 _ hx => O.call Try.call88 rfl rfl rfl (c_cmp_Compare_int _ _ hy2) (by rintro _ _ hb rfl; exact WL.nil ⟨rfl, hx.trans (hb.mono hx.size)⟩)) ?_
  refine PL.of (fun _ w8 _ hx => O.fieldAddr fd99_0 rfl rfl rfl (WL.nil ⟨rfl, hx⟩)) ?_
  refine PL.of (fun _ w8 _ hx => by have H := H.ext hx; exact O.load sc22 rfl rfl rfl (H.cell 0 rfl 0 _ rfl) (WL.nil ⟨rfl, hx⟩)) ?_
  refine PL.of (fun _ w8 _ hx => O.fieldAddr fd99_0 rfl rfl rfl (WL.nil ⟨rfl, hx⟩)) ?_
  refine PL.of (fun _ w8 _ hx => by have H := H.ext hx; exact O.load sc22 rfl rfl rfl (H.cell 1 rfl 0 _ rfl) (WL.nil ⟨rfl, hx⟩)) ?_
  refine PL.nil ?_
  exact ⟨rfl, rfl, rfl, rfl⟩
 ·
  rintro f w ⟨hf11, hf16, hf18, hf20⟩ hmd hx
  have H := H.ext hx
  obtain ⟨u1, rfl⟩ := up4 hf11 hf16 hf18 hf20
  obtain ⟨t3, hy3, hm⟩ := bind_some hm
  refine O.call Try.call97 rfl rfl rfl (c_slices_Compare_int _ _ (H.arg ha0_0) _ _ (H.arg ha1_0) hy3) ?_
  rintro _ w3 hb3 rfl
  have H := H.ext hb3
  refine O.buildSlice (α := Int) [(.int .i64 t1), (.int .i64 t2), (.int .i64 t3)] [t1, t2, t3] Try.underlying22 el3 H rfl rfl rfl rfl rfl rfl rfl ?_
  intro v1 w4 H hb4
  obtain ⟨t4, hy4, hm⟩ := bind_some hm
  refine O.call Try.call87 rfl rfl rfl (c_cmp_Or_int _ _ (H.own 2 rfl) hy4) ?_
  rintro _ w5 hb5 rfl
  have H := H.ext hb5
  refine O.lss rfl rfl rfl rfl ?_
  refine O.assign (v := (.bool (decide (t4 < 0)))) rfl rfl rfl ?_
  refine WL.nil ?_
  refine W.ret ?_
  have hq : (decide (t4 < 0)) = r0 := Option.some.inj (show some (decide (t4 < 0)) = some r0 from hm)
  subst hq
  exact ends1 Try.results81 rfl ⟨_, rfl, H.base, rfl⟩

theorem bdP_ : ∀ (w : World), (Instr.build 99 #[]).run Try.prog w = .ok (.agg #[.slice none 0 0, .int .i64 0]) w := by
  intro w
  kernel_rfl
theorem bdP_0_1 : ∀ (y1 : Option Addr) (n1 m1 : Nat) (v0 : Int) (w : World), (Instr.build 99 #[(0, .slice y1 n1 m1), (1, .int .i64 v0)]).run Try.prog w = .ok (.agg #[.slice y1 n1 m1, .int .i64 v0]) w := by
  intro y1 n1 m1 v0 w
  kernel_rfl
theorem run_callV {P : Program} {ρ : Operand → Value} {d : Option Nat} {x : Operand} {args : List Operand} {at_ : Array TypeId} {T : TypeId} {pos : String} {aft : Array Edge} {g : Option (Nat × Bool)} {w : World} {k : FuncId} {first cap : Array Value} {vs : List Value}
    (hx : ρ x = .func (.func k) first cap) (ha : args.map ρ = vs) (hcb : Callable P k) :
    (execOp ρ ⟨d, .call ⟨.value x, args.toArray, at_⟩, T, pos, aft, g⟩).run P w = .ok (.enter k (first ++ vs.toArray ++ cap)) w := by
  simp only [execOp, resolve, hx, List.map_toArray, ha, Deferred.ofValue, Sem.run_bind, Sem.run_pure, Result.andThen_ok, invoke]
  simpa using hcb _ _
theorem c_slices_Clip_int {w0 : World} (va0 : Value) (a0 : List Int) (ha0 : SliceR w0 va0 a0) :
  Calls Try.prog 82 #[va0] w0 (Ret w0 fun _ v => v = clipV va0) := by
 refine calls_of_W Try.func82 rfl Try.ntmps82 (Nat.le_of_ble_eq_true rfl) ?_
 have H := Inv.start (w := w0)
 refine W.seq ?_
 refine W.region ?_
 refine O.assign (v := (.slice none 0 0)) rfl rfl rfl ?_
 refine WL.nil ?_
 refine W.seq ?_
 refine W.region ?_
 refine O.move (v := va0) rfl rfl rfl ?_
 refine O.move (v := va0) rfl rfl rfl ?_
 refine O.lenS Try.underlying22 (H.arg ha0) rfl rfl rfl ?_
 refine O.move (v := va0) rfl rfl rfl ?_
 refine O.lenS Try.underlying22 (H.arg ha0) rfl rfl rfl ?_
 refine O.clip Try.underlying22 sz3 (H.arg ha0) rfl rfl rfl rfl rfl ?_
 refine O.assign (v := clipV va0) rfl rfl rfl ?_
 refine WL.nil ?_
 refine W.ret ?_
 exact ends1 Try.results82 rfl ⟨_, rfl, H.base, rfl⟩
theorem items_len' {a0 : List GTrial} {a1 : List Int} (hl : a1.length = a0.length) : (itemsF a0 a1).length = a0.length := by
  unfold itemsF
  rw [List.length_map, List.length_zipIdx, List.length_zip]
  omega
theorem items_get' {a0 : List GTrial} {a1 : List Int} (hl : a1.length = a0.length) {j : Nat} (hj : j < a0.length) : (itemsF a0 a1)[j]? = some (j, a1[j]'(by omega), a0[j].Number) := by
  unfold itemsF
  rw [List.getElem?_map, List.getElem?_zipIdx, List.getElem?_eq_getElem (by rw [List.length_zip]; omega), List.getElem_zip]
  simp
/-- What stands while the search runs: the rows, the best purchase, the boxes of trials, prices and the function itself. -/
  abbrev envB (va0 va1 : Value) (bb bL bP bT : Nat) (C : Nat → Prop) (R : List (Value × List Int)) (vb : Value) (bs : Int) : List Fw.Item :=
  [rowsI 3 C R, boxI bb 99 [vb, .int .i64 bs], boxI bL 62 [va0], boxI bP 22 [va1], boxI bT 100 [.func (.func 80) #[] #[.pointer (some ⟨bb, 0, none⟩), .pointer (some ⟨bL, 0, none⟩), .pointer (some ⟨bP, 0, none⟩), .pointer (some ⟨bT, 0, none⟩)]]]
theorem c_rate_Bought_c3 {w0 : World} {va0 va1 : Value} {a0 : List GTrial} {a1 : List Int} (ha0 : SliceR w0 va0 a0) (ha1 : SliceR w0 va1 a1) (hl : a1.length = a0.length) (hn : a0.length ≤ 16) (hpr : ∀ p ∈ a1, 0 ≤ p ∧ p ≤ 1000000) (hnu : ∀ t ∈ a0, 0 ≤ t.Number ∧ t.Number ≤ 1000000000000) {bb bL bP bT : Nat} :
  ∀ (k from_ : Nat) (money : Int) (vl : Value) (pl : List Int) (ps : Int) (C : Nat → Prop) (R : List (Value × List Int)) (vb : Value) (bl : List Int) (bs : Int) (J : Fw.Item) (w : World), from_ + k = a0.length → (vl, pl) ∈ R → (vb, bl) ∈ R → Inv w0 w (envB va0 va1 bb bL bP bT C R vb bs ++ [J]) →
   (0 ≤ money ∧ money ≤ 1000000000) → (0 ≤ ps ∧ ps ≤ 1000000000000 * from_) → pl.length ≤ from_ →
   Calls Try.prog 80 #[.int .i64 (from_ : Int), .int .i64 money, .agg #[vl, .int .i64 ps], .pointer (some ⟨bb, 0, none⟩), .pointer (some ⟨bL, 0, none⟩), .pointer (some ⟨bP, 0, none⟩), .pointer (some ⟨bT, 0, none⟩)] w fun e w' => e = .returned (.tuple #[]) ∧
    ∃ C' R' vb' bl' bs', (∀ r ∈ R, r ∈ R') ∧ (vb', bl') ∈ R' ∧ Inv w0 w' (envB va0 va1 bb bL bP bT C' R' vb' bs' ++ [J]) ∧ (⟨bl', bs'⟩ : Pu) = ((⟨pl, ps⟩ : Pu) :: buyE ((itemsF a0 a1).drop from_) money ⟨pl, ps⟩).foldl updF ⟨bl, bs⟩ := by
 intro k
 induction k using Nat.strongRecOn with
 | _ k ih =>
 intro from_ money vl pl ps C R vb bl bs J w hk hpl hbl H hmo hps hpn
 refine calls_of_W Try.func80 rfl Try.ntmps80 (Nat.le_of_ble_eq_true rfl) ?_
 refine W.seq ?_
 refine W.region ?_
 refine O.box [vl, .int .i64 ps] H rfl rfl rfl rfl ?_
 intro b9 w1 H hb9
 have H : Inv w0 w1 (envB va0 va1 bb bL bP bT C R vb bs ++ [J, boxI b9 99 [vl, .int .i64 ps]]) := H
 refine WL.nil ?_
 have hvl := H.row (v := vl) (xs := pl) hpl
 have hvb := H.row (v := vb) (xs := bl) hbl
 have hvl1 : vl.oneCell' = true := by obtain ⟨_, _, e, _⟩ := hvl.shape; rw [e]; rfl
 refine W.seq ?_
 refine W.via (fun f w => f 0 = .int .i64 (from_ : Int) ∧ f 1 = .int .i64 money ∧ f 3 = .pointer (some ⟨bb, 0, none⟩) ∧ f 4 = .pointer (some ⟨bL, 0, none⟩) ∧ f 5 = .pointer (some ⟨bP, 0, none⟩) ∧ f 6 = .pointer (some ⟨bT, 0, none⟩) ∧ f 9 = .pointer (some ⟨b9, 0, none⟩) ∧
  ∃ vb' bl' bs', (vb', bl') ∈ R ∧ Inv w0 w (envB va0 va1 bb bL bP bT C R vb' bs' ++ [J, boxI b9 99 [vl, .int .i64 ps]]) ∧ (⟨bl', bs'⟩ : Pu) = updF ⟨bl, bs⟩ ⟨pl, ps⟩) ?_ ?_
 ·
  refine W.seq ?_
  refine W.region ?_
  refine O.loadA [vl, .int .i64 ps] ag99 rfl rfl rfl rfl (H.cell 6 rfl) ?_
  refine O.loadA [vb, .int .i64 bs] ag99 rfl rfl rfl rfl (H.cell 1 rfl) ?_
  refine O.call Try.call81 rfl rfl rfl (c_rate_purchase_better vl ⟨pl, ps⟩ hvl vb ⟨bl, bs⟩ hvb (better_eq _ _)) ?_
  rintro _ w2 hb2 rfl
  have H := H.ext hb2
  refine WL.nil ?_
  cases hbt : betF ⟨pl, ps⟩ ⟨bl, bs⟩ with
  | false =>
   refine W.cond_false rfl ?_
   refine W.skip ?_
   exact ⟨rfl, rfl, rfl, rfl, rfl, rfl, rfl, vb, bl, bs, hbl, H, by unfold updF; rw [hbt]; rfl⟩
  | true =>
   refine W.cond_true rfl ?_
   refine W.region ?_
   refine O.loadA [vl, .int .i64 ps] ag99 rfl rfl rfl rfl (H.cell 6 rfl) ?_
   refine O.store 1 0 [vl, .int .i64 ps] [vl, .int .i64 ps] sz99 H rfl rfl rfl rfl rfl rfl ⟨⟨rfl, rfl⟩, rfl⟩ (one_cons hvl1 (one_cons rfl one_nil)) ?_
   intro w3 H
   exact WL.nil ⟨rfl, rfl, rfl, rfl, rfl, rfl, rfl, vl, pl, ps, hpl, H, by unfold updF; rw [hbt]; rfl⟩
 rintro f w ⟨hf0, hf1, hf3, hf4, hf5, hf6, hf9, vb', bl', bs', hbl', H, hup⟩
 obtain ⟨u1, rfl⟩ := up7 hf0 hf1 hf3 hf4 hf5 hf6 hf9
 refine W.seq ?_
 refine W.region ?_
 refine O.move (v := .int .i64 (from_ : Int)) rfl rfl rfl ?_
 refine O.assign (v := .int .i64 (from_ : Int)) rfl rfl rfl ?_
 refine WL.nil ?_
 refine W.block ?_
 refine W.loopL (l := (itemsF a0 a1).drop from_) (fun rem f w => ∃ j : Nat, rem = (itemsF a0 a1).drop j ∧ from_ ≤ j ∧ j ≤ a0.length ∧ f 10 = .int .i64 (j : Int) ∧ f 1 = .int .i64 money ∧ f 3 = .pointer (some ⟨bb, 0, none⟩) ∧ f 4 = .pointer (some ⟨bL, 0, none⟩) ∧ f 5 = .pointer (some ⟨bP, 0, none⟩) ∧ f 6 = .pointer (some ⟨bT, 0, none⟩) ∧ f 9 = .pointer (some ⟨b9, 0, none⟩) ∧
  ∃ C' R' vb'' bl'' bs'', (∀ r ∈ R, r ∈ R') ∧ (vb'', bl'') ∈ R' ∧ Inv w0 w (envB va0 va1 bb bL bP bT C' R' vb'' bs'' ++ [J, boxI b9 99 [vl, .int .i64 ps]]) ∧ (buyE rem money ⟨pl, ps⟩).foldl updF ⟨bl'', bs''⟩ = (buyE ((itemsF a0 a1).drop from_) money ⟨pl, ps⟩).foldl updF ⟨bl', bs'⟩) ?_ ?_ ?_
 · exact ⟨from_, rfl, Nat.le_refl _, by omega, rfl, rfl, rfl, rfl, rfl, rfl, rfl, C, R, vb', bl', bs', fun _ h => h, hbl', H, rfl⟩
 ·
  rintro x xs f w ⟨j, hrem, hj1, hj2, hf10, hf1, hf3, hf4, hf5, hf6, hf9, C', R', vb'', bl'', bs'', hR, hbl'', H, hfold⟩
  have hjn : j < a0.length := by
   rcases Nat.lt_or_ge j a0.length with h | h
   · exact h
   ·
    rw [List.drop_of_length_le (by rw [items_len' hl]; exact h)] at hrem
    cases hrem
  obtain ⟨u2, rfl⟩ := up7 hf10 hf1 hf3 hf4 hf5 hf6 hf9
  refine W.seq ?_
  refine W.seq ?_
  refine W.region ?_
  refine O.move (v := .int .i64 (j : Int)) rfl rfl rfl ?_
  refine O.load (q := ⟨bL, 0, none⟩) (v := va0) sc62 rfl rfl rfl (H.cell 2 rfl 0 _ rfl) ?_
  refine O.lenS Try.underlying62 (H.arg ha0) rfl rfl rfl ?_
  refine O.lss rfl rfl rfl rfl ?_
  refine WL.nil ?_
  refine W.cond_true (congrArg Value.bool (decide_eq_true (by omega))) ?_
  refine W.skip ?_
  have e0 : a0[j]? = some a0[j] := List.getElem?_eq_getElem hjn
  have e1 : a1[j]? = some (a1[j]'(by omega)) := List.getElem?_eq_getElem (by omega)
  have q1 := hpr _ (List.getElem_mem (show j < a1.length by omega))
  have q2 := hnu _ (List.getElem_mem hjn)
  have hx : x = (j, a1[j]'(by omega), a0[j].Number) ∧ xs = (itemsF a0 a1).drop (j + 1) := by
   have h1 : j < (itemsF a0 a1).length := by rw [items_len' hl]; exact hjn
   rw [List.drop_eq_getElem_cons h1] at hrem
   injection hrem with h2 h3
   refine ⟨?_, h3⟩
   have h4 := items_get' hl hjn
   rw [List.getElem?_eq_getElem h1] at h4
   rw [h2]
   exact Option.some.inj h4
  obtain ⟨rfl, rfl⟩ := hx
  generalize (a1[j]'(by omega)) = pr at e1 q1 hfold
  refine W.seq ?_
  refine W.via (fun f w => f 10 = .int .i64 (j : Int) ∧ f 1 = .int .i64 money ∧ f 3 = .pointer (some ⟨bb, 0, none⟩) ∧ f 4 = .pointer (some ⟨bL, 0, none⟩) ∧ f 5 = .pointer (some ⟨bP, 0, none⟩) ∧ f 6 = .pointer (some ⟨bT, 0, none⟩) ∧ f 9 = .pointer (some ⟨b9, 0, none⟩) ∧
   ∃ C' R' vb'' bl'' bs'', (∀ r ∈ R, r ∈ R') ∧ (vb'', bl'') ∈ R' ∧ Inv w0 w (envB va0 va1 bb bL bP bT C' R' vb'' bs'' ++ [J, boxI b9 99 [vl, .int .i64 ps]]) ∧ (buyE ((itemsF a0 a1).drop (j + 1)) money ⟨pl, ps⟩).foldl updF ⟨bl'', bs''⟩ = (buyE ((itemsF a0 a1).drop from_) money ⟨pl, ps⟩).foldl updF ⟨bl', bs'⟩) ?_ ?_
  ·
   refine W.block ?_
   refine W.seq ?_
   refine W.region ?_
   refine O.load (q := ⟨bP, 0, none⟩) (v := va1) sc22 rfl rfl rfl (H.cell 3 rfl 0 _ rfl) ?_
   refine O.move (v := .int .i64 (j : Int)) rfl rfl rfl ?_
   obtain ⟨p1, hp1, hrp1⟩ := fix_indexAddr Try.underlying22 sz3 ha1 (idx_at e1)
   refine hrp1 rfl rfl rfl rfl ?_
   refine O.load sc3 rfl rfl rfl ((hp1.mono H.base).flat 0 _ rfl) ?_
   refine O.move (v := .int .i64 money) rfl rfl rfl ?_
   refine O.leq rfl rfl rfl rfl ?_
   refine WL.nil ?_
   rw [buyE, List.foldl_append] at hfold
   by_cases hle : pr ≤ money
   ·
    refine W.cond_true (congrArg Value.bool (decide_eq_true hle)) ?_
    rw [if_pos hle] at hfold
    have H := (show Inv w0 _ (envB va0 va1 bb bL bP bT C' R' vb'' bs'' ++ [J, boxI b9 99 [vl, .int .i64 ps]] ++ []) from by rw [List.append_nil]; exact H)
    obtain ⟨p2, hp2, hrp2⟩ := fix_indexAddr Try.underlying62 sz28 ha0 (idx_at e0)
    refine W.drawD 24 [[], [], [1], [], [], [], [4, 5], [4, 5, 6], [3, 4, 5, 6, 7], [], [9], [9, 10], [], [12], [9, 10, 11, 12, 13], [], [15], [], [], [17, 18], [17, 18, 19], [17, 18, 19, 20], [15, 16, 17, 18, 19, 20, 21], [9, 10, 11, 12, 13, 14, 15, 16, 17, 18, 19, 20, 21, 22]] [[], [2], [], [8], [6, 7, 8], [6, 7, 8], [7, 8], [8], [], [10, 11, 14, 23], [11, 14, 23], [14, 23], [13, 14, 23], [14, 23], [23], [16, 22, 23], [22, 23], [19, 20, 21, 22, 23], [19, 20, 21, 22, 23], [20, 21, 22, 23], [21, 22, 23], [22, 23], [23], []] (fun S f w => ∃ v41 : Value, ∃ v42 : Value, f 10 = .int .i64 (j : Int) ∧ f 1 = .int .i64 money ∧ f 3 = .pointer (some ⟨bb, 0, none⟩) ∧ f 4 = .pointer (some ⟨bL, 0, none⟩) ∧ f 5 = .pointer (some ⟨bP, 0, none⟩) ∧ f 6 = .pointer (some ⟨bT, 0, none⟩) ∧ f 9 = .pointer (some ⟨b9, 0, none⟩) ∧ (S 0 = true → f 28 = .func (.func 80) #[] #[.pointer (some ⟨bb, 0, none⟩), .pointer (some ⟨bL, 0, none⟩), .pointer (some ⟨bP, 0, none⟩), .pointer (some ⟨bT, 0, none⟩)]) ∧ (S 1 = true → f 29 = .int .i64 (j : Int)) ∧ (S 2 = true → f 30 = .int .i64 ((j : Int) + 1)) ∧ (S 3 = true → f 31 = .int .i64 money) ∧ (S 4 = true → f 32 = va1) ∧ (S 5 = true → f 33 = .int .i64 (j : Int)) ∧ (S 6 = true → f 34 = .pointer (some p1)) ∧ (S 7 = true → f 35 = .int .i64 pr) ∧ (S 8 = true → f 36 = .int .i64 (money - pr)) ∧ (S 9 = true → f 37 = .pointer (some (Addr.add ⟨b9, 0, none⟩ 0))) ∧ (S 10 = true → f 38 = vl) ∧ (S 11 = true → f 39 = clipV vl) ∧ (S 12 = true → f 40 = .int .i64 (j : Int)) ∧ (S 13 = true → f 41 = v41) ∧ (S 14 = true → f 42 = v42) ∧ (S 15 = true → f 43 = .pointer (some (Addr.add ⟨b9, 0, none⟩ 1))) ∧ (S 16 = true → f 44 = .int .i64 ps) ∧ (S 17 = true → f 45 = va0) ∧ (S 18 = true → f 46 = .int .i64 (j : Int)) ∧ (S 19 = true → f 47 = .pointer (some p2)) ∧ (S 20 = true → f 48 = .pointer (some (p2.add 4))) ∧ (S 21 = true → f 49 = .int .i64 a0[j].Number) ∧ (S 22 = true → f 50 = .int .i64 (ps + a0[j].Number)) ∧ (S 23 = true → f 51 = .agg #[v42, .int .i64 (ps + a0[j].Number)]) ∧ (S 14 = true → S 13 = true) ∧ (S 13 = false → Inv w0 w ((envB va0 va1 bb bL bP bT C' R' vb'' bs'' ++ [J, boxI b9 99 [vl, .int .i64 ps]]) ++ [])) ∧ (S 13 = true → S 14 = false → Inv w0 w ((envB va0 va1 bb bL bP bT C' R' vb'' bs'' ++ [J, boxI b9 99 [vl, .int .i64 ps]]) ++ [ownI v41 3 [(j : Int)]])) ∧ (S 14 = true → Inv w0 w ((envB va0 va1 bb bL bP bT C' R' vb'' bs'' ++ [J, boxI b9 99 [vl, .int .i64 ps]]) ++ [ownI v42 3 (pl ++ [(j : Int)])]))) fol (by kernel_rfl) ?_ ?_ ?_
    · exact fun d _ => ⟨.nilFunc, .nilFunc, rfl, rfl, rfl, rfl, rfl, rfl, rfl, nF, nF, nF, nF, nF, nF, nF, nF, nF, nF, nF, nF, nF, nF, nF, nF, nF, nF, nF, nF, nF, nF, nF, nF, nF, (fun _ => H.ext (below_drawn d)), nF, nF⟩
    ·
     refine ⟨?_, ⟨?_, ⟨?_, ⟨?_, ⟨?_, ⟨?_, ⟨?_, ⟨?_, ⟨?_, ⟨?_, ⟨?_, ⟨?_, ⟨?_, ⟨?_, ⟨?_, ⟨?_, ⟨?_, ⟨?_, ⟨?_, ⟨?_, ⟨?_, ⟨?_, ⟨?_, ⟨?_, trivial⟩⟩⟩⟩⟩⟩⟩⟩⟩⟩⟩⟩⟩⟩⟩⟩⟩⟩⟩⟩⟩⟩⟩⟩
     ·
      rintro S f w hS - - ⟨v41, v42, hf10, hf1, hf3, hf4, hf5, hf6, hf9, hd0, hd1, hd2, hd3, hd4, hd5, hd6, hd7, hd8, hd9, hd10, hd11, hd12, hd13, hd14, hd15, hd16, hd17, hd18, hd19, hd20, hd21, hd22, hd23, C14, W0, W1, W2⟩
      obtain ⟨u, rfl⟩ : ∃ u, f = (upd u 6 (.pointer (some ⟨bT, 0, none⟩))) := ⟨f, by rw [upd_self hf6]⟩
      obtain ⟨Lx, H⟩ : ∃ Lx, Inv w0 w ((envB va0 va1 bb bL bP bT C' R' vb'' bs'' ++ [J, boxI b9 99 [vl, .int .i64 ps]]) ++ Lx) := by
       rcases bool_ft (S 13) with q | q
       · exact ⟨_, W0 q⟩
       ·
        rcases bool_ft (S 14) with q' | q'
        · exact ⟨_, W1 q q'⟩
        · exact ⟨_, W2 q'⟩
      refine O.load (q := ⟨bT, 0, none⟩) sc100 rfl rfl rfl (H.cell 4 rfl 0 _ rfl) ?_
      exact WL.nil ⟨v41, v42, hf10, hf1, hf3, hf4, hf5, hf6, hf9, (fun _ => rfl), hd1, hd2, hd3, hd4, hd5, hd6, hd7, hd8, hd9, hd10, hd11, hd12, hd13, hd14, hd15, hd16, hd17, hd18, hd19, hd20, hd21, hd22, hd23, C14, W0, W1, W2⟩
     ·
      rintro S f w hS - ⟨e2, -⟩ ⟨v41, v42, hf10, hf1, hf3, hf4, hf5, hf6, hf9, hd0, hd1, hd2, hd3, hd4, hd5, hd6, hd7, hd8, hd9, hd10, hd11, hd12, hd13, hd14, hd15, hd16, hd17, hd18, hd19, hd20, hd21, hd22, hd23, C14, W0, W1, W2⟩
      obtain ⟨u, rfl⟩ : ∃ u, f = (upd u 10 (.int .i64 (j : Int))) := ⟨f, by rw [upd_self hf10]⟩
      refine O.move (v := .int .i64 (j : Int)) rfl rfl rfl ?_
      exact WL.nil ⟨v41, v42, hf10, hf1, hf3, hf4, hf5, hf6, hf9, hd0, (fun _ => rfl), hd2, hd3, hd4, hd5, hd6, hd7, hd8, hd9, hd10, hd11, hd12, hd13, hd14, hd15, hd16, hd17, hd18, hd19, hd20, hd21, hd22, hd23, C14, W0, W1, W2⟩
     ·
      rintro S f w hS ⟨e1, -⟩ - ⟨v41, v42, hf10, hf1, hf3, hf4, hf5, hf6, hf9, hd0, hd1, hd2, hd3, hd4, hd5, hd6, hd7, hd8, hd9, hd10, hd11, hd12, hd13, hd14, hd15, hd16, hd17, hd18, hd19, hd20, hd21, hd22, hd23, C14, W0, W1, W2⟩
      have hx29 := hd1 e1
      obtain ⟨u, rfl⟩ : ∃ u, f = (upd u 29 (.int .i64 (j : Int))) := ⟨f, by rw [upd_self hx29]⟩
      refine O.add (c := (j : Int) + 1) rfl rfl rfl rfl (addI_ok (by omega)) ?_
      exact WL.nil ⟨v41, v42, hf10, hf1, hf3, hf4, hf5, hf6, hf9, hd0, hd1, (fun _ => rfl), hd3, hd4, hd5, hd6, hd7, hd8, hd9, hd10, hd11, hd12, hd13, hd14, hd15, hd16, hd17, hd18, hd19, hd20, hd21, hd22, hd23, C14, W0, W1, W2⟩
     ·
      rintro S f w hS - ⟨e8, -⟩ ⟨v41, v42, hf10, hf1, hf3, hf4, hf5, hf6, hf9, hd0, hd1, hd2, hd3, hd4, hd5, hd6, hd7, hd8, hd9, hd10, hd11, hd12, hd13, hd14, hd15, hd16, hd17, hd18, hd19, hd20, hd21, hd22, hd23, C14, W0, W1, W2⟩
      obtain ⟨u, rfl⟩ : ∃ u, f = (upd u 1 (.int .i64 money)) := ⟨f, by rw [upd_self hf1]⟩
      refine O.move (v := .int .i64 money) rfl rfl rfl ?_
      exact WL.nil ⟨v41, v42, hf10, hf1, hf3, hf4, hf5, hf6, hf9, hd0, hd1, hd2, (fun _ => rfl), hd4, hd5, hd6, hd7, hd8, hd9, hd10, hd11, hd12, hd13, hd14, hd15, hd16, hd17, hd18, hd19, hd20, hd21, hd22, hd23, C14, W0, W1, W2⟩
     ·
      rintro S f w hS - ⟨e6, e7, e8, -⟩ ⟨v41, v42, hf10, hf1, hf3, hf4, hf5, hf6, hf9, hd0, hd1, hd2, hd3, hd4, hd5, hd6, hd7, hd8, hd9, hd10, hd11, hd12, hd13, hd14, hd15, hd16, hd17, hd18, hd19, hd20, hd21, hd22, hd23, C14, W0, W1, W2⟩
      obtain ⟨u, rfl⟩ : ∃ u, f = (upd u 5 (.pointer (some ⟨bP, 0, none⟩))) := ⟨f, by rw [upd_self hf5]⟩
      obtain ⟨Lx, H⟩ : ∃ Lx, Inv w0 w ((envB va0 va1 bb bL bP bT C' R' vb'' bs'' ++ [J, boxI b9 99 [vl, .int .i64 ps]]) ++ Lx) := by
       rcases bool_ft (S 13) with q | q
       · exact ⟨_, W0 q⟩
       ·
        rcases bool_ft (S 14) with q' | q'
        · exact ⟨_, W1 q q'⟩
        · exact ⟨_, W2 q'⟩
      refine O.load (q := ⟨bP, 0, none⟩) (v := va1) sc22 rfl rfl rfl (H.cell 3 rfl 0 _ rfl) ?_
      exact WL.nil ⟨v41, v42, hf10, hf1, hf3, hf4, hf5, hf6, hf9, hd0, hd1, hd2, hd3, (fun _ => rfl), hd5, hd6, hd7, hd8, hd9, hd10, hd11, hd12, hd13, hd14, hd15, hd16, hd17, hd18, hd19, hd20, hd21, hd22, hd23, C14, W0, W1, W2⟩
     ·
      rintro S f w hS - ⟨e6, e7, e8, -⟩ ⟨v41, v42, hf10, hf1, hf3, hf4, hf5, hf6, hf9, hd0, hd1, hd2, hd3, hd4, hd5, hd6, hd7, hd8, hd9, hd10, hd11, hd12, hd13, hd14, hd15, hd16, hd17, hd18, hd19, hd20, hd21, hd22, hd23, C14, W0, W1, W2⟩
      obtain ⟨u, rfl⟩ : ∃ u, f = (upd u 10 (.int .i64 (j : Int))) := ⟨f, by rw [upd_self hf10]⟩
      refine O.move (v := .int .i64 (j : Int)) rfl rfl rfl ?_
      exact WL.nil ⟨v41, v42, hf10, hf1, hf3, hf4, hf5, hf6, hf9, hd0, hd1, hd2, hd3, hd4, (fun _ => rfl), hd6, hd7, hd8, hd9, hd10, hd11, hd12, hd13, hd14, hd15, hd16, hd17, hd18, hd19, hd20, hd21, hd22, hd23, C14, W0, W1, W2⟩
     ·
      rintro S f w hS ⟨e4, e5, -⟩ ⟨e7, e8, -⟩ ⟨v41, v42, hf10, hf1, hf3, hf4, hf5, hf6, hf9, hd0, hd1, hd2, hd3, hd4, hd5, hd6, hd7, hd8, hd9, hd10, hd11, hd12, hd13, hd14, hd15, hd16, hd17, hd18, hd19, hd20, hd21, hd22, hd23, C14, W0, W1, W2⟩
      have hx32 := hd4 e4
      have hx33 := hd5 e5
      obtain ⟨u, rfl⟩ : ∃ u, f = (upd (upd u 32 (va1)) 33 (.int .i64 (j : Int))) := ⟨f, by rw [upd_self hx32, upd_self hx33]⟩
      refine hrp1 rfl rfl rfl rfl ?_
      exact WL.nil ⟨v41, v42, hf10, hf1, hf3, hf4, hf5, hf6, hf9, hd0, hd1, hd2, hd3, hd4, hd5, (fun _ => rfl), hd7, hd8, hd9, hd10, hd11, hd12, hd13, hd14, hd15, hd16, hd17, hd18, hd19, hd20, hd21, hd22, hd23, C14, W0, W1, W2⟩
     ·
      rintro S f w hS ⟨e4, e5, e6, -⟩ ⟨e8, -⟩ ⟨v41, v42, hf10, hf1, hf3, hf4, hf5, hf6, hf9, hd0, hd1, hd2, hd3, hd4, hd5, hd6, hd7, hd8, hd9, hd10, hd11, hd12, hd13, hd14, hd15, hd16, hd17, hd18, hd19, hd20, hd21, hd22, hd23, C14, W0, W1, W2⟩
      have hx34 := hd6 e6
      obtain ⟨u, rfl⟩ : ∃ u, f = (upd u 34 (.pointer (some p1))) := ⟨f, by rw [upd_self hx34]⟩
      obtain ⟨Lx, H⟩ : ∃ Lx, Inv w0 w ((envB va0 va1 bb bL bP bT C' R' vb'' bs'' ++ [J, boxI b9 99 [vl, .int .i64 ps]]) ++ Lx) := by
       rcases bool_ft (S 13) with q | q
       · exact ⟨_, W0 q⟩
       ·
        rcases bool_ft (S 14) with q' | q'
        · exact ⟨_, W1 q q'⟩
        · exact ⟨_, W2 q'⟩
      refine O.load sc3 rfl rfl rfl ((hp1.mono H.base).flat 0 _ rfl) ?_
      exact WL.nil ⟨v41, v42, hf10, hf1, hf3, hf4, hf5, hf6, hf9, hd0, hd1, hd2, hd3, hd4, hd5, hd6, (fun _ => rfl), hd8, hd9, hd10, hd11, hd12, hd13, hd14, hd15, hd16, hd17, hd18, hd19, hd20, hd21, hd22, hd23, C14, W0, W1, W2⟩
     ·
      rintro S f w hS ⟨e3, e4, e5, e6, e7, -⟩ - ⟨v41, v42, hf10, hf1, hf3, hf4, hf5, hf6, hf9, hd0, hd1, hd2, hd3, hd4, hd5, hd6, hd7, hd8, hd9, hd10, hd11, hd12, hd13, hd14, hd15, hd16, hd17, hd18, hd19, hd20, hd21, hd22, hd23, C14, W0, W1, W2⟩
      have hx31 := hd3 e3
      have hx35 := hd7 e7
      obtain ⟨u, rfl⟩ : ∃ u, f = (upd (upd u 31 (.int .i64 money)) 35 (.int .i64 pr)) := ⟨f, by rw [upd_self hx31, upd_self hx35]⟩
      refine O.sub (c := money - pr) rfl rfl rfl rfl (subI_ok (by omega)) ?_
      exact WL.nil ⟨v41, v42, hf10, hf1, hf3, hf4, hf5, hf6, hf9, hd0, hd1, hd2, hd3, hd4, hd5, hd6, hd7, (fun _ => rfl), hd9, hd10, hd11, hd12, hd13, hd14, hd15, hd16, hd17, hd18, hd19, hd20, hd21, hd22, hd23, C14, W0, W1, W2⟩
     ·
      rintro S f w hS - ⟨e10, e11, e14, e23, -⟩ ⟨v41, v42, hf10, hf1, hf3, hf4, hf5, hf6, hf9, hd0, hd1, hd2, hd3, hd4, hd5, hd6, hd7, hd8, hd9, hd10, hd11, hd12, hd13, hd14, hd15, hd16, hd17, hd18, hd19, hd20, hd21, hd22, hd23, C14, W0, W1, W2⟩
      obtain ⟨u, rfl⟩ : ∃ u, f = (upd u 9 (.pointer (some ⟨b9, 0, none⟩))) := ⟨f, by rw [upd_self hf9]⟩
      refine O.fieldAddr fd99_0 rfl rfl rfl ?_
      exact WL.nil ⟨v41, v42, hf10, hf1, hf3, hf4, hf5, hf6, hf9, hd0, hd1, hd2, hd3, hd4, hd5, hd6, hd7, hd8, (fun _ => rfl), hd10, hd11, hd12, hd13, hd14, hd15, hd16, hd17, hd18, hd19, hd20, hd21, hd22, hd23, C14, W0, W1, W2⟩
     ·
      rintro S f w hS ⟨e9, -⟩ ⟨e11, e14, e23, -⟩ ⟨v41, v42, hf10, hf1, hf3, hf4, hf5, hf6, hf9, hd0, hd1, hd2, hd3, hd4, hd5, hd6, hd7, hd8, hd9, hd10, hd11, hd12, hd13, hd14, hd15, hd16, hd17, hd18, hd19, hd20, hd21, hd22, hd23, C14, W0, W1, W2⟩
      have hx37 := hd9 e9
      obtain ⟨u, rfl⟩ : ∃ u, f = (upd u 37 (.pointer (some (Addr.add ⟨b9, 0, none⟩ 0)))) := ⟨f, by rw [upd_self hx37]⟩
      obtain ⟨Lx, H⟩ : ∃ Lx, Inv w0 w ((envB va0 va1 bb bL bP bT C' R' vb'' bs'' ++ [J, boxI b9 99 [vl, .int .i64 ps]]) ++ Lx) := by
       rcases bool_ft (S 13) with q | q
       · exact ⟨_, W0 q⟩
       ·
        rcases bool_ft (S 14) with q' | q'
        · exact ⟨_, W1 q q'⟩
        · exact ⟨_, W2 q'⟩
      refine O.load (v := vl) sc22 rfl rfl rfl (H.cell 6 rfl 0 _ rfl) ?_
      exact WL.nil ⟨v41, v42, hf10, hf1, hf3, hf4, hf5, hf6, hf9, hd0, hd1, hd2, hd3, hd4, hd5, hd6, hd7, hd8, hd9, (fun _ => rfl), hd11, hd12, hd13, hd14, hd15, hd16, hd17, hd18, hd19, hd20, hd21, hd22, hd23, C14, W0, W1, W2⟩
     ·
      rintro S f w hS ⟨e9, e10, -⟩ ⟨e14, e23, -⟩ ⟨v41, v42, hf10, hf1, hf3, hf4, hf5, hf6, hf9, hd0, hd1, hd2, hd3, hd4, hd5, hd6, hd7, hd8, hd9, hd10, hd11, hd12, hd13, hd14, hd15, hd16, hd17, hd18, hd19, hd20, hd21, hd22, hd23, C14, W0, W1, W2⟩
      have hx38 := hd10 e10
      obtain ⟨u, rfl⟩ : ∃ u, f = (upd u 38 (vl)) := ⟨f, by rw [upd_self hx38]⟩
      obtain ⟨Lx, H⟩ : ∃ Lx, Inv w0 w ((envB va0 va1 bb bL bP bT C' R' vb'' bs'' ++ [J, boxI b9 99 [vl, .int .i64 ps]]) ++ Lx) := by
       rcases bool_ft (S 13) with q | q
       · exact ⟨_, W0 q⟩
       ·
        rcases bool_ft (S 14) with q' | q'
        · exact ⟨_, W1 q q'⟩
        · exact ⟨_, W2 q'⟩
      refine O.call Try.call82 rfl rfl rfl (c_slices_Clip_int vl pl (H.row (hR _ hpl))) ?_
      rintro _ w2 hb2 rfl
      exact WL.nil ⟨v41, v42, hf10, hf1, hf3, hf4, hf5, hf6, hf9, hd0, hd1, hd2, hd3, hd4, hd5, hd6, hd7, hd8, hd9, hd10, (fun _ => rfl), hd12, hd13, hd14, hd15, hd16, hd17, hd18, hd19, hd20, hd21, hd22, hd23, C14, (fun a => (W0 a).ext hb2), (fun a b => (W1 a b).ext hb2), (fun a => (W2 a).ext hb2)⟩
     ·
      rintro S f w hS - ⟨e13, e14, e23, -⟩ ⟨v41, v42, hf10, hf1, hf3, hf4, hf5, hf6, hf9, hd0, hd1, hd2, hd3, hd4, hd5, hd6, hd7, hd8, hd9, hd10, hd11, hd12, hd13, hd14, hd15, hd16, hd17, hd18, hd19, hd20, hd21, hd22, hd23, C14, W0, W1, W2⟩
      obtain ⟨u, rfl⟩ : ∃ u, f = (upd u 10 (.int .i64 (j : Int))) := ⟨f, by rw [upd_self hf10]⟩
      refine O.move (v := .int .i64 (j : Int)) rfl rfl rfl ?_
      exact WL.nil ⟨v41, v42, hf10, hf1, hf3, hf4, hf5, hf6, hf9, hd0, hd1, hd2, hd3, hd4, hd5, hd6, hd7, hd8, hd9, hd10, hd11, (fun _ => rfl), hd13, hd14, hd15, hd16, hd17, hd18, hd19, hd20, hd21, hd22, hd23, C14, W0, W1, W2⟩
     ·
      rintro S f w hS ⟨e12, -⟩ ⟨e14, e23, -⟩ ⟨v41, v42, hf10, hf1, hf3, hf4, hf5, hf6, hf9, hd0, hd1, hd2, hd3, hd4, hd5, hd6, hd7, hd8, hd9, hd10, hd11, hd12, hd13, hd14, hd15, hd16, hd17, hd18, hd19, hd20, hd21, hd22, hd23, C14, W0, W1, W2⟩
      have hx40 := hd12 e12
      obtain ⟨u, rfl⟩ : ∃ u, f = (upd u 40 (.int .i64 (j : Int))) := ⟨f, by rw [upd_self hx40]⟩
      have H := W0 hS
      refine O.buildSlice (α := Int) [(.int .i64 (j : Int))] [(j : Int)] Try.underlying22 el3 H rfl rfl rfl rfl rfl rfl rfl ?_
      intro v41 w2 H hb2
      exact WL.nil ⟨v41, v42, hf10, hf1, hf3, hf4, hf5, hf6, hf9, hd0, hd1, hd2, hd3, hd4, hd5, hd6, hd7, hd8, hd9, hd10, hd11, hd12, (fun _ => rfl), hd14, hd15, hd16, hd17, hd18, hd19, hd20, hd21, hd22, hd23, (fun _ => rfl), (fun a => nG a), (fun _ _ => H), (nX e14)⟩
     ·
      rintro S f w hS ⟨e9, e10, e11, e12, e13, -⟩ ⟨e23, -⟩ ⟨v41, v42, hf10, hf1, hf3, hf4, hf5, hf6, hf9, hd0, hd1, hd2, hd3, hd4, hd5, hd6, hd7, hd8, hd9, hd10, hd11, hd12, hd13, hd14, hd15, hd16, hd17, hd18, hd19, hd20, hd21, hd22, hd23, C14, W0, W1, W2⟩
      have hx39 := hd11 e11
      have hx41 := hd13 e13
      obtain ⟨u, rfl⟩ : ∃ u, f = (upd (upd u 39 (clipV vl)) 41 (v41)) := ⟨f, by rw [upd_self hx39, upd_self hx41]⟩
      have H := W1 e13 hS
      have hlit := H.own 7 rfl
      refine O.appendC (zs := pl ++ [(j : Int)]) Try.underlying22 el3 rfl H (H.row (hR _ hpl)).clip (clipV_clip _) hlit (by simp) (appI_ok (by simp; omega)) rfl rfl rfl rfl ?_
      intro v42 w2 H
      have H := H.pick [0, 1, 2, 3, 4, 5, 6, 8] ((envB va0 va1 bb bL bP bT C' R' vb'' bs'' ++ [J, boxI b9 99 [vl, .int .i64 ps]]) ++ [ownI v42 3 (pl ++ [(j : Int)])]) rfl (by decide)
      exact WL.nil ⟨v41, v42, hf10, hf1, hf3, hf4, hf5, hf6, hf9, hd0, hd1, hd2, hd3, hd4, hd5, hd6, hd7, hd8, hd9, hd10, hd11, hd12, hd13, (fun _ => rfl), hd15, hd16, hd17, hd18, hd19, hd20, hd21, hd22, (nX e23), (fun _ => e13), (nT e13), (fun _ a => nG a), (fun _ => H)⟩
     ·
      rintro S f w hS - ⟨e16, e22, e23, -⟩ ⟨v41, v42, hf10, hf1, hf3, hf4, hf5, hf6, hf9, hd0, hd1, hd2, hd3, hd4, hd5, hd6, hd7, hd8, hd9, hd10, hd11, hd12, hd13, hd14, hd15, hd16, hd17, hd18, hd19, hd20, hd21, hd22, hd23, C14, W0, W1, W2⟩
      obtain ⟨u, rfl⟩ : ∃ u, f = (upd u 9 (.pointer (some ⟨b9, 0, none⟩))) := ⟨f, by rw [upd_self hf9]⟩
      refine O.fieldAddr fd99_1 rfl rfl rfl ?_
      exact WL.nil ⟨v41, v42, hf10, hf1, hf3, hf4, hf5, hf6, hf9, hd0, hd1, hd2, hd3, hd4, hd5, hd6, hd7, hd8, hd9, hd10, hd11, hd12, hd13, hd14, (fun _ => rfl), hd16, hd17, hd18, hd19, hd20, hd21, hd22, hd23, C14, W0, W1, W2⟩
     ·
      rintro S f w hS ⟨e15, -⟩ ⟨e22, e23, -⟩ ⟨v41, v42, hf10, hf1, hf3, hf4, hf5, hf6, hf9, hd0, hd1, hd2, hd3, hd4, hd5, hd6, hd7, hd8, hd9, hd10, hd11, hd12, hd13, hd14, hd15, hd16, hd17, hd18, hd19, hd20, hd21, hd22, hd23, C14, W0, W1, W2⟩
      have hx43 := hd15 e15
      obtain ⟨u, rfl⟩ : ∃ u, f = (upd u 43 (.pointer (some (Addr.add ⟨b9, 0, none⟩ 1)))) := ⟨f, by rw [upd_self hx43]⟩
      obtain ⟨Lx, H⟩ : ∃ Lx, Inv w0 w ((envB va0 va1 bb bL bP bT C' R' vb'' bs'' ++ [J, boxI b9 99 [vl, .int .i64 ps]]) ++ Lx) := by
       rcases bool_ft (S 13) with q | q
       · exact ⟨_, W0 q⟩
       ·
        rcases bool_ft (S 14) with q' | q'
        · exact ⟨_, W1 q q'⟩
        · exact ⟨_, W2 q'⟩
      refine O.load (v := .int .i64 ps) sc3 rfl rfl rfl (H.cell 6 rfl 1 _ rfl) ?_
      exact WL.nil ⟨v41, v42, hf10, hf1, hf3, hf4, hf5, hf6, hf9, hd0, hd1, hd2, hd3, hd4, hd5, hd6, hd7, hd8, hd9, hd10, hd11, hd12, hd13, hd14, hd15, (fun _ => rfl), hd17, hd18, hd19, hd20, hd21, hd22, hd23, C14, W0, W1, W2⟩
     ·
      rintro S f w hS - ⟨e19, e20, e21, e22, e23, -⟩ ⟨v41, v42, hf10, hf1, hf3, hf4, hf5, hf6, hf9, hd0, hd1, hd2, hd3, hd4, hd5, hd6, hd7, hd8, hd9, hd10, hd11, hd12, hd13, hd14, hd15, hd16, hd17, hd18, hd19, hd20, hd21, hd22, hd23, C14, W0, W1, W2⟩
      obtain ⟨u, rfl⟩ : ∃ u, f = (upd u 4 (.pointer (some ⟨bL, 0, none⟩))) := ⟨f, by rw [upd_self hf4]⟩
      obtain ⟨Lx, H⟩ : ∃ Lx, Inv w0 w ((envB va0 va1 bb bL bP bT C' R' vb'' bs'' ++ [J, boxI b9 99 [vl, .int .i64 ps]]) ++ Lx) := by
       rcases bool_ft (S 13) with q | q
       · exact ⟨_, W0 q⟩
       ·
        rcases bool_ft (S 14) with q' | q'
        · exact ⟨_, W1 q q'⟩
        · exact ⟨_, W2 q'⟩
      refine O.load (q := ⟨bL, 0, none⟩) (v := va0) sc62 rfl rfl rfl (H.cell 2 rfl 0 _ rfl) ?_
      exact WL.nil ⟨v41, v42, hf10, hf1, hf3, hf4, hf5, hf6, hf9, hd0, hd1, hd2, hd3, hd4, hd5, hd6, hd7, hd8, hd9, hd10, hd11, hd12, hd13, hd14, hd15, hd16, (fun _ => rfl), hd18, hd19, hd20, hd21, hd22, hd23, C14, W0, W1, W2⟩
     ·
      rintro S f w hS - ⟨e19, e20, e21, e22, e23, -⟩ ⟨v41, v42, hf10, hf1, hf3, hf4, hf5, hf6, hf9, hd0, hd1, hd2, hd3, hd4, hd5, hd6, hd7, hd8, hd9, hd10, hd11, hd12, hd13, hd14, hd15, hd16, hd17, hd18, hd19, hd20, hd21, hd22, hd23, C14, W0, W1, W2⟩
      obtain ⟨u, rfl⟩ : ∃ u, f = (upd u 10 (.int .i64 (j : Int))) := ⟨f, by rw [upd_self hf10]⟩
      refine O.move (v := .int .i64 (j : Int)) rfl rfl rfl ?_
      exact WL.nil ⟨v41, v42, hf10, hf1, hf3, hf4, hf5, hf6, hf9, hd0, hd1, hd2, hd3, hd4, hd5, hd6, hd7, hd8, hd9, hd10, hd11, hd12, hd13, hd14, hd15, hd16, hd17, (fun _ => rfl), hd19, hd20, hd21, hd22, hd23, C14, W0, W1, W2⟩
     ·
      rintro S f w hS ⟨e17, e18, -⟩ ⟨e20, e21, e22, e23, -⟩ ⟨v41, v42, hf10, hf1, hf3, hf4, hf5, hf6, hf9, hd0, hd1, hd2, hd3, hd4, hd5, hd6, hd7, hd8, hd9, hd10, hd11, hd12, hd13, hd14, hd15, hd16, hd17, hd18, hd19, hd20, hd21, hd22, hd23, C14, W0, W1, W2⟩
      have hx45 := hd17 e17
      have hx46 := hd18 e18
      obtain ⟨u, rfl⟩ : ∃ u, f = (upd (upd u 45 (va0)) 46 (.int .i64 (j : Int))) := ⟨f, by rw [upd_self hx45, upd_self hx46]⟩
      refine hrp2 rfl rfl rfl rfl ?_
      exact WL.nil ⟨v41, v42, hf10, hf1, hf3, hf4, hf5, hf6, hf9, hd0, hd1, hd2, hd3, hd4, hd5, hd6, hd7, hd8, hd9, hd10, hd11, hd12, hd13, hd14, hd15, hd16, hd17, hd18, (fun _ => rfl), hd20, hd21, hd22, hd23, C14, W0, W1, W2⟩
     ·
      rintro S f w hS ⟨e17, e18, e19, -⟩ ⟨e21, e22, e23, -⟩ ⟨v41, v42, hf10, hf1, hf3, hf4, hf5, hf6, hf9, hd0, hd1, hd2, hd3, hd4, hd5, hd6, hd7, hd8, hd9, hd10, hd11, hd12, hd13, hd14, hd15, hd16, hd17, hd18, hd19, hd20, hd21, hd22, hd23, C14, W0, W1, W2⟩
      have hx47 := hd19 e19
      obtain ⟨u, rfl⟩ : ∃ u, f = (upd u 47 (.pointer (some p2))) := ⟨f, by rw [upd_self hx47]⟩
      refine O.fieldAddr fd28_4 rfl rfl rfl ?_
      exact WL.nil ⟨v41, v42, hf10, hf1, hf3, hf4, hf5, hf6, hf9, hd0, hd1, hd2, hd3, hd4, hd5, hd6, hd7, hd8, hd9, hd10, hd11, hd12, hd13, hd14, hd15, hd16, hd17, hd18, hd19, (fun _ => rfl), hd21, hd22, hd23, C14, W0, W1, W2⟩
     ·
      rintro S f w hS ⟨e17, e18, e19, e20, -⟩ ⟨e22, e23, -⟩ ⟨v41, v42, hf10, hf1, hf3, hf4, hf5, hf6, hf9, hd0, hd1, hd2, hd3, hd4, hd5, hd6, hd7, hd8, hd9, hd10, hd11, hd12, hd13, hd14, hd15, hd16, hd17, hd18, hd19, hd20, hd21, hd22, hd23, C14, W0, W1, W2⟩
      have hx48 := hd20 e20
      obtain ⟨u, rfl⟩ : ∃ u, f = (upd u 48 (.pointer (some (p2.add 4)))) := ⟨f, by rw [upd_self hx48]⟩
      obtain ⟨Lx, H⟩ : ∃ Lx, Inv w0 w ((envB va0 va1 bb bL bP bT C' R' vb'' bs'' ++ [J, boxI b9 99 [vl, .int .i64 ps]]) ++ Lx) := by
       rcases bool_ft (S 13) with q | q
       · exact ⟨_, W0 q⟩
       ·
        rcases bool_ft (S 14) with q' | q'
        · exact ⟨_, W1 q q'⟩
        · exact ⟨_, W2 q'⟩
      refine O.load sc3 rfl rfl rfl ((hp2.mono H.base).flat 4 _ rfl) ?_
      exact WL.nil ⟨v41, v42, hf10, hf1, hf3, hf4, hf5, hf6, hf9, hd0, hd1, hd2, hd3, hd4, hd5, hd6, hd7, hd8, hd9, hd10, hd11, hd12, hd13, hd14, hd15, hd16, hd17, hd18, hd19, hd20, (fun _ => rfl), hd22, hd23, C14, W0, W1, W2⟩
     ·
      rintro S f w hS ⟨e15, e16, e17, e18, e19, e20, e21, -⟩ ⟨e23, -⟩ ⟨v41, v42, hf10, hf1, hf3, hf4, hf5, hf6, hf9, hd0, hd1, hd2, hd3, hd4, hd5, hd6, hd7, hd8, hd9, hd10, hd11, hd12, hd13, hd14, hd15, hd16, hd17, hd18, hd19, hd20, hd21, hd22, hd23, C14, W0, W1, W2⟩
      have hx44 := hd16 e16
      have hx49 := hd21 e21
      obtain ⟨u, rfl⟩ : ∃ u, f = (upd (upd u 44 (.int .i64 ps)) 49 (.int .i64 a0[j].Number)) := ⟨f, by rw [upd_self hx44, upd_self hx49]⟩
      refine O.add (c := ps + a0[j].Number) rfl rfl rfl rfl (addI_ok (by omega)) ?_
      exact WL.nil ⟨v41, v42, hf10, hf1, hf3, hf4, hf5, hf6, hf9, hd0, hd1, hd2, hd3, hd4, hd5, hd6, hd7, hd8, hd9, hd10, hd11, hd12, hd13, hd14, hd15, hd16, hd17, hd18, hd19, hd20, hd21, (fun _ => rfl), hd23, C14, W0, W1, W2⟩
     ·
      rintro S f w hS ⟨e9, e10, e11, e12, e13, e14, e15, e16, e17, e18, e19, e20, e21, e22, -⟩ - ⟨v41, v42, hf10, hf1, hf3, hf4, hf5, hf6, hf9, hd0, hd1, hd2, hd3, hd4, hd5, hd6, hd7, hd8, hd9, hd10, hd11, hd12, hd13, hd14, hd15, hd16, hd17, hd18, hd19, hd20, hd21, hd22, hd23, C14, W0, W1, W2⟩
      have hx42 := hd14 e14
      have hx50 := hd22 e22
      obtain ⟨u, rfl⟩ : ∃ u, f = (upd (upd u 42 (v42)) 50 (.int .i64 (ps + a0[j].Number))) := ⟨f, by rw [upd_self hx42, upd_self hx50]⟩
      obtain ⟨y42, m42, hv42, -, -⟩ := ((W2 e14).own 7 rfl).shape
      refine O.build (v := .agg #[v42, .int .i64 (ps + a0[j].Number)]) (fun w => by rw [hv42]; exact bdP_0_1 _ _ _ _ w) rfl rfl rfl ?_
      exact WL.nil ⟨v41, v42, hf10, hf1, hf3, hf4, hf5, hf6, hf9, hd0, hd1, hd2, hd3, hd4, hd5, hd6, hd7, hd8, hd9, hd10, hd11, hd12, hd13, hd14, hd15, hd16, hd17, hd18, hd19, hd20, hd21, hd22, (fun _ => rfl), C14, W0, W1, W2⟩
    ·
     intro S f w hall hPhi
     obtain ⟨e0, e1, e2, e3, e4, e5, e6, e7, e8, e9, e10, e11, e12, e13, e14, e15, e16, e17, e18, e19, e20, e21, e22, e23, -⟩ := hall
     obtain ⟨v41, v42, hf10, hf1, hf3, hf4, hf5, hf6, hf9, hd0, hd1, hd2, hd3, hd4, hd5, hd6, hd7, hd8, hd9, hd10, hd11, hd12, hd13, hd14, hd15, hd16, hd17, hd18, hd19, hd20, hd21, hd22, hd23, C14, W0, W1, W2⟩ := hPhi
     have H := W2 e14
     have H := H.absorb (M := [boxI bb 99 [vb'', .int .i64 bs''], boxI bL 62 [va0], boxI bP 22 [va1], boxI bT 100 [.func (.func 80) #[] #[.pointer (some ⟨bb, 0, none⟩), .pointer (some ⟨bL, 0, none⟩), .pointer (some ⟨bP, 0, none⟩), .pointer (some ⟨bT, 0, none⟩)]], J, boxI b9 99 [vl, .int .i64 ps]])
     have H := InvD.both (L := envB va0 va1 bb bL bP bT _ _ vb'' bs'') H
     have hx28 := hd0 e0
     have hx30 := hd2 e2
     have hx36 := hd8 e8
     have hx51 := hd23 e23
     have hih := ih (a0.length - (j + 1)) (by omega) (j + 1) (money - pr) v42 (pl ++ [(j : Int)]) (ps + a0[j].Number) _ _ vb'' bl'' bs'' _ w (by omega) (List.mem_cons_self ..) (List.mem_cons_of_mem _ hbl'') H (by omega) (by omega) (by simp; omega)
     refine WL.enter rfl rfl (k := 80) (args := #[.int .i64 ((j + 1 : Nat) : Int), .int .i64 (money - pr), .agg #[v42, .int .i64 (ps + a0[j].Number)], .pointer (some ⟨bb, 0, none⟩), .pointer (some ⟨bL, 0, none⟩), .pointer (some ⟨bP, 0, none⟩), .pointer (some ⟨bT, 0, none⟩)]) ?_ (hih.mono ?_)
     ·
      have e1 : ev f (.tmp 28) = .func (.func 80) #[] #[.pointer (some ⟨bb, 0, none⟩), .pointer (some ⟨bL, 0, none⟩), .pointer (some ⟨bP, 0, none⟩), .pointer (some ⟨bT, 0, none⟩)] := hx28
      have e2 : ev f (.tmp 30) = .int .i64 ((j + 1 : Nat) : Int) := hx30
      have e3 : ev f (.tmp 36) = .int .i64 (money - pr) := hx36
      have e4 : ev f (.tmp 51) = .agg #[v42, .int .i64 (ps + a0[j].Number)] := hx51
      simp only [execOp, resolve, e1, e2, e3, e4, Deferred.ofValue, List.map_toArray, List.map_cons, List.map_nil, Sem.run_bind, Sem.run_pure, Result.andThen_ok, invoke]
      simp
     ·
      rintro e w2 ⟨rfl, C2, R2, vb2, bl2, bs2, hR2, hbl2, H, hfold2⟩
      have H := InvD.unboth (L := envB va0 va1 bb bL bP bT C2 R2 vb2 bs2) H
      refine ⟨_, rfl, ?_⟩
      refine WL.nil ?_
      refine ⟨hf10, hf1, hf3, hf4, hf5, hf6, hf9, C2, R2, vb2, bl2, bs2, fun r hr => hR2 r (List.mem_cons_of_mem _ (hR r hr)), hbl2, H, ?_⟩
      rw [hfold2]
      exact hfold

   ·
    refine W.cond_false (congrArg Value.bool (decide_eq_false hle)) ?_
    refine W.skip ?_
    rw [if_neg hle] at hfold
    exact ⟨rfl, rfl, rfl, rfl, rfl, rfl, rfl, C', R', vb'', bl'', bs'', hR, hbl'', H, hfold⟩
  ·
   rintro f w ⟨hf10, hf1, hf3, hf4, hf5, hf6, hf9, C2, R2, vb2, bl2, bs2, hR2, hbl2, H, hfold2⟩
   obtain ⟨u3, rfl⟩ := up7 hf10 hf1 hf3 hf4 hf5 hf6 hf9
   refine W.region ?_
   refine O.move (v := .int .i64 (j : Int)) rfl rfl rfl ?_
   refine O.add (c := (j : Int) + 1) rfl rfl rfl rfl (addI_ok (by omega)) ?_
   refine O.assign (v := .int .i64 ((j : Int) + 1)) rfl rfl rfl ?_
   exact WL.nil ⟨j + 1, rfl, by omega, by omega, rfl, rfl, rfl, rfl, rfl, rfl, rfl, C2, R2, vb2, bl2, bs2, hR2, hbl2, H, hfold2⟩
 ·
  rintro f w ⟨j, hrem, hj1, hj2, hf10, hf1, hf3, hf4, hf5, hf6, hf9, C', R', vb'', bl'', bs'', hR, hbl'', H, hfold⟩
  have hjn : a0.length ≤ j := by
   have h := congrArg List.length hrem
   rw [List.length_drop, items_len' hl, List.length_nil] at h
   omega
  obtain ⟨u2, rfl⟩ := up2 hf10 hf4
  refine W.seq ?_
  refine W.seq ?_
  refine W.region ?_
  refine O.move (v := .int .i64 (j : Int)) rfl rfl rfl ?_
  refine O.load (q := ⟨bL, 0, none⟩) (v := va0) sc62 rfl rfl rfl (H.cell 2 rfl 0 _ rfl) ?_
  refine O.lenS Try.underlying62 (H.arg ha0) rfl rfl rfl ?_
  refine O.lss rfl rfl rfl rfl ?_
  refine WL.nil ?_
  refine W.cond_false (congrArg Value.bool (decide_eq_false (by omega))) ?_
  refine W.exit ?_
  refine xT rfl ?_
  refine ends0 Try.results80 ⟨rfl, C', R', vb'', bl'', bs'', hR, hbl'', H.pick [0, 1, 2, 3, 4, 5] _ rfl (by decide), ?_⟩
  rw [List.foldl_cons, ← hup, ← hfold]
  rfl
set_option maxRecDepth 20000 in
theorem c_rate_Bought {w0 : World} (va0 : Value) (a0 : (List GTrial)) (ha0 : SliceR w0 va0 a0) (va1 : Value) (a1 : (List Int)) (ha1 : SliceR w0 va1 a1) (a2 : Int) {r0 : (List Int)} {r1 : Int} (hm : rate_Bought a0 a1 a2 = some (r0, r1)) :
  Calls Try.prog 44 #[va0, va1, (.int .i64 a2)] w0 (Ret w0 fun w v => ∃ vr0 : Value, v = .tuple #[vr0, (.int .i64 r1)] ∧ OwnR w0 w vr0 3 r0) := by
 have hm0 := hm
 unfold rate_Bought at hm0
 have hm := head_eq a0 a1 a2
 unfold rate_Bought_head at hm
 refine calls_of_W Try.func44 rfl Try.ntmps44 (Nat.le_of_ble_eq_true rfl) ?_
 have H := Inv.start (w := w0)
 refine W.seq ?_
 refine W.region ?_
 refine O.box [va0] H rfl rfl rfl (SliceR.cells1 (H.arg ha0)) ?_
 intro b1 w1 H hb1
 refine O.box [va1] H rfl rfl rfl (SliceR.cells1 (H.arg ha1)) ?_
 intro b2 w2 H hb2
 have H := H.addNil (α := Int) (E := 3)
 refine O.assign (v := (.slice none 0 0)) rfl rfl rfl ?_
 refine O.assign (v := (.int .i64 0)) rfl rfl rfl ?_
 refine WL.nil ?_
 refine W.seq ?_
 refine W.region ?_
 refine O.assign (v := (.func (.func 77) #[] #[])) rfl rfl rfl ?_
 refine WL.nil ?_
 refine W.seq ?_
 refine W.region ?_
 refine O.assign (v := (.func (.func 78) #[] #[])) rfl rfl rfl ?_
 refine WL.nil ?_
 refine W.seq ?_
 refine W.seq ?_
 refine W.region ?_
 refine O.load sc62 rfl rfl rfl (H.cell 0 rfl 0 _ rfl) ?_
 refine O.lenS Try.underlying62 (H.arg ha0) rfl rfl rfl ?_
 obtain ⟨t1, hy1, hm⟩ := bind_some hm
 refine O.call Try.call59 rfl rfl rfl (c_rate_within _ _ _ hy1) ?_
 rintro _ w3 hb3 rfl
 have H := H.ext hb3
 refine O.not rfl rfl rfl ?_
 refine O.move (v := (.bool (!t1))) rfl rfl rfl ?_
 refine WL.cut 6 (fun f w => f 2 = (.int .i64 a2) ∧ f 3 = (.pointer (some ⟨b1, 0, none⟩)) ∧ f 4 = (.pointer (some ⟨b2, 0, none⟩)) ∧ f 6 = (.slice none 0 0) ∧ f 7 = (.int .i64 0) ∧ f 8 = (.func (.func 77) #[] #[]) ∧ f 9 = (.func (.func 78) #[] #[]) ∧ f 22 = .bool ((!t1) || (((a1.length : Nat) : Int) != ((a0.length : Nat) : Int))) ∧ Inv w0 w [boxI b1 62 [va0], boxI b2 22 [va1], ownI (α := Int) (.slice none 0 0) 3 ([] : List Int)]) ?_ ?_
 ·
  rcases bool_ft (!t1) with hc1 | hc1
  ·
   refine WL.reset (i := 16) (v := .bool false) (congrArg Value.bool hc1) ?_
   refine O.load sc22 rfl rfl rfl (H.cell 1 rfl 0 _ rfl) ?_
   refine O.lenS Try.underlying22 (H.arg ha1) rfl rfl rfl ?_
   refine O.load sc62 rfl rfl rfl (H.cell 0 rfl 0 _ rfl) ?_
   refine O.lenS Try.underlying62 (H.arg ha0) rfl rfl rfl ?_
   refine O.neq rfl rfl rfl rfl ?_
   refine O.pick_false (v := (.bool (((a1.length : Nat) : Int) != ((a0.length : Nat) : Int)))) rfl rfl rfl rfl ?_
   exact WL.nil ⟨rfl, rfl, rfl, rfl, rfl, rfl, rfl, congrArg Value.bool (or_f hc1), H⟩
  ·
   refine WL.reset (i := 16) (v := .bool true) (congrArg Value.bool hc1) ?_
   refine O.skip rfl rfl ?_
   refine O.skip rfl rfl ?_
   refine O.skip rfl rfl ?_
   refine O.skip rfl rfl ?_
   refine O.skip rfl rfl ?_
   refine O.pick_true (v := (.bool true)) rfl rfl rfl rfl ?_
   exact WL.nil ⟨rfl, rfl, rfl, rfl, rfl, rfl, rfl, congrArg Value.bool (or_t hc1), H⟩
 ·
  rintro f w ⟨hf2, hf3, hf4, hf6, hf7, hf8, hf9, hf22, H⟩
  obtain ⟨u1, rfl⟩ := up8 hf2 hf3 hf4 hf6 hf7 hf8 hf9 hf22
  refine O.move (v := (.bool ((!t1) || (((a1.length : Nat) : Int) != ((a0.length : Nat) : Int))))) rfl rfl rfl ?_
  obtain ⟨b3, hm1, hm⟩ := bind_some hm
  refine WL.cut 4 (fun f w => f 2 = (.int .i64 a2) ∧ f 3 = (.pointer (some ⟨b1, 0, none⟩)) ∧ f 4 = (.pointer (some ⟨b2, 0, none⟩)) ∧ f 6 = (.slice none 0 0) ∧ f 7 = (.int .i64 0) ∧ f 9 = (.func (.func 78) #[] #[]) ∧ f 27 = .bool b3 ∧ Inv w0 w [boxI b1 62 [va0], boxI b2 22 [va1], ownI (α := Int) (.slice none 0 0) 3 ([] : List Int)]) ?_ ?_
  ·
   rcases ite_some hm1 with ⟨hc2, hm1⟩ | ⟨hc2, hm1⟩
   ·
    refine WL.reset (i := 23) (v := .bool true) (congrArg Value.bool hc2) ?_
    refine O.skip rfl rfl ?_
    refine O.skip rfl rfl ?_
    refine O.skip rfl rfl ?_
    refine O.pick_true (v := (.bool true)) rfl rfl rfl rfl ?_
    refine WL.nil ?_
    have hq : true = b3 := Option.some.inj (show some true = some b3 from hm1)
    subst hq
    exact ⟨rfl, rfl, rfl, rfl, rfl, rfl, rfl, H⟩
   ·
    refine WL.reset (i := 23) (v := .bool false) (congrArg Value.bool hc2) ?_
    refine O.load sc22 rfl rfl rfl (H.cell 1 rfl 0 _ rfl) ?_
    refine O.move (v := (.func (.func 77) #[] #[])) rfl rfl rfl ?_
    obtain ⟨t2, hy2, hm1⟩ := bind_some hm1
    refine O.call Try.call60 rfl rfl rfl (c_slices_ContainsFunc_int _ _ (H.arg ha1) _ (fun x0 => rate_Bought_c1 x0) (fun w hw x0 _ hy => callsV_mk Try.call77 (c_rate_Bought_c1 x0 hy)) hy2) ?_
    rintro _ w4 hb4 rfl
    have H := H.ext hb4
    refine O.pick_false (v := (.bool t2)) rfl rfl rfl rfl ?_
    refine WL.nil ?_
    have hq : t2 = b3 := Option.some.inj (show some t2 = some b3 from hm1)
    subst hq
    exact ⟨rfl, rfl, rfl, rfl, rfl, rfl, rfl, H⟩
  ·
   rintro f w ⟨hf2, hf3, hf4, hf6, hf7, hf9, hf27, H⟩
   obtain ⟨u2, rfl⟩ := up7 hf2 hf3 hf4 hf6 hf7 hf9 hf27
   refine O.move (v := (.bool b3)) rfl rfl rfl ?_
   obtain ⟨b4, hm2, hm⟩ := bind_some hm
   refine WL.cut 4 (fun f w => f 2 = (.int .i64 a2) ∧ f 3 = (.pointer (some ⟨b1, 0, none⟩)) ∧ f 4 = (.pointer (some ⟨b2, 0, none⟩)) ∧ f 6 = (.slice none 0 0) ∧ f 7 = (.int .i64 0) ∧ f 32 = .bool b4 ∧ Inv w0 w [boxI b1 62 [va0], boxI b2 22 [va1], ownI (α := Int) (.slice none 0 0) 3 ([] : List Int)]) ?_ ?_
   ·
    rcases ite_some hm2 with ⟨hc3, hm2⟩ | ⟨hc3, hm2⟩
    ·
     refine WL.reset (i := 28) (v := .bool true) (congrArg Value.bool hc3) ?_
     refine O.skip rfl rfl ?_
     refine O.skip rfl rfl ?_
     refine O.skip rfl rfl ?_
     refine O.pick_true (v := (.bool true)) rfl rfl rfl rfl ?_
     refine WL.nil ?_
     have hq : true = b4 := Option.some.inj (show some true = some b4 from hm2)
     subst hq
     exact ⟨rfl, rfl, rfl, rfl, rfl, rfl, H⟩
    ·
     refine WL.reset (i := 28) (v := .bool false) (congrArg Value.bool hc3) ?_
     refine O.load sc62 rfl rfl rfl (H.cell 0 rfl 0 _ rfl) ?_
     refine O.move (v := (.func (.func 78) #[] #[])) rfl rfl rfl ?_
     obtain ⟨t3, hy3, hm2⟩ := bind_some hm2
     refine O.call Try.call79 rfl rfl rfl (c_slices_ContainsFunc_Trial _ _ (H.arg ha0) _ (fun x0 => rate_Bought_c2 x0) (fun w hw x0 _ hy => callsV_mk Try.call78 (c_rate_Bought_c2 x0 hy)) hy3) ?_
     rintro _ w5 hb5 rfl
     have H := H.ext hb5
     refine O.pick_false (v := (.bool t3)) rfl rfl rfl rfl ?_
     refine WL.nil ?_
     have hq : t3 = b4 := Option.some.inj (show some t3 = some b4 from hm2)
     subst hq
     exact ⟨rfl, rfl, rfl, rfl, rfl, rfl, H⟩
   ·
    rintro f w ⟨hf2, hf3, hf4, hf6, hf7, hf32, H⟩
    obtain ⟨u3, rfl⟩ := up6 hf2 hf3 hf4 hf6 hf7 hf32
    refine O.move (v := (.bool b4)) rfl rfl rfl ?_
    obtain ⟨b5, hm3, hm⟩ := bind_some hm
    refine WL.cut 4 (fun f w => f 2 = (.int .i64 a2) ∧ f 3 = (.pointer (some ⟨b1, 0, none⟩)) ∧ f 4 = (.pointer (some ⟨b2, 0, none⟩)) ∧ f 6 = (.slice none 0 0) ∧ f 7 = (.int .i64 0) ∧ f 37 = .bool b5 ∧ Inv w0 w [boxI b1 62 [va0], boxI b2 22 [va1], ownI (α := Int) (.slice none 0 0) 3 ([] : List Int)]) ?_ ?_
    ·
     rcases ite_some hm3 with ⟨hc4, hm3⟩ | ⟨hc4, hm3⟩
     ·
      refine WL.reset (i := 33) (v := .bool true) (congrArg Value.bool hc4) ?_
      refine O.skip rfl rfl ?_
      refine O.skip rfl rfl ?_
      refine O.skip rfl rfl ?_
      refine O.pick_true (v := (.bool true)) rfl rfl rfl rfl ?_
      refine WL.nil ?_
      have hq : true = b5 := Option.some.inj (show some true = some b5 from hm3)
      subst hq
      exact ⟨rfl, rfl, rfl, rfl, rfl, rfl, H⟩
     ·
      refine WL.reset (i := 33) (v := .bool false) (congrArg Value.bool hc4) ?_
      refine O.move (v := (.int .i64 a2)) rfl rfl rfl ?_
      obtain ⟨t4, hy4, hm3⟩ := bind_some hm3
      refine O.call Try.call59 rfl rfl rfl (c_rate_within _ _ _ hy4) ?_
      rintro _ w6 hb6 rfl
      have H := H.ext hb6
      refine O.not rfl rfl rfl ?_
      refine O.pick_false (v := (.bool (!t4))) rfl rfl rfl rfl ?_
      refine WL.nil ?_
      have hq : (!t4) = b5 := Option.some.inj (show some (!t4) = some b5 from hm3)
      subst hq
      exact ⟨rfl, rfl, rfl, rfl, rfl, rfl, H⟩
    ·
     rintro f w ⟨hf2, hf3, hf4, hf6, hf7, hf37, H⟩
     obtain ⟨u4, rfl⟩ := up6 hf2 hf3 hf4 hf6 hf7 hf37
     refine WL.nil ?_
     rcases ite_some hm with ⟨hc5, hm⟩ | ⟨hc5, hm⟩
     ·
      refine W.cond_true (congrArg Value.bool hc5) ?_
      refine W.seq ?_
      refine W.region ?_
      have H := H.addNil (α := Int) (E := 3)
      refine O.assign (v := (.slice none 0 0)) rfl rfl rfl ?_
      refine O.assign (v := (.int .i64 7)) rfl rfl rfl ?_
      refine WL.nil ?_
      refine W.ret ?_
      have hq := (Prod.mk.inj (Option.some.inj hm)).2
      have hfit : ¬ fitsF a0 a1 a2 = true := fun h => by rw [if_pos h] at hq; exact absurd hq (by decide)
      rw [if_neg hfit] at hm0
      obtain ⟨he0, hq0⟩ := Prod.mk.inj (Option.some.inj hm0); subst he0
      subst hq0
      exact ends2 Try.results44 rfl rfl ⟨_, rfl, H.base, ⟨_, rfl, H.ownR 3 rfl⟩⟩
     ·
      refine W.cond_false (congrArg Value.bool hc5) ?_
      refine W.skip ?_
      have hq := (Prod.mk.inj (Option.some.inj hm)).2
      have hfit : fitsF a0 a1 a2 = true := Classical.byContradiction fun h => by rw [if_neg h] at hq; exact absurd hq (by decide)
      rw [if_pos hfit] at hm0
      obtain ⟨he0, hq0⟩ := Prod.mk.inj (Option.some.inj hm0); subst he0
      subst hq0
      obtain ⟨hn, hl, hpr, hnu, hmo⟩ := fits_out hfit
      refine W.seq ?_
      refine W.region ?_
      refine O.alloc [(.slice none 0 0), .int .i64 0] ze99 H rfl rfl rfl ?_
      intro bb w7 H _
      refine WL.nil ?_
      refine W.seq ?_
      refine W.region ?_
      refine O.alloc [.nilFunc] ze100 H rfl rfl rfl ?_
      intro bT w8 H _
      refine WL.nil ?_
      refine W.seq ?_
      refine W.region ?_
      refine O.makeFunc (v1 := []) (v2 := [.pointer (some ⟨bb, 0, none⟩), .pointer (some ⟨b1, 0, none⟩), .pointer (some ⟨b2, 0, none⟩), .pointer (some ⟨bT, 0, none⟩)]) rfl rfl rfl rfl ?_
      refine O.store 4 0 [.func (.func 80) #[] #[.pointer (some ⟨bb, 0, none⟩), .pointer (some ⟨b1, 0, none⟩), .pointer (some ⟨b2, 0, none⟩), .pointer (some ⟨bT, 0, none⟩)]] [.func (.func 80) #[] #[.pointer (some ⟨bb, 0, none⟩), .pointer (some ⟨b1, 0, none⟩), .pointer (some ⟨b2, 0, none⟩), .pointer (some ⟨bT, 0, none⟩)]] sz100 H rfl rfl rfl rfl rfl rfl ⟨⟨rfl, rfl⟩, rfl⟩ (one_cons rfl one_nil) ?_
      intro w9 H
      refine WL.nil ?_
      have H := H.pick [3, 0, 1, 4, 2] [boxI bb 99 [(.slice none 0 0), .int .i64 0], boxI b1 62 [va0], boxI b2 22 [va1], boxI bT 100 [.func (.func 80) #[] #[.pointer (some ⟨bb, 0, none⟩), .pointer (some ⟨b1, 0, none⟩), .pointer (some ⟨b2, 0, none⟩), .pointer (some ⟨bT, 0, none⟩)]], ownI (α := Int) (.slice none 0 0) 3 ([] : List Int)] rfl (by decide)
      have H := rowsI_nil (α := Int) (E := 3) H
      refine W.seq ?_
      refine W.region ?_
      refine O.load (q := ⟨bT, 0, none⟩) sc100 rfl rfl rfl (H.cell 4 rfl 0 _ rfl) ?_
      refine O.move (v := (.int .i64 a2)) rfl rfl rfl ?_
      refine O.build (vs := []) (v := .agg #[.slice none 0 0, .int .i64 0]) (fun w => bdP_ w) rfl rfl rfl ?_
      have hcall := c_rate_Bought_c3 (bb := bb) (bL := b1) (bP := b2) (bT := bT) ha0 ha1 hl hn hpr hnu a0.length 0 a2 (.slice none 0 0) [] 0 _ _ (.slice none 0 0) [] 0 _ w9 (Nat.zero_add _) (List.mem_singleton_self _) (List.mem_singleton_self _) H hmo (by omega) (Nat.le_refl _)
      refine WL.enter rfl rfl (k := 80) (args := #[.int .i64 ((0 : Nat) : Int), .int .i64 a2, .agg #[.slice none 0 0, .int .i64 0], .pointer (some ⟨bb, 0, none⟩), .pointer (some ⟨b1, 0, none⟩), .pointer (some ⟨b2, 0, none⟩), .pointer (some ⟨bT, 0, none⟩)]) ?_ (hcall.mono ?_)
      ·
       refine (run_callV (vs := [.int .i64 ((0 : Nat) : Int), .int .i64 a2, .agg #[.slice none 0 0, .int .i64 0]]) rfl rfl Try.call80).trans ?_
       simp
      rintro e w10 ⟨rfl, C2, R2, vb2, bl2, bs2, -, hbl2, H, hfold⟩
      refine ⟨_, rfl, ?_⟩
      refine WL.nil ?_
      refine W.seq ?_
      refine W.region ?_
      refine O.fieldAddr fd99_0 rfl rfl rfl ?_
      refine O.load (v := vb2) sc22 rfl rfl rfl (H.cell 1 rfl 0 _ rfl) ?_
      refine O.assign (v := vb2) rfl rfl rfl ?_
      refine O.assign (v := (.int .i64 0)) rfl rfl rfl ?_
      refine WL.nil ?_
      refine W.ret ?_
      have hbl : bl2 = ((buyE (itemsF a0 a1) a2 ⟨[], 0⟩).foldl updF ⟨[], 0⟩).list := by
       have h := congrArg Pu.list hfold
       rw [List.drop_zero, List.foldl_cons, updF_self] at h
       exact h
      rw [← hbl]
      exact ends2 Try.results44 rfl rfl ⟨_, rfl, H.base, ⟨_, rfl, H.rowOwn hbl2⟩⟩

set_option maxRecDepth 20000 in
theorem c_noongunref06_before {w0 : World} (va0 : Value) (a0 : (List Int)) (ha0 : SliceR w0 va0 a0) (va1 : Value) (a1 : (List Int)) (ha1 : SliceR w0 va1 a1) {r0 : Bool} (hm : noongunref06_before a0 a1 = some r0) :
  Calls Try.prog 83 #[va0, va1] w0 (Ret w0 fun _ v => v = (.bool r0)) := by
 unfold noongunref06_before at hm
 refine calls_of_W Try.func83 rfl Try.ntmps83 (Nat.le_of_ble_eq_true rfl) ?_
 have H := Inv.start (w := w0)
 refine W.seq ?_
 refine W.region ?_
 refine O.assign (v := (.bool false)) rfl rfl rfl ?_
 refine WL.nil ?_
 refine W.seq ?_
 refine W.seq ?_
 refine W.region ?_
 refine O.move (v := va0) rfl rfl rfl ?_
 refine O.lenS Try.underlying22 (H.arg ha0) rfl rfl rfl ?_
 refine O.move (v := (.int .i64 0)) rfl rfl rfl ?_
 refine WL.nil ?_
 obtain ⟨o1, hm1, hm⟩ := bind_some hm
 refine W.via (fun f w => o1 = .next () ∧ f 0 = va0 ∧ f 1 = va1 ∧ Inv w0 w []) ?_ ?_
 ·
  refine W.block ?_
  have hbdik1 := (H.arg ha0).len_le
  refine W.rangeN (i := 0) hm1 (fun rem ik1 s f w => () = s ∧ (ik1 : Int) + rem = max 0 ((a0.length : Nat) : Int) ∧ f 8 = .int .i64 (ik1 : Int) ∧ f 7 = (.int .i64 ((a0.length : Nat) : Int)) ∧ f 0 = va0 ∧ f 1 = va1 ∧ Inv w0 w []) ?_ ?_ ?_
  ·
   exact ⟨rfl, rangeN_start, rfl, rfl, rfl, rfl, H⟩
  ·
   rintro k ik1 _ st f w ⟨rfl, hdropk1, hf8, hf7, hf0, hf1, H⟩ hm2
   have hltk1 := rangeN_lt hdropk1
   obtain ⟨u1, rfl⟩ := up4 hf8 hf7 hf0 hf1
   have hinck1 := addI_lt hltk1 hbdik1
   refine W.seq ?_
   refine W.region ?_
   refine O.lss rfl rfl rfl rfl ?_
   refine WL.nil ?_
   refine W.seq ?_
   refine W.cond_true (congrArg Value.bool (decide_eq_true hltk1)) ?_
   refine W.skip ?_
   refine W.seq ?_
   refine W.block ?_
   refine W.seq ?_
   refine W.region ?_
   refine O.move (v := (.int .i64 (ik1 : Int))) rfl rfl rfl ?_
   refine O.assign (v := (.int .i64 (ik1 : Int))) rfl rfl rfl ?_
   refine WL.nil ?_
   refine W.seq ?_
   refine W.seq ?_
   refine W.region ?_
   refine O.move (v := (.int .i64 (ik1 : Int))) rfl rfl rfl ?_
   refine O.move (v := va1) rfl rfl rfl ?_
   refine O.lenS Try.underlying22 (H.arg ha1) rfl rfl rfl ?_
   refine O.geq rfl rfl rfl rfl ?_
   refine WL.nil ?_
   rcases ite_some hm2 with ⟨hc1, hm2⟩ | ⟨hc1, hm2⟩
   ·
    refine W.cond_true (congrArg Value.bool hc1) ?_
    refine W.seq ?_
    refine W.region ?_
    refine O.assign (v := (.bool false)) rfl rfl rfl ?_
    refine WL.nil ?_
    refine W.ret ?_
    obtain rfl := Option.some.inj hm2
    refine ⟨_, rfl, ?_⟩
    rintro rfl
    have hq : false = r0 := Option.some.inj (show some false = some r0 from hm)
    subst hq
    exact ends1 Try.results83 rfl ⟨_, rfl, H.base, rfl⟩
   ·
    refine W.cond_false (congrArg Value.bool hc1) ?_
    refine W.skip ?_
    refine W.seq ?_
    obtain ⟨x1, hx1, hm2⟩ := bind_some hm2
    obtain ⟨p1, hp1, hrp1⟩ := fix_indexAddr Try.underlying22 sz3 (H.arg ha0) hx1
    obtain ⟨x2, hx2, hm2⟩ := bind_some hm2
    obtain ⟨p2, hp2, hrp2⟩ := fix_indexAddr Try.underlying22 sz3 (H.arg ha1) hx2
    refine W.drawN 8 (fun f => f 0 = va0 ∧ f 1 = va1 ∧ f 5 = (.int .i64 (ik1 : Int)) ∧ f 7 = (.int .i64 ((a0.length : Nat) : Int)) ∧ f 8 = (.int .i64 (ik1 : Int)) ∧ f 18 = (.int .i64 x1) ∧ f 22 = (.int .i64 x2)) fol (by kernel_rfl) ?_ ?_
    ·
     refine PL.of (fun _ w8 _ hx => O.move (v := va0) rfl rfl rfl (WL.nil ⟨rfl, hx⟩)) ?_
     refine PL.of (fun _ w8 _ hx => O.move (v := (.int .i64 (ik1 : Int))) rfl rfl rfl (WL.nil ⟨rfl, hx⟩)) ?_
     refine PL.of (fun _ w8 _ hx => hrp1 rfl rfl rfl rfl (WL.nil ⟨rfl, hx⟩)) ?_
     refine PL.of (fun _ w8 _ hx => by have hp1 := hp1.mono hx; exact O.load sc3 rfl rfl rfl (hp1.flat 0 _ rfl) (WL.nil ⟨rfl, hx⟩)) ?_
     refine PL.of (fun _ w8 _ hx => O.move (v := va1) rfl rfl rfl (WL.nil ⟨rfl, hx⟩)) ?_
     refine PL.of (fun _ w8 _ hx => O.move (v := (.int .i64 (ik1 : Int))) rfl rfl rfl (WL.nil ⟨rfl, hx⟩)) ?_
     refine PL.of (fun _ w8 _ hx => hrp2 rfl rfl rfl rfl (WL.nil ⟨rfl, hx⟩)) ?_
     refine PL.of (fun _ w8 _ hx => by have hp2 := hp2.mono hx; exact O.load sc3 rfl rfl rfl (hp2.flat 0 _ rfl) (WL.nil ⟨rfl, hx⟩)) ?_
     refine PL.nil ?_
     exact ⟨rfl, rfl, rfl, rfl, rfl, rfl, rfl⟩
    ·
     rintro f w ⟨hf0, hf1, hf5, hf7, hf8, hf18, hf22⟩ hmd hx
     have H := H.ext hx
     have hp1 := hp1.mono hx
     have hp2 := hp2.mono hx
     obtain ⟨u2, rfl⟩ := up7 hf0 hf1 hf5 hf7 hf8 hf18 hf22
     refine O.neq rfl rfl rfl rfl ?_
     refine WL.nil ?_
     rcases ite_some hm2 with ⟨hc2, hm2⟩ | ⟨hc2, hm2⟩
     ·
      refine W.cond_true (congrArg Value.bool hc2) ?_
      refine W.seq ?_
      obtain ⟨x3, hx3, hm2⟩ := bind_some hm2
      obtain ⟨p3, hp3, hrp3⟩ := fix_indexAddr Try.underlying22 sz3 (H.arg ha0) hx3
      obtain ⟨x4, hx4, hm2⟩ := bind_some hm2
      obtain ⟨p4, hp4, hrp4⟩ := fix_indexAddr Try.underlying22 sz3 (H.arg ha1) hx4
      refine W.drawN 8 (fun f => f 27 = (.int .i64 x3) ∧ f 31 = (.int .i64 x4)) fol (by kernel_rfl) ?_ ?_
      ·
       refine PL.of (fun _ w8 _ hx => O.move (v := va0) rfl rfl rfl (WL.nil ⟨rfl, hx⟩)) ?_
       refine PL.of (fun _ w8 _ hx => O.move (v := (.int .i64 (ik1 : Int))) rfl rfl rfl (WL.nil ⟨rfl, hx⟩)) ?_
       refine PL.of (fun _ w8 _ hx => hrp3 rfl rfl rfl rfl (WL.nil ⟨rfl, hx⟩)) ?_
       refine PL.of (fun _ w8 _ hx => by have hp3 := hp3.mono hx; exact O.load sc3 rfl rfl rfl (hp3.flat 0 _ rfl) (WL.nil ⟨rfl, hx⟩)) ?_
       refine PL.of (fun _ w8 _ hx => O.move (v := va1) rfl rfl rfl (WL.nil ⟨rfl, hx⟩)) ?_
       refine PL.of (fun _ w8 _ hx => O.move (v := (.int .i64 (ik1 : Int))) rfl rfl rfl (WL.nil ⟨rfl, hx⟩)) ?_
       refine PL.of (fun _ w8 _ hx => hrp4 rfl rfl rfl rfl (WL.nil ⟨rfl, hx⟩)) ?_
       refine PL.of (fun _ w8 _ hx => by have hp4 := hp4.mono hx; exact O.load sc3 rfl rfl rfl (hp4.flat 0 _ rfl) (WL.nil ⟨rfl, hx⟩)) ?_
       refine PL.nil ?_
       exact ⟨rfl, rfl⟩
      ·
       rintro f w ⟨hf27, hf31⟩ hmd hx
       have H := H.ext hx
       have hp1 := hp1.mono hx
       have hp2 := hp2.mono hx
       have hp3 := hp3.mono hx
       have hp4 := hp4.mono hx
       obtain ⟨u3, rfl⟩ := up2 hf27 hf31
       refine O.lss rfl rfl rfl rfl ?_
       refine O.assign (v := (.bool (decide (x3 < x4)))) rfl rfl rfl ?_
       refine WL.nil ?_
       refine W.ret ?_
       obtain rfl := Option.some.inj hm2
       refine ⟨_, rfl, ?_⟩
       rintro rfl
       have hq : (decide (x3 < x4)) = r0 := Option.some.inj (show some (decide (x3 < x4)) = some r0 from hm)
       subst hq
       exact ends1 Try.results83 rfl ⟨_, rfl, H.base, rfl⟩
     ·
      refine W.cond_false (congrArg Value.bool hc2) ?_
      refine W.skip ?_
      refine W.region ?_
      refine O.add rfl rfl rfl rfl hinck1 ?_
      refine O.move (v := .int .i64 ((ik1 : Int) + 1)) rfl rfl rfl ?_
      refine WL.nil ?_
      obtain rfl := Option.some.inj hm2
      exact ⟨_, rfl, rfl, rangeN_next hdropk1, rfl, rfl, rfl, rfl, H⟩
  ·
   rintro ik1 _ f w ⟨rfl, hdropk1, hf8, hf7, hf0, hf1, H⟩ hfin
   have hltk1 := rangeN_end hdropk1
   obtain ⟨u4, rfl⟩ := up4 hf8 hf7 hf0 hf1
   refine W.seq ?_
   refine W.region ?_
   refine O.lss rfl rfl rfl rfl ?_
   refine WL.nil ?_
   refine W.seq ?_
   refine W.cond_false (congrArg Value.bool (decide_eq_false hltk1)) ?_
   refine W.exit ?_
   obtain rfl : Ctl.next () = o1 := hfin
   refine xT rfl ?_
   exact ⟨rfl, rfl, rfl, H⟩
 ·
  rintro f w ⟨rfl, hf0, hf1, H⟩
  obtain ⟨u5, rfl⟩ := up2 hf0 hf1
  refine W.seq ?_
  refine W.region ?_
  refine O.move (v := va0) rfl rfl rfl ?_
  refine O.lenS Try.underlying22 (H.arg ha0) rfl rfl rfl ?_
  refine O.move (v := va1) rfl rfl rfl ?_
  refine O.lenS Try.underlying22 (H.arg ha1) rfl rfl rfl ?_
  refine O.lss rfl rfl rfl rfl ?_
  refine O.assign (v := (.bool (decide (((a0.length : Nat) : Int) < ((a1.length : Nat) : Int))))) rfl rfl rfl ?_
  refine WL.nil ?_
  refine W.ret ?_
  have hq : (decide (((a0.length : Nat) : Int) < ((a1.length : Nat) : Int))) = r0 := Option.some.inj (show some (decide (((a0.length : Nat) : Int) < ((a1.length : Nat) : Int))) = some r0 from hm)
  subst hq
  exact ends1 Try.results83 rfl ⟨_, rfl, H.base, rfl⟩

set_option maxRecDepth 20000 in
theorem c_noongunref06_Bought {w0 : World} (va0 : Value) (a0 : (List GTrial)) (ha0 : SliceR w0 va0 a0) (va1 : Value) (a1 : (List Int)) (ha1 : SliceR w0 va1 a1) (a2 : Int) {r0 : (List Int)} {r1 : Int} (hm : noongunref06_Bought a0 a1 a2 = some (r0, r1)) :
  Calls Try.prog 45 #[va0, va1, (.int .i64 a2)] w0 (Ret w0 fun w v => ∃ vr0 : Value, v = .tuple #[vr0, (.int .i64 r1)] ∧ OwnR w0 w vr0 3 r0) := by
 unfold noongunref06_Bought at hm
 refine calls_of_W Try.func45 rfl Try.ntmps45 (Nat.le_of_ble_eq_true rfl) ?_
 have H := Inv.start (w := w0)
 refine W.seq ?_
 refine W.region ?_
 have H := H.addNil (α := Int) (E := 3)
 refine O.assign (v := (.slice none 0 0)) rfl rfl rfl ?_
 refine O.assign (v := (.int .i64 0)) rfl rfl rfl ?_
 refine WL.nil ?_
 refine W.seq ?_
 refine W.seq ?_
 refine W.region ?_
 refine O.move (v := va0) rfl rfl rfl ?_
 refine O.lenS Try.underlying62 (H.arg ha0) rfl rfl rfl ?_
 refine O.lss rfl rfl rfl rfl ?_
 refine O.move (v := (.bool (decide (((a0.length : Nat) : Int) < 1)))) rfl rfl rfl ?_
 refine WL.cut 4 (fun f w => f 0 = va0 ∧ f 1 = va1 ∧ f 2 = (.int .i64 a2) ∧ f 26 = .bool ((decide (((a0.length : Nat) : Int) < 1)) || (decide (16 < ((a0.length : Nat) : Int)))) ∧ Inv w0 w [ownI (α := Int) (.slice none 0 0) 3 ([] : List Int)]) ?_ ?_
 ·
  rcases bool_ft (decide (((a0.length : Nat) : Int) < 1)) with hc1 | hc1
  ·
   refine WL.reset (i := 22) (v := .bool false) (congrArg Value.bool hc1) ?_
   refine O.move (v := va0) rfl rfl rfl ?_
   refine O.lenS Try.underlying62 (H.arg ha0) rfl rfl rfl ?_
   refine O.gtr rfl rfl rfl rfl ?_
   refine O.pick_false (v := (.bool (decide (16 < ((a0.length : Nat) : Int))))) rfl rfl rfl rfl ?_
   exact WL.nil ⟨rfl, rfl, rfl, congrArg Value.bool (or_f hc1), H⟩
  ·
   refine WL.reset (i := 22) (v := .bool true) (congrArg Value.bool hc1) ?_
   refine O.skip rfl rfl ?_
   refine O.skip rfl rfl ?_
   refine O.skip rfl rfl ?_
   refine O.pick_true (v := (.bool true)) rfl rfl rfl rfl ?_
   exact WL.nil ⟨rfl, rfl, rfl, congrArg Value.bool (or_t hc1), H⟩
 ·
  rintro f w ⟨hf0, hf1, hf2, hf26, H⟩
  obtain ⟨u1, rfl⟩ := up4 hf0 hf1 hf2 hf26
  refine O.move (v := (.bool ((decide (((a0.length : Nat) : Int) < 1)) || (decide (16 < ((a0.length : Nat) : Int)))))) rfl rfl rfl ?_
  refine WL.cut 6 (fun f w => f 0 = va0 ∧ f 1 = va1 ∧ f 2 = (.int .i64 a2) ∧ f 33 = .bool (((decide (((a0.length : Nat) : Int) < 1)) || (decide (16 < ((a0.length : Nat) : Int)))) || (((a1.length : Nat) : Int) != ((a0.length : Nat) : Int))) ∧ Inv w0 w [ownI (α := Int) (.slice none 0 0) 3 ([] : List Int)]) ?_ ?_
  ·
   rcases bool_ft ((decide (((a0.length : Nat) : Int) < 1)) || (decide (16 < ((a0.length : Nat) : Int)))) with hc2 | hc2
   ·
    refine WL.reset (i := 27) (v := .bool false) (congrArg Value.bool hc2) ?_
    refine O.move (v := va1) rfl rfl rfl ?_
    refine O.lenS Try.underlying22 (H.arg ha1) rfl rfl rfl ?_
    refine O.move (v := va0) rfl rfl rfl ?_
    refine O.lenS Try.underlying62 (H.arg ha0) rfl rfl rfl ?_
    refine O.neq rfl rfl rfl rfl ?_
    refine O.pick_false (v := (.bool (((a1.length : Nat) : Int) != ((a0.length : Nat) : Int)))) rfl rfl rfl rfl ?_
    exact WL.nil ⟨rfl, rfl, rfl, congrArg Value.bool (or_f hc2), H⟩
   ·
    refine WL.reset (i := 27) (v := .bool true) (congrArg Value.bool hc2) ?_
    refine O.skip rfl rfl ?_
    refine O.skip rfl rfl ?_
    refine O.skip rfl rfl ?_
    refine O.skip rfl rfl ?_
    refine O.skip rfl rfl ?_
    refine O.pick_true (v := (.bool true)) rfl rfl rfl rfl ?_
    exact WL.nil ⟨rfl, rfl, rfl, congrArg Value.bool (or_t hc2), H⟩
  ·
   rintro f w ⟨hf0, hf1, hf2, hf33, H⟩
   obtain ⟨u2, rfl⟩ := up4 hf0 hf1 hf2 hf33
   refine O.move (v := (.bool (((decide (((a0.length : Nat) : Int) < 1)) || (decide (16 < ((a0.length : Nat) : Int)))) || (((a1.length : Nat) : Int) != ((a0.length : Nat) : Int))))) rfl rfl rfl ?_
   refine WL.cut 3 (fun f w => f 0 = va0 ∧ f 1 = va1 ∧ f 2 = (.int .i64 a2) ∧ f 37 = .bool ((((decide (((a0.length : Nat) : Int) < 1)) || (decide (16 < ((a0.length : Nat) : Int)))) || (((a1.length : Nat) : Int) != ((a0.length : Nat) : Int))) || (decide (a2 < 0))) ∧ Inv w0 w [ownI (α := Int) (.slice none 0 0) 3 ([] : List Int)]) ?_ ?_
   ·
    rcases bool_ft (((decide (((a0.length : Nat) : Int) < 1)) || (decide (16 < ((a0.length : Nat) : Int)))) || (((a1.length : Nat) : Int) != ((a0.length : Nat) : Int))) with hc3 | hc3
    ·
     refine WL.reset (i := 34) (v := .bool false) (congrArg Value.bool hc3) ?_
     refine O.move (v := (.int .i64 a2)) rfl rfl rfl ?_
     refine O.lss rfl rfl rfl rfl ?_
     refine O.pick_false (v := (.bool (decide (a2 < 0)))) rfl rfl rfl rfl ?_
     exact WL.nil ⟨rfl, rfl, rfl, congrArg Value.bool (or_f hc3), H⟩
    ·
     refine WL.reset (i := 34) (v := .bool true) (congrArg Value.bool hc3) ?_
     refine O.skip rfl rfl ?_
     refine O.skip rfl rfl ?_
     refine O.pick_true (v := (.bool true)) rfl rfl rfl rfl ?_
     exact WL.nil ⟨rfl, rfl, rfl, congrArg Value.bool (or_t hc3), H⟩
   ·
    rintro f w ⟨hf0, hf1, hf2, hf37, H⟩
    obtain ⟨u3, rfl⟩ := up4 hf0 hf1 hf2 hf37
    refine O.move (v := (.bool ((((decide (((a0.length : Nat) : Int) < 1)) || (decide (16 < ((a0.length : Nat) : Int)))) || (((a1.length : Nat) : Int) != ((a0.length : Nat) : Int))) || (decide (a2 < 0))))) rfl rfl rfl ?_
    refine WL.cut 3 (fun f w => f 0 = va0 ∧ f 1 = va1 ∧ f 2 = (.int .i64 a2) ∧ f 41 = .bool (((((decide (((a0.length : Nat) : Int) < 1)) || (decide (16 < ((a0.length : Nat) : Int)))) || (((a1.length : Nat) : Int) != ((a0.length : Nat) : Int))) || (decide (a2 < 0))) || (decide (1000000000 < a2))) ∧ Inv w0 w [ownI (α := Int) (.slice none 0 0) 3 ([] : List Int)]) ?_ ?_
    ·
     rcases bool_ft ((((decide (((a0.length : Nat) : Int) < 1)) || (decide (16 < ((a0.length : Nat) : Int)))) || (((a1.length : Nat) : Int) != ((a0.length : Nat) : Int))) || (decide (a2 < 0))) with hc4 | hc4
     ·
      refine WL.reset (i := 38) (v := .bool false) (congrArg Value.bool hc4) ?_
      refine O.move (v := (.int .i64 a2)) rfl rfl rfl ?_
      refine O.gtr rfl rfl rfl rfl ?_
      refine O.pick_false (v := (.bool (decide (1000000000 < a2)))) rfl rfl rfl rfl ?_
      exact WL.nil ⟨rfl, rfl, rfl, congrArg Value.bool (or_f hc4), H⟩
     ·
      refine WL.reset (i := 38) (v := .bool true) (congrArg Value.bool hc4) ?_
      refine O.skip rfl rfl ?_
      refine O.skip rfl rfl ?_
      refine O.pick_true (v := (.bool true)) rfl rfl rfl rfl ?_
      exact WL.nil ⟨rfl, rfl, rfl, congrArg Value.bool (or_t hc4), H⟩
    ·
     rintro f w ⟨hf0, hf1, hf2, hf41, H⟩
     obtain ⟨u4, rfl⟩ := up4 hf0 hf1 hf2 hf41
     refine WL.nil ?_
     rcases ite_some hm with ⟨hc5, hm⟩ | ⟨hc5, hm⟩
     ·
      refine W.cond_true (congrArg Value.bool hc5) ?_
      refine W.seq ?_
      refine W.region ?_
      have H := H.addNil (α := Int) (E := 3)
      refine O.assign (v := (.slice none 0 0)) rfl rfl rfl ?_
      refine O.assign (v := (.int .i64 7)) rfl rfl rfl ?_
      refine WL.nil ?_
      refine W.ret ?_
      have hq : (([] : List Int), 7) = (r0, r1) := Option.some.inj (show some (([] : List Int), 7) = some (r0, r1) from hm)
      obtain ⟨he0, hq0⟩ := Prod.mk.inj hq; clear hq; subst he0
      subst hq0
      exact ends2 Try.results45 rfl rfl ⟨_, rfl, H.base, ⟨_, rfl, H.ownR 1 rfl⟩⟩
     ·
      refine W.cond_false (congrArg Value.bool hc5) ?_
      refine W.skip ?_
      refine W.seq ?_
      refine W.seq ?_
      refine W.region ?_
      refine O.move (v := va0) rfl rfl rfl ?_
      refine O.lenS Try.underlying62 (H.arg ha0) rfl rfl rfl ?_
      refine O.move (v := (.int .i64 0)) rfl rfl rfl ?_
      refine WL.nil ?_
      obtain ⟨o1, hm1, hm⟩ := bind_some hm
      refine W.via (fun f w => o1 = .next () ∧ f 0 = va0 ∧ f 1 = va1 ∧ f 2 = (.int .i64 a2) ∧ Inv w0 w []) ?_ ?_
      ·
       refine W.block ?_
       have hbdik1 := (H.arg ha0).len_le
       have H := H.keep [] [] rfl (by decide)
       refine W.rangeN (i := 0) hm1 (fun rem ik1 s f w => () = s ∧ (ik1 : Int) + rem = max 0 ((a0.length : Nat) : Int) ∧ f 44 = .int .i64 (ik1 : Int) ∧ f 43 = (.int .i64 ((a0.length : Nat) : Int)) ∧ f 0 = va0 ∧ f 1 = va1 ∧ f 2 = (.int .i64 a2) ∧ f 42 = va0 ∧ Inv w0 w []) ?_ ?_ ?_
       ·
        exact ⟨rfl, rangeN_start, rfl, rfl, rfl, rfl, rfl, rfl, H⟩
       ·
        rintro k ik1 _ st f w ⟨rfl, hdropk1, hf44, hf43, hf0, hf1, hf2, hf42, H⟩ hm2
        have hltk1 := rangeN_lt hdropk1
        obtain ⟨u5, rfl⟩ := up6 hf44 hf43 hf0 hf1 hf2 hf42
        have hinck1 := addI_lt hltk1 hbdik1
        refine W.seq ?_
        refine W.region ?_
        refine O.lss rfl rfl rfl rfl ?_
        refine WL.nil ?_
        refine W.seq ?_
        refine W.cond_true (congrArg Value.bool (decide_eq_true hltk1)) ?_
        refine W.skip ?_
        refine W.seq ?_
        refine W.block ?_
        refine W.seq ?_
        refine W.region ?_
        refine O.move (v := (.int .i64 (ik1 : Int))) rfl rfl rfl ?_
        obtain ⟨x1, hx1, hm2⟩ := bind_some hm2
        obtain ⟨p1, hp1, hrp1⟩ := fix_indexAddr Try.underlying62 sz28 ha0 hx1
        refine hrp1 rfl rfl rfl rfl ?_
        refine O.loadA [(.string x1.Name), (.int .i64 x1.Least), (.int .i64 x1.Greatest), (.int .i64 x1.Leap), (.int .i64 x1.Number)] ag28 rfl rfl rfl rfl ((hp1.mono H.base).flat) ?_
        refine O.alloc [(.string ByteArray.empty), (.int .i64 0), (.int .i64 0), (.int .i64 0), (.int .i64 0)] ze28 H rfl rfl rfl ?_
        intro b1 w1 H hb1
        refine O.assign (v := (.int .i64 (ik1 : Int))) rfl rfl rfl ?_
        refine O.store 0 0 [(.string x1.Name), (.int .i64 x1.Least), (.int .i64 x1.Greatest), (.int .i64 x1.Leap), (.int .i64 x1.Number)] [(.string x1.Name), (.int .i64 x1.Least), (.int .i64 x1.Greatest), (.int .i64 x1.Leap), (.int .i64 x1.Number)] sz28 H rfl rfl rfl rfl rfl rfl ⟨⟨rfl, rfl⟩, rfl⟩ (one_cons rfl (one_cons rfl (one_cons rfl (one_cons rfl (one_cons rfl one_nil))))) ?_
        intro w2 H
        refine WL.nil ?_
        refine W.seq ?_
        refine W.region ?_
        refine O.move (v := va1) rfl rfl rfl ?_
        refine O.move (v := (.int .i64 (ik1 : Int))) rfl rfl rfl ?_
        obtain ⟨x2, hx2, hm2⟩ := bind_some hm2
        obtain ⟨p2, hp2, hrp2⟩ := fix_indexAddr Try.underlying22 sz3 ha1 hx2
        refine hrp2 rfl rfl rfl rfl ?_
        refine O.load sc3 rfl rfl rfl ((hp2.mono H.base).flat 0 _ rfl) ?_
        refine O.lss rfl rfl rfl rfl ?_
        refine O.move (v := (.bool (decide (x2 < 0)))) rfl rfl rfl ?_
        obtain ⟨b2, hm3, hm2⟩ := bind_some hm2
        refine WL.cut 6 (fun f w => f 0 = va0 ∧ f 1 = va1 ∧ f 2 = (.int .i64 a2) ∧ f 9 = (.pointer (some ⟨b1, 0, none⟩)) ∧ f 42 = va0 ∧ f 43 = (.int .i64 ((a0.length : Nat) : Int)) ∧ f 44 = (.int .i64 (ik1 : Int)) ∧ f 60 = .bool b2 ∧ Inv w0 w [boxI b1 28 [(.string x1.Name), (.int .i64 x1.Least), (.int .i64 x1.Greatest), (.int .i64 x1.Leap), (.int .i64 x1.Number)]]) ?_ ?_
        ·
         rcases ite_some hm3 with ⟨hc6, hm3⟩ | ⟨hc6, hm3⟩
         ·
          refine WL.reset (i := 54) (v := .bool true) (congrArg Value.bool hc6) ?_
          refine O.skip rfl rfl ?_
          refine O.skip rfl rfl ?_
          refine O.skip rfl rfl ?_
          refine O.skip rfl rfl ?_
          refine O.skip rfl rfl ?_
          refine O.pick_true (v := (.bool true)) rfl rfl rfl rfl ?_
          refine WL.nil ?_
          have hq : true = b2 := Option.some.inj (show some true = some b2 from hm3)
          subst hq
          exact ⟨rfl, rfl, rfl, rfl, rfl, rfl, rfl, rfl, H⟩
         ·
          refine WL.reset (i := 54) (v := .bool false) (congrArg Value.bool hc6) ?_
          refine O.move (v := va1) rfl rfl rfl ?_
          refine O.move (v := (.int .i64 (ik1 : Int))) rfl rfl rfl ?_
          obtain ⟨x3, hx3, hm3⟩ := bind_some hm3
          obtain ⟨p3, hp3, hrp3⟩ := fix_indexAddr Try.underlying22 sz3 ha1 hx3
          refine hrp3 rfl rfl rfl rfl ?_
          refine O.load sc3 rfl rfl rfl ((hp3.mono H.base).flat 0 _ rfl) ?_
          refine O.gtr rfl rfl rfl rfl ?_
          refine O.pick_false (v := (.bool (decide (1000000 < x3)))) rfl rfl rfl rfl ?_
          refine WL.nil ?_
          have hq : (decide (1000000 < x3)) = b2 := Option.some.inj (show some (decide (1000000 < x3)) = some b2 from hm3)
          subst hq
          exact ⟨rfl, rfl, rfl, rfl, rfl, rfl, rfl, rfl, H⟩
        ·
         rintro f w ⟨hf0, hf1, hf2, hf9, hf42, hf43, hf44, hf60, H⟩
         obtain ⟨u6, rfl⟩ := up8 hf0 hf1 hf2 hf9 hf42 hf43 hf44 hf60
         refine O.move (v := (.bool b2)) rfl rfl rfl ?_
         refine WL.cut 4 (fun f w => f 0 = va0 ∧ f 1 = va1 ∧ f 2 = (.int .i64 a2) ∧ f 9 = (.pointer (some ⟨b1, 0, none⟩)) ∧ f 42 = va0 ∧ f 43 = (.int .i64 ((a0.length : Nat) : Int)) ∧ f 44 = (.int .i64 (ik1 : Int)) ∧ f 65 = .bool (b2 || (decide (x1.Number < 0))) ∧ Inv w0 w [boxI b1 28 [(.string x1.Name), (.int .i64 x1.Least), (.int .i64 x1.Greatest), (.int .i64 x1.Leap), (.int .i64 x1.Number)]]) ?_ ?_
         ·
          rcases bool_ft b2 with hc7 | hc7
          ·
           refine WL.reset (i := 61) (v := .bool false) (congrArg Value.bool hc7) ?_
           refine O.fieldAddr fd28_4 rfl rfl rfl ?_
           refine O.load sc3 rfl rfl rfl (H.cell 0 rfl 4 _ rfl) ?_
           refine O.lss rfl rfl rfl rfl ?_
           refine O.pick_false (v := (.bool (decide (x1.Number < 0)))) rfl rfl rfl rfl ?_
           exact WL.nil ⟨rfl, rfl, rfl, rfl, rfl, rfl, rfl, congrArg Value.bool (or_f hc7), H⟩
          ·
           refine WL.reset (i := 61) (v := .bool true) (congrArg Value.bool hc7) ?_
           refine O.skip rfl rfl ?_
           refine O.skip rfl rfl ?_
           refine O.skip rfl rfl ?_
           refine O.pick_true (v := (.bool true)) rfl rfl rfl rfl ?_
           exact WL.nil ⟨rfl, rfl, rfl, rfl, rfl, rfl, rfl, congrArg Value.bool (or_t hc7), H⟩
         ·
          rintro f w ⟨hf0, hf1, hf2, hf9, hf42, hf43, hf44, hf65, H⟩
          obtain ⟨u7, rfl⟩ := up8 hf0 hf1 hf2 hf9 hf42 hf43 hf44 hf65
          refine O.move (v := (.bool (b2 || (decide (x1.Number < 0))))) rfl rfl rfl ?_
          refine WL.cut 4 (fun f w => f 0 = va0 ∧ f 1 = va1 ∧ f 2 = (.int .i64 a2) ∧ f 42 = va0 ∧ f 43 = (.int .i64 ((a0.length : Nat) : Int)) ∧ f 44 = (.int .i64 (ik1 : Int)) ∧ f 70 = .bool ((b2 || (decide (x1.Number < 0))) || (decide (1000000000000 < x1.Number))) ∧ Inv w0 w [boxI b1 28 [(.string x1.Name), (.int .i64 x1.Least), (.int .i64 x1.Greatest), (.int .i64 x1.Leap), (.int .i64 x1.Number)]]) ?_ ?_
          ·
           rcases bool_ft (b2 || (decide (x1.Number < 0))) with hc8 | hc8
           ·
            refine WL.reset (i := 66) (v := .bool false) (congrArg Value.bool hc8) ?_
            refine O.fieldAddr fd28_4 rfl rfl rfl ?_
            refine O.load sc3 rfl rfl rfl (H.cell 0 rfl 4 _ rfl) ?_
            refine O.gtr rfl rfl rfl rfl ?_
            refine O.pick_false (v := (.bool (decide (1000000000000 < x1.Number)))) rfl rfl rfl rfl ?_
            exact WL.nil ⟨rfl, rfl, rfl, rfl, rfl, rfl, congrArg Value.bool (or_f hc8), H⟩
           ·
            refine WL.reset (i := 66) (v := .bool true) (congrArg Value.bool hc8) ?_
            refine O.skip rfl rfl ?_
            refine O.skip rfl rfl ?_
            refine O.skip rfl rfl ?_
            refine O.pick_true (v := (.bool true)) rfl rfl rfl rfl ?_
            exact WL.nil ⟨rfl, rfl, rfl, rfl, rfl, rfl, congrArg Value.bool (or_t hc8), H⟩
          ·
           rintro f w ⟨hf0, hf1, hf2, hf42, hf43, hf44, hf70, H⟩
           obtain ⟨u8, rfl⟩ := up7 hf0 hf1 hf2 hf42 hf43 hf44 hf70
           refine WL.nil ?_
           rcases ite_some hm2 with ⟨hc9, hm2⟩ | ⟨hc9, hm2⟩
           ·
            refine W.cond_true (congrArg Value.bool hc9) ?_
            refine W.seq ?_
            refine W.region ?_
            have H := H.addNil (α := Int) (E := 3)
            refine O.assign (v := (.slice none 0 0)) rfl rfl rfl ?_
            refine O.assign (v := (.int .i64 7)) rfl rfl rfl ?_
            refine WL.nil ?_
            refine W.ret ?_
            obtain rfl := Option.some.inj hm2
            refine ⟨_, rfl, ?_⟩
            rintro rfl
            have hq : (([] : List Int), 7) = (r0, r1) := Option.some.inj (show some (([] : List Int), 7) = some (r0, r1) from hm)
            obtain ⟨he0, hq0⟩ := Prod.mk.inj hq; clear hq; subst he0
            subst hq0
            exact ends2 Try.results45 rfl rfl ⟨_, rfl, H.base, ⟨_, rfl, H.ownR 1 rfl⟩⟩
           ·
            refine W.cond_false (congrArg Value.bool hc9) ?_
            refine W.skip ?_
            refine W.region ?_
            refine O.add rfl rfl rfl rfl hinck1 ?_
            refine O.move (v := .int .i64 ((ik1 : Int) + 1)) rfl rfl rfl ?_
            refine WL.nil ?_
            have H := H.keep [] [] rfl (by decide)
            obtain rfl := Option.some.inj hm2
            exact ⟨_, rfl, rfl, rangeN_next hdropk1, rfl, rfl, rfl, rfl, rfl, rfl, H⟩
       ·
        rintro ik1 _ f w ⟨rfl, hdropk1, hf44, hf43, hf0, hf1, hf2, hf42, H⟩ hfin
        have hltk1 := rangeN_end hdropk1
        obtain ⟨u9, rfl⟩ := up6 hf44 hf43 hf0 hf1 hf2 hf42
        refine W.seq ?_
        refine W.region ?_
        refine O.lss rfl rfl rfl rfl ?_
        refine WL.nil ?_
        refine W.seq ?_
        refine W.cond_false (congrArg Value.bool (decide_eq_false hltk1)) ?_
        refine W.exit ?_
        obtain rfl : Ctl.next () = o1 := hfin
        refine xT rfl ?_
        exact ⟨rfl, rfl, rfl, rfl, H⟩
      ·
       rintro f w ⟨rfl, hf0, hf1, hf2, H⟩
       obtain ⟨u10, rfl⟩ := up3 hf0 hf1 hf2
       refine W.seq ?_
       refine W.region ?_
       have H := H.addNil (α := Int) (E := 3)
       refine O.assign (v := (.slice none 0 0)) rfl rfl rfl ?_
       refine WL.nil ?_
       refine W.seq ?_
       refine W.region ?_
       refine O.assign (v := (.int .i64 0)) rfl rfl rfl ?_
       refine WL.nil ?_
       refine W.seq ?_
       refine W.seq ?_
       refine W.region ?_
       refine O.move (v := va0) rfl rfl rfl ?_
       refine O.lenS Try.underlying62 (H.arg ha0) rfl rfl rfl ?_
       obtain ⟨t1, ht1, hm⟩ := bind_some hm
       refine O.shl rfl rfl rfl rfl ht1 ?_
       refine O.move (v := (.int .i64 0)) rfl rfl rfl ?_
       refine WL.nil ?_
       obtain ⟨s1, hm4, hm⟩ := bind_some hm
       refine W.via (fun f w => ∃ v4 : Value, f 10 = v4 ∧ Inv w0 w [ownI (α := Int) v4 3 s1]) ?_ ?_
       ·
        refine W.block ?_
        obtain ⟨hbdik2, hm4⟩ := chk_some hm4
        refine W.rangeN (i := 0) hm4 (fun rem ik2 s f w => ∃ z3 : Int, ∃ z4 : (List Int), ∃ v2 : Value, (z3, z4) = s ∧ (ik2 : Int) + rem = max 0 t1 ∧ f 75 = .int .i64 (ik2 : Int) ∧ f 74 = (.int .i64 t1) ∧ f 0 = va0 ∧ f 1 = va1 ∧ f 2 = (.int .i64 a2) ∧ f 10 = v2 ∧ f 11 = (.int .i64 z3) ∧ Inv w0 w [ownI (α := Int) v2 3 z4]) ?_ ?_ ?_
        ·
         exact ⟨_, _, (.slice none 0 0), rfl, rangeN_start, rfl, rfl, rfl, rfl, rfl, rfl, rfl, H⟩
        ·
         rintro k ik2 _ st f w ⟨z3, z4, v2, rfl, hdropk2, hf75, hf74, hf0, hf1, hf2, hf10, hf11, H⟩ hm5
         have hltk2 := rangeN_lt hdropk2
         obtain ⟨u11, rfl⟩ := up7 hf75 hf74 hf0 hf1 hf2 hf10 hf11
         have hinck2 := addI_lt hltk2 (inI_iff.1 hbdik2).2
         refine W.seq ?_
         refine W.region ?_
         refine O.lss rfl rfl rfl rfl ?_
         refine WL.nil ?_
         refine W.seq ?_
         refine W.cond_true (congrArg Value.bool (decide_eq_true hltk2)) ?_
         refine W.skip ?_
         refine W.seq ?_
         obtain ⟨⟨s2, s3⟩, hm6, hm5⟩ := bind_some hm5
         refine W.via (fun f w => ∃ v5 : Value, f 0 = va0 ∧ f 1 = va1 ∧ f 2 = (.int .i64 a2) ∧ f 10 = v5 ∧ f 11 = (.int .i64 s2) ∧ f 74 = (.int .i64 t1) ∧ f 75 = (.int .i64 (ik2 : Int)) ∧ Inv w0 w [ownI (α := Int) v5 3 s3]) ?_ ?_
         ·
          refine W.block ?_
          refine W.seq ?_
          refine W.region ?_
          refine O.move (v := (.int .i64 (ik2 : Int))) rfl rfl rfl ?_
          refine O.assign (v := (.int .i64 (ik2 : Int))) rfl rfl rfl ?_
          refine WL.nil ?_
          refine W.seq ?_
          refine W.region ?_
          have H := H.addNil (α := Int) (E := 3)
          refine O.assign (v := (.slice none 0 0)) rfl rfl rfl ?_
          refine WL.nil ?_
          refine W.seq ?_
          refine W.region ?_
          refine O.assign (v := (.int .i64 0)) rfl rfl rfl ?_
          refine O.assign (v := (.int .i64 0)) rfl rfl rfl ?_
          refine WL.nil ?_
          refine W.seq ?_
          refine W.seq ?_
          refine W.region ?_
          refine O.move (v := va0) rfl rfl rfl ?_
          refine O.lenS Try.underlying62 (H.arg ha0) rfl rfl rfl ?_
          refine O.move (v := (.int .i64 0)) rfl rfl rfl ?_
          refine WL.nil ?_
          obtain ⟨⟨s4, s5, s6⟩, hm7, hm6⟩ := bind_some hm6
          refine W.via (fun f w => ∃ v9 : Value, f 0 = va0 ∧ f 1 = va1 ∧ f 2 = (.int .i64 a2) ∧ f 10 = v2 ∧ f 11 = (.int .i64 z3) ∧ f 13 = v9 ∧ f 14 = (.int .i64 s4) ∧ f 15 = (.int .i64 s5) ∧ f 74 = (.int .i64 t1) ∧ f 75 = (.int .i64 (ik2 : Int)) ∧ Inv w0 w [ownI (α := Int) v2 3 z4, ownI (α := Int) v9 3 s6]) ?_ ?_
          ·
           refine W.block ?_
           have hbdik3 := (H.arg ha0).len_le
           refine W.rangeN (i := 0) hm7 (fun rem ik3 s f w => ∃ z10 : Int, ∃ z11 : Int, ∃ z12 : (List Int), ∃ v7 : Value, (z10, z11, z12) = s ∧ (ik3 : Int) + rem = max 0 ((a0.length : Nat) : Int) ∧ f 80 = .int .i64 (ik3 : Int) ∧ f 79 = (.int .i64 ((a0.length : Nat) : Int)) ∧ f 0 = va0 ∧ f 1 = va1 ∧ f 2 = (.int .i64 a2) ∧ f 10 = v2 ∧ f 11 = (.int .i64 z3) ∧ f 12 = (.int .i64 (ik2 : Int)) ∧ f 13 = v7 ∧ f 14 = (.int .i64 z10) ∧ f 15 = (.int .i64 z11) ∧ f 74 = (.int .i64 t1) ∧ f 75 = (.int .i64 (ik2 : Int)) ∧ f 78 = va0 ∧ Inv w0 w [ownI (α := Int) v2 3 z4, ownI (α := Int) v7 3 z12]) ?_ ?_ ?_
           ·
            exact ⟨_, _, _, (.slice none 0 0), rfl, rangeN_start, rfl, rfl, rfl, rfl, rfl, rfl, rfl, rfl, rfl, rfl, rfl, rfl, rfl, rfl, H⟩
           ·
            rintro k ik3 _ st f w ⟨z10, z11, z12, v7, rfl, hdropk3, hf80, hf79, hf0, hf1, hf2, hf10, hf11, hf12, hf13, hf14, hf15, hf74, hf75, hf78, H⟩ hm8
            have hltk3 := rangeN_lt hdropk3
            obtain ⟨u12, rfl⟩ : ∃ u12, f = (upd (upd (upd (upd (upd (upd (upd (upd (upd (upd (upd (upd (upd (upd u12 80 (.int .i64 (ik3 : Int))) 79 (.int .i64 ((a0.length : Nat) : Int))) 0 va0) 1 va1) 2 (.int .i64 a2)) 10 v2) 11 (.int .i64 z3)) 12 (.int .i64 (ik2 : Int))) 13 v7) 14 (.int .i64 z10)) 15 (.int .i64 z11)) 74 (.int .i64 t1)) 75 (.int .i64 (ik2 : Int))) 78 va0) := ⟨f, by rw [upd_self hf80, upd_self hf79, upd_self hf0, upd_self hf1, upd_self hf2, upd_self hf10, upd_self hf11, upd_self hf12, upd_self hf13, upd_self hf14, upd_self hf15, upd_self hf74, upd_self hf75, upd_self hf78]⟩
            have hinck3 := addI_lt hltk3 hbdik3
            refine W.seq ?_
            refine W.region ?_
            refine O.lss rfl rfl rfl rfl ?_
            refine WL.nil ?_
            refine W.seq ?_
            refine W.cond_true (congrArg Value.bool (decide_eq_true hltk3)) ?_
            refine W.skip ?_
            refine W.seq ?_
            obtain ⟨⟨s7, s8, s9⟩, hm9, hm8⟩ := bind_some hm8
            refine W.via (fun f w => ∃ v10 : Value, f 0 = va0 ∧ f 1 = va1 ∧ f 2 = (.int .i64 a2) ∧ f 10 = v2 ∧ f 11 = (.int .i64 z3) ∧ f 12 = (.int .i64 (ik2 : Int)) ∧ f 13 = v10 ∧ f 14 = (.int .i64 s7) ∧ f 15 = (.int .i64 s8) ∧ f 74 = (.int .i64 t1) ∧ f 75 = (.int .i64 (ik2 : Int)) ∧ f 78 = va0 ∧ f 79 = (.int .i64 ((a0.length : Nat) : Int)) ∧ f 80 = (.int .i64 (ik3 : Int)) ∧ Inv w0 w [ownI (α := Int) v2 3 z4, ownI (α := Int) v10 3 s9]) ?_ ?_
            ·
             refine W.block ?_
             refine W.seq ?_
             refine W.region ?_
             refine O.move (v := (.int .i64 (ik3 : Int))) rfl rfl rfl ?_
             obtain ⟨x4, hx4, hm9⟩ := bind_some hm9
             obtain ⟨p4, hp4, hrp4⟩ := fix_indexAddr Try.underlying62 sz28 ha0 hx4
             refine hrp4 rfl rfl rfl rfl ?_
             refine O.loadA [(.string x4.Name), (.int .i64 x4.Least), (.int .i64 x4.Greatest), (.int .i64 x4.Leap), (.int .i64 x4.Number)] ag28 rfl rfl rfl rfl ((hp4.mono H.base).flat) ?_
             refine O.alloc [(.string ByteArray.empty), (.int .i64 0), (.int .i64 0), (.int .i64 0), (.int .i64 0)] ze28 H rfl rfl rfl ?_
             intro b3 w3 H hb2
             refine O.assign (v := (.int .i64 (ik3 : Int))) rfl rfl rfl ?_
             refine O.store 2 0 [(.string x4.Name), (.int .i64 x4.Least), (.int .i64 x4.Greatest), (.int .i64 x4.Leap), (.int .i64 x4.Number)] [(.string x4.Name), (.int .i64 x4.Least), (.int .i64 x4.Greatest), (.int .i64 x4.Leap), (.int .i64 x4.Number)] sz28 H rfl rfl rfl rfl rfl rfl ⟨⟨rfl, rfl⟩, rfl⟩ (one_cons rfl (one_cons rfl (one_cons rfl (one_cons rfl (one_cons rfl one_nil))))) ?_
             intro w4 H
             refine WL.nil ?_
             refine W.seq ?_
             refine W.region ?_
             refine O.move (v := (.int .i64 (ik2 : Int))) rfl rfl rfl ?_
             refine O.move (v := (.int .i64 (ik3 : Int))) rfl rfl rfl ?_
             obtain ⟨t2, ht2, hm9⟩ := bind_some hm9
             refine O.shr rfl rfl rfl rfl ht2 ?_
             refine O.and rfl rfl rfl rfl ?_
             refine O.eql rfl rfl rfl rfl ?_
             refine WL.nil ?_
             obtain ⟨⟨s10, s11, s12⟩, hm10, hm9⟩ := bind_some hm9
             refine W.via (fun f w => ∃ v11 : Value, f 0 = va0 ∧ f 1 = va1 ∧ f 2 = (.int .i64 a2) ∧ f 10 = v2 ∧ f 11 = (.int .i64 z3) ∧ f 12 = (.int .i64 (ik2 : Int)) ∧ f 13 = v11 ∧ f 14 = (.int .i64 s10) ∧ f 15 = (.int .i64 s11) ∧ f 74 = (.int .i64 t1) ∧ f 75 = (.int .i64 (ik2 : Int)) ∧ f 78 = va0 ∧ f 79 = (.int .i64 ((a0.length : Nat) : Int)) ∧ f 80 = (.int .i64 (ik3 : Int)) ∧ Inv w0 w [ownI (α := Int) v2 3 z4, ownI (α := Int) v11 3 s12]) ?_ ?_
             ·
              rcases ite_some hm10 with ⟨hc10, hm10⟩ | ⟨hc10, hm10⟩
              ·
               refine W.cond_true (congrArg Value.bool hc10) ?_
               refine W.seq ?_
               refine W.region ?_
               refine O.move (v := v7) rfl rfl rfl ?_
               refine O.move (v := (.int .i64 (ik3 : Int))) rfl rfl rfl ?_
               refine O.buildSlice (α := Int) [(.int .i64 (ik3 : Int))] [(ik3 : Int)] Try.underlying22 el3 H rfl rfl rfl rfl rfl rfl rfl ?_
               intro v12 w5 H hb3
               obtain ⟨t3, ht3, hm10⟩ := bind_some hm10
               refine O.append 1 Try.underlying22 el3 rfl H rfl (H.own 3 rfl) ht3 rfl rfl rfl rfl ?_
               intro v13 w6 H
               refine O.assign (v := v13) rfl rfl rfl ?_
               refine WL.nil ?_
               refine W.seq ?_
               refine W.region ?_
               refine O.move (v := (.int .i64 z10)) rfl rfl rfl ?_
               refine O.move (v := va1) rfl rfl rfl ?_
               refine O.move (v := (.int .i64 (ik3 : Int))) rfl rfl rfl ?_
               obtain ⟨x5, hx5, hm10⟩ := bind_some hm10
               obtain ⟨p5, hp5, hrp5⟩ := fix_indexAddr Try.underlying22 sz3 ha1 hx5
               refine hrp5 rfl rfl rfl rfl ?_
               refine O.load sc3 rfl rfl rfl ((hp5.mono H.base).flat 0 _ rfl) ?_
               obtain ⟨t4, ht4, hm10⟩ := bind_some hm10
               refine O.add rfl rfl rfl rfl ht4 ?_
               refine O.assign (v := (.int .i64 t4)) rfl rfl rfl ?_
               refine WL.nil ?_
               refine W.region ?_
               refine O.move (v := (.int .i64 z11)) rfl rfl rfl ?_
               refine O.fieldAddr fd28_4 rfl rfl rfl ?_
               refine O.load sc3 rfl rfl rfl (H.cell 2 rfl 4 _ rfl) ?_
               obtain ⟨t5, ht5, hm10⟩ := bind_some hm10
               refine O.add rfl rfl rfl rfl ht5 ?_
               refine O.assign (v := (.int .i64 t5)) rfl rfl rfl ?_
               refine WL.nil ?_
               have H := H.keep [0, 1] [ownI (α := Int) v2 3 z4, ownI (α := Int) v13 3 t3] rfl (by decide)
               have hq : (t4, t5, t3) = (s10, s11, s12) := Option.some.inj (show some (t4, t5, t3) = some (s10, s11, s12) from hm10)
               obtain ⟨he0, hq0⟩ := Prod.mk.inj hq; clear hq; subst he0
               obtain ⟨he1, hq1⟩ := Prod.mk.inj hq0; clear hq0; subst he1
               subst hq1
               exact ⟨v13, rfl, rfl, rfl, rfl, rfl, rfl, rfl, rfl, rfl, rfl, rfl, rfl, rfl, rfl, H⟩
              ·
               refine W.cond_false (congrArg Value.bool hc10) ?_
               refine W.skip ?_
               have H := H.keep [0, 1] [ownI (α := Int) v2 3 z4, ownI (α := Int) v7 3 z12] rfl (by decide)
               have hq : (z10, z11, z12) = (s10, s11, s12) := Option.some.inj (show some (z10, z11, z12) = some (s10, s11, s12) from hm10)
               obtain ⟨he0, hq0⟩ := Prod.mk.inj hq; clear hq; subst he0
               obtain ⟨he1, hq1⟩ := Prod.mk.inj hq0; clear hq0; subst he1
               subst hq1
               exact ⟨v7, rfl, rfl, rfl, rfl, rfl, rfl, rfl, rfl, rfl, rfl, rfl, rfl, rfl, rfl, H⟩
             ·
              rintro f w ⟨v11, hf0, hf1, hf2, hf10, hf11, hf12, hf13, hf14, hf15, hf74, hf75, hf78, hf79, hf80, H⟩
              obtain ⟨u13, rfl⟩ : ∃ u13, f = (upd (upd (upd (upd (upd (upd (upd (upd (upd (upd (upd (upd (upd (upd u13 0 va0) 1 va1) 2 (.int .i64 a2)) 10 v2) 11 (.int .i64 z3)) 12 (.int .i64 (ik2 : Int))) 13 v11) 14 (.int .i64 s10)) 15 (.int .i64 s11)) 74 (.int .i64 t1)) 75 (.int .i64 (ik2 : Int))) 78 va0) 79 (.int .i64 ((a0.length : Nat) : Int))) 80 (.int .i64 (ik3 : Int))) := ⟨f, by rw [upd_self hf0, upd_self hf1, upd_self hf2, upd_self hf10, upd_self hf11, upd_self hf12, upd_self hf13, upd_self hf14, upd_self hf15, upd_self hf74, upd_self hf75, upd_self hf78, upd_self hf79, upd_self hf80]⟩
              have hq : (s10, s11, s12) = (s7, s8, s9) := Option.some.inj (show some (s10, s11, s12) = some (s7, s8, s9) from hm9)
              obtain ⟨he0, hq0⟩ := Prod.mk.inj hq; clear hq; subst he0
              obtain ⟨he1, hq1⟩ := Prod.mk.inj hq0; clear hq0; subst he1
              subst hq1
              exact ⟨v11, rfl, rfl, rfl, rfl, rfl, rfl, rfl, rfl, rfl, rfl, rfl, rfl, rfl, rfl, H⟩
            ·
             rintro f w ⟨v10, hf0, hf1, hf2, hf10, hf11, hf12, hf13, hf14, hf15, hf74, hf75, hf78, hf79, hf80, H⟩
             obtain ⟨u14, rfl⟩ : ∃ u14, f = (upd (upd (upd (upd (upd (upd (upd (upd (upd (upd (upd (upd (upd (upd u14 0 va0) 1 va1) 2 (.int .i64 a2)) 10 v2) 11 (.int .i64 z3)) 12 (.int .i64 (ik2 : Int))) 13 v10) 14 (.int .i64 s7)) 15 (.int .i64 s8)) 74 (.int .i64 t1)) 75 (.int .i64 (ik2 : Int))) 78 va0) 79 (.int .i64 ((a0.length : Nat) : Int))) 80 (.int .i64 (ik3 : Int))) := ⟨f, by rw [upd_self hf0, upd_self hf1, upd_self hf2, upd_self hf10, upd_self hf11, upd_self hf12, upd_self hf13, upd_self hf14, upd_self hf15, upd_self hf74, upd_self hf75, upd_self hf78, upd_self hf79, upd_self hf80]⟩
             refine W.region ?_
             refine O.add rfl rfl rfl rfl hinck3 ?_
             refine O.move (v := .int .i64 ((ik3 : Int) + 1)) rfl rfl rfl ?_
             refine WL.nil ?_
             obtain rfl := Option.some.inj hm8
             exact ⟨_, rfl, _, _, _, v10, rfl, rangeN_next hdropk3, rfl, rfl, rfl, rfl, rfl, rfl, rfl, rfl, rfl, rfl, rfl, rfl, rfl, rfl, H⟩
           ·
            rintro ik3 _ f w ⟨z10, z11, z12, v7, rfl, hdropk3, hf80, hf79, hf0, hf1, hf2, hf10, hf11, hf12, hf13, hf14, hf15, hf74, hf75, hf78, H⟩ hfin
            have hltk3 := rangeN_end hdropk3
            obtain ⟨u15, rfl⟩ : ∃ u15, f = (upd (upd (upd (upd (upd (upd (upd (upd (upd (upd (upd (upd (upd (upd u15 80 (.int .i64 (ik3 : Int))) 79 (.int .i64 ((a0.length : Nat) : Int))) 0 va0) 1 va1) 2 (.int .i64 a2)) 10 v2) 11 (.int .i64 z3)) 12 (.int .i64 (ik2 : Int))) 13 v7) 14 (.int .i64 z10)) 15 (.int .i64 z11)) 74 (.int .i64 t1)) 75 (.int .i64 (ik2 : Int))) 78 va0) := ⟨f, by rw [upd_self hf80, upd_self hf79, upd_self hf0, upd_self hf1, upd_self hf2, upd_self hf10, upd_self hf11, upd_self hf12, upd_self hf13, upd_self hf14, upd_self hf15, upd_self hf74, upd_self hf75, upd_self hf78]⟩
            refine W.seq ?_
            refine W.region ?_
            refine O.lss rfl rfl rfl rfl ?_
            refine WL.nil ?_
            refine W.seq ?_
            refine W.cond_false (congrArg Value.bool (decide_eq_false hltk3)) ?_
            refine W.exit ?_
            have hq : (z10, z11, z12) = (s4, s5, s6) := hfin
            obtain ⟨he0, hq0⟩ := Prod.mk.inj hq; clear hq; subst he0
            obtain ⟨he1, hq1⟩ := Prod.mk.inj hq0; clear hq0; subst he1
            subst hq1
            refine xT rfl ?_
            exact ⟨v7, rfl, rfl, rfl, rfl, rfl, rfl, rfl, rfl, rfl, rfl, H⟩
          ·
           rintro f w ⟨v9, hf0, hf1, hf2, hf10, hf11, hf13, hf14, hf15, hf74, hf75, H⟩
           obtain ⟨u16, rfl⟩ : ∃ u16, f = (upd (upd (upd (upd (upd (upd (upd (upd (upd (upd u16 0 va0) 1 va1) 2 (.int .i64 a2)) 10 v2) 11 (.int .i64 z3)) 13 v9) 14 (.int .i64 s4)) 15 (.int .i64 s5)) 74 (.int .i64 t1)) 75 (.int .i64 (ik2 : Int))) := ⟨f, by rw [upd_self hf0, upd_self hf1, upd_self hf2, upd_self hf10, upd_self hf11, upd_self hf13, upd_self hf14, upd_self hf15, upd_self hf74, upd_self hf75]⟩
           refine W.seq ?_
           refine W.region ?_
           refine O.move (v := v9) rfl rfl rfl ?_
           refine O.lenS Try.underlying22 (H.own 1 rfl) rfl rfl rfl ?_
           refine O.move (v := v2) rfl rfl rfl ?_
           refine O.lenS Try.underlying22 (H.own 0 rfl) rfl rfl rfl ?_
           refine O.gtr rfl rfl rfl rfl ?_
           refine O.move (v := (.bool (decide (((z4.length : Nat) : Int) < ((s6.length : Nat) : Int))))) rfl rfl rfl ?_
           obtain ⟨b4, hm11, hm6⟩ := bind_some hm6
           refine WL.cut 21 (fun f w => f 0 = va0 ∧ f 1 = va1 ∧ f 2 = (.int .i64 a2) ∧ f 10 = v2 ∧ f 11 = (.int .i64 z3) ∧ f 13 = v9 ∧ f 14 = (.int .i64 s4) ∧ f 15 = (.int .i64 s5) ∧ f 74 = (.int .i64 t1) ∧ f 75 = (.int .i64 (ik2 : Int)) ∧ f 131 = .bool b4 ∧ Inv w0 w [ownI (α := Int) v2 3 z4, ownI (α := Int) v9 3 s6]) ?_ ?_
           ·
            rcases ite_some hm11 with ⟨hc11, hm11⟩ | ⟨hc11, hm11⟩
            ·
             refine WL.reset (i := 110) (v := .bool true) (congrArg Value.bool hc11) ?_
             refine O.skip rfl rfl ?_
             refine O.skip rfl rfl ?_
             refine O.skip rfl rfl ?_
             refine O.skip rfl rfl ?_
             refine O.skip rfl rfl ?_
             refine O.skip rfl rfl ?_
             refine O.skip rfl rfl ?_
             refine O.skip rfl rfl ?_
             refine O.skip rfl rfl ?_
             refine O.skip rfl rfl ?_
             refine O.skip rfl rfl ?_
             refine O.skip rfl rfl ?_
             refine O.skip rfl rfl ?_
             refine O.skip rfl rfl ?_
             refine O.skip rfl rfl ?_
             refine O.skip rfl rfl ?_
             refine O.skip rfl rfl ?_
             refine O.skip rfl rfl ?_
             refine O.skip rfl rfl ?_
             refine O.skip rfl rfl ?_
             refine O.pick_true (v := (.bool true)) rfl rfl rfl rfl ?_
             refine WL.nil ?_
             have hq : true = b4 := Option.some.inj (show some true = some b4 from hm11)
             subst hq
             exact ⟨rfl, rfl, rfl, rfl, rfl, rfl, rfl, rfl, rfl, rfl, rfl, H⟩
            ·
             refine WL.reset (i := 110) (v := .bool false) (congrArg Value.bool hc11) ?_
             refine O.move (v := v9) rfl rfl rfl ?_
             refine O.lenS Try.underlying22 (H.own 1 rfl) rfl rfl rfl ?_
             refine O.move (v := v2) rfl rfl rfl ?_
             refine O.lenS Try.underlying22 (H.own 0 rfl) rfl rfl rfl ?_
             refine O.eql rfl rfl rfl rfl ?_
             refine O.move (v := (.bool (((s6.length : Nat) : Int) == ((z4.length : Nat) : Int)))) rfl rfl rfl ?_
             obtain ⟨b5, hm12, hm11⟩ := bind_some hm11
             refine WL.cut 14 (fun f w => f 0 = va0 ∧ f 1 = va1 ∧ f 2 = (.int .i64 a2) ∧ f 10 = v2 ∧ f 11 = (.int .i64 z3) ∧ f 13 = v9 ∧ f 14 = (.int .i64 s4) ∧ f 15 = (.int .i64 s5) ∧ f 74 = (.int .i64 t1) ∧ f 75 = (.int .i64 (ik2 : Int)) ∧ f 110 = (.bool false) ∧ f 111 = v9 ∧ f 112 = (.int .i64 ((s6.length : Nat) : Int)) ∧ f 113 = v2 ∧ f 114 = (.int .i64 ((z4.length : Nat) : Int)) ∧ f 115 = (.bool (((s6.length : Nat) : Int) == ((z4.length : Nat) : Int))) ∧ f 116 = (.bool (((s6.length : Nat) : Int) == ((z4.length : Nat) : Int))) ∧ f 130 = .bool b5 ∧ Inv w0 w [ownI (α := Int) v2 3 z4, ownI (α := Int) v9 3 s6]) ?_ ?_
             ·
              rcases ite_some hm12 with ⟨hc12, hm12⟩ | ⟨hc12, hm12⟩
              ·
               refine WL.reset (i := 116) (v := .bool true) (congrArg Value.bool hc12) ?_
               refine O.move (v := (.int .i64 s5)) rfl rfl rfl ?_
               refine O.move (v := (.int .i64 z3)) rfl rfl rfl ?_
               refine O.lss rfl rfl rfl rfl ?_
               refine O.move (v := (.bool (decide (s5 < z3)))) rfl rfl rfl ?_
               obtain ⟨b6, hm13, hm12⟩ := bind_some hm12
               refine WL.cut 9 (fun f w => f 0 = va0 ∧ f 1 = va1 ∧ f 2 = (.int .i64 a2) ∧ f 10 = v2 ∧ f 11 = (.int .i64 z3) ∧ f 13 = v9 ∧ f 14 = (.int .i64 s4) ∧ f 15 = (.int .i64 s5) ∧ f 74 = (.int .i64 t1) ∧ f 75 = (.int .i64 (ik2 : Int)) ∧ f 110 = (.bool false) ∧ f 111 = v9 ∧ f 112 = (.int .i64 ((s6.length : Nat) : Int)) ∧ f 113 = v2 ∧ f 114 = (.int .i64 ((z4.length : Nat) : Int)) ∧ f 115 = (.bool (((s6.length : Nat) : Int) == ((z4.length : Nat) : Int))) ∧ f 116 = (.bool true) ∧ f 117 = (.int .i64 s5) ∧ f 118 = (.int .i64 z3) ∧ f 119 = (.bool (decide (s5 < z3))) ∧ f 120 = (.bool (decide (s5 < z3))) ∧ f 129 = .bool b6 ∧ Inv w0 w [ownI (α := Int) v2 3 z4, ownI (α := Int) v9 3 s6]) ?_ ?_
               ·
                rcases ite_some hm13 with ⟨hc13, hm13⟩ | ⟨hc13, hm13⟩
                ·
                 refine WL.reset (i := 120) (v := .bool true) (congrArg Value.bool hc13) ?_
                 refine O.skip rfl rfl ?_
                 refine O.skip rfl rfl ?_
                 refine O.skip rfl rfl ?_
                 refine O.skip rfl rfl ?_
                 refine O.skip rfl rfl ?_
                 refine O.skip rfl rfl ?_
                 refine O.skip rfl rfl ?_
                 refine O.skip rfl rfl ?_
                 refine O.pick_true (v := (.bool true)) rfl rfl rfl rfl ?_
                 refine WL.nil ?_
                 have hq : true = b6 := Option.some.inj (show some true = some b6 from hm13)
                 subst hq
                 exact ⟨rfl, rfl, rfl, rfl, rfl, rfl, rfl, rfl, rfl, rfl, rfl, rfl, rfl, rfl, rfl, rfl, rfl, rfl, rfl, rfl, (congrArg Value.bool hc13).symm, rfl, H⟩
                ·
                 refine WL.reset (i := 120) (v := .bool false) (congrArg Value.bool hc13) ?_
                 refine O.move (v := (.int .i64 s5)) rfl rfl rfl ?_
                 refine O.move (v := (.int .i64 z3)) rfl rfl rfl ?_
                 refine O.eql rfl rfl rfl rfl ?_
                 refine O.move (v := (.bool (s5 == z3))) rfl rfl rfl ?_
                 obtain ⟨b7, hm14, hm13⟩ := bind_some hm13
                 refine WL.cut 4 (fun f w => f 0 = va0 ∧ f 1 = va1 ∧ f 2 = (.int .i64 a2) ∧ f 10 = v2 ∧ f 11 = (.int .i64 z3) ∧ f 13 = v9 ∧ f 14 = (.int .i64 s4) ∧ f 15 = (.int .i64 s5) ∧ f 74 = (.int .i64 t1) ∧ f 75 = (.int .i64 (ik2 : Int)) ∧ f 110 = (.bool false) ∧ f 111 = v9 ∧ f 112 = (.int .i64 ((s6.length : Nat) : Int)) ∧ f 113 = v2 ∧ f 114 = (.int .i64 ((z4.length : Nat) : Int)) ∧ f 115 = (.bool (((s6.length : Nat) : Int) == ((z4.length : Nat) : Int))) ∧ f 116 = (.bool true) ∧ f 117 = (.int .i64 s5) ∧ f 118 = (.int .i64 z3) ∧ f 119 = (.bool (decide (s5 < z3))) ∧ f 120 = (.bool false) ∧ f 121 = (.int .i64 s5) ∧ f 122 = (.int .i64 z3) ∧ f 123 = (.bool (s5 == z3)) ∧ f 124 = (.bool (s5 == z3)) ∧ f 128 = .bool b7 ∧ Inv w0 w [ownI (α := Int) v2 3 z4, ownI (α := Int) v9 3 s6]) ?_ ?_
                 ·
                  rcases ite_some hm14 with ⟨hc14, hm14⟩ | ⟨hc14, hm14⟩
                  ·
                   refine WL.reset (i := 124) (v := .bool true) (congrArg Value.bool hc14) ?_
                   refine O.move (v := v9) rfl rfl rfl ?_
                   refine O.move (v := v2) rfl rfl rfl ?_
                   obtain ⟨t6, hy1, hm14⟩ := bind_some hm14
                   refine O.call Try.call83 rfl rfl rfl (c_noongunref06_before _ _ (H.own 1 rfl) _ _ (H.own 0 rfl) hy1) ?_
                   rintro _ w7 hb4 rfl
                   have H := H.ext hb4
                   refine O.pick_true (v := (.bool t6)) rfl rfl rfl rfl ?_
                   refine WL.nil ?_
                   have hq : t6 = b7 := Option.some.inj (show some t6 = some b7 from hm14)
                   subst hq
                   exact ⟨rfl, rfl, rfl, rfl, rfl, rfl, rfl, rfl, rfl, rfl, rfl, rfl, rfl, rfl, rfl, rfl, rfl, rfl, rfl, rfl, rfl, rfl, rfl, rfl, (congrArg Value.bool hc14).symm, rfl, H⟩
                  ·
                   refine WL.reset (i := 124) (v := .bool false) (congrArg Value.bool hc14) ?_
                   refine O.skip rfl rfl ?_
                   refine O.skip rfl rfl ?_
                   refine O.skip rfl rfl ?_
                   refine O.pick_false (v := (.bool false)) rfl rfl rfl rfl ?_
                   refine WL.nil ?_
                   have hq : false = b7 := Option.some.inj (show some false = some b7 from hm14)
                   subst hq
                   exact ⟨rfl, rfl, rfl, rfl, rfl, rfl, rfl, rfl, rfl, rfl, rfl, rfl, rfl, rfl, rfl, rfl, rfl, rfl, rfl, rfl, rfl, rfl, rfl, rfl, (congrArg Value.bool hc14).symm, rfl, H⟩
                 ·
                  rintro f w ⟨hf0, hf1, hf2, hf10, hf11, hf13, hf14, hf15, hf74, hf75, hf110, hf111, hf112, hf113, hf114, hf115, hf116, hf117, hf118, hf119, hf120, hf121, hf122, hf123, hf124, hf128, H⟩
                  obtain ⟨u17, rfl⟩ : ∃ u17, f = (upd (upd (upd (upd (upd (upd (upd (upd (upd (upd (upd (upd (upd (upd (upd (upd (upd (upd (upd (upd (upd (upd (upd (upd (upd (upd u17 0 va0) 1 va1) 2 (.int .i64 a2)) 10 v2) 11 (.int .i64 z3)) 13 v9) 14 (.int .i64 s4)) 15 (.int .i64 s5)) 74 (.int .i64 t1)) 75 (.int .i64 (ik2 : Int))) 110 (.bool false)) 111 v9) 112 (.int .i64 ((s6.length : Nat) : Int))) 113 v2) 114 (.int .i64 ((z4.length : Nat) : Int))) 115 (.bool (((s6.length : Nat) : Int) == ((z4.length : Nat) : Int)))) 116 (.bool true)) 117 (.int .i64 s5)) 118 (.int .i64 z3)) 119 (.bool (decide (s5 < z3)))) 120 (.bool false)) 121 (.int .i64 s5)) 122 (.int .i64 z3)) 123 (.bool (s5 == z3))) 124 (.bool (s5 == z3))) 128 (.bool b7)) := ⟨f, by rw [upd_self hf0, upd_self hf1, upd_self hf2, upd_self hf10, upd_self hf11, upd_self hf13, upd_self hf14, upd_self hf15, upd_self hf74, upd_self hf75, upd_self hf110, upd_self hf111, upd_self hf112, upd_self hf113, upd_self hf114, upd_self hf115, upd_self hf116, upd_self hf117, upd_self hf118, upd_self hf119, upd_self hf120, upd_self hf121, upd_self hf122, upd_self hf123, upd_self hf124, upd_self hf128]⟩
                  refine O.pick_false (v := (.bool b7)) rfl rfl rfl rfl ?_
                  refine WL.nil ?_
                  have hq : b7 = b6 := Option.some.inj (show some b7 = some b6 from hm13)
                  subst hq
                  exact ⟨rfl, rfl, rfl, rfl, rfl, rfl, rfl, rfl, rfl, rfl, rfl, rfl, rfl, rfl, rfl, rfl, rfl, rfl, rfl, rfl, (congrArg Value.bool hc13).symm, rfl, H⟩
               ·
                rintro f w ⟨hf0, hf1, hf2, hf10, hf11, hf13, hf14, hf15, hf74, hf75, hf110, hf111, hf112, hf113, hf114, hf115, hf116, hf117, hf118, hf119, hf120, hf129, H⟩
                obtain ⟨u18, rfl⟩ : ∃ u18, f = (upd (upd (upd (upd (upd (upd (upd (upd (upd (upd (upd (upd (upd (upd (upd (upd (upd (upd (upd (upd (upd (upd u18 0 va0) 1 va1) 2 (.int .i64 a2)) 10 v2) 11 (.int .i64 z3)) 13 v9) 14 (.int .i64 s4)) 15 (.int .i64 s5)) 74 (.int .i64 t1)) 75 (.int .i64 (ik2 : Int))) 110 (.bool false)) 111 v9) 112 (.int .i64 ((s6.length : Nat) : Int))) 113 v2) 114 (.int .i64 ((z4.length : Nat) : Int))) 115 (.bool (((s6.length : Nat) : Int) == ((z4.length : Nat) : Int)))) 116 (.bool true)) 117 (.int .i64 s5)) 118 (.int .i64 z3)) 119 (.bool (decide (s5 < z3)))) 120 (.bool (decide (s5 < z3)))) 129 (.bool b6)) := ⟨f, by rw [upd_self hf0, upd_self hf1, upd_self hf2, upd_self hf10, upd_self hf11, upd_self hf13, upd_self hf14, upd_self hf15, upd_self hf74, upd_self hf75, upd_self hf110, upd_self hf111, upd_self hf112, upd_self hf113, upd_self hf114, upd_self hf115, upd_self hf116, upd_self hf117, upd_self hf118, upd_self hf119, upd_self hf120, upd_self hf129]⟩
                refine O.pick_true (v := (.bool b6)) rfl rfl rfl rfl ?_
                refine WL.nil ?_
                have hq : b6 = b5 := Option.some.inj (show some b6 = some b5 from hm12)
                subst hq
                exact ⟨rfl, rfl, rfl, rfl, rfl, rfl, rfl, rfl, rfl, rfl, rfl, rfl, rfl, rfl, rfl, rfl, (congrArg Value.bool hc12).symm, rfl, H⟩
              ·
               refine WL.reset (i := 116) (v := .bool false) (congrArg Value.bool hc12) ?_
               refine O.skip rfl rfl ?_
               refine O.skip rfl rfl ?_
               refine O.skip rfl rfl ?_
               refine O.skip rfl rfl ?_
               refine O.skip rfl rfl ?_
               refine O.skip rfl rfl ?_
               refine O.skip rfl rfl ?_
               refine O.skip rfl rfl ?_
               refine O.skip rfl rfl ?_
               refine O.skip rfl rfl ?_
               refine O.skip rfl rfl ?_
               refine O.skip rfl rfl ?_
               refine O.skip rfl rfl ?_
               refine O.pick_false (v := (.bool false)) rfl rfl rfl rfl ?_
               refine WL.nil ?_
               have hq : false = b5 := Option.some.inj (show some false = some b5 from hm12)
               subst hq
               exact ⟨rfl, rfl, rfl, rfl, rfl, rfl, rfl, rfl, rfl, rfl, rfl, rfl, rfl, rfl, rfl, rfl, (congrArg Value.bool hc12).symm, rfl, H⟩
             ·
              rintro f w ⟨hf0, hf1, hf2, hf10, hf11, hf13, hf14, hf15, hf74, hf75, hf110, hf111, hf112, hf113, hf114, hf115, hf116, hf130, H⟩
              obtain ⟨u19, rfl⟩ : ∃ u19, f = (upd (upd (upd (upd (upd (upd (upd (upd (upd (upd (upd (upd (upd (upd (upd (upd (upd (upd u19 0 va0) 1 va1) 2 (.int .i64 a2)) 10 v2) 11 (.int .i64 z3)) 13 v9) 14 (.int .i64 s4)) 15 (.int .i64 s5)) 74 (.int .i64 t1)) 75 (.int .i64 (ik2 : Int))) 110 (.bool false)) 111 v9) 112 (.int .i64 ((s6.length : Nat) : Int))) 113 v2) 114 (.int .i64 ((z4.length : Nat) : Int))) 115 (.bool (((s6.length : Nat) : Int) == ((z4.length : Nat) : Int)))) 116 (.bool (((s6.length : Nat) : Int) == ((z4.length : Nat) : Int)))) 130 (.bool b5)) := ⟨f, by rw [upd_self hf0, upd_self hf1, upd_self hf2, upd_self hf10, upd_self hf11, upd_self hf13, upd_self hf14, upd_self hf15, upd_self hf74, upd_self hf75, upd_self hf110, upd_self hf111, upd_self hf112, upd_self hf113, upd_self hf114, upd_self hf115, upd_self hf116, upd_self hf130]⟩
              refine O.pick_false (v := (.bool b5)) rfl rfl rfl rfl ?_
              refine WL.nil ?_
              have hq : b5 = b4 := Option.some.inj (show some b5 = some b4 from hm11)
              subst hq
              exact ⟨rfl, rfl, rfl, rfl, rfl, rfl, rfl, rfl, rfl, rfl, rfl, H⟩
           ·
            rintro f w ⟨hf0, hf1, hf2, hf10, hf11, hf13, hf14, hf15, hf74, hf75, hf131, H⟩
            obtain ⟨u20, rfl⟩ : ∃ u20, f = (upd (upd (upd (upd (upd (upd (upd (upd (upd (upd (upd u20 0 va0) 1 va1) 2 (.int .i64 a2)) 10 v2) 11 (.int .i64 z3)) 13 v9) 14 (.int .i64 s4)) 15 (.int .i64 s5)) 74 (.int .i64 t1)) 75 (.int .i64 (ik2 : Int))) 131 (.bool b4)) := ⟨f, by rw [upd_self hf0, upd_self hf1, upd_self hf2, upd_self hf10, upd_self hf11, upd_self hf13, upd_self hf14, upd_self hf15, upd_self hf74, upd_self hf75, upd_self hf131]⟩
            refine O.assign (v := (.bool b4)) rfl rfl rfl ?_
            refine WL.nil ?_
            refine W.seq ?_
            refine W.region ?_
            refine O.move (v := (.int .i64 s4)) rfl rfl rfl ?_
            refine O.move (v := (.int .i64 a2)) rfl rfl rfl ?_
            refine O.leq rfl rfl rfl rfl ?_
            refine O.move (v := (.bool (decide (s4 ≤ a2)))) rfl rfl rfl ?_
            refine WL.cut 2 (fun f w => f 0 = va0 ∧ f 1 = va1 ∧ f 2 = (.int .i64 a2) ∧ f 10 = v2 ∧ f 11 = (.int .i64 z3) ∧ f 13 = v9 ∧ f 15 = (.int .i64 s5) ∧ f 74 = (.int .i64 t1) ∧ f 75 = (.int .i64 (ik2 : Int)) ∧ f 137 = .bool ((decide (s4 ≤ a2)) && b4) ∧ Inv w0 w [ownI (α := Int) v2 3 z4, ownI (α := Int) v9 3 s6]) ?_ ?_
            ·
             rcases bool_ft (decide (s4 ≤ a2)) with hc15 | hc15
             ·
              refine WL.reset (i := 135) (v := .bool false) (congrArg Value.bool hc15) ?_
              refine O.skip rfl rfl ?_
              refine O.pick_false (v := (.bool false)) rfl rfl rfl rfl ?_
              exact WL.nil ⟨rfl, rfl, rfl, rfl, rfl, rfl, rfl, rfl, rfl, congrArg Value.bool (and_f hc15), H⟩
             ·
              refine WL.reset (i := 135) (v := .bool true) (congrArg Value.bool hc15) ?_
              refine O.move (v := (.bool b4)) rfl rfl rfl ?_
              refine O.pick_true (v := (.bool b4)) rfl rfl rfl rfl ?_
              exact WL.nil ⟨rfl, rfl, rfl, rfl, rfl, rfl, rfl, rfl, rfl, congrArg Value.bool (and_t hc15), H⟩
            ·
             rintro f w ⟨hf0, hf1, hf2, hf10, hf11, hf13, hf15, hf74, hf75, hf137, H⟩
             obtain ⟨u21, rfl⟩ : ∃ u21, f = (upd (upd (upd (upd (upd (upd (upd (upd (upd (upd u21 0 va0) 1 va1) 2 (.int .i64 a2)) 10 v2) 11 (.int .i64 z3)) 13 v9) 15 (.int .i64 s5)) 74 (.int .i64 t1)) 75 (.int .i64 (ik2 : Int))) 137 (.bool ((decide (s4 ≤ a2)) && b4))) := ⟨f, by rw [upd_self hf0, upd_self hf1, upd_self hf2, upd_self hf10, upd_self hf11, upd_self hf13, upd_self hf15, upd_self hf74, upd_self hf75, upd_self hf137]⟩
             refine WL.nil ?_
             obtain ⟨⟨s13, s14⟩, hm15, hm6⟩ := bind_some hm6
             refine W.via (fun f w => ∃ v14 : Value, f 0 = va0 ∧ f 1 = va1 ∧ f 2 = (.int .i64 a2) ∧ f 10 = v14 ∧ f 11 = (.int .i64 s13) ∧ f 74 = (.int .i64 t1) ∧ f 75 = (.int .i64 (ik2 : Int)) ∧ Inv w0 w [ownI (α := Int) v14 3 s14]) ?_ ?_
             ·
              rcases ite_some hm15 with ⟨hc16, hm15⟩ | ⟨hc16, hm15⟩
              ·
               refine W.cond_true (congrArg Value.bool hc16) ?_
               refine W.region ?_
               refine O.move (v := v9) rfl rfl rfl ?_
               refine O.move (v := (.int .i64 s5)) rfl rfl rfl ?_
               refine O.assign (v := v9) rfl rfl rfl ?_
               refine O.assign (v := (.int .i64 s5)) rfl rfl rfl ?_
               refine WL.nil ?_
               have H := H.keep [1] [ownI (α := Int) v9 3 s6] rfl (by decide)
               have hq : (s5, s6) = (s13, s14) := Option.some.inj (show some (s5, s6) = some (s13, s14) from hm15)
               obtain ⟨he0, hq0⟩ := Prod.mk.inj hq; clear hq; subst he0
               subst hq0
               exact ⟨v9, rfl, rfl, rfl, rfl, rfl, rfl, rfl, H⟩
              ·
               refine W.cond_false (congrArg Value.bool hc16) ?_
               refine W.skip ?_
               have H := H.keep [0] [ownI (α := Int) v2 3 z4] rfl (by decide)
               have hq : (z3, z4) = (s13, s14) := Option.some.inj (show some (z3, z4) = some (s13, s14) from hm15)
               obtain ⟨he0, hq0⟩ := Prod.mk.inj hq; clear hq; subst he0
               subst hq0
               exact ⟨v2, rfl, rfl, rfl, rfl, rfl, rfl, rfl, H⟩
             ·
              rintro f w ⟨v14, hf0, hf1, hf2, hf10, hf11, hf74, hf75, H⟩
              obtain ⟨u22, rfl⟩ := up7 hf0 hf1 hf2 hf10 hf11 hf74 hf75
              have hq : (s13, s14) = (s2, s3) := Option.some.inj (show some (s13, s14) = some (s2, s3) from hm6)
              obtain ⟨he0, hq0⟩ := Prod.mk.inj hq; clear hq; subst he0
              subst hq0
              exact ⟨v14, rfl, rfl, rfl, rfl, rfl, rfl, rfl, H⟩
         ·
          rintro f w ⟨v5, hf0, hf1, hf2, hf10, hf11, hf74, hf75, H⟩
          obtain ⟨u23, rfl⟩ := up7 hf0 hf1 hf2 hf10 hf11 hf74 hf75
          refine W.region ?_
          refine O.add rfl rfl rfl rfl hinck2 ?_
          refine O.move (v := .int .i64 ((ik2 : Int) + 1)) rfl rfl rfl ?_
          refine WL.nil ?_
          obtain rfl := Option.some.inj hm5
          exact ⟨_, rfl, _, _, v5, rfl, rangeN_next hdropk2, rfl, rfl, rfl, rfl, rfl, rfl, rfl, H⟩
        ·
         rintro ik2 _ f w ⟨z3, z4, v2, rfl, hdropk2, hf75, hf74, hf0, hf1, hf2, hf10, hf11, H⟩ hfin
         have hltk2 := rangeN_end hdropk2
         obtain ⟨u24, rfl⟩ := up7 hf75 hf74 hf0 hf1 hf2 hf10 hf11
         refine W.seq ?_
         refine W.region ?_
         refine O.lss rfl rfl rfl rfl ?_
         refine WL.nil ?_
         refine W.seq ?_
         refine W.cond_false (congrArg Value.bool (decide_eq_false hltk2)) ?_
         refine W.exit ?_
         have hq : z4 = s1 := hfin
         subst hq
         refine xT rfl ?_
         exact ⟨v2, rfl, H⟩
       ·
        rintro f w ⟨v4, hf10, H⟩
        obtain ⟨u25, rfl⟩ := up1 hf10
        refine W.seq ?_
        refine W.region ?_
        refine O.move (v := v4) rfl rfl rfl ?_
        refine O.assign (v := v4) rfl rfl rfl ?_
        refine O.assign (v := (.int .i64 0)) rfl rfl rfl ?_
        refine WL.nil ?_
        refine W.ret ?_
        have hq : (s1, 0) = (r0, r1) := Option.some.inj (show some (s1, 0) = some (r0, r1) from hm)
        obtain ⟨he0, hq0⟩ := Prod.mk.inj hq; clear hq; subst he0
        subst hq0
        exact ends2 Try.results45 rfl rfl ⟨_, rfl, H.base, ⟨_, rfl, H.ownR 0 rfl⟩⟩

set_option maxRecDepth 20000 in
theorem c_noongunref06_SameInts {w0 : World} (va0 : Value) (a0 : (List Int)) (ha0 : SliceR w0 va0 a0) (va1 : Value) (a1 : (List Int)) (ha1 : SliceR w0 va1 a1) {r0 : Bool} (hm : noongunref06_SameInts a0 a1 = some r0) :
  Calls Try.prog 26 #[va0, va1] w0 (Ret w0 fun _ v => v = (.bool r0)) := by
 unfold noongunref06_SameInts at hm
 refine calls_of_W Try.func26 rfl Try.ntmps26 (Nat.le_of_ble_eq_true rfl) ?_
 have H := Inv.start (w := w0)
 refine W.seq ?_
 refine W.region ?_
 refine O.assign (v := (.bool false)) rfl rfl rfl ?_
 refine WL.nil ?_
 refine W.seq ?_
 refine W.seq ?_
 refine W.region ?_
 refine O.move (v := va0) rfl rfl rfl ?_
 refine O.lenS Try.underlying22 (H.arg ha0) rfl rfl rfl ?_
 refine O.move (v := va1) rfl rfl rfl ?_
 refine O.lenS Try.underlying22 (H.arg ha1) rfl rfl rfl ?_
 refine O.neq rfl rfl rfl rfl ?_
 refine WL.nil ?_
 rcases ite_some hm with ⟨hc1, hm⟩ | ⟨hc1, hm⟩
 ·
  refine W.cond_true (congrArg Value.bool hc1) ?_
  refine W.seq ?_
  refine W.region ?_
  refine O.assign (v := (.bool false)) rfl rfl rfl ?_
  refine WL.nil ?_
  refine W.ret ?_
  have hq : false = r0 := Option.some.inj (show some false = some r0 from hm)
  subst hq
  exact ends1 Try.results26 rfl ⟨_, rfl, H.base, rfl⟩
 ·
  refine W.cond_false (congrArg Value.bool hc1) ?_
  refine W.skip ?_
  refine W.seq ?_
  refine W.seq ?_
  refine W.region ?_
  refine O.move (v := va0) rfl rfl rfl ?_
  refine O.lenS Try.underlying22 (H.arg ha0) rfl rfl rfl ?_
  refine O.move (v := (.int .i64 0)) rfl rfl rfl ?_
  refine WL.nil ?_
  obtain ⟨o1, hm1, hm⟩ := bind_some hm
  refine W.via (fun f w => o1 = .next () ∧ Inv w0 w []) ?_ ?_
  ·
   refine W.block ?_
   have hbdik1 := (H.arg ha0).len_le
   refine W.rangeN (i := 0) hm1 (fun rem ik1 s f w => () = s ∧ (ik1 : Int) + rem = max 0 ((a0.length : Nat) : Int) ∧ f 13 = .int .i64 (ik1 : Int) ∧ f 12 = (.int .i64 ((a0.length : Nat) : Int)) ∧ f 0 = va0 ∧ f 1 = va1 ∧ Inv w0 w []) ?_ ?_ ?_
   ·
    exact ⟨rfl, rangeN_start, rfl, rfl, rfl, rfl, H⟩
   ·
    rintro k ik1 _ st f w ⟨rfl, hdropk1, hf13, hf12, hf0, hf1, H⟩ hm2
    have hltk1 := rangeN_lt hdropk1
    obtain ⟨u1, rfl⟩ := up4 hf13 hf12 hf0 hf1
    have hinck1 := addI_lt hltk1 hbdik1
    refine W.seq ?_
    refine W.region ?_
    refine O.lss rfl rfl rfl rfl ?_
    refine WL.nil ?_
    refine W.seq ?_
    refine W.cond_true (congrArg Value.bool (decide_eq_true hltk1)) ?_
    refine W.skip ?_
    refine W.seq ?_
    refine W.block ?_
    refine W.seq ?_
    refine W.region ?_
    refine O.move (v := (.int .i64 (ik1 : Int))) rfl rfl rfl ?_
    refine O.assign (v := (.int .i64 (ik1 : Int))) rfl rfl rfl ?_
    refine WL.nil ?_
    refine W.seq ?_
    obtain ⟨x1, hx1, hm2⟩ := bind_some hm2
    obtain ⟨p1, hp1, hrp1⟩ := fix_indexAddr Try.underlying22 sz3 (H.arg ha0) hx1
    obtain ⟨x2, hx2, hm2⟩ := bind_some hm2
    obtain ⟨p2, hp2, hrp2⟩ := fix_indexAddr Try.underlying22 sz3 (H.arg ha1) hx2
    refine W.drawN 8 (fun f => f 0 = va0 ∧ f 1 = va1 ∧ f 12 = (.int .i64 ((a0.length : Nat) : Int)) ∧ f 13 = (.int .i64 (ik1 : Int)) ∧ f 19 = (.int .i64 x1) ∧ f 23 = (.int .i64 x2)) fol (by kernel_rfl) ?_ ?_
    ·
     refine PL.of (fun _ w8 _ hx => O.move (v := va0) rfl rfl rfl (WL.nil ⟨rfl, hx⟩)) ?_
     refine PL.of (fun _ w8 _ hx => O.move (v := (.int .i64 (ik1 : Int))) rfl rfl rfl (WL.nil ⟨rfl, hx⟩)) ?_
     refine PL.of (fun _ w8 _ hx => hrp1 rfl rfl rfl rfl (WL.nil ⟨rfl, hx⟩)) ?_
     refine PL.of (fun _ w8 _ hx => by have hp1 := hp1.mono hx; exact O.load sc3 rfl rfl rfl (hp1.flat 0 _ rfl) (WL.nil ⟨rfl, hx⟩)) ?_
     refine PL.of (fun _ w8 _ hx => O.move (v := va1) rfl rfl rfl (WL.nil ⟨rfl, hx⟩)) ?_
     refine PL.of (fun _ w8 _ hx => O.move (v := (.int .i64 (ik1 : Int))) rfl rfl rfl (WL.nil ⟨rfl, hx⟩)) ?_
     refine PL.of (fun _ w8 _ hx => hrp2 rfl rfl rfl rfl (WL.nil ⟨rfl, hx⟩)) ?_
     refine PL.of (fun _ w8 _ hx => by have hp2 := hp2.mono hx; exact O.load sc3 rfl rfl rfl (hp2.flat 0 _ rfl) (WL.nil ⟨rfl, hx⟩)) ?_
     refine PL.nil ?_
     exact ⟨rfl, rfl, rfl, rfl, rfl, rfl⟩
    ·
     rintro f w ⟨hf0, hf1, hf12, hf13, hf19, hf23⟩ hmd hx
     have H := H.ext hx
     have hp1 := hp1.mono hx
     have hp2 := hp2.mono hx
     obtain ⟨u2, rfl⟩ := up6 hf0 hf1 hf12 hf13 hf19 hf23
     refine O.neq rfl rfl rfl rfl ?_
     refine WL.nil ?_
     rcases ite_some hm2 with ⟨hc2, hm2⟩ | ⟨hc2, hm2⟩
     ·
      refine W.cond_true (congrArg Value.bool hc2) ?_
      refine W.seq ?_
      refine W.region ?_
      refine O.assign (v := (.bool false)) rfl rfl rfl ?_
      refine WL.nil ?_
      refine W.ret ?_
      obtain rfl := Option.some.inj hm2
      refine ⟨_, rfl, ?_⟩
      rintro rfl
      have hq : false = r0 := Option.some.inj (show some false = some r0 from hm)
      subst hq
      exact ends1 Try.results26 rfl ⟨_, rfl, H.base, rfl⟩
     ·
      refine W.cond_false (congrArg Value.bool hc2) ?_
      refine W.skip ?_
      refine W.region ?_
      refine O.add rfl rfl rfl rfl hinck1 ?_
      refine O.move (v := .int .i64 ((ik1 : Int) + 1)) rfl rfl rfl ?_
      refine WL.nil ?_
      obtain rfl := Option.some.inj hm2
      exact ⟨_, rfl, rfl, rangeN_next hdropk1, rfl, rfl, rfl, rfl, H⟩
   ·
    rintro ik1 _ f w ⟨rfl, hdropk1, hf13, hf12, hf0, hf1, H⟩ hfin
    have hltk1 := rangeN_end hdropk1
    obtain ⟨u3, rfl⟩ := up4 hf13 hf12 hf0 hf1
    refine W.seq ?_
    refine W.region ?_
    refine O.lss rfl rfl rfl rfl ?_
    refine WL.nil ?_
    refine W.seq ?_
    refine W.cond_false (congrArg Value.bool (decide_eq_false hltk1)) ?_
    refine W.exit ?_
    obtain rfl : Ctl.next () = o1 := hfin
    refine xT rfl ?_
    exact ⟨rfl, H⟩
  ·
   rintro f w ⟨rfl, H⟩
   refine W.seq ?_
   refine W.region ?_
   refine O.assign (v := (.bool true)) rfl rfl rfl ?_
   refine WL.nil ?_
   refine W.ret ?_
   have hq : true = r0 := Option.some.inj (show some true = some r0 from hm)
   subst hq
   exact ends1 Try.results26 rfl ⟨_, rfl, H.base, rfl⟩

end Go.Proofs
