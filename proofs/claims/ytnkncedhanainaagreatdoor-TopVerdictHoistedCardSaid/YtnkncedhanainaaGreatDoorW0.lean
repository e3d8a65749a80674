/-
  The walks: each function does what its model says, where the model has a value. No other condition.
-/
import Derived.Test.YtnkncedhanainaaGreatDoorRows
import Derived.Test.YtnkncedhanainaaGreatDoorM
import Derived.Test.YtnkncedhanainaaGreatDoorFwX
import Derived.Test.YtnkncedhanainaaGreatDoorShelf
import Derived.Test.YtnkncedhanainaaGreatDoorFwWi
import Derived.Test.YtnkncedhanainaaGreatDoorFwAr
import Derived.Test.YtnkncedhanainaaGreatDoorFwUp
namespace Go.Proofs
open Go.Fw Go.RowKit Go.Shelf
theorem sz5 : SizeT Tryz.prog 5 1 := SizeT.mk (by kernel_rfl)
theorem sc5 : ScalarT Tryz.prog 5 := ScalarT.mk Tryz.underlying5 rfl
theorem sz3 : SizeT Tryz.prog 3 1 := SizeT.mk (by kernel_rfl)
theorem sc3 : ScalarT Tryz.prog 3 := ScalarT.mk Tryz.underlying3 rfl
theorem fd47_0 : FieldT Tryz.prog 47 0 0 := FieldT.mk (k := 1) Tryz.underlying47 rfl rfl (by kernel_rfl) (by decide)
theorem sc9 : ScalarT Tryz.prog 9 := ScalarT.mk Tryz.underlying9 rfl
theorem fd47_1 : FieldT Tryz.prog 47 1 1 := FieldT.mk (k := 1) Tryz.underlying47 rfl rfl (by kernel_rfl) (by decide)
theorem sc33 : ScalarT Tryz.prog 33 := ScalarT.mk Tryz.underlying33 rfl
theorem fol : Tryz.prog.follows .mixedOrders = true := by kernel_rfl
theorem el3 : ElemT Tryz.prog 3 1 8 := ElemT.mk (z := (.int .i64 (0))) (by kernel_rfl) rfl
theorem sz33 : SizeT Tryz.prog 33 1 := SizeT.mk (by kernel_rfl)
theorem ag47 : AggT Tryz.prog 47 2 := AggT.mk Tryz.underlying47 rfl (by kernel_rfl)
theorem ze3 : ZeroT Tryz.prog 3 (.int .i64 (0)) := ZeroT.mk (by kernel_rfl)
theorem ze4 : ZeroT Tryz.prog 4 (.bool false) := ZeroT.mk (by kernel_rfl)
theorem sz4 : SizeT Tryz.prog 4 1 := SizeT.mk (by kernel_rfl)
theorem sc4 : ScalarT Tryz.prog 4 := ScalarT.mk Tryz.underlying4 rfl
theorem ze43 : ZeroT Tryz.prog 43 (.agg #[(.string ByteArray.empty), (.int .i64 (0)), (.int .i64 (0)), (.int .i64 (0)), (.int .i64 (0))]) := ZeroT.mk (by kernel_rfl)
theorem bd43_ : ∀  (w : World), (Instr.build 43 #[]).run Tryz.prog w = .ok (.agg #[(.string ByteArray.empty), (.int .i64 0), (.int .i64 0), (.int .i64 0), (.int .i64 0)]) w := by
  intro  w
  simp [Instr.build, Tryz.zeroValue43, Tryz.runUnderlying43, Instr.fill, Tryz.sizeOf3, Tryz.sizeOf9, Value.cells] <;> rfl
theorem sz43 : SizeT Tryz.prog 43 5 := SizeT.mk (by kernel_rfl)
theorem ag43 : AggT Tryz.prog 43 5 := AggT.mk Tryz.underlying43 rfl (by kernel_rfl)
theorem bd43_0 : ∀ (v0 : ByteArray) (w : World), (Instr.build 43 #[(0, (.string v0))]).run Tryz.prog w = .ok (.agg #[(.string v0), (.int .i64 0), (.int .i64 0), (.int .i64 0), (.int .i64 0)]) w := by
  intro v0 w
  simp [Instr.build, Tryz.zeroValue43, Tryz.runUnderlying43, Instr.fill, Tryz.sizeOf3, Tryz.sizeOf9, Value.cells]
theorem fd43_1 : FieldT Tryz.prog 43 1 1 := FieldT.mk (k := 1) Tryz.underlying43 rfl rfl (by kernel_rfl) (by decide)
theorem fd43_2 : FieldT Tryz.prog 43 2 2 := FieldT.mk (k := 1) Tryz.underlying43 rfl rfl (by kernel_rfl) (by decide)
theorem fd43_3 : FieldT Tryz.prog 43 3 3 := FieldT.mk (k := 1) Tryz.underlying43 rfl rfl (by kernel_rfl) (by decide)
theorem fd43_4 : FieldT Tryz.prog 43 4 4 := FieldT.mk (k := 1) Tryz.underlying43 rfl rfl (by kernel_rfl) (by decide)
theorem bd57_s6 : ∀ w : World, (Instr.build 57 #[(0, (.string (bs [103, 111, 111, 100]))), (1, (.string (bs [119, 114, 111, 110, 103]))), (2, (.string (bs [102, 97, 108, 115, 101]))), (3, (.string (bs [97, 103, 97, 105, 110]))), (4, (.string (bs [116, 111, 108, 100]))), (5, (.string (bs [115, 105, 108, 101, 110, 116])))]).run Tryz.prog w = .ok (.agg #[(.string (bs [103, 111, 111, 100])), (.string (bs [119, 114, 111, 110, 103])), (.string (bs [102, 97, 108, 115, 101])), (.string (bs [97, 103, 97, 105, 110])), (.string (bs [116, 111, 108, 100])), (.string (bs [115, 105, 108, 101, 110, 116]))]) w := fun _ => by kernel_rfl
theorem sz9 : SizeT Tryz.prog 9 1 := SizeT.mk (by kernel_rfl)
theorem bd47_0_1 : ∀ (v0 : ByteArray) (y1 : Option Addr) (n1 m1 : Nat) (w : World), (Instr.build 47 #[(0, (.string v0)), (1, .slice y1 n1 m1)]).run Tryz.prog w = .ok (.agg #[(.string v0), .slice y1 n1 m1]) w := by
  intro v0 y1 n1 m1 w
  simp [Instr.build, Tryz.zeroValue47, Tryz.runUnderlying47, Instr.fill, Tryz.sizeOf33, Tryz.sizeOf9, Value.cells]
theorem fd23_0 : FieldT Tryz.prog 23 0 0 := FieldT.mk (k := 1) Tryz.underlying23 rfl rfl (by kernel_rfl) (by decide)
theorem fd23_2 : FieldT Tryz.prog 23 2 2 := FieldT.mk (k := 1) Tryz.underlying23 rfl rfl (by kernel_rfl) (by decide)
theorem fd23_1 : FieldT Tryz.prog 23 1 1 := FieldT.mk (k := 1) Tryz.underlying23 rfl rfl (by kernel_rfl) (by decide)
theorem fd23_3 : FieldT Tryz.prog 23 3 3 := FieldT.mk (k := 1) Tryz.underlying23 rfl rfl (by kernel_rfl) (by decide)
theorem fd23_4 : FieldT Tryz.prog 23 4 4 := FieldT.mk (k := 1) Tryz.underlying23 rfl rfl (by kernel_rfl) (by decide)
theorem fd23_5 : FieldT Tryz.prog 23 5 5 := FieldT.mk (k := 1) Tryz.underlying23 rfl rfl (by kernel_rfl) (by decide)
theorem fd86_0 : FieldT Tryz.prog 86 0 0 := FieldT.mk (k := 1) Tryz.underlying86 rfl rfl (by kernel_rfl) (by decide)
theorem fd86_1 : FieldT Tryz.prog 86 1 1 := FieldT.mk (k := 1) Tryz.underlying86 rfl rfl (by kernel_rfl) (by decide)
theorem fd86_2 : FieldT Tryz.prog 86 2 2 := FieldT.mk (k := 1) Tryz.underlying86 rfl rfl (by kernel_rfl) (by decide)
theorem fd51_1 : FieldT Tryz.prog 51 1 1 := FieldT.mk (k := 1) Tryz.underlying51 rfl rfl (by kernel_rfl) (by decide)
theorem fd51_0 : FieldT Tryz.prog 51 0 0 := FieldT.mk (k := 1) Tryz.underlying51 rfl rfl (by kernel_rfl) (by decide)
theorem ag23 : AggT Tryz.prog 23 6 := AggT.mk Tryz.underlying23 rfl (by kernel_rfl)
theorem fd51_2 : FieldT Tryz.prog 51 2 2 := FieldT.mk (k := 1) Tryz.underlying51 rfl rfl (by kernel_rfl) (by decide)
theorem ze121 : ZeroT Tryz.prog 121 (.agg #[.nilFunc, .nilFunc, .nilFunc, .nilFunc, .nilFunc, .nilFunc, .nilFunc, .nilFunc, .nilFunc, .nilFunc, .nilFunc, .nilFunc, .nilFunc, .nilFunc]) := ZeroT.mk (by kernel_rfl)
theorem bdf120_0_92_1_93 : ∀ w : World, (Instr.build 120 #[(0, (.func (.func 92) #[] #[])), (1, (.func (.func 93) #[] #[]))]).run Tryz.prog w = .ok (.agg #[(.func (.func 92) #[] #[]), (.func (.func 93) #[] #[])]) w := fun _ => by kernel_rfl
theorem bdf120_0_94_1_96 : ∀ w : World, (Instr.build 120 #[(0, (.func (.func 94) #[] #[])), (1, (.func (.func 96) #[] #[]))]).run Tryz.prog w = .ok (.agg #[(.func (.func 94) #[] #[]), (.func (.func 96) #[] #[])]) w := fun _ => by kernel_rfl
theorem bdf120_0_97_1_98 : ∀ w : World, (Instr.build 120 #[(0, (.func (.func 97) #[] #[])), (1, (.func (.func 98) #[] #[]))]).run Tryz.prog w = .ok (.agg #[(.func (.func 97) #[] #[]), (.func (.func 98) #[] #[])]) w := fun _ => by kernel_rfl
theorem bdf120_0_99_1_100 : ∀ w : World, (Instr.build 120 #[(0, (.func (.func 99) #[] #[])), (1, (.func (.func 100) #[] #[]))]).run Tryz.prog w = .ok (.agg #[(.func (.func 99) #[] #[]), (.func (.func 100) #[] #[])]) w := fun _ => by kernel_rfl
theorem bdf120_0_101_1_102 : ∀ w : World, (Instr.build 120 #[(0, (.func (.func 101) #[] #[])), (1, (.func (.func 102) #[] #[]))]).run Tryz.prog w = .ok (.agg #[(.func (.func 101) #[] #[]), (.func (.func 102) #[] #[])]) w := fun _ => by kernel_rfl
theorem bdf120_0_103_1_104 : ∀ w : World, (Instr.build 120 #[(0, (.func (.func 103) #[] #[])), (1, (.func (.func 104) #[] #[]))]).run Tryz.prog w = .ok (.agg #[(.func (.func 103) #[] #[]), (.func (.func 104) #[] #[])]) w := fun _ => by kernel_rfl
theorem bdf121_1_92_93_2_94_96_3_97_98_4_99_100_5_101_102_6_103_104 : ∀ w : World, (Instr.build 121 #[(1, (.agg #[(.func (.func 92) #[] #[]), (.func (.func 93) #[] #[])])), (2, (.agg #[(.func (.func 94) #[] #[]), (.func (.func 96) #[] #[])])), (3, (.agg #[(.func (.func 97) #[] #[]), (.func (.func 98) #[] #[])])), (4, (.agg #[(.func (.func 99) #[] #[]), (.func (.func 100) #[] #[])])), (5, (.agg #[(.func (.func 101) #[] #[]), (.func (.func 102) #[] #[])])), (6, (.agg #[(.func (.func 103) #[] #[]), (.func (.func 104) #[] #[])]))]).run Tryz.prog w = .ok (.agg #[.nilFunc, .nilFunc, (.func (.func 92) #[] #[]), (.func (.func 93) #[] #[]), (.func (.func 94) #[] #[]), (.func (.func 96) #[] #[]), (.func (.func 97) #[] #[]), (.func (.func 98) #[] #[]), (.func (.func 99) #[] #[]), (.func (.func 100) #[] #[]), (.func (.func 101) #[] #[]), (.func (.func 102) #[] #[]), (.func (.func 103) #[] #[]), (.func (.func 104) #[] #[])]) w := fun _ => by kernel_rfl
theorem sz121 : SizeT Tryz.prog 121 14 := SizeT.mk (by kernel_rfl)
theorem ag121 : AggT Tryz.prog 121 14 := AggT.mk Tryz.underlying121 rfl (by kernel_rfl)
theorem ze51 : ZeroT Tryz.prog 51 (.agg #[(.int .i64 (0)), (.int .i64 (0)), (.bool false), (.int .i64 (0))]) := ZeroT.mk (by kernel_rfl)
theorem ag86 : AggT Tryz.prog 86 3 := AggT.mk Tryz.underlying86 rfl (by kernel_rfl)
theorem fd51_3 : FieldT Tryz.prog 51 3 3 := FieldT.mk (k := 1) Tryz.underlying51 rfl rfl (by kernel_rfl) (by decide)
theorem bd51_ : ∀  (w : World), (Instr.build 51 #[]).run Tryz.prog w = .ok (.agg #[(.int .i64 0), (.int .i64 0), (.bool false), (.int .i64 0)]) w := by
  intro  w
  simp [Instr.build, Tryz.zeroValue51, Tryz.runUnderlying51, Instr.fill, Tryz.sizeOf3, Tryz.sizeOf4, Value.cells]
theorem sz51 : SizeT Tryz.prog 51 4 := SizeT.mk (by kernel_rfl)
theorem ag51 : AggT Tryz.prog 51 4 := AggT.mk Tryz.underlying51 rfl (by kernel_rfl)
theorem ixf121_1_64 : ∀ w : World, (Instr.index 121 (.agg #[.nilFunc, .nilFunc, (.func (.func 92) #[] #[]), (.func (.func 93) #[] #[]), (.func (.func 94) #[] #[]), (.func (.func 96) #[] #[]), (.func (.func 97) #[] #[]), (.func (.func 98) #[] #[]), (.func (.func 99) #[] #[]), (.func (.func 100) #[] #[]), (.func (.func 101) #[] #[]), (.func (.func 102) #[] #[]), (.func (.func 103) #[] #[]), (.func (.func 104) #[] #[])]) (.int .i64 1)).run Tryz.prog w = .ok (.agg #[(.func (.func 92) #[] #[]), (.func (.func 93) #[] #[])]) w := fun _ => by kernel_rfl
theorem ze120 : ZeroT Tryz.prog 120 (.agg #[.nilFunc, .nilFunc]) := ZeroT.mk (by kernel_rfl)
theorem sz120 : SizeT Tryz.prog 120 2 := SizeT.mk (by kernel_rfl)
theorem fd120_0 : FieldT Tryz.prog 120 0 0 := FieldT.mk (k := 1) Tryz.underlying120 rfl rfl (by kernel_rfl) (by decide)
theorem sc117 : ScalarT Tryz.prog 117 := ScalarT.mk Tryz.underlying117 rfl
theorem fd120_1 : FieldT Tryz.prog 120 1 1 := FieldT.mk (k := 1) Tryz.underlying120 rfl rfl (by kernel_rfl) (by decide)
theorem sc118 : ScalarT Tryz.prog 118 := ScalarT.mk Tryz.underlying118 rfl
theorem ixf121_2_64 : ∀ w : World, (Instr.index 121 (.agg #[.nilFunc, .nilFunc, (.func (.func 92) #[] #[]), (.func (.func 93) #[] #[]), (.func (.func 94) #[] #[]), (.func (.func 96) #[] #[]), (.func (.func 97) #[] #[]), (.func (.func 98) #[] #[]), (.func (.func 99) #[] #[]), (.func (.func 100) #[] #[]), (.func (.func 101) #[] #[]), (.func (.func 102) #[] #[]), (.func (.func 103) #[] #[]), (.func (.func 104) #[] #[])]) (.int .i64 2)).run Tryz.prog w = .ok (.agg #[(.func (.func 94) #[] #[]), (.func (.func 96) #[] #[])]) w := fun _ => by kernel_rfl
theorem ixf121_3_64 : ∀ w : World, (Instr.index 121 (.agg #[.nilFunc, .nilFunc, (.func (.func 92) #[] #[]), (.func (.func 93) #[] #[]), (.func (.func 94) #[] #[]), (.func (.func 96) #[] #[]), (.func (.func 97) #[] #[]), (.func (.func 98) #[] #[]), (.func (.func 99) #[] #[]), (.func (.func 100) #[] #[]), (.func (.func 101) #[] #[]), (.func (.func 102) #[] #[]), (.func (.func 103) #[] #[]), (.func (.func 104) #[] #[])]) (.int .i64 3)).run Tryz.prog w = .ok (.agg #[(.func (.func 97) #[] #[]), (.func (.func 98) #[] #[])]) w := fun _ => by kernel_rfl
theorem ixf121_4_64 : ∀ w : World, (Instr.index 121 (.agg #[.nilFunc, .nilFunc, (.func (.func 92) #[] #[]), (.func (.func 93) #[] #[]), (.func (.func 94) #[] #[]), (.func (.func 96) #[] #[]), (.func (.func 97) #[] #[]), (.func (.func 98) #[] #[]), (.func (.func 99) #[] #[]), (.func (.func 100) #[] #[]), (.func (.func 101) #[] #[]), (.func (.func 102) #[] #[]), (.func (.func 103) #[] #[]), (.func (.func 104) #[] #[])]) (.int .i64 4)).run Tryz.prog w = .ok (.agg #[(.func (.func 99) #[] #[]), (.func (.func 100) #[] #[])]) w := fun _ => by kernel_rfl
theorem ixf121_5_64 : ∀ w : World, (Instr.index 121 (.agg #[.nilFunc, .nilFunc, (.func (.func 92) #[] #[]), (.func (.func 93) #[] #[]), (.func (.func 94) #[] #[]), (.func (.func 96) #[] #[]), (.func (.func 97) #[] #[]), (.func (.func 98) #[] #[]), (.func (.func 99) #[] #[]), (.func (.func 100) #[] #[]), (.func (.func 101) #[] #[]), (.func (.func 102) #[] #[]), (.func (.func 103) #[] #[]), (.func (.func 104) #[] #[])]) (.int .i64 5)).run Tryz.prog w = .ok (.agg #[(.func (.func 101) #[] #[]), (.func (.func 102) #[] #[])]) w := fun _ => by kernel_rfl
theorem ixf121_6_64 : ∀ w : World, (Instr.index 121 (.agg #[.nilFunc, .nilFunc, (.func (.func 92) #[] #[]), (.func (.func 93) #[] #[]), (.func (.func 94) #[] #[]), (.func (.func 96) #[] #[]), (.func (.func 97) #[] #[]), (.func (.func 98) #[] #[]), (.func (.func 99) #[] #[]), (.func (.func 100) #[] #[]), (.func (.func 101) #[] #[]), (.func (.func 102) #[] #[]), (.func (.func 103) #[] #[]), (.func (.func 104) #[] #[])]) (.int .i64 6)).run Tryz.prog w = .ok (.agg #[(.func (.func 103) #[] #[]), (.func (.func 104) #[] #[])]) w := fun _ => by kernel_rfl
theorem sc24 : ScalarT Tryz.prog 24 := ScalarT.mk Tryz.underlying24 rfl
theorem sz86 : SizeT Tryz.prog 86 3 := SizeT.mk (by kernel_rfl)
theorem ze86 : ZeroT Tryz.prog 86 (.agg #[(.int .i64 (0)), (.int .i64 (0)), (.int .i64 (0))]) := ZeroT.mk (by kernel_rfl)
theorem ze26 : ZeroT Tryz.prog 26 (.int .i64 (0)) := ZeroT.mk (by kernel_rfl)
theorem sz26 : SizeT Tryz.prog 26 1 := SizeT.mk (by kernel_rfl)
theorem sc26 : ScalarT Tryz.prog 26 := ScalarT.mk Tryz.underlying26 rfl
theorem sz32 : SizeT Tryz.prog 32 2 := SizeT.mk (by kernel_rfl)
theorem ag32 : AggT Tryz.prog 32 2 := AggT.mk Tryz.underlying32 rfl (by kernel_rfl)
theorem ze32 : ZeroT Tryz.prog 32 (.agg #[(.int .i64 (0)), (.string ByteArray.empty)]) := ZeroT.mk (by kernel_rfl)
theorem fd32_0 : FieldT Tryz.prog 32 0 0 := FieldT.mk (k := 1) Tryz.underlying32 rfl rfl (by kernel_rfl) (by decide)
theorem fd32_1 : FieldT Tryz.prog 32 1 1 := FieldT.mk (k := 1) Tryz.underlying32 rfl rfl (by kernel_rfl) (by decide)
theorem sc69 : ScalarT Tryz.prog 69 := ScalarT.mk Tryz.underlying69 rfl
theorem sc58 : ScalarT Tryz.prog 58 := ScalarT.mk Tryz.underlying58 rfl
theorem sz58 : SizeT Tryz.prog 58 1 := SizeT.mk (by kernel_rfl)
theorem ze33 : ZeroT Tryz.prog 33 (.slice none 0 0) := ZeroT.mk (by kernel_rfl)
theorem ze58 : ZeroT Tryz.prog 58 .nilFunc := ZeroT.mk (by kernel_rfl)
theorem shl1_flag : ∀ {y : Nat}, y < 13 → shlI 1 (y : Int) = some (2 ^ y) := by
  intro y h
  unfold shlI
  have : ∀ y : Nat, y < 13 → inI (1 * 2 ^ y) = true := by decide
  rw [if_pos ⟨by omega, by rw [Int.toNat_natCast]; exact this y h⟩, Int.toNat_natCast, Int.one_mul]
theorem key3 : KeyT Tryz.prog 3 Int := KeyT.int Tryz.underlying3
theorem ze9 : ZeroT Tryz.prog 9 (.string ByteArray.empty) := ZeroT.mk (by kernel_rfl)
theorem bd32_0_1 : ∀ (v0 : Int) (v1 : ByteArray) (w : World), (Instr.build 32 #[(0, (.int .i64 v0)), (1, (.string v1))]).run Tryz.prog w = .ok (.agg #[(.int .i64 v0), (.string v1)]) w := by
  intro v0 v1 w
  simp [Instr.build, Tryz.zeroValue32, Tryz.runUnderlying32, Instr.fill, Tryz.sizeOf3, Tryz.sizeOf9, Value.cells]
theorem el32 : ElemT Tryz.prog 32 2 24 := ElemT.mk (z := (.agg #[(.int .i64 (0)), (.string ByteArray.empty)])) (by kernel_rfl) rfl
theorem c_rate_within {w0 : World} (a0 : Int) (a1 : Int) (a2 : Int) {r0 : Bool} (hm : rate_within a0 a1 a2 = some r0) :
  Calls Tryz.prog 80 #[(.int .i64 a0), (.int .i64 a1), (.int .i64 a2)] w0 (Ret w0 fun _ v => v = (.bool r0)) := by
 unfold rate_within at hm
 refine calls_of_W Tryz.func80 rfl Tryz.ntmps80 (Nat.le_of_ble_eq_true rfl) ?_
 have H := Inv.start (w := w0)
 refine W.seq ?_
 refine W.region ?_
 refine O.assign (v := (.bool false)) rfl rfl rfl ?_
 refine WL.nil ?_
 refine W.seq ?_
 refine W.region ?_
 refine O.move (v := (.int .i64 a0)) rfl rfl rfl ?_
 refine O.move (v := (.int .i64 a1)) rfl rfl rfl ?_
 refine O.geq rfl rfl rfl rfl ?_
 refine O.move (v := (.bool (decide (a1 ≤ a0)))) rfl rfl rfl ?_
 refine WL.cut 4 (fun f w => f 14 = .bool ((decide (a1 ≤ a0)) && (decide (a0 ≤ a2))) ∧ Inv w0 w []) ?_ ?_
 ·
  rcases bool_ft (decide (a1 ≤ a0)) with hc1 | hc1
  ·
   refine WL.reset (i := 10) (v := .bool false) (congrArg Value.bool hc1) ?_
   refine O.skip rfl rfl ?_
   refine O.skip rfl rfl ?_
   refine O.skip rfl rfl ?_
   refine O.pick_false (v := (.bool false)) rfl rfl rfl rfl ?_
   exact WL.nil ⟨congrArg Value.bool (and_f hc1), H⟩
  ·
   refine WL.reset (i := 10) (v := .bool true) (congrArg Value.bool hc1) ?_
   refine O.move (v := (.int .i64 a0)) rfl rfl rfl ?_
   refine O.move (v := (.int .i64 a2)) rfl rfl rfl ?_
   refine O.leq rfl rfl rfl rfl ?_
   refine O.pick_true (v := (.bool (decide (a0 ≤ a2)))) rfl rfl rfl rfl ?_
   exact WL.nil ⟨congrArg Value.bool (and_t hc1), H⟩
 ·
  rintro f w ⟨hf14, H⟩
  obtain ⟨u1, rfl⟩ := up1 hf14
  refine O.assign (v := (.bool ((decide (a1 ≤ a0)) && (decide (a0 ≤ a2))))) rfl rfl rfl ?_
  refine WL.nil ?_
  refine W.ret ?_
  have hq : ((decide (a1 ≤ a0)) && (decide (a0 ≤ a2))) = r0 := Option.some.inj (show some ((decide (a1 ≤ a0)) && (decide (a0 ≤ a2))) = some r0 from hm)
  subst hq
  exact ends1 Tryz.results80 rfl ⟨_, rfl, H.base, rfl⟩

set_option maxRecDepth 20000 in
theorem c_rate_name {w0 : World} (a0 : ByteArray) {r0 : Bool} (hm : rate_name a0 = some r0) :
  Calls Tryz.prog 79 #[(.string a0)] w0 (Ret w0 fun _ v => v = (.bool r0)) := by
 unfold rate_name at hm
 refine calls_of_W Tryz.func79 rfl Tryz.ntmps79 (Nat.le_of_ble_eq_true rfl) ?_
 have H := Inv.start (w := w0)
 refine W.seq ?_
 refine W.region ?_
 refine O.assign (v := (.bool false)) rfl rfl rfl ?_
 refine WL.nil ?_
 refine W.seq ?_
 refine W.seq ?_
 refine W.region ?_
 refine O.move (v := (.string a0)) rfl rfl rfl ?_
 obtain ⟨t1, ht1, hm⟩ := bind_some hm
 refine O.bytesHeld Tryz.underlying9 Tryz.underlying132 Tryz.underlying5 ht1 H rfl rfl rfl ?_
 intro v1 w1 b1 ob1 H hb1 hsl1
 refine O.lenS Tryz.underlying132 (hsl1 _ (H.items _ (List.mem_of_getElem? (i := 0) rfl)).1) rfl rfl rfl ?_
 refine O.move (v := (.int .i64 0)) rfl rfl rfl ?_
 refine WL.nil ?_
 obtain ⟨o1, hm1, hm⟩ := bind_some hm
 refine W.via (fun f w => o1 = .next () ∧ f 0 = (.string a0) ∧ Inv w0 w []) ?_ ?_
 ·
  refine W.block ?_
  have hbdik1 := (hsl1 _ (H.items _ (List.mem_of_getElem? (i := 0) rfl)).1).len_le
  refine W.rangeN (i := 0) hm1 (fun rem ik1 s f w => () = s ∧ (ik1 : Int) + rem = max 0 ((t1.length : Nat) : Int) ∧ f 9 = .int .i64 (ik1 : Int) ∧ f 8 = (.int .i64 ((t1.length : Nat) : Int)) ∧ f 0 = (.string a0) ∧ f 7 = v1 ∧ Inv w0 w [heldI b1 ob1]) ?_ ?_ ?_
  ·
   exact ⟨rfl, rangeN_start, rfl, rfl, rfl, rfl, H⟩
  ·
   rintro k ik1 _ st f w ⟨rfl, hdropk1, hf9, hf8, hf0, hf7, H⟩ hm2
   have hltk1 := rangeN_lt hdropk1
   obtain ⟨u1, rfl⟩ := up4 hf9 hf8 hf0 hf7
   have hinck1 := addI_lt hltk1 hbdik1
   refine W.seq ?_
   refine W.region ?_
   refine O.lss rfl rfl rfl rfl ?_
   refine WL.nil ?_
   refine W.seq ?_
   refine W.cond_true (congrArg Value.bool (decide_eq_true hltk1)) ?_
   refine W.skip ?_
   refine W.seq ?_
   refine W.block ?_
   refine W.seq ?_
   refine W.region ?_
   refine O.move (v := (.int .i64 (ik1 : Int))) rfl rfl rfl ?_
   obtain ⟨x1, hx1, hm2⟩ := bind_some hm2
   refine O.indexAddr Tryz.underlying132 sz5 (hsl1 _ (H.items _ (List.mem_of_getElem? (i := 0) rfl)).1) hx1 rfl rfl rfl rfl ?_
   intro p1 hp1
   refine O.load sc5 rfl rfl rfl (hp1.flat 0 _ rfl) ?_
   refine O.assign (v := (.int .i64 (ik1 : Int))) rfl rfl rfl ?_
   refine O.assign (v := (.int .u8 (x1.toNat : Int))) rfl rfl rfl ?_
   refine WL.nil ?_
   refine W.seq ?_
   refine W.region ?_
   refine O.move (v := (.int .u8 (x1.toNat : Int))) rfl rfl rfl ?_
   refine O.geq rfl rfl rfl rfl ?_
   refine O.move (v := (.bool (decide (97 ≤ (x1.toNat : Int))))) rfl rfl rfl ?_
   refine WL.cut 3 (fun f w => f 0 = (.string a0) ∧ f 3 = (.int .i64 (ik1 : Int)) ∧ f 4 = (.int .u8 (x1.toNat : Int)) ∧ f 7 = v1 ∧ f 8 = (.int .i64 ((t1.length : Nat) : Int)) ∧ f 9 = (.int .i64 (ik1 : Int)) ∧ f 19 = .bool ((decide (97 ≤ (x1.toNat : Int))) && (decide ((x1.toNat : Int) ≤ 122))) ∧ Inv w0 w [heldI b1 ob1]) ?_ ?_
   ·
    rcases bool_ft (decide (97 ≤ (x1.toNat : Int))) with hc1 | hc1
    ·
     refine WL.reset (i := 16) (v := .bool false) (congrArg Value.bool hc1) ?_
     refine O.skip rfl rfl ?_
     refine O.skip rfl rfl ?_
     refine O.pick_false (v := (.bool false)) rfl rfl rfl rfl ?_
     exact WL.nil ⟨rfl, rfl, rfl, rfl, rfl, rfl, congrArg Value.bool (and_f hc1), H⟩
    ·
     refine WL.reset (i := 16) (v := .bool true) (congrArg Value.bool hc1) ?_
     refine O.move (v := (.int .u8 (x1.toNat : Int))) rfl rfl rfl ?_
     refine O.leq rfl rfl rfl rfl ?_
     refine O.pick_true (v := (.bool (decide ((x1.toNat : Int) ≤ 122)))) rfl rfl rfl rfl ?_
     exact WL.nil ⟨rfl, rfl, rfl, rfl, rfl, rfl, congrArg Value.bool (and_t hc1), H⟩
   ·
    rintro f w ⟨hf0, hf3, hf4, hf7, hf8, hf9, hf19, H⟩
    obtain ⟨u2, rfl⟩ := up7 hf0 hf3 hf4 hf7 hf8 hf9 hf19
    refine O.assign (v := (.bool ((decide (97 ≤ (x1.toNat : Int))) && (decide ((x1.toNat : Int) ≤ 122))))) rfl rfl rfl ?_
    refine WL.nil ?_
    refine W.seq ?_
    refine W.region ?_
    refine O.move (v := (.bool ((decide (97 ≤ (x1.toNat : Int))) && (decide ((x1.toNat : Int) ≤ 122))))) rfl rfl rfl ?_
    refine O.not rfl rfl rfl ?_
    refine O.move (v := (.bool (!((decide (97 ≤ (x1.toNat : Int))) && (decide ((x1.toNat : Int) ≤ 122)))))) rfl rfl rfl ?_
    obtain ⟨b2, hm3, hm2⟩ := bind_some hm2
    refine WL.cut 13 (fun f w => f 0 = (.string a0) ∧ f 7 = v1 ∧ f 8 = (.int .i64 ((t1.length : Nat) : Int)) ∧ f 9 = (.int .i64 (ik1 : Int)) ∧ f 35 = .bool b2 ∧ Inv w0 w [heldI b1 ob1]) ?_ ?_
    ·
     rcases ite_some hm3 with ⟨hc2, hm3⟩ | ⟨hc2, hm3⟩
     ·
      refine WL.reset (i := 22) (v := .bool true) (congrArg Value.bool hc2) ?_
      refine O.move (v := (.int .i64 (ik1 : Int))) rfl rfl rfl ?_
      refine O.eql rfl rfl rfl rfl ?_
      refine O.move (v := (.bool ((ik1 : Int) == 0))) rfl rfl rfl ?_
      obtain ⟨b3, hm4, hm3⟩ := bind_some hm3
      refine WL.cut 9 (fun f w => f 0 = (.string a0) ∧ f 7 = v1 ∧ f 8 = (.int .i64 ((t1.length : Nat) : Int)) ∧ f 9 = (.int .i64 (ik1 : Int)) ∧ f 22 = (.bool true) ∧ f 23 = (.int .i64 (ik1 : Int)) ∧ f 24 = (.bool ((ik1 : Int) == 0)) ∧ f 25 = (.bool ((ik1 : Int) == 0)) ∧ f 34 = .bool b3 ∧ Inv w0 w [heldI b1 ob1]) ?_ ?_
      ·
       rcases ite_some hm4 with ⟨hc3, hm4⟩ | ⟨hc3, hm4⟩
       ·
        refine WL.reset (i := 25) (v := .bool true) (congrArg Value.bool hc3) ?_
        refine O.skip rfl rfl ?_
        refine O.skip rfl rfl ?_
        refine O.skip rfl rfl ?_
        refine O.skip rfl rfl ?_
        refine O.skip rfl rfl ?_
        refine O.skip rfl rfl ?_
        refine O.skip rfl rfl ?_
        refine O.skip rfl rfl ?_
        refine O.pick_true (v := (.bool true)) rfl rfl rfl rfl ?_
        refine WL.nil ?_
        have hq : true = b3 := Option.some.inj (show some true = some b3 from hm4)
        subst hq
        exact ⟨rfl, rfl, rfl, rfl, rfl, rfl, rfl, (congrArg Value.bool hc3).symm, rfl, H⟩
       ·
        refine WL.reset (i := 25) (v := .bool false) (congrArg Value.bool hc3) ?_
        refine O.move (v := (.int .u8 (x1.toNat : Int))) rfl rfl rfl ?_
        refine O.neq rfl rfl rfl rfl ?_
        refine O.move (v := (.bool ((x1.toNat : Int) != 95))) rfl rfl rfl ?_
        obtain ⟨b4, hm5, hm4⟩ := bind_some hm4
        refine WL.cut 5 (fun f w => f 0 = (.string a0) ∧ f 7 = v1 ∧ f 8 = (.int .i64 ((t1.length : Nat) : Int)) ∧ f 9 = (.int .i64 (ik1 : Int)) ∧ f 22 = (.bool true) ∧ f 23 = (.int .i64 (ik1 : Int)) ∧ f 24 = (.bool ((ik1 : Int) == 0)) ∧ f 25 = (.bool false) ∧ f 26 = (.int .u8 (x1.toNat : Int)) ∧ f 27 = (.bool ((x1.toNat : Int) != 95)) ∧ f 28 = (.bool ((x1.toNat : Int) != 95)) ∧ f 33 = .bool b4 ∧ Inv w0 w [heldI b1 ob1]) ?_ ?_
        ·
         rcases ite_some hm5 with ⟨hc4, hm5⟩ | ⟨hc4, hm5⟩
         ·
          refine WL.reset (i := 28) (v := .bool true) (congrArg Value.bool hc4) ?_
          refine O.move (v := (.int .u8 (x1.toNat : Int))) rfl rfl rfl ?_
          obtain ⟨t2, ht2, hm5⟩ := bind_some hm5
          refine O.convI (by rw [Tryz.underlying5]; rfl) Tryz.underlying3 ht2 rfl rfl rfl ?_
          obtain ⟨t3, hy1, hm5⟩ := bind_some hm5
          refine O.call Tryz.call80 rfl rfl rfl (c_rate_within _ _ _ hy1) ?_
          rintro _ w2 hb2 rfl
          have H := H.ext hb2
          refine O.not rfl rfl rfl ?_
          refine O.pick_true (v := (.bool (!t3))) rfl rfl rfl rfl ?_
          refine WL.nil ?_
          have hq : (!t3) = b4 := Option.some.inj (show some (!t3) = some b4 from hm5)
          subst hq
          exact ⟨rfl, rfl, rfl, rfl, rfl, rfl, rfl, rfl, rfl, rfl, (congrArg Value.bool hc4).symm, rfl, H⟩
         ·
          refine WL.reset (i := 28) (v := .bool false) (congrArg Value.bool hc4) ?_
          refine O.skip rfl rfl ?_
          refine O.skip rfl rfl ?_
          refine O.skip rfl rfl ?_
          refine O.skip rfl rfl ?_
          refine O.pick_false (v := (.bool false)) rfl rfl rfl rfl ?_
          refine WL.nil ?_
          have hq : false = b4 := Option.some.inj (show some false = some b4 from hm5)
          subst hq
          exact ⟨rfl, rfl, rfl, rfl, rfl, rfl, rfl, rfl, rfl, rfl, (congrArg Value.bool hc4).symm, rfl, H⟩
        ·
         rintro f w ⟨hf0, hf7, hf8, hf9, hf22, hf23, hf24, hf25, hf26, hf27, hf28, hf33, H⟩
         obtain ⟨u3, rfl⟩ : ∃ u3, f = (upd (upd (upd (upd (upd (upd (upd (upd (upd (upd (upd (upd u3 0 (.string a0)) 7 v1) 8 (.int .i64 ((t1.length : Nat) : Int))) 9 (.int .i64 (ik1 : Int))) 22 (.bool true)) 23 (.int .i64 (ik1 : Int))) 24 (.bool ((ik1 : Int) == 0))) 25 (.bool false)) 26 (.int .u8 (x1.toNat : Int))) 27 (.bool ((x1.toNat : Int) != 95))) 28 (.bool ((x1.toNat : Int) != 95))) 33 (.bool b4)) := ⟨f, by rw [upd_self hf0, upd_self hf7, upd_self hf8, upd_self hf9, upd_self hf22, upd_self hf23, upd_self hf24, upd_self hf25, upd_self hf26, upd_self hf27, upd_self hf28, upd_self hf33]⟩
         refine O.pick_false (v := (.bool b4)) rfl rfl rfl rfl ?_
         refine WL.nil ?_
         have hq : b4 = b3 := Option.some.inj (show some b4 = some b3 from hm4)
         subst hq
         exact ⟨rfl, rfl, rfl, rfl, rfl, rfl, rfl, (congrArg Value.bool hc3).symm, rfl, H⟩
      ·
       rintro f w ⟨hf0, hf7, hf8, hf9, hf22, hf23, hf24, hf25, hf34, H⟩
       obtain ⟨u4, rfl⟩ := up9 hf0 hf7 hf8 hf9 hf22 hf23 hf24 hf25 hf34
       refine O.pick_true (v := (.bool b3)) rfl rfl rfl rfl ?_
       refine WL.nil ?_
       have hq : b3 = b2 := Option.some.inj (show some b3 = some b2 from hm3)
       subst hq
       exact ⟨rfl, rfl, rfl, rfl, rfl, H⟩
     ·
      refine WL.reset (i := 22) (v := .bool false) (congrArg Value.bool hc2) ?_
      refine O.skip rfl rfl ?_
      refine O.skip rfl rfl ?_
      refine O.skip rfl rfl ?_
      refine O.skip rfl rfl ?_
      refine O.skip rfl rfl ?_
      refine O.skip rfl rfl ?_
      refine O.skip rfl rfl ?_
      refine O.skip rfl rfl ?_
      refine O.skip rfl rfl ?_
      refine O.skip rfl rfl ?_
      refine O.skip rfl rfl ?_
      refine O.skip rfl rfl ?_
      refine O.pick_false (v := (.bool false)) rfl rfl rfl rfl ?_
      refine WL.nil ?_
      have hq : false = b2 := Option.some.inj (show some false = some b2 from hm3)
      subst hq
      exact ⟨rfl, rfl, rfl, rfl, rfl, H⟩
    ·
     rintro f w ⟨hf0, hf7, hf8, hf9, hf35, H⟩
     obtain ⟨u5, rfl⟩ := up5 hf0 hf7 hf8 hf9 hf35
     refine WL.nil ?_
     rcases ite_some hm2 with ⟨hc5, hm2⟩ | ⟨hc5, hm2⟩
     ·
      refine W.cond_true (congrArg Value.bool hc5) ?_
      refine W.seq ?_
      refine W.region ?_
      refine O.assign (v := (.bool false)) rfl rfl rfl ?_
      refine WL.nil ?_
      refine W.ret ?_
      obtain rfl := Option.some.inj hm2
      refine ⟨_, rfl, ?_⟩
      rintro rfl
      have hq : false = r0 := Option.some.inj (show some false = some r0 from hm)
      subst hq
      exact ends1 Tryz.results79 rfl ⟨_, rfl, H.base, rfl⟩
     ·
      refine W.cond_false (congrArg Value.bool hc5) ?_
      refine W.skip ?_
      refine W.region ?_
      refine O.add rfl rfl rfl rfl hinck1 ?_
      refine O.move (v := .int .i64 ((ik1 : Int) + 1)) rfl rfl rfl ?_
      refine WL.nil ?_
      obtain rfl := Option.some.inj hm2
      exact ⟨_, rfl, rfl, rangeN_next hdropk1, rfl, rfl, rfl, rfl, H⟩
  ·
   rintro ik1 _ f w ⟨rfl, hdropk1, hf9, hf8, hf0, hf7, H⟩ hfin
   have hltk1 := rangeN_end hdropk1
   obtain ⟨u6, rfl⟩ := up4 hf9 hf8 hf0 hf7
   refine W.seq ?_
   refine W.region ?_
   refine O.lss rfl rfl rfl rfl ?_
   refine WL.nil ?_
   refine W.seq ?_
   refine W.cond_false (congrArg Value.bool (decide_eq_false hltk1)) ?_
   refine W.exit ?_
   obtain rfl : Ctl.next () = o1 := hfin
   have H := H.keep [] [] rfl (by decide)
   refine xT rfl ?_
   exact ⟨rfl, rfl, H⟩
 ·
  rintro f w ⟨rfl, hf0, H⟩
  obtain ⟨u7, rfl⟩ := up1 hf0
  refine W.seq ?_
  refine W.region ?_
  refine O.move (v := (.string a0)) rfl rfl rfl ?_
  refine O.lenStr Tryz.underlying9 rfl rfl rfl ?_
  obtain ⟨t4, hy2, hm⟩ := bind_some hm
  refine O.call Tryz.call80 rfl rfl rfl (c_rate_within _ _ _ hy2) ?_
  rintro _ w3 hb3 rfl
  have H := H.ext hb3
  refine O.assign (v := (.bool t4)) rfl rfl rfl ?_
  refine WL.nil ?_
  refine W.ret ?_
  have hq : t4 = r0 := Option.some.inj (show some t4 = some r0 from hm)
  subst hq
  exact ends1 Tryz.results79 rfl ⟨_, rfl, H.base, rfl⟩

theorem c_slices_IndexFunc_int {w0 : World} (va0 : Value) (a0 : (List Int)) (ha0 : SliceR w0 va0 a0) (va1 : Value) (a1 : Int → Option (Bool)) (ha1 : ∀ (w : World), Below w0.heap.size w0 w → ∀ (x0 : Int) (y0 : Bool), a1 x0 = some y0 → CallsV Tryz.prog va1 #[(.int .i64 x0)] w (Ret w fun _ v => v = (.bool y0))) {r0 : Int} (hm : slices_IndexFunc_int a0 a1 = some r0) :
  Calls Tryz.prog 91 #[va0, va1] w0 (Ret w0 fun _ v => v = (.int .i64 r0)) := by
 unfold slices_IndexFunc_int at hm
 refine calls_of_W Tryz.func91 rfl Tryz.ntmps91 (Nat.le_of_ble_eq_true rfl) ?_
 have H := Inv.start (w := w0)
 refine W.seq ?_
 refine W.region ?_
 refine O.assign (v := (.int .i64 0)) rfl rfl rfl ?_
 refine WL.nil ?_
 refine W.seq ?_
 refine W.seq ?_
 refine W.region ?_
 refine O.move (v := va0) rfl rfl rfl ?_
 refine O.lenS Tryz.underlying33 (H.arg ha0) rfl rfl rfl ?_
 refine O.move (v := (.int .i64 0)) rfl rfl rfl ?_
 refine WL.nil ?_
 obtain ⟨o1, hm1, hm⟩ := bind_some hm
 refine W.via (fun f w => o1 = .next () ∧ Inv w0 w []) ?_ ?_
 ·
  refine W.block ?_
  have hbdik1 := (H.arg ha0).len_le
  refine W.rangeN (i := 0) hm1 (fun rem ik1 s f w => () = s ∧ (ik1 : Int) + rem = max 0 ((a0.length : Nat) : Int) ∧ f 8 = .int .i64 (ik1 : Int) ∧ f 7 = (.int .i64 ((a0.length : Nat) : Int)) ∧ f 0 = va0 ∧ f 1 = va1 ∧ Inv w0 w []) ?_ ?_ ?_
  ·
   exact ⟨rfl, rangeN_start, rfl, rfl, rfl, rfl, H⟩
  ·
   rintro k ik1 _ st f w ⟨rfl, hdropk1, hf8, hf7, hf0, hf1, H⟩ hm2
   have hltk1 := rangeN_lt hdropk1
   obtain ⟨u1, rfl⟩ := up4 hf8 hf7 hf0 hf1
   have hinck1 := addI_lt hltk1 hbdik1
   refine W.seq ?_
   refine W.region ?_
   refine O.lss rfl rfl rfl rfl ?_
   refine WL.nil ?_
   refine W.seq ?_
   refine W.cond_true (congrArg Value.bool (decide_eq_true hltk1)) ?_
   refine W.skip ?_
   refine W.seq ?_
   refine W.block ?_
   refine W.seq ?_
   refine W.region ?_
   refine O.move (v := (.int .i64 (ik1 : Int))) rfl rfl rfl ?_
   refine O.assign (v := (.int .i64 (ik1 : Int))) rfl rfl rfl ?_
   refine WL.nil ?_
   refine W.seq ?_
   refine W.region ?_
   refine O.move (v := va1) rfl rfl rfl ?_
   refine O.move (v := va0) rfl rfl rfl ?_
   refine O.move (v := (.int .i64 (ik1 : Int))) rfl rfl rfl ?_
   obtain ⟨x1, hx1, hm2⟩ := bind_some hm2
   obtain ⟨p1, hp1, hrp1⟩ := fix_indexAddr Tryz.underlying33 sz3 ha0 hx1
   refine hrp1 rfl rfl rfl rfl ?_
   refine O.load sc3 rfl rfl rfl ((hp1.mono H.base).flat 0 _ rfl) ?_
   obtain ⟨t1, hy1, hm2⟩ := bind_some hm2
   refine O.callV rfl rfl rfl rfl (ha1 _ H.base _ _ hy1) ?_
   rintro _ w1 hb1 rfl
   have H := H.ext hb1
   refine WL.nil ?_
   rcases ite_some hm2 with ⟨hc1, hm2⟩ | ⟨hc1, hm2⟩
   ·
    refine W.cond_true (congrArg Value.bool hc1) ?_
    refine W.seq ?_
    refine W.region ?_
    refine O.move (v := (.int .i64 (ik1 : Int))) rfl rfl rfl ?_
    refine O.assign (v := (.int .i64 (ik1 : Int))) rfl rfl rfl ?_
    refine WL.nil ?_
    refine W.ret ?_
    obtain rfl := Option.some.inj hm2
    refine ⟨_, rfl, ?_⟩
    rintro rfl
    have hq : (ik1 : Int) = r0 := Option.some.inj (show some (ik1 : Int) = some r0 from hm)
    subst hq
    exact ends1 Tryz.results91 rfl ⟨_, rfl, H.base, rfl⟩
   ·
    refine W.cond_false (congrArg Value.bool hc1) ?_
    refine W.skip ?_
    refine W.region ?_
    refine O.add rfl rfl rfl rfl hinck1 ?_
    refine O.move (v := .int .i64 ((ik1 : Int) + 1)) rfl rfl rfl ?_
    refine WL.nil ?_
    obtain rfl := Option.some.inj hm2
    exact ⟨_, rfl, rfl, rangeN_next hdropk1, rfl, rfl, rfl, rfl, H⟩
  ·
   rintro ik1 _ f w ⟨rfl, hdropk1, hf8, hf7, hf0, hf1, H⟩ hfin
   have hltk1 := rangeN_end hdropk1
   obtain ⟨u2, rfl⟩ := up4 hf8 hf7 hf0 hf1
   refine W.seq ?_
   refine W.region ?_
   refine O.lss rfl rfl rfl rfl ?_
   refine WL.nil ?_
   refine W.seq ?_
   refine W.cond_false (congrArg Value.bool (decide_eq_false hltk1)) ?_
   refine W.exit ?_
   obtain rfl : Ctl.next () = o1 := hfin
   refine xT rfl ?_
   exact ⟨rfl, H⟩
 ·
  rintro f w ⟨rfl, H⟩
  refine W.seq ?_
  refine W.region ?_
  refine O.assign (v := (.int .i64 (-1))) rfl rfl rfl ?_
  refine WL.nil ?_
  refine W.ret ?_
  have hq : (-1) = r0 := Option.some.inj (show some (-1) = some r0 from hm)
  subst hq
  exact ends1 Tryz.results91 rfl ⟨_, rfl, H.base, rfl⟩

theorem c_slices_ContainsFunc_int {w0 : World} (va0 : Value) (a0 : (List Int)) (ha0 : SliceR w0 va0 a0) (va1 : Value) (a1 : Int → Option (Bool)) (ha1 : ∀ (w : World), Below w0.heap.size w0 w → ∀ (x0 : Int) (y0 : Bool), a1 x0 = some y0 → CallsV Tryz.prog va1 #[(.int .i64 x0)] w (Ret w fun _ v => v = (.bool y0))) {r0 : Bool} (hm : slices_ContainsFunc_int a0 a1 = some r0) :
  Calls Tryz.prog 77 #[va0, va1] w0 (Ret w0 fun _ v => v = (.bool r0)) := by
 unfold slices_ContainsFunc_int at hm
 refine calls_of_W Tryz.func77 rfl Tryz.ntmps77 (Nat.le_of_ble_eq_true rfl) ?_
 have H := Inv.start (w := w0)
 refine W.seq ?_
 refine W.region ?_
 refine O.assign (v := (.bool false)) rfl rfl rfl ?_
 refine WL.nil ?_
 refine W.seq ?_
 refine W.region ?_
 refine O.move (v := va0) rfl rfl rfl ?_
 refine O.move (v := va1) rfl rfl rfl ?_
 obtain ⟨t1, hy1, hm⟩ := bind_some hm
 refine O.call Tryz.call91 rfl rfl rfl (c_slices_IndexFunc_int _ _ (H.arg ha0) va1 a1 (fun w hw => ha1 w (H.base.trans (hw.mono H.base.size))) hy1) ?_
 rintro _ w1 hb1 rfl
 have H := H.ext hb1
 refine O.geq rfl rfl rfl rfl ?_
 refine O.assign (v := (.bool (decide (0 ≤ t1)))) rfl rfl rfl ?_
 refine WL.nil ?_
 refine W.ret ?_
 have hq : (decide (0 ≤ t1)) = r0 := Option.some.inj (show some (decide (0 ≤ t1)) = some r0 from hm)
 subst hq
 exact ends1 Tryz.results77 rfl ⟨_, rfl, H.base, rfl⟩

theorem c_rate_far {w0 : World} (a0 : Int) {r0 : Bool} (hm : rate_far a0 = some r0) :
  Calls Tryz.prog 81 #[(.int .i64 a0)] w0 (Ret w0 fun _ v => v = (.bool r0)) := by
 unfold rate_far at hm
 refine calls_of_W Tryz.func81 rfl Tryz.ntmps81 (Nat.le_of_ble_eq_true rfl) ?_
 have H := Inv.start (w := w0)
 refine W.seq ?_
 refine W.region ?_
 refine O.assign (v := (.bool false)) rfl rfl rfl ?_
 refine WL.nil ?_
 refine W.seq ?_
 refine W.region ?_
 refine O.move (v := (.int .i64 a0)) rfl rfl rfl ?_
 obtain ⟨t1, hy1, hm⟩ := bind_some hm
 refine O.call Tryz.call80 rfl rfl rfl (c_rate_within _ _ _ hy1) ?_
 rintro _ w1 hb1 rfl
 have H := H.ext hb1
 refine O.not rfl rfl rfl ?_
 refine O.assign (v := (.bool (!t1))) rfl rfl rfl ?_
 refine WL.nil ?_
 refine W.ret ?_
 have hq : (!t1) = r0 := Option.some.inj (show some (!t1) = some r0 from hm)
 subst hq
 exact ends1 Tryz.results81 rfl ⟨_, rfl, H.base, rfl⟩

theorem c_rate_ValidBox {w0 : World} (va0_0 : Value) (a0 : GBox) (ha0_0 : SliceR w0 va0_0 a0.Errors) {r0 : Bool} (hm : rate_ValidBox a0 = some r0) :
  Calls Tryz.prog 58 #[(.agg #[(.string a0.Name), va0_0])] w0 (Ret w0 fun _ v => v = (.bool r0)) := by
 unfold rate_ValidBox at hm
 refine calls_of_W Tryz.func58 rfl Tryz.ntmps58 (Nat.le_of_ble_eq_true rfl) ?_
 have H := Inv.start (w := w0)
 refine W.seq ?_
 refine W.region ?_
 refine O.box [(.string a0.Name), va0_0] H rfl rfl rfl rfl ?_
 intro b1 w1 H hb1
 refine O.assign (v := (.bool false)) rfl rfl rfl ?_
 refine WL.nil ?_
 refine W.seq ?_
 refine W.region ?_
 refine O.fieldAddr fd47_0 rfl rfl rfl ?_
 refine O.load sc9 rfl rfl rfl (H.cell 0 rfl 0 _ rfl) ?_
 obtain ⟨t1, hy1, hm⟩ := bind_some hm
 refine O.call Tryz.call79 rfl rfl rfl (c_rate_name _ hy1) ?_
 rintro _ w2 hb2 rfl
 have H := H.ext hb2
 refine O.move (v := (.bool t1)) rfl rfl rfl ?_
 obtain ⟨b2, hm1, hm⟩ := bind_some hm
 refine WL.cut 5 (fun f w => f 1 = (.pointer (some ⟨b1, 0, none⟩)) ∧ f 11 = .bool b2 ∧ Inv w0 w [boxI b1 47 [(.string a0.Name), va0_0]]) ?_ ?_
 ·
  rcases ite_some hm1 with ⟨hc1, hm1⟩ | ⟨hc1, hm1⟩
  ·
   refine WL.reset (i := 6) (v := .bool true) (congrArg Value.bool hc1) ?_
   refine O.fieldAddr fd47_1 rfl rfl rfl ?_
   refine O.load sc33 rfl rfl rfl (H.cell 0 rfl 1 _ rfl) ?_
   refine O.lenS Tryz.underlying33 (H.arg ha0_0) rfl rfl rfl ?_
   obtain ⟨t2, hy2, hm1⟩ := bind_some hm1
   refine O.call Tryz.call80 rfl rfl rfl (c_rate_within _ _ _ hy2) ?_
   rintro _ w3 hb3 rfl
   have H := H.ext hb3
   refine O.pick_true (v := (.bool t2)) rfl rfl rfl rfl ?_
   refine WL.nil ?_
   have hq : t2 = b2 := Option.some.inj (show some t2 = some b2 from hm1)
   subst hq
   exact ⟨rfl, rfl, H⟩
  ·
   refine WL.reset (i := 6) (v := .bool false) (congrArg Value.bool hc1) ?_
   refine O.skip rfl rfl ?_
   refine O.skip rfl rfl ?_
   refine O.skip rfl rfl ?_
   refine O.skip rfl rfl ?_
   refine O.pick_false (v := (.bool false)) rfl rfl rfl rfl ?_
   refine WL.nil ?_
   have hq : false = b2 := Option.some.inj (show some false = some b2 from hm1)
   subst hq
   exact ⟨rfl, rfl, H⟩
 ·
  rintro f w ⟨hf1, hf11, H⟩
  obtain ⟨u1, rfl⟩ := up2 hf1 hf11
  refine O.move (v := (.bool b2)) rfl rfl rfl ?_
  obtain ⟨b3, hm2, hm⟩ := bind_some hm
  refine WL.cut 5 (fun f w => f 17 = .bool b3 ∧ Inv w0 w [boxI b1 47 [(.string a0.Name), va0_0]]) ?_ ?_
  ·
   rcases ite_some hm2 with ⟨hc2, hm2⟩ | ⟨hc2, hm2⟩
   ·
    refine WL.reset (i := 12) (v := .bool true) (congrArg Value.bool hc2) ?_
    refine O.fieldAddr fd47_1 rfl rfl rfl ?_
    refine O.load sc33 rfl rfl rfl (H.cell 0 rfl 1 _ rfl) ?_
    obtain ⟨t3, hy3, hm2⟩ := bind_some hm2
    refine O.call Tryz.call77 rfl rfl rfl (c_slices_ContainsFunc_int _ _ (H.arg ha0_0) _ (fun x0 => rate_far x0) (fun w hw x0 _ hy => callsV_mk Tryz.call81 (c_rate_far x0 hy)) hy3) ?_
    rintro _ w4 hb4 rfl
    have H := H.ext hb4
    refine O.not rfl rfl rfl ?_
    refine O.pick_true (v := (.bool (!t3))) rfl rfl rfl rfl ?_
    refine WL.nil ?_
    have hq : (!t3) = b3 := Option.some.inj (show some (!t3) = some b3 from hm2)
    subst hq
    exact ⟨rfl, H⟩
   ·
    refine WL.reset (i := 12) (v := .bool false) (congrArg Value.bool hc2) ?_
    refine O.skip rfl rfl ?_
    refine O.skip rfl rfl ?_
    refine O.skip rfl rfl ?_
    refine O.skip rfl rfl ?_
    refine O.pick_false (v := (.bool false)) rfl rfl rfl rfl ?_
    refine WL.nil ?_
    have hq : false = b3 := Option.some.inj (show some false = some b3 from hm2)
    subst hq
    exact ⟨rfl, H⟩
  ·
   rintro f w ⟨hf17, H⟩
   obtain ⟨u2, rfl⟩ := up1 hf17
   refine O.assign (v := (.bool b3)) rfl rfl rfl ?_
   refine WL.nil ?_
   refine W.ret ?_
   have hq : b3 = r0 := Option.some.inj (show some b3 = some r0 from hm)
   subst hq
   exact ends1 Tryz.results58 rfl ⟨_, rfl, H.base, rfl⟩

theorem it_rate_differences_c1 {wi : World} {Kp : World → Prop} (pc0 : Addr) (c0 : Int) (pc1 : Addr) (vc1 : Value) (c1 : List Int) {r : List Int} (hm : rate_differences_c1 c0 c1 = some r)
    (hk : ∀ w, Kp w → (∀ j c, (Flat.cells c0)[j]? = some c → w.cell? (pc0.add j) = some c) ∧ (∀ j c, [vc1][j]? = some c → w.cell? (pc1.add j) = some c) ∧ SliceR w vc1 c1) :
    IterAt Tryz.prog 61 #[.pointer (some pc0), .pointer (some pc1)] (repF (α := Int)) (fun ys => ys = r) Kp wi := by
  intro l J Jx hc h0
  refine calls_of_W Tryz.func61 rfl Tryz.ntmps61 (Nat.le_of_ble_eq_true rfl) ?_
  have H := InvI.start hc h0
  have hK := hk _ (InvI.kp H)
  unfold rate_differences_c1 at hm
  refine W.seq ?_
  refine W.region ?_
  refine O.load (q := pc0) (v := .int .i64 c0) sc3 rfl rfl rfl (hK.1 0 _ rfl) ?_
  refine O.assign (v := .int .i64 c0) rfl rfl rfl ?_
  refine WL.nil ?_
  refine W.block ?_
  refine W.loopL (l := r) (fun rem f w => ∃ ik : Nat, r.drop ik = rem ∧ ∃ n i, diffsFrom c0 c1 n i = some rem ∧ f 4 = .int .i64 i ∧ f 0 = .func (.yield l) #[] #[] ∧ f 1 = .pointer (some pc0) ∧ f 2 = .pointer (some pc1) ∧ ∃ C, InvI wi w [consI hc (r.take ik) C]) ?_ ?_ ?_
  · exact ⟨0, List.drop_zero, _, _, hm, rfl, rfl, rfl, rfl, _, H⟩
  · rintro y xs f w ⟨ik, hd0, n, i, hm, hf4, hf0, hf1, hf2, C, H⟩
    obtain ⟨u1, rfl⟩ := up4 hf4 hf0 hf1 hf2
    have hK := hk _ (InvI.kp H)
    have htake : r.take (ik + 1) = r.take ik ++ [y] := by
      have hy : r[ik]? = some y := by have := congrArg (fun m => m[0]?) hd0; simpa using this
      rw [List.take_add_one, hy]; rfl
    have hsplit : r.take ik ++ y :: xs = r := by rw [← hd0, List.take_append_drop]
    cases n with
    | zero => cases hm
    | succ n =>
    rw [diffsFrom] at hm
    by_cases hlt : i < (c1.length : Int)
    · rw [if_pos hlt] at hm
      obtain ⟨x1, hx1, hm⟩ := bind_some hm
      obtain ⟨j1, hj1, hm⟩ := bind_some hm
      obtain ⟨x2, hx2, hm⟩ := bind_some hm
      obtain ⟨d1, hd1, hm⟩ := bind_some hm
      obtain ⟨i1, hi1, hm⟩ := bind_some hm
      obtain ⟨xs1, hxs, hm⟩ := bind_some hm
      obtain ⟨rfl, rfl⟩ : d1 = y ∧ xs1 = xs := by have := Option.some.inj hm; simpa using this
      refine W.seq ?_
      refine W.seq ?_
      refine W.region ?_
      refine O.move (v := .int .i64 i) rfl rfl rfl ?_
      refine O.load (q := pc1) (v := vc1) sc33 rfl rfl rfl (hK.2.1 0 _ rfl) ?_
      refine O.lenS Tryz.underlying33 hK.2.2 rfl rfl rfl ?_
      refine O.lss rfl rfl rfl rfl ?_
      refine WL.nil ?_
      refine W.cond_true (congrArg Value.bool (decide_eq_true hlt)) ?_
      refine W.skip ?_
      refine W.seq ?_
      refine W.block ?_
      refine W.seq ?_
      obtain ⟨wd, rfl⟩ : ∃ x, x = w := ⟨w, rfl⟩
      obtain ⟨p1, hp1, hr1⟩ := fix_indexAddr Tryz.underlying33 sz3 hK.2.2 hx1
      obtain ⟨p2, hp2, hr2⟩ := fix_indexAddr Tryz.underlying33 sz3 hK.2.2 hx2
      refine W.drawN 12 (fun f => f 0 = .func (.yield l) #[] #[] ∧ f 1 = .pointer (some pc0) ∧ f 2 = .pointer (some pc1) ∧ f 4 = .int .i64 i ∧ f 13 = .func (.yield l) #[] #[] ∧ f 24 = .int .i64 d1) fol (by kernel_rfl) ?_ ?_
      · refine PL.of (fun _ wk _ hx => O.move (v := .func (.yield l) #[] #[]) rfl rfl rfl (WL.nil ⟨rfl, hx⟩)) ?_
        refine PL.of (fun _ wk _ hx => O.load (q := pc1) (v := vc1) sc33 rfl rfl rfl ((hk _ (InvI.kp (H.ext hx))).2.1 0 _ rfl) (WL.nil ⟨rfl, hx⟩)) ?_
        refine PL.of (fun _ wk _ hx => O.move (v := .int .i64 i) rfl rfl rfl (WL.nil ⟨rfl, hx⟩)) ?_
        refine PL.of (fun _ wk _ hx => hr1 rfl rfl rfl rfl (WL.nil ⟨rfl, hx⟩)) ?_
        refine PL.of (fun _ wk _ hx => O.load sc3 rfl rfl rfl ((hp1.mono hx).flat 0 _ rfl) (WL.nil ⟨rfl, hx⟩)) ?_
        refine PL.of (fun _ wk _ hx => O.load (q := pc1) (v := vc1) sc33 rfl rfl rfl ((hk _ (InvI.kp (H.ext hx))).2.1 0 _ rfl) (WL.nil ⟨rfl, hx⟩)) ?_
        refine PL.of (fun _ wk _ hx => O.move (v := .int .i64 i) rfl rfl rfl (WL.nil ⟨rfl, hx⟩)) ?_
        refine PL.of (fun _ wk _ hx => O.load (q := pc0) (v := .int .i64 c0) sc3 rfl rfl rfl ((hk _ (InvI.kp (H.ext hx))).1 0 _ rfl) (WL.nil ⟨rfl, hx⟩)) ?_
        refine PL.of (fun _ wk _ hx => O.sub rfl rfl rfl rfl hj1 (WL.nil ⟨rfl, hx⟩)) ?_
        refine PL.of (fun _ wk _ hx => hr2 rfl rfl rfl rfl (WL.nil ⟨rfl, hx⟩)) ?_
        refine PL.of (fun _ wk _ hx => O.load sc3 rfl rfl rfl ((hp2.mono hx).flat 0 _ rfl) (WL.nil ⟨rfl, hx⟩)) ?_
        refine PL.of (fun _ wk _ hx => O.sub rfl rfl rfl rfl hd1 (WL.nil ⟨rfl, hx⟩)) ?_
        exact ⟨rfl, rfl, rfl, rfl, rfl, rfl⟩
      · rintro f wk ⟨hf0, hf1, hf2, hf4, h13, h24⟩ _ hx
        obtain ⟨u1, rfl⟩ : ∃ u1, f = (upd (upd (upd (upd (upd (upd u1 4 (.int .i64 i)) 0 (.func (.yield l) #[] #[])) 1 (.pointer (some pc0))) 2 (.pointer (some pc1))) 13 (.func (.yield l) #[] #[])) 24 (.int .i64 d1)) :=
          ⟨f, by rw [upd_self hf4, upd_self hf0, upd_self hf1, upd_self hf2, upd_self h13, upd_self h24]⟩
        refine O.yield d1 [.int .i64 d1] (H.ext hx) ⟨xs1, hsplit⟩ rfl rfl rfl rfl rfl ?_ ?_
        · intro w' C' H
          have hK := hk _ (InvI.kp H)
          refine O.not rfl rfl rfl ?_
          refine WL.nil ?_
          refine W.cond_false rfl ?_
          refine W.skip ?_
          refine W.region ?_
          refine O.move (v := .int .i64 i) rfl rfl rfl ?_
          refine O.load (q := pc0) (v := .int .i64 c0) sc3 rfl rfl rfl (hK.1 0 _ rfl) ?_
          refine O.add rfl rfl rfl rfl hi1 ?_
          refine O.assign (v := .int .i64 i1) rfl rfl rfl ?_
          exact WL.nil ⟨ik + 1, drop_next hd0, _, _, hxs, rfl, rfl, rfl, rfl, _, by rw [htake]; exact H⟩
        · intro w' C' H
          refine O.not rfl rfl rfl ?_
          refine WL.nil ?_
          refine W.cond_true rfl ?_
          refine W.ret ?_
          exact ends0 Tryz.results61 ⟨_, _, rfl, .inr (H.items _ (List.mem_cons_self ..)).1⟩
    · rw [if_neg hlt] at hm
      cases hm
  · rintro f w ⟨ik, hd, n, i, hm, hf4, hf0, hf1, hf2, C, H⟩
    obtain ⟨u1, rfl⟩ := up4 hf4 hf0 hf1 hf2
    have hK := hk _ (InvI.kp H)
    have hlt : ¬ i < (c1.length : Int) := by
      cases n with
      | zero => cases hm
      | succ n =>
        rw [diffsFrom] at hm
        intro hlt
        rw [if_pos hlt] at hm
        obtain ⟨_, _, hm⟩ := bind_some hm
        obtain ⟨_, _, hm⟩ := bind_some hm
        obtain ⟨_, _, hm⟩ := bind_some hm
        obtain ⟨_, _, hm⟩ := bind_some hm
        obtain ⟨_, _, hm⟩ := bind_some hm
        obtain ⟨_, _, hm⟩ := bind_some hm
        cases hm
    refine W.seq ?_
    refine W.seq ?_
    refine W.region ?_
    refine O.move (v := .int .i64 i) rfl rfl rfl ?_
    refine O.load (q := pc1) (v := vc1) sc33 rfl rfl rfl (hK.2.1 0 _ rfl) ?_
    refine O.lenS Tryz.underlying33 hK.2.2 rfl rfl rfl ?_
    refine O.lss rfl rfl rfl rfl ?_
    refine WL.nil ?_
    refine W.cond_false (congrArg Value.bool (decide_eq_false hlt)) ?_
    refine W.exit ?_
    refine xT rfl ?_
    refine ends0 Tryz.results61 ⟨_, C, rfl, .inl ⟨_, rfl, ?_⟩⟩
    have htk : r.take ik = r := List.take_of_length_le (by have := List.drop_eq_nil_iff.1 hd; omega)
    rw [htk] at H
    exact (H.items _ (List.mem_cons_self ..)).1

theorem c_rate_differences {w0 : World} (va0 : Value) (a0 : (List Int)) (ha0 : SliceR w0 va0 a0) (a1 : Int) :
  Calls Tryz.prog 38 #[va0, (.int .i64 a1)] w0 (Ret w0 fun w v => ∃ b2 : Nat, ∃ b1 : Nat, v = (.func (.func 61) #[] #[(.pointer (some ⟨b2, 0, none⟩)), (.pointer (some ⟨b1, 0, none⟩))]) ∧ Inv w0 w [boxI b2 3 [(.int .i64 a1)], boxI b1 33 [va0]]) := by
 refine calls_of_W Tryz.func38 rfl Tryz.ntmps38 (Nat.le_of_ble_eq_true rfl) ?_
 have H := Inv.start (w := w0)
 refine W.seq ?_
 refine W.region ?_
 refine O.box [va0] H rfl rfl rfl (SliceR.cells1 (H.arg ha0)) ?_
 intro b1 w1 H hb1
 refine O.box [(.int .i64 a1)] H rfl rfl rfl rfl ?_
 intro b2 w2 H hb2
 refine O.assign (v := .nilFunc) rfl rfl rfl ?_
 refine WL.nil ?_
 refine W.seq ?_
 refine W.region ?_
 refine O.makeFunc rfl rfl rfl rfl ?_
 refine O.assign (v := (.func (.func 61) #[] #[(.pointer (some ⟨b2, 0, none⟩)), (.pointer (some ⟨b1, 0, none⟩))])) rfl rfl rfl ?_
 refine WL.nil ?_
 refine W.ret ?_
 exact ends1 Tryz.results38 rfl ⟨_, rfl, H.base, ⟨_, _, rfl, H.pick [1, 0] [boxI b2 3 [(.int .i64 a1)], boxI b1 33 [va0]] rfl (by decide)⟩⟩

theorem c_slices_AppendSeq_int {w0 : World} (va1 : Value) (a1 : List Int) (ha1 : IterP Tryz.prog w0 va1 (repF (α := Int)) (fun ys => ys = a1)) {r0 : (List Int)} (hm : slices_AppendSeq_int a1 = some r0) :
  Calls Tryz.prog 82 #[(.slice none 0 0), va1] w0 (Ret w0 fun w v => OwnR w0 w v 3 r0) := by
 unfold slices_AppendSeq_int at hm
 refine calls_of_WM Tryz.func82 rfl Tryz.ntmps82 (Nat.le_of_ble_eq_true rfl) ?_
 have H := Inv.startM (w0 := w0)
 have hmk : (fr0 #[(.slice none 0 0), va1]).marks = [] := rfl
 refine W.seq ?_
 refine W.region ?_
 refine O.box [(.slice none 0 0)] H rfl rfl rfl rfl ?_
 intro b1 w1 H hb1
 have H := H.addNil (α := Int) (E := 3)
 have H := H.addNil (α := Int) (E := 3)
 refine O.assign (v := (.slice none 0 0)) rfl rfl rfl ?_
 refine WL.nil ?_
 refine W.seq ?_
 refine W.seq ?_
 refine W.region ?_
 refine O.move (v := va1) rfl rfl rfl ?_
 refine WL.nil ?_
 obtain ⟨s1, hm1, hm⟩ := bind_some hm
 refine W.via (fun f w => ∃ ms1 : List Nat, ∃ v4 : Value, f 2 = (.pointer (some ⟨b1, 0, none⟩)) ∧ f.marks = ms1 ∧ Inv w0 w [marksI ms1, boxI b1 33 [v4], ownI (α := Int) v4 3 s1]) ?_ ?_
 ·
  refine W.block ?_
  obtain ⟨gf1, lb1, hvgf1, hcbgf1, hitgf1⟩ := ha1
  have H := H.keep [0, 1, 2] [marksI [], boxI b1 33 [(.slice none 0 0)], ownI (α := Int) (.slice none 0 0) 3 ([] : List Int)] rfl (by decide)
  refine W.rangeFuncL (α := Int) (σ := (List Int)) (X := (List Int)) (xs := a1) (rep := (repF (α := Int))) hm1 (fun s L => ∃ z2 : (List Int), ∃ v2 : Value, z2 = s ∧ L = [boxI b1 33 [v2], ownI (α := Int) v2 3 z2]) (fun y j L => match j with | some j => j = 0 ∧ (False) | none => False) (show ev _ _ = _ from hvgf1) hcbgf1 rfl (fun _ _ _ h => by rw [h]; rfl) (fun Kp W hs hk => hitgf1 W Kp (Nat.le_trans H.base.size hs) fun w1 hw => by obtain ⟨_, _, _, _, _, hI⟩ := hk w1 hw; exact hI.base) H ⟨_, (.slice none 0 0), rfl, rfl⟩ ?_ ?_ ?_ ?_
  ·
   rintro _ rs lp lp2 iz x1 _ st _ w _ ⟨z2, v2, rfl, rfl⟩ rfl hm2 H
   change W _ _ _ _ _ _ _ (upd _ 7 (.int .i64 x1)) w
   refine W.region ?_
   refine O.assign (v := (.int .i64 x1)) rfl rfl rfl ?_
   refine WL.nil ?_
   refine ⟨_, H, fun w hsl H => ?_⟩
   refine W.block ?_
   refine W.region ?_
   refine O.load sc33 rfl rfl rfl (H.cell 3 rfl 0 _ rfl) ?_
   refine O.move (v := (.int .i64 x1)) rfl rfl rfl ?_
   refine O.buildSlice (α := Int) [(.int .i64 x1)] [x1] Tryz.underlying33 el3 H rfl rfl rfl rfl rfl rfl rfl ?_
   intro v5 w2 H hb2
   obtain ⟨t1, ht1, hm2⟩ := bind_some hm2
   refine O.append 4 Tryz.underlying33 el3 rfl H rfl (H.own 5 rfl) ht1 rfl rfl rfl rfl ?_
   intro v6 w3 H
   refine O.store 3 0 [v6] [v6] sz33 H rfl rfl rfl rfl rfl (SliceR.cells1 (H.own 4 rfl)) ⟨⟨rfl, rfl⟩, rfl⟩ (one_cons (SliceR.one (H.own 4 rfl)) one_nil) ?_
   intro w4 H
   refine WL.nil ?_
   have H := H.keep [0, 1, 2, 3, 4] [rs, lp2, marksI [], boxI b1 33 [v6], ownI (α := Int) v6 3 t1] rfl (by decide)
   obtain rfl := Option.some.inj hm2
   exact ⟨_, _, rfl, ⟨_, v6, rfl, rfl⟩, H⟩
  ·
   rintro D1 _ _ w ⟨z2, v2, rfl, rfl⟩ hfin H
   have hq : z2 = s1 := hfin
   subst hq
   have hmk := congrArg (D1 :: ·) hmk
   exact ⟨_, v2, rfl, hmk, H⟩
  ·
   rintro _ _ _ _ ⟨_, h⟩; exact h.elim
  ·
   rintro _ _ _ h; exact h.elim
 ·
  rintro f w ⟨ms1, v4, hf2, hmk, H⟩
  obtain ⟨u1, rfl⟩ := up1 hf2
  refine W.seq ?_
  refine W.region ?_
  refine O.load sc33 rfl rfl rfl (H.cell 1 rfl 0 _ rfl) ?_
  refine O.assign (v := v4) rfl rfl rfl ?_
  refine WL.nil ?_
  refine W.ret ?_
  refine endsM_mk H hmk ?_
  intro w H _
  have hq : s1 = r0 := Option.some.inj (show some s1 = some r0 from hm)
  subst hq
  exact ends1 Tryz.results82 rfl ⟨_, rfl, H.base, H.ownR 2 rfl⟩

theorem c_slices_Collect_int {w0 : World} (va0 : Value) (a0 : List Int) (ha0 : IterP Tryz.prog w0 va0 (repF (α := Int)) (fun ys => ys = a0)) {r0 : (List Int)} (hm : slices_Collect_int a0 = some r0) :
  Calls Tryz.prog 59 #[va0] w0 (Ret w0 fun w v => OwnR w0 w v 3 r0) := by
 unfold slices_Collect_int at hm
 refine calls_of_W Tryz.func59 rfl Tryz.ntmps59 (Nat.le_of_ble_eq_true rfl) ?_
 have H := Inv.start (w := w0)
 refine W.seq ?_
 refine W.region ?_
 have H := H.addNil (α := Int) (E := 3)
 refine O.assign (v := (.slice none 0 0)) rfl rfl rfl ?_
 refine WL.nil ?_
 refine W.seq ?_
 refine W.region ?_
 refine O.move (v := va0) rfl rfl rfl ?_
 obtain ⟨t1, hy1, hm⟩ := bind_some hm
 refine O.call Tryz.call82 rfl rfl rfl (c_slices_AppendSeq_int va0 a0 (ha0.mono H.base) hy1) ?_
 rintro v1 w1 hb1 ho1
 have H := H.addOwn hb1 ho1
 refine O.assign (v := v1) rfl rfl rfl ?_
 refine WL.nil ?_
 refine W.ret ?_
 have hq : t1 = r0 := Option.some.inj (show some t1 = some r0 from hm)
 subst hq
 exact ends1 Tryz.results59 rfl ⟨_, rfl, H.base, H.ownR 1 rfl⟩

theorem c_rate_Weekly {w0 : World} (va0_0 : Value) (a0 : GBox) (ha0_0 : SliceR w0 va0_0 a0.Errors) {r0 : (List Int)} {r1 : Int} (hm : rate_Weekly a0 = some (r0, r1)) :
  Calls Tryz.prog 35 #[(.agg #[(.string a0.Name), va0_0])] w0 (Ret w0 fun w v => ∃ vr0 : Value, v = .tuple #[vr0, (.int .i64 r1)] ∧ OwnR w0 w vr0 3 r0) := by
 unfold rate_Weekly at hm
 refine calls_of_W Tryz.func35 rfl Tryz.ntmps35 (Nat.le_of_ble_eq_true rfl) ?_
 have H := Inv.start (w := w0)
 refine W.seq ?_
 refine W.region ?_
 refine O.box [(.string a0.Name), va0_0] H rfl rfl rfl rfl ?_
 intro b1 w1 H hb1
 have H := H.addNil (α := Int) (E := 3)
 refine O.assign (v := (.slice none 0 0)) rfl rfl rfl ?_
 refine O.assign (v := (.int .i64 0)) rfl rfl rfl ?_
 refine WL.nil ?_
 refine W.seq ?_
 refine W.seq ?_
 refine W.region ?_
 refine O.loadA [(.string a0.Name), va0_0] ag47 rfl rfl rfl rfl (H.cell 0 rfl) ?_
 obtain ⟨t1, hy1, hm⟩ := bind_some hm
 refine O.call Tryz.call58 rfl rfl rfl (c_rate_ValidBox _ (GBox.mk a0.Name a0.Errors) (H.arg ha0_0) hy1) ?_
 rintro _ w2 hb2 rfl
 have H := H.ext hb2
 refine O.not rfl rfl rfl ?_
 refine WL.nil ?_
 rcases ite_some hm with ⟨hc1, hm⟩ | ⟨hc1, hm⟩
 ·
  refine W.cond_true (congrArg Value.bool hc1) ?_
  refine W.seq ?_
  refine W.region ?_
  have H := H.addNil (α := Int) (E := 3)
  refine O.assign (v := (.slice none 0 0)) rfl rfl rfl ?_
  refine O.assign (v := (.int .i64 1)) rfl rfl rfl ?_
  refine WL.nil ?_
  refine W.ret ?_
  have hq : (([] : List Int), 1) = (r0, r1) := Option.some.inj (show some (([] : List Int), 1) = some (r0, r1) from hm)
  obtain ⟨he0, hq0⟩ := Prod.mk.inj hq; clear hq; subst he0
  subst hq0
  exact ends2 Tryz.results35 rfl rfl ⟨_, rfl, H.base, ⟨_, rfl, H.ownR 2 rfl⟩⟩
 ·
  refine W.cond_false (congrArg Value.bool hc1) ?_
  refine W.skip ?_
  refine W.seq ?_
  refine W.region ?_
  refine O.fieldAddr fd47_1 rfl rfl rfl ?_
  refine O.load sc33 rfl rfl rfl (H.cell 0 rfl 1 _ rfl) ?_
  refine O.call Tryz.call38 rfl rfl rfl (c_rate_differences _ _ (H.arg ha0_0) _) ?_
  rintro _ w3 hb3 ⟨b2, b3, rfl, hM1⟩
  have H := H.addAll hb3 hM1
  obtain ⟨xs1, hxs1, hm⟩ := bind_some hm
  obtain ⟨t2, hy2, hm⟩ := bind_some hm
  refine O.call Tryz.call59 rfl rfl rfl (c_slices_Collect_int (.func (.func 61) #[] #[(.pointer (some ⟨b2, 0, none⟩)), (.pointer (some ⟨b3, 0, none⟩))]) xs1 (iterP_mk rfl Tryz.call61 fun _ _ hk => it_rate_differences_c1 _ 7 _ _ a0.Errors hxs1 fun w hw => ⟨cells_mono (H.cell 2 rfl) (hk w hw), cells_mono (H.cell 3 rfl) (hk w hw), (H.arg ha0_0).mono (hk w hw)⟩) hy2) ?_
  rintro v1 w4 hb4 ho1
  have H := H.addOwn hb4 ho1
  refine O.assign (v := v1) rfl rfl rfl ?_
  refine WL.nil ?_
  refine W.seq ?_
  refine W.seq ?_
  refine W.region ?_
  refine O.move (v := v1) rfl rfl rfl ?_
  refine O.lenS Tryz.underlying33 (H.own 4 rfl) rfl rfl rfl ?_
  refine O.eql rfl rfl rfl rfl ?_
  refine WL.nil ?_
  rcases ite_some hm with ⟨hc2, hm⟩ | ⟨hc2, hm⟩
  ·
   refine W.cond_true (congrArg Value.bool hc2) ?_
   refine W.seq ?_
   refine W.region ?_
   have H := H.addNil (α := Int) (E := 3)
   refine O.assign (v := (.slice none 0 0)) rfl rfl rfl ?_
   refine O.assign (v := (.int .i64 8)) rfl rfl rfl ?_
   refine WL.nil ?_
   refine W.ret ?_
   have hq : (([] : List Int), 8) = (r0, r1) := Option.some.inj (show some (([] : List Int), 8) = some (r0, r1) from hm)
   obtain ⟨he0, hq0⟩ := Prod.mk.inj hq; clear hq; subst he0
   subst hq0
   exact ends2 Tryz.results35 rfl rfl ⟨_, rfl, H.base, ⟨_, rfl, H.ownR 5 rfl⟩⟩
  ·
   refine W.cond_false (congrArg Value.bool hc2) ?_
   refine W.skip ?_
   refine W.seq ?_
   refine W.region ?_
   refine O.move (v := v1) rfl rfl rfl ?_
   refine O.assign (v := v1) rfl rfl rfl ?_
   refine O.assign (v := (.int .i64 0)) rfl rfl rfl ?_
   refine WL.nil ?_
   refine W.ret ?_
   have hq : (t2, 0) = (r0, r1) := Option.some.inj (show some (t2, 0) = some (r0, r1) from hm)
   obtain ⟨he0, hq0⟩ := Prod.mk.inj hq; clear hq; subst he0
   subst hq0
   exact ends2 Tryz.results35 rfl rfl ⟨_, rfl, H.base, ⟨_, rfl, H.ownR 4 rfl⟩⟩

theorem it_slices_Values_int_c1 {wi : World} {Kp : World → Prop} (pc0 : Addr) (vc0 : Value) (c0 : List Int) {r : List Int} (hm : slices_Values_int_c1 c0 = some r)
    (hk : ∀ w, Kp w → (∀ j c, [vc0][j]? = some c → w.cell? (pc0.add j) = some c) ∧ SliceR w vc0 c0) : IterAt Tryz.prog 60 #[.pointer (some pc0)] (repF (α := Int)) (fun ys => ys = r) Kp wi := by
  obtain rfl := Option.some.inj hm
  intro l J Jx hc h0
  refine calls_of_W Tryz.func60 rfl Tryz.ntmps60 (Nat.le_of_ble_eq_true rfl) ?_
  have H := InvI.start hc h0
  have hK := hk _ (InvI.kp H)
  refine W.seq ?_
  refine W.region ?_
  refine O.load (q := pc0) (v := vc0) sc33 rfl rfl rfl (hK.1 0 _ rfl) ?_
  refine O.lenS Tryz.underlying33 hK.2 rfl rfl rfl ?_
  refine O.move (v := (.int .i64 0)) rfl rfl rfl ?_
  refine WL.nil ?_
  refine W.block ?_
  refine W.loopL (l := c0) (fun rem f w => ∃ ik : Nat, c0.drop ik = rem ∧ f 7 = .int .i64 (ik : Int) ∧ f 6 = .int .i64 (c0.length : Int) ∧ f 5 = vc0 ∧ f 0 = .func (.yield l) #[] #[] ∧ ∃ C, InvI wi w [consI hc (c0.take ik) C]) ?_ ?_ ?_
  · exact ⟨0, List.drop_zero, rfl, rfl, rfl, rfl, _, H⟩
  · rintro y xs f w ⟨ik, hd, hf7, hf6, hf5, hf0, C, H⟩
    have hlt := drop_lt hd; have hix := drop_idx hd
    obtain ⟨u1, rfl⟩ := up4 hf7 hf6 hf5 hf0
    have hK := hk _ (InvI.kp H)
    have hinc := addI_lt hlt hK.2.len_le
    have htake : c0.take (ik + 1) = c0.take ik ++ [y] := by
      have hy : c0[ik]? = some y := by have := congrArg (fun m => m[0]?) hd; simpa using this
      rw [List.take_add_one, hy]; rfl
    have hsplit : c0.take ik ++ y :: xs = c0 := by rw [← hd, List.take_append_drop]
    refine W.seq ?_
    refine W.region ?_
    refine O.lss rfl rfl rfl rfl ?_
    refine WL.nil ?_
    refine W.seq ?_
    refine W.cond_true (congrArg Value.bool (decide_eq_true hlt)) ?_
    refine W.skip ?_
    refine W.seq ?_
    refine W.block ?_
    refine W.seq ?_
    refine W.region ?_
    refine O.indexAddr Tryz.underlying33 sz3 hK.2 hix rfl rfl rfl rfl ?_
    intro p1 hp1
    refine O.load sc3 rfl rfl rfl (hp1.flat 0 _ rfl) ?_
    refine O.assign (v := (.int .i64 y)) rfl rfl rfl ?_
    refine WL.nil ?_
    refine W.seq ?_
    refine W.region ?_
    refine O.move (v := (.func (.yield l) #[] #[])) rfl rfl rfl ?_
    refine O.move (v := (.int .i64 y)) rfl rfl rfl ?_
    refine O.yield y [(.int .i64 y)] H ⟨xs, hsplit⟩ rfl rfl rfl rfl rfl ?_ ?_
    · intro w' C' H
      refine O.not rfl rfl rfl ?_
      refine WL.nil ?_
      refine W.cond_false rfl ?_
      refine W.skip ?_
      refine W.region ?_
      refine O.add rfl rfl rfl rfl hinc ?_
      refine O.move (v := .int .i64 ((ik : Int) + 1)) rfl rfl rfl ?_
      exact WL.nil ⟨ik + 1, drop_next hd, rfl, rfl, rfl, rfl, _, by rw [htake]; exact H⟩
    · intro w' C' H
      refine O.not rfl rfl rfl ?_
      refine WL.nil ?_
      refine W.cond_true rfl ?_
      refine W.ret ?_
      exact ends0 Tryz.results60 ⟨_, _, rfl, .inr (H.items _ (List.mem_cons_self ..)).1⟩
  · rintro f w ⟨ik, hd, hf7, hf6, hf5, hf0, C, H⟩
    have hlt := drop_end hd
    obtain ⟨u1, rfl⟩ := up2 hf7 hf6
    refine W.seq ?_
    refine W.region ?_
    refine O.lss rfl rfl rfl rfl ?_
    refine WL.nil ?_
    refine W.seq ?_
    refine W.cond_false (congrArg Value.bool (decide_eq_false hlt)) ?_
    refine W.exit ?_
    refine xT rfl ?_
    refine ends0 Tryz.results60 ⟨_, C, rfl, .inl ⟨_, rfl, ?_⟩⟩
    have htk : c0.take ik = c0 := List.take_of_length_le (by have := List.drop_eq_nil_iff.1 hd; omega)
    rw [htk] at H
    exact (H.items _ (List.mem_cons_self ..)).1

theorem c_slices_Values_int {w0 : World} (va0 : Value) (a0 : (List Int)) (ha0 : SliceR w0 va0 a0) :
  Calls Tryz.prog 37 #[va0] w0 (Ret w0 fun w v => ∃ b1 : Nat, v = (.func (.func 60) #[] #[(.pointer (some ⟨b1, 0, none⟩))]) ∧ Inv w0 w [boxI b1 33 [va0]]) := by
 refine calls_of_W Tryz.func37 rfl Tryz.ntmps37 (Nat.le_of_ble_eq_true rfl) ?_
 have H := Inv.start (w := w0)
 refine W.seq ?_
 refine W.region ?_
 refine O.box [va0] H rfl rfl rfl (SliceR.cells1 (H.arg ha0)) ?_
 intro b1 w1 H hb1
 refine O.assign (v := .nilFunc) rfl rfl rfl ?_
 refine WL.nil ?_
 refine W.seq ?_
 refine W.region ?_
 refine O.makeFunc rfl rfl rfl rfl ?_
 refine O.assign (v := (.func (.func 60) #[] #[(.pointer (some ⟨b1, 0, none⟩))])) rfl rfl rfl ?_
 refine WL.nil ?_
 refine W.ret ?_
 exact ends1 Tryz.results37 rfl ⟨_, rfl, H.base, ⟨_, rfl, H.pick [0] [boxI b1 33 [va0]] rfl (by decide)⟩⟩

set_option maxRecDepth 20000 in
theorem c_rate_ends_int {w0 : World} (va0 : Value) (a0 : List Int) (ha0 : IterP Tryz.prog w0 va0 (repF (α := Int)) (fun ys => ys = a0)) {r0 : Int} {r1 : Int} (hm : rate_ends_int a0 = some (r0, r1)) :
  Calls Tryz.prog 36 #[va0] w0 (Ret w0 fun _ v => v = .tuple #[(.int .i64 r0), (.int .i64 r1)]) := by
 unfold rate_ends_int at hm
 refine calls_of_WM Tryz.func36 rfl Tryz.ntmps36 (Nat.le_of_ble_eq_true rfl) ?_
 have H := Inv.startM (w0 := w0)
 have hmk : (fr0 #[va0]).marks = [] := rfl
 refine W.seq ?_
 refine W.region ?_
 refine O.alloc [(.int .i64 0)] ze3 H rfl rfl rfl ?_
 intro b1 w1 H hb1
 refine O.alloc [(.int .i64 0)] ze3 H rfl rfl rfl ?_
 intro b2 w2 H hb2
 refine WL.nil ?_
 refine W.seq ?_
 refine W.region ?_
 refine O.alloc [(.bool false)] ze4 H rfl rfl rfl ?_
 intro b3 w3 H hb3
 refine O.store 3 0 [(.bool true)] [(.bool true)] sz4 H rfl rfl rfl rfl rfl rfl ⟨⟨rfl, rfl⟩, rfl⟩ (one_cons rfl one_nil) ?_
 intro w4 H
 refine WL.nil ?_
 refine W.seq ?_
 refine W.seq ?_
 refine W.region ?_
 refine O.move (v := va0) rfl rfl rfl ?_
 refine WL.nil ?_
 obtain ⟨⟨s1, s2⟩, hm1, hm⟩ := bind_some hm
 refine W.via (fun f w => ∃ ms1 : List Nat, f 2 = (.pointer (some ⟨b1, 0, none⟩)) ∧ f 3 = (.pointer (some ⟨b2, 0, none⟩)) ∧ f.marks = ms1 ∧ Inv w0 w [marksI ms1, boxI b1 3 [(.int .i64 s1)], boxI b2 3 [(.int .i64 s2)]]) ?_ ?_
 ·
  refine W.block ?_
  obtain ⟨gf1, lb1, hvgf1, hcbgf1, hitgf1⟩ := ha0
  refine W.rangeFuncL (α := Int) (σ := Int × Int × Bool) (X := Int × Int) (xs := a0) (rep := (repF (α := Int))) hm1 (fun s L => ∃ z4 : Int, ∃ z5 : Int, ∃ z6 : Bool, (z4, z5, z6) = s ∧ L = [boxI b1 3 [(.int .i64 z4)], boxI b2 3 [(.int .i64 z5)], boxI b3 4 [(.bool z6)]]) (fun y j L => match j with | some j => j = 0 ∧ (False) | none => False) (show ev _ _ = _ from hvgf1) hcbgf1 rfl (fun _ _ _ h => by rw [h]; rfl) (fun Kp W hs hk => hitgf1 W Kp (Nat.le_trans H.base.size hs) fun w1 hw => by obtain ⟨_, _, _, _, _, hI⟩ := hk w1 hw; exact hI.base) H ⟨_, _, _, rfl, rfl⟩ ?_ ?_ ?_ ?_
  ·
   rintro _ rs lp lp2 iz x1 _ st _ w _ ⟨z4, z5, z6, rfl, rfl⟩ rfl hm2 H
   change W _ _ _ _ _ _ _ (upd _ 7 (.int .i64 x1)) w
   refine W.region ?_
   refine O.assign (v := (.int .i64 x1)) rfl rfl rfl ?_
   refine WL.nil ?_
   refine ⟨_, H, fun w hsl H => ?_⟩
   obtain ⟨⟨s3, s4, s5⟩, hm3, hm2⟩ := bind_some hm2
   refine W.via (fun f w => f 2 = (.pointer (some ⟨b1, 0, none⟩)) ∧ f 3 = (.pointer (some ⟨b2, 0, none⟩)) ∧ f 4 = (.pointer (some ⟨b3, 0, none⟩)) ∧ f 6 = va0 ∧ Inv w0 w [rs, lp2, marksI [], boxI b1 3 [(.int .i64 s3)], boxI b2 3 [(.int .i64 s4)], boxI b3 4 [(.bool s5)]]) ?_ ?_
   ·
    refine W.block ?_
    refine W.seq ?_
    refine W.seq ?_
    refine W.region ?_
    refine O.load sc4 rfl rfl rfl (H.cell 5 rfl 0 _ rfl) ?_
    refine WL.nil ?_
    obtain ⟨⟨s6, s7, s8⟩, hm4, hm3⟩ := bind_some hm3
    refine W.via (fun f w => f 2 = (.pointer (some ⟨b1, 0, none⟩)) ∧ f 3 = (.pointer (some ⟨b2, 0, none⟩)) ∧ f 4 = (.pointer (some ⟨b3, 0, none⟩)) ∧ f 5 = (.int .i64 x1) ∧ f 6 = va0 ∧ Inv w0 w [rs, lp2, marksI [], boxI b1 3 [(.int .i64 s6)], boxI b2 3 [(.int .i64 s7)], boxI b3 4 [(.bool s8)]]) ?_ ?_
    ·
     rcases ite_some hm4 with ⟨hc1, hm4⟩ | ⟨hc1, hm4⟩
     ·
      refine W.cond_true (congrArg Value.bool hc1) ?_
      refine W.region ?_
      refine O.move (v := (.int .i64 x1)) rfl rfl rfl ?_
      refine O.move (v := (.int .i64 x1)) rfl rfl rfl ?_
      refine O.store 3 0 [(.int .i64 x1)] [(.int .i64 x1)] sz3 H rfl rfl rfl rfl rfl rfl ⟨⟨rfl, rfl⟩, rfl⟩ (one_cons rfl one_nil) ?_
      intro w5 H
      refine O.store 4 0 [(.int .i64 x1)] [(.int .i64 x1)] sz3 H rfl rfl rfl rfl rfl rfl ⟨⟨rfl, rfl⟩, rfl⟩ (one_cons rfl one_nil) ?_
      intro w6 H
      refine O.store 5 0 [(.bool false)] [(.bool false)] sz4 H rfl rfl rfl rfl rfl rfl ⟨⟨rfl, rfl⟩, rfl⟩ (one_cons rfl one_nil) ?_
      intro w7 H
      refine WL.nil ?_
      have hq : (x1, x1, false) = (s6, s7, s8) := Option.some.inj (show some (x1, x1, false) = some (s6, s7, s8) from hm4)
      obtain ⟨he0, hq0⟩ := Prod.mk.inj hq; clear hq; subst he0
      obtain ⟨he1, hq1⟩ := Prod.mk.inj hq0; clear hq0; subst he1
      subst hq1
      exact ⟨rfl, rfl, rfl, rfl, rfl, H⟩
     ·
      refine W.cond_false (congrArg Value.bool hc1) ?_
      refine W.skip ?_
      have hq : (z4, z5, z6) = (s6, s7, s8) := Option.some.inj (show some (z4, z5, z6) = some (s6, s7, s8) from hm4)
      obtain ⟨he0, hq0⟩ := Prod.mk.inj hq; clear hq; subst he0
      obtain ⟨he1, hq1⟩ := Prod.mk.inj hq0; clear hq0; subst he1
      subst hq1
      exact ⟨rfl, rfl, rfl, rfl, rfl, H⟩
    ·
     rintro f w ⟨hf2, hf3, hf4, hf5, hf6, H⟩
     obtain ⟨u1, rfl⟩ := up5 hf2 hf3 hf4 hf5 hf6
     refine W.drawS 6 [3, 4, 5] (fun w9 => Inv w0 w9 [rs, lp2, marksI [], boxI b1 3 [(.int .i64 (min s6 x1))], boxI b2 3 [(.int .i64 s7)], boxI b3 4 [(.bool s8)]]) (fun f => f 2 = (.pointer (some ⟨b1, 0, none⟩)) ∧ f 3 = (.pointer (some ⟨b2, 0, none⟩)) ∧ f 4 = (.pointer (some ⟨b3, 0, none⟩)) ∧ f 6 = va0 ∧ f 13 = (.int .i64 (min s6 x1)) ∧ f 16 = (.int .i64 (max s7 x1))) fol (by kernel_rfl) rfl ?_ ?_ ?_
     ·
      refine PL.of (fun b w8 hb hx => match b, hb, hx with | none, _, hx => by have H := H.ext hx; exact O.load sc3 rfl rfl rfl (H.cell 3 rfl 0 _ rfl) (WL.nil ⟨rfl, hx⟩) | some _, hb, _ => absurd (hb rfl) (by decide)) ?_
      refine PL.of (fun b w8 hb hx => match b, hb, hx with | none, _, hx => by exact O.move (v := (.int .i64 x1)) rfl rfl rfl (WL.nil ⟨rfl, hx⟩) | some _, hb, _ => absurd (hb rfl) (by decide)) ?_
      refine PL.of (fun b w8 hb hx => match b, hb, hx with | none, _, hx => by exact O.min2 rfl rfl rfl rfl (WL.nil ⟨rfl, hx⟩) | some _, hb, _ => absurd (hb rfl) (by decide)) ?_
      refine PL.of (fun b w8 _ hx => match b, hx with | none, hx => by have H := H.ext hx; exact O.load sc3 rfl rfl rfl (H.cell 4 rfl 0 _ rfl) (WL.nil ⟨rfl, hx⟩) | some _, H => O.load sc3 rfl rfl rfl (H.cell 4 rfl 0 _ rfl) (WL.nil ⟨rfl, H⟩)) ?_
      refine PL.of (fun b w8 _ hx => match b, hx with | none, hx => by exact O.move (v := (.int .i64 x1)) rfl rfl rfl (WL.nil ⟨rfl, hx⟩) | some _, H => O.move (v := (.int .i64 x1)) rfl rfl rfl (WL.nil ⟨rfl, H⟩)) ?_
      refine PL.of (fun b w8 _ hx => match b, hx with | none, hx => by exact O.max2 rfl rfl rfl rfl (WL.nil ⟨rfl, hx⟩) | some _, H => O.max2 rfl rfl rfl rfl (WL.nil ⟨rfl, H⟩)) ?_
      refine PL.nil ?_
      exact ⟨rfl, rfl, rfl, rfl, rfl, rfl⟩
     ·
      rintro f ⟨hf2, hf3, hf4, hf6, hf13, hf16⟩ w hx
      obtain ⟨u2, rfl⟩ := up6 hf2 hf3 hf4 hf6 hf13 hf16
      have H := H.ext hx
      exact O.store 3 0 [(.int .i64 (min s6 x1))] [(.int .i64 (min s6 x1))] sz3 H rfl rfl rfl rfl rfl rfl ⟨⟨rfl, rfl⟩, rfl⟩ (one_cons rfl one_nil) (fun _ H => WL.nil ⟨rfl, H⟩)
     ·
      rintro f w ⟨hf2, hf3, hf4, hf6, hf13, hf16⟩ hmd H
      obtain ⟨u3, rfl⟩ := up6 hf2 hf3 hf4 hf6 hf13 hf16
      refine O.store 4 0 [(.int .i64 (max s7 x1))] [(.int .i64 (max s7 x1))] sz3 H rfl rfl rfl rfl rfl rfl ⟨⟨rfl, rfl⟩, rfl⟩ (one_cons rfl one_nil) ?_
      intro w8 H
      refine WL.nil ?_
      have hq : ((min s6 x1), (max s7 x1), s8) = (s3, s4, s5) := Option.some.inj (show some ((min s6 x1), (max s7 x1), s8) = some (s3, s4, s5) from hm3)
      obtain ⟨he0, hq0⟩ := Prod.mk.inj hq; clear hq; subst he0
      obtain ⟨he1, hq1⟩ := Prod.mk.inj hq0; clear hq0; subst he1
      subst hq1
      exact ⟨rfl, rfl, rfl, rfl, H⟩
   ·
    rintro f w ⟨hf2, hf3, hf4, hf6, H⟩
    obtain ⟨u4, rfl⟩ := up4 hf2 hf3 hf4 hf6
    obtain rfl := Option.some.inj hm2
    exact ⟨_, _, rfl, ⟨_, _, _, rfl, rfl⟩, H⟩
  ·
   rintro D1 _ _ w ⟨z4, z5, z6, rfl, rfl⟩ hfin H
   have hq : (z4, z5) = (s1, s2) := hfin
   obtain ⟨he0, hq0⟩ := Prod.mk.inj hq; clear hq; subst he0
   subst hq0
   have H := H.keep [0, 1, 2] [marksI (D1 :: []), boxI b1 3 [(.int .i64 z4)], boxI b2 3 [(.int .i64 z5)]] rfl (by decide)
   have hmk := congrArg (D1 :: ·) hmk
   exact ⟨_, rfl, rfl, hmk, H⟩
  ·
   rintro _ _ _ _ ⟨_, h⟩; exact h.elim
  ·
   rintro _ _ _ h; exact h.elim
 ·
  rintro f w ⟨ms1, hf2, hf3, hmk, H⟩
  obtain ⟨u5, rfl⟩ := up2 hf2 hf3
  refine W.seq ?_
  refine W.drawS 2 [1] (fun w9 => Inv w0 w9 [marksI ms1, boxI b1 3 [(.int .i64 s1)], boxI b2 3 [(.int .i64 s2)]]) (fun f => f 2 = (.pointer (some ⟨b1, 0, none⟩)) ∧ f 3 = (.pointer (some ⟨b2, 0, none⟩)) ∧ f 17 = (.int .i64 s1) ∧ f 18 = (.int .i64 s2)) fol (by kernel_rfl) rfl ?_ ?_ ?_
  ·
   refine PL.of (fun b w8 hb hx => match b, hb, hx with | none, _, hx => by have H := H.ext hx; exact O.load sc3 rfl rfl rfl (H.cell 1 rfl 0 _ rfl) (WL.nil ⟨rfl, hx⟩) | some _, hb, _ => absurd (hb rfl) (by decide)) ?_
   refine PL.of (fun b w8 _ hx => match b, hx with | none, hx => by have H := H.ext hx; exact O.load sc3 rfl rfl rfl (H.cell 2 rfl 0 _ rfl) (WL.nil ⟨rfl, hx⟩) | some _, H => O.load sc3 rfl rfl rfl (H.cell 2 rfl 0 _ rfl) (WL.nil ⟨rfl, H⟩)) ?_
   refine PL.nil ?_
   exact ⟨rfl, rfl, rfl, rfl⟩
  ·
   rintro f ⟨hf2, hf3, hf17, hf18⟩ w hx
   obtain ⟨u6, rfl⟩ := up4 hf2 hf3 hf17 hf18
   have H := H.ext hx
   exact O.store 1 0 [(.int .i64 s1)] [(.int .i64 s1)] sz3 H rfl rfl rfl rfl rfl rfl ⟨⟨rfl, rfl⟩, rfl⟩ (one_cons rfl one_nil) (fun _ H => WL.nil ⟨rfl, H⟩)
  ·
   rintro f w ⟨hf2, hf3, hf17, hf18⟩ hmd H
   have hmk := hmd.trans hmk
   obtain ⟨u7, rfl⟩ := up4 hf2 hf3 hf17 hf18
   refine O.store 2 0 [(.int .i64 s2)] [(.int .i64 s2)] sz3 H rfl rfl rfl rfl rfl rfl ⟨⟨rfl, rfl⟩, rfl⟩ (one_cons rfl one_nil) ?_
   intro w9 H
   refine WL.nil ?_
   refine W.ret ?_
   refine endsM_mk H hmk ?_
   intro w H _
   have hq : (s1, s2) = (r0, r1) := Option.some.inj (show some (s1, s2) = some (r0, r1) from hm)
   obtain ⟨he0, hq0⟩ := Prod.mk.inj hq; clear hq; subst he0
   subst hq0
   exact ends2 Tryz.results36 ⟨_, rfl, run_loadVar_scalar sc3 (H.cell 1 rfl 0 _ rfl)⟩ ⟨_, rfl, run_loadVar_scalar sc3 (H.cell 2 rfl 0 _ rfl)⟩ ⟨_, rfl, H.base, rfl⟩

set_option maxRecDepth 20000 in
theorem c_rate_Trial {w0 : World} (va0_0 : Value) (a0 : GBox) (ha0_0 : SliceR w0 va0_0 a0.Errors) {r0 : GTrial} {r1 : Int} (hm : rate_Trial a0 = some (r0, r1)) :
  Calls Tryz.prog 12 #[(.agg #[(.string a0.Name), va0_0])] w0 (Ret w0 fun _ v => v = .tuple #[(.agg (Flat.cells r0).toArray), (.int .i64 r1)]) := by
 unfold rate_Trial at hm
 refine calls_of_WM Tryz.func12 rfl Tryz.ntmps12 (Nat.le_of_ble_eq_true rfl) ?_
 have H := Inv.startM (w0 := w0)
 have hmk : (fr0 #[(.agg #[(.string a0.Name), va0_0])]).marks = [] := rfl
 refine W.seq ?_
 refine W.region ?_
 refine O.box [(.string a0.Name), va0_0] H rfl rfl rfl rfl ?_
 intro b1 w1 H hb1
 refine O.alloc [(.string ByteArray.empty), (.int .i64 0), (.int .i64 0), (.int .i64 0), (.int .i64 0)] ze43 H rfl rfl rfl ?_
 intro b2 w2 H hb2
 refine O.assign (v := (.int .i64 0)) rfl rfl rfl ?_
 refine WL.nil ?_
 refine W.seq ?_
 refine W.region ?_
 refine O.loadA [(.string a0.Name), va0_0] ag47 rfl rfl rfl rfl (H.cell 1 rfl) ?_
 obtain ⟨⟨t1, t2⟩, hy1, hm⟩ := bind_some hm
 refine O.call Tryz.call35 rfl rfl rfl (c_rate_Weekly _ (GBox.mk a0.Name a0.Errors) (H.arg ha0_0) hy1) ?_
 rintro _ w3 hb3 ⟨v1, rfl, ho1⟩
 have H := H.addOwn hb3 ho1
 refine O.move (v := (.tuple #[v1, (.int .i64 t2)])) rfl rfl rfl ?_
 refine O.extract (v := v1) rfl rfl rfl rfl ?_
 refine O.extract (v := (.int .i64 t2)) rfl rfl rfl rfl ?_
 refine O.assign (v := v1) rfl rfl rfl ?_
 refine O.assign (v := (.int .i64 t2)) rfl rfl rfl ?_
 refine WL.nil ?_
 refine W.seq ?_
 refine W.block ?_
 refine W.seq ?_
 refine W.region ?_
 refine O.move (v := (.int .i64 t2)) rfl rfl rfl ?_
 refine O.neq rfl rfl rfl rfl ?_
 refine O.assign (v := (.bool (t2 != 0))) rfl rfl rfl ?_
 refine WL.nil ?_
 rcases ite_some hm with ⟨hc1, hm⟩ | ⟨hc1, hm⟩
 ·
  refine W.cond_true (congrArg Value.bool hc1) ?_
  refine W.seq ?_
  refine W.region ?_
  refine O.build (v := (.agg (Flat.cells (GTrial.mk ByteArray.empty 0 0 0 0)).toArray)) (fun w => bd43_  w) rfl rfl rfl ?_
  refine O.move (v := (.int .i64 t2)) rfl rfl rfl ?_
  refine O.store 2 0 [(.string ByteArray.empty), (.int .i64 0), (.int .i64 0), (.int .i64 0), (.int .i64 0)] [(.string ByteArray.empty), (.int .i64 0), (.int .i64 0), (.int .i64 0), (.int .i64 0)] sz43 H rfl rfl rfl rfl rfl rfl ⟨⟨rfl, rfl⟩, rfl⟩ (one_cons rfl (one_cons rfl (one_cons rfl (one_cons rfl (one_cons rfl one_nil))))) ?_
  intro w4 H
  refine O.assign (v := (.int .i64 t2)) rfl rfl rfl ?_
  refine WL.nil ?_
  refine W.ret ?_
  refine endsM_mk H hmk ?_
  intro w H _
  have hq : ((GTrial.mk ByteArray.empty 0 0 0 0), t2) = (r0, r1) := Option.some.inj (show some ((GTrial.mk ByteArray.empty 0 0 0 0), t2) = some (r0, r1) from hm)
  obtain ⟨he0, hq0⟩ := Prod.mk.inj hq; clear hq; subst he0
  subst hq0
  exact ends2 Tryz.results12 ⟨_, rfl, run_loadVar_agg ag43 rfl (H.cell 2 rfl)⟩ rfl ⟨_, rfl, H.base, rfl⟩
 ·
  refine W.cond_false (congrArg Value.bool hc1) ?_
  refine W.seq ?_
  refine W.region ?_
  refine O.move (v := v1) rfl rfl rfl ?_
  refine O.lenS Tryz.underlying33 (H.own 3 rfl) rfl rfl rfl ?_
  refine O.lss rfl rfl rfl rfl ?_
  refine O.assign (v := (.bool (decide (((t1.length : Nat) : Int) < 2)))) rfl rfl rfl ?_
  refine WL.nil ?_
  rcases ite_some hm with ⟨hc2, hm⟩ | ⟨hc2, hm⟩
  ·
   refine W.cond_true (congrArg Value.bool hc2) ?_
   refine W.seq ?_
   refine W.region ?_
   refine O.build (v := (.agg (Flat.cells (GTrial.mk ByteArray.empty 0 0 0 0)).toArray)) (fun w => bd43_  w) rfl rfl rfl ?_
   refine O.store 2 0 [(.string ByteArray.empty), (.int .i64 0), (.int .i64 0), (.int .i64 0), (.int .i64 0)] [(.string ByteArray.empty), (.int .i64 0), (.int .i64 0), (.int .i64 0), (.int .i64 0)] sz43 H rfl rfl rfl rfl rfl rfl ⟨⟨rfl, rfl⟩, rfl⟩ (one_cons rfl (one_cons rfl (one_cons rfl (one_cons rfl (one_cons rfl one_nil))))) ?_
   intro w5 H
   refine O.assign (v := (.int .i64 8)) rfl rfl rfl ?_
   refine WL.nil ?_
   refine W.ret ?_
   refine endsM_mk H hmk ?_
   intro w H _
   have hq : ((GTrial.mk ByteArray.empty 0 0 0 0), 8) = (r0, r1) := Option.some.inj (show some ((GTrial.mk ByteArray.empty 0 0 0 0), 8) = some (r0, r1) from hm)
   obtain ⟨he0, hq0⟩ := Prod.mk.inj hq; clear hq; subst he0
   subst hq0
   exact ends2 Tryz.results12 ⟨_, rfl, run_loadVar_agg ag43 rfl (H.cell 2 rfl)⟩ rfl ⟨_, rfl, H.base, rfl⟩
  ·
   refine W.cond_false (congrArg Value.bool hc2) ?_
   refine W.skip ?_
   refine W.seq ?_
   refine W.region ?_
   refine O.fieldAddr fd47_0 rfl rfl rfl ?_
   refine O.load sc9 rfl rfl rfl (H.cell 1 rfl 0 _ rfl) ?_
   refine O.build (v := (.agg (Flat.cells (GTrial.mk a0.Name 0 0 0 0)).toArray)) (fun w => bd43_0 _ w) rfl rfl rfl ?_
   refine O.alloc [(.string ByteArray.empty), (.int .i64 0), (.int .i64 0), (.int .i64 0), (.int .i64 0)] ze43 H rfl rfl rfl ?_
   intro b3 w6 H hb4
   refine O.store 4 0 [(.string a0.Name), (.int .i64 0), (.int .i64 0), (.int .i64 0), (.int .i64 0)] [(.string a0.Name), (.int .i64 0), (.int .i64 0), (.int .i64 0), (.int .i64 0)] sz43 H rfl rfl rfl rfl rfl rfl ⟨⟨rfl, rfl⟩, rfl⟩ (one_cons rfl (one_cons rfl (one_cons rfl (one_cons rfl (one_cons rfl one_nil))))) ?_
   intro w7 H
   refine WL.nil ?_
   refine W.seq ?_
   refine W.region ?_
   refine O.move (v := v1) rfl rfl rfl ?_
   refine O.call Tryz.call37 rfl rfl rfl (c_slices_Values_int _ _ (H.own 3 rfl)) ?_
   rintro _ w8 hb5 ⟨b4, rfl, hM1⟩
   have H := H.addAll hb5 hM1
   obtain ⟨xs1, hxs1, hm⟩ := bind_some hm
   obtain ⟨⟨t3, t4⟩, hy2, hm⟩ := bind_some hm
   refine O.call Tryz.call36 rfl rfl rfl (c_rate_ends_int (.func (.func 60) #[] #[(.pointer (some ⟨b4, 0, none⟩))]) xs1 (iterP_mk rfl Tryz.call60 fun _ _ hk => it_slices_Values_int_c1 _ _ t1 hxs1 fun w hw => ⟨cells_mono (H.cell 5 rfl) (hk w hw), (H.own 3 rfl).mono (hk w hw)⟩) hy2) ?_
   rintro _ w9 hb6 rfl
   have H := H.ext hb6
   refine O.move (v := (.tuple #[(.int .i64 t3), (.int .i64 t4)])) rfl rfl rfl ?_
   refine O.extract (v := (.int .i64 t3)) rfl rfl rfl rfl ?_
   refine O.extract (v := (.int .i64 t4)) rfl rfl rfl rfl ?_
   refine O.fieldAddr fd43_1 rfl rfl rfl ?_
   refine O.store 4 1 [(.int .i64 t3)] [(.string a0.Name), (.int .i64 t3), (.int .i64 0), (.int .i64 0), (.int .i64 0)] sz3 H rfl rfl rfl rfl rfl rfl ⟨⟨rfl, rfl⟩, rfl⟩ (one_cons rfl one_nil) ?_
   intro w10 H
   refine O.fieldAddr fd43_2 rfl rfl rfl ?_
   refine O.store 4 2 [(.int .i64 t4)] [(.string a0.Name), (.int .i64 t3), (.int .i64 t4), (.int .i64 0), (.int .i64 0)] sz3 H rfl rfl rfl rfl rfl rfl ⟨⟨rfl, rfl⟩, rfl⟩ (one_cons rfl one_nil) ?_
   intro w11 H
   refine WL.nil ?_
   refine W.seq ?_
   refine W.seq ?_
   refine W.region ?_
   refine O.move (v := v1) rfl rfl rfl ?_
   refine O.call Tryz.call38 rfl rfl rfl (c_rate_differences _ _ (H.own 3 rfl) _) ?_
   rintro _ w12 hb7 ⟨b5, b6, rfl, hM2⟩
   have H := H.addAll hb7 hM2
   refine WL.nil ?_
   obtain ⟨xs2, hxs2, hm⟩ := bind_some hm
   obtain ⟨s1, hm1, hm⟩ := bind_some hm
   refine W.via (fun f w => ∃ ms1 : List Nat, f 2 = (.pointer (some ⟨b2, 0, none⟩)) ∧ f 6 = (.pointer (some ⟨b3, 0, none⟩)) ∧ f.marks = ms1 ∧ Inv w0 w [marksI ms1, boxI b2 43 [(.string ByteArray.empty), (.int .i64 0), (.int .i64 0), (.int .i64 0), (.int .i64 0)], boxI b3 43 [(.string a0.Name), (.int .i64 t3), (.int .i64 t4), (.int .i64 s1), (.int .i64 0)]]) ?_ ?_
   ·
    refine W.block ?_
    have H := H.keep [0, 2, 3, 4, 6, 7] [marksI [], boxI b2 43 [(.string ByteArray.empty), (.int .i64 0), (.int .i64 0), (.int .i64 0), (.int .i64 0)], ownI (α := Int) v1 3 t1, boxI b3 43 [(.string a0.Name), (.int .i64 t3), (.int .i64 t4), (.int .i64 0), (.int .i64 0)], boxI b5 3 [(.int .i64 1)], boxI b6 33 [v1]] rfl (by decide)
    refine W.rangeFuncL (α := Int) (σ := Int) (X := Int) (xs := xs2) (rep := (repF (α := Int))) hm1 (fun s L => ∃ z2 : Int, z2 = s ∧ L = [boxI b2 43 [(.string ByteArray.empty), (.int .i64 0), (.int .i64 0), (.int .i64 0), (.int .i64 0)], ownI (α := Int) v1 3 t1, boxI b3 43 [(.string a0.Name), (.int .i64 t3), (.int .i64 t4), (.int .i64 z2), (.int .i64 0)], boxI b5 3 [(.int .i64 1)], boxI b6 33 [v1]]) (fun y j L => match j with | some j => j = 1 ∧ (False) | none => False) rfl Tryz.call61 rfl (fun _ _ _ h => by rw [h]; rfl) (fun Kp W hs hk => it_rate_differences_c1 _ 1 _ _ t1 hxs2 fun w1 hw => by obtain ⟨_, _, _, _, ⟨_, _, rfl⟩, H⟩ := hk w1 hw; exact ⟨H.cell 6 rfl, H.cell 7 rfl, (H.own 4 rfl)⟩) H ⟨_, rfl, rfl⟩ ?_ ?_ ?_ ?_
    ·
     rintro _ rs lp lp2 iz x1 _ st _ w _ ⟨z2, rfl, rfl⟩ rfl hm2 H
     change W _ _ _ _ _ _ _ (upd _ 36 (.int .i64 x1)) w
     refine W.region ?_
     refine O.assign (v := (.int .i64 x1)) rfl rfl rfl ?_
     refine WL.nil ?_
     refine ⟨_, H, fun w hsl H => ?_⟩
     refine W.block ?_
     refine W.region ?_
     refine O.fieldAddr fd43_3 rfl rfl rfl ?_
     refine O.load sc3 rfl rfl rfl (H.cell 5 rfl 3 _ rfl) ?_
     refine O.move (v := (.int .i64 x1)) rfl rfl rfl ?_
     refine O.move (v := (.int .i64 x1)) rfl rfl rfl ?_
     obtain ⟨t5, ht5, hm2⟩ := bind_some hm2
     refine O.neg rfl rfl rfl ht5 ?_
     refine O.max3 rfl rfl rfl rfl rfl ?_
     refine O.fieldAddr fd43_3 rfl rfl rfl ?_
     refine O.store 5 3 [(.int .i64 (max (max z2 x1) t5))] [(.string a0.Name), (.int .i64 t3), (.int .i64 t4), (.int .i64 (max (max z2 x1) t5)), (.int .i64 0)] sz3 H rfl rfl rfl rfl rfl rfl ⟨⟨rfl, rfl⟩, rfl⟩ (one_cons rfl one_nil) ?_
     intro w13 H
     refine WL.nil ?_
     obtain rfl := Option.some.inj hm2
     exact ⟨_, _, rfl, ⟨_, rfl, rfl⟩, H⟩
    ·
     rintro D1 _ _ w ⟨z2, rfl, rfl⟩ hfin H
     have hq : z2 = s1 := hfin
     subst hq
     have H := H.keep [0, 1, 3] [marksI (D1 :: []), boxI b2 43 [(.string ByteArray.empty), (.int .i64 0), (.int .i64 0), (.int .i64 0), (.int .i64 0)], boxI b3 43 [(.string a0.Name), (.int .i64 t3), (.int .i64 t4), (.int .i64 z2), (.int .i64 0)]] rfl (by decide)
     have hmk := congrArg (D1 :: ·) hmk
     exact ⟨_, rfl, rfl, hmk, H⟩
    ·
     rintro _ _ _ _ ⟨_, h⟩; exact h.elim
    ·
     rintro _ _ _ h; exact h.elim
   ·
    rintro f w ⟨ms1, hf2, hf6, hmk, H⟩
    obtain ⟨u1, rfl⟩ := up2 hf2 hf6
    refine W.seq ?_
    refine W.region ?_
    refine O.fieldAddr fd43_2 rfl rfl rfl ?_
    refine O.load sc3 rfl rfl rfl (H.cell 2 rfl 2 _ rfl) ?_
    refine O.fieldAddr fd43_1 rfl rfl rfl ?_
    refine O.load sc3 rfl rfl rfl (H.cell 2 rfl 1 _ rfl) ?_
    obtain ⟨t6, ht6, hm⟩ := bind_some hm
    refine O.sub rfl rfl rfl rfl ht6 ?_
    refine O.fieldAddr fd43_3 rfl rfl rfl ?_
    refine O.load sc3 rfl rfl rfl (H.cell 2 rfl 3 _ rfl) ?_
    obtain ⟨t7, ht7, hm⟩ := bind_some hm
    refine O.mul rfl rfl rfl rfl ht7 ?_
    obtain ⟨t8, ht8, hm⟩ := bind_some hm
    refine O.add rfl rfl rfl rfl ht8 ?_
    refine O.fieldAddr fd43_4 rfl rfl rfl ?_
    refine O.store 2 4 [(.int .i64 t8)] [(.string a0.Name), (.int .i64 t3), (.int .i64 t4), (.int .i64 s1), (.int .i64 t8)] sz3 H rfl rfl rfl rfl rfl rfl ⟨⟨rfl, rfl⟩, rfl⟩ (one_cons rfl one_nil) ?_
    intro w14 H
    refine WL.nil ?_
    refine W.seq ?_
    refine W.region ?_
    refine O.loadA [(.string a0.Name), (.int .i64 t3), (.int .i64 t4), (.int .i64 s1), (.int .i64 t8)] ag43 rfl rfl rfl rfl (H.cell 2 rfl) ?_
    refine O.store 1 0 [(.string a0.Name), (.int .i64 t3), (.int .i64 t4), (.int .i64 s1), (.int .i64 t8)] [(.string a0.Name), (.int .i64 t3), (.int .i64 t4), (.int .i64 s1), (.int .i64 t8)] sz43 H rfl rfl rfl rfl rfl rfl ⟨⟨rfl, rfl⟩, rfl⟩ (one_cons rfl (one_cons rfl (one_cons rfl (one_cons rfl (one_cons rfl one_nil))))) ?_
    intro w15 H
    refine O.assign (v := (.int .i64 0)) rfl rfl rfl ?_
    refine WL.nil ?_
    refine W.ret ?_
    refine endsM_mk H hmk ?_
    intro w H _
    have hq : ((GTrial.mk a0.Name t3 t4 s1 t8), 0) = (r0, r1) := Option.some.inj (show some ((GTrial.mk a0.Name t3 t4 s1 t8), 0) = some (r0, r1) from hm)
    obtain ⟨he0, hq0⟩ := Prod.mk.inj hq; clear hq; subst he0
    subst hq0
    exact ends2 Tryz.results12 ⟨_, rfl, run_loadVar_agg ag43 rfl (H.cell 1 rfl)⟩ rfl ⟨_, rfl, H.base, rfl⟩

theorem c_flag_within {w0 : World} (a0 : Int) (a1 : Int) (a2 : Int) {r0 : Bool} (hm : flag_within a0 a1 a2 = some r0) :
  Calls Tryz.prog 21 #[(.int .i64 a0), (.int .i64 a1), (.int .i64 a2)] w0 (Ret w0 fun _ v => v = (.bool r0)) := by
 unfold flag_within at hm
 refine calls_of_W Tryz.func21 rfl Tryz.ntmps21 (Nat.le_of_ble_eq_true rfl) ?_
 have H := Inv.start (w := w0)
 refine W.seq ?_
 refine W.region ?_
 refine O.assign (v := (.bool false)) rfl rfl rfl ?_
 refine WL.nil ?_
 refine W.seq ?_
 refine W.region ?_
 refine O.move (v := (.int .i64 a0)) rfl rfl rfl ?_
 refine O.move (v := (.int .i64 a1)) rfl rfl rfl ?_
 refine O.geq rfl rfl rfl rfl ?_
 refine O.move (v := (.bool (decide (a1 ≤ a0)))) rfl rfl rfl ?_
 refine WL.cut 4 (fun f w => f 14 = .bool ((decide (a1 ≤ a0)) && (decide (a0 ≤ a2))) ∧ Inv w0 w []) ?_ ?_
 ·
  rcases bool_ft (decide (a1 ≤ a0)) with hc1 | hc1
  ·
   refine WL.reset (i := 10) (v := .bool false) (congrArg Value.bool hc1) ?_
   refine O.skip rfl rfl ?_
   refine O.skip rfl rfl ?_
   refine O.skip rfl rfl ?_
   refine O.pick_false (v := (.bool false)) rfl rfl rfl rfl ?_
   exact WL.nil ⟨congrArg Value.bool (and_f hc1), H⟩
  ·
   refine WL.reset (i := 10) (v := .bool true) (congrArg Value.bool hc1) ?_
   refine O.move (v := (.int .i64 a0)) rfl rfl rfl ?_
   refine O.move (v := (.int .i64 a2)) rfl rfl rfl ?_
   refine O.leq rfl rfl rfl rfl ?_
   refine O.pick_true (v := (.bool (decide (a0 ≤ a2)))) rfl rfl rfl rfl ?_
   exact WL.nil ⟨congrArg Value.bool (and_t hc1), H⟩
 ·
  rintro f w ⟨hf14, H⟩
  obtain ⟨u1, rfl⟩ := up1 hf14
  refine O.assign (v := (.bool ((decide (a1 ≤ a0)) && (decide (a0 ≤ a2))))) rfl rfl rfl ?_
  refine WL.nil ?_
  refine W.ret ?_
  have hq : ((decide (a1 ≤ a0)) && (decide (a0 ≤ a2))) = r0 := Option.some.inj (show some ((decide (a1 ≤ a0)) && (decide (a0 ≤ a2))) = some r0 from hm)
  subst hq
  exact ends1 Tryz.results21 rfl ⟨_, rfl, H.base, rfl⟩

theorem c_flag_listed_c1 {w0 : World} (a0 : Int) (pc0 : Addr) (c0 : Int) (hc0 : ∀ j c, (Flat.cells c0)[j]? = some c → w0.cell? (pc0.add j) = some c) {r0 : Bool} (hm : flag_listed_c1 a0 c0 = some r0) :
  Calls Tryz.prog 78 #[(.int .i64 a0), (.pointer (some pc0))] w0 (Ret w0 fun _ v => v = (.bool r0)) := by
 unfold flag_listed_c1 at hm
 refine calls_of_W Tryz.func78 rfl Tryz.ntmps78 (Nat.le_of_ble_eq_true rfl) ?_
 have H := Inv.start (w := w0)
 refine W.seq ?_
 refine W.region ?_
 refine O.assign (v := (.bool false)) rfl rfl rfl ?_
 refine WL.nil ?_
 refine W.seq ?_
 refine W.region ?_
 refine O.move (v := (.int .i64 a0)) rfl rfl rfl ?_
 refine O.load sc3 rfl rfl rfl (cells_mono hc0 H.base 0 _ rfl) ?_
 obtain ⟨t1, hy1, hm⟩ := bind_some hm
 refine O.call Tryz.call21 rfl rfl rfl (c_flag_within _ _ _ hy1) ?_
 rintro _ w1 hb1 rfl
 have H := H.ext hb1
 refine O.not rfl rfl rfl ?_
 refine O.assign (v := (.bool (!t1))) rfl rfl rfl ?_
 refine WL.nil ?_
 refine W.ret ?_
 have hq : (!t1) = r0 := Option.some.inj (show some (!t1) = some r0 from hm)
 subst hq
 exact ends1 Tryz.results78 rfl ⟨_, rfl, H.base, rfl⟩

theorem c_flag_listed {w0 : World} (va0 : Value) (a0 : (List Int)) (ha0 : SliceR w0 va0 a0) (a1 : Int) {r0 : Bool} (hm : flag_listed a0 a1 = some r0) :
  Calls Tryz.prog 57 #[va0, (.int .i64 a1)] w0 (Ret w0 fun _ v => v = (.bool r0)) := by
 unfold flag_listed at hm
 refine calls_of_W Tryz.func57 rfl Tryz.ntmps57 (Nat.le_of_ble_eq_true rfl) ?_
 have H := Inv.start (w := w0)
 refine W.seq ?_
 refine W.region ?_
 refine O.box [(.int .i64 a1)] H rfl rfl rfl rfl ?_
 intro b1 w1 H hb1
 refine O.assign (v := (.bool false)) rfl rfl rfl ?_
 refine WL.nil ?_
 refine W.seq ?_
 refine W.region ?_
 refine O.move (v := va0) rfl rfl rfl ?_
 refine O.lenS Tryz.underlying33 (H.arg ha0) rfl rfl rfl ?_
 obtain ⟨t1, hy1, hm⟩ := bind_some hm
 refine O.call Tryz.call21 rfl rfl rfl (c_flag_within _ _ _ hy1) ?_
 rintro _ w2 hb2 rfl
 have H := H.ext hb2
 refine O.move (v := (.bool t1)) rfl rfl rfl ?_
 obtain ⟨b2, hm1, hm⟩ := bind_some hm
 refine WL.cut 5 (fun f w => f 13 = .bool b2 ∧ Inv w0 w [boxI b1 3 [(.int .i64 a1)]]) ?_ ?_
 ·
  rcases ite_some hm1 with ⟨hc1, hm1⟩ | ⟨hc1, hm1⟩
  ·
   refine WL.reset (i := 8) (v := .bool true) (congrArg Value.bool hc1) ?_
   refine O.move (v := va0) rfl rfl rfl ?_
   refine O.makeFunc rfl rfl rfl rfl ?_
   obtain ⟨t2, hy2, hm1⟩ := bind_some hm1
   refine O.call Tryz.call77 rfl rfl rfl (c_slices_ContainsFunc_int _ _ (H.arg ha0) _ (fun x0 => flag_listed_c1 x0 a1) (fun w hw x0 _ hy => callsV_mk Tryz.call78 (c_flag_listed_c1 x0 _ a1 (cells_mono (H.cell 0 rfl) hw) hy)) hy2) ?_
   rintro _ w3 hb3 rfl
   have H := H.ext hb3
   refine O.not rfl rfl rfl ?_
   refine O.pick_true (v := (.bool (!t2))) rfl rfl rfl rfl ?_
   refine WL.nil ?_
   have hq : (!t2) = b2 := Option.some.inj (show some (!t2) = some b2 from hm1)
   subst hq
   exact ⟨rfl, H⟩
  ·
   refine WL.reset (i := 8) (v := .bool false) (congrArg Value.bool hc1) ?_
   refine O.skip rfl rfl ?_
   refine O.skip rfl rfl ?_
   refine O.skip rfl rfl ?_
   refine O.skip rfl rfl ?_
   refine O.pick_false (v := (.bool false)) rfl rfl rfl rfl ?_
   refine WL.nil ?_
   have hq : false = b2 := Option.some.inj (show some false = some b2 from hm1)
   subst hq
   exact ⟨rfl, H⟩
 ·
  rintro f w ⟨hf13, H⟩
  obtain ⟨u1, rfl⟩ := up1 hf13
  refine O.assign (v := (.bool b2)) rfl rfl rfl ?_
  refine WL.nil ?_
  refine W.ret ?_
  have hq : b2 = r0 := Option.some.inj (show some b2 = some r0 from hm)
  subst hq
  exact ends1 Tryz.results57 rfl ⟨_, rfl, H.base, rfl⟩

theorem c_flag_ValidDigits {w0 : World} (va0 : Value) (a0 : (List Int)) (ha0 : SliceR w0 va0 a0) {r0 : Bool} (hm : flag_ValidDigits a0 = some r0) :
  Calls Tryz.prog 39 #[va0] w0 (Ret w0 fun _ v => v = (.bool r0)) := by
 unfold flag_ValidDigits at hm
 refine calls_of_W Tryz.func39 rfl Tryz.ntmps39 (Nat.le_of_ble_eq_true rfl) ?_
 have H := Inv.start (w := w0)
 refine W.seq ?_
 refine W.region ?_
 refine O.assign (v := (.bool false)) rfl rfl rfl ?_
 refine WL.nil ?_
 refine W.seq ?_
 refine W.region ?_
 refine O.move (v := va0) rfl rfl rfl ?_
 obtain ⟨t1, hy1, hm⟩ := bind_some hm
 refine O.call Tryz.call57 rfl rfl rfl (c_flag_listed _ _ (H.arg ha0) _ hy1) ?_
 rintro _ w1 hb1 rfl
 have H := H.ext hb1
 refine O.assign (v := (.bool t1)) rfl rfl rfl ?_
 refine WL.nil ?_
 refine W.ret ?_
 have hq : t1 = r0 := Option.some.inj (show some t1 = some r0 from hm)
 subst hq
 exact ends1 Tryz.results39 rfl ⟨_, rfl, H.base, rfl⟩

theorem c_slices_Index_int {w0 : World} (va0 : Value) (a0 : (List Int)) (ha0 : SliceR w0 va0 a0) (a1 : Int) {r0 : Int} (hm : slices_Index_int a0 a1 = some r0) :
  Calls Tryz.prog 62 #[va0, (.int .i64 a1)] w0 (Ret w0 fun _ v => v = (.int .i64 r0)) := by
 unfold slices_Index_int at hm
 refine calls_of_W Tryz.func62 rfl Tryz.ntmps62 (Nat.le_of_ble_eq_true rfl) ?_
 have H := Inv.start (w := w0)
 refine W.seq ?_
 refine W.region ?_
 refine O.assign (v := (.int .i64 0)) rfl rfl rfl ?_
 refine WL.nil ?_
 refine W.seq ?_
 refine W.seq ?_
 refine W.region ?_
 refine O.move (v := va0) rfl rfl rfl ?_
 refine O.lenS Tryz.underlying33 (H.arg ha0) rfl rfl rfl ?_
 refine O.move (v := (.int .i64 0)) rfl rfl rfl ?_
 refine WL.nil ?_
 obtain ⟨o1, hm1, hm⟩ := bind_some hm
 refine W.via (fun f w => o1 = .next () ∧ Inv w0 w []) ?_ ?_
 ·
  refine W.block ?_
  have hbdik1 := (H.arg ha0).len_le
  refine W.rangeN (i := 0) hm1 (fun rem ik1 s f w => () = s ∧ (ik1 : Int) + rem = max 0 ((a0.length : Nat) : Int) ∧ f 8 = .int .i64 (ik1 : Int) ∧ f 7 = (.int .i64 ((a0.length : Nat) : Int)) ∧ f 0 = va0 ∧ f 1 = (.int .i64 a1) ∧ Inv w0 w []) ?_ ?_ ?_
  ·
   exact ⟨rfl, rangeN_start, rfl, rfl, rfl, rfl, H⟩
  ·
   rintro k ik1 _ st f w ⟨rfl, hdropk1, hf8, hf7, hf0, hf1, H⟩ hm2
   have hltk1 := rangeN_lt hdropk1
   obtain ⟨u1, rfl⟩ := up4 hf8 hf7 hf0 hf1
   have hinck1 := addI_lt hltk1 hbdik1
   refine W.seq ?_
   refine W.region ?_
   refine O.lss rfl rfl rfl rfl ?_
   refine WL.nil ?_
   refine W.seq ?_
   refine W.cond_true (congrArg Value.bool (decide_eq_true hltk1)) ?_
   refine W.skip ?_
   refine W.seq ?_
   refine W.block ?_
   refine W.seq ?_
   refine W.region ?_
   refine O.move (v := (.int .i64 (ik1 : Int))) rfl rfl rfl ?_
   refine O.assign (v := (.int .i64 (ik1 : Int))) rfl rfl rfl ?_
   refine WL.nil ?_
   refine W.seq ?_
   refine W.region ?_
   refine O.move (v := (.int .i64 a1)) rfl rfl rfl ?_
   refine O.move (v := va0) rfl rfl rfl ?_
   refine O.move (v := (.int .i64 (ik1 : Int))) rfl rfl rfl ?_
   obtain ⟨x1, hx1, hm2⟩ := bind_some hm2
   obtain ⟨p1, hp1, hrp1⟩ := fix_indexAddr Tryz.underlying33 sz3 ha0 hx1
   refine hrp1 rfl rfl rfl rfl ?_
   refine O.load sc3 rfl rfl rfl ((hp1.mono H.base).flat 0 _ rfl) ?_
   refine O.eql rfl rfl rfl rfl ?_
   refine WL.nil ?_
   rcases ite_some hm2 with ⟨hc1, hm2⟩ | ⟨hc1, hm2⟩
   ·
    refine W.cond_true (congrArg Value.bool hc1) ?_
    refine W.seq ?_
    refine W.region ?_
    refine O.move (v := (.int .i64 (ik1 : Int))) rfl rfl rfl ?_
    refine O.assign (v := (.int .i64 (ik1 : Int))) rfl rfl rfl ?_
    refine WL.nil ?_
    refine W.ret ?_
    obtain rfl := Option.some.inj hm2
    refine ⟨_, rfl, ?_⟩
    rintro rfl
    have hq : (ik1 : Int) = r0 := Option.some.inj (show some (ik1 : Int) = some r0 from hm)
    subst hq
    exact ends1 Tryz.results62 rfl ⟨_, rfl, H.base, rfl⟩
   ·
    refine W.cond_false (congrArg Value.bool hc1) ?_
    refine W.skip ?_
    refine W.region ?_
    refine O.add rfl rfl rfl rfl hinck1 ?_
    refine O.move (v := .int .i64 ((ik1 : Int) + 1)) rfl rfl rfl ?_
    refine WL.nil ?_
    obtain rfl := Option.some.inj hm2
    exact ⟨_, rfl, rfl, rangeN_next hdropk1, rfl, rfl, rfl, rfl, H⟩
  ·
   rintro ik1 _ f w ⟨rfl, hdropk1, hf8, hf7, hf0, hf1, H⟩ hfin
   have hltk1 := rangeN_end hdropk1
   obtain ⟨u2, rfl⟩ := up4 hf8 hf7 hf0 hf1
   refine W.seq ?_
   refine W.region ?_
   refine O.lss rfl rfl rfl rfl ?_
   refine WL.nil ?_
   refine W.seq ?_
   refine W.cond_false (congrArg Value.bool (decide_eq_false hltk1)) ?_
   refine W.exit ?_
   obtain rfl : Ctl.next () = o1 := hfin
   refine xT rfl ?_
   exact ⟨rfl, H⟩
 ·
  rintro f w ⟨rfl, H⟩
  refine W.seq ?_
  refine W.region ?_
  refine O.assign (v := (.int .i64 (-1))) rfl rfl rfl ?_
  refine WL.nil ?_
  refine W.ret ?_
  have hq : (-1) = r0 := Option.some.inj (show some (-1) = some r0 from hm)
  subst hq
  exact ends1 Tryz.results62 rfl ⟨_, rfl, H.base, rfl⟩

theorem c_slices_Contains_int {w0 : World} (va0 : Value) (a0 : (List Int)) (ha0 : SliceR w0 va0 a0) (a1 : Int) {r0 : Bool} (hm : slices_Contains_int a0 a1 = some r0) :
  Calls Tryz.prog 40 #[va0, (.int .i64 a1)] w0 (Ret w0 fun _ v => v = (.bool r0)) := by
 unfold slices_Contains_int at hm
 refine calls_of_W Tryz.func40 rfl Tryz.ntmps40 (Nat.le_of_ble_eq_true rfl) ?_
 have H := Inv.start (w := w0)
 refine W.seq ?_
 refine W.region ?_
 refine O.assign (v := (.bool false)) rfl rfl rfl ?_
 refine WL.nil ?_
 refine W.seq ?_
 refine W.region ?_
 refine O.move (v := va0) rfl rfl rfl ?_
 refine O.move (v := (.int .i64 a1)) rfl rfl rfl ?_
 obtain ⟨t1, hy1, hm⟩ := bind_some hm
 refine O.call Tryz.call62 rfl rfl rfl (c_slices_Index_int _ _ (H.arg ha0) _ hy1) ?_
 rintro _ w1 hb1 rfl
 have H := H.ext hb1
 refine O.geq rfl rfl rfl rfl ?_
 refine O.assign (v := (.bool (decide (0 ≤ t1)))) rfl rfl rfl ?_
 refine WL.nil ?_
 refine W.ret ?_
 have hq : (decide (0 ≤ t1)) = r0 := Option.some.inj (show some (decide (0 ≤ t1)) = some r0 from hm)
 subst hq
 exact ends1 Tryz.results40 rfl ⟨_, rfl, H.base, rfl⟩

theorem c_flag_place {w0 : World} (a0 : Int) {r0 : Int} (hm : flag_place a0 = some r0) :
  Calls Tryz.prog 41 #[(.int .i64 a0)] w0 (Ret w0 fun _ v => v = (.int .i64 r0)) := by
 unfold flag_place at hm
 refine calls_of_W Tryz.func41 rfl Tryz.ntmps41 (Nat.le_of_ble_eq_true rfl) ?_
 have H := Inv.start (w := w0)
 refine W.seq ?_
 refine W.region ?_
 refine O.assign (v := (.int .i64 0)) rfl rfl rfl ?_
 refine WL.nil ?_
 refine W.seq ?_
 refine W.region ?_
 refine O.move (v := (.int .i64 a0)) rfl rfl rfl ?_
 obtain ⟨t1, ht1, hm⟩ := bind_some hm
 refine O.sub rfl rfl rfl rfl ht1 ?_
 refine O.assign (v := (.int .i64 t1)) rfl rfl rfl ?_
 refine WL.nil ?_
 refine W.ret ?_
 have hq : t1 = r0 := Option.some.inj (show some t1 = some r0 from hm)
 subst hq
 exact ends1 Tryz.results41 rfl ⟨_, rfl, H.base, rfl⟩

set_option maxRecDepth 20000 in
theorem c_flag_Hoist {w0 : World} (va0 : Value) (a0 : (List Int)) (ha0 : SliceR w0 va0 a0) {r0 : (List Int)} {r1 : Int} (hm : flag_Hoist a0 = some (r0, r1)) :
  Calls Tryz.prog 13 #[va0] w0 (Ret w0 fun w v => ∃ vr0 : Value, v = .tuple #[vr0, (.int .i64 r1)] ∧ OwnR w0 w vr0 3 r0) := by
 unfold flag_Hoist at hm
 refine calls_of_W Tryz.func13 rfl Tryz.ntmps13 (Nat.le_of_ble_eq_true rfl) ?_
 have H := Inv.start (w := w0)
 refine W.seq ?_
 refine W.region ?_
 have H := H.addNil (α := Int) (E := 3)
 refine O.assign (v := (.slice none 0 0)) rfl rfl rfl ?_
 refine O.assign (v := (.int .i64 0)) rfl rfl rfl ?_
 refine WL.nil ?_
 refine W.seq ?_
 refine W.seq ?_
 refine W.region ?_
 refine O.move (v := va0) rfl rfl rfl ?_
 obtain ⟨t1, hy1, hm⟩ := bind_some hm
 refine O.call Tryz.call39 rfl rfl rfl (c_flag_ValidDigits _ _ (H.arg ha0) hy1) ?_
 rintro _ w1 hb1 rfl
 have H := H.ext hb1
 refine O.not rfl rfl rfl ?_
 refine WL.nil ?_
 rcases ite_some hm with ⟨hc1, hm⟩ | ⟨hc1, hm⟩
 ·
  refine W.cond_true (congrArg Value.bool hc1) ?_
  refine W.seq ?_
  refine W.region ?_
  have H := H.addNil (α := Int) (E := 3)
  refine O.assign (v := (.slice none 0 0)) rfl rfl rfl ?_
  refine O.assign (v := (.int .i64 1)) rfl rfl rfl ?_
  refine WL.nil ?_
  refine W.ret ?_
  have hq : (([] : List Int), 1) = (r0, r1) := Option.some.inj (show some (([] : List Int), 1) = some (r0, r1) from hm)
  obtain ⟨he0, hq0⟩ := Prod.mk.inj hq; clear hq; subst he0
  subst hq0
  exact ends2 Tryz.results13 rfl rfl ⟨_, rfl, H.base, ⟨_, rfl, H.ownR 1 rfl⟩⟩
 ·
  refine W.cond_false (congrArg Value.bool hc1) ?_
  refine W.skip ?_
  refine W.seq ?_
  refine W.region ?_
  have H := H.addNil (α := Int) (E := 3)
  refine O.assign (v := (.slice none 0 0)) rfl rfl rfl ?_
  refine WL.nil ?_
  refine W.seq ?_
  refine W.seq ?_
  refine W.region ?_
  refine O.move (v := va0) rfl rfl rfl ?_
  refine O.lenS Tryz.underlying33 (H.arg ha0) rfl rfl rfl ?_
  refine O.move (v := (.int .i64 0)) rfl rfl rfl ?_
  refine WL.nil ?_
  obtain ⟨s1, hm1, hm⟩ := bind_some hm
  refine W.via (fun f w => ∃ v4 : Value, f 4 = v4 ∧ Inv w0 w [ownI (α := Int) v4 3 s1]) ?_ ?_
  ·
   refine W.block ?_
   have hbdik1 := (H.arg ha0).len_le
   have H := H.keep [1] [ownI (α := Int) (.slice none 0 0) 3 ([] : List Int)] rfl (by decide)
   refine W.rangeN (i := 0) hm1 (fun rem ik1 s f w => ∃ z2 : (List Int), ∃ v2 : Value, z2 = s ∧ (ik1 : Int) + rem = max 0 ((a0.length : Nat) : Int) ∧ f 13 = .int .i64 (ik1 : Int) ∧ f 12 = (.int .i64 ((a0.length : Nat) : Int)) ∧ f 0 = va0 ∧ f 4 = v2 ∧ f 11 = va0 ∧ Inv w0 w [ownI (α := Int) v2 3 z2]) ?_ ?_ ?_
   ·
    exact ⟨_, (.slice none 0 0), rfl, rangeN_start, rfl, rfl, rfl, rfl, rfl, H⟩
   ·
    rintro k ik1 _ st f w ⟨z2, v2, rfl, hdropk1, hf13, hf12, hf0, hf4, hf11, H⟩ hm2
    have hltk1 := rangeN_lt hdropk1
    obtain ⟨u1, rfl⟩ := up5 hf13 hf12 hf0 hf4 hf11
    have hinck1 := addI_lt hltk1 hbdik1
    refine W.seq ?_
    refine W.region ?_
    refine O.lss rfl rfl rfl rfl ?_
    refine WL.nil ?_
    refine W.seq ?_
    refine W.cond_true (congrArg Value.bool (decide_eq_true hltk1)) ?_
    refine W.skip ?_
    refine W.seq ?_
    obtain ⟨s2, hm3, hm2⟩ := bind_some hm2
    refine W.via (fun f w => ∃ v5 : Value, f 0 = va0 ∧ f 4 = v5 ∧ f 11 = va0 ∧ f 12 = (.int .i64 ((a0.length : Nat) : Int)) ∧ f 13 = (.int .i64 (ik1 : Int)) ∧ Inv w0 w [ownI (α := Int) v5 3 s2]) ?_ ?_
    ·
     refine W.block ?_
     refine W.seq ?_
     refine W.region ?_
     refine O.move (v := (.int .i64 (ik1 : Int))) rfl rfl rfl ?_
     obtain ⟨x1, hx1, hm3⟩ := bind_some hm3
     obtain ⟨p1, hp1, hrp1⟩ := fix_indexAddr Tryz.underlying33 sz3 ha0 hx1
     refine hrp1 rfl rfl rfl rfl ?_
     refine O.load sc3 rfl rfl rfl ((hp1.mono H.base).flat 0 _ rfl) ?_
     refine O.assign (v := (.int .i64 (ik1 : Int))) rfl rfl rfl ?_
     refine O.assign (v := (.int .i64 x1)) rfl rfl rfl ?_
     refine WL.nil ?_
     refine W.seq ?_
     refine W.region ?_
     refine O.move (v := (.int .i64 x1)) rfl rfl rfl ?_
     refine O.assign (v := (.int .i64 x1)) rfl rfl rfl ?_
     refine WL.nil ?_
     refine W.seq ?_
     refine W.seq ?_
     refine W.region ?_
     refine O.move (v := v2) rfl rfl rfl ?_
     refine O.move (v := (.int .i64 x1)) rfl rfl rfl ?_
     obtain ⟨t2, hy2, hm3⟩ := bind_some hm3
     refine O.call Tryz.call40 rfl rfl rfl (c_slices_Contains_int _ _ (H.own 0 rfl) _ hy2) ?_
     rintro _ w2 hb2 rfl
     have H := H.ext hb2
     refine WL.nil ?_
     obtain ⟨s3, hm4, hm3⟩ := bind_some hm3
     refine W.via (fun f w => f 0 = va0 ∧ f 4 = v2 ∧ f 7 = (.int .i64 s3) ∧ f 11 = va0 ∧ f 12 = (.int .i64 ((a0.length : Nat) : Int)) ∧ f 13 = (.int .i64 (ik1 : Int)) ∧ Inv w0 w [ownI (α := Int) v2 3 z2]) ?_ ?_
     ·
      rcases ite_some hm4 with ⟨hc2, hm4⟩ | ⟨hc2, hm4⟩
      ·
       refine W.cond_true (congrArg Value.bool hc2) ?_
       refine W.seq ?_
       refine W.region ?_
       refine O.assign (v := (.int .i64 10)) rfl rfl rfl ?_
       refine WL.nil ?_
       obtain ⟨s4, hm5, hm4⟩ := bind_some hm4
       refine W.via (fun f w => f 0 = va0 ∧ f 4 = v2 ∧ f 7 = (.int .i64 s4) ∧ f 11 = va0 ∧ f 12 = (.int .i64 ((a0.length : Nat) : Int)) ∧ f 13 = (.int .i64 (ik1 : Int)) ∧ Inv w0 w [ownI (α := Int) v2 3 z2]) ?_ ?_
       ·
        refine W.block ?_
        refine W.loopR hm5 (fun s f w => ∃ z5 : Int, z5 = s ∧ f 0 = va0 ∧ f 4 = v2 ∧ f 5 = (.int .i64 (ik1 : Int)) ∧ f 6 = (.int .i64 x1) ∧ f 7 = (.int .i64 z5) ∧ f 11 = va0 ∧ f 12 = (.int .i64 ((a0.length : Nat) : Int)) ∧ f 13 = (.int .i64 (ik1 : Int)) ∧ Inv w0 w [ownI (α := Int) v2 3 z2]) ?_ ?_
        ·
         exact ⟨_, rfl, rfl, rfl, rfl, rfl, rfl, rfl, rfl, rfl, H⟩
        ·
         rintro _ st f w ⟨z5, rfl, hf0, hf4, hf5, hf6, hf7, hf11, hf12, hf13, H⟩ hm6
         obtain ⟨u2, rfl⟩ := up8 hf0 hf4 hf5 hf6 hf7 hf11 hf12 hf13
         refine W.seq ?_
         refine W.seq ?_
         refine W.region ?_
         refine O.move (v := v2) rfl rfl rfl ?_
         refine O.move (v := (.int .i64 z5)) rfl rfl rfl ?_
         obtain ⟨t3, hy3, hm6⟩ := bind_some hm6
         refine O.call Tryz.call40 rfl rfl rfl (c_slices_Contains_int _ _ (H.own 0 rfl) _ hy3) ?_
         rintro _ w3 hb3 rfl
         have H := H.ext hb3
         refine O.move (v := (.bool t3)) rfl rfl rfl ?_
         obtain ⟨b1, hm7, hm6⟩ := bind_some hm6
         refine WL.cut 5 (fun f w => f 0 = va0 ∧ f 4 = v2 ∧ f 5 = (.int .i64 (ik1 : Int)) ∧ f 6 = (.int .i64 x1) ∧ f 7 = (.int .i64 z5) ∧ f 11 = va0 ∧ f 12 = (.int .i64 ((a0.length : Nat) : Int)) ∧ f 13 = (.int .i64 (ik1 : Int)) ∧ f 30 = .bool b1 ∧ Inv w0 w [ownI (α := Int) v2 3 z2]) ?_ ?_
         ·
          rcases ite_some hm7 with ⟨hc3, hm7⟩ | ⟨hc3, hm7⟩
          ·
           refine WL.reset (i := 25) (v := .bool true) (congrArg Value.bool hc3) ?_
           refine O.skip rfl rfl ?_
           refine O.skip rfl rfl ?_
           refine O.skip rfl rfl ?_
           refine O.skip rfl rfl ?_
           refine O.pick_true (v := (.bool true)) rfl rfl rfl rfl ?_
           refine WL.nil ?_
           have hq : true = b1 := Option.some.inj (show some true = some b1 from hm7)
           subst hq
           exact ⟨rfl, rfl, rfl, rfl, rfl, rfl, rfl, rfl, rfl, H⟩
          ·
           refine WL.reset (i := 25) (v := .bool false) (congrArg Value.bool hc3) ?_
           refine O.move (v := (.int .i64 z5)) rfl rfl rfl ?_
           obtain ⟨t4, hy4, hm7⟩ := bind_some hm7
           refine O.call Tryz.call41 rfl rfl rfl (c_flag_place _ hy4) ?_
           rintro _ w4 hb4 rfl
           have H := H.ext hb4
           refine O.move (v := (.int .i64 (ik1 : Int))) rfl rfl rfl ?_
           refine O.geq rfl rfl rfl rfl ?_
           refine O.pick_false (v := (.bool (decide ((ik1 : Int) ≤ t4)))) rfl rfl rfl rfl ?_
           refine WL.nil ?_
           have hq : (decide ((ik1 : Int) ≤ t4)) = b1 := Option.some.inj (show some (decide ((ik1 : Int) ≤ t4)) = some b1 from hm7)
           subst hq
           exact ⟨rfl, rfl, rfl, rfl, rfl, rfl, rfl, rfl, rfl, H⟩
         ·
          rintro f w ⟨hf0, hf4, hf5, hf6, hf7, hf11, hf12, hf13, hf30, H⟩
          obtain ⟨u3, rfl⟩ := up9 hf0 hf4 hf5 hf6 hf7 hf11 hf12 hf13 hf30
          refine O.move (v := (.bool b1)) rfl rfl rfl ?_
          obtain ⟨b2, hm8, hm6⟩ := bind_some hm6
          refine WL.cut 8 (fun f w => f 0 = va0 ∧ f 4 = v2 ∧ f 5 = (.int .i64 (ik1 : Int)) ∧ f 6 = (.int .i64 x1) ∧ f 7 = (.int .i64 z5) ∧ f 11 = va0 ∧ f 12 = (.int .i64 ((a0.length : Nat) : Int)) ∧ f 13 = (.int .i64 (ik1 : Int)) ∧ f 39 = .bool b2 ∧ Inv w0 w [ownI (α := Int) v2 3 z2]) ?_ ?_
          ·
           rcases ite_some hm8 with ⟨hc4, hm8⟩ | ⟨hc4, hm8⟩
           ·
            refine WL.reset (i := 31) (v := .bool true) (congrArg Value.bool hc4) ?_
            refine O.skip rfl rfl ?_
            refine O.skip rfl rfl ?_
            refine O.skip rfl rfl ?_
            refine O.skip rfl rfl ?_
            refine O.skip rfl rfl ?_
            refine O.skip rfl rfl ?_
            refine O.skip rfl rfl ?_
            refine O.pick_true (v := (.bool true)) rfl rfl rfl rfl ?_
            refine WL.nil ?_
            have hq : true = b2 := Option.some.inj (show some true = some b2 from hm8)
            subst hq
            exact ⟨rfl, rfl, rfl, rfl, rfl, rfl, rfl, rfl, rfl, H⟩
           ·
            refine WL.reset (i := 31) (v := .bool false) (congrArg Value.bool hc4) ?_
            refine O.move (v := va0) rfl rfl rfl ?_
            refine O.move (v := (.int .i64 z5)) rfl rfl rfl ?_
            obtain ⟨t5, hy5, hm8⟩ := bind_some hm8
            refine O.call Tryz.call41 rfl rfl rfl (c_flag_place _ hy5) ?_
            rintro _ w5 hb5 rfl
            have H := H.ext hb5
            obtain ⟨x2, hx2, hm8⟩ := bind_some hm8
            obtain ⟨p2, hp2, hrp2⟩ := fix_indexAddr Tryz.underlying33 sz3 ha0 hx2
            refine hrp2 rfl rfl rfl rfl ?_
            refine O.load sc3 rfl rfl rfl ((hp2.mono H.base).flat 0 _ rfl) ?_
            refine O.move (v := (.int .i64 x1)) rfl rfl rfl ?_
            refine O.neq rfl rfl rfl rfl ?_
            refine O.pick_false (v := (.bool (x2 != x1))) rfl rfl rfl rfl ?_
            refine WL.nil ?_
            have hq : (x2 != x1) = b2 := Option.some.inj (show some (x2 != x1) = some b2 from hm8)
            subst hq
            exact ⟨rfl, rfl, rfl, rfl, rfl, rfl, rfl, rfl, rfl, H⟩
          ·
           rintro f w ⟨hf0, hf4, hf5, hf6, hf7, hf11, hf12, hf13, hf39, H⟩
           obtain ⟨u4, rfl⟩ := up9 hf0 hf4 hf5 hf6 hf7 hf11 hf12 hf13 hf39
           refine WL.nil ?_
           rcases ite_some hm6 with ⟨hc5, hm6⟩ | ⟨hc5, hm6⟩
           ·
            refine W.cond_true (congrArg Value.bool hc5) ?_
            refine W.skip ?_
            refine W.seq ?_
            refine W.block ?_
            refine W.skip ?_
            refine W.region ?_
            refine O.move (v := (.int .i64 z5)) rfl rfl rfl ?_
            obtain ⟨t6, ht6, hm6⟩ := bind_some hm6
            refine O.add rfl rfl rfl rfl ht6 ?_
            refine O.assign (v := (.int .i64 t6)) rfl rfl rfl ?_
            refine WL.nil ?_
            obtain rfl := Option.some.inj hm6
            exact ⟨_, rfl, _, rfl, rfl, rfl, rfl, rfl, rfl, rfl, rfl, rfl, H⟩
           ·
            refine W.cond_false (congrArg Value.bool hc5) ?_
            refine W.exit ?_
            obtain rfl := Option.some.inj hm6
            refine ⟨_, rfl, ?_⟩
            intro hy
            have hq : z5 = s4 := hy
            subst hq
            refine xT rfl ?_
            exact ⟨rfl, rfl, rfl, rfl, rfl, rfl, H⟩
       ·
        rintro f w ⟨hf0, hf4, hf7, hf11, hf12, hf13, H⟩
        obtain ⟨u5, rfl⟩ := up6 hf0 hf4 hf7 hf11 hf12 hf13
        have hq : s4 = s3 := Option.some.inj (show some s4 = some s3 from hm4)
        subst hq
        exact ⟨rfl, rfl, rfl, rfl, rfl, rfl, H⟩
      ·
       refine W.cond_false (congrArg Value.bool hc2) ?_
       refine W.skip ?_
       have hq : x1 = s3 := Option.some.inj (show some x1 = some s3 from hm4)
       subst hq
       exact ⟨rfl, rfl, rfl, rfl, rfl, rfl, H⟩
     ·
      rintro f w ⟨hf0, hf4, hf7, hf11, hf12, hf13, H⟩
      obtain ⟨u6, rfl⟩ := up6 hf0 hf4 hf7 hf11 hf12 hf13
      refine W.region ?_
      refine O.move (v := v2) rfl rfl rfl ?_
      refine O.move (v := (.int .i64 s3)) rfl rfl rfl ?_
      refine O.buildSlice (α := Int) [(.int .i64 s3)] [s3] Tryz.underlying33 el3 H rfl rfl rfl rfl rfl rfl rfl ?_
      intro v6 w6 H hb6
      obtain ⟨t7, ht7, hm3⟩ := bind_some hm3
      refine O.append 0 Tryz.underlying33 el3 rfl H rfl (H.own 1 rfl) ht7 rfl rfl rfl rfl ?_
      intro v7 w7 H
      refine O.assign (v := v7) rfl rfl rfl ?_
      refine WL.nil ?_
      have H := H.keep [0] [ownI (α := Int) v7 3 t7] rfl (by decide)
      have hq : t7 = s2 := Option.some.inj (show some t7 = some s2 from hm3)
      subst hq
      exact ⟨v7, rfl, rfl, rfl, rfl, rfl, H⟩
    ·
     rintro f w ⟨v5, hf0, hf4, hf11, hf12, hf13, H⟩
     obtain ⟨u7, rfl⟩ := up5 hf0 hf4 hf11 hf12 hf13
     refine W.region ?_
     refine O.add rfl rfl rfl rfl hinck1 ?_
     refine O.move (v := .int .i64 ((ik1 : Int) + 1)) rfl rfl rfl ?_
     refine WL.nil ?_
     obtain rfl := Option.some.inj hm2
     exact ⟨_, rfl, _, v5, rfl, rangeN_next hdropk1, rfl, rfl, rfl, rfl, rfl, H⟩
   ·
    rintro ik1 _ f w ⟨z2, v2, rfl, hdropk1, hf13, hf12, hf0, hf4, hf11, H⟩ hfin
    have hltk1 := rangeN_end hdropk1
    obtain ⟨u8, rfl⟩ := up5 hf13 hf12 hf0 hf4 hf11
    refine W.seq ?_
    refine W.region ?_
    refine O.lss rfl rfl rfl rfl ?_
    refine WL.nil ?_
    refine W.seq ?_
    refine W.cond_false (congrArg Value.bool (decide_eq_false hltk1)) ?_
    refine W.exit ?_
    have hq : z2 = s1 := hfin
    subst hq
    refine xT rfl ?_
    exact ⟨v2, rfl, H⟩
  ·
   rintro f w ⟨v4, hf4, H⟩
   obtain ⟨u9, rfl⟩ := up1 hf4
   refine W.seq ?_
   refine W.region ?_
   refine O.move (v := v4) rfl rfl rfl ?_
   refine O.assign (v := v4) rfl rfl rfl ?_
   refine O.assign (v := (.int .i64 0)) rfl rfl rfl ?_
   refine WL.nil ?_
   refine W.ret ?_
   have hq : (s1, 0) = (r0, r1) := Option.some.inj (show some (s1, 0) = some (r0, r1) from hm)
   obtain ⟨he0, hq0⟩ := Prod.mk.inj hq; clear hq; subst he0
   subst hq0
   exact ends2 Tryz.results13 rfl rfl ⟨_, rfl, H.base, ⟨_, rfl, H.ownR 0 rfl⟩⟩

set_option maxRecDepth 20000 in
theorem c_noongunref06_SameInts {w0 : World} (va0 : Value) (a0 : (List Int)) (ha0 : SliceR w0 va0 a0) (va1 : Value) (a1 : (List Int)) (ha1 : SliceR w0 va1 a1) {r0 : Bool} (hm : noongunref06_SameInts a0 a1 = some r0) :
  Calls Tryz.prog 14 #[va0, va1] w0 (Ret w0 fun _ v => v = (.bool r0)) := by
 unfold noongunref06_SameInts at hm
 refine calls_of_W Tryz.func14 rfl Tryz.ntmps14 (Nat.le_of_ble_eq_true rfl) ?_
 have H := Inv.start (w := w0)
 refine W.seq ?_
 refine W.region ?_
 refine O.assign (v := (.bool false)) rfl rfl rfl ?_
 refine WL.nil ?_
 refine W.seq ?_
 refine W.seq ?_
 refine W.region ?_
 refine O.move (v := va0) rfl rfl rfl ?_
 refine O.lenS Tryz.underlying33 (H.arg ha0) rfl rfl rfl ?_
 refine O.move (v := va1) rfl rfl rfl ?_
 refine O.lenS Tryz.underlying33 (H.arg ha1) rfl rfl rfl ?_
 refine O.neq rfl rfl rfl rfl ?_
 refine WL.nil ?_
 rcases ite_some hm with ⟨hc1, hm⟩ | ⟨hc1, hm⟩
 ·
  refine W.cond_true (congrArg Value.bool hc1) ?_
  refine W.seq ?_
  refine W.region ?_
  refine O.assign (v := (.bool false)) rfl rfl rfl ?_
  refine WL.nil ?_
  refine W.ret ?_
  have hq : false = r0 := Option.some.inj (show some false = some r0 from hm)
  subst hq
  exact ends1 Tryz.results14 rfl ⟨_, rfl, H.base, rfl⟩
 ·
  refine W.cond_false (congrArg Value.bool hc1) ?_
  refine W.skip ?_
  refine W.seq ?_
  refine W.seq ?_
  refine W.region ?_
  refine O.move (v := va0) rfl rfl rfl ?_
  refine O.lenS Tryz.underlying33 (H.arg ha0) rfl rfl rfl ?_
  refine O.move (v := (.int .i64 0)) rfl rfl rfl ?_
  refine WL.nil ?_
  obtain ⟨o1, hm1, hm⟩ := bind_some hm
  refine W.via (fun f w => o1 = .next () ∧ Inv w0 w []) ?_ ?_
  ·
   refine W.block ?_
   have hbdik1 := (H.arg ha0).len_le
   refine W.rangeN (i := 0) hm1 (fun rem ik1 s f w => () = s ∧ (ik1 : Int) + rem = max 0 ((a0.length : Nat) : Int) ∧ f 13 = .int .i64 (ik1 : Int) ∧ f 12 = (.int .i64 ((a0.length : Nat) : Int)) ∧ f 0 = va0 ∧ f 1 = va1 ∧ Inv w0 w []) ?_ ?_ ?_
   ·
    exact ⟨rfl, rangeN_start, rfl, rfl, rfl, rfl, H⟩
   ·
    rintro k ik1 _ st f w ⟨rfl, hdropk1, hf13, hf12, hf0, hf1, H⟩ hm2
    have hltk1 := rangeN_lt hdropk1
    obtain ⟨u1, rfl⟩ := up4 hf13 hf12 hf0 hf1
    have hinck1 := addI_lt hltk1 hbdik1
    refine W.seq ?_
    refine W.region ?_
    refine O.lss rfl rfl rfl rfl ?_
    refine WL.nil ?_
    refine W.seq ?_
    refine W.cond_true (congrArg Value.bool (decide_eq_true hltk1)) ?_
    refine W.skip ?_
    refine W.seq ?_
    refine W.block ?_
    refine W.seq ?_
    refine W.region ?_
    refine O.move (v := (.int .i64 (ik1 : Int))) rfl rfl rfl ?_
    refine O.assign (v := (.int .i64 (ik1 : Int))) rfl rfl rfl ?_
    refine WL.nil ?_
    refine W.seq ?_
    obtain ⟨x1, hx1, hm2⟩ := bind_some hm2
    obtain ⟨p1, hp1, hrp1⟩ := fix_indexAddr Tryz.underlying33 sz3 (H.arg ha0) hx1
    obtain ⟨x2, hx2, hm2⟩ := bind_some hm2
    obtain ⟨p2, hp2, hrp2⟩ := fix_indexAddr Tryz.underlying33 sz3 (H.arg ha1) hx2
    refine W.drawN 8 (fun f => f 0 = va0 ∧ f 1 = va1 ∧ f 12 = (.int .i64 ((a0.length : Nat) : Int)) ∧ f 13 = (.int .i64 (ik1 : Int)) ∧ f 19 = (.int .i64 x1) ∧ f 23 = (.int .i64 x2)) fol (by kernel_rfl) ?_ ?_
    ·
     refine PL.of (fun _ w8 _ hx => O.move (v := va0) rfl rfl rfl (WL.nil ⟨rfl, hx⟩)) ?_
     refine PL.of (fun _ w8 _ hx => O.move (v := (.int .i64 (ik1 : Int))) rfl rfl rfl (WL.nil ⟨rfl, hx⟩)) ?_
     refine PL.of (fun _ w8 _ hx => hrp1 rfl rfl rfl rfl (WL.nil ⟨rfl, hx⟩)) ?_
     refine PL.of (fun _ w8 _ hx => by have hp1 := hp1.mono hx; exact O.load sc3 rfl rfl rfl (hp1.flat 0 _ rfl) (WL.nil ⟨rfl, hx⟩)) ?_
     refine PL.of (fun _ w8 _ hx => O.move (v := va1) rfl rfl rfl (WL.nil ⟨rfl, hx⟩)) ?_
     refine PL.of (fun _ w8 _ hx => O.move (v := (.int .i64 (ik1 : Int))) rfl rfl rfl (WL.nil ⟨rfl, hx⟩)) ?_
     refine PL.of (fun _ w8 _ hx => hrp2 rfl rfl rfl rfl (WL.nil ⟨rfl, hx⟩)) ?_
     refine PL.of (fun _ w8 _ hx => by have hp2 := hp2.mono hx; exact O.load sc3 rfl rfl rfl (hp2.flat 0 _ rfl) (WL.nil ⟨rfl, hx⟩)) ?_
     refine PL.nil ?_
     exact ⟨rfl, rfl, rfl, rfl, rfl, rfl⟩
    ·
     rintro f w ⟨hf0, hf1, hf12, hf13, hf19, hf23⟩ hmd hx
     have H := H.ext hx
     have hp1 := hp1.mono hx
     have hp2 := hp2.mono hx
     obtain ⟨u2, rfl⟩ := up6 hf0 hf1 hf12 hf13 hf19 hf23
     refine O.neq rfl rfl rfl rfl ?_
     refine WL.nil ?_
     rcases ite_some hm2 with ⟨hc2, hm2⟩ | ⟨hc2, hm2⟩
     ·
      refine W.cond_true (congrArg Value.bool hc2) ?_
      refine W.seq ?_
      refine W.region ?_
      refine O.assign (v := (.bool false)) rfl rfl rfl ?_
      refine WL.nil ?_
      refine W.ret ?_
      obtain rfl := Option.some.inj hm2
      refine ⟨_, rfl, ?_⟩
      rintro rfl
      have hq : false = r0 := Option.some.inj (show some false = some r0 from hm)
      subst hq
      exact ends1 Tryz.results14 rfl ⟨_, rfl, H.base, rfl⟩
     ·
      refine W.cond_false (congrArg Value.bool hc2) ?_
      refine W.skip ?_
      refine W.region ?_
      refine O.add rfl rfl rfl rfl hinck1 ?_
      refine O.move (v := .int .i64 ((ik1 : Int) + 1)) rfl rfl rfl ?_
      refine WL.nil ?_
      obtain rfl := Option.some.inj hm2
      exact ⟨_, rfl, rfl, rangeN_next hdropk1, rfl, rfl, rfl, rfl, H⟩
   ·
    rintro ik1 _ f w ⟨rfl, hdropk1, hf13, hf12, hf0, hf1, H⟩ hfin
    have hltk1 := rangeN_end hdropk1
    obtain ⟨u3, rfl⟩ := up4 hf13 hf12 hf0 hf1
    refine W.seq ?_
    refine W.region ?_
    refine O.lss rfl rfl rfl rfl ?_
    refine WL.nil ?_
    refine W.seq ?_
    refine W.cond_false (congrArg Value.bool (decide_eq_false hltk1)) ?_
    refine W.exit ?_
    obtain rfl : Ctl.next () = o1 := hfin
    refine xT rfl ?_
    exact ⟨rfl, H⟩
  ·
   rintro f w ⟨rfl, H⟩
   refine W.seq ?_
   refine W.region ?_
   refine O.assign (v := (.bool true)) rfl rfl rfl ?_
   refine WL.nil ?_
   refine W.ret ?_
   have hq : true = r0 := Option.some.inj (show some true = some r0 from hm)
   subst hq
   exact ends1 Tryz.results14 rfl ⟨_, rfl, H.base, rfl⟩

theorem c_ball_within {w0 : World} (a0 : Int) (a1 : Int) (a2 : Int) {r0 : Bool} (hm : ball_within a0 a1 a2 = some r0) :
  Calls Tryz.prog 17 #[(.int .i64 a0), (.int .i64 a1), (.int .i64 a2)] w0 (Ret w0 fun _ v => v = (.bool r0)) := by
 unfold ball_within at hm
 refine calls_of_W Tryz.func17 rfl Tryz.ntmps17 (Nat.le_of_ble_eq_true rfl) ?_
 have H := Inv.start (w := w0)
 refine W.seq ?_
 refine W.region ?_
 refine O.assign (v := (.bool false)) rfl rfl rfl ?_
 refine WL.nil ?_
 refine W.seq ?_
 refine W.region ?_
 refine O.move (v := (.int .i64 a0)) rfl rfl rfl ?_
 refine O.move (v := (.int .i64 a1)) rfl rfl rfl ?_
 refine O.geq rfl rfl rfl rfl ?_
 refine O.move (v := (.bool (decide (a1 ≤ a0)))) rfl rfl rfl ?_
 refine WL.cut 4 (fun f w => f 14 = .bool ((decide (a1 ≤ a0)) && (decide (a0 ≤ a2))) ∧ Inv w0 w []) ?_ ?_
 ·
  rcases bool_ft (decide (a1 ≤ a0)) with hc1 | hc1
  ·
   refine WL.reset (i := 10) (v := .bool false) (congrArg Value.bool hc1) ?_
   refine O.skip rfl rfl ?_
   refine O.skip rfl rfl ?_
   refine O.skip rfl rfl ?_
   refine O.pick_false (v := (.bool false)) rfl rfl rfl rfl ?_
   exact WL.nil ⟨congrArg Value.bool (and_f hc1), H⟩
  ·
   refine WL.reset (i := 10) (v := .bool true) (congrArg Value.bool hc1) ?_
   refine O.move (v := (.int .i64 a0)) rfl rfl rfl ?_
   refine O.move (v := (.int .i64 a2)) rfl rfl rfl ?_
   refine O.leq rfl rfl rfl rfl ?_
   refine O.pick_true (v := (.bool (decide (a0 ≤ a2)))) rfl rfl rfl rfl ?_
   exact WL.nil ⟨congrArg Value.bool (and_t hc1), H⟩
 ·
  rintro f w ⟨hf14, H⟩
  obtain ⟨u1, rfl⟩ := up1 hf14
  refine O.assign (v := (.bool ((decide (a1 ≤ a0)) && (decide (a0 ≤ a2))))) rfl rfl rfl ?_
  refine WL.nil ?_
  refine W.ret ?_
  have hq : ((decide (a1 ≤ a0)) && (decide (a0 ≤ a2))) = r0 := Option.some.inj (show some ((decide (a1 ≤ a0)) && (decide (a0 ≤ a2))) = some r0 from hm)
  subst hq
  exact ends1 Tryz.results17 rfl ⟨_, rfl, H.base, rfl⟩

theorem c_ball_Word {w0 : World} (a0 : Int) {r0 : ByteArray} (hm : ball_Word a0 = some r0) :
  Calls Tryz.prog 6 #[(.int .i64 a0)] w0 (Ret w0 fun _ v => v = (.string r0)) := by
 unfold ball_Word at hm
 refine calls_of_W Tryz.func6 rfl Tryz.ntmps6 (Nat.le_of_ble_eq_true rfl) ?_
 have H := Inv.start (w := w0)
 refine W.seq ?_
 refine W.region ?_
 refine O.assign (v := (.string (bs []))) rfl rfl rfl ?_
 refine WL.nil ?_
 refine W.seq ?_
 refine W.seq ?_
 refine W.region ?_
 refine O.move (v := (.int .i64 a0)) rfl rfl rfl ?_
 obtain ⟨t1, hy1, hm⟩ := bind_some hm
 refine O.call Tryz.call17 rfl rfl rfl (c_ball_within _ _ _ hy1) ?_
 rintro _ w1 hb1 rfl
 have H := H.ext hb1
 refine O.not rfl rfl rfl ?_
 refine WL.nil ?_
 rcases ite_some hm with ⟨hc1, hm⟩ | ⟨hc1, hm⟩
 ·
  refine W.cond_true (congrArg Value.bool hc1) ?_
  refine W.seq ?_
  refine W.region ?_
  refine O.assign (v := (.string (bs []))) rfl rfl rfl ?_
  refine WL.nil ?_
  refine W.ret ?_
  have hq : (bs []) = r0 := Option.some.inj (show some (bs []) = some r0 from hm)
  subst hq
  exact ends1 Tryz.results6 rfl ⟨_, rfl, H.base, rfl⟩
 ·
  refine W.cond_false (congrArg Value.bool hc1) ?_
  refine W.skip ?_
  refine W.seq ?_
  refine W.region ?_
  refine O.build (v := (.agg #[(.string (bs [103, 111, 111, 100])), (.string (bs [119, 114, 111, 110, 103])), (.string (bs [102, 97, 108, 115, 101])), (.string (bs [97, 103, 97, 105, 110])), (.string (bs [116, 111, 108, 100])), (.string (bs [115, 105, 108, 101, 110, 116]))])) (fun w => bd57_s6 w) rfl rfl rfl ?_
  refine O.move (v := (.int .i64 a0)) rfl rfl rfl ?_
  obtain ⟨x1, hx1, hm⟩ := bind_some hm
  refine O.arrIdxS (l := ([(bs [103, 111, 111, 100]), (bs [119, 114, 111, 110, 103]), (bs [102, 97, 108, 115, 101]), (bs [97, 103, 97, 105, 110]), (bs [116, 111, 108, 100]), (bs [115, 105, 108, 101, 110, 116])] : List ByteArray)) Tryz.underlying57 sz9 sc9 rfl hx1 rfl rfl rfl rfl ?_
  refine O.assign (v := (.string x1)) rfl rfl rfl ?_
  refine WL.nil ?_
  refine W.ret ?_
  have hq : x1 = r0 := Option.some.inj (show some x1 = some r0 from hm)
  subst hq
  exact ends1 Tryz.results6 rfl ⟨_, rfl, H.base, rfl⟩

set_option maxRecDepth 20000 in
theorem c_noonguntop_awake9 {w0 : World}  {r0 : Bool} (hm : noonguntop_awake9  = some r0) :
  Calls Tryz.prog 4 #[] w0 (Ret w0 fun _ v => v = (.bool r0)) := by
 unfold noonguntop_awake9 at hm
 refine calls_of_W Tryz.func4 rfl Tryz.ntmps4 (Nat.le_of_ble_eq_true rfl) ?_
 have H := Inv.start (w := w0)
 refine W.seq ?_
 refine W.region ?_
 refine O.assign (v := (.bool false)) rfl rfl rfl ?_
 refine WL.nil ?_
 refine W.seq ?_
 refine W.region ?_
 refine O.buildSlice (α := Int) [(.int .i64 0), (.int .i64 7), (.int .i64 14), (.int .i64 21), (.int .i64 28), (.int .i64 35), (.int .i64 42), (.int .i64 49), (.int .i64 57), (.int .i64 65), (.int .i64 73), (.int .i64 81), (.int .i64 89), (.int .i64 97), (.int .i64 105)] [0, 7, 14, 21, 28, 35, 42, 49, 57, 65, 73, 81, 89, 97, 105] Tryz.underlying33 el3 H rfl rfl rfl rfl rfl rfl rfl ?_
 intro v1 w1 H hb1
 obtain ⟨ad1, cap1, hvad1, _⟩ := (H.own 0 rfl).shape
 refine O.build (v := (.agg #[(.string (bs [97])), v1])) (fun w => by rw [hvad1]; exact bd47_0_1 _ _ _ _ w) rfl rfl rfl ?_
 obtain ⟨⟨t1, t2⟩, hy1, hm⟩ := bind_some hm
 refine O.call Tryz.call12 rfl rfl rfl (c_rate_Trial _ (GBox.mk (bs [97]) ([0, 7, 14, 21, 28, 35, 42, 49, 57, 65, 73, 81, 89, 97, 105] : List Int)) (H.own 0 rfl) hy1) ?_
 rintro _ w2 hb2 rfl
 have H := H.ext hb2
 refine O.move (v := (.tuple #[(.agg (Flat.cells t1).toArray), (.int .i64 t2)])) rfl rfl rfl ?_
 refine O.extract (v := (.agg (Flat.cells t1).toArray)) rfl rfl rfl rfl ?_
 refine O.extract (v := (.int .i64 t2)) rfl rfl rfl rfl ?_
 refine O.alloc [(.string ByteArray.empty), (.int .i64 0), (.int .i64 0), (.int .i64 0), (.int .i64 0)] ze43 H rfl rfl rfl ?_
 intro b1 w3 H hb3
 refine O.store 1 0 [(.string t1.Name), (.int .i64 t1.Least), (.int .i64 t1.Greatest), (.int .i64 t1.Leap), (.int .i64 t1.Number)] [(.string t1.Name), (.int .i64 t1.Least), (.int .i64 t1.Greatest), (.int .i64 t1.Leap), (.int .i64 t1.Number)] sz43 H rfl rfl rfl rfl rfl rfl ⟨⟨rfl, rfl⟩, rfl⟩ (one_cons rfl (one_cons rfl (one_cons rfl (one_cons rfl (one_cons rfl one_nil))))) ?_
 intro w4 H
 refine O.assign (v := (.int .i64 t2)) rfl rfl rfl ?_
 refine WL.nil ?_
 refine W.seq ?_
 refine W.region ?_
 refine O.buildSlice (α := Int) [(.int .i64 1), (.int .i64 1), (.int .i64 1), (.int .i64 1)] [1, 1, 1, 1] Tryz.underlying33 el3 H rfl rfl rfl rfl rfl rfl rfl ?_
 intro v2 w5 H hb4
 obtain ⟨⟨t3, t4⟩, hy2, hm⟩ := bind_some hm
 refine O.call Tryz.call13 rfl rfl rfl (c_flag_Hoist _ _ (H.own 2 rfl) hy2) ?_
 rintro _ w6 hb5 ⟨v3, rfl, ho1⟩
 have H := H.addOwn hb5 ho1
 refine O.move (v := (.tuple #[v3, (.int .i64 t4)])) rfl rfl rfl ?_
 refine O.extract (v := v3) rfl rfl rfl rfl ?_
 refine O.extract (v := (.int .i64 t4)) rfl rfl rfl rfl ?_
 refine O.assign (v := v3) rfl rfl rfl ?_
 refine O.assign (v := (.int .i64 t4)) rfl rfl rfl ?_
 refine WL.nil ?_
 refine W.seq ?_
 refine W.region ?_
 refine O.move (v := (.int .i64 t2)) rfl rfl rfl ?_
 refine O.eql rfl rfl rfl rfl ?_
 refine O.move (v := (.bool (t2 == 0))) rfl rfl rfl ?_
 refine WL.cut 4 (fun f w => f 3 = v3 ∧ f 4 = (.int .i64 t4) ∧ f 22 = .bool ((t2 == 0) && (t1.Number == 21)) ∧ Inv w0 w [ownI (α := Int) v1 3 ([0, 7, 14, 21, 28, 35, 42, 49, 57, 65, 73, 81, 89, 97, 105] : List Int), boxI b1 43 [(.string t1.Name), (.int .i64 t1.Least), (.int .i64 t1.Greatest), (.int .i64 t1.Leap), (.int .i64 t1.Number)], ownI (α := Int) v2 3 ([1, 1, 1, 1] : List Int), ownI (α := Int) v3 3 t3]) ?_ ?_
 ·
  rcases bool_ft (t2 == 0) with hc1 | hc1
  ·
   refine WL.reset (i := 18) (v := .bool false) (congrArg Value.bool hc1) ?_
   refine O.skip rfl rfl ?_
   refine O.skip rfl rfl ?_
   refine O.skip rfl rfl ?_
   refine O.pick_false (v := (.bool false)) rfl rfl rfl rfl ?_
   exact WL.nil ⟨rfl, rfl, congrArg Value.bool (and_f hc1), H⟩
  ·
   refine WL.reset (i := 18) (v := .bool true) (congrArg Value.bool hc1) ?_
   refine O.fieldAddr fd43_4 rfl rfl rfl ?_
   refine O.load sc3 rfl rfl rfl (H.cell 1 rfl 4 _ rfl) ?_
   refine O.eql rfl rfl rfl rfl ?_
   refine O.pick_true (v := (.bool (t1.Number == 21))) rfl rfl rfl rfl ?_
   exact WL.nil ⟨rfl, rfl, congrArg Value.bool (and_t hc1), H⟩
 ·
  rintro f w ⟨hf3, hf4, hf22, H⟩
  obtain ⟨u1, rfl⟩ := up3 hf3 hf4 hf22
  refine O.move (v := (.bool ((t2 == 0) && (t1.Number == 21)))) rfl rfl rfl ?_
  refine WL.cut 3 (fun f w => f 3 = v3 ∧ f 26 = .bool (((t2 == 0) && (t1.Number == 21)) && (t4 == 0)) ∧ Inv w0 w [ownI (α := Int) v1 3 ([0, 7, 14, 21, 28, 35, 42, 49, 57, 65, 73, 81, 89, 97, 105] : List Int), boxI b1 43 [(.string t1.Name), (.int .i64 t1.Least), (.int .i64 t1.Greatest), (.int .i64 t1.Leap), (.int .i64 t1.Number)], ownI (α := Int) v2 3 ([1, 1, 1, 1] : List Int), ownI (α := Int) v3 3 t3]) ?_ ?_
  ·
   rcases bool_ft ((t2 == 0) && (t1.Number == 21)) with hc2 | hc2
   ·
    refine WL.reset (i := 23) (v := .bool false) (congrArg Value.bool hc2) ?_
    refine O.skip rfl rfl ?_
    refine O.skip rfl rfl ?_
    refine O.pick_false (v := (.bool false)) rfl rfl rfl rfl ?_
    exact WL.nil ⟨rfl, congrArg Value.bool (and_f hc2), H⟩
   ·
    refine WL.reset (i := 23) (v := .bool true) (congrArg Value.bool hc2) ?_
    refine O.move (v := (.int .i64 t4)) rfl rfl rfl ?_
    refine O.eql rfl rfl rfl rfl ?_
    refine O.pick_true (v := (.bool (t4 == 0))) rfl rfl rfl rfl ?_
    exact WL.nil ⟨rfl, congrArg Value.bool (and_t hc2), H⟩
  ·
   rintro f w ⟨hf3, hf26, H⟩
   obtain ⟨u2, rfl⟩ := up2 hf3 hf26
   refine O.move (v := (.bool (((t2 == 0) && (t1.Number == 21)) && (t4 == 0)))) rfl rfl rfl ?_
   obtain ⟨b2, hm1, hm⟩ := bind_some hm
   refine WL.cut 4 (fun f w => f 31 = .bool b2 ∧ Inv w0 w [ownI (α := Int) v1 3 ([0, 7, 14, 21, 28, 35, 42, 49, 57, 65, 73, 81, 89, 97, 105] : List Int), boxI b1 43 [(.string t1.Name), (.int .i64 t1.Least), (.int .i64 t1.Greatest), (.int .i64 t1.Leap), (.int .i64 t1.Number)], ownI (α := Int) v2 3 ([1, 1, 1, 1] : List Int), ownI (α := Int) v3 3 t3]) ?_ ?_
   ·
    rcases ite_some hm1 with ⟨hc3, hm1⟩ | ⟨hc3, hm1⟩
    ·
     refine WL.reset (i := 27) (v := .bool true) (congrArg Value.bool hc3) ?_
     refine O.move (v := v3) rfl rfl rfl ?_
     refine O.buildSlice (α := Int) [(.int .i64 1), (.int .i64 10), (.int .i64 11), (.int .i64 12)] [1, 10, 11, 12] Tryz.underlying33 el3 H rfl rfl rfl rfl rfl rfl rfl ?_
     intro v4 w7 H hb6
     obtain ⟨t5, hy3, hm1⟩ := bind_some hm1
     refine O.call Tryz.call14 rfl rfl rfl (c_noongunref06_SameInts _ _ (H.own 3 rfl) _ _ (H.own 4 rfl) hy3) ?_
     rintro _ w8 hb7 rfl
     have H := H.ext hb7
     refine O.pick_true (v := (.bool t5)) rfl rfl rfl rfl ?_
     refine WL.nil ?_
     have H := H.keep [0, 1, 2, 3] [ownI (α := Int) v1 3 ([0, 7, 14, 21, 28, 35, 42, 49, 57, 65, 73, 81, 89, 97, 105] : List Int), boxI b1 43 [(.string t1.Name), (.int .i64 t1.Least), (.int .i64 t1.Greatest), (.int .i64 t1.Leap), (.int .i64 t1.Number)], ownI (α := Int) v2 3 ([1, 1, 1, 1] : List Int), ownI (α := Int) v3 3 t3] rfl (by decide)
     have hq : t5 = b2 := Option.some.inj (show some t5 = some b2 from hm1)
     subst hq
     exact ⟨rfl, H⟩
    ·
     refine WL.reset (i := 27) (v := .bool false) (congrArg Value.bool hc3) ?_
     refine O.skip rfl rfl ?_
     refine O.skip rfl rfl ?_
     refine O.skip rfl rfl ?_
     refine O.pick_false (v := (.bool false)) rfl rfl rfl rfl ?_
     refine WL.nil ?_
     have hq : false = b2 := Option.some.inj (show some false = some b2 from hm1)
     subst hq
     exact ⟨rfl, H⟩
   ·
    rintro f w ⟨hf31, H⟩
    obtain ⟨u3, rfl⟩ := up1 hf31
    refine O.move (v := (.bool b2)) rfl rfl rfl ?_
    obtain ⟨b3, hm2, hm⟩ := bind_some hm
    refine WL.cut 3 (fun f w => f 35 = .bool b3 ∧ Inv w0 w [ownI (α := Int) v1 3 ([0, 7, 14, 21, 28, 35, 42, 49, 57, 65, 73, 81, 89, 97, 105] : List Int), boxI b1 43 [(.string t1.Name), (.int .i64 t1.Least), (.int .i64 t1.Greatest), (.int .i64 t1.Leap), (.int .i64 t1.Number)], ownI (α := Int) v2 3 ([1, 1, 1, 1] : List Int), ownI (α := Int) v3 3 t3]) ?_ ?_
    ·
     rcases ite_some hm2 with ⟨hc4, hm2⟩ | ⟨hc4, hm2⟩
     ·
      refine WL.reset (i := 32) (v := .bool true) (congrArg Value.bool hc4) ?_
      obtain ⟨t6, hy4, hm2⟩ := bind_some hm2
      refine O.call Tryz.call6 rfl rfl rfl (c_ball_Word _ hy4) ?_
      rintro _ w9 hb8 rfl
      have H := H.ext hb8
      refine O.eqlS rfl rfl rfl rfl ?_
      refine O.pick_true (v := (.bool (decide (t6 = (bs [97, 103, 97, 105, 110]))))) rfl rfl rfl rfl ?_
      refine WL.nil ?_
      have hq : (decide (t6 = (bs [97, 103, 97, 105, 110]))) = b3 := Option.some.inj (show some (decide (t6 = (bs [97, 103, 97, 105, 110]))) = some b3 from hm2)
      subst hq
      exact ⟨rfl, H⟩
     ·
      refine WL.reset (i := 32) (v := .bool false) (congrArg Value.bool hc4) ?_
      refine O.skip rfl rfl ?_
      refine O.skip rfl rfl ?_
      refine O.pick_false (v := (.bool false)) rfl rfl rfl rfl ?_
      refine WL.nil ?_
      have hq : false = b3 := Option.some.inj (show some false = some b3 from hm2)
      subst hq
      exact ⟨rfl, H⟩
    ·
     rintro f w ⟨hf35, H⟩
     obtain ⟨u4, rfl⟩ := up1 hf35
     refine O.assign (v := (.bool b3)) rfl rfl rfl ?_
     refine WL.nil ?_
     refine W.ret ?_
     have hq : b3 = r0 := Option.some.inj (show some b3 = some r0 from hm)
     subst hq
     exact ends1 Tryz.results4 rfl ⟨_, rfl, H.base, rfl⟩

set_option maxRecDepth 20000 in
theorem c_ball_ValidMast {w0 : World} (a0 : GMast) {r0 : Bool} (hm : ball_ValidMast a0 = some r0) :
  Calls Tryz.prog 42 #[(.agg (Flat.cells a0).toArray)] w0 (Ret w0 fun _ v => v = (.bool r0)) := by
 unfold ball_ValidMast at hm
 refine calls_of_W Tryz.func42 rfl Tryz.ntmps42 (Nat.le_of_ble_eq_true rfl) ?_
 have H := Inv.start (w := w0)
 refine W.seq ?_
 refine W.region ?_
 refine O.box [(.int .i64 a0.Noon), (.int .i64 a0.Half), (.int .i64 a0.Full), (.int .i64 a0.Late), (.int .i64 a0.Again), (.int .i64 a0.Wind)] H rfl rfl rfl rfl ?_
 intro b1 w1 H hb1
 refine O.assign (v := (.bool false)) rfl rfl rfl ?_
 refine WL.nil ?_
 refine W.seq ?_
 refine W.region ?_
 refine O.fieldAddr fd23_0 rfl rfl rfl ?_
 refine O.load sc3 rfl rfl rfl (H.cell 0 rfl 0 _ rfl) ?_
 obtain ⟨t1, hy1, hm⟩ := bind_some hm
 refine O.call Tryz.call17 rfl rfl rfl (c_ball_within _ _ _ hy1) ?_
 rintro _ w2 hb2 rfl
 have H := H.ext hb2
 refine O.move (v := (.bool t1)) rfl rfl rfl ?_
 refine WL.cut 4 (fun f w => f 1 = (.pointer (some ⟨b1, 0, none⟩)) ∧ f 10 = .bool (t1 && (decide (1000 ≤ a0.Full))) ∧ Inv w0 w [boxI b1 23 [(.int .i64 a0.Noon), (.int .i64 a0.Half), (.int .i64 a0.Full), (.int .i64 a0.Late), (.int .i64 a0.Again), (.int .i64 a0.Wind)]]) ?_ ?_
 ·
  rcases bool_ft t1 with hc1 | hc1
  ·
   refine WL.reset (i := 6) (v := .bool false) (congrArg Value.bool hc1) ?_
   refine O.skip rfl rfl ?_
   refine O.skip rfl rfl ?_
   refine O.skip rfl rfl ?_
   refine O.pick_false (v := (.bool false)) rfl rfl rfl rfl ?_
   exact WL.nil ⟨rfl, congrArg Value.bool (and_f hc1), H⟩
  ·
   refine WL.reset (i := 6) (v := .bool true) (congrArg Value.bool hc1) ?_
   refine O.fieldAddr fd23_2 rfl rfl rfl ?_
   refine O.load sc3 rfl rfl rfl (H.cell 0 rfl 2 _ rfl) ?_
   refine O.geq rfl rfl rfl rfl ?_
   refine O.pick_true (v := (.bool (decide (1000 ≤ a0.Full)))) rfl rfl rfl rfl ?_
   exact WL.nil ⟨rfl, congrArg Value.bool (and_t hc1), H⟩
 ·
  rintro f w ⟨hf1, hf10, H⟩
  obtain ⟨u1, rfl⟩ := up2 hf1 hf10
  refine O.move (v := (.bool (t1 && (decide (1000 ≤ a0.Full))))) rfl rfl rfl ?_
  refine WL.cut 6 (fun f w => f 1 = (.pointer (some ⟨b1, 0, none⟩)) ∧ f 17 = .bool ((t1 && (decide (1000 ≤ a0.Full))) && (decide (a0.Full < a0.Half))) ∧ Inv w0 w [boxI b1 23 [(.int .i64 a0.Noon), (.int .i64 a0.Half), (.int .i64 a0.Full), (.int .i64 a0.Late), (.int .i64 a0.Again), (.int .i64 a0.Wind)]]) ?_ ?_
  ·
   rcases bool_ft (t1 && (decide (1000 ≤ a0.Full))) with hc2 | hc2
   ·
    refine WL.reset (i := 11) (v := .bool false) (congrArg Value.bool hc2) ?_
    refine O.skip rfl rfl ?_
    refine O.skip rfl rfl ?_
    refine O.skip rfl rfl ?_
    refine O.skip rfl rfl ?_
    refine O.skip rfl rfl ?_
    refine O.pick_false (v := (.bool false)) rfl rfl rfl rfl ?_
    exact WL.nil ⟨rfl, congrArg Value.bool (and_f hc2), H⟩
   ·
    refine WL.reset (i := 11) (v := .bool true) (congrArg Value.bool hc2) ?_
    refine O.fieldAddr fd23_2 rfl rfl rfl ?_
    refine O.load sc3 rfl rfl rfl (H.cell 0 rfl 2 _ rfl) ?_
    refine O.fieldAddr fd23_1 rfl rfl rfl ?_
    refine O.load sc3 rfl rfl rfl (H.cell 0 rfl 1 _ rfl) ?_
    refine O.lss rfl rfl rfl rfl ?_
    refine O.pick_true (v := (.bool (decide (a0.Full < a0.Half)))) rfl rfl rfl rfl ?_
    exact WL.nil ⟨rfl, congrArg Value.bool (and_t hc2), H⟩
  ·
   rintro f w ⟨hf1, hf17, H⟩
   obtain ⟨u2, rfl⟩ := up2 hf1 hf17
   refine O.move (v := (.bool ((t1 && (decide (1000 ≤ a0.Full))) && (decide (a0.Full < a0.Half))))) rfl rfl rfl ?_
   refine WL.cut 4 (fun f w => f 1 = (.pointer (some ⟨b1, 0, none⟩)) ∧ f 22 = .bool (((t1 && (decide (1000 ≤ a0.Full))) && (decide (a0.Full < a0.Half))) && (decide (a0.Half ≤ 3600000))) ∧ Inv w0 w [boxI b1 23 [(.int .i64 a0.Noon), (.int .i64 a0.Half), (.int .i64 a0.Full), (.int .i64 a0.Late), (.int .i64 a0.Again), (.int .i64 a0.Wind)]]) ?_ ?_
   ·
    rcases bool_ft ((t1 && (decide (1000 ≤ a0.Full))) && (decide (a0.Full < a0.Half))) with hc3 | hc3
    ·
     refine WL.reset (i := 18) (v := .bool false) (congrArg Value.bool hc3) ?_
     refine O.skip rfl rfl ?_
     refine O.skip rfl rfl ?_
     refine O.skip rfl rfl ?_
     refine O.pick_false (v := (.bool false)) rfl rfl rfl rfl ?_
     exact WL.nil ⟨rfl, congrArg Value.bool (and_f hc3), H⟩
    ·
     refine WL.reset (i := 18) (v := .bool true) (congrArg Value.bool hc3) ?_
     refine O.fieldAddr fd23_1 rfl rfl rfl ?_
     refine O.load sc3 rfl rfl rfl (H.cell 0 rfl 1 _ rfl) ?_
     refine O.leq rfl rfl rfl rfl ?_
     refine O.pick_true (v := (.bool (decide (a0.Half ≤ 3600000)))) rfl rfl rfl rfl ?_
     exact WL.nil ⟨rfl, congrArg Value.bool (and_t hc3), H⟩
   ·
    rintro f w ⟨hf1, hf22, H⟩
    obtain ⟨u3, rfl⟩ := up2 hf1 hf22
    refine O.move (v := (.bool (((t1 && (decide (1000 ≤ a0.Full))) && (decide (a0.Full < a0.Half))) && (decide (a0.Half ≤ 3600000))))) rfl rfl rfl ?_
    refine WL.cut 6 (fun f w => f 1 = (.pointer (some ⟨b1, 0, none⟩)) ∧ f 29 = .bool ((((t1 && (decide (1000 ≤ a0.Full))) && (decide (a0.Full < a0.Half))) && (decide (a0.Half ≤ 3600000))) && (decide (a0.Half ≤ a0.Noon))) ∧ Inv w0 w [boxI b1 23 [(.int .i64 a0.Noon), (.int .i64 a0.Half), (.int .i64 a0.Full), (.int .i64 a0.Late), (.int .i64 a0.Again), (.int .i64 a0.Wind)]]) ?_ ?_
    ·
     rcases bool_ft (((t1 && (decide (1000 ≤ a0.Full))) && (decide (a0.Full < a0.Half))) && (decide (a0.Half ≤ 3600000))) with hc4 | hc4
     ·
      refine WL.reset (i := 23) (v := .bool false) (congrArg Value.bool hc4) ?_
      refine O.skip rfl rfl ?_
      refine O.skip rfl rfl ?_
      refine O.skip rfl rfl ?_
      refine O.skip rfl rfl ?_
      refine O.skip rfl rfl ?_
      refine O.pick_false (v := (.bool false)) rfl rfl rfl rfl ?_
      exact WL.nil ⟨rfl, congrArg Value.bool (and_f hc4), H⟩
     ·
      refine WL.reset (i := 23) (v := .bool true) (congrArg Value.bool hc4) ?_
      refine O.fieldAddr fd23_1 rfl rfl rfl ?_
      refine O.load sc3 rfl rfl rfl (H.cell 0 rfl 1 _ rfl) ?_
      refine O.fieldAddr fd23_0 rfl rfl rfl ?_
      refine O.load sc3 rfl rfl rfl (H.cell 0 rfl 0 _ rfl) ?_
      refine O.leq rfl rfl rfl rfl ?_
      refine O.pick_true (v := (.bool (decide (a0.Half ≤ a0.Noon)))) rfl rfl rfl rfl ?_
      exact WL.nil ⟨rfl, congrArg Value.bool (and_t hc4), H⟩
    ·
     rintro f w ⟨hf1, hf29, H⟩
     obtain ⟨u4, rfl⟩ := up2 hf1 hf29
     refine O.move (v := (.bool ((((t1 && (decide (1000 ≤ a0.Full))) && (decide (a0.Full < a0.Half))) && (decide (a0.Half ≤ 3600000))) && (decide (a0.Half ≤ a0.Noon))))) rfl rfl rfl ?_
     obtain ⟨b2, hm1, hm⟩ := bind_some hm
     refine WL.cut 4 (fun f w => f 1 = (.pointer (some ⟨b1, 0, none⟩)) ∧ f 34 = .bool b2 ∧ Inv w0 w [boxI b1 23 [(.int .i64 a0.Noon), (.int .i64 a0.Half), (.int .i64 a0.Full), (.int .i64 a0.Late), (.int .i64 a0.Again), (.int .i64 a0.Wind)]]) ?_ ?_
     ·
      rcases ite_some hm1 with ⟨hc5, hm1⟩ | ⟨hc5, hm1⟩
      ·
       refine WL.reset (i := 30) (v := .bool true) (congrArg Value.bool hc5) ?_
       refine O.fieldAddr fd23_3 rfl rfl rfl ?_
       refine O.load sc3 rfl rfl rfl (H.cell 0 rfl 3 _ rfl) ?_
       obtain ⟨t2, hy2, hm1⟩ := bind_some hm1
       refine O.call Tryz.call17 rfl rfl rfl (c_ball_within _ _ _ hy2) ?_
       rintro _ w3 hb3 rfl
       have H := H.ext hb3
       refine O.pick_true (v := (.bool t2)) rfl rfl rfl rfl ?_
       refine WL.nil ?_
       have hq : t2 = b2 := Option.some.inj (show some t2 = some b2 from hm1)
       subst hq
       exact ⟨rfl, rfl, H⟩
      ·
       refine WL.reset (i := 30) (v := .bool false) (congrArg Value.bool hc5) ?_
       refine O.skip rfl rfl ?_
       refine O.skip rfl rfl ?_
       refine O.skip rfl rfl ?_
       refine O.pick_false (v := (.bool false)) rfl rfl rfl rfl ?_
       refine WL.nil ?_
       have hq : false = b2 := Option.some.inj (show some false = some b2 from hm1)
       subst hq
       exact ⟨rfl, rfl, H⟩
     ·
      rintro f w ⟨hf1, hf34, H⟩
      obtain ⟨u5, rfl⟩ := up2 hf1 hf34
      refine O.move (v := (.bool b2)) rfl rfl rfl ?_
      obtain ⟨b3, hm2, hm⟩ := bind_some hm
      refine WL.cut 6 (fun f w => f 1 = (.pointer (some ⟨b1, 0, none⟩)) ∧ f 41 = .bool b3 ∧ Inv w0 w [boxI b1 23 [(.int .i64 a0.Noon), (.int .i64 a0.Half), (.int .i64 a0.Full), (.int .i64 a0.Late), (.int .i64 a0.Again), (.int .i64 a0.Wind)]]) ?_ ?_
      ·
       rcases ite_some hm2 with ⟨hc6, hm2⟩ | ⟨hc6, hm2⟩
       ·
        refine WL.reset (i := 35) (v := .bool true) (congrArg Value.bool hc6) ?_
        refine O.fieldAddr fd23_4 rfl rfl rfl ?_
        refine O.load sc3 rfl rfl rfl (H.cell 0 rfl 4 _ rfl) ?_
        refine O.fieldAddr fd23_1 rfl rfl rfl ?_
        refine O.load sc3 rfl rfl rfl (H.cell 0 rfl 1 _ rfl) ?_
        obtain ⟨t3, hy3, hm2⟩ := bind_some hm2
        refine O.call Tryz.call17 rfl rfl rfl (c_ball_within _ _ _ hy3) ?_
        rintro _ w4 hb4 rfl
        have H := H.ext hb4
        refine O.pick_true (v := (.bool t3)) rfl rfl rfl rfl ?_
        refine WL.nil ?_
        have hq : t3 = b3 := Option.some.inj (show some t3 = some b3 from hm2)
        subst hq
        exact ⟨rfl, rfl, H⟩
       ·
        refine WL.reset (i := 35) (v := .bool false) (congrArg Value.bool hc6) ?_
        refine O.skip rfl rfl ?_
        refine O.skip rfl rfl ?_
        refine O.skip rfl rfl ?_
        refine O.skip rfl rfl ?_
        refine O.skip rfl rfl ?_
        refine O.pick_false (v := (.bool false)) rfl rfl rfl rfl ?_
        refine WL.nil ?_
        have hq : false = b3 := Option.some.inj (show some false = some b3 from hm2)
        subst hq
        exact ⟨rfl, rfl, H⟩
      ·
       rintro f w ⟨hf1, hf41, H⟩
       obtain ⟨u6, rfl⟩ := up2 hf1 hf41
       refine O.move (v := (.bool b3)) rfl rfl rfl ?_
       obtain ⟨b4, hm3, hm⟩ := bind_some hm
       refine WL.cut 7 (fun f w => f 1 = (.pointer (some ⟨b1, 0, none⟩)) ∧ f 49 = .bool b4 ∧ Inv w0 w [boxI b1 23 [(.int .i64 a0.Noon), (.int .i64 a0.Half), (.int .i64 a0.Full), (.int .i64 a0.Late), (.int .i64 a0.Again), (.int .i64 a0.Wind)]]) ?_ ?_
       ·
        rcases ite_some hm3 with ⟨hc7, hm3⟩ | ⟨hc7, hm3⟩
        ·
         refine WL.reset (i := 42) (v := .bool true) (congrArg Value.bool hc7) ?_
         refine O.fieldAddr fd23_0 rfl rfl rfl ?_
         refine O.load sc3 rfl rfl rfl (H.cell 0 rfl 0 _ rfl) ?_
         refine O.fieldAddr fd23_4 rfl rfl rfl ?_
         refine O.load sc3 rfl rfl rfl (H.cell 0 rfl 4 _ rfl) ?_
         obtain ⟨t4, ht4, hm3⟩ := bind_some hm3
         refine O.add rfl rfl rfl rfl ht4 ?_
         refine O.lss rfl rfl rfl rfl ?_
         refine O.pick_true (v := (.bool (decide (t4 < 86400000)))) rfl rfl rfl rfl ?_
         refine WL.nil ?_
         have hq : (decide (t4 < 86400000)) = b4 := Option.some.inj (show some (decide (t4 < 86400000)) = some b4 from hm3)
         subst hq
         exact ⟨rfl, rfl, H⟩
        ·
         refine WL.reset (i := 42) (v := .bool false) (congrArg Value.bool hc7) ?_
         refine O.skip rfl rfl ?_
         refine O.skip rfl rfl ?_
         refine O.skip rfl rfl ?_
         refine O.skip rfl rfl ?_
         refine O.skip rfl rfl ?_
         refine O.skip rfl rfl ?_
         refine O.pick_false (v := (.bool false)) rfl rfl rfl rfl ?_
         refine WL.nil ?_
         have hq : false = b4 := Option.some.inj (show some false = some b4 from hm3)
         subst hq
         exact ⟨rfl, rfl, H⟩
       ·
        rintro f w ⟨hf1, hf49, H⟩
        obtain ⟨u7, rfl⟩ := up2 hf1 hf49
        refine O.move (v := (.bool b4)) rfl rfl rfl ?_
        obtain ⟨b5, hm4, hm⟩ := bind_some hm
        refine WL.cut 4 (fun f w => f 54 = .bool b5 ∧ Inv w0 w [boxI b1 23 [(.int .i64 a0.Noon), (.int .i64 a0.Half), (.int .i64 a0.Full), (.int .i64 a0.Late), (.int .i64 a0.Again), (.int .i64 a0.Wind)]]) ?_ ?_
        ·
         rcases ite_some hm4 with ⟨hc8, hm4⟩ | ⟨hc8, hm4⟩
         ·
          refine WL.reset (i := 50) (v := .bool true) (congrArg Value.bool hc8) ?_
          refine O.fieldAddr fd23_5 rfl rfl rfl ?_
          refine O.load sc3 rfl rfl rfl (H.cell 0 rfl 5 _ rfl) ?_
          obtain ⟨t5, hy4, hm4⟩ := bind_some hm4
          refine O.call Tryz.call17 rfl rfl rfl (c_ball_within _ _ _ hy4) ?_
          rintro _ w5 hb5 rfl
          have H := H.ext hb5
          refine O.pick_true (v := (.bool t5)) rfl rfl rfl rfl ?_
          refine WL.nil ?_
          have hq : t5 = b5 := Option.some.inj (show some t5 = some b5 from hm4)
          subst hq
          exact ⟨rfl, H⟩
         ·
          refine WL.reset (i := 50) (v := .bool false) (congrArg Value.bool hc8) ?_
          refine O.skip rfl rfl ?_
          refine O.skip rfl rfl ?_
          refine O.skip rfl rfl ?_
          refine O.pick_false (v := (.bool false)) rfl rfl rfl rfl ?_
          refine WL.nil ?_
          have hq : false = b5 := Option.some.inj (show some false = some b5 from hm4)
          subst hq
          exact ⟨rfl, H⟩
        ·
         rintro f w ⟨hf54, H⟩
         obtain ⟨u8, rfl⟩ := up1 hf54
         refine O.assign (v := (.bool b5)) rfl rfl rfl ?_
         refine WL.nil ?_
         refine W.ret ?_
         have hq : b5 = r0 := Option.some.inj (show some b5 = some r0 from hm)
         subst hq
         exact ends1 Tryz.results42 rfl ⟨_, rfl, H.base, rfl⟩

set_option maxRecDepth 20000 in
theorem c_ball_fine {w0 : World} (a0 : GEvent) {r0 : Bool} (hm : ball_fine a0 = some r0) :
  Calls Tryz.prog 83 #[(.agg (Flat.cells a0).toArray)] w0 (Ret w0 fun _ v => v = (.bool r0)) := by
 unfold ball_fine at hm
 refine calls_of_W Tryz.func83 rfl Tryz.ntmps83 (Nat.le_of_ble_eq_true rfl) ?_
 have H := Inv.start (w := w0)
 refine W.seq ?_
 refine W.region ?_
 refine O.box [(.int .i64 a0.At), (.int .i64 a0.Kind), (.int .i64 a0.N)] H rfl rfl rfl rfl ?_
 intro b1 w1 H hb1
 refine O.assign (v := (.bool false)) rfl rfl rfl ?_
 refine WL.nil ?_
 refine W.seq ?_
 refine W.region ?_
 refine O.fieldAddr fd86_0 rfl rfl rfl ?_
 refine O.load sc3 rfl rfl rfl (H.cell 0 rfl 0 _ rfl) ?_
 obtain ⟨t1, hy1, hm⟩ := bind_some hm
 refine O.call Tryz.call17 rfl rfl rfl (c_ball_within _ _ _ hy1) ?_
 rintro _ w2 hb2 rfl
 have H := H.ext hb2
 refine O.move (v := (.bool t1)) rfl rfl rfl ?_
 obtain ⟨b2, hm1, hm⟩ := bind_some hm
 refine WL.cut 4 (fun f w => f 1 = (.pointer (some ⟨b1, 0, none⟩)) ∧ f 10 = .bool b2 ∧ Inv w0 w [boxI b1 86 [(.int .i64 a0.At), (.int .i64 a0.Kind), (.int .i64 a0.N)]]) ?_ ?_
 ·
  rcases ite_some hm1 with ⟨hc1, hm1⟩ | ⟨hc1, hm1⟩
  ·
   refine WL.reset (i := 6) (v := .bool true) (congrArg Value.bool hc1) ?_
   refine O.fieldAddr fd86_1 rfl rfl rfl ?_
   refine O.load sc3 rfl rfl rfl (H.cell 0 rfl 1 _ rfl) ?_
   obtain ⟨t2, hy2, hm1⟩ := bind_some hm1
   refine O.call Tryz.call17 rfl rfl rfl (c_ball_within _ _ _ hy2) ?_
   rintro _ w3 hb3 rfl
   have H := H.ext hb3
   refine O.pick_true (v := (.bool t2)) rfl rfl rfl rfl ?_
   refine WL.nil ?_
   have hq : t2 = b2 := Option.some.inj (show some t2 = some b2 from hm1)
   subst hq
   exact ⟨rfl, rfl, H⟩
  ·
   refine WL.reset (i := 6) (v := .bool false) (congrArg Value.bool hc1) ?_
   refine O.skip rfl rfl ?_
   refine O.skip rfl rfl ?_
   refine O.skip rfl rfl ?_
   refine O.pick_false (v := (.bool false)) rfl rfl rfl rfl ?_
   refine WL.nil ?_
   have hq : false = b2 := Option.some.inj (show some false = some b2 from hm1)
   subst hq
   exact ⟨rfl, rfl, H⟩
 ·
  rintro f w ⟨hf1, hf10, H⟩
  obtain ⟨u1, rfl⟩ := up2 hf1 hf10
  refine O.move (v := (.bool b2)) rfl rfl rfl ?_
  obtain ⟨b3, hm2, hm⟩ := bind_some hm
  refine WL.cut 4 (fun f w => f 1 = (.pointer (some ⟨b1, 0, none⟩)) ∧ f 15 = .bool b3 ∧ Inv w0 w [boxI b1 86 [(.int .i64 a0.At), (.int .i64 a0.Kind), (.int .i64 a0.N)]]) ?_ ?_
  ·
   rcases ite_some hm2 with ⟨hc2, hm2⟩ | ⟨hc2, hm2⟩
   ·
    refine WL.reset (i := 11) (v := .bool true) (congrArg Value.bool hc2) ?_
    refine O.fieldAddr fd86_2 rfl rfl rfl ?_
    refine O.load sc3 rfl rfl rfl (H.cell 0 rfl 2 _ rfl) ?_
    obtain ⟨t3, hy3, hm2⟩ := bind_some hm2
    refine O.call Tryz.call17 rfl rfl rfl (c_ball_within _ _ _ hy3) ?_
    rintro _ w4 hb4 rfl
    have H := H.ext hb4
    refine O.pick_true (v := (.bool t3)) rfl rfl rfl rfl ?_
    refine WL.nil ?_
    have hq : t3 = b3 := Option.some.inj (show some t3 = some b3 from hm2)
    subst hq
    exact ⟨rfl, rfl, H⟩
   ·
    refine WL.reset (i := 11) (v := .bool false) (congrArg Value.bool hc2) ?_
    refine O.skip rfl rfl ?_
    refine O.skip rfl rfl ?_
    refine O.skip rfl rfl ?_
    refine O.pick_false (v := (.bool false)) rfl rfl rfl rfl ?_
    refine WL.nil ?_
    have hq : false = b3 := Option.some.inj (show some false = some b3 from hm2)
    subst hq
    exact ⟨rfl, rfl, H⟩
  ·
   rintro f w ⟨hf1, hf15, H⟩
   obtain ⟨u2, rfl⟩ := up2 hf1 hf15
   refine O.move (v := (.bool b3)) rfl rfl rfl ?_
   refine WL.cut 9 (fun f w => f 25 = .bool (b3 && ((a0.Kind == 1) || (a0.N == 0))) ∧ Inv w0 w [boxI b1 86 [(.int .i64 a0.At), (.int .i64 a0.Kind), (.int .i64 a0.N)]]) ?_ ?_
   ·
    rcases bool_ft b3 with hc3 | hc3
    ·
     refine WL.reset (i := 16) (v := .bool false) (congrArg Value.bool hc3) ?_
     refine O.skip rfl rfl ?_
     refine O.skip rfl rfl ?_
     refine O.skip rfl rfl ?_
     refine O.skip rfl rfl ?_
     refine O.skip rfl rfl ?_
     refine O.skip rfl rfl ?_
     refine O.skip rfl rfl ?_
     refine O.skip rfl rfl ?_
     refine O.pick_false (v := (.bool false)) rfl rfl rfl rfl ?_
     exact WL.nil ⟨congrArg Value.bool (and_f hc3), H⟩
    ·
     refine WL.reset (i := 16) (v := .bool true) (congrArg Value.bool hc3) ?_
     refine O.fieldAddr fd86_1 rfl rfl rfl ?_
     refine O.load sc3 rfl rfl rfl (H.cell 0 rfl 1 _ rfl) ?_
     refine O.eql rfl rfl rfl rfl ?_
     refine O.move (v := (.bool (a0.Kind == 1))) rfl rfl rfl ?_
     refine WL.cut 4 (fun f w => f 16 = (.bool true) ∧ f 24 = .bool ((a0.Kind == 1) || (a0.N == 0)) ∧ Inv w0 w [boxI b1 86 [(.int .i64 a0.At), (.int .i64 a0.Kind), (.int .i64 a0.N)]]) ?_ ?_
     ·
      rcases bool_ft (a0.Kind == 1) with hc4 | hc4
      ·
       refine WL.reset (i := 20) (v := .bool false) (congrArg Value.bool hc4) ?_
       refine O.fieldAddr fd86_2 rfl rfl rfl ?_
       refine O.load sc3 rfl rfl rfl (H.cell 0 rfl 2 _ rfl) ?_
       refine O.eql rfl rfl rfl rfl ?_
       refine O.pick_false (v := (.bool (a0.N == 0))) rfl rfl rfl rfl ?_
       exact WL.nil ⟨rfl, congrArg Value.bool (or_f hc4), H⟩
      ·
       refine WL.reset (i := 20) (v := .bool true) (congrArg Value.bool hc4) ?_
       refine O.skip rfl rfl ?_
       refine O.skip rfl rfl ?_
       refine O.skip rfl rfl ?_
       refine O.pick_true (v := (.bool true)) rfl rfl rfl rfl ?_
       exact WL.nil ⟨rfl, congrArg Value.bool (or_t hc4), H⟩
     ·
      rintro f w ⟨hf16, hf24, H⟩
      obtain ⟨u3, rfl⟩ := up2 hf16 hf24
      refine O.pick_true (v := (.bool ((a0.Kind == 1) || (a0.N == 0)))) rfl rfl rfl rfl ?_
      exact WL.nil ⟨congrArg Value.bool (and_t hc3), H⟩
   ·
    rintro f w ⟨hf25, H⟩
    obtain ⟨u4, rfl⟩ := up1 hf25
    refine O.assign (v := (.bool (b3 && ((a0.Kind == 1) || (a0.N == 0))))) rfl rfl rfl ?_
    refine WL.nil ?_
    refine W.ret ?_
    have hq : (b3 && ((a0.Kind == 1) || (a0.N == 0))) = r0 := Option.some.inj (show some (b3 && ((a0.Kind == 1) || (a0.N == 0))) = some r0 from hm)
    subst hq
    exact ends1 Tryz.results83 rfl ⟨_, rfl, H.base, rfl⟩

theorem c_ball_rules_c1 {w0 : World} (a0 : GMast) (a1 : GBall) (a2 : Int) {r0 : Bool} (hm : ball_rules_c1 a0 a1 a2 = some r0) :
  Calls Tryz.prog 92 #[(.agg (Flat.cells a0).toArray), (.agg (Flat.cells a1).toArray), (.int .i64 a2)] w0 (Ret w0 fun _ v => v = (.bool r0)) := by
 unfold ball_rules_c1 at hm
 refine calls_of_W Tryz.func92 rfl Tryz.ntmps92 (Nat.le_of_ble_eq_true rfl) ?_
 have H := Inv.start (w := w0)
 refine W.seq ?_
 refine W.region ?_
 refine O.box [(.int .i64 a0.Noon), (.int .i64 a0.Half), (.int .i64 a0.Full), (.int .i64 a0.Late), (.int .i64 a0.Again), (.int .i64 a0.Wind)] H rfl rfl rfl rfl ?_
 intro b1 w1 H hb1
 refine O.box [(.int .i64 a1.Place), (.int .i64 a1.Wind), (.bool a1.Flag), (.int .i64 a1.At)] H rfl rfl rfl rfl ?_
 intro b2 w2 H hb2
 refine O.assign (v := (.bool false)) rfl rfl rfl ?_
 refine WL.nil ?_
 refine W.seq ?_
 refine W.region ?_
 refine O.assign (v := (.bool true)) rfl rfl rfl ?_
 refine WL.nil ?_
 refine W.ret ?_
 have hq : true = r0 := Option.some.inj (show some true = some r0 from hm)
 subst hq
 exact ends1 Tryz.results92 rfl ⟨_, rfl, H.base, rfl⟩

theorem c_ball_rules_c2 {w0 : World} (b0 : Nat) (a0 : GBall) (hb0 : w0.heap[b0]? = some (.cells (Flat.cells a0).toArray 51 (0, 0))) (a1 : Int) {r0 : GBall} (hm : ball_rules_c2 a0 a1 = some r0) :
  Calls Tryz.prog 93 #[(.pointer (some ⟨b0, 0, none⟩)), (.int .i64 a1)] w0 (fun e w => ∃ v, e = .returned v ∧ InvD (fun x => x = b0) w0 w [boxI b0 51 (Flat.cells r0)] ∧ v = .tuple #[]) := by
 unfold ball_rules_c2 at hm
 refine calls_of_W Tryz.func93 rfl Tryz.ntmps93 (Nat.le_of_ble_eq_true rfl) ?_
 have H : InvD (fun x => x = b0) w0 w0 [boxI b0 51 [(.int .i64 a0.Place), (.int .i64 a0.Wind), (.bool a0.Flag), (.int .i64 a0.At)]] := InvD.startX hb0
 refine W.region ?_
 refine O.move (v := (.pointer (some ⟨b0, 0, none⟩))) rfl rfl rfl ?_
 refine O.move (v := (.pointer (some ⟨b0, 0, none⟩))) rfl rfl rfl ?_
 refine O.nilCheck rfl rfl rfl ?_
 refine O.fieldAddr fd51_1 rfl rfl rfl ?_
 refine O.load sc3 rfl rfl rfl (H.cell 0 rfl 1 _ rfl) ?_
 refine O.move (v := (.int .i64 a1)) rfl rfl rfl ?_
 refine O.max2 rfl rfl rfl rfl ?_
 refine O.nilCheck rfl rfl rfl ?_
 refine O.fieldAddr fd51_1 rfl rfl rfl ?_
 refine O.store 0 1 [(.int .i64 (max a0.Wind a1))] [(.int .i64 a0.Place), (.int .i64 (max a0.Wind a1)), (.bool a0.Flag), (.int .i64 a0.At)] sz3 H rfl rfl rfl rfl rfl rfl ⟨⟨rfl, rfl⟩, rfl⟩ (one_cons rfl one_nil) ?_
 intro w1 H
 refine WL.nil ?_
 have hq : (GBall.mk a0.Place (max a0.Wind a1) a0.Flag a0.At) = r0 := Option.some.inj (show some (GBall.mk a0.Place (max a0.Wind a1) a0.Flag a0.At) = some r0 from hm)
 subst hq
 exact ends0 Tryz.results93  ⟨_, rfl, H.pick [0] [boxI b0 51 [(.int .i64 a0.Place), (.int .i64 (max a0.Wind a1)), (.bool a0.Flag), (.int .i64 a0.At)]] rfl (by decide), rfl⟩

theorem c_ball_hoisting_c1 {w0 : World} (a0 : Int) (pc0 : Addr) (c0 : Int) (hc0 : ∀ j c, (Flat.cells c0)[j]? = some c → w0.cell? (pc0.add j) = some c) (pc1 : Addr) (c1 : GMast) (hc1 : ∀ j c, (Flat.cells c1)[j]? = some c → w0.cell? (pc1.add j) = some c) {r0 : Bool} (hm : ball_hoisting_c1 a0 c0 c1 = some r0) :
  Calls Tryz.prog 110 #[(.int .i64 a0), (.pointer (some pc0)), (.pointer (some pc1))] w0 (Ret w0 fun _ v => v = (.bool r0)) := by
 unfold ball_hoisting_c1 at hm
 refine calls_of_W Tryz.func110 rfl Tryz.ntmps110 (Nat.le_of_ble_eq_true rfl) ?_
 have H := Inv.start (w := w0)
 refine W.seq ?_
 refine W.region ?_
 refine O.assign (v := (.bool false)) rfl rfl rfl ?_
 refine WL.nil ?_
 refine W.seq ?_
 refine W.region ?_
 refine O.load sc3 rfl rfl rfl (cells_mono hc0 H.base 0 _ rfl) ?_
 refine O.move (v := (.int .i64 a0)) rfl rfl rfl ?_
 refine O.fieldAddr fd23_1 rfl rfl rfl ?_
 refine O.load sc3 rfl rfl rfl (cells_mono hc1 H.base 1 _ rfl) ?_
 obtain ⟨t1, ht1, hm⟩ := bind_some hm
 refine O.sub rfl rfl rfl rfl ht1 ?_
 refine O.move (v := (.int .i64 a0)) rfl rfl rfl ?_
 refine O.fieldAddr fd23_2 rfl rfl rfl ?_
 refine O.load sc3 rfl rfl rfl (cells_mono hc1 H.base 2 _ rfl) ?_
 obtain ⟨t2, ht2, hm⟩ := bind_some hm
 refine O.sub rfl rfl rfl rfl ht2 ?_
 obtain ⟨t3, ht3, hm⟩ := bind_some hm
 refine O.sub rfl rfl rfl rfl ht3 ?_
 obtain ⟨t4, hy1, hm⟩ := bind_some hm
 refine O.call Tryz.call17 rfl rfl rfl (c_ball_within _ _ _ hy1) ?_
 rintro _ w1 hb1 rfl
 have H := H.ext hb1
 refine O.assign (v := (.bool t4)) rfl rfl rfl ?_
 refine WL.nil ?_
 refine W.ret ?_
 have hq : t4 = r0 := Option.some.inj (show some t4 = some r0 from hm)
 subst hq
 exact ends1 Tryz.results110 rfl ⟨_, rfl, H.base, rfl⟩

theorem c_ball_hoisting {w0 : World} (a0 : GMast) (a1 : Int) {r0 : Bool} (hm : ball_hoisting a0 a1 = some r0) :
  Calls Tryz.prog 95 #[(.agg (Flat.cells a0).toArray), (.int .i64 a1)] w0 (Ret w0 fun _ v => v = (.bool r0)) := by
 unfold ball_hoisting at hm
 refine calls_of_W Tryz.func95 rfl Tryz.ntmps95 (Nat.le_of_ble_eq_true rfl) ?_
 have H := Inv.start (w := w0)
 refine W.seq ?_
 refine W.region ?_
 refine O.box [(.int .i64 a0.Noon), (.int .i64 a0.Half), (.int .i64 a0.Full), (.int .i64 a0.Late), (.int .i64 a0.Again), (.int .i64 a0.Wind)] H rfl rfl rfl rfl ?_
 intro b1 w1 H hb1
 refine O.box [(.int .i64 a1)] H rfl rfl rfl rfl ?_
 intro b2 w2 H hb2
 refine O.assign (v := (.bool false)) rfl rfl rfl ?_
 refine WL.nil ?_
 refine W.seq ?_
 refine W.region ?_
 refine O.makeFunc rfl rfl rfl rfl ?_
 refine O.assign (v := (.func (.func 110) #[] #[(.pointer (some ⟨b2, 0, none⟩)), (.pointer (some ⟨b1, 0, none⟩))])) rfl rfl rfl ?_
 refine WL.nil ?_
 refine W.seq ?_
 refine W.region ?_
 refine O.move (v := (.func (.func 110) #[] #[(.pointer (some ⟨b2, 0, none⟩)), (.pointer (some ⟨b1, 0, none⟩))])) rfl rfl rfl ?_
 refine O.fieldAddr fd23_0 rfl rfl rfl ?_
 refine O.load sc3 rfl rfl rfl (H.cell 0 rfl 0 _ rfl) ?_
 obtain ⟨t1, hy1, hm⟩ := bind_some hm
 refine O.callV rfl rfl rfl rfl (callsV_mk Tryz.call110 (c_ball_hoisting_c1 _ _ a1 (H.cell 1 rfl) _ a0 (H.cell 0 rfl) hy1)) ?_
 rintro _ w3 hb3 rfl
 have H := H.ext hb3
 refine O.move (v := (.bool t1)) rfl rfl rfl ?_
 obtain ⟨b3, hm1, hm⟩ := bind_some hm
 refine WL.cut 8 (fun f w => f 19 = .bool b3 ∧ Inv w0 w [boxI b1 23 [(.int .i64 a0.Noon), (.int .i64 a0.Half), (.int .i64 a0.Full), (.int .i64 a0.Late), (.int .i64 a0.Again), (.int .i64 a0.Wind)], boxI b2 3 [(.int .i64 a1)]]) ?_ ?_
 ·
  rcases ite_some hm1 with ⟨hc1, hm1⟩ | ⟨hc1, hm1⟩
  ·
   refine WL.reset (i := 11) (v := .bool true) (congrArg Value.bool hc1) ?_
   refine O.skip rfl rfl ?_
   refine O.skip rfl rfl ?_
   refine O.skip rfl rfl ?_
   refine O.skip rfl rfl ?_
   refine O.skip rfl rfl ?_
   refine O.skip rfl rfl ?_
   refine O.skip rfl rfl ?_
   refine O.pick_true (v := (.bool true)) rfl rfl rfl rfl ?_
   refine WL.nil ?_
   have hq : true = b3 := Option.some.inj (show some true = some b3 from hm1)
   subst hq
   exact ⟨rfl, H⟩
  ·
   refine WL.reset (i := 11) (v := .bool false) (congrArg Value.bool hc1) ?_
   refine O.move (v := (.func (.func 110) #[] #[(.pointer (some ⟨b2, 0, none⟩)), (.pointer (some ⟨b1, 0, none⟩))])) rfl rfl rfl ?_
   refine O.fieldAddr fd23_0 rfl rfl rfl ?_
   refine O.load sc3 rfl rfl rfl (H.cell 0 rfl 0 _ rfl) ?_
   refine O.fieldAddr fd23_4 rfl rfl rfl ?_
   refine O.load sc3 rfl rfl rfl (H.cell 0 rfl 4 _ rfl) ?_
   obtain ⟨t2, ht2, hm1⟩ := bind_some hm1
   refine O.add rfl rfl rfl rfl ht2 ?_
   obtain ⟨t3, hy2, hm1⟩ := bind_some hm1
   refine O.callV rfl rfl rfl rfl (callsV_mk Tryz.call110 (c_ball_hoisting_c1 _ _ a1 (H.cell 1 rfl) _ a0 (H.cell 0 rfl) hy2)) ?_
   rintro _ w4 hb4 rfl
   have H := H.ext hb4
   refine O.pick_false (v := (.bool t3)) rfl rfl rfl rfl ?_
   refine WL.nil ?_
   have hq : t3 = b3 := Option.some.inj (show some t3 = some b3 from hm1)
   subst hq
   exact ⟨rfl, H⟩
 ·
  rintro f w ⟨hf19, H⟩
  obtain ⟨u1, rfl⟩ := up1 hf19
  refine O.assign (v := (.bool b3)) rfl rfl rfl ?_
  refine WL.nil ?_
  refine W.ret ?_
  have hq : b3 = r0 := Option.some.inj (show some b3 = some r0 from hm)
  subst hq
  exact ends1 Tryz.results95 rfl ⟨_, rfl, H.base, rfl⟩

theorem c_ball_rules_c3 {w0 : World} (a0 : GMast) (a1 : GBall) (a2 : Int) {r0 : Bool} (hm : ball_rules_c3 a0 a1 a2 = some r0) :
  Calls Tryz.prog 94 #[(.agg (Flat.cells a0).toArray), (.agg (Flat.cells a1).toArray), (.int .i64 a2)] w0 (Ret w0 fun _ v => v = (.bool r0)) := by
 unfold ball_rules_c3 at hm
 refine calls_of_W Tryz.func94 rfl Tryz.ntmps94 (Nat.le_of_ble_eq_true rfl) ?_
 have H := Inv.start (w := w0)
 refine W.seq ?_
 refine W.region ?_
 refine O.box [(.int .i64 a0.Noon), (.int .i64 a0.Half), (.int .i64 a0.Full), (.int .i64 a0.Late), (.int .i64 a0.Again), (.int .i64 a0.Wind)] H rfl rfl rfl rfl ?_
 intro b1 w1 H hb1
 refine O.box [(.int .i64 a1.Place), (.int .i64 a1.Wind), (.bool a1.Flag), (.int .i64 a1.At)] H rfl rfl rfl rfl ?_
 intro b2 w2 H hb2
 refine O.assign (v := (.bool false)) rfl rfl rfl ?_
 refine WL.nil ?_
 refine W.seq ?_
 refine W.region ?_
 refine O.fieldAddr fd51_0 rfl rfl rfl ?_
 refine O.load sc3 rfl rfl rfl (H.cell 1 rfl 0 _ rfl) ?_
 refine O.eql rfl rfl rfl rfl ?_
 refine O.move (v := (.bool (a1.Place == 0))) rfl rfl rfl ?_
 refine WL.cut 6 (fun f w => f 2 = (.int .i64 a2) ∧ f 3 = (.pointer (some ⟨b1, 0, none⟩)) ∧ f 16 = .bool ((a1.Place == 0) && (decide (a1.Wind ≤ a0.Wind))) ∧ Inv w0 w [boxI b1 23 [(.int .i64 a0.Noon), (.int .i64 a0.Half), (.int .i64 a0.Full), (.int .i64 a0.Late), (.int .i64 a0.Again), (.int .i64 a0.Wind)], boxI b2 51 [(.int .i64 a1.Place), (.int .i64 a1.Wind), (.bool a1.Flag), (.int .i64 a1.At)]]) ?_ ?_
 ·
  rcases bool_ft (a1.Place == 0) with hc1 | hc1
  ·
   refine WL.reset (i := 10) (v := .bool false) (congrArg Value.bool hc1) ?_
   refine O.skip rfl rfl ?_
   refine O.skip rfl rfl ?_
   refine O.skip rfl rfl ?_
   refine O.skip rfl rfl ?_
   refine O.skip rfl rfl ?_
   refine O.pick_false (v := (.bool false)) rfl rfl rfl rfl ?_
   exact WL.nil ⟨rfl, rfl, congrArg Value.bool (and_f hc1), H⟩
  ·
   refine WL.reset (i := 10) (v := .bool true) (congrArg Value.bool hc1) ?_
   refine O.fieldAddr fd51_1 rfl rfl rfl ?_
   refine O.load sc3 rfl rfl rfl (H.cell 1 rfl 1 _ rfl) ?_
   refine O.fieldAddr fd23_5 rfl rfl rfl ?_
   refine O.load sc3 rfl rfl rfl (H.cell 0 rfl 5 _ rfl) ?_
   refine O.leq rfl rfl rfl rfl ?_
   refine O.pick_true (v := (.bool (decide (a1.Wind ≤ a0.Wind)))) rfl rfl rfl rfl ?_
   exact WL.nil ⟨rfl, rfl, congrArg Value.bool (and_t hc1), H⟩
 ·
  rintro f w ⟨hf2, hf3, hf16, H⟩
  obtain ⟨u1, rfl⟩ := up3 hf2 hf3 hf16
  refine O.move (v := (.bool ((a1.Place == 0) && (decide (a1.Wind ≤ a0.Wind))))) rfl rfl rfl ?_
  obtain ⟨b3, hm1, hm⟩ := bind_some hm
  refine WL.cut 4 (fun f w => f 21 = .bool b3 ∧ Inv w0 w [boxI b1 23 [(.int .i64 a0.Noon), (.int .i64 a0.Half), (.int .i64 a0.Full), (.int .i64 a0.Late), (.int .i64 a0.Again), (.int .i64 a0.Wind)], boxI b2 51 [(.int .i64 a1.Place), (.int .i64 a1.Wind), (.bool a1.Flag), (.int .i64 a1.At)]]) ?_ ?_
  ·
   rcases ite_some hm1 with ⟨hc2, hm1⟩ | ⟨hc2, hm1⟩
   ·
    refine WL.reset (i := 17) (v := .bool true) (congrArg Value.bool hc2) ?_
    refine O.loadA [(.int .i64 a0.Noon), (.int .i64 a0.Half), (.int .i64 a0.Full), (.int .i64 a0.Late), (.int .i64 a0.Again), (.int .i64 a0.Wind)] ag23 rfl rfl rfl rfl (H.cell 0 rfl) ?_
    refine O.move (v := (.int .i64 a2)) rfl rfl rfl ?_
    obtain ⟨t1, hy1, hm1⟩ := bind_some hm1
    refine O.call Tryz.call95 rfl rfl rfl (c_ball_hoisting a0 _ hy1) ?_
    rintro _ w3 hb3 rfl
    have H := H.ext hb3
    refine O.pick_true (v := (.bool t1)) rfl rfl rfl rfl ?_
    refine WL.nil ?_
    have hq : t1 = b3 := Option.some.inj (show some t1 = some b3 from hm1)
    subst hq
    exact ⟨rfl, H⟩
   ·
    refine WL.reset (i := 17) (v := .bool false) (congrArg Value.bool hc2) ?_
    refine O.skip rfl rfl ?_
    refine O.skip rfl rfl ?_
    refine O.skip rfl rfl ?_
    refine O.pick_false (v := (.bool false)) rfl rfl rfl rfl ?_
    refine WL.nil ?_
    have hq : false = b3 := Option.some.inj (show some false = some b3 from hm1)
    subst hq
    exact ⟨rfl, H⟩
  ·
   rintro f w ⟨hf21, H⟩
   obtain ⟨u2, rfl⟩ := up1 hf21
   refine O.assign (v := (.bool b3)) rfl rfl rfl ?_
   refine WL.nil ?_
   refine W.ret ?_
   have hq : b3 = r0 := Option.some.inj (show some b3 = some r0 from hm)
   subst hq
   exact ends1 Tryz.results94 rfl ⟨_, rfl, H.base, rfl⟩

theorem c_ball_rules_c4 {w0 : World} (b0 : Nat) (a0 : GBall) (hb0 : w0.heap[b0]? = some (.cells (Flat.cells a0).toArray 51 (0, 0))) (a1 : Int) {r0 : GBall} (hm : ball_rules_c4 a0 a1 = some r0) :
  Calls Tryz.prog 96 #[(.pointer (some ⟨b0, 0, none⟩)), (.int .i64 a1)] w0 (fun e w => ∃ v, e = .returned v ∧ InvD (fun x => x = b0) w0 w [boxI b0 51 (Flat.cells r0)] ∧ v = .tuple #[]) := by
 unfold ball_rules_c4 at hm
 refine calls_of_W Tryz.func96 rfl Tryz.ntmps96 (Nat.le_of_ble_eq_true rfl) ?_
 have H : InvD (fun x => x = b0) w0 w0 [boxI b0 51 [(.int .i64 a0.Place), (.int .i64 a0.Wind), (.bool a0.Flag), (.int .i64 a0.At)]] := InvD.startX hb0
 refine W.region ?_
 refine O.move (v := (.pointer (some ⟨b0, 0, none⟩))) rfl rfl rfl ?_
 refine O.nilCheck rfl rfl rfl ?_
 refine O.fieldAddr fd51_0 rfl rfl rfl ?_
 refine O.store 0 0 [(.int .i64 1)] [(.int .i64 1), (.int .i64 a0.Wind), (.bool a0.Flag), (.int .i64 a0.At)] sz3 H rfl rfl rfl rfl rfl rfl ⟨⟨rfl, rfl⟩, rfl⟩ (one_cons rfl one_nil) ?_
 intro w1 H
 refine WL.nil ?_
 have hq : (GBall.mk 1 a0.Wind a0.Flag a0.At) = r0 := Option.some.inj (show some (GBall.mk 1 a0.Wind a0.Flag a0.At) = some r0 from hm)
 subst hq
 exact ends0 Tryz.results96  ⟨_, rfl, H.pick [0] [boxI b0 51 [(.int .i64 1), (.int .i64 a0.Wind), (.bool a0.Flag), (.int .i64 a0.At)]] rfl (by decide), rfl⟩

theorem c_ball_rules_c5 {w0 : World} (a0 : GMast) (a1 : GBall) (a2 : Int) {r0 : Bool} (hm : ball_rules_c5 a0 a1 a2 = some r0) :
  Calls Tryz.prog 97 #[(.agg (Flat.cells a0).toArray), (.agg (Flat.cells a1).toArray), (.int .i64 a2)] w0 (Ret w0 fun _ v => v = (.bool r0)) := by
 unfold ball_rules_c5 at hm
 refine calls_of_W Tryz.func97 rfl Tryz.ntmps97 (Nat.le_of_ble_eq_true rfl) ?_
 have H := Inv.start (w := w0)
 refine W.seq ?_
 refine W.region ?_
 refine O.box [(.int .i64 a0.Noon), (.int .i64 a0.Half), (.int .i64 a0.Full), (.int .i64 a0.Late), (.int .i64 a0.Again), (.int .i64 a0.Wind)] H rfl rfl rfl rfl ?_
 intro b1 w1 H hb1
 refine O.box [(.int .i64 a1.Place), (.int .i64 a1.Wind), (.bool a1.Flag), (.int .i64 a1.At)] H rfl rfl rfl rfl ?_
 intro b2 w2 H hb2
 refine O.assign (v := (.bool false)) rfl rfl rfl ?_
 refine WL.nil ?_
 refine W.seq ?_
 refine W.region ?_
 refine O.fieldAddr fd51_0 rfl rfl rfl ?_
 refine O.load sc3 rfl rfl rfl (H.cell 1 rfl 0 _ rfl) ?_
 refine O.eql rfl rfl rfl rfl ?_
 refine O.move (v := (.bool (a1.Place == 1))) rfl rfl rfl ?_
 obtain ⟨b3, hm1, hm⟩ := bind_some hm
 refine WL.cut 13 (fun f w => f 23 = .bool b3 ∧ Inv w0 w [boxI b1 23 [(.int .i64 a0.Noon), (.int .i64 a0.Half), (.int .i64 a0.Full), (.int .i64 a0.Late), (.int .i64 a0.Again), (.int .i64 a0.Wind)], boxI b2 51 [(.int .i64 a1.Place), (.int .i64 a1.Wind), (.bool a1.Flag), (.int .i64 a1.At)]]) ?_ ?_
 ·
  rcases ite_some hm1 with ⟨hc1, hm1⟩ | ⟨hc1, hm1⟩
  ·
   refine WL.reset (i := 10) (v := .bool true) (congrArg Value.bool hc1) ?_
   refine O.move (v := (.int .i64 a2)) rfl rfl rfl ?_
   refine O.fieldAddr fd23_0 rfl rfl rfl ?_
   refine O.load sc3 rfl rfl rfl (H.cell 0 rfl 0 _ rfl) ?_
   refine O.fieldAddr fd23_2 rfl rfl rfl ?_
   refine O.load sc3 rfl rfl rfl (H.cell 0 rfl 2 _ rfl) ?_
   obtain ⟨t1, ht1, hm1⟩ := bind_some hm1
   refine O.sub rfl rfl rfl rfl ht1 ?_
   refine O.fieldAddr fd23_0 rfl rfl rfl ?_
   refine O.load sc3 rfl rfl rfl (H.cell 0 rfl 0 _ rfl) ?_
   refine O.fieldAddr fd23_4 rfl rfl rfl ?_
   refine O.load sc3 rfl rfl rfl (H.cell 0 rfl 4 _ rfl) ?_
   obtain ⟨t2, ht2, hm1⟩ := bind_some hm1
   refine O.add rfl rfl rfl rfl ht2 ?_
   obtain ⟨t3, hy1, hm1⟩ := bind_some hm1
   refine O.call Tryz.call17 rfl rfl rfl (c_ball_within _ _ _ hy1) ?_
   rintro _ w3 hb3 rfl
   have H := H.ext hb3
   refine O.pick_true (v := (.bool t3)) rfl rfl rfl rfl ?_
   refine WL.nil ?_
   have hq : t3 = b3 := Option.some.inj (show some t3 = some b3 from hm1)
   subst hq
   exact ⟨rfl, H⟩
  ·
   refine WL.reset (i := 10) (v := .bool false) (congrArg Value.bool hc1) ?_
   refine O.skip rfl rfl ?_
   refine O.skip rfl rfl ?_
   refine O.skip rfl rfl ?_
   refine O.skip rfl rfl ?_
   refine O.skip rfl rfl ?_
   refine O.skip rfl rfl ?_
   refine O.skip rfl rfl ?_
   refine O.skip rfl rfl ?_
   refine O.skip rfl rfl ?_
   refine O.skip rfl rfl ?_
   refine O.skip rfl rfl ?_
   refine O.skip rfl rfl ?_
   refine O.pick_false (v := (.bool false)) rfl rfl rfl rfl ?_
   refine WL.nil ?_
   have hq : false = b3 := Option.some.inj (show some false = some b3 from hm1)
   subst hq
   exact ⟨rfl, H⟩
 ·
  rintro f w ⟨hf23, H⟩
  obtain ⟨u1, rfl⟩ := up1 hf23
  refine O.assign (v := (.bool b3)) rfl rfl rfl ?_
  refine WL.nil ?_
  refine W.ret ?_
  have hq : b3 = r0 := Option.some.inj (show some b3 = some r0 from hm)
  subst hq
  exact ends1 Tryz.results97 rfl ⟨_, rfl, H.base, rfl⟩

theorem c_ball_rules_c6 {w0 : World} (b0 : Nat) (a0 : GBall) (hb0 : w0.heap[b0]? = some (.cells (Flat.cells a0).toArray 51 (0, 0))) (a1 : Int) {r0 : GBall} (hm : ball_rules_c6 a0 a1 = some r0) :
  Calls Tryz.prog 98 #[(.pointer (some ⟨b0, 0, none⟩)), (.int .i64 a1)] w0 (fun e w => ∃ v, e = .returned v ∧ InvD (fun x => x = b0) w0 w [boxI b0 51 (Flat.cells r0)] ∧ v = .tuple #[]) := by
 unfold ball_rules_c6 at hm
 refine calls_of_W Tryz.func98 rfl Tryz.ntmps98 (Nat.le_of_ble_eq_true rfl) ?_
 have H : InvD (fun x => x = b0) w0 w0 [boxI b0 51 [(.int .i64 a0.Place), (.int .i64 a0.Wind), (.bool a0.Flag), (.int .i64 a0.At)]] := InvD.startX hb0
 refine W.region ?_
 refine O.move (v := (.pointer (some ⟨b0, 0, none⟩))) rfl rfl rfl ?_
 refine O.nilCheck rfl rfl rfl ?_
 refine O.fieldAddr fd51_0 rfl rfl rfl ?_
 refine O.store 0 0 [(.int .i64 2)] [(.int .i64 2), (.int .i64 a0.Wind), (.bool a0.Flag), (.int .i64 a0.At)] sz3 H rfl rfl rfl rfl rfl rfl ⟨⟨rfl, rfl⟩, rfl⟩ (one_cons rfl one_nil) ?_
 intro w1 H
 refine WL.nil ?_
 have hq : (GBall.mk 2 a0.Wind a0.Flag a0.At) = r0 := Option.some.inj (show some (GBall.mk 2 a0.Wind a0.Flag a0.At) = some r0 from hm)
 subst hq
 exact ends0 Tryz.results98  ⟨_, rfl, H.pick [0] [boxI b0 51 [(.int .i64 2), (.int .i64 a0.Wind), (.bool a0.Flag), (.int .i64 a0.At)]] rfl (by decide), rfl⟩

theorem c_ball_rules_c7 {w0 : World} (a0 : GMast) (a1 : GBall) (a2 : Int) {r0 : Bool} (hm : ball_rules_c7 a0 a1 a2 = some r0) :
  Calls Tryz.prog 99 #[(.agg (Flat.cells a0).toArray), (.agg (Flat.cells a1).toArray), (.int .i64 a2)] w0 (Ret w0 fun _ v => v = (.bool r0)) := by
 unfold ball_rules_c7 at hm
 refine calls_of_W Tryz.func99 rfl Tryz.ntmps99 (Nat.le_of_ble_eq_true rfl) ?_
 have H := Inv.start (w := w0)
 refine W.seq ?_
 refine W.region ?_
 refine O.box [(.int .i64 a0.Noon), (.int .i64 a0.Half), (.int .i64 a0.Full), (.int .i64 a0.Late), (.int .i64 a0.Again), (.int .i64 a0.Wind)] H rfl rfl rfl rfl ?_
 intro b1 w1 H hb1
 refine O.box [(.int .i64 a1.Place), (.int .i64 a1.Wind), (.bool a1.Flag), (.int .i64 a1.At)] H rfl rfl rfl rfl ?_
 intro b2 w2 H hb2
 refine O.assign (v := (.bool false)) rfl rfl rfl ?_
 refine WL.nil ?_
 refine W.seq ?_
 refine W.region ?_
 refine O.fieldAddr fd51_0 rfl rfl rfl ?_
 refine O.load sc3 rfl rfl rfl (H.cell 1 rfl 0 _ rfl) ?_
 refine O.eql rfl rfl rfl rfl ?_
 refine O.assign (v := (.bool (a1.Place == 2))) rfl rfl rfl ?_
 refine WL.nil ?_
 refine W.ret ?_
 have hq : (a1.Place == 2) = r0 := Option.some.inj (show some (a1.Place == 2) = some r0 from hm)
 subst hq
 exact ends1 Tryz.results99 rfl ⟨_, rfl, H.base, rfl⟩

theorem c_ball_rules_c8 {w0 : World} (b0 : Nat) (a0 : GBall) (hb0 : w0.heap[b0]? = some (.cells (Flat.cells a0).toArray 51 (0, 0))) (a1 : Int) {r0 : GBall} (hm : ball_rules_c8 a0 a1 = some r0) :
  Calls Tryz.prog 100 #[(.pointer (some ⟨b0, 0, none⟩)), (.int .i64 a1)] w0 (fun e w => ∃ v, e = .returned v ∧ InvD (fun x => x = b0) w0 w [boxI b0 51 (Flat.cells r0)] ∧ v = .tuple #[]) := by
 unfold ball_rules_c8 at hm
 refine calls_of_W Tryz.func100 rfl Tryz.ntmps100 (Nat.le_of_ble_eq_true rfl) ?_
 have H : InvD (fun x => x = b0) w0 w0 [boxI b0 51 [(.int .i64 a0.Place), (.int .i64 a0.Wind), (.bool a0.Flag), (.int .i64 a0.At)]] := InvD.startX hb0
 refine W.region ?_
 refine O.move (v := (.pointer (some ⟨b0, 0, none⟩))) rfl rfl rfl ?_
 refine O.nilCheck rfl rfl rfl ?_
 refine O.fieldAddr fd51_0 rfl rfl rfl ?_
 refine O.store 0 0 [(.int .i64 0)] [(.int .i64 0), (.int .i64 a0.Wind), (.bool a0.Flag), (.int .i64 a0.At)] sz3 H rfl rfl rfl rfl rfl rfl ⟨⟨rfl, rfl⟩, rfl⟩ (one_cons rfl one_nil) ?_
 intro w1 H
 refine WL.nil ?_
 have hq : (GBall.mk 0 a0.Wind a0.Flag a0.At) = r0 := Option.some.inj (show some (GBall.mk 0 a0.Wind a0.Flag a0.At) = some r0 from hm)
 subst hq
 exact ends0 Tryz.results100  ⟨_, rfl, H.pick [0] [boxI b0 51 [(.int .i64 0), (.int .i64 a0.Wind), (.bool a0.Flag), (.int .i64 a0.At)]] rfl (by decide), rfl⟩

theorem c_ball_rules_c9 {w0 : World} (a0 : GMast) (a1 : GBall) (a2 : Int) {r0 : Bool} (hm : ball_rules_c9 a0 a1 a2 = some r0) :
  Calls Tryz.prog 101 #[(.agg (Flat.cells a0).toArray), (.agg (Flat.cells a1).toArray), (.int .i64 a2)] w0 (Ret w0 fun _ v => v = (.bool r0)) := by
 unfold ball_rules_c9 at hm
 refine calls_of_W Tryz.func101 rfl Tryz.ntmps101 (Nat.le_of_ble_eq_true rfl) ?_
 have H := Inv.start (w := w0)
 refine W.seq ?_
 refine W.region ?_
 refine O.box [(.int .i64 a0.Noon), (.int .i64 a0.Half), (.int .i64 a0.Full), (.int .i64 a0.Late), (.int .i64 a0.Again), (.int .i64 a0.Wind)] H rfl rfl rfl rfl ?_
 intro b1 w1 H hb1
 refine O.box [(.int .i64 a1.Place), (.int .i64 a1.Wind), (.bool a1.Flag), (.int .i64 a1.At)] H rfl rfl rfl rfl ?_
 intro b2 w2 H hb2
 refine O.assign (v := (.bool false)) rfl rfl rfl ?_
 refine WL.nil ?_
 refine W.seq ?_
 refine W.region ?_
 refine O.fieldAddr fd51_0 rfl rfl rfl ?_
 refine O.load sc3 rfl rfl rfl (H.cell 1 rfl 0 _ rfl) ?_
 refine O.eql rfl rfl rfl rfl ?_
 refine O.assign (v := (.bool (a1.Place == 2))) rfl rfl rfl ?_
 refine WL.nil ?_
 refine W.ret ?_
 have hq : (a1.Place == 2) = r0 := Option.some.inj (show some (a1.Place == 2) = some r0 from hm)
 subst hq
 exact ends1 Tryz.results101 rfl ⟨_, rfl, H.base, rfl⟩

theorem c_ball_rules_c10 {w0 : World} (b0 : Nat) (a0 : GBall) (hb0 : w0.heap[b0]? = some (.cells (Flat.cells a0).toArray 51 (0, 0))) (a1 : Int) {r0 : GBall} (hm : ball_rules_c10 a0 a1 = some r0) :
  Calls Tryz.prog 102 #[(.pointer (some ⟨b0, 0, none⟩)), (.int .i64 a1)] w0 (fun e w => ∃ v, e = .returned v ∧ InvD (fun x => x = b0) w0 w [boxI b0 51 (Flat.cells r0)] ∧ v = .tuple #[]) := by
 unfold ball_rules_c10 at hm
 refine calls_of_W Tryz.func102 rfl Tryz.ntmps102 (Nat.le_of_ble_eq_true rfl) ?_
 have H : InvD (fun x => x = b0) w0 w0 [boxI b0 51 [(.int .i64 a0.Place), (.int .i64 a0.Wind), (.bool a0.Flag), (.int .i64 a0.At)]] := InvD.startX hb0
 refine W.region ?_
 refine O.move (v := (.pointer (some ⟨b0, 0, none⟩))) rfl rfl rfl ?_
 refine O.nilCheck rfl rfl rfl ?_
 refine O.fieldAddr fd51_0 rfl rfl rfl ?_
 refine O.store 0 0 [(.int .i64 3)] [(.int .i64 3), (.int .i64 a0.Wind), (.bool a0.Flag), (.int .i64 a0.At)] sz3 H rfl rfl rfl rfl rfl rfl ⟨⟨rfl, rfl⟩, rfl⟩ (one_cons rfl one_nil) ?_
 intro w1 H
 refine WL.nil ?_
 have hq : (GBall.mk 3 a0.Wind a0.Flag a0.At) = r0 := Option.some.inj (show some (GBall.mk 3 a0.Wind a0.Flag a0.At) = some r0 from hm)
 subst hq
 exact ends0 Tryz.results102  ⟨_, rfl, H.pick [0] [boxI b0 51 [(.int .i64 3), (.int .i64 a0.Wind), (.bool a0.Flag), (.int .i64 a0.At)]] rfl (by decide), rfl⟩

theorem c_ball_rules_c11 {w0 : World} (a0 : GMast) (a1 : GBall) (a2 : Int) {r0 : Bool} (hm : ball_rules_c11 a0 a1 a2 = some r0) :
  Calls Tryz.prog 103 #[(.agg (Flat.cells a0).toArray), (.agg (Flat.cells a1).toArray), (.int .i64 a2)] w0 (Ret w0 fun _ v => v = (.bool r0)) := by
 unfold ball_rules_c11 at hm
 refine calls_of_W Tryz.func103 rfl Tryz.ntmps103 (Nat.le_of_ble_eq_true rfl) ?_
 have H := Inv.start (w := w0)
 refine W.seq ?_
 refine W.region ?_
 refine O.box [(.int .i64 a0.Noon), (.int .i64 a0.Half), (.int .i64 a0.Full), (.int .i64 a0.Late), (.int .i64 a0.Again), (.int .i64 a0.Wind)] H rfl rfl rfl rfl ?_
 intro b1 w1 H hb1
 refine O.box [(.int .i64 a1.Place), (.int .i64 a1.Wind), (.bool a1.Flag), (.int .i64 a1.At)] H rfl rfl rfl rfl ?_
 intro b2 w2 H hb2
 refine O.assign (v := (.bool false)) rfl rfl rfl ?_
 refine WL.nil ?_
 refine W.seq ?_
 refine W.region ?_
 refine O.fieldAddr fd51_2 rfl rfl rfl ?_
 refine O.load sc4 rfl rfl rfl (H.cell 1 rfl 2 _ rfl) ?_
 refine O.not rfl rfl rfl ?_
 refine O.assign (v := (.bool (!a1.Flag))) rfl rfl rfl ?_
 refine WL.nil ?_
 refine W.ret ?_
 have hq : (!a1.Flag) = r0 := Option.some.inj (show some (!a1.Flag) = some r0 from hm)
 subst hq
 exact ends1 Tryz.results103 rfl ⟨_, rfl, H.base, rfl⟩

theorem c_ball_rules_c12 {w0 : World} (b0 : Nat) (a0 : GBall) (hb0 : w0.heap[b0]? = some (.cells (Flat.cells a0).toArray 51 (0, 0))) (a1 : Int) {r0 : GBall} (hm : ball_rules_c12 a0 a1 = some r0) :
  Calls Tryz.prog 104 #[(.pointer (some ⟨b0, 0, none⟩)), (.int .i64 a1)] w0 (fun e w => ∃ v, e = .returned v ∧ InvD (fun x => x = b0) w0 w [boxI b0 51 (Flat.cells r0)] ∧ v = .tuple #[]) := by
 unfold ball_rules_c12 at hm
 refine calls_of_W Tryz.func104 rfl Tryz.ntmps104 (Nat.le_of_ble_eq_true rfl) ?_
 have H : InvD (fun x => x = b0) w0 w0 [boxI b0 51 [(.int .i64 a0.Place), (.int .i64 a0.Wind), (.bool a0.Flag), (.int .i64 a0.At)]] := InvD.startX hb0
 refine W.region ?_
 refine O.move (v := (.pointer (some ⟨b0, 0, none⟩))) rfl rfl rfl ?_
 refine O.move (v := (.pointer (some ⟨b0, 0, none⟩))) rfl rfl rfl ?_
 refine O.nilCheck rfl rfl rfl ?_
 refine O.fieldAddr fd51_2 rfl rfl rfl ?_
 refine O.store 0 2 [(.bool true)] [(.int .i64 a0.Place), (.int .i64 a0.Wind), (.bool true), (.int .i64 a0.At)] sz4 H rfl rfl rfl rfl rfl rfl ⟨⟨rfl, rfl⟩, rfl⟩ (one_cons rfl one_nil) ?_
 intro w1 H
 refine O.nilCheck rfl rfl rfl ?_
 refine O.fieldAddr fd51_0 rfl rfl rfl ?_
 refine O.store 0 0 [(.int .i64 0)] [(.int .i64 0), (.int .i64 a0.Wind), (.bool true), (.int .i64 a0.At)] sz3 H rfl rfl rfl rfl rfl rfl ⟨⟨rfl, rfl⟩, rfl⟩ (one_cons rfl one_nil) ?_
 intro w2 H
 refine WL.nil ?_
 have hq : (GBall.mk 0 a0.Wind true a0.At) = r0 := Option.some.inj (show some (GBall.mk 0 a0.Wind true a0.At) = some r0 from hm)
 subst hq
 exact ends0 Tryz.results104  ⟨_, rfl, H.pick [0] [boxI b0 51 [(.int .i64 0), (.int .i64 a0.Wind), (.bool true), (.int .i64 a0.At)]] rfl (by decide), rfl⟩

theorem c_ball_rules {w0 : World} : Calls Tryz.prog 84 #[] w0 (Ret w0 fun _ v => v = (.agg #[.nilFunc, .nilFunc, (.func (.func 92) #[] #[]), (.func (.func 93) #[] #[]), (.func (.func 94) #[] #[]), (.func (.func 96) #[] #[]), (.func (.func 97) #[] #[]), (.func (.func 98) #[] #[]), (.func (.func 99) #[] #[]), (.func (.func 100) #[] #[]), (.func (.func 101) #[] #[]), (.func (.func 102) #[] #[]), (.func (.func 103) #[] #[]), (.func (.func 104) #[] #[])])) := by
 refine calls_of_W Tryz.func84 rfl Tryz.ntmps84 (Nat.le_of_ble_eq_true rfl) ?_
 have H := Inv.start (w := w0)
 refine W.seq ?_
 refine W.region ?_
 refine O.alloc [.nilFunc, .nilFunc, .nilFunc, .nilFunc, .nilFunc, .nilFunc, .nilFunc, .nilFunc, .nilFunc, .nilFunc, .nilFunc, .nilFunc, .nilFunc, .nilFunc] ze121 H rfl rfl rfl ?_
 intro b1 w1 H hb1
 refine WL.nil ?_
 refine W.seq ?_
 refine W.region ?_
 refine O.build (v := (.agg #[(.func (.func 92) #[] #[]), (.func (.func 93) #[] #[])])) bdf120_0_92_1_93 rfl rfl rfl ?_
 refine O.build (v := (.agg #[(.func (.func 94) #[] #[]), (.func (.func 96) #[] #[])])) bdf120_0_94_1_96 rfl rfl rfl ?_
 refine O.build (v := (.agg #[(.func (.func 97) #[] #[]), (.func (.func 98) #[] #[])])) bdf120_0_97_1_98 rfl rfl rfl ?_
 refine O.build (v := (.agg #[(.func (.func 99) #[] #[]), (.func (.func 100) #[] #[])])) bdf120_0_99_1_100 rfl rfl rfl ?_
 refine O.build (v := (.agg #[(.func (.func 101) #[] #[]), (.func (.func 102) #[] #[])])) bdf120_0_101_1_102 rfl rfl rfl ?_
 refine O.build (v := (.agg #[(.func (.func 103) #[] #[]), (.func (.func 104) #[] #[])])) bdf120_0_103_1_104 rfl rfl rfl ?_
 refine O.build (v := (.agg #[.nilFunc, .nilFunc, (.func (.func 92) #[] #[]), (.func (.func 93) #[] #[]), (.func (.func 94) #[] #[]), (.func (.func 96) #[] #[]), (.func (.func 97) #[] #[]), (.func (.func 98) #[] #[]), (.func (.func 99) #[] #[]), (.func (.func 100) #[] #[]), (.func (.func 101) #[] #[]), (.func (.func 102) #[] #[]), (.func (.func 103) #[] #[]), (.func (.func 104) #[] #[])])) bdf121_1_92_93_2_94_96_3_97_98_4_99_100_5_101_102_6_103_104 rfl rfl rfl ?_
 refine O.store 0 0 [.nilFunc, .nilFunc, (.func (.func 92) #[] #[]), (.func (.func 93) #[] #[]), (.func (.func 94) #[] #[]), (.func (.func 96) #[] #[]), (.func (.func 97) #[] #[]), (.func (.func 98) #[] #[]), (.func (.func 99) #[] #[]), (.func (.func 100) #[] #[]), (.func (.func 101) #[] #[]), (.func (.func 102) #[] #[]), (.func (.func 103) #[] #[]), (.func (.func 104) #[] #[])] [.nilFunc, .nilFunc, (.func (.func 92) #[] #[]), (.func (.func 93) #[] #[]), (.func (.func 94) #[] #[]), (.func (.func 96) #[] #[]), (.func (.func 97) #[] #[]), (.func (.func 98) #[] #[]), (.func (.func 99) #[] #[]), (.func (.func 100) #[] #[]), (.func (.func 101) #[] #[]), (.func (.func 102) #[] #[]), (.func (.func 103) #[] #[]), (.func (.func 104) #[] #[])] sz121 H rfl rfl rfl rfl rfl rfl ⟨⟨rfl, rfl⟩, rfl⟩ (one_cons rfl (one_cons rfl (one_cons rfl (one_cons rfl (one_cons rfl (one_cons rfl (one_cons rfl (one_cons rfl (one_cons rfl (one_cons rfl (one_cons rfl (one_cons rfl (one_cons rfl (one_cons rfl one_nil)))))))))))))) ?_
 intro w2 H
 refine WL.nil ?_
 refine W.ret ?_
 exact ends1 Tryz.results84 ⟨_, rfl, run_loadVar_agg ag121 rfl (H.cell 0 rfl)⟩ ⟨_, rfl, H.base, rfl⟩

set_option maxRecDepth 20000 in
theorem c_ball_next {w0 : World} (a0 : GMast) (a1 : GBall) (a2 : GEvent) {r0 : GBall} {r1 : Int} (hm : ball_next a0 a1 a2 = some (r0, r1)) :
  Calls Tryz.prog 64 #[(.agg (Flat.cells a0).toArray), (.agg (Flat.cells a1).toArray), (.agg (Flat.cells a2).toArray)] w0 (Ret w0 fun _ v => v = .tuple #[(.agg (Flat.cells r0).toArray), (.int .i64 r1)]) := by
 unfold ball_next at hm
 refine calls_of_W Tryz.func64 rfl Tryz.ntmps64 (Nat.le_of_ble_eq_true rfl) ?_
 have H := Inv.start (w := w0)
 refine W.seq ?_
 refine W.region ?_
 refine O.box [(.int .i64 a0.Noon), (.int .i64 a0.Half), (.int .i64 a0.Full), (.int .i64 a0.Late), (.int .i64 a0.Again), (.int .i64 a0.Wind)] H rfl rfl rfl rfl ?_
 intro b1 w1 H hb1
 refine O.box [(.int .i64 a1.Place), (.int .i64 a1.Wind), (.bool a1.Flag), (.int .i64 a1.At)] H rfl rfl rfl rfl ?_
 intro b2 w2 H hb2
 refine O.box [(.int .i64 a2.At), (.int .i64 a2.Kind), (.int .i64 a2.N)] H rfl rfl rfl rfl ?_
 intro b3 w3 H hb3
 refine O.alloc [(.int .i64 0), (.int .i64 0), (.bool false), (.int .i64 0)] ze51 H rfl rfl rfl ?_
 intro b4 w4 H hb4
 refine O.assign (v := (.int .i64 0)) rfl rfl rfl ?_
 refine WL.nil ?_
 refine W.seq ?_
 refine W.seq ?_
 refine W.region ?_
 refine O.loadA [(.int .i64 a2.At), (.int .i64 a2.Kind), (.int .i64 a2.N)] ag86 rfl rfl rfl rfl (H.cell 2 rfl) ?_
 obtain ⟨t1, hy1, hm⟩ := bind_some hm
 refine O.call Tryz.call83 rfl rfl rfl (c_ball_fine a2 hy1) ?_
 rintro _ w5 hb5 rfl
 have H := H.ext hb5
 refine O.not rfl rfl rfl ?_
 refine O.move (v := (.bool (!t1))) rfl rfl rfl ?_
 refine WL.cut 6 (fun f w => f 3 = (.pointer (some ⟨b1, 0, none⟩)) ∧ f 4 = (.pointer (some ⟨b2, 0, none⟩)) ∧ f 5 = (.pointer (some ⟨b3, 0, none⟩)) ∧ f 6 = (.pointer (some ⟨b4, 0, none⟩)) ∧ f 18 = .bool ((!t1) || (decide (a2.At < a1.At))) ∧ Inv w0 w [boxI b1 23 [(.int .i64 a0.Noon), (.int .i64 a0.Half), (.int .i64 a0.Full), (.int .i64 a0.Late), (.int .i64 a0.Again), (.int .i64 a0.Wind)], boxI b2 51 [(.int .i64 a1.Place), (.int .i64 a1.Wind), (.bool a1.Flag), (.int .i64 a1.At)], boxI b3 86 [(.int .i64 a2.At), (.int .i64 a2.Kind), (.int .i64 a2.N)], boxI b4 51 [(.int .i64 0), (.int .i64 0), (.bool false), (.int .i64 0)]]) ?_ ?_
 ·
  rcases bool_ft (!t1) with hc1 | hc1
  ·
   refine WL.reset (i := 12) (v := .bool false) (congrArg Value.bool hc1) ?_
   refine O.fieldAddr fd86_0 rfl rfl rfl ?_
   refine O.load sc3 rfl rfl rfl (H.cell 2 rfl 0 _ rfl) ?_
   refine O.fieldAddr fd51_3 rfl rfl rfl ?_
   refine O.load sc3 rfl rfl rfl (H.cell 1 rfl 3 _ rfl) ?_
   refine O.lss rfl rfl rfl rfl ?_
   refine O.pick_false (v := (.bool (decide (a2.At < a1.At)))) rfl rfl rfl rfl ?_
   exact WL.nil ⟨rfl, rfl, rfl, rfl, congrArg Value.bool (or_f hc1), H⟩
  ·
   refine WL.reset (i := 12) (v := .bool true) (congrArg Value.bool hc1) ?_
   refine O.skip rfl rfl ?_
   refine O.skip rfl rfl ?_
   refine O.skip rfl rfl ?_
   refine O.skip rfl rfl ?_
   refine O.skip rfl rfl ?_
   refine O.pick_true (v := (.bool true)) rfl rfl rfl rfl ?_
   exact WL.nil ⟨rfl, rfl, rfl, rfl, congrArg Value.bool (or_t hc1), H⟩
 ·
  rintro f w ⟨hf3, hf4, hf5, hf6, hf18, H⟩
  obtain ⟨u1, rfl⟩ := up5 hf3 hf4 hf5 hf6 hf18
  refine WL.nil ?_
  rcases ite_some hm with ⟨hc2, hm⟩ | ⟨hc2, hm⟩
  ·
   refine W.cond_true (congrArg Value.bool hc2) ?_
   refine W.seq ?_
   refine W.region ?_
   refine O.build (v := (.agg (Flat.cells (GBall.mk 0 0 false 0)).toArray)) (fun w => bd51_  w) rfl rfl rfl ?_
   refine O.store 3 0 [(.int .i64 0), (.int .i64 0), (.bool false), (.int .i64 0)] [(.int .i64 0), (.int .i64 0), (.bool false), (.int .i64 0)] sz51 H rfl rfl rfl rfl rfl rfl ⟨⟨rfl, rfl⟩, rfl⟩ (one_cons rfl (one_cons rfl (one_cons rfl (one_cons rfl one_nil)))) ?_
   intro w6 H
   refine O.assign (v := (.int .i64 7)) rfl rfl rfl ?_
   refine WL.nil ?_
   refine W.ret ?_
   have hq : ((GBall.mk 0 0 false 0), 7) = (r0, r1) := Option.some.inj (show some ((GBall.mk 0 0 false 0), 7) = some (r0, r1) from hm)
   obtain ⟨he0, hq0⟩ := Prod.mk.inj hq; clear hq; subst he0
   subst hq0
   exact ends2 Tryz.results64 ⟨_, rfl, run_loadVar_agg ag51 rfl (H.cell 3 rfl)⟩ rfl ⟨_, rfl, H.base, rfl⟩
  ·
   refine W.cond_false (congrArg Value.bool hc2) ?_
   refine W.skip ?_
   refine W.seq ?_
   rcases ite_some hm with ⟨hc3, hm⟩ | ⟨hc3, hm⟩
   ·
    obtain ⟨wd1, rfl⟩ : ∃ x, x = w := ⟨w, rfl⟩
    refine W.draw 5 (fun k v wk => match k with | 0 => v = (.agg #[.nilFunc, .nilFunc, (.func (.func 92) #[] #[]), (.func (.func 93) #[] #[]), (.func (.func 94) #[] #[]), (.func (.func 96) #[] #[]), (.func (.func 97) #[] #[]), (.func (.func 98) #[] #[]), (.func (.func 99) #[] #[]), (.func (.func 100) #[] #[]), (.func (.func 101) #[] #[]), (.func (.func 102) #[] #[]), (.func (.func 103) #[] #[]), (.func (.func 104) #[] #[])]) | 1 => v = (.pointer (some (Addr.add (Addr.mk b3 0 none) 1))) | 2 => v = (.int .i64 a2.Kind) | 3 => v = (.agg #[(.func (.func 92) #[] #[]), (.func (.func 93) #[] #[])]) | 4 => ∃ b : Nat, v = .pointer (some ⟨b, 0, none⟩) ∧ Inv wd1 wk [boxI b 120 [.nilFunc, .nilFunc]] | _ => True) (by intro k v w w' h hb; match k, h with | 0, h => exact h | 1, h => exact h | 2, h => exact h | 3, h => exact h | 4, ⟨b, e, h⟩ => exact ⟨b, e, h.ext hb⟩ | _ + 5, h => exact h) fol (by kernel_rfl) ?_ ?_
    ·
     refine ⟨⟨⟨⟨⟨trivial, ?_⟩, ?_⟩, ?_⟩, ?_⟩, ?_⟩
     ·
      intro f wk hx hf hd
      have H := H.ext hx
      refine O.call Tryz.call84 rfl rfl rfl c_ball_rules ?_
      rintro _ w7 hb6 rfl
      have H := H.ext hb6
      exact WL.nil ⟨hb6, _, rfl, rfl⟩
     ·
      intro f wk hx hf hd
      have H := H.ext hx
      have hf5 : f 5 = (.pointer (some ⟨b3, 0, none⟩)) := hf 5 rfl
      obtain ⟨u2, rfl⟩ := up1 hf5
      refine O.fieldAddr fd86_1 rfl rfl rfl ?_
      exact WL.nil ⟨Below.refl _ _, _, rfl, rfl⟩
     ·
      intro f wk hx hf hd
      have H := H.ext hx
      have hf21 : f 21 = (.pointer (some (Addr.add (Addr.mk b3 0 none) 1))) := hd 1 rfl
      obtain ⟨u3, rfl⟩ := up1 hf21
      refine O.load sc3 rfl rfl rfl (H.cell 2 rfl 1 _ rfl) ?_
      exact WL.nil ⟨Below.refl _ _, _, rfl, rfl⟩
     ·
      intro f wk hx hf hd
      have H := H.ext hx
      have hf20 : f 20 = (.agg #[.nilFunc, .nilFunc, (.func (.func 92) #[] #[]), (.func (.func 93) #[] #[]), (.func (.func 94) #[] #[]), (.func (.func 96) #[] #[]), (.func (.func 97) #[] #[]), (.func (.func 98) #[] #[]), (.func (.func 99) #[] #[]), (.func (.func 100) #[] #[]), (.func (.func 101) #[] #[]), (.func (.func 102) #[] #[]), (.func (.func 103) #[] #[]), (.func (.func 104) #[] #[])]) := hd 0 rfl
      have hf22 : f 22 = (.int .i64 a2.Kind) := hd 2 rfl
      obtain ⟨u4, rfl⟩ := up2 hf20 hf22
      refine O.indexC 1 ixf121_1_64 (eq_of_beq hc3) rfl rfl rfl rfl ?_
      exact WL.nil ⟨Below.refl _ _, _, rfl, rfl⟩
     ·
      intro f wk hx hf hd
      have H := H.ext hx
      refine O.alloc [.nilFunc, .nilFunc] ze120 (Inv.start (w := _)) rfl rfl rfl ?_
      intro b5 w8 H hb7
      exact WL.nil ⟨hb7, _, rfl, ⟨_, rfl, H.rebase hx⟩⟩
    ·
     intro f wk hx hf hmd hd
     have hf3 : f 3 = (.pointer (some ⟨b1, 0, none⟩)) := hf 3 rfl
     have hf4 : f 4 = (.pointer (some ⟨b2, 0, none⟩)) := hf 4 rfl
     have hf5 : f 5 = (.pointer (some ⟨b3, 0, none⟩)) := hf 5 rfl
     have hf6 : f 6 = (.pointer (some ⟨b4, 0, none⟩)) := hf 6 rfl
     obtain ⟨b5, hf8, ho8⟩ : ∃ b : Nat, f 8 = .pointer (some ⟨b, 0, none⟩) ∧ Inv wd1 wk [boxI b 120 [.nilFunc, .nilFunc]] := hd 4 rfl
     have hf23 : f 23 = (.agg #[(.func (.func 92) #[] #[]), (.func (.func 93) #[] #[])]) := hd 3 rfl
     have H := H.addAll hx ho8
     obtain ⟨u5, rfl⟩ := up6 hf3 hf4 hf5 hf6 hf8 hf23
     refine O.store 4 0 [(.func (.func 92) #[] #[]), (.func (.func 93) #[] #[])] [(.func (.func 92) #[] #[]), (.func (.func 93) #[] #[])] sz120 H rfl rfl rfl rfl rfl rfl ⟨⟨rfl, rfl⟩, rfl⟩ (one_cons rfl (one_cons rfl one_nil)) ?_
     intro w9 H
     refine WL.nil ?_
     refine W.seq ?_
     refine W.seq ?_
     refine W.region ?_
     refine O.fieldAddr fd120_0 rfl rfl rfl ?_
     refine O.load sc117 rfl rfl rfl (H.cell 4 rfl 0 _ rfl) ?_
     refine O.loadA [(.int .i64 a0.Noon), (.int .i64 a0.Half), (.int .i64 a0.Full), (.int .i64 a0.Late), (.int .i64 a0.Again), (.int .i64 a0.Wind)] ag23 rfl rfl rfl rfl (H.cell 0 rfl) ?_
     refine O.loadA [(.int .i64 a1.Place), (.int .i64 a1.Wind), (.bool a1.Flag), (.int .i64 a1.At)] ag51 rfl rfl rfl rfl (H.cell 1 rfl) ?_
     refine O.fieldAddr fd86_0 rfl rfl rfl ?_
     refine O.load sc3 rfl rfl rfl (H.cell 2 rfl 0 _ rfl) ?_
     obtain ⟨t2, hy2, hm⟩ := bind_some hm
     refine O.callV rfl rfl rfl rfl (callsV_mk Tryz.call92 (c_ball_rules_c1 a0 a1 _ hy2)) ?_
     rintro _ w10 hb8 rfl
     have H := H.ext hb8
     refine O.not rfl rfl rfl ?_
     refine WL.nil ?_
     rcases ite_some hm with ⟨hc4, hm⟩ | ⟨hc4, hm⟩
     ·
      refine W.cond_true (congrArg Value.bool hc4) ?_
      refine W.seq ?_
      refine W.region ?_
      refine O.build (v := (.agg (Flat.cells (GBall.mk 0 0 false 0)).toArray)) (fun w => bd51_  w) rfl rfl rfl ?_
      refine O.store 3 0 [(.int .i64 0), (.int .i64 0), (.bool false), (.int .i64 0)] [(.int .i64 0), (.int .i64 0), (.bool false), (.int .i64 0)] sz51 H rfl rfl rfl rfl rfl rfl ⟨⟨rfl, rfl⟩, rfl⟩ (one_cons rfl (one_cons rfl (one_cons rfl (one_cons rfl one_nil)))) ?_
      intro w11 H
      refine O.assign (v := (.int .i64 9)) rfl rfl rfl ?_
      refine WL.nil ?_
      refine W.ret ?_
      have hq : ((GBall.mk 0 0 false 0), 9) = (r0, r1) := Option.some.inj (show some ((GBall.mk 0 0 false 0), 9) = some (r0, r1) from hm)
      obtain ⟨he0, hq0⟩ := Prod.mk.inj hq; clear hq; subst he0
      subst hq0
      exact ends2 Tryz.results64 ⟨_, rfl, run_loadVar_agg ag51 rfl (H.cell 3 rfl)⟩ rfl ⟨_, rfl, H.base, rfl⟩
     ·
      refine W.cond_false (congrArg Value.bool hc4) ?_
      refine W.skip ?_
      refine W.seq ?_
      refine W.region ?_
      refine O.fieldAddr fd120_1 rfl rfl rfl ?_
      refine O.load sc118 rfl rfl rfl (H.cell 4 rfl 1 _ rfl) ?_
      refine O.fieldAddr fd86_2 rfl rfl rfl ?_
      refine O.load sc3 rfl rfl rfl (H.cell 2 rfl 2 _ rfl) ?_
      obtain ⟨t3, hy3, hm⟩ := bind_some hm
      refine O.callXV 1 H rfl Tryz.call93 rfl rfl rfl rfl (c_ball_rules_c2 _ a1 (H.boxAt 1 rfl) _ hy3) ?_
      rintro _ w12 H rfl
      refine WL.nil ?_
      refine W.seq ?_
      refine W.region ?_
      refine O.fieldAddr fd86_0 rfl rfl rfl ?_
      refine O.load sc3 rfl rfl rfl (H.cell 2 rfl 0 _ rfl) ?_
      refine O.fieldAddr fd51_3 rfl rfl rfl ?_
      refine O.store 1 3 [(.int .i64 a2.At)] [(.int .i64 t3.Place), (.int .i64 t3.Wind), (.bool t3.Flag), (.int .i64 a2.At)] sz3 H rfl rfl rfl rfl rfl rfl ⟨⟨rfl, rfl⟩, rfl⟩ (one_cons rfl one_nil) ?_
      intro w13 H
      refine WL.nil ?_
      refine W.seq ?_
      refine W.region ?_
      refine O.loadA [(.int .i64 t3.Place), (.int .i64 t3.Wind), (.bool t3.Flag), (.int .i64 a2.At)] ag51 rfl rfl rfl rfl (H.cell 1 rfl) ?_
      refine O.store 3 0 [(.int .i64 t3.Place), (.int .i64 t3.Wind), (.bool t3.Flag), (.int .i64 a2.At)] [(.int .i64 t3.Place), (.int .i64 t3.Wind), (.bool t3.Flag), (.int .i64 a2.At)] sz51 H rfl rfl rfl rfl rfl rfl ⟨⟨rfl, rfl⟩, rfl⟩ (one_cons rfl (one_cons rfl (one_cons rfl (one_cons rfl one_nil)))) ?_
      intro w14 H
      refine O.assign (v := (.int .i64 0)) rfl rfl rfl ?_
      refine WL.nil ?_
      refine W.ret ?_
      have hq : ((GBall.mk t3.Place t3.Wind t3.Flag a2.At), 0) = (r0, r1) := Option.some.inj (show some ((GBall.mk t3.Place t3.Wind t3.Flag a2.At), 0) = some (r0, r1) from hm)
      obtain ⟨he0, hq0⟩ := Prod.mk.inj hq; clear hq; subst he0
      subst hq0
      exact ends2 Tryz.results64 ⟨_, rfl, run_loadVar_agg ag51 rfl (H.cell 3 rfl)⟩ rfl ⟨_, rfl, H.base, rfl⟩
   ·
    rcases ite_some hm with ⟨hc5, hm⟩ | ⟨hc5, hm⟩
    ·
     obtain ⟨wd2, rfl⟩ : ∃ x, x = w := ⟨w, rfl⟩
     refine W.draw 5 (fun k v wk => match k with | 0 => v = (.agg #[.nilFunc, .nilFunc, (.func (.func 92) #[] #[]), (.func (.func 93) #[] #[]), (.func (.func 94) #[] #[]), (.func (.func 96) #[] #[]), (.func (.func 97) #[] #[]), (.func (.func 98) #[] #[]), (.func (.func 99) #[] #[]), (.func (.func 100) #[] #[]), (.func (.func 101) #[] #[]), (.func (.func 102) #[] #[]), (.func (.func 103) #[] #[]), (.func (.func 104) #[] #[])]) | 1 => v = (.pointer (some (Addr.add (Addr.mk b3 0 none) 1))) | 2 => v = (.int .i64 a2.Kind) | 3 => v = (.agg #[(.func (.func 94) #[] #[]), (.func (.func 96) #[] #[])]) | 4 => ∃ b : Nat, v = .pointer (some ⟨b, 0, none⟩) ∧ Inv wd2 wk [boxI b 120 [.nilFunc, .nilFunc]] | _ => True) (by intro k v w w' h hb; match k, h with | 0, h => exact h | 1, h => exact h | 2, h => exact h | 3, h => exact h | 4, ⟨b, e, h⟩ => exact ⟨b, e, h.ext hb⟩ | _ + 5, h => exact h) fol (by kernel_rfl) ?_ ?_
     ·
      refine ⟨⟨⟨⟨⟨trivial, ?_⟩, ?_⟩, ?_⟩, ?_⟩, ?_⟩
      ·
       intro f wk hx hf hd
       have H := H.ext hx
       refine O.call Tryz.call84 rfl rfl rfl c_ball_rules ?_
       rintro _ w15 hb9 rfl
       have H := H.ext hb9
       exact WL.nil ⟨hb9, _, rfl, rfl⟩
      ·
       intro f wk hx hf hd
       have H := H.ext hx
       have hf5 : f 5 = (.pointer (some ⟨b3, 0, none⟩)) := hf 5 rfl
       obtain ⟨u6, rfl⟩ := up1 hf5
       refine O.fieldAddr fd86_1 rfl rfl rfl ?_
       exact WL.nil ⟨Below.refl _ _, _, rfl, rfl⟩
      ·
       intro f wk hx hf hd
       have H := H.ext hx
       have hf21 : f 21 = (.pointer (some (Addr.add (Addr.mk b3 0 none) 1))) := hd 1 rfl
       obtain ⟨u7, rfl⟩ := up1 hf21
       refine O.load sc3 rfl rfl rfl (H.cell 2 rfl 1 _ rfl) ?_
       exact WL.nil ⟨Below.refl _ _, _, rfl, rfl⟩
      ·
       intro f wk hx hf hd
       have H := H.ext hx
       have hf20 : f 20 = (.agg #[.nilFunc, .nilFunc, (.func (.func 92) #[] #[]), (.func (.func 93) #[] #[]), (.func (.func 94) #[] #[]), (.func (.func 96) #[] #[]), (.func (.func 97) #[] #[]), (.func (.func 98) #[] #[]), (.func (.func 99) #[] #[]), (.func (.func 100) #[] #[]), (.func (.func 101) #[] #[]), (.func (.func 102) #[] #[]), (.func (.func 103) #[] #[]), (.func (.func 104) #[] #[])]) := hd 0 rfl
       have hf22 : f 22 = (.int .i64 a2.Kind) := hd 2 rfl
       obtain ⟨u8, rfl⟩ := up2 hf20 hf22
       refine O.indexC 2 ixf121_2_64 (eq_of_beq hc5) rfl rfl rfl rfl ?_
       exact WL.nil ⟨Below.refl _ _, _, rfl, rfl⟩
      ·
       intro f wk hx hf hd
       have H := H.ext hx
       refine O.alloc [.nilFunc, .nilFunc] ze120 (Inv.start (w := _)) rfl rfl rfl ?_
       intro b6 w16 H hb10
       exact WL.nil ⟨hb10, _, rfl, ⟨_, rfl, H.rebase hx⟩⟩
     ·
      intro f wk hx hf hmd hd
      have hf3 : f 3 = (.pointer (some ⟨b1, 0, none⟩)) := hf 3 rfl
      have hf4 : f 4 = (.pointer (some ⟨b2, 0, none⟩)) := hf 4 rfl
      have hf5 : f 5 = (.pointer (some ⟨b3, 0, none⟩)) := hf 5 rfl
      have hf6 : f 6 = (.pointer (some ⟨b4, 0, none⟩)) := hf 6 rfl
      obtain ⟨b6, hf8, ho8⟩ : ∃ b : Nat, f 8 = .pointer (some ⟨b, 0, none⟩) ∧ Inv wd2 wk [boxI b 120 [.nilFunc, .nilFunc]] := hd 4 rfl
      have hf23 : f 23 = (.agg #[(.func (.func 94) #[] #[]), (.func (.func 96) #[] #[])]) := hd 3 rfl
      have H := H.addAll hx ho8
      obtain ⟨u9, rfl⟩ := up6 hf3 hf4 hf5 hf6 hf8 hf23
      refine O.store 4 0 [(.func (.func 94) #[] #[]), (.func (.func 96) #[] #[])] [(.func (.func 94) #[] #[]), (.func (.func 96) #[] #[])] sz120 H rfl rfl rfl rfl rfl rfl ⟨⟨rfl, rfl⟩, rfl⟩ (one_cons rfl (one_cons rfl one_nil)) ?_
      intro w17 H
      refine WL.nil ?_
      refine W.seq ?_
      refine W.seq ?_
      refine W.region ?_
      refine O.fieldAddr fd120_0 rfl rfl rfl ?_
      refine O.load sc117 rfl rfl rfl (H.cell 4 rfl 0 _ rfl) ?_
      refine O.loadA [(.int .i64 a0.Noon), (.int .i64 a0.Half), (.int .i64 a0.Full), (.int .i64 a0.Late), (.int .i64 a0.Again), (.int .i64 a0.Wind)] ag23 rfl rfl rfl rfl (H.cell 0 rfl) ?_
      refine O.loadA [(.int .i64 a1.Place), (.int .i64 a1.Wind), (.bool a1.Flag), (.int .i64 a1.At)] ag51 rfl rfl rfl rfl (H.cell 1 rfl) ?_
      refine O.fieldAddr fd86_0 rfl rfl rfl ?_
      refine O.load sc3 rfl rfl rfl (H.cell 2 rfl 0 _ rfl) ?_
      obtain ⟨t4, hy4, hm⟩ := bind_some hm
      refine O.callV rfl rfl rfl rfl (callsV_mk Tryz.call94 (c_ball_rules_c3 a0 a1 _ hy4)) ?_
      rintro _ w18 hb11 rfl
      have H := H.ext hb11
      refine O.not rfl rfl rfl ?_
      refine WL.nil ?_
      rcases ite_some hm with ⟨hc6, hm⟩ | ⟨hc6, hm⟩
      ·
       refine W.cond_true (congrArg Value.bool hc6) ?_
       refine W.seq ?_
       refine W.region ?_
       refine O.build (v := (.agg (Flat.cells (GBall.mk 0 0 false 0)).toArray)) (fun w => bd51_  w) rfl rfl rfl ?_
       refine O.store 3 0 [(.int .i64 0), (.int .i64 0), (.bool false), (.int .i64 0)] [(.int .i64 0), (.int .i64 0), (.bool false), (.int .i64 0)] sz51 H rfl rfl rfl rfl rfl rfl ⟨⟨rfl, rfl⟩, rfl⟩ (one_cons rfl (one_cons rfl (one_cons rfl (one_cons rfl one_nil)))) ?_
       intro w19 H
       refine O.assign (v := (.int .i64 9)) rfl rfl rfl ?_
       refine WL.nil ?_
       refine W.ret ?_
       have hq : ((GBall.mk 0 0 false 0), 9) = (r0, r1) := Option.some.inj (show some ((GBall.mk 0 0 false 0), 9) = some (r0, r1) from hm)
       obtain ⟨he0, hq0⟩ := Prod.mk.inj hq; clear hq; subst he0
       subst hq0
       exact ends2 Tryz.results64 ⟨_, rfl, run_loadVar_agg ag51 rfl (H.cell 3 rfl)⟩ rfl ⟨_, rfl, H.base, rfl⟩
      ·
       refine W.cond_false (congrArg Value.bool hc6) ?_
       refine W.skip ?_
       refine W.seq ?_
       refine W.region ?_
       refine O.fieldAddr fd120_1 rfl rfl rfl ?_
       refine O.load sc118 rfl rfl rfl (H.cell 4 rfl 1 _ rfl) ?_
       refine O.fieldAddr fd86_2 rfl rfl rfl ?_
       refine O.load sc3 rfl rfl rfl (H.cell 2 rfl 2 _ rfl) ?_
       obtain ⟨t5, hy5, hm⟩ := bind_some hm
       refine O.callXV 1 H rfl Tryz.call96 rfl rfl rfl rfl (c_ball_rules_c4 _ a1 (H.boxAt 1 rfl) _ hy5) ?_
       rintro _ w20 H rfl
       refine WL.nil ?_
       refine W.seq ?_
       refine W.region ?_
       refine O.fieldAddr fd86_0 rfl rfl rfl ?_
       refine O.load sc3 rfl rfl rfl (H.cell 2 rfl 0 _ rfl) ?_
       refine O.fieldAddr fd51_3 rfl rfl rfl ?_
       refine O.store 1 3 [(.int .i64 a2.At)] [(.int .i64 t5.Place), (.int .i64 t5.Wind), (.bool t5.Flag), (.int .i64 a2.At)] sz3 H rfl rfl rfl rfl rfl rfl ⟨⟨rfl, rfl⟩, rfl⟩ (one_cons rfl one_nil) ?_
       intro w21 H
       refine WL.nil ?_
       refine W.seq ?_
       refine W.region ?_
       refine O.loadA [(.int .i64 t5.Place), (.int .i64 t5.Wind), (.bool t5.Flag), (.int .i64 a2.At)] ag51 rfl rfl rfl rfl (H.cell 1 rfl) ?_
       refine O.store 3 0 [(.int .i64 t5.Place), (.int .i64 t5.Wind), (.bool t5.Flag), (.int .i64 a2.At)] [(.int .i64 t5.Place), (.int .i64 t5.Wind), (.bool t5.Flag), (.int .i64 a2.At)] sz51 H rfl rfl rfl rfl rfl rfl ⟨⟨rfl, rfl⟩, rfl⟩ (one_cons rfl (one_cons rfl (one_cons rfl (one_cons rfl one_nil)))) ?_
       intro w22 H
       refine O.assign (v := (.int .i64 0)) rfl rfl rfl ?_
       refine WL.nil ?_
       refine W.ret ?_
       have hq : ((GBall.mk t5.Place t5.Wind t5.Flag a2.At), 0) = (r0, r1) := Option.some.inj (show some ((GBall.mk t5.Place t5.Wind t5.Flag a2.At), 0) = some (r0, r1) from hm)
       obtain ⟨he0, hq0⟩ := Prod.mk.inj hq; clear hq; subst he0
       subst hq0
       exact ends2 Tryz.results64 ⟨_, rfl, run_loadVar_agg ag51 rfl (H.cell 3 rfl)⟩ rfl ⟨_, rfl, H.base, rfl⟩
    ·
     rcases ite_some hm with ⟨hc7, hm⟩ | ⟨hc7, hm⟩
     ·
      obtain ⟨wd3, rfl⟩ : ∃ x, x = w := ⟨w, rfl⟩
      refine W.draw 5 (fun k v wk => match k with | 0 => v = (.agg #[.nilFunc, .nilFunc, (.func (.func 92) #[] #[]), (.func (.func 93) #[] #[]), (.func (.func 94) #[] #[]), (.func (.func 96) #[] #[]), (.func (.func 97) #[] #[]), (.func (.func 98) #[] #[]), (.func (.func 99) #[] #[]), (.func (.func 100) #[] #[]), (.func (.func 101) #[] #[]), (.func (.func 102) #[] #[]), (.func (.func 103) #[] #[]), (.func (.func 104) #[] #[])]) | 1 => v = (.pointer (some (Addr.add (Addr.mk b3 0 none) 1))) | 2 => v = (.int .i64 a2.Kind) | 3 => v = (.agg #[(.func (.func 97) #[] #[]), (.func (.func 98) #[] #[])]) | 4 => ∃ b : Nat, v = .pointer (some ⟨b, 0, none⟩) ∧ Inv wd3 wk [boxI b 120 [.nilFunc, .nilFunc]] | _ => True) (by intro k v w w' h hb; match k, h with | 0, h => exact h | 1, h => exact h | 2, h => exact h | 3, h => exact h | 4, ⟨b, e, h⟩ => exact ⟨b, e, h.ext hb⟩ | _ + 5, h => exact h) fol (by kernel_rfl) ?_ ?_
      ·
       refine ⟨⟨⟨⟨⟨trivial, ?_⟩, ?_⟩, ?_⟩, ?_⟩, ?_⟩
       ·
        intro f wk hx hf hd
        have H := H.ext hx
        refine O.call Tryz.call84 rfl rfl rfl c_ball_rules ?_
        rintro _ w23 hb12 rfl
        have H := H.ext hb12
        exact WL.nil ⟨hb12, _, rfl, rfl⟩
       ·
        intro f wk hx hf hd
        have H := H.ext hx
        have hf5 : f 5 = (.pointer (some ⟨b3, 0, none⟩)) := hf 5 rfl
        obtain ⟨u10, rfl⟩ := up1 hf5
        refine O.fieldAddr fd86_1 rfl rfl rfl ?_
        exact WL.nil ⟨Below.refl _ _, _, rfl, rfl⟩
       ·
        intro f wk hx hf hd
        have H := H.ext hx
        have hf21 : f 21 = (.pointer (some (Addr.add (Addr.mk b3 0 none) 1))) := hd 1 rfl
        obtain ⟨u11, rfl⟩ := up1 hf21
        refine O.load sc3 rfl rfl rfl (H.cell 2 rfl 1 _ rfl) ?_
        exact WL.nil ⟨Below.refl _ _, _, rfl, rfl⟩
       ·
        intro f wk hx hf hd
        have H := H.ext hx
        have hf20 : f 20 = (.agg #[.nilFunc, .nilFunc, (.func (.func 92) #[] #[]), (.func (.func 93) #[] #[]), (.func (.func 94) #[] #[]), (.func (.func 96) #[] #[]), (.func (.func 97) #[] #[]), (.func (.func 98) #[] #[]), (.func (.func 99) #[] #[]), (.func (.func 100) #[] #[]), (.func (.func 101) #[] #[]), (.func (.func 102) #[] #[]), (.func (.func 103) #[] #[]), (.func (.func 104) #[] #[])]) := hd 0 rfl
        have hf22 : f 22 = (.int .i64 a2.Kind) := hd 2 rfl
        obtain ⟨u12, rfl⟩ := up2 hf20 hf22
        refine O.indexC 3 ixf121_3_64 (eq_of_beq hc7) rfl rfl rfl rfl ?_
        exact WL.nil ⟨Below.refl _ _, _, rfl, rfl⟩
       ·
        intro f wk hx hf hd
        have H := H.ext hx
        refine O.alloc [.nilFunc, .nilFunc] ze120 (Inv.start (w := _)) rfl rfl rfl ?_
        intro b7 w24 H hb13
        exact WL.nil ⟨hb13, _, rfl, ⟨_, rfl, H.rebase hx⟩⟩
      ·
       intro f wk hx hf hmd hd
       have hf3 : f 3 = (.pointer (some ⟨b1, 0, none⟩)) := hf 3 rfl
       have hf4 : f 4 = (.pointer (some ⟨b2, 0, none⟩)) := hf 4 rfl
       have hf5 : f 5 = (.pointer (some ⟨b3, 0, none⟩)) := hf 5 rfl
       have hf6 : f 6 = (.pointer (some ⟨b4, 0, none⟩)) := hf 6 rfl
       obtain ⟨b7, hf8, ho8⟩ : ∃ b : Nat, f 8 = .pointer (some ⟨b, 0, none⟩) ∧ Inv wd3 wk [boxI b 120 [.nilFunc, .nilFunc]] := hd 4 rfl
       have hf23 : f 23 = (.agg #[(.func (.func 97) #[] #[]), (.func (.func 98) #[] #[])]) := hd 3 rfl
       have H := H.addAll hx ho8
       obtain ⟨u13, rfl⟩ := up6 hf3 hf4 hf5 hf6 hf8 hf23
       refine O.store 4 0 [(.func (.func 97) #[] #[]), (.func (.func 98) #[] #[])] [(.func (.func 97) #[] #[]), (.func (.func 98) #[] #[])] sz120 H rfl rfl rfl rfl rfl rfl ⟨⟨rfl, rfl⟩, rfl⟩ (one_cons rfl (one_cons rfl one_nil)) ?_
       intro w25 H
       refine WL.nil ?_
       refine W.seq ?_
       refine W.seq ?_
       refine W.region ?_
       refine O.fieldAddr fd120_0 rfl rfl rfl ?_
       refine O.load sc117 rfl rfl rfl (H.cell 4 rfl 0 _ rfl) ?_
       refine O.loadA [(.int .i64 a0.Noon), (.int .i64 a0.Half), (.int .i64 a0.Full), (.int .i64 a0.Late), (.int .i64 a0.Again), (.int .i64 a0.Wind)] ag23 rfl rfl rfl rfl (H.cell 0 rfl) ?_
       refine O.loadA [(.int .i64 a1.Place), (.int .i64 a1.Wind), (.bool a1.Flag), (.int .i64 a1.At)] ag51 rfl rfl rfl rfl (H.cell 1 rfl) ?_
       refine O.fieldAddr fd86_0 rfl rfl rfl ?_
       refine O.load sc3 rfl rfl rfl (H.cell 2 rfl 0 _ rfl) ?_
       obtain ⟨t6, hy6, hm⟩ := bind_some hm
       refine O.callV rfl rfl rfl rfl (callsV_mk Tryz.call97 (c_ball_rules_c5 a0 a1 _ hy6)) ?_
       rintro _ w26 hb14 rfl
       have H := H.ext hb14
       refine O.not rfl rfl rfl ?_
       refine WL.nil ?_
       rcases ite_some hm with ⟨hc8, hm⟩ | ⟨hc8, hm⟩
       ·
        refine W.cond_true (congrArg Value.bool hc8) ?_
        refine W.seq ?_
        refine W.region ?_
        refine O.build (v := (.agg (Flat.cells (GBall.mk 0 0 false 0)).toArray)) (fun w => bd51_  w) rfl rfl rfl ?_
        refine O.store 3 0 [(.int .i64 0), (.int .i64 0), (.bool false), (.int .i64 0)] [(.int .i64 0), (.int .i64 0), (.bool false), (.int .i64 0)] sz51 H rfl rfl rfl rfl rfl rfl ⟨⟨rfl, rfl⟩, rfl⟩ (one_cons rfl (one_cons rfl (one_cons rfl (one_cons rfl one_nil)))) ?_
        intro w27 H
        refine O.assign (v := (.int .i64 9)) rfl rfl rfl ?_
        refine WL.nil ?_
        refine W.ret ?_
        have hq : ((GBall.mk 0 0 false 0), 9) = (r0, r1) := Option.some.inj (show some ((GBall.mk 0 0 false 0), 9) = some (r0, r1) from hm)
        obtain ⟨he0, hq0⟩ := Prod.mk.inj hq; clear hq; subst he0
        subst hq0
        exact ends2 Tryz.results64 ⟨_, rfl, run_loadVar_agg ag51 rfl (H.cell 3 rfl)⟩ rfl ⟨_, rfl, H.base, rfl⟩
       ·
        refine W.cond_false (congrArg Value.bool hc8) ?_
        refine W.skip ?_
        refine W.seq ?_
        refine W.region ?_
        refine O.fieldAddr fd120_1 rfl rfl rfl ?_
        refine O.load sc118 rfl rfl rfl (H.cell 4 rfl 1 _ rfl) ?_
        refine O.fieldAddr fd86_2 rfl rfl rfl ?_
        refine O.load sc3 rfl rfl rfl (H.cell 2 rfl 2 _ rfl) ?_
        obtain ⟨t7, hy7, hm⟩ := bind_some hm
        refine O.callXV 1 H rfl Tryz.call98 rfl rfl rfl rfl (c_ball_rules_c6 _ a1 (H.boxAt 1 rfl) _ hy7) ?_
        rintro _ w28 H rfl
        refine WL.nil ?_
        refine W.seq ?_
        refine W.region ?_
        refine O.fieldAddr fd86_0 rfl rfl rfl ?_
        refine O.load sc3 rfl rfl rfl (H.cell 2 rfl 0 _ rfl) ?_
        refine O.fieldAddr fd51_3 rfl rfl rfl ?_
        refine O.store 1 3 [(.int .i64 a2.At)] [(.int .i64 t7.Place), (.int .i64 t7.Wind), (.bool t7.Flag), (.int .i64 a2.At)] sz3 H rfl rfl rfl rfl rfl rfl ⟨⟨rfl, rfl⟩, rfl⟩ (one_cons rfl one_nil) ?_
        intro w29 H
        refine WL.nil ?_
        refine W.seq ?_
        refine W.region ?_
        refine O.loadA [(.int .i64 t7.Place), (.int .i64 t7.Wind), (.bool t7.Flag), (.int .i64 a2.At)] ag51 rfl rfl rfl rfl (H.cell 1 rfl) ?_
        refine O.store 3 0 [(.int .i64 t7.Place), (.int .i64 t7.Wind), (.bool t7.Flag), (.int .i64 a2.At)] [(.int .i64 t7.Place), (.int .i64 t7.Wind), (.bool t7.Flag), (.int .i64 a2.At)] sz51 H rfl rfl rfl rfl rfl rfl ⟨⟨rfl, rfl⟩, rfl⟩ (one_cons rfl (one_cons rfl (one_cons rfl (one_cons rfl one_nil)))) ?_
        intro w30 H
        refine O.assign (v := (.int .i64 0)) rfl rfl rfl ?_
        refine WL.nil ?_
        refine W.ret ?_
        have hq : ((GBall.mk t7.Place t7.Wind t7.Flag a2.At), 0) = (r0, r1) := Option.some.inj (show some ((GBall.mk t7.Place t7.Wind t7.Flag a2.At), 0) = some (r0, r1) from hm)
        obtain ⟨he0, hq0⟩ := Prod.mk.inj hq; clear hq; subst he0
        subst hq0
        exact ends2 Tryz.results64 ⟨_, rfl, run_loadVar_agg ag51 rfl (H.cell 3 rfl)⟩ rfl ⟨_, rfl, H.base, rfl⟩
     ·
      rcases ite_some hm with ⟨hc9, hm⟩ | ⟨hc9, hm⟩
      ·
       obtain ⟨wd4, rfl⟩ : ∃ x, x = w := ⟨w, rfl⟩
       refine W.draw 5 (fun k v wk => match k with | 0 => v = (.agg #[.nilFunc, .nilFunc, (.func (.func 92) #[] #[]), (.func (.func 93) #[] #[]), (.func (.func 94) #[] #[]), (.func (.func 96) #[] #[]), (.func (.func 97) #[] #[]), (.func (.func 98) #[] #[]), (.func (.func 99) #[] #[]), (.func (.func 100) #[] #[]), (.func (.func 101) #[] #[]), (.func (.func 102) #[] #[]), (.func (.func 103) #[] #[]), (.func (.func 104) #[] #[])]) | 1 => v = (.pointer (some (Addr.add (Addr.mk b3 0 none) 1))) | 2 => v = (.int .i64 a2.Kind) | 3 => v = (.agg #[(.func (.func 99) #[] #[]), (.func (.func 100) #[] #[])]) | 4 => ∃ b : Nat, v = .pointer (some ⟨b, 0, none⟩) ∧ Inv wd4 wk [boxI b 120 [.nilFunc, .nilFunc]] | _ => True) (by intro k v w w' h hb; match k, h with | 0, h => exact h | 1, h => exact h | 2, h => exact h | 3, h => exact h | 4, ⟨b, e, h⟩ => exact ⟨b, e, h.ext hb⟩ | _ + 5, h => exact h) fol (by kernel_rfl) ?_ ?_
       ·
        refine ⟨⟨⟨⟨⟨trivial, ?_⟩, ?_⟩, ?_⟩, ?_⟩, ?_⟩
        ·
         intro f wk hx hf hd
         have H := H.ext hx
         refine O.call Tryz.call84 rfl rfl rfl c_ball_rules ?_
         rintro _ w31 hb15 rfl
         have H := H.ext hb15
         exact WL.nil ⟨hb15, _, rfl, rfl⟩
        ·
         intro f wk hx hf hd
         have H := H.ext hx
         have hf5 : f 5 = (.pointer (some ⟨b3, 0, none⟩)) := hf 5 rfl
         obtain ⟨u14, rfl⟩ := up1 hf5
         refine O.fieldAddr fd86_1 rfl rfl rfl ?_
         exact WL.nil ⟨Below.refl _ _, _, rfl, rfl⟩
        ·
         intro f wk hx hf hd
         have H := H.ext hx
         have hf21 : f 21 = (.pointer (some (Addr.add (Addr.mk b3 0 none) 1))) := hd 1 rfl
         obtain ⟨u15, rfl⟩ := up1 hf21
         refine O.load sc3 rfl rfl rfl (H.cell 2 rfl 1 _ rfl) ?_
         exact WL.nil ⟨Below.refl _ _, _, rfl, rfl⟩
        ·
         intro f wk hx hf hd
         have H := H.ext hx
         have hf20 : f 20 = (.agg #[.nilFunc, .nilFunc, (.func (.func 92) #[] #[]), (.func (.func 93) #[] #[]), (.func (.func 94) #[] #[]), (.func (.func 96) #[] #[]), (.func (.func 97) #[] #[]), (.func (.func 98) #[] #[]), (.func (.func 99) #[] #[]), (.func (.func 100) #[] #[]), (.func (.func 101) #[] #[]), (.func (.func 102) #[] #[]), (.func (.func 103) #[] #[]), (.func (.func 104) #[] #[])]) := hd 0 rfl
         have hf22 : f 22 = (.int .i64 a2.Kind) := hd 2 rfl
         obtain ⟨u16, rfl⟩ := up2 hf20 hf22
         refine O.indexC 4 ixf121_4_64 (eq_of_beq hc9) rfl rfl rfl rfl ?_
         exact WL.nil ⟨Below.refl _ _, _, rfl, rfl⟩
        ·
         intro f wk hx hf hd
         have H := H.ext hx
         refine O.alloc [.nilFunc, .nilFunc] ze120 (Inv.start (w := _)) rfl rfl rfl ?_
         intro b8 w32 H hb16
         exact WL.nil ⟨hb16, _, rfl, ⟨_, rfl, H.rebase hx⟩⟩
       ·
        intro f wk hx hf hmd hd
        have hf3 : f 3 = (.pointer (some ⟨b1, 0, none⟩)) := hf 3 rfl
        have hf4 : f 4 = (.pointer (some ⟨b2, 0, none⟩)) := hf 4 rfl
        have hf5 : f 5 = (.pointer (some ⟨b3, 0, none⟩)) := hf 5 rfl
        have hf6 : f 6 = (.pointer (some ⟨b4, 0, none⟩)) := hf 6 rfl
        obtain ⟨b8, hf8, ho8⟩ : ∃ b : Nat, f 8 = .pointer (some ⟨b, 0, none⟩) ∧ Inv wd4 wk [boxI b 120 [.nilFunc, .nilFunc]] := hd 4 rfl
        have hf23 : f 23 = (.agg #[(.func (.func 99) #[] #[]), (.func (.func 100) #[] #[])]) := hd 3 rfl
        have H := H.addAll hx ho8
        obtain ⟨u17, rfl⟩ := up6 hf3 hf4 hf5 hf6 hf8 hf23
        refine O.store 4 0 [(.func (.func 99) #[] #[]), (.func (.func 100) #[] #[])] [(.func (.func 99) #[] #[]), (.func (.func 100) #[] #[])] sz120 H rfl rfl rfl rfl rfl rfl ⟨⟨rfl, rfl⟩, rfl⟩ (one_cons rfl (one_cons rfl one_nil)) ?_
        intro w33 H
        refine WL.nil ?_
        refine W.seq ?_
        refine W.seq ?_
        refine W.region ?_
        refine O.fieldAddr fd120_0 rfl rfl rfl ?_
        refine O.load sc117 rfl rfl rfl (H.cell 4 rfl 0 _ rfl) ?_
        refine O.loadA [(.int .i64 a0.Noon), (.int .i64 a0.Half), (.int .i64 a0.Full), (.int .i64 a0.Late), (.int .i64 a0.Again), (.int .i64 a0.Wind)] ag23 rfl rfl rfl rfl (H.cell 0 rfl) ?_
        refine O.loadA [(.int .i64 a1.Place), (.int .i64 a1.Wind), (.bool a1.Flag), (.int .i64 a1.At)] ag51 rfl rfl rfl rfl (H.cell 1 rfl) ?_
        refine O.fieldAddr fd86_0 rfl rfl rfl ?_
        refine O.load sc3 rfl rfl rfl (H.cell 2 rfl 0 _ rfl) ?_
        obtain ⟨t8, hy8, hm⟩ := bind_some hm
        refine O.callV rfl rfl rfl rfl (callsV_mk Tryz.call99 (c_ball_rules_c7 a0 a1 _ hy8)) ?_
        rintro _ w34 hb17 rfl
        have H := H.ext hb17
        refine O.not rfl rfl rfl ?_
        refine WL.nil ?_
        rcases ite_some hm with ⟨hc10, hm⟩ | ⟨hc10, hm⟩
        ·
         refine W.cond_true (congrArg Value.bool hc10) ?_
         refine W.seq ?_
         refine W.region ?_
         refine O.build (v := (.agg (Flat.cells (GBall.mk 0 0 false 0)).toArray)) (fun w => bd51_  w) rfl rfl rfl ?_
         refine O.store 3 0 [(.int .i64 0), (.int .i64 0), (.bool false), (.int .i64 0)] [(.int .i64 0), (.int .i64 0), (.bool false), (.int .i64 0)] sz51 H rfl rfl rfl rfl rfl rfl ⟨⟨rfl, rfl⟩, rfl⟩ (one_cons rfl (one_cons rfl (one_cons rfl (one_cons rfl one_nil)))) ?_
         intro w35 H
         refine O.assign (v := (.int .i64 9)) rfl rfl rfl ?_
         refine WL.nil ?_
         refine W.ret ?_
         have hq : ((GBall.mk 0 0 false 0), 9) = (r0, r1) := Option.some.inj (show some ((GBall.mk 0 0 false 0), 9) = some (r0, r1) from hm)
         obtain ⟨he0, hq0⟩ := Prod.mk.inj hq; clear hq; subst he0
         subst hq0
         exact ends2 Tryz.results64 ⟨_, rfl, run_loadVar_agg ag51 rfl (H.cell 3 rfl)⟩ rfl ⟨_, rfl, H.base, rfl⟩
        ·
         refine W.cond_false (congrArg Value.bool hc10) ?_
         refine W.skip ?_
         refine W.seq ?_
         refine W.region ?_
         refine O.fieldAddr fd120_1 rfl rfl rfl ?_
         refine O.load sc118 rfl rfl rfl (H.cell 4 rfl 1 _ rfl) ?_
         refine O.fieldAddr fd86_2 rfl rfl rfl ?_
         refine O.load sc3 rfl rfl rfl (H.cell 2 rfl 2 _ rfl) ?_
         obtain ⟨t9, hy9, hm⟩ := bind_some hm
         refine O.callXV 1 H rfl Tryz.call100 rfl rfl rfl rfl (c_ball_rules_c8 _ a1 (H.boxAt 1 rfl) _ hy9) ?_
         rintro _ w36 H rfl
         refine WL.nil ?_
         refine W.seq ?_
         refine W.region ?_
         refine O.fieldAddr fd86_0 rfl rfl rfl ?_
         refine O.load sc3 rfl rfl rfl (H.cell 2 rfl 0 _ rfl) ?_
         refine O.fieldAddr fd51_3 rfl rfl rfl ?_
         refine O.store 1 3 [(.int .i64 a2.At)] [(.int .i64 t9.Place), (.int .i64 t9.Wind), (.bool t9.Flag), (.int .i64 a2.At)] sz3 H rfl rfl rfl rfl rfl rfl ⟨⟨rfl, rfl⟩, rfl⟩ (one_cons rfl one_nil) ?_
         intro w37 H
         refine WL.nil ?_
         refine W.seq ?_
         refine W.region ?_
         refine O.loadA [(.int .i64 t9.Place), (.int .i64 t9.Wind), (.bool t9.Flag), (.int .i64 a2.At)] ag51 rfl rfl rfl rfl (H.cell 1 rfl) ?_
         refine O.store 3 0 [(.int .i64 t9.Place), (.int .i64 t9.Wind), (.bool t9.Flag), (.int .i64 a2.At)] [(.int .i64 t9.Place), (.int .i64 t9.Wind), (.bool t9.Flag), (.int .i64 a2.At)] sz51 H rfl rfl rfl rfl rfl rfl ⟨⟨rfl, rfl⟩, rfl⟩ (one_cons rfl (one_cons rfl (one_cons rfl (one_cons rfl one_nil)))) ?_
         intro w38 H
         refine O.assign (v := (.int .i64 0)) rfl rfl rfl ?_
         refine WL.nil ?_
         refine W.ret ?_
         have hq : ((GBall.mk t9.Place t9.Wind t9.Flag a2.At), 0) = (r0, r1) := Option.some.inj (show some ((GBall.mk t9.Place t9.Wind t9.Flag a2.At), 0) = some (r0, r1) from hm)
         obtain ⟨he0, hq0⟩ := Prod.mk.inj hq; clear hq; subst he0
         subst hq0
         exact ends2 Tryz.results64 ⟨_, rfl, run_loadVar_agg ag51 rfl (H.cell 3 rfl)⟩ rfl ⟨_, rfl, H.base, rfl⟩
      ·
       rcases ite_some hm with ⟨hc11, hm⟩ | ⟨hc11, hm⟩
       ·
        obtain ⟨wd5, rfl⟩ : ∃ x, x = w := ⟨w, rfl⟩
        refine W.draw 5 (fun k v wk => match k with | 0 => v = (.agg #[.nilFunc, .nilFunc, (.func (.func 92) #[] #[]), (.func (.func 93) #[] #[]), (.func (.func 94) #[] #[]), (.func (.func 96) #[] #[]), (.func (.func 97) #[] #[]), (.func (.func 98) #[] #[]), (.func (.func 99) #[] #[]), (.func (.func 100) #[] #[]), (.func (.func 101) #[] #[]), (.func (.func 102) #[] #[]), (.func (.func 103) #[] #[]), (.func (.func 104) #[] #[])]) | 1 => v = (.pointer (some (Addr.add (Addr.mk b3 0 none) 1))) | 2 => v = (.int .i64 a2.Kind) | 3 => v = (.agg #[(.func (.func 101) #[] #[]), (.func (.func 102) #[] #[])]) | 4 => ∃ b : Nat, v = .pointer (some ⟨b, 0, none⟩) ∧ Inv wd5 wk [boxI b 120 [.nilFunc, .nilFunc]] | _ => True) (by intro k v w w' h hb; match k, h with | 0, h => exact h | 1, h => exact h | 2, h => exact h | 3, h => exact h | 4, ⟨b, e, h⟩ => exact ⟨b, e, h.ext hb⟩ | _ + 5, h => exact h) fol (by kernel_rfl) ?_ ?_
        ·
         refine ⟨⟨⟨⟨⟨trivial, ?_⟩, ?_⟩, ?_⟩, ?_⟩, ?_⟩
         ·
          intro f wk hx hf hd
          have H := H.ext hx
          refine O.call Tryz.call84 rfl rfl rfl c_ball_rules ?_
          rintro _ w39 hb18 rfl
          have H := H.ext hb18
          exact WL.nil ⟨hb18, _, rfl, rfl⟩
         ·
          intro f wk hx hf hd
          have H := H.ext hx
          have hf5 : f 5 = (.pointer (some ⟨b3, 0, none⟩)) := hf 5 rfl
          obtain ⟨u18, rfl⟩ := up1 hf5
          refine O.fieldAddr fd86_1 rfl rfl rfl ?_
          exact WL.nil ⟨Below.refl _ _, _, rfl, rfl⟩
         ·
          intro f wk hx hf hd
          have H := H.ext hx
          have hf21 : f 21 = (.pointer (some (Addr.add (Addr.mk b3 0 none) 1))) := hd 1 rfl
          obtain ⟨u19, rfl⟩ := up1 hf21
          refine O.load sc3 rfl rfl rfl (H.cell 2 rfl 1 _ rfl) ?_
          exact WL.nil ⟨Below.refl _ _, _, rfl, rfl⟩
         ·
          intro f wk hx hf hd
          have H := H.ext hx
          have hf20 : f 20 = (.agg #[.nilFunc, .nilFunc, (.func (.func 92) #[] #[]), (.func (.func 93) #[] #[]), (.func (.func 94) #[] #[]), (.func (.func 96) #[] #[]), (.func (.func 97) #[] #[]), (.func (.func 98) #[] #[]), (.func (.func 99) #[] #[]), (.func (.func 100) #[] #[]), (.func (.func 101) #[] #[]), (.func (.func 102) #[] #[]), (.func (.func 103) #[] #[]), (.func (.func 104) #[] #[])]) := hd 0 rfl
          have hf22 : f 22 = (.int .i64 a2.Kind) := hd 2 rfl
          obtain ⟨u20, rfl⟩ := up2 hf20 hf22
          refine O.indexC 5 ixf121_5_64 (eq_of_beq hc11) rfl rfl rfl rfl ?_
          exact WL.nil ⟨Below.refl _ _, _, rfl, rfl⟩
         ·
          intro f wk hx hf hd
          have H := H.ext hx
          refine O.alloc [.nilFunc, .nilFunc] ze120 (Inv.start (w := _)) rfl rfl rfl ?_
          intro b9 w40 H hb19
          exact WL.nil ⟨hb19, _, rfl, ⟨_, rfl, H.rebase hx⟩⟩
        ·
         intro f wk hx hf hmd hd
         have hf3 : f 3 = (.pointer (some ⟨b1, 0, none⟩)) := hf 3 rfl
         have hf4 : f 4 = (.pointer (some ⟨b2, 0, none⟩)) := hf 4 rfl
         have hf5 : f 5 = (.pointer (some ⟨b3, 0, none⟩)) := hf 5 rfl
         have hf6 : f 6 = (.pointer (some ⟨b4, 0, none⟩)) := hf 6 rfl
         obtain ⟨b9, hf8, ho8⟩ : ∃ b : Nat, f 8 = .pointer (some ⟨b, 0, none⟩) ∧ Inv wd5 wk [boxI b 120 [.nilFunc, .nilFunc]] := hd 4 rfl
         have hf23 : f 23 = (.agg #[(.func (.func 101) #[] #[]), (.func (.func 102) #[] #[])]) := hd 3 rfl
         have H := H.addAll hx ho8
         obtain ⟨u21, rfl⟩ := up6 hf3 hf4 hf5 hf6 hf8 hf23
         refine O.store 4 0 [(.func (.func 101) #[] #[]), (.func (.func 102) #[] #[])] [(.func (.func 101) #[] #[]), (.func (.func 102) #[] #[])] sz120 H rfl rfl rfl rfl rfl rfl ⟨⟨rfl, rfl⟩, rfl⟩ (one_cons rfl (one_cons rfl one_nil)) ?_
         intro w41 H
         refine WL.nil ?_
         refine W.seq ?_
         refine W.seq ?_
         refine W.region ?_
         refine O.fieldAddr fd120_0 rfl rfl rfl ?_
         refine O.load sc117 rfl rfl rfl (H.cell 4 rfl 0 _ rfl) ?_
         refine O.loadA [(.int .i64 a0.Noon), (.int .i64 a0.Half), (.int .i64 a0.Full), (.int .i64 a0.Late), (.int .i64 a0.Again), (.int .i64 a0.Wind)] ag23 rfl rfl rfl rfl (H.cell 0 rfl) ?_
         refine O.loadA [(.int .i64 a1.Place), (.int .i64 a1.Wind), (.bool a1.Flag), (.int .i64 a1.At)] ag51 rfl rfl rfl rfl (H.cell 1 rfl) ?_
         refine O.fieldAddr fd86_0 rfl rfl rfl ?_
         refine O.load sc3 rfl rfl rfl (H.cell 2 rfl 0 _ rfl) ?_
         obtain ⟨t10, hy10, hm⟩ := bind_some hm
         refine O.callV rfl rfl rfl rfl (callsV_mk Tryz.call101 (c_ball_rules_c9 a0 a1 _ hy10)) ?_
         rintro _ w42 hb20 rfl
         have H := H.ext hb20
         refine O.not rfl rfl rfl ?_
         refine WL.nil ?_
         rcases ite_some hm with ⟨hc12, hm⟩ | ⟨hc12, hm⟩
         ·
          refine W.cond_true (congrArg Value.bool hc12) ?_
          refine W.seq ?_
          refine W.region ?_
          refine O.build (v := (.agg (Flat.cells (GBall.mk 0 0 false 0)).toArray)) (fun w => bd51_  w) rfl rfl rfl ?_
          refine O.store 3 0 [(.int .i64 0), (.int .i64 0), (.bool false), (.int .i64 0)] [(.int .i64 0), (.int .i64 0), (.bool false), (.int .i64 0)] sz51 H rfl rfl rfl rfl rfl rfl ⟨⟨rfl, rfl⟩, rfl⟩ (one_cons rfl (one_cons rfl (one_cons rfl (one_cons rfl one_nil)))) ?_
          intro w43 H
          refine O.assign (v := (.int .i64 9)) rfl rfl rfl ?_
          refine WL.nil ?_
          refine W.ret ?_
          have hq : ((GBall.mk 0 0 false 0), 9) = (r0, r1) := Option.some.inj (show some ((GBall.mk 0 0 false 0), 9) = some (r0, r1) from hm)
          obtain ⟨he0, hq0⟩ := Prod.mk.inj hq; clear hq; subst he0
          subst hq0
          exact ends2 Tryz.results64 ⟨_, rfl, run_loadVar_agg ag51 rfl (H.cell 3 rfl)⟩ rfl ⟨_, rfl, H.base, rfl⟩
         ·
          refine W.cond_false (congrArg Value.bool hc12) ?_
          refine W.skip ?_
          refine W.seq ?_
          refine W.region ?_
          refine O.fieldAddr fd120_1 rfl rfl rfl ?_
          refine O.load sc118 rfl rfl rfl (H.cell 4 rfl 1 _ rfl) ?_
          refine O.fieldAddr fd86_2 rfl rfl rfl ?_
          refine O.load sc3 rfl rfl rfl (H.cell 2 rfl 2 _ rfl) ?_
          obtain ⟨t11, hy11, hm⟩ := bind_some hm
          refine O.callXV 1 H rfl Tryz.call102 rfl rfl rfl rfl (c_ball_rules_c10 _ a1 (H.boxAt 1 rfl) _ hy11) ?_
          rintro _ w44 H rfl
          refine WL.nil ?_
          refine W.seq ?_
          refine W.region ?_
          refine O.fieldAddr fd86_0 rfl rfl rfl ?_
          refine O.load sc3 rfl rfl rfl (H.cell 2 rfl 0 _ rfl) ?_
          refine O.fieldAddr fd51_3 rfl rfl rfl ?_
          refine O.store 1 3 [(.int .i64 a2.At)] [(.int .i64 t11.Place), (.int .i64 t11.Wind), (.bool t11.Flag), (.int .i64 a2.At)] sz3 H rfl rfl rfl rfl rfl rfl ⟨⟨rfl, rfl⟩, rfl⟩ (one_cons rfl one_nil) ?_
          intro w45 H
          refine WL.nil ?_
          refine W.seq ?_
          refine W.region ?_
          refine O.loadA [(.int .i64 t11.Place), (.int .i64 t11.Wind), (.bool t11.Flag), (.int .i64 a2.At)] ag51 rfl rfl rfl rfl (H.cell 1 rfl) ?_
          refine O.store 3 0 [(.int .i64 t11.Place), (.int .i64 t11.Wind), (.bool t11.Flag), (.int .i64 a2.At)] [(.int .i64 t11.Place), (.int .i64 t11.Wind), (.bool t11.Flag), (.int .i64 a2.At)] sz51 H rfl rfl rfl rfl rfl rfl ⟨⟨rfl, rfl⟩, rfl⟩ (one_cons rfl (one_cons rfl (one_cons rfl (one_cons rfl one_nil)))) ?_
          intro w46 H
          refine O.assign (v := (.int .i64 0)) rfl rfl rfl ?_
          refine WL.nil ?_
          refine W.ret ?_
          have hq : ((GBall.mk t11.Place t11.Wind t11.Flag a2.At), 0) = (r0, r1) := Option.some.inj (show some ((GBall.mk t11.Place t11.Wind t11.Flag a2.At), 0) = some (r0, r1) from hm)
          obtain ⟨he0, hq0⟩ := Prod.mk.inj hq; clear hq; subst he0
          subst hq0
          exact ends2 Tryz.results64 ⟨_, rfl, run_loadVar_agg ag51 rfl (H.cell 3 rfl)⟩ rfl ⟨_, rfl, H.base, rfl⟩
       ·
        rcases ite_some hm with ⟨hc13, hm⟩ | ⟨hc13, hm⟩
        ·
         obtain ⟨wd6, rfl⟩ : ∃ x, x = w := ⟨w, rfl⟩
         refine W.draw 5 (fun k v wk => match k with | 0 => v = (.agg #[.nilFunc, .nilFunc, (.func (.func 92) #[] #[]), (.func (.func 93) #[] #[]), (.func (.func 94) #[] #[]), (.func (.func 96) #[] #[]), (.func (.func 97) #[] #[]), (.func (.func 98) #[] #[]), (.func (.func 99) #[] #[]), (.func (.func 100) #[] #[]), (.func (.func 101) #[] #[]), (.func (.func 102) #[] #[]), (.func (.func 103) #[] #[]), (.func (.func 104) #[] #[])]) | 1 => v = (.pointer (some (Addr.add (Addr.mk b3 0 none) 1))) | 2 => v = (.int .i64 a2.Kind) | 3 => v = (.agg #[(.func (.func 103) #[] #[]), (.func (.func 104) #[] #[])]) | 4 => ∃ b : Nat, v = .pointer (some ⟨b, 0, none⟩) ∧ Inv wd6 wk [boxI b 120 [.nilFunc, .nilFunc]] | _ => True) (by intro k v w w' h hb; match k, h with | 0, h => exact h | 1, h => exact h | 2, h => exact h | 3, h => exact h | 4, ⟨b, e, h⟩ => exact ⟨b, e, h.ext hb⟩ | _ + 5, h => exact h) fol (by kernel_rfl) ?_ ?_
         ·
          refine ⟨⟨⟨⟨⟨trivial, ?_⟩, ?_⟩, ?_⟩, ?_⟩, ?_⟩
          ·
           intro f wk hx hf hd
           have H := H.ext hx
           refine O.call Tryz.call84 rfl rfl rfl c_ball_rules ?_
           rintro _ w47 hb21 rfl
           have H := H.ext hb21
           exact WL.nil ⟨hb21, _, rfl, rfl⟩
          ·
           intro f wk hx hf hd
           have H := H.ext hx
           have hf5 : f 5 = (.pointer (some ⟨b3, 0, none⟩)) := hf 5 rfl
           obtain ⟨u22, rfl⟩ := up1 hf5
           refine O.fieldAddr fd86_1 rfl rfl rfl ?_
           exact WL.nil ⟨Below.refl _ _, _, rfl, rfl⟩
          ·
           intro f wk hx hf hd
           have H := H.ext hx
           have hf21 : f 21 = (.pointer (some (Addr.add (Addr.mk b3 0 none) 1))) := hd 1 rfl
           obtain ⟨u23, rfl⟩ := up1 hf21
           refine O.load sc3 rfl rfl rfl (H.cell 2 rfl 1 _ rfl) ?_
           exact WL.nil ⟨Below.refl _ _, _, rfl, rfl⟩
          ·
           intro f wk hx hf hd
           have H := H.ext hx
           have hf20 : f 20 = (.agg #[.nilFunc, .nilFunc, (.func (.func 92) #[] #[]), (.func (.func 93) #[] #[]), (.func (.func 94) #[] #[]), (.func (.func 96) #[] #[]), (.func (.func 97) #[] #[]), (.func (.func 98) #[] #[]), (.func (.func 99) #[] #[]), (.func (.func 100) #[] #[]), (.func (.func 101) #[] #[]), (.func (.func 102) #[] #[]), (.func (.func 103) #[] #[]), (.func (.func 104) #[] #[])]) := hd 0 rfl
           have hf22 : f 22 = (.int .i64 a2.Kind) := hd 2 rfl
           obtain ⟨u24, rfl⟩ := up2 hf20 hf22
           refine O.indexC 6 ixf121_6_64 (eq_of_beq hc13) rfl rfl rfl rfl ?_
           exact WL.nil ⟨Below.refl _ _, _, rfl, rfl⟩
          ·
           intro f wk hx hf hd
           have H := H.ext hx
           refine O.alloc [.nilFunc, .nilFunc] ze120 (Inv.start (w := _)) rfl rfl rfl ?_
           intro b10 w48 H hb22
           exact WL.nil ⟨hb22, _, rfl, ⟨_, rfl, H.rebase hx⟩⟩
         ·
          intro f wk hx hf hmd hd
          have hf3 : f 3 = (.pointer (some ⟨b1, 0, none⟩)) := hf 3 rfl
          have hf4 : f 4 = (.pointer (some ⟨b2, 0, none⟩)) := hf 4 rfl
          have hf5 : f 5 = (.pointer (some ⟨b3, 0, none⟩)) := hf 5 rfl
          have hf6 : f 6 = (.pointer (some ⟨b4, 0, none⟩)) := hf 6 rfl
          obtain ⟨b10, hf8, ho8⟩ : ∃ b : Nat, f 8 = .pointer (some ⟨b, 0, none⟩) ∧ Inv wd6 wk [boxI b 120 [.nilFunc, .nilFunc]] := hd 4 rfl
          have hf23 : f 23 = (.agg #[(.func (.func 103) #[] #[]), (.func (.func 104) #[] #[])]) := hd 3 rfl
          have H := H.addAll hx ho8
          obtain ⟨u25, rfl⟩ := up6 hf3 hf4 hf5 hf6 hf8 hf23
          refine O.store 4 0 [(.func (.func 103) #[] #[]), (.func (.func 104) #[] #[])] [(.func (.func 103) #[] #[]), (.func (.func 104) #[] #[])] sz120 H rfl rfl rfl rfl rfl rfl ⟨⟨rfl, rfl⟩, rfl⟩ (one_cons rfl (one_cons rfl one_nil)) ?_
          intro w49 H
          refine WL.nil ?_
          refine W.seq ?_
          refine W.seq ?_
          refine W.region ?_
          refine O.fieldAddr fd120_0 rfl rfl rfl ?_
          refine O.load sc117 rfl rfl rfl (H.cell 4 rfl 0 _ rfl) ?_
          refine O.loadA [(.int .i64 a0.Noon), (.int .i64 a0.Half), (.int .i64 a0.Full), (.int .i64 a0.Late), (.int .i64 a0.Again), (.int .i64 a0.Wind)] ag23 rfl rfl rfl rfl (H.cell 0 rfl) ?_
          refine O.loadA [(.int .i64 a1.Place), (.int .i64 a1.Wind), (.bool a1.Flag), (.int .i64 a1.At)] ag51 rfl rfl rfl rfl (H.cell 1 rfl) ?_
          refine O.fieldAddr fd86_0 rfl rfl rfl ?_
          refine O.load sc3 rfl rfl rfl (H.cell 2 rfl 0 _ rfl) ?_
          obtain ⟨t12, hy12, hm⟩ := bind_some hm
          refine O.callV rfl rfl rfl rfl (callsV_mk Tryz.call103 (c_ball_rules_c11 a0 a1 _ hy12)) ?_
          rintro _ w50 hb23 rfl
          have H := H.ext hb23
          refine O.not rfl rfl rfl ?_
          refine WL.nil ?_
          rcases ite_some hm with ⟨hc14, hm⟩ | ⟨hc14, hm⟩
          ·
           refine W.cond_true (congrArg Value.bool hc14) ?_
           refine W.seq ?_
           refine W.region ?_
           refine O.build (v := (.agg (Flat.cells (GBall.mk 0 0 false 0)).toArray)) (fun w => bd51_  w) rfl rfl rfl ?_
           refine O.store 3 0 [(.int .i64 0), (.int .i64 0), (.bool false), (.int .i64 0)] [(.int .i64 0), (.int .i64 0), (.bool false), (.int .i64 0)] sz51 H rfl rfl rfl rfl rfl rfl ⟨⟨rfl, rfl⟩, rfl⟩ (one_cons rfl (one_cons rfl (one_cons rfl (one_cons rfl one_nil)))) ?_
           intro w51 H
           refine O.assign (v := (.int .i64 9)) rfl rfl rfl ?_
           refine WL.nil ?_
           refine W.ret ?_
           have hq : ((GBall.mk 0 0 false 0), 9) = (r0, r1) := Option.some.inj (show some ((GBall.mk 0 0 false 0), 9) = some (r0, r1) from hm)
           obtain ⟨he0, hq0⟩ := Prod.mk.inj hq; clear hq; subst he0
           subst hq0
           exact ends2 Tryz.results64 ⟨_, rfl, run_loadVar_agg ag51 rfl (H.cell 3 rfl)⟩ rfl ⟨_, rfl, H.base, rfl⟩
          ·
           refine W.cond_false (congrArg Value.bool hc14) ?_
           refine W.skip ?_
           refine W.seq ?_
           refine W.region ?_
           refine O.fieldAddr fd120_1 rfl rfl rfl ?_
           refine O.load sc118 rfl rfl rfl (H.cell 4 rfl 1 _ rfl) ?_
           refine O.fieldAddr fd86_2 rfl rfl rfl ?_
           refine O.load sc3 rfl rfl rfl (H.cell 2 rfl 2 _ rfl) ?_
           obtain ⟨t13, hy13, hm⟩ := bind_some hm
           refine O.callXV 1 H rfl Tryz.call104 rfl rfl rfl rfl (c_ball_rules_c12 _ a1 (H.boxAt 1 rfl) _ hy13) ?_
           rintro _ w52 H rfl
           refine WL.nil ?_
           refine W.seq ?_
           refine W.region ?_
           refine O.fieldAddr fd86_0 rfl rfl rfl ?_
           refine O.load sc3 rfl rfl rfl (H.cell 2 rfl 0 _ rfl) ?_
           refine O.fieldAddr fd51_3 rfl rfl rfl ?_
           refine O.store 1 3 [(.int .i64 a2.At)] [(.int .i64 t13.Place), (.int .i64 t13.Wind), (.bool t13.Flag), (.int .i64 a2.At)] sz3 H rfl rfl rfl rfl rfl rfl ⟨⟨rfl, rfl⟩, rfl⟩ (one_cons rfl one_nil) ?_
           intro w53 H
           refine WL.nil ?_
           refine W.seq ?_
           refine W.region ?_
           refine O.loadA [(.int .i64 t13.Place), (.int .i64 t13.Wind), (.bool t13.Flag), (.int .i64 a2.At)] ag51 rfl rfl rfl rfl (H.cell 1 rfl) ?_
           refine O.store 3 0 [(.int .i64 t13.Place), (.int .i64 t13.Wind), (.bool t13.Flag), (.int .i64 a2.At)] [(.int .i64 t13.Place), (.int .i64 t13.Wind), (.bool t13.Flag), (.int .i64 a2.At)] sz51 H rfl rfl rfl rfl rfl rfl ⟨⟨rfl, rfl⟩, rfl⟩ (one_cons rfl (one_cons rfl (one_cons rfl (one_cons rfl one_nil)))) ?_
           intro w54 H
           refine O.assign (v := (.int .i64 0)) rfl rfl rfl ?_
           refine WL.nil ?_
           refine W.ret ?_
           have hq : ((GBall.mk t13.Place t13.Wind t13.Flag a2.At), 0) = (r0, r1) := Option.some.inj (show some ((GBall.mk t13.Place t13.Wind t13.Flag a2.At), 0) = some (r0, r1) from hm)
           obtain ⟨he0, hq0⟩ := Prod.mk.inj hq; clear hq; subst he0
           subst hq0
           exact ends2 Tryz.results64 ⟨_, rfl, run_loadVar_agg ag51 rfl (H.cell 3 rfl)⟩ rfl ⟨_, rfl, H.base, rfl⟩
        ·
         cases hm

end Go.Proofs
