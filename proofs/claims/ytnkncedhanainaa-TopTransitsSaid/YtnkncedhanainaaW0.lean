/-
  The walks: each function does what its model says, where the model has a value. No other condition.
-/
import Derived.Test.YtnkncedhanainaaRows
import Derived.Test.YtnkncedhanainaaM2
import Derived.Test.YtnkncedhanainaaFwMx
import Derived.Test.YtnkncedhanainaaFwX
import Derived.Test.YtnkncedhanainaaFwSb
import Derived.Test.YtnkncedhanainaaFwUp
import Derived.Test.YtnkncedhanainaaShelf
import Derived.Test.YtnkncedhanainaaSgCirc
import Derived.Test.YtnkncedhanainaaFwU6
import Derived.Test.YtnkncedhanainaaFwNs
namespace Go.Proofs
open Go.Fw Go.RowKit Go.Shelf
theorem sc104 : ScalarT Try.prog 104 := ScalarT.mk Try.underlying104 rfl
theorem sc126 : ScalarT Try.prog 126 := ScalarT.mk Try.underlying126 rfl
theorem sc127 : ScalarT Try.prog 127 := ScalarT.mk Try.underlying127 rfl
theorem sc3 : ScalarT Try.prog 3 := ScalarT.mk Try.underlying3 rfl
theorem sc4 : ScalarT Try.prog 4 := ScalarT.mk Try.underlying4 rfl
theorem sc22 : ScalarT Try.prog 22 := ScalarT.mk Try.underlying22 rfl
theorem ag131 : AggT Try.prog 131 2 := AggT.mk Try.underlying131 rfl (by kernel_rfl)
theorem ag137 : AggT Try.prog 137 4 := AggT.mk Try.underlying137 rfl (by kernel_rfl)
theorem ag53 : AggT Try.prog 53 2 := AggT.mk Try.underlying53 rfl (by kernel_rfl)
theorem ag50 : AggT Try.prog 50 5 := AggT.mk Try.underlying50 rfl (by kernel_rfl)
theorem sz104 : SizeT Try.prog 104 1 := SizeT.mk (by kernel_rfl)
theorem sz131 : SizeT Try.prog 131 2 := SizeT.mk (by kernel_rfl)
theorem sz137 : SizeT Try.prog 137 4 := SizeT.mk (by kernel_rfl)
theorem sz127 : SizeT Try.prog 127 1 := SizeT.mk (by kernel_rfl)
theorem sz129 : SizeT Try.prog 129 2 := SizeT.mk (by kernel_rfl)
theorem sz3 : SizeT Try.prog 3 1 := SizeT.mk (by kernel_rfl)
theorem sz22 : SizeT Try.prog 22 1 := SizeT.mk (by kernel_rfl)
theorem sz50 : SizeT Try.prog 50 5 := SizeT.mk (by kernel_rfl)
theorem sz126 : SizeT Try.prog 126 1 := SizeT.mk (by kernel_rfl)
theorem sz4 : SizeT Try.prog 4 1 := SizeT.mk (by kernel_rfl)
theorem ze104 : ZeroT Try.prog 104 (.pointer none) := ZeroT.mk (by kernel_rfl)
theorem ze131 : ZeroT Try.prog 131 (.agg #[(.int .i64 (0)), (.int .i64 (0))]) := ZeroT.mk (by kernel_rfl)
theorem ze137 : ZeroT Try.prog 137 (.agg #[(.int .i64 (0)), (.int .i64 (0)), (.int .i64 (0)), (.int .i64 (0))]) := ZeroT.mk (by kernel_rfl)
theorem ze3 : ZeroT Try.prog 3 (.int .i64 (0)) := ZeroT.mk (by kernel_rfl)
theorem ze50 : ZeroT Try.prog 50 (.agg #[(.int .i64 (0)), (.int .i64 (0)), (.int .i64 (0)), (.int .i64 (0)), (.int .i64 (0))]) := ZeroT.mk (by kernel_rfl)
theorem ze129 : ZeroT Try.prog 129 (.agg #[(.map none), (.slice none 0 0)]) := ZeroT.mk (by kernel_rfl)
theorem fd53_0 : FieldT Try.prog 53 0 0 := FieldT.mk (k := 1) Try.underlying53 rfl rfl (by kernel_rfl) (by decide)
theorem fd53_1 : FieldT Try.prog 53 1 1 := FieldT.mk (k := 1) Try.underlying53 rfl rfl (by kernel_rfl) (by decide)
theorem fd129_0 : FieldT Try.prog 129 0 0 := FieldT.mk (k := 1) Try.underlying129 rfl rfl (by kernel_rfl) (by decide)
theorem fd129_1 : FieldT Try.prog 129 1 1 := FieldT.mk (k := 1) Try.underlying129 rfl rfl (by kernel_rfl) (by decide)
theorem fd131_0 : FieldT Try.prog 131 0 0 := FieldT.mk (k := 1) Try.underlying131 rfl rfl (by kernel_rfl) (by decide)
theorem fd131_1 : FieldT Try.prog 131 1 1 := FieldT.mk (k := 1) Try.underlying131 rfl rfl (by kernel_rfl) (by decide)
theorem fd137_0 : FieldT Try.prog 137 0 0 := FieldT.mk (k := 1) Try.underlying137 rfl rfl (by kernel_rfl) (by decide)
theorem fd137_1 : FieldT Try.prog 137 1 1 := FieldT.mk (k := 1) Try.underlying137 rfl rfl (by kernel_rfl) (by decide)
theorem fd137_2 : FieldT Try.prog 137 2 2 := FieldT.mk (k := 1) Try.underlying137 rfl rfl (by kernel_rfl) (by decide)
theorem fd137_3 : FieldT Try.prog 137 3 3 := FieldT.mk (k := 1) Try.underlying137 rfl rfl (by kernel_rfl) (by decide)
theorem fd50_0 : FieldT Try.prog 50 0 0 := FieldT.mk (k := 1) Try.underlying50 rfl rfl (by kernel_rfl) (by decide)
theorem fd50_1 : FieldT Try.prog 50 1 1 := FieldT.mk (k := 1) Try.underlying50 rfl rfl (by kernel_rfl) (by decide)
theorem fd50_2 : FieldT Try.prog 50 2 2 := FieldT.mk (k := 1) Try.underlying50 rfl rfl (by kernel_rfl) (by decide)
theorem fd50_3 : FieldT Try.prog 50 3 3 := FieldT.mk (k := 1) Try.underlying50 rfl rfl (by kernel_rfl) (by decide)
theorem fd50_4 : FieldT Try.prog 50 4 4 := FieldT.mk (k := 1) Try.underlying50 rfl rfl (by kernel_rfl) (by decide)
theorem el137 : ElemT Try.prog 137 4 32 := ElemT.mk (z := (.agg #[(.int .i64 (0)), (.int .i64 (0)), (.int .i64 (0)), (.int .i64 (0))])) (by kernel_rfl) rfl
theorem el3 : ElemT Try.prog 3 1 8 := ElemT.mk (z := (.int .i64 (0))) (by kernel_rfl) rfl
theorem el131 : ElemT Try.prog 131 2 16 := ElemT.mk (z := (.agg #[(.int .i64 (0)), (.int .i64 (0))])) (by kernel_rfl) rfl
theorem fol : Try.prog.follows .mixedOrders = true := by kernel_rfl
theorem eq131 : EqT Try.prog 131 GPoint := by
  refine ⟨Try.eqGuardType131, ?_⟩
  intro a b w
  obtain ⟨a0, a1⟩ := a
  obtain ⟨b0, b1⟩ := b
  have hs : Try.prog.underlying 131 = some (.struct (Try.prog.fieldsOf 131)) := by kernel_rfl
  rw [run_equalIn_agg w 9999 131 _ _ hs Try.stoodInHeld131]
  simp only [Program.fieldsOf, Try.underlying131]
  simp [Op.eqFields, Flat.cells, part, Try.isAgg3, run_equalIn_int _ _ _ _ _ _ _ Try.underlying3]
  cases h0 : decide (a0 = b0) <;> cases h1 : decide (a1 = b1) <;> simp_all
theorem ck131 : ∀ (n : Nat) (k : GPoint) (b : Bool) (w : World), (Instr.checkKey b (n + 1 + 1) 131 (.agg (Flat.cells k).toArray)).run Try.prog w = .ok () w := by
  intro n k b w
  obtain ⟨k0, k1⟩ := k
  simp only [Instr.checkKey, Sem.run_bind, run_underlying Try.underlying131, Result.andThen_ok]
  simp [Flat.cells, part, Try.isAgg3]
theorem st131 : ∀ (n : Nat) (k : GPoint), Instr.sameBits (n + 1) (.agg (Flat.cells k).toArray) (.agg (Flat.cells k).toArray) = true := by
  intro n k
  obtain ⟨k0, k1⟩ := k
  simp [Instr.sameBits, Flat.cells]
theorem key131 : KeyT Try.prog 131 GPoint := KeyT.struct Try.underlying131 (fun k b w => ck131 9998 k b w) (fun a b w => eq131.2 a b w) (fun k => st131 9999 k)
theorem bd131_0_1 : ∀ (v0 : Int) (v1 : Int) (w : World), (Instr.build 131 #[(0, (.int .i64 v0)), (1, (.int .i64 v1))]).run Try.prog w = .ok (.agg #[(.int .i64 v0), (.int .i64 v1)]) w := by
  intro v0 v1 w
  simp [Instr.build, Try.zeroValue131, Try.runUnderlying131, Instr.fill, Try.sizeOf3, Value.cells]
theorem sc51 : ScalarT Try.prog 51 := ScalarT.mk Try.underlying51 rfl
theorem bd129_0 : ∀ (r : Nat) (w : World), (Instr.build 129 #[(0, .map (some r))]).run Try.prog w = .ok (.agg #[.map (some r), .slice none 0 0]) w := by
  intro r w
  simp [Instr.build, Try.zeroValue129, Try.runUnderlying129, Instr.fill, Try.sizeOf126, Try.sizeOf127, Value.cells]
theorem bd137_0_1_2_3 : ∀ (v0 : Int) (v1 : Int) (v2 : Int) (v3 : Int) (w : World), (Instr.build 137 #[(0, (.int .i64 v0)), (1, (.int .i64 v1)), (2, (.int .i64 v2)), (3, (.int .i64 v3))]).run Try.prog w = .ok (.agg #[(.int .i64 v0), (.int .i64 v1), (.int .i64 v2), (.int .i64 v3)]) w := by
  intro v0 v1 v2 v3 w
  simp [Instr.build, Try.zeroValue137, Try.runUnderlying137, Instr.fill, Try.sizeOf3, Value.cells]
theorem zel3 : ZElemT Try.prog 3 (0 : Int) 8 := ZElemT.mk (z := (.int .i64 (0))) (by kernel_rfl) rfl
theorem zel137 : ZElemT Try.prog 137 ((GEdge.mk 0 0 0 0) : GEdge) 32 := ZElemT.mk (z := (.agg #[(.int .i64 (0)), (.int .i64 (0)), (.int .i64 (0)), (.int .i64 (0))])) (by kernel_rfl) rfl
theorem ze22 : ZeroT Try.prog 22 (.slice none 0 0) := ZeroT.mk (by kernel_rfl)
theorem ze127 : ZeroT Try.prog 127 (.slice none 0 0) := ZeroT.mk (by kernel_rfl)
theorem zel4 : ZElemT Try.prog 4 (false : Bool) 1 := ZElemT.mk (z := (.bool false)) (by kernel_rfl) rfl
theorem ze56 : ZeroT Try.prog 56 (.agg #[(.int .i64 (0)), (.int .i64 (0))]) := ZeroT.mk (by kernel_rfl)
theorem bd56_ : ∀  (w : World), (Instr.build 56 #[]).run Try.prog w = .ok (.agg #[(.int .i64 0), (.int .i64 0)]) w := by
  intro  w
  simp [Instr.build, Try.zeroValue56, Try.runUnderlying56, Instr.fill, Try.sizeOf3, Value.cells]
theorem sz56 : SizeT Try.prog 56 2 := SizeT.mk (by kernel_rfl)
theorem ag56 : AggT Try.prog 56 2 := AggT.mk Try.underlying56 rfl (by kernel_rfl)
theorem bd56_0_1 : ∀ (v0 : Int) (v1 : Int) (w : World), (Instr.build 56 #[(0, (.int .i64 v0)), (1, (.int .i64 v1))]).run Try.prog w = .ok (.agg #[(.int .i64 v0), (.int .i64 v1)]) w := by
  intro v0 v1 w
  simp [Instr.build, Try.zeroValue56, Try.runUnderlying56, Instr.fill, Try.sizeOf3, Value.cells]
theorem fd102_0 : FieldT Try.prog 102 0 0 := FieldT.mk (k := 1) Try.underlying102 rfl rfl (by kernel_rfl) (by decide)
theorem fd102_1 : FieldT Try.prog 102 1 1 := FieldT.mk (k := 1) Try.underlying102 rfl rfl (by kernel_rfl) (by decide)
theorem fd39_1 : FieldT Try.prog 39 1 1 := FieldT.mk (k := 1) Try.underlying39 rfl rfl (by kernel_rfl) (by decide)
theorem fd39_0 : FieldT Try.prog 39 0 0 := FieldT.mk (k := 1) Try.underlying39 rfl rfl (by kernel_rfl) (by decide)
theorem ze39 : ZeroT Try.prog 39 (.agg #[(.int .i64 (0)), (.int .i64 (0))]) := ZeroT.mk (by kernel_rfl)
theorem bd102_0_1 : ∀ (v0 : Int) (v1 : Int) (w : World), (Instr.build 102 #[(0, (.int .i64 v0)), (1, (.int .i64 v1))]).run Try.prog w = .ok (.agg #[(.int .i64 v0), (.int .i64 v1)]) w := by
  intro v0 v1 w
  simp [Instr.build, Try.zeroValue102, Try.runUnderlying102, Instr.fill, Try.sizeOf3, Value.cells]
theorem ze102 : ZeroT Try.prog 102 (.agg #[(.int .i64 (0)), (.int .i64 (0))]) := ZeroT.mk (by kernel_rfl)
theorem sz102 : SizeT Try.prog 102 2 := SizeT.mk (by kernel_rfl)
theorem bd39_0_1 : ∀ (v0 : Int) (v1 : Int) (w : World), (Instr.build 39 #[(0, (.int .i64 v0)), (1, (.int .i64 v1))]).run Try.prog w = .ok (.agg #[(.int .i64 v0), (.int .i64 v1)]) w := by
  intro v0 v1 w
  simp [Instr.build, Try.zeroValue39, Try.runUnderlying39, Instr.fill, Try.sizeOf3, Value.cells]
theorem sz39 : SizeT Try.prog 39 2 := SizeT.mk (by kernel_rfl)
theorem ag39 : AggT Try.prog 39 2 := AggT.mk Try.underlying39 rfl (by kernel_rfl)
theorem bd39_ : ∀  (w : World), (Instr.build 39 #[]).run Try.prog w = .ok (.agg #[(.int .i64 0), (.int .i64 0)]) w := by
  intro  w
  simp [Instr.build, Try.zeroValue39, Try.runUnderlying39, Instr.fill, Try.sizeOf3, Value.cells]
theorem bd50_0_1_3_4 : ∀ (v0 : Int) (v1 : Int) (v3 : Int) (v4 : Int) (w : World), (Instr.build 50 #[(0, (.int .i64 v0)), (1, (.int .i64 v1)), (3, (.int .i64 v3)), (4, (.int .i64 v4))]).run Try.prog w = .ok (.agg #[(.int .i64 v0), (.int .i64 v1), (.int .i64 0), (.int .i64 v3), (.int .i64 v4)]) w := by
  intro v0 v1 v3 v4 w
  simp [Instr.build, Try.zeroValue50, Try.runUnderlying50, Instr.fill, Try.sizeOf3, Value.cells]
theorem el50 : ElemT Try.prog 50 5 40 := ElemT.mk (z := (.agg #[(.int .i64 (0)), (.int .i64 (0)), (.int .i64 (0)), (.int .i64 (0)), (.int .i64 (0))])) (by kernel_rfl) rfl
theorem bd53_0_1 : ∀ (y0 : Option Addr) (n0 m0 : Nat) (y1 : Option Addr) (n1 m1 : Nat) (w : World), (Instr.build 53 #[(0, .slice y0 n0 m0), (1, .slice y1 n1 m1)]).run Try.prog w = .ok (.agg #[.slice y0 n0 m0, .slice y1 n1 m1]) w := by
  intro y0 n0 m0 y1 n1 m1 w
  simp [Instr.build, Try.zeroValue53, Try.runUnderlying53, Instr.fill, Try.sizeOf22, Try.sizeOf51, Value.cells]
theorem ze53 : ZeroT Try.prog 53 (.agg #[(.slice none 0 0), (.slice none 0 0)]) := ZeroT.mk (by kernel_rfl)
theorem sz53 : SizeT Try.prog 53 2 := SizeT.mk (by kernel_rfl)
theorem eq56 : EqT Try.prog 56 GSpan := by
  refine ⟨Try.eqGuardType56, ?_⟩
  intro a b w
  obtain ⟨a0, a1⟩ := a
  obtain ⟨b0, b1⟩ := b
  have hs : Try.prog.underlying 56 = some (.struct (Try.prog.fieldsOf 56)) := by kernel_rfl
  rw [run_equalIn_agg w 9999 56 _ _ hs Try.stoodInHeld56]
  simp only [Program.fieldsOf, Try.underlying56]
  simp [Op.eqFields, Flat.cells, part, Try.isAgg3, run_equalIn_int _ _ _ _ _ _ _ Try.underlying3]
  cases h0 : decide (a0 = b0) <;> cases h1 : decide (a1 = b1) <;> simp_all
theorem eq39 : EqT Try.prog 39 GRatio := by
  refine ⟨Try.eqGuardType39, ?_⟩
  intro a b w
  obtain ⟨a0, a1⟩ := a
  obtain ⟨b0, b1⟩ := b
  have hs : Try.prog.underlying 39 = some (.struct (Try.prog.fieldsOf 39)) := by kernel_rfl
  rw [run_equalIn_agg w 9999 39 _ _ hs Try.stoodInHeld39]
  simp only [Program.fieldsOf, Try.underlying39]
  simp [Op.eqFields, Flat.cells, part, Try.isAgg3, run_equalIn_int _ _ _ _ _ _ _ Try.underlying3]
  cases h0 : decide (a0 = b0) <;> cases h1 : decide (a1 = b1) <;> simp_all
theorem fd24_0 : FieldT Try.prog 24 0 0 := FieldT.mk (k := 1) Try.underlying24 rfl rfl (by kernel_rfl) (by decide)
theorem fd24_1 : FieldT Try.prog 24 1 1 := FieldT.mk (k := 1) Try.underlying24 rfl rfl (by kernel_rfl) (by decide)
theorem sz5 : SizeT Try.prog 5 1 := SizeT.mk (by kernel_rfl)
theorem sc5 : ScalarT Try.prog 5 := ScalarT.mk Try.underlying5 rfl
theorem fd29_0 : FieldT Try.prog 29 0 0 := FieldT.mk (k := 1) Try.underlying29 rfl rfl (by kernel_rfl) (by decide)
theorem sc9 : ScalarT Try.prog 9 := ScalarT.mk Try.underlying9 rfl
theorem fd29_1 : FieldT Try.prog 29 1 1 := FieldT.mk (k := 1) Try.underlying29 rfl rfl (by kernel_rfl) (by decide)
theorem fd29_2 : FieldT Try.prog 29 2 2 := FieldT.mk (k := 1) Try.underlying29 rfl rfl (by kernel_rfl) (by decide)
theorem fd29_3 : FieldT Try.prog 29 3 3 := FieldT.mk (k := 1) Try.underlying29 rfl rfl (by kernel_rfl) (by decide)
theorem ze31 : ZeroT Try.prog 31 (.agg #[(.string ByteArray.empty), (.int .i64 (0)), (.int .i64 (0)), (.int .i64 (0)), (.slice none 0 0)]) := ZeroT.mk (by kernel_rfl)
theorem ag24 : AggT Try.prog 24 2 := AggT.mk Try.underlying24 rfl (by kernel_rfl)
theorem ag29 : AggT Try.prog 29 4 := AggT.mk Try.underlying29 rfl (by kernel_rfl)
theorem bd31_ : ∀  (w : World), (Instr.build 31 #[]).run Try.prog w = .ok (.agg #[(.string ByteArray.empty), (.int .i64 0), (.int .i64 0), (.int .i64 0), (.slice none 0 0)]) w := by
  intro  w
  simp [Instr.build, Try.zeroValue31, Try.runUnderlying31, Instr.fill, Try.sizeOf22, Try.sizeOf29, Value.cells] <;> rfl
theorem sz31 : SizeT Try.prog 31 5 := SizeT.mk (by kernel_rfl)
theorem bd31_0 : ∀ (v0 : GStar) (w : World), (Instr.build 31 #[(0, (.agg (Flat.cells v0).toArray))]).run Try.prog w = .ok (.agg #[.string v0.Name, .int .i64 v0.Ascension, .int .i64 v0.Shift, .int .i64 v0.Slow, (.slice none 0 0)]) w := by
  intro v0 w
  simp [Instr.build, Try.zeroValue31, Try.runUnderlying31, Instr.fill, Try.sizeOf22, Try.sizeOf29, Value.cells, Flat.cells]
theorem fd31_1 : FieldT Try.prog 31 1 4 := FieldT.mk (k := 1) Try.underlying31 rfl rfl (by kernel_rfl) (by decide)
theorem ag31 : AggT Try.prog 31 5 := AggT.mk Try.underlying31 rfl (by kernel_rfl)
theorem fd31_0 : FieldT Try.prog 31 0 0 := FieldT.mk (k := 4) Try.underlying31 rfl rfl (by kernel_rfl) (by decide)
theorem bd72_0_1_2 : ∀ (v0 : Int) (v1 : Int) (v2 : Int) (w : World), (Instr.build 72 #[(0, (.int .i64 v0)), (1, (.int .i64 v1)), (2, (.int .i64 v2))]).run Try.prog w = .ok (.agg #[(.int .i64 v0), (.int .i64 v1), (.int .i64 v2)]) w := by
  intro v0 v1 v2 w
  simp [Instr.build, Try.zeroValue72, Try.runUnderlying72, Instr.fill, Try.sizeOf3, Value.cells]
theorem el72 : ElemT Try.prog 72 3 24 := ElemT.mk (z := (.agg #[(.int .i64 (0)), (.int .i64 (0)), (.int .i64 (0))])) (by kernel_rfl) rfl
theorem sz72 : SizeT Try.prog 72 3 := SizeT.mk (by kernel_rfl)
theorem ag72 : AggT Try.prog 72 3 := AggT.mk Try.underlying72 rfl (by kernel_rfl)
theorem ze72 : ZeroT Try.prog 72 (.agg #[(.int .i64 (0)), (.int .i64 (0)), (.int .i64 (0))]) := ZeroT.mk (by kernel_rfl)
theorem fd72_0 : FieldT Try.prog 72 0 0 := FieldT.mk (k := 1) Try.underlying72 rfl rfl (by kernel_rfl) (by decide)
theorem fd72_1 : FieldT Try.prog 72 1 1 := FieldT.mk (k := 1) Try.underlying72 rfl rfl (by kernel_rfl) (by decide)
theorem fd72_2 : FieldT Try.prog 72 2 2 := FieldT.mk (k := 1) Try.underlying72 rfl rfl (by kernel_rfl) (by decide)
theorem ze77 : ZeroT Try.prog 77 (.agg #[(.int .i64 (0)), (.int .i64 (0))]) := ZeroT.mk (by kernel_rfl)
theorem bd77_0_1 : ∀ (v0 : Int) (v1 : Int) (w : World), (Instr.build 77 #[(0, (.int .i64 v0)), (1, (.int .i64 v1))]).run Try.prog w = .ok (.agg #[(.int .i64 v0), (.int .i64 v1)]) w := by
  intro v0 v1 w
  simp [Instr.build, Try.zeroValue77, Try.runUnderlying77, Instr.fill, Try.sizeOf3, Value.cells]
theorem sz77 : SizeT Try.prog 77 2 := SizeT.mk (by kernel_rfl)
theorem ag77 : AggT Try.prog 77 2 := AggT.mk Try.underlying77 rfl (by kernel_rfl)
theorem eq77 : EqT Try.prog 77 GFraction := by
  refine ⟨Try.eqGuardType77, ?_⟩
  intro a b w
  obtain ⟨a0, a1⟩ := a
  obtain ⟨b0, b1⟩ := b
  have hs : Try.prog.underlying 77 = some (.struct (Try.prog.fieldsOf 77)) := by kernel_rfl
  rw [run_equalIn_agg w 9999 77 _ _ hs Try.stoodInHeld77]
  simp only [Program.fieldsOf, Try.underlying77]
  simp [Op.eqFields, Flat.cells, part, Try.isAgg3, run_equalIn_int _ _ _ _ _ _ _ Try.underlying3]
  cases h0 : decide (a0 = b0) <;> cases h1 : decide (a1 = b1) <;> simp_all
theorem fd77_0 : FieldT Try.prog 77 0 0 := FieldT.mk (k := 1) Try.underlying77 rfl rfl (by kernel_rfl) (by decide)
theorem fd77_1 : FieldT Try.prog 77 1 1 := FieldT.mk (k := 1) Try.underlying77 rfl rfl (by kernel_rfl) (by decide)
theorem fd79_0 : FieldT Try.prog 79 0 0 := FieldT.mk (k := 2) Try.underlying79 rfl rfl (by kernel_rfl) (by decide)
theorem fd79_1 : FieldT Try.prog 79 1 2 := FieldT.mk (k := 2) Try.underlying79 rfl rfl (by kernel_rfl) (by decide)
theorem fd79_2 : FieldT Try.prog 79 2 4 := FieldT.mk (k := 1) Try.underlying79 rfl rfl (by kernel_rfl) (by decide)
theorem ze79 : ZeroT Try.prog 79 (.agg #[(.int .i64 (0)), (.int .i64 (0)), (.int .i64 (0)), (.int .i64 (0)), (.bool false)]) := ZeroT.mk (by kernel_rfl)
theorem bd79_2 : ∀ (v2 : Bool) (w : World), (Instr.build 79 #[(2, (.bool v2))]).run Try.prog w = .ok (.agg #[(.int .i64 0), (.int .i64 0), (.int .i64 0), (.int .i64 0), (.bool v2)]) w := by
  intro v2 w
  simp [Instr.build, Try.zeroValue79, Try.runUnderlying79, Instr.fill, Try.sizeOf4, Try.sizeOf77, Value.cells]
theorem sz79 : SizeT Try.prog 79 5 := SizeT.mk (by kernel_rfl)
theorem ag79 : AggT Try.prog 79 5 := AggT.mk Try.underlying79 rfl (by kernel_rfl)
theorem ze89 : ZeroT Try.prog 89 (.agg #[(.int .i64 (0)), (.int .u64 (0))]) := ZeroT.mk (by kernel_rfl)
theorem fd89_1 : FieldT Try.prog 89 1 1 := FieldT.mk (k := 1) Try.underlying89 rfl rfl (by kernel_rfl) (by decide)
theorem sc87 : ScalarT Try.prog 87 := ScalarT.mk Try.underlying87 rfl
theorem fd89_0 : FieldT Try.prog 89 0 0 := FieldT.mk (k := 1) Try.underlying89 rfl rfl (by kernel_rfl) (by decide)
theorem sc2 : ScalarT Try.prog 2 := ScalarT.mk Try.underlying2 rfl
theorem bd89_0_1 : ∀ (v0 : Int) (v1 : Int) (w : World), (Instr.build 89 #[(0, (.int .i64 v0)), (1, (.int .u64 v1))]).run Try.prog w = .ok (.agg #[(.int .i64 v0), (.int .u64 v1)]) w := by
  intro v0 v1 w
  simp [Instr.build, Try.zeroValue89, Try.runUnderlying89, Instr.fill, Try.sizeOf2, Try.sizeOf87, Value.cells]
theorem sz89 : SizeT Try.prog 89 2 := SizeT.mk (by kernel_rfl)
theorem ag89 : AggT Try.prog 89 2 := AggT.mk Try.underlying89 rfl (by kernel_rfl)
theorem bd89_ : ∀  (w : World), (Instr.build 89 #[]).run Try.prog w = .ok (.agg #[(.int .i64 0), (.int .u64 0)]) w := by
  intro  w
  simp [Instr.build, Try.zeroValue89, Try.runUnderlying89, Instr.fill, Try.sizeOf2, Try.sizeOf87, Value.cells]
theorem bd92_a : ∀ (v0 v1 : GWide) (w : World), (Instr.build 92 #[(0, .agg (Flat.cells v0).toArray), (1, .agg (Flat.cells v1).toArray)]).run Try.prog w = .ok (.agg (Flat.cells (GArr2GWide.mk v0 v1)).toArray) w := by
  intro v0 v1 w
  kernel_rfl
theorem ze92 : ZeroT Try.prog 92 (.agg #[(.int .i64 (0)), (.int .u64 (0)), (.int .i64 (0)), (.int .u64 (0))]) := ZeroT.mk (by kernel_rfl)
theorem sz92 : SizeT Try.prog 92 4 := SizeT.mk (by kernel_rfl)
theorem sz29 : SizeT Try.prog 29 4 := SizeT.mk (by kernel_rfl)
theorem ze29 : ZeroT Try.prog 29 (.agg #[(.string ByteArray.empty), (.int .i64 (0)), (.int .i64 (0)), (.int .i64 (0))]) := ZeroT.mk (by kernel_rfl)
theorem el31 : ElemT Try.prog 31 5 64 := ElemT.mk (z := (.agg #[(.string ByteArray.empty), (.int .i64 (0)), (.int .i64 (0)), (.int .i64 (0)), (.slice none 0 0)])) (by kernel_rfl) rfl
def numItems (bg br rm : Nat) (vs : Value) (kv : List (GPoint × Int)) : List Fw.Item := [boxI bg 104 [.pointer (some ⟨br, 0, none⟩)], boxI br 129 [.map (some rm), vs], mapI rm kv]

theorem c_num {w0 : World} (bg br rm : Nat) (vs : Value) (kv : List (GPoint × Int)) (p : GPoint)
  (H0 : InvD (fpOf (numItems bg br rm vs kv)) w0 w0 (numItems bg br rm vs kv)) :
  Calls Try.prog 64 #[.agg (Flat.cells p).toArray, .pointer (some ⟨bg, 0, none⟩)] w0 fun e w' => ∃ v L1, e = .returned v ∧ InvD (fpOf (numItems bg br rm vs kv)) w0 w' L1 ∧ (v = .int .i64 (sight_num kv p).1 ∧ L1 = numItems bg br rm vs (sight_num kv p).2) := by
 refine calls_of_W Try.func64 rfl Try.ntmps64 (Nat.le_of_ble_eq_true rfl) ?_
 have H : InvD (fpOf (numItems bg br rm vs kv)) w0 w0 [boxI bg 104 [.pointer (some ⟨br, 0, none⟩)], boxI br 129 [.map (some rm), vs], mapI rm kv] := H0
 refine W.seq ?_
 refine W.region ?_
 refine O.box [.int .i64 p.clock, .int .i64 p.at_] H rfl rfl rfl rfl ?_
 intro b1 w1 H hb1
 refine O.assign (v := .int .i64 0) rfl rfl rfl ?_
 refine WL.nil ?_
 refine W.seq ?_
 refine W.drawN 10 (fun f => f 1 = .pointer (some ⟨bg, 0, none⟩) ∧ f 2 = .pointer (some ⟨b1, 0, none⟩) ∧ f 4 = .int .i64 ((mget kv p).getD 0) ∧ f 14 = .bool (mget kv p).isSome) fol (by kernel_rfl) ?_ ?_
 ·
  refine PL.of (fun _ w8 _ hx => by have H := H.ext hx; exact O.load (q := ⟨bg, 0, none⟩) (v := .pointer (some ⟨br, 0, none⟩)) sc104 rfl rfl rfl (H.cell 0 rfl 0 _ rfl) (WL.nil ⟨rfl, hx⟩)) ?_
  refine PL.of (fun _ w8 _ hx => O.nilCheck rfl rfl rfl (WL.nil ⟨rfl, hx⟩)) ?_
  refine PL.of (fun _ w8 _ hx => O.fieldAddr fd129_0 rfl rfl rfl (WL.nil ⟨rfl, hx⟩)) ?_
  refine PL.of (fun _ w8 _ hx => by have H := H.ext hx; exact O.load (v := .map (some rm)) sc126 rfl rfl rfl (H.cell 1 rfl 0 _ rfl) (WL.nil ⟨rfl, hx⟩)) ?_
  refine PL.of (fun _ w8 _ hx => by have H := H.ext hx; exact O.loadA [.int .i64 p.clock, .int .i64 p.at_] ag131 rfl rfl rfl rfl (H.cell 3 rfl) (WL.nil ⟨rfl, hx⟩)) ?_
  refine PL.of (fun _ w8 _ hx => by have H := H.ext hx; exact O.lookup2 (z := 0) p Try.underlying126 key131 ze3 (H.map 2 rfl) rfl rfl rfl rfl (WL.nil ⟨rfl, hx⟩)) ?_
  refine PL.of (fun _ w8 _ hx => O.move (v := .tuple #[.int .i64 ((mget kv p).getD 0), .bool (mget kv p).isSome]) rfl rfl rfl (WL.nil ⟨rfl, hx⟩)) ?_
  refine PL.of (fun _ w8 _ hx => O.extract (v := .int .i64 ((mget kv p).getD 0)) rfl rfl rfl rfl (WL.nil ⟨rfl, hx⟩)) ?_
  refine PL.of (fun _ w8 _ hx => O.extract (v := .bool (mget kv p).isSome) rfl rfl rfl rfl (WL.nil ⟨rfl, hx⟩)) ?_
  refine PL.of (fun _ w8 _ hx => O.assign (v := .int .i64 ((mget kv p).getD 0)) rfl rfl rfl (WL.nil ⟨rfl, hx⟩)) ?_
  exact ⟨rfl, rfl, rfl, rfl⟩
 ·
  rintro f w ⟨hf1, hf2, hf4, hf14⟩ hmd hx
  have H := H.ext hx
  obtain ⟨u1, rfl⟩ := up4 hf1 hf2 hf4 hf14
  refine O.assign (v := .bool (mget kv p).isSome) rfl rfl rfl ?_
  refine WL.nil ?_
  refine W.seq ?_
  refine W.seq ?_
  refine W.region ?_
  refine O.move (v := .bool (mget kv p).isSome) rfl rfl rfl ?_
  refine O.not rfl rfl rfl ?_
  refine WL.nil ?_
  cases hg : mget kv p with
  | some n =>
   refine W.cond_false rfl ?_
   refine W.skip ?_
   refine W.seq ?_
   refine W.region ?_
   refine O.move (v := .int .i64 n) rfl rfl rfl ?_
   refine O.assign (v := .int .i64 n) rfl rfl rfl ?_
   refine WL.nil ?_
   refine W.ret ?_
   refine ends1 Try.results64 rfl ⟨_, _, rfl, H.keep [0, 1, 2] (numItems bg br rm vs kv) rfl (by decide), ?_⟩
   unfold sight_num
   rw [hg]
   exact ⟨rfl, rfl⟩
  | none =>
   refine W.cond_true rfl ?_
   refine W.seq ?_
   refine W.region ?_
   refine O.load (q := ⟨bg, 0, none⟩) (v := .pointer (some ⟨br, 0, none⟩)) sc104 rfl rfl rfl (H.cell 0 rfl 0 _ rfl) ?_
   refine O.nilCheck rfl rfl rfl ?_
   refine O.fieldAddr fd129_0 rfl rfl rfl ?_
   refine O.load (v := .map (some rm)) sc126 rfl rfl rfl (H.cell 1 rfl 0 _ rfl) ?_
   refine O.lenM (kv := kv) Try.underlying126 (H.map 2 rfl) rfl rfl rfl ?_
   refine O.assign (v := .int .i64 (kv.length : Int)) rfl rfl rfl ?_
   refine WL.nil ?_
   refine W.drawN 6 (fun f => f 25 = .map (some rm) ∧ f 26 = .agg (Flat.cells p).toArray ∧ f 27 = .int .i64 (kv.length : Int) ∧ f 4 = .int .i64 (kv.length : Int)) fol (by kernel_rfl) ?_ ?_
   ·
    refine PL.of (fun _ w8 _ hx => by have H := H.ext hx; exact O.load (q := ⟨bg, 0, none⟩) (v := .pointer (some ⟨br, 0, none⟩)) sc104 rfl rfl rfl (H.cell 0 rfl 0 _ rfl) (WL.nil ⟨rfl, hx⟩)) ?_
    refine PL.of (fun _ w8 _ hx => O.nilCheck rfl rfl rfl (WL.nil ⟨rfl, hx⟩)) ?_
    refine PL.of (fun _ w8 _ hx => O.fieldAddr fd129_0 rfl rfl rfl (WL.nil ⟨rfl, hx⟩)) ?_
    refine PL.of (fun _ w8 _ hx => by have H := H.ext hx; exact O.load (v := .map (some rm)) sc126 rfl rfl rfl (H.cell 1 rfl 0 _ rfl) (WL.nil ⟨rfl, hx⟩)) ?_
    refine PL.of (fun _ w8 _ hx => by have H := H.ext hx; exact O.loadA [.int .i64 p.clock, .int .i64 p.at_] ag131 rfl rfl rfl rfl (H.cell 3 rfl) (WL.nil ⟨rfl, hx⟩)) ?_
    refine PL.of (fun _ w8 _ hx => O.move (v := .int .i64 (kv.length : Int)) rfl rfl rfl (WL.nil ⟨rfl, hx⟩)) ?_
    exact ⟨rfl, rfl, rfl, rfl⟩
   ·
    rintro f w ⟨hf25, hf26, hf27, hf4⟩ hmd hx
    have H := H.ext hx
    obtain ⟨u1, rfl⟩ := up4 hf25 hf26 hf27 hf4
    refine O.mapUpdate 2 p (kv.length : Int) Try.underlying126 key131 H rfl rfl rfl rfl rfl ?_
    intro w4 H
    refine WL.nil ?_
    refine W.seq ?_
    refine W.region ?_
    refine O.move (v := .int .i64 (kv.length : Int)) rfl rfl rfl ?_
    refine O.assign (v := .int .i64 (kv.length : Int)) rfl rfl rfl ?_
    refine WL.nil ?_
    refine W.ret ?_
    refine ends1 Try.results64 rfl ⟨_, _, rfl, H.keep [0, 1, 2] (numItems bg br rm vs (mput kv p (kv.length : Int))) rfl (by decide), ?_⟩
    unfold sight_num
    rw [hg]
    exact ⟨rfl, rfl⟩

theorem c_sight_pointOf {w0 : World} (a0 : Int) (a1 : Int) {r0 : GPoint} (hm : sight_pointOf a0 a1 = some r0) :
  Calls Try.prog 70 #[(.int .i64 a0), (.int .i64 a1)] w0 (Ret w0 fun _ v => v = (.agg (Flat.cells r0).toArray)) := by
 unfold sight_pointOf at hm
 refine calls_of_W Try.func70 rfl Try.ntmps70 (Nat.le_of_ble_eq_true rfl) ?_
 have H := Inv.start (w := w0)
 refine W.seq ?_
 refine W.region ?_
 refine O.alloc [(.int .i64 0), (.int .i64 0)] ze131 H rfl rfl rfl ?_
 intro b1 w1 H hb1
 refine WL.nil ?_
 refine W.seq ?_
 refine W.seq ?_
 refine W.region ?_
 refine O.move (v := (.int .i64 a0)) rfl rfl rfl ?_
 refine O.eql rfl rfl rfl rfl ?_
 refine WL.nil ?_
 obtain ⟨s1, hm1, hm⟩ := bind_some hm
 refine W.via (fun f w => f 0 = (.int .i64 a0) ∧ f 1 = (.int .i64 s1) ∧ f 4 = (.pointer (some ⟨b1, 0, none⟩)) ∧ Inv w0 w [boxI b1 131 [(.int .i64 0), (.int .i64 0)]]) ?_ ?_
 ·
  rcases ite_some hm1 with ⟨hc1, hm1⟩ | ⟨hc1, hm1⟩
  ·
   refine W.cond_true (congrArg Value.bool hc1) ?_
   refine W.region ?_
   refine O.assign (v := (.int .i64 0)) rfl rfl rfl ?_
   refine WL.nil ?_
   have hq : 0 = s1 := Option.some.inj (show some 0 = some s1 from hm1)
   subst hq
   exact ⟨rfl, rfl, rfl, H⟩
  ·
   refine W.cond_false (congrArg Value.bool hc1) ?_
   refine W.skip ?_
   have hq : a1 = s1 := Option.some.inj (show some a1 = some s1 from hm1)
   subst hq
   exact ⟨rfl, rfl, rfl, H⟩
 ·
  rintro f w ⟨hf0, hf1, hf4, H⟩
  obtain ⟨u1, rfl⟩ := up3 hf0 hf1 hf4
  refine W.seq ?_
  refine W.region ?_
  refine O.move (v := (.int .i64 a0)) rfl rfl rfl ?_
  refine O.move (v := (.int .i64 s1)) rfl rfl rfl ?_
  refine O.build (v := (.agg (Flat.cells (GPoint.mk a0 s1)).toArray)) (fun w => bd131_0_1 _ _ w) rfl rfl rfl ?_
  refine O.store 0 0 [(.int .i64 a0), (.int .i64 s1)] [(.int .i64 a0), (.int .i64 s1)] sz131 H rfl rfl rfl rfl rfl rfl ⟨⟨rfl, rfl⟩, rfl⟩ (one_cons rfl (one_cons rfl one_nil)) ?_
  intro w2 H
  refine WL.nil ?_
  refine W.ret ?_
  have hq : (GPoint.mk a0 s1) = r0 := Option.some.inj (show some (GPoint.mk a0 s1) = some r0 from hm)
  subst hq
  exact ends1 Try.results70 ⟨_, rfl, run_loadVar_agg ag131 rfl (H.cell 0 rfl)⟩ ⟨_, rfl, H.base, rfl⟩

set_option maxRecDepth 20000 in
theorem c_sight_taken {w0 : World} (va0_0 : Value) (va0_1 : Value) (a0 : GNet) (ha0_0 : SliceR w0 va0_0 a0.Rates) (ha0_1 : SliceR w0 va0_1 a0.Sights) (a1 : Int) {r0 : GPoint} {r1 : GPoint} {r2 : Int} (hm : sight_taken a0 a1 = some (r0, r1, r2)) :
  Calls Try.prog 65 #[(.agg #[va0_0, va0_1]), (.int .i64 a1)] w0 (Ret w0 fun _ v => v = .tuple #[(.agg (Flat.cells r0).toArray), (.agg (Flat.cells r1).toArray), (.int .i64 r2)]) := by
 unfold sight_taken at hm
 refine calls_of_W Try.func65 rfl Try.ntmps65 (Nat.le_of_ble_eq_true rfl) ?_
 have H := Inv.start (w := w0)
 refine W.seq ?_
 refine W.region ?_
 refine O.box [va0_0, va0_1] H rfl rfl rfl rfl ?_
 intro b1 w1 H hb1
 refine O.alloc [(.int .i64 0), (.int .i64 0)] ze131 H rfl rfl rfl ?_
 intro b2 w2 H hb2
 refine O.alloc [(.int .i64 0), (.int .i64 0)] ze131 H rfl rfl rfl ?_
 intro b3 w3 H hb3
 refine O.assign (v := (.int .i64 0)) rfl rfl rfl ?_
 refine WL.nil ?_
 refine W.seq ?_
 refine W.region ?_
 refine O.fieldAddr fd53_1 rfl rfl rfl ?_
 refine O.load sc51 rfl rfl rfl (H.cell 0 rfl 1 _ rfl) ?_
 refine O.move (v := (.int .i64 a1)) rfl rfl rfl ?_
 obtain ⟨t1, ht1, hm⟩ := bind_some hm
 refine O.quo rfl rfl rfl rfl ht1 ?_
 obtain ⟨x1, hx1, hm⟩ := bind_some hm
 obtain ⟨p1, hp1, hrp1⟩ := fix_indexAddr Try.underlying51 sz50 ha0_1 hx1
 refine hrp1 rfl rfl rfl rfl ?_
 refine O.loadA [(.int .i64 x1.At), (.int .i64 x1.A), (.int .i64 x1.B), (.int .i64 x1.Lo), (.int .i64 x1.Hi)] ag50 rfl rfl rfl rfl ((hp1.mono H.base).flat) ?_
 refine O.alloc [(.int .i64 0), (.int .i64 0), (.int .i64 0), (.int .i64 0), (.int .i64 0)] ze50 H rfl rfl rfl ?_
 intro b4 w4 H hb4
 refine O.store 3 0 [(.int .i64 x1.At), (.int .i64 x1.A), (.int .i64 x1.B), (.int .i64 x1.Lo), (.int .i64 x1.Hi)] [(.int .i64 x1.At), (.int .i64 x1.A), (.int .i64 x1.B), (.int .i64 x1.Lo), (.int .i64 x1.Hi)] sz50 H rfl rfl rfl rfl rfl rfl ⟨⟨rfl, rfl⟩, rfl⟩ (one_cons rfl (one_cons rfl (one_cons rfl (one_cons rfl (one_cons rfl one_nil))))) ?_
 intro w5 H
 refine WL.nil ?_
 refine W.seq ?_
 refine W.seq ?_
 refine W.region ?_
 refine O.move (v := (.int .i64 a1)) rfl rfl rfl ?_
 obtain ⟨t2, ht2, hm⟩ := bind_some hm
 refine O.rem rfl rfl rfl rfl ht2 ?_
 refine O.eql rfl rfl rfl rfl ?_
 refine WL.nil ?_
 rcases ite_some hm with ⟨hc1, hm⟩ | ⟨hc1, hm⟩
 ·
  refine W.cond_true (congrArg Value.bool hc1) ?_
  refine W.seq ?_
  obtain ⟨t3, hy1, hm⟩ := bind_some hm
  obtain ⟨t4, hy2, hm⟩ := bind_some hm
  refine W.drawD 14 [[], [0], [], [2], [0, 1, 2, 3], [], [5], [], [7], [0, 1, 2, 3, 4, 5, 6, 7, 8], [], [10], [0, 1, 2, 3, 4, 5, 6, 7, 8, 9], [0, 1, 2, 3, 4, 5, 6, 7, 8, 9, 12]] [[1, 4, 9, 12, 13], [4, 9, 12, 13], [3, 4, 9, 12, 13], [4, 9, 12, 13], [9, 12, 13], [6, 9, 12, 13], [9, 12, 13], [8, 9, 12, 13], [9, 12, 13], [12, 13], [11], [], [13], []] (fun S f w => Inv w0 w [] ∧ f 4 = (.pointer (some ⟨b2, 0, none⟩)) ∧ f 5 = (.pointer (some ⟨b3, 0, none⟩)) ∧ f 7 = (.pointer (some ⟨b4, 0, none⟩)) ∧ (S 0 = true → f 17 = (.pointer (some (Addr.add (Addr.mk b4 0 none) 2)))) ∧ (S 1 = true → f 18 = (.int .i64 x1.B)) ∧ (S 2 = true → f 19 = (.pointer (some (Addr.add (Addr.mk b4 0 none) 0)))) ∧ (S 3 = true → f 20 = (.int .i64 x1.At)) ∧ (S 4 = true → f 21 = (.agg (Flat.cells t3).toArray)) ∧ (S 5 = true → f 22 = (.pointer (some (Addr.add (Addr.mk b4 0 none) 1)))) ∧ (S 6 = true → f 23 = (.int .i64 x1.A)) ∧ (S 7 = true → f 24 = (.pointer (some (Addr.add (Addr.mk b4 0 none) 0)))) ∧ (S 8 = true → f 25 = (.int .i64 x1.At)) ∧ (S 9 = true → f 26 = (.agg (Flat.cells t4).toArray)) ∧ (S 10 = true → f 27 = (.pointer (some (Addr.add (Addr.mk b4 0 none) 4)))) ∧ (S 11 = true → f 28 = (.int .i64 x1.Hi)) ∧ (S 13 = true → S 12 = true) ∧ (S 12 = false → S 13 = false → Inv w0 w [boxI b1 53 [va0_0, va0_1], boxI b2 131 [(.int .i64 0), (.int .i64 0)], boxI b3 131 [(.int .i64 0), (.int .i64 0)], boxI b4 50 [(.int .i64 x1.At), (.int .i64 x1.A), (.int .i64 x1.B), (.int .i64 x1.Lo), (.int .i64 x1.Hi)]]) ∧ (S 12 = true → S 13 = false → Inv w0 w [boxI b1 53 [va0_0, va0_1], boxI b2 131 [(.int .i64 t3.clock), (.int .i64 t3.at_)], boxI b3 131 [(.int .i64 0), (.int .i64 0)], boxI b4 50 [(.int .i64 x1.At), (.int .i64 x1.A), (.int .i64 x1.B), (.int .i64 x1.Lo), (.int .i64 x1.Hi)]]) ∧ (S 12 = true → S 13 = true → Inv w0 w [boxI b1 53 [va0_0, va0_1], boxI b2 131 [(.int .i64 t3.clock), (.int .i64 t3.at_)], boxI b3 131 [(.int .i64 t4.clock), (.int .i64 t4.at_)], boxI b4 50 [(.int .i64 x1.At), (.int .i64 x1.A), (.int .i64 x1.B), (.int .i64 x1.Lo), (.int .i64 x1.Hi)]])) fol (by kernel_rfl) ?_ ?_ ?_
  ·
   exact fun d _ => ⟨((H.ext (below_drawn d)).pick [] [] rfl (by decide)), rfl, rfl, rfl, nF, nF, nF, nF, nF, nF, nF, nF, nF, nF, nF, nF, nF, (fun _ _ => H.ext (below_drawn d)), (fun a _ => nF a), (fun a _ => nF a)⟩
  ·
   refine ⟨?_, ⟨?_, ⟨?_, ⟨?_, ⟨?_, ⟨?_, ⟨?_, ⟨?_, ⟨?_, ⟨?_, ⟨?_, ⟨?_, ⟨?_, ⟨?_, trivial⟩⟩⟩⟩⟩⟩⟩⟩⟩⟩⟩⟩⟩⟩
   ·
    rintro S f w hS - ⟨e1, e4, e9, e12, e13, -⟩ ⟨B, hf4, hf5, hf7, hd0, t⟩
    obtain ⟨u1, rfl⟩ := up1 hf7
    have H := t.2.2.2.2.2.2.2.2.2.2.2.2.1 e12 e13
    refine O.fieldAddr fd50_2 rfl rfl rfl ?_
    exact WL.nil ⟨B, hf4, hf5, rfl, (fun _ => rfl), t⟩
   ·
    rintro S f w hS ⟨e0, -⟩ ⟨e4, e9, e12, e13, -⟩ ⟨B, hf4, hf5, hf7, hd0, hd1, t⟩
    have hf17 := hd0 e0
    obtain ⟨u2, rfl⟩ := up1 hf17
    have H := t.2.2.2.2.2.2.2.2.2.2.2.1 e12 e13
    refine O.load sc3 rfl rfl rfl (H.cell 3 rfl 2 _ rfl) ?_
    exact WL.nil ⟨B, hf4, hf5, hf7, hd0, (fun _ => rfl), t⟩
   ·
    rintro S f w hS - ⟨e3, e4, e9, e12, e13, -⟩ ⟨B, hf4, hf5, hf7, hd0, hd1, hd2, t⟩
    obtain ⟨u3, rfl⟩ := up1 hf7
    have H := t.2.2.2.2.2.2.2.2.2.2.1 e12 e13
    refine O.fieldAddr fd50_0 rfl rfl rfl ?_
    exact WL.nil ⟨B, hf4, hf5, rfl, hd0, hd1, (fun _ => rfl), t⟩
   ·
    rintro S f w hS ⟨e2, -⟩ ⟨e4, e9, e12, e13, -⟩ ⟨B, hf4, hf5, hf7, hd0, hd1, hd2, hd3, t⟩
    have hf19 := hd2 e2
    obtain ⟨u4, rfl⟩ := up1 hf19
    have H := t.2.2.2.2.2.2.2.2.2.1 e12 e13
    refine O.load sc3 rfl rfl rfl (H.cell 3 rfl 0 _ rfl) ?_
    exact WL.nil ⟨B, hf4, hf5, hf7, hd0, hd1, hd2, (fun _ => rfl), t⟩
   ·
    rintro S f w hS ⟨e0, e1, e2, e3, -⟩ ⟨e9, e12, e13, -⟩ ⟨B, hf4, hf5, hf7, hd0, hd1, hd2, hd3, hd4, hd5, hd6, hd7, hd8, hd9, hd10, hd11, C13_12, W0, W1, W2⟩
    have hf18 := hd1 e1
    have hf20 := hd3 e3
    obtain ⟨u5, rfl⟩ := up2 hf18 hf20
    have H := W0 e12 e13
    refine O.call Try.call70 rfl rfl rfl (c_sight_pointOf _ _ hy1) ?_
    rintro _ w6 hb5 rfl
    have H := H.ext hb5
    exact WL.nil ⟨(H.pick [] [] rfl (by decide)), hf4, hf5, hf7, hd0, hd1, hd2, hd3, (fun _ => rfl), hd5, hd6, hd7, hd8, hd9, hd10, hd11, C13_12, (fun _ _ => H), (fun a _ => nX e12 a), (fun a _ => nX e12 a)⟩
   ·
    rintro S f w hS - ⟨e6, e9, e12, e13, -⟩ ⟨B, hf4, hf5, hf7, hd0, hd1, hd2, hd3, hd4, hd5, t⟩
    obtain ⟨u6, rfl⟩ := up1 hf7
    have H := t.2.2.2.2.2.2.2.1 e12 e13
    refine O.fieldAddr fd50_1 rfl rfl rfl ?_
    exact WL.nil ⟨B, hf4, hf5, rfl, hd0, hd1, hd2, hd3, hd4, (fun _ => rfl), t⟩
   ·
    rintro S f w hS ⟨e5, -⟩ ⟨e9, e12, e13, -⟩ ⟨B, hf4, hf5, hf7, hd0, hd1, hd2, hd3, hd4, hd5, hd6, t⟩
    have hf22 := hd5 e5
    obtain ⟨u7, rfl⟩ := up1 hf22
    have H := t.2.2.2.2.2.2.1 e12 e13
    refine O.load sc3 rfl rfl rfl (H.cell 3 rfl 1 _ rfl) ?_
    exact WL.nil ⟨B, hf4, hf5, hf7, hd0, hd1, hd2, hd3, hd4, hd5, (fun _ => rfl), t⟩
   ·
    rintro S f w hS - ⟨e8, e9, e12, e13, -⟩ ⟨B, hf4, hf5, hf7, hd0, hd1, hd2, hd3, hd4, hd5, hd6, hd7, t⟩
    obtain ⟨u8, rfl⟩ := up1 hf7
    have H := t.2.2.2.2.2.1 e12 e13
    refine O.fieldAddr fd50_0 rfl rfl rfl ?_
    exact WL.nil ⟨B, hf4, hf5, rfl, hd0, hd1, hd2, hd3, hd4, hd5, hd6, (fun _ => rfl), t⟩
   ·
    rintro S f w hS ⟨e7, -⟩ ⟨e9, e12, e13, -⟩ ⟨B, hf4, hf5, hf7, hd0, hd1, hd2, hd3, hd4, hd5, hd6, hd7, hd8, t⟩
    have hf24 := hd7 e7
    obtain ⟨u9, rfl⟩ := up1 hf24
    have H := t.2.2.2.2.1 e12 e13
    refine O.load sc3 rfl rfl rfl (H.cell 3 rfl 0 _ rfl) ?_
    exact WL.nil ⟨B, hf4, hf5, hf7, hd0, hd1, hd2, hd3, hd4, hd5, hd6, hd7, (fun _ => rfl), t⟩
   ·
    rintro S f w hS ⟨e0, e1, e2, e3, e4, e5, e6, e7, e8, -⟩ ⟨e12, e13, -⟩ ⟨B, hf4, hf5, hf7, hd0, hd1, hd2, hd3, hd4, hd5, hd6, hd7, hd8, hd9, hd10, hd11, C13_12, W0, W1, W2⟩
    have hf23 := hd6 e6
    have hf25 := hd8 e8
    obtain ⟨u10, rfl⟩ := up2 hf23 hf25
    have H := W0 e12 e13
    refine O.call Try.call70 rfl rfl rfl (c_sight_pointOf _ _ hy2) ?_
    rintro _ w7 hb6 rfl
    have H := H.ext hb6
    exact WL.nil ⟨(H.pick [] [] rfl (by decide)), hf4, hf5, hf7, hd0, hd1, hd2, hd3, hd4, hd5, hd6, hd7, hd8, (fun _ => rfl), hd10, hd11, C13_12, (fun _ _ => H), (fun a _ => nX e12 a), (fun a _ => nX e12 a)⟩
   ·
    rintro S f w hS - ⟨e11, -⟩ ⟨B, hf4, hf5, hf7, hd0, hd1, hd2, hd3, hd4, hd5, hd6, hd7, hd8, hd9, hd10, t⟩
    obtain ⟨u11, rfl⟩ := up1 hf7
    have H := B
    refine O.fieldAddr fd50_4 rfl rfl rfl ?_
    exact WL.nil ⟨B, hf4, hf5, rfl, hd0, hd1, hd2, hd3, hd4, hd5, hd6, hd7, hd8, hd9, (fun _ => rfl), t⟩
   ·
    rintro S f w hS ⟨e10, -⟩ - ⟨B, hf4, hf5, hf7, hd0, hd1, hd2, hd3, hd4, hd5, hd6, hd7, hd8, hd9, hd10, hd11, C13_12, W0, W1, W2⟩
    have hf27 := hd10 e10
    obtain ⟨u12, rfl⟩ := up1 hf27
    rcases bool_ft (S 12) with e12 | e12
    ·
     rcases bool_ft (S 13) with e13 | e13
     ·
      have H := W0 e12 e13
      refine O.load sc3 rfl rfl rfl (H.cell 3 rfl 4 _ rfl) ?_
      exact WL.nil ⟨B, hf4, hf5, hf7, hd0, hd1, hd2, hd3, hd4, hd5, hd6, hd7, hd8, hd9, hd10, (fun _ => rfl), C13_12, (fun _ _ => H), (fun a _ => nX e12 a), (fun a _ => nX e12 a)⟩
     ·
      exact nomatch (show true = false from (C13_12 e13).symm.trans e12)
    ·
     rcases bool_ft (S 13) with e13 | e13
     ·
      have H := W1 e12 e13
      refine O.load sc3 rfl rfl rfl (H.cell 3 rfl 4 _ rfl) ?_
      exact WL.nil ⟨B, hf4, hf5, hf7, hd0, hd1, hd2, hd3, hd4, hd5, hd6, hd7, hd8, hd9, hd10, (fun _ => rfl), C13_12, (fun a _ => nT e12 a), (fun _ _ => H), (fun _ a => nX e13 a)⟩
     ·
      have H := W2 e12 e13
      refine O.load sc3 rfl rfl rfl (H.cell 3 rfl 4 _ rfl) ?_
      exact WL.nil ⟨B, hf4, hf5, hf7, hd0, hd1, hd2, hd3, hd4, hd5, hd6, hd7, hd8, hd9, hd10, (fun _ => rfl), C13_12, (fun a _ => nT e12 a), (fun _ a => nT e13 a), (fun _ _ => H)⟩
   ·
    rintro S f w hS ⟨e0, e1, e2, e3, e4, e5, e6, e7, e8, e9, -⟩ ⟨e13, -⟩ ⟨B, hf4, hf5, hf7, hd0, hd1, hd2, hd3, hd4, hd5, hd6, hd7, hd8, hd9, hd10, hd11, C13_12, W0, W1, W2⟩
    have hf21 := hd4 e4
    obtain ⟨u13, rfl⟩ := up2 hf4 hf21
    have H := W0 hS e13
    refine O.store 1 0 [(.int .i64 t3.clock), (.int .i64 t3.at_)] [(.int .i64 t3.clock), (.int .i64 t3.at_)] sz131 H rfl rfl rfl rfl rfl rfl ⟨⟨rfl, rfl⟩, rfl⟩ (one_cons rfl (one_cons rfl one_nil)) ?_
    intro w8 H
    exact WL.nil ⟨(H.pick [] [] rfl (by decide)), rfl, hf5, hf7, hd0, hd1, hd2, hd3, hd4, hd5, hd6, hd7, hd8, hd9, hd10, hd11, (fun _ => rfl), (fun a _ => nG a), (fun _ _ => H), (fun _ a => nX e13 a)⟩
   ·
    rintro S f w hS ⟨e0, e1, e2, e3, e4, e5, e6, e7, e8, e9, e12, -⟩ - ⟨B, hf4, hf5, hf7, hd0, hd1, hd2, hd3, hd4, hd5, hd6, hd7, hd8, hd9, hd10, hd11, C13_12, W0, W1, W2⟩
    have hf26 := hd9 e9
    obtain ⟨u14, rfl⟩ := up2 hf5 hf26
    have H := W1 e12 hS
    refine O.store 2 0 [(.int .i64 t4.clock), (.int .i64 t4.at_)] [(.int .i64 t4.clock), (.int .i64 t4.at_)] sz131 H rfl rfl rfl rfl rfl rfl ⟨⟨rfl, rfl⟩, rfl⟩ (one_cons rfl (one_cons rfl one_nil)) ?_
    intro w9 H
    exact WL.nil ⟨(H.pick [] [] rfl (by decide)), hf4, rfl, hf7, hd0, hd1, hd2, hd3, hd4, hd5, hd6, hd7, hd8, hd9, hd10, hd11, (fun _ => e12), (fun a _ => nT e12 a), (fun _ a => nG a), (fun _ _ => H)⟩
  ·
   rintro S f w ⟨e0, e1, e2, e3, e4, e5, e6, e7, e8, e9, e10, e11, e12, e13, -⟩ ⟨B, hf4, hf5, hf7, hd0, hd1, hd2, hd3, hd4, hd5, hd6, hd7, hd8, hd9, hd10, hd11, C13_12, W0, W1, W2⟩
   have hf28 := hd11 e11
   have H := W2 e12 e13
   obtain ⟨u15, rfl⟩ := up3 hf4 hf5 hf28
   refine O.assign (v := (.int .i64 x1.Hi)) rfl rfl rfl ?_
   refine WL.nil ?_
   refine W.ret ?_
   have hq : (t3, t4, x1.Hi) = (r0, r1, r2) := Option.some.inj (show some (t3, t4, x1.Hi) = some (r0, r1, r2) from hm)
   obtain ⟨he0, hq0⟩ := Prod.mk.inj hq; clear hq; subst he0
   obtain ⟨he1, hq1⟩ := Prod.mk.inj hq0; clear hq0; subst he1
   subst hq1
   exact ends3 Try.results65 ⟨_, rfl, run_loadVar_agg ag131 rfl (H.cell 1 rfl)⟩ ⟨_, rfl, run_loadVar_agg ag131 rfl (H.cell 2 rfl)⟩ rfl ⟨_, rfl, H.base, rfl⟩
 ·
  refine W.cond_false (congrArg Value.bool hc1) ?_
  refine W.skip ?_
  refine W.seq ?_
  obtain ⟨t5, hy3, hm⟩ := bind_some hm
  obtain ⟨t6, hy4, hm⟩ := bind_some hm
  obtain ⟨t7, ht7, hm⟩ := bind_some hm
  refine W.drawD 15 [[], [0], [], [2], [0, 1, 2, 3], [], [5], [], [7], [0, 1, 2, 3, 4, 5, 6, 7, 8], [], [10], [10, 11], [0, 1, 2, 3, 4, 5, 6, 7, 8, 9], [0, 1, 2, 3, 4, 5, 6, 7, 8, 9, 13]] [[1, 4, 9, 13, 14], [4, 9, 13, 14], [3, 4, 9, 13, 14], [4, 9, 13, 14], [9, 13, 14], [6, 9, 13, 14], [9, 13, 14], [8, 9, 13, 14], [9, 13, 14], [13, 14], [11, 12], [12], [], [14], []] (fun S f w => Inv w0 w [] ∧ f 4 = (.pointer (some ⟨b2, 0, none⟩)) ∧ f 5 = (.pointer (some ⟨b3, 0, none⟩)) ∧ f 7 = (.pointer (some ⟨b4, 0, none⟩)) ∧ (S 0 = true → f 29 = (.pointer (some (Addr.add (Addr.mk b4 0 none) 1)))) ∧ (S 1 = true → f 30 = (.int .i64 x1.A)) ∧ (S 2 = true → f 31 = (.pointer (some (Addr.add (Addr.mk b4 0 none) 0)))) ∧ (S 3 = true → f 32 = (.int .i64 x1.At)) ∧ (S 4 = true → f 33 = (.agg (Flat.cells t5).toArray)) ∧ (S 5 = true → f 34 = (.pointer (some (Addr.add (Addr.mk b4 0 none) 2)))) ∧ (S 6 = true → f 35 = (.int .i64 x1.B)) ∧ (S 7 = true → f 36 = (.pointer (some (Addr.add (Addr.mk b4 0 none) 0)))) ∧ (S 8 = true → f 37 = (.int .i64 x1.At)) ∧ (S 9 = true → f 38 = (.agg (Flat.cells t6).toArray)) ∧ (S 10 = true → f 39 = (.pointer (some (Addr.add (Addr.mk b4 0 none) 3)))) ∧ (S 11 = true → f 40 = (.int .i64 x1.Lo)) ∧ (S 12 = true → f 41 = (.int .i64 t7)) ∧ (S 14 = true → S 13 = true) ∧ (S 13 = false → S 14 = false → Inv w0 w [boxI b1 53 [va0_0, va0_1], boxI b2 131 [(.int .i64 0), (.int .i64 0)], boxI b3 131 [(.int .i64 0), (.int .i64 0)], boxI b4 50 [(.int .i64 x1.At), (.int .i64 x1.A), (.int .i64 x1.B), (.int .i64 x1.Lo), (.int .i64 x1.Hi)]]) ∧ (S 13 = true → S 14 = false → Inv w0 w [boxI b1 53 [va0_0, va0_1], boxI b2 131 [(.int .i64 t5.clock), (.int .i64 t5.at_)], boxI b3 131 [(.int .i64 0), (.int .i64 0)], boxI b4 50 [(.int .i64 x1.At), (.int .i64 x1.A), (.int .i64 x1.B), (.int .i64 x1.Lo), (.int .i64 x1.Hi)]]) ∧ (S 13 = true → S 14 = true → Inv w0 w [boxI b1 53 [va0_0, va0_1], boxI b2 131 [(.int .i64 t5.clock), (.int .i64 t5.at_)], boxI b3 131 [(.int .i64 t6.clock), (.int .i64 t6.at_)], boxI b4 50 [(.int .i64 x1.At), (.int .i64 x1.A), (.int .i64 x1.B), (.int .i64 x1.Lo), (.int .i64 x1.Hi)]])) fol (by kernel_rfl) ?_ ?_ ?_
  ·
   exact fun d _ => ⟨((H.ext (below_drawn d)).pick [] [] rfl (by decide)), rfl, rfl, rfl, nF, nF, nF, nF, nF, nF, nF, nF, nF, nF, nF, nF, nF, nF, (fun _ _ => H.ext (below_drawn d)), (fun a _ => nF a), (fun a _ => nF a)⟩
  ·
   refine ⟨?_, ⟨?_, ⟨?_, ⟨?_, ⟨?_, ⟨?_, ⟨?_, ⟨?_, ⟨?_, ⟨?_, ⟨?_, ⟨?_, ⟨?_, ⟨?_, ⟨?_, trivial⟩⟩⟩⟩⟩⟩⟩⟩⟩⟩⟩⟩⟩⟩⟩
   ·
    rintro S f w hS - ⟨e1, e4, e9, e13, e14, -⟩ ⟨B, hf4, hf5, hf7, hd0, t⟩
    obtain ⟨u16, rfl⟩ := up1 hf7
    have H := t.2.2.2.2.2.2.2.2.2.2.2.2.2.1 e13 e14
    refine O.fieldAddr fd50_1 rfl rfl rfl ?_
    exact WL.nil ⟨B, hf4, hf5, rfl, (fun _ => rfl), t⟩
   ·
    rintro S f w hS ⟨e0, -⟩ ⟨e4, e9, e13, e14, -⟩ ⟨B, hf4, hf5, hf7, hd0, hd1, t⟩
    have hf29 := hd0 e0
    obtain ⟨u17, rfl⟩ := up1 hf29
    have H := t.2.2.2.2.2.2.2.2.2.2.2.2.1 e13 e14
    refine O.load sc3 rfl rfl rfl (H.cell 3 rfl 1 _ rfl) ?_
    exact WL.nil ⟨B, hf4, hf5, hf7, hd0, (fun _ => rfl), t⟩
   ·
    rintro S f w hS - ⟨e3, e4, e9, e13, e14, -⟩ ⟨B, hf4, hf5, hf7, hd0, hd1, hd2, t⟩
    obtain ⟨u18, rfl⟩ := up1 hf7
    have H := t.2.2.2.2.2.2.2.2.2.2.2.1 e13 e14
    refine O.fieldAddr fd50_0 rfl rfl rfl ?_
    exact WL.nil ⟨B, hf4, hf5, rfl, hd0, hd1, (fun _ => rfl), t⟩
   ·
    rintro S f w hS ⟨e2, -⟩ ⟨e4, e9, e13, e14, -⟩ ⟨B, hf4, hf5, hf7, hd0, hd1, hd2, hd3, t⟩
    have hf31 := hd2 e2
    obtain ⟨u19, rfl⟩ := up1 hf31
    have H := t.2.2.2.2.2.2.2.2.2.2.1 e13 e14
    refine O.load sc3 rfl rfl rfl (H.cell 3 rfl 0 _ rfl) ?_
    exact WL.nil ⟨B, hf4, hf5, hf7, hd0, hd1, hd2, (fun _ => rfl), t⟩
   ·
    rintro S f w hS ⟨e0, e1, e2, e3, -⟩ ⟨e9, e13, e14, -⟩ ⟨B, hf4, hf5, hf7, hd0, hd1, hd2, hd3, hd4, hd5, hd6, hd7, hd8, hd9, hd10, hd11, hd12, C14_13, W0, W1, W2⟩
    have hf30 := hd1 e1
    have hf32 := hd3 e3
    obtain ⟨u20, rfl⟩ := up2 hf30 hf32
    have H := W0 e13 e14
    refine O.call Try.call70 rfl rfl rfl (c_sight_pointOf _ _ hy3) ?_
    rintro _ w10 hb7 rfl
    have H := H.ext hb7
    exact WL.nil ⟨(H.pick [] [] rfl (by decide)), hf4, hf5, hf7, hd0, hd1, hd2, hd3, (fun _ => rfl), hd5, hd6, hd7, hd8, hd9, hd10, hd11, hd12, C14_13, (fun _ _ => H), (fun a _ => nX e13 a), (fun a _ => nX e13 a)⟩
   ·
    rintro S f w hS - ⟨e6, e9, e13, e14, -⟩ ⟨B, hf4, hf5, hf7, hd0, hd1, hd2, hd3, hd4, hd5, t⟩
    obtain ⟨u21, rfl⟩ := up1 hf7
    have H := t.2.2.2.2.2.2.2.2.1 e13 e14
    refine O.fieldAddr fd50_2 rfl rfl rfl ?_
    exact WL.nil ⟨B, hf4, hf5, rfl, hd0, hd1, hd2, hd3, hd4, (fun _ => rfl), t⟩
   ·
    rintro S f w hS ⟨e5, -⟩ ⟨e9, e13, e14, -⟩ ⟨B, hf4, hf5, hf7, hd0, hd1, hd2, hd3, hd4, hd5, hd6, t⟩
    have hf34 := hd5 e5
    obtain ⟨u22, rfl⟩ := up1 hf34
    have H := t.2.2.2.2.2.2.2.1 e13 e14
    refine O.load sc3 rfl rfl rfl (H.cell 3 rfl 2 _ rfl) ?_
    exact WL.nil ⟨B, hf4, hf5, hf7, hd0, hd1, hd2, hd3, hd4, hd5, (fun _ => rfl), t⟩
   ·
    rintro S f w hS - ⟨e8, e9, e13, e14, -⟩ ⟨B, hf4, hf5, hf7, hd0, hd1, hd2, hd3, hd4, hd5, hd6, hd7, t⟩
    obtain ⟨u23, rfl⟩ := up1 hf7
    have H := t.2.2.2.2.2.2.1 e13 e14
    refine O.fieldAddr fd50_0 rfl rfl rfl ?_
    exact WL.nil ⟨B, hf4, hf5, rfl, hd0, hd1, hd2, hd3, hd4, hd5, hd6, (fun _ => rfl), t⟩
   ·
    rintro S f w hS ⟨e7, -⟩ ⟨e9, e13, e14, -⟩ ⟨B, hf4, hf5, hf7, hd0, hd1, hd2, hd3, hd4, hd5, hd6, hd7, hd8, t⟩
    have hf36 := hd7 e7
    obtain ⟨u24, rfl⟩ := up1 hf36
    have H := t.2.2.2.2.2.1 e13 e14
    refine O.load sc3 rfl rfl rfl (H.cell 3 rfl 0 _ rfl) ?_
    exact WL.nil ⟨B, hf4, hf5, hf7, hd0, hd1, hd2, hd3, hd4, hd5, hd6, hd7, (fun _ => rfl), t⟩
   ·
    rintro S f w hS ⟨e0, e1, e2, e3, e4, e5, e6, e7, e8, -⟩ ⟨e13, e14, -⟩ ⟨B, hf4, hf5, hf7, hd0, hd1, hd2, hd3, hd4, hd5, hd6, hd7, hd8, hd9, hd10, hd11, hd12, C14_13, W0, W1, W2⟩
    have hf35 := hd6 e6
    have hf37 := hd8 e8
    obtain ⟨u25, rfl⟩ := up2 hf35 hf37
    have H := W0 e13 e14
    refine O.call Try.call70 rfl rfl rfl (c_sight_pointOf _ _ hy4) ?_
    rintro _ w11 hb8 rfl
    have H := H.ext hb8
    exact WL.nil ⟨(H.pick [] [] rfl (by decide)), hf4, hf5, hf7, hd0, hd1, hd2, hd3, hd4, hd5, hd6, hd7, hd8, (fun _ => rfl), hd10, hd11, hd12, C14_13, (fun _ _ => H), (fun a _ => nX e13 a), (fun a _ => nX e13 a)⟩
   ·
    rintro S f w hS - ⟨e11, e12, -⟩ ⟨B, hf4, hf5, hf7, hd0, hd1, hd2, hd3, hd4, hd5, hd6, hd7, hd8, hd9, hd10, t⟩
    obtain ⟨u26, rfl⟩ := up1 hf7
    have H := B
    refine O.fieldAddr fd50_3 rfl rfl rfl ?_
    exact WL.nil ⟨B, hf4, hf5, rfl, hd0, hd1, hd2, hd3, hd4, hd5, hd6, hd7, hd8, hd9, (fun _ => rfl), t⟩
   ·
    rintro S f w hS ⟨e10, -⟩ ⟨e12, -⟩ ⟨B, hf4, hf5, hf7, hd0, hd1, hd2, hd3, hd4, hd5, hd6, hd7, hd8, hd9, hd10, hd11, hd12, C14_13, W0, W1, W2⟩
    have hf39 := hd10 e10
    obtain ⟨u27, rfl⟩ := up1 hf39
    rcases bool_ft (S 13) with e13 | e13
    ·
     rcases bool_ft (S 14) with e14 | e14
     ·
      have H := W0 e13 e14
      refine O.load sc3 rfl rfl rfl (H.cell 3 rfl 3 _ rfl) ?_
      exact WL.nil ⟨B, hf4, hf5, hf7, hd0, hd1, hd2, hd3, hd4, hd5, hd6, hd7, hd8, hd9, hd10, (fun _ => rfl), hd12, C14_13, (fun _ _ => H), (fun a _ => nX e13 a), (fun a _ => nX e13 a)⟩
     ·
      exact nomatch (show true = false from (C14_13 e14).symm.trans e13)
    ·
     rcases bool_ft (S 14) with e14 | e14
     ·
      have H := W1 e13 e14
      refine O.load sc3 rfl rfl rfl (H.cell 3 rfl 3 _ rfl) ?_
      exact WL.nil ⟨B, hf4, hf5, hf7, hd0, hd1, hd2, hd3, hd4, hd5, hd6, hd7, hd8, hd9, hd10, (fun _ => rfl), hd12, C14_13, (fun a _ => nT e13 a), (fun _ _ => H), (fun _ a => nX e14 a)⟩
     ·
      have H := W2 e13 e14
      refine O.load sc3 rfl rfl rfl (H.cell 3 rfl 3 _ rfl) ?_
      exact WL.nil ⟨B, hf4, hf5, hf7, hd0, hd1, hd2, hd3, hd4, hd5, hd6, hd7, hd8, hd9, hd10, (fun _ => rfl), hd12, C14_13, (fun a _ => nT e13 a), (fun _ a => nT e14 a), (fun _ _ => H)⟩
   ·
    rintro S f w hS ⟨e10, e11, -⟩ - ⟨B, hf4, hf5, hf7, hd0, hd1, hd2, hd3, hd4, hd5, hd6, hd7, hd8, hd9, hd10, hd11, hd12, t⟩
    have hf40 := hd11 e11
    obtain ⟨u28, rfl⟩ := up1 hf40
    have H := B
    refine O.neg rfl rfl rfl ht7 ?_
    exact WL.nil ⟨B, hf4, hf5, hf7, hd0, hd1, hd2, hd3, hd4, hd5, hd6, hd7, hd8, hd9, hd10, hd11, (fun _ => rfl), t⟩
   ·
    rintro S f w hS ⟨e0, e1, e2, e3, e4, e5, e6, e7, e8, e9, -⟩ ⟨e14, -⟩ ⟨B, hf4, hf5, hf7, hd0, hd1, hd2, hd3, hd4, hd5, hd6, hd7, hd8, hd9, hd10, hd11, hd12, C14_13, W0, W1, W2⟩
    have hf33 := hd4 e4
    obtain ⟨u29, rfl⟩ := up2 hf4 hf33
    have H := W0 hS e14
    refine O.store 1 0 [(.int .i64 t5.clock), (.int .i64 t5.at_)] [(.int .i64 t5.clock), (.int .i64 t5.at_)] sz131 H rfl rfl rfl rfl rfl rfl ⟨⟨rfl, rfl⟩, rfl⟩ (one_cons rfl (one_cons rfl one_nil)) ?_
    intro w12 H
    exact WL.nil ⟨(H.pick [] [] rfl (by decide)), rfl, hf5, hf7, hd0, hd1, hd2, hd3, hd4, hd5, hd6, hd7, hd8, hd9, hd10, hd11, hd12, (fun _ => rfl), (fun a _ => nG a), (fun _ _ => H), (fun _ a => nX e14 a)⟩
   ·
    rintro S f w hS ⟨e0, e1, e2, e3, e4, e5, e6, e7, e8, e9, e13, -⟩ - ⟨B, hf4, hf5, hf7, hd0, hd1, hd2, hd3, hd4, hd5, hd6, hd7, hd8, hd9, hd10, hd11, hd12, C14_13, W0, W1, W2⟩
    have hf38 := hd9 e9
    obtain ⟨u30, rfl⟩ := up2 hf5 hf38
    have H := W1 e13 hS
    refine O.store 2 0 [(.int .i64 t6.clock), (.int .i64 t6.at_)] [(.int .i64 t6.clock), (.int .i64 t6.at_)] sz131 H rfl rfl rfl rfl rfl rfl ⟨⟨rfl, rfl⟩, rfl⟩ (one_cons rfl (one_cons rfl one_nil)) ?_
    intro w13 H
    exact WL.nil ⟨(H.pick [] [] rfl (by decide)), hf4, rfl, hf7, hd0, hd1, hd2, hd3, hd4, hd5, hd6, hd7, hd8, hd9, hd10, hd11, hd12, (fun _ => e13), (fun a _ => nT e13 a), (fun _ a => nG a), (fun _ _ => H)⟩
  ·
   rintro S f w ⟨e0, e1, e2, e3, e4, e5, e6, e7, e8, e9, e10, e11, e12, e13, e14, -⟩ ⟨B, hf4, hf5, hf7, hd0, hd1, hd2, hd3, hd4, hd5, hd6, hd7, hd8, hd9, hd10, hd11, hd12, C14_13, W0, W1, W2⟩
   have hf41 := hd12 e12
   have H := W2 e13 e14
   obtain ⟨u31, rfl⟩ := up3 hf4 hf5 hf41
   refine O.assign (v := (.int .i64 t7)) rfl rfl rfl ?_
   refine WL.nil ?_
   refine W.ret ?_
   have hq : (t5, t6, t7) = (r0, r1, r2) := Option.some.inj (show some (t5, t6, t7) = some (r0, r1, r2) from hm)
   obtain ⟨he0, hq0⟩ := Prod.mk.inj hq; clear hq; subst he0
   obtain ⟨he1, hq1⟩ := Prod.mk.inj hq0; clear hq0; subst he1
   subst hq1
   exact ends3 Try.results65 ⟨_, rfl, run_loadVar_agg ag131 rfl (H.cell 1 rfl)⟩ ⟨_, rfl, run_loadVar_agg ag131 rfl (H.cell 2 rfl)⟩ rfl ⟨_, rfl, H.base, rfl⟩

theorem c_sight_carry {w0 : World} (va0_0 : Value) (va0_1 : Value) (a0 : GNet) (ha0_0 : SliceR w0 va0_0 a0.Rates) (ha0_1 : SliceR w0 va0_1 a0.Sights) (a1 : Int) (a2 : Int) {r0 : Int} (hm : sight_carry a0 a1 a2 = some r0) :
  Calls Try.prog 82 #[(.agg #[va0_0, va0_1]), (.int .i64 a1), (.int .i64 a2)] w0 (Ret w0 fun _ v => v = (.int .i64 r0)) := by
 unfold sight_carry at hm
 refine calls_of_W Try.func82 rfl Try.ntmps82 (Nat.le_of_ble_eq_true rfl) ?_
 have H := Inv.start (w := w0)
 refine W.seq ?_
 refine W.region ?_
 refine O.box [va0_0, va0_1] H rfl rfl rfl rfl ?_
 intro b1 w1 H hb1
 refine O.assign (v := (.int .i64 0)) rfl rfl rfl ?_
 refine WL.nil ?_
 refine W.seq ?_
 refine W.region ?_
 refine O.fieldAddr fd53_0 rfl rfl rfl ?_
 refine O.load sc22 rfl rfl rfl (H.cell 0 rfl 0 _ rfl) ?_
 refine O.move (v := (.int .i64 a1)) rfl rfl rfl ?_
 obtain ⟨x1, hx1, hm⟩ := bind_some hm
 obtain ⟨p1, hp1, hrp1⟩ := fix_indexAddr Try.underlying22 sz3 ha0_0 hx1
 refine hrp1 rfl rfl rfl rfl ?_
 refine O.load sc3 rfl rfl rfl ((hp1.mono H.base).flat 0 _ rfl) ?_
 refine O.move (v := (.int .i64 a2)) rfl rfl rfl ?_
 refine O.move (v := (.int .i64 a2)) rfl rfl rfl ?_
 obtain ⟨t1, ht1, hm⟩ := bind_some hm
 refine O.neg rfl rfl rfl ht1 ?_
 refine O.max2 rfl rfl rfl rfl ?_
 obtain ⟨t2, ht2, hm⟩ := bind_some hm
 refine O.mul rfl rfl rfl rfl ht2 ?_
 refine O.assign (v := (.int .i64 t2)) rfl rfl rfl ?_
 refine WL.nil ?_
 refine W.seq ?_
 refine W.region ?_
 refine O.move (v := (.int .i64 t2)) rfl rfl rfl ?_
 obtain ⟨t3, ht3, hm⟩ := bind_some hm
 refine O.add rfl rfl rfl rfl ht3 ?_
 obtain ⟨t4, ht4, hm⟩ := bind_some hm
 refine O.sub rfl rfl rfl rfl ht4 ?_
 obtain ⟨t5, ht5, hm⟩ := bind_some hm
 refine O.quo rfl rfl rfl rfl ht5 ?_
 refine O.assign (v := (.int .i64 t5)) rfl rfl rfl ?_
 refine WL.nil ?_
 refine W.ret ?_
 have hq : t5 = r0 := Option.some.inj (show some t5 = some r0 from hm)
 subst hq
 exact ends1 Try.results82 rfl ⟨_, rfl, H.base, rfl⟩

theorem bd137_all : ∀ (v0 v1 v2 v3 : Int) (w : World), (Instr.build 137 #[(0, (.int .i64 v0)), (1, (.int .i64 v1)), (2, (.int .i64 v2)), (3, (.int .i64 v3))]).run Try.prog w = .ok (.agg #[(.int .i64 v0), (.int .i64 v1), (.int .i64 v2), (.int .i64 v3)]) w := by
  intro v0 v1 v2 v3 w
  simp [Instr.build, Try.zeroValue137, Try.runUnderlying137, Instr.fill, Try.sizeOf3, Value.cells]




def leftL (es : List MapEntry) (kv : List Pn) (seen : Array Nat) : List Pn := ((es.zip kv).filter fun x => !seen.contains x.1.born).map (·.2)
theorem done_left (es : List MapEntry) (kv : List Pn) (seen : Array Nat) (h : es.length = kv.length) : (doneL es kv seen ++ leftL es kv seen).Perm kv := by
  unfold doneL leftL
  rw [← List.map_append]
  have := (List.filter_append_perm (fun x : MapEntry × Pn => seen.contains x.1.born) (es.zip kv)).map (·.2)
  refine this.trans ?_
  rw [show (fun x : MapEntry × Pn => x.2) = Prod.snd from rfl, List.map_snd_zip (by omega)]
theorem row_cons (g : Pn → Pn → GEdge) (a b : Pn) (l : List Pn) : rowOf g a (b :: l) = if pairB a b = true then g a b :: rowOf g a l else rowOf g a l := by
  unfold rowOf
  rw [List.filter_cons]
  split <;> simp_all
theorem row_append (g : Pn → Pn → GEdge) (a : Pn) (l l' : List Pn) : rowOf g a (l ++ l') = rowOf g a l ++ rowOf g a l' := by simp [rowOf]
theorem row_perm (g : Pn → Pn → GEdge) (a : Pn) {l l' : List Pn} (h : l.Perm l') : (rowOf g a l).Perm (rowOf g a l') := (h.filter _).map _
theorem it_carries {wi : World} {Kp : World → Prop} (pn px : Addr) (r : Nat) (es : Array MapEntry) (clock : Nat) (kv : List Pn) (x : GNet) (vx0 vx1 : Value) (g : Pn → Pn → GEdge)
    (hm : ∀ a ∈ kv, ∀ b ∈ kv, pairB a b = true → edgeOf x a b = some (g a b))
    (e2 : es.toList.map (fun e => (e.key, e.val)) = kv.map (fun p => (Flat.val p.1, Flat.val p.2))) (e4 : (es.toList.map (·.born)).Nodup) (e5 : ∀ e ∈ es.toList, e.born < clock) (e6 : es.toList.length = kv.length)
    (hk : ∀ w, Kp w → (∀ j c, [Value.map (some r)][j]? = some c → w.cell? (pn.add j) = some c) ∧ w.heap[r]? = some (.map es clock) ∧ (∀ j c, [vx0, vx1][j]? = some c → w.cell? (px.add j) = some c) ∧ SliceR w vx0 x.Rates ∧ SliceR w vx1 x.Sights) :
    IterAt Try.prog 81 #[.pointer (some pn), .pointer (some px)] (repF (α := GEdge)) (fun ys => ys.Perm (kv.flatMap fun a => rowOf g a kv)) Kp wi := by
  intro l J Jx hc h0
  refine calls_of_W Try.func81 rfl Try.ntmps81 (Nat.le_of_ble_eq_true rfl) ?_
  have H := InvI.start hc h0
  have hK := hk _ (InvI.kp H)
  refine W.seq ?_
  refine W.region ?_
  refine O.load (q := pn) (v := .map (some r)) sc126 rfl rfl rfl (hK.1 0 _ rfl) ?_
  refine O.range Try.underlying126 hK.2.1 H rfl rfl rfl ?_
  intro bi w1 H hb1
  refine WL.nil ?_
  refine W.block ?_
  refine W.loopL (l := kv) (fun rem f w => ∃ (seen : Array Nat) (pre : List GEdge) (C : Nat → Prop), (doneL es.toList kv seen).length + rem.length = kv.length ∧ pre.Perm ((doneL es.toList kv seen).flatMap fun a => rowOf g a kv) ∧
    f 9 = .pointer (some ⟨bi, 0, none⟩) ∧ f 0 = .func (.yield l) #[] #[] ∧ f 1 = .pointer (some pn) ∧ f 2 = .pointer (some px) ∧ InvI wi w [consI hc pre C, iterX bi r clock seen clock]) ?_ ?_ ?_
  · exact ⟨#[], [], _, by rw [doneL_nil]; simp, by rw [doneL_nil]; exact List.Perm.refl _, rfl, rfl, rfl, rfl, H⟩
  · rintro _ xs f w ⟨seen, pre, C, h1, h2, hf9, hf0, hf1, hf2, H⟩
    obtain ⟨u1, rfl⟩ := up4 hf9 hf0 hf1 hf2
    have hb := (hk _ (InvI.kp H)).2.1
    refine W.seq ?_
    refine W.region ?_
    refine O.next 1 H rfl hb e5 (Nat.le_refl _) rfl rfl rfl ?_ ?_
    · intro h0
      have := doneL_all es.toList kv seen e6 (left_none h0)
      rw [this] at h1
      simp at h1
    · intro e he w1 H hb
      obtain ⟨he1, he2⟩ := left_mem he
      obtain ⟨a, ha1, ha2, ha3, ha4⟩ := doneL_push seen e he2 es.toList kv e2 e4 he1
      have hlen2 := ha4.length_eq
      rw [List.length_cons] at hlen2
      rw [List.length_cons] at h1
      refine O.extract (v := .bool true) rfl rfl rfl rfl ?_
      refine WL.nil ?_
      refine W.seq ?_
      refine W.cond_true rfl ?_
      refine W.skip ?_
      refine W.block ?_
      refine W.seq ?_
      refine W.region ?_
      refine O.entry 1 H rfl hb he1 e4 rfl rfl rfl ?_
      refine O.extract (v := Flat.val a.1) rfl rfl rfl (by rw [ha2]; rfl) ?_
      refine O.extract (v := Flat.val a.2) rfl rfl rfl (by rw [ha3]; rfl) ?_
      refine O.alloc [.int .i64 0, .int .i64 0] ze131 H rfl rfl rfl ?_
      intro b4 w2 H hb4
      refine O.store 2 0 [.int .i64 a.1.clock, .int .i64 a.1.at_] [.int .i64 a.1.clock, .int .i64 a.1.at_] sz131 H rfl rfl rfl rfl rfl rfl ⟨⟨rfl, rfl⟩, rfl⟩ (one_cons rfl (one_cons rfl one_nil)) ?_
      intro w3 H
      refine O.assign (v := .int .i64 a.2) rfl rfl rfl ?_
      refine WL.nil ?_
      refine W.seq ?_
      refine W.region ?_
      have hK := hk _ (InvI.kp H)
      refine O.load (q := pn) (v := .map (some r)) sc126 rfl rfl rfl (hK.1 0 _ rfl) ?_
      refine O.range Try.underlying126 hK.2.1 H rfl rfl rfl ?_
      intro bj w4 H hb5
      refine WL.nil ?_
      refine W.block ?_
      refine W.loopL (l := kv) (fun rem f w => ∃ (seen2 : Array Nat) (pre : List GEdge) (C : Nat → Prop), (doneL es.toList kv seen2).length + rem.length = kv.length ∧ pre.Perm (((doneL es.toList kv seen).flatMap fun a => rowOf g a kv) ++ rowOf g a (doneL es.toList kv seen2)) ∧
        f 16 = .pointer (some ⟨bj, 0, none⟩) ∧ f 9 = .pointer (some ⟨bi, 0, none⟩) ∧ f 5 = .int .i64 a.2 ∧ f 4 = .pointer (some ⟨b4, 0, none⟩) ∧ f 0 = .func (.yield l) #[] #[] ∧ f 1 = .pointer (some pn) ∧ f 2 = .pointer (some px) ∧
        InvI wi w [consI hc pre C, iterX bi r clock (seen.push e.born) clock, boxI b4 131 [.int .i64 a.1.clock, .int .i64 a.1.at_], iterX bj r clock seen2 clock]) ?_ ?_ ?_
      · exact ⟨#[], pre, _, by rw [doneL_nil]; simp, by rw [doneL_nil]; simpa [rowOf] using h2, rfl, rfl, rfl, rfl, rfl, rfl, rfl, H⟩
      · rintro _ xs2 f w ⟨seen2, pre, C, k1, k2, hf16, hf9, hf5, hf4, hf0, hf1, hf2, H⟩
        obtain ⟨u1, rfl⟩ := up7 hf16 hf9 hf5 hf4 hf0 hf1 hf2
        have hb := (hk _ (InvI.kp H)).2.1
        refine W.seq ?_
        refine W.region ?_
        refine O.next 3 H rfl hb e5 (Nat.le_refl _) rfl rfl rfl ?_ ?_
        · intro h0
          have := doneL_all es.toList kv seen2 e6 (left_none h0)
          rw [this] at k1
          simp at k1
        · intro e' he' w1 H hb
          obtain ⟨he3, he4⟩ := left_mem he'
          obtain ⟨b, hp1, hp2, hp3, hp4⟩ := doneL_push seen2 e' he4 es.toList kv e2 e4 he3
          have hlen3 := hp4.length_eq
          rw [List.length_cons] at hlen3
          rw [List.length_cons] at k1
          refine O.extract (v := .bool true) rfl rfl rfl rfl ?_
          refine WL.nil ?_
          refine W.seq ?_
          refine W.cond_true rfl ?_
          refine W.skip ?_
          refine W.block ?_
          refine W.seq ?_
          refine W.region ?_
          refine O.entry 3 H rfl hb he3 e4 rfl rfl rfl ?_
          refine O.extract (v := Flat.val b.1) rfl rfl rfl (by rw [hp2]; rfl) ?_
          refine O.extract (v := Flat.val b.2) rfl rfl rfl (by rw [hp3]; rfl) ?_
          refine O.alloc [.int .i64 0, .int .i64 0] ze131 H rfl rfl rfl ?_
          intro b6 w2 H hb6
          refine O.store 4 0 [.int .i64 b.1.clock, .int .i64 b.1.at_] [.int .i64 b.1.clock, .int .i64 b.1.at_] sz131 H rfl rfl rfl rfl rfl rfl ⟨⟨rfl, rfl⟩, rfl⟩ (one_cons rfl (one_cons rfl one_nil)) ?_
          intro w3 H
          refine O.assign (v := .int .i64 b.2) rfl rfl rfl ?_
          refine WL.nil ?_
          have hnext : pairB a b = false → pre.Perm (((doneL es.toList kv seen).flatMap fun a => rowOf g a kv) ++ rowOf g a (doneL es.toList kv (seen2.push e'.born))) := by
            intro hq
            refine k2.trans ((List.Perm.refl _).append ?_)
            have := row_perm g a hp4
            rw [row_cons, if_neg (by rw [hq]; decide)] at this
            exact this.symm
          refine W.seq ?_
          refine W.region ?_
          refine O.fieldAddr fd131_0 rfl rfl rfl ?_
          refine O.load sc3 rfl rfl rfl (H.cell 2 rfl 0 _ rfl) ?_
          refine O.fieldAddr fd131_0 rfl rfl rfl ?_
          refine O.load sc3 rfl rfl rfl (H.cell 4 rfl 0 _ rfl) ?_
          refine O.eql rfl rfl rfl rfl ?_
          cases hq1 : (a.1.clock == b.1.clock) with
          | false =>
            refine O.move (v := .bool false) rfl rfl rfl ?_
            refine O.skip rfl rfl ?_
            refine O.skip rfl rfl ?_
            refine O.skip rfl rfl ?_
            refine O.pick_false (v := .bool false) rfl rfl rfl rfl ?_
            refine O.move (v := .bool false) rfl rfl rfl ?_
            iterate 15 refine O.skip rfl rfl ?_
            refine O.pick_false (v := .bool false) rfl rfl rfl rfl ?_
            refine WL.nil ?_
            refine W.cond_false rfl ?_
            refine W.skip ?_
            have H := H.keep [0, 1, 2, 3] [consI hc pre C, iterX bi r clock (seen.push e.born) clock, boxI b4 131 [.int .i64 a.1.clock, .int .i64 a.1.at_], iterX bj r clock (seen2.push e'.born) clock] rfl (by decide)
            exact ⟨seen2.push e'.born, pre, C, by omega, hnext (by unfold pairB; rw [hq1]; rfl), rfl, rfl, rfl, rfl, rfl, rfl, rfl, H⟩
          | true =>
            refine O.move (v := .bool true) rfl rfl rfl ?_
            refine O.move (v := .int .i64 a.2) rfl rfl rfl ?_
            refine O.move (v := .int .i64 b.2) rfl rfl rfl ?_
            refine O.neq rfl rfl rfl rfl ?_
            refine O.pick_true (v := .bool (a.2 != b.2)) rfl rfl rfl rfl ?_
            refine O.move (v := .bool (a.2 != b.2)) rfl rfl rfl ?_
            cases hq2 : (a.2 != b.2) with
            | false =>
              iterate 15 refine O.skip rfl rfl ?_
              refine O.pick_false (v := .bool false) rfl rfl rfl rfl ?_
              refine WL.nil ?_
              refine W.cond_false rfl ?_
              refine W.skip ?_
              have H := H.keep [0, 1, 2, 3] [consI hc pre C, iterX bi r clock (seen.push e.born) clock, boxI b4 131 [.int .i64 a.1.clock, .int .i64 a.1.at_], iterX bj r clock (seen2.push e'.born) clock] rfl (by decide)
              exact ⟨seen2.push e'.born, pre, C, by omega, hnext (by unfold pairB; rw [hq1, hq2]; rfl), rfl, rfl, rfl, rfl, rfl, rfl, rfl, H⟩
            | true =>
              have hpair : pairB a b = true := by unfold pairB; rw [hq1, hq2]; rfl
              have hedge := hm a ha1 b hp1 hpair
              unfold edgeOf at hedge
              obtain ⟨dt, hdt, hedge⟩ := bind_some hedge
              obtain ⟨c, hcy, hedge⟩ := bind_some hedge
              have hedge := (Option.some.inj hedge).symm
              refine O.move (v := .func (.yield l) #[] #[]) rfl rfl rfl ?_
              refine O.move (v := .int .i64 a.2) rfl rfl rfl ?_
              refine O.move (v := .int .i64 b.2) rfl rfl rfl ?_
              have hK := hk _ (InvI.kp H)
              refine O.loadA (q := px) [vx0, vx1] ag53 rfl rfl rfl rfl hK.2.2.1 ?_
              refine O.fieldAddr fd131_0 rfl rfl rfl ?_
              refine O.load sc3 rfl rfl rfl (H.cell 2 rfl 0 _ rfl) ?_
              refine O.fieldAddr fd131_1 rfl rfl rfl ?_
              refine O.load sc3 rfl rfl rfl (H.cell 2 rfl 1 _ rfl) ?_
              refine O.fieldAddr fd131_1 rfl rfl rfl ?_
              refine O.load sc3 rfl rfl rfl (H.cell 4 rfl 1 _ rfl) ?_
              refine O.sub rfl rfl rfl rfl hdt ?_
              refine O.call Try.call82 rfl rfl rfl (c_sight_carry _ _ x hK.2.2.2.1 hK.2.2.2.2 _ _ hcy) ?_
              rintro _ w4 hb7 rfl
              have H := H.ext hb7
              refine O.build (v := .agg #[.int .i64 a.2, .int .i64 b.2, .int .i64 c, .int .i64 (-1)]) (fun w => bd137_all _ _ _ _ w) rfl rfl rfl ?_
              have hcomp : ∃ rest, (pre ++ g a b :: rest).Perm (kv.flatMap fun a => rowOf g a kv) := by
                have p1 := done_left es.toList kv (seen.push e.born) e6
                have p2 := done_left es.toList kv (seen2.push e'.born) e6
                refine ⟨rowOf g a (leftL es.toList kv (seen2.push e'.born)) ++ (leftL es.toList kv (seen.push e.born)).flatMap (fun a => rowOf g a kv), ?_⟩
                rw [List.perm_iff_count]
                intro z
                have q1 := (p1.flatMap_right (fun a => rowOf g a kv)).count_eq z
                have q2 := (ha4.flatMap_right (fun a => rowOf g a kv)).count_eq z
                have q3 := (row_perm g a p2).count_eq z
                have q4 := (row_perm g a hp4).count_eq z
                have q5 := k2.count_eq z
                rw [row_cons, if_pos hpair] at q4
                rw [List.flatMap_append] at q1
                rw [List.flatMap_cons] at q2
                rw [row_append] at q3
                simp only [List.count_append, List.count_cons] at q1 q2 q3 q4 q5 ⊢
                omega
              refine O.yield (g a b) [.agg #[.int .i64 a.2, .int .i64 b.2, .int .i64 c, .int .i64 (-1)]] H hcomp (by rw [hedge]; rfl) rfl rfl rfl rfl ?_ ?_
              · intro w5 C5 H
                refine O.not rfl rfl rfl ?_
                refine O.pick_true (v := .bool false) rfl rfl rfl rfl ?_
                refine WL.nil ?_
                refine W.cond_false rfl ?_
                refine W.skip ?_
                have H := H.keep [0, 1, 2, 3] [consI hc (pre ++ [g a b]) C5, iterX bi r clock (seen.push e.born) clock, boxI b4 131 [.int .i64 a.1.clock, .int .i64 a.1.at_], iterX bj r clock (seen2.push e'.born) clock] rfl (by decide)
                refine ⟨seen2.push e'.born, pre ++ [g a b], C5, by omega, ?_, rfl, rfl, rfl, rfl, rfl, rfl, rfl, H⟩
                rw [List.perm_iff_count]
                intro z
                have q4 := (row_perm g a hp4).count_eq z
                have q5 := k2.count_eq z
                rw [row_cons, if_pos hpair] at q4
                simp only [List.count_append, List.count_cons, List.count_nil] at q4 q5 ⊢
                omega
              · intro w5 C5 H
                refine O.not rfl rfl rfl ?_
                refine O.pick_true (v := .bool true) rfl rfl rfl rfl ?_
                refine WL.nil ?_
                refine W.cond_true rfl ?_
                refine W.ret ?_
                exact ends0 Try.results81 ⟨_, _, rfl, .inr (H.items _ (List.mem_cons_self ..)).1⟩
      · rintro f w ⟨seen2, pre, C, k1, k2, hf16, hf9, hf5, hf4, hf0, hf1, hf2, H⟩
        obtain ⟨u1, rfl⟩ := up7 hf16 hf9 hf5 hf4 hf0 hf1 hf2
        have hb := (hk _ (InvI.kp H)).2.1
        refine W.seq ?_
        refine W.region ?_
        refine O.next 3 H rfl hb e5 (Nat.le_refl _) rfl rfl rfl ?_ ?_
        · intro h0
          have hall := doneL_all es.toList kv seen2 e6 (left_none h0)
          rw [hall] at k2
          refine O.extract (v := .bool false) rfl rfl rfl rfl ?_
          refine WL.nil ?_
          refine W.seq ?_
          refine W.cond_false rfl ?_
          refine W.exit ?_
          refine xT rfl ?_
          have H := H.keep [0, 1] [consI hc pre C, iterX bi r clock (seen.push e.born) clock] rfl (by decide)
          refine ⟨seen.push e.born, pre, C, by omega, ?_, rfl, rfl, rfl, rfl, H⟩
          refine k2.trans ?_
          have q := (ha4.flatMap_right (fun a => rowOf g a kv)).symm
          rw [List.flatMap_cons] at q
          exact List.perm_append_comm.trans q
        · intro e' he' w1 H hb
          exfalso
          obtain ⟨he3, he4⟩ := left_mem he'
          obtain ⟨b, hp1, hp2, hp3, hp4⟩ := doneL_push seen2 e' he4 es.toList kv e2 e4 he3
          have hlen := hp4.length_eq
          have hle := doneL_le es.toList kv (seen2.push e'.born)
          rw [List.length_cons] at hlen
          simp at k1
          omega
  · rintro f w ⟨seen, pre, C, h1, h2, hf9, hf0, hf1, hf2, H⟩
    obtain ⟨u1, rfl⟩ := up4 hf9 hf0 hf1 hf2
    have hb := (hk _ (InvI.kp H)).2.1
    refine W.seq ?_
    refine W.region ?_
    refine O.next 1 H rfl hb e5 (Nat.le_refl _) rfl rfl rfl ?_ ?_
    · intro h0
      have hall := doneL_all es.toList kv seen e6 (left_none h0)
      rw [hall] at h2
      refine O.extract (v := .bool false) rfl rfl rfl rfl ?_
      refine WL.nil ?_
      refine W.seq ?_
      refine W.cond_false rfl ?_
      refine W.exit ?_
      refine xT rfl ?_
      exact ends0 Try.results81 ⟨_, C, rfl, .inl ⟨_, h2, (H.items _ (List.mem_cons_self ..)).1⟩⟩
    · intro e he w1 H hb
      exfalso
      obtain ⟨he1, he2⟩ := left_mem he
      obtain ⟨a, ha1, ha2, ha3, ha4⟩ := doneL_push seen e he2 es.toList kv e2 e4 he1
      have hlen := ha4.length_eq
      have hle := doneL_le es.toList kv (seen.push e.born)
      rw [List.length_cons] at hlen
      simp at h1
      omega

theorem c_sight_carries {w0 : World} (va0_0 : Value) (va0_1 : Value) (a0 : GNet) (ha0_0 : SliceR w0 va0_0 a0.Rates) (ha0_1 : SliceR w0 va0_1 a0.Sights) (va1 : Value) (a1 : (List (GPoint × Int))) (ha1 : MapR w0 va1 a1) :
  Calls Try.prog 66 #[(.agg #[va0_0, va0_1]), va1] w0 (Ret w0 fun w v => ∃ b2 : Nat, ∃ b1 : Nat, v = (.func (.func 81) #[] #[(.pointer (some ⟨b2, 0, none⟩)), (.pointer (some ⟨b1, 0, none⟩))]) ∧ Inv w0 w [boxI b2 126 [va1], boxI b1 53 [va0_0, va0_1]]) := by
 refine calls_of_W Try.func66 rfl Try.ntmps66 (Nat.le_of_ble_eq_true rfl) ?_
 have H := Inv.start (w := w0)
 refine W.seq ?_
 refine W.region ?_
 refine O.box [va0_0, va0_1] H rfl rfl rfl rfl ?_
 intro b1 w1 H hb1
 refine O.box [va1] H rfl rfl rfl (MapR.cells1 (H.argM ha1)) ?_
 intro b2 w2 H hb2
 refine O.assign (v := .nilFunc) rfl rfl rfl ?_
 refine WL.nil ?_
 refine W.seq ?_
 refine W.region ?_
 refine O.makeFunc rfl rfl rfl rfl ?_
 refine O.assign (v := (.func (.func 81) #[] #[(.pointer (some ⟨b2, 0, none⟩)), (.pointer (some ⟨b1, 0, none⟩))])) rfl rfl rfl ?_
 refine WL.nil ?_
 refine W.ret ?_
 exact ends1 Try.results66 rfl ⟨_, rfl, H.base, ⟨_, _, rfl, H.pick [1, 0] [boxI b2 126 [va1], boxI b1 53 [va0_0, va0_1]] rfl (by decide)⟩⟩

set_option maxRecDepth 20000 in
theorem c_sight_graphOf {w0 : World} (va0_0 : Value) (va0_1 : Value) (a0 : GNet) (ha0_0 : SliceR w0 va0_0 a0.Rates) (ha0_1 : SliceR w0 va0_1 a0.Sights) (va1 : Value) (a1 : (List GPoint)) (ha1 : SliceR w0 va1 a1) {r0 : List (GPoint × Int)} {r1 : List GEdge} (hm : sight_graphOf a0 a1 = some (r0, r1)) :
  Calls Try.prog 48 #[(.agg #[va0_0, va0_1]), va1] w0 (Ret w0 fun w v => ∃ (br rm : Nat) (vs : Value) (st : List GEdge), v = .pointer (some ⟨br, 0, none⟩) ∧ st.Perm r1 ∧ Inv w0 w [boxI br 129 [.map (some rm), vs], mapI rm r0, ownI (α := GEdge) vs 137 st]) := by
 unfold sight_graphOf at hm
 refine calls_of_WM Try.func48 rfl Try.ntmps48 (Nat.le_of_ble_eq_true rfl) ?_
 have H := Inv.startM (w0 := w0)
 have hmk : (fr0 #[(.agg #[va0_0, va0_1]), va1]).marks = [] := rfl
 refine W.seq ?_
 refine W.region ?_
 refine O.box [va0_0, va0_1] H rfl rfl rfl rfl ?_
 intro b1 w1 H hb1
 refine O.assign (v := (.pointer none)) rfl rfl rfl ?_
 refine WL.nil ?_
 refine W.seq ?_
 refine W.region ?_
 refine O.makeMap (α := GPoint) (β := Int) H rfl rfl ?_
 intro m1 w2 H hb2
 have H := H.addNil (α := GEdge) (E := 137)
 refine O.build (v := .agg #[(.map (some m1)), (.slice none 0 0)]) (fun w => bd129_0 _ w) rfl rfl rfl ?_
 refine O.box [(.map (some m1)), (.slice none 0 0)] H rfl rfl rfl rfl ?_
 intro b2 w3 H hb3
 refine O.alloc [(.pointer none)] ze104 H rfl rfl rfl ?_
 intro b3 w4 H hb4
 refine O.store 5 0 [(.pointer (some ⟨b2, 0, none⟩))] [(.pointer (some ⟨b2, 0, none⟩))] sz104 H rfl rfl rfl rfl rfl rfl ⟨⟨rfl, rfl⟩, rfl⟩ (one_cons rfl one_nil) ?_
 intro w5 H
 refine WL.nil ?_
 refine W.seq ?_
 refine W.region ?_
 refine O.makeFunc rfl rfl rfl rfl ?_
 refine O.assign (v := (.func (.func 64) #[] #[(.pointer (some ⟨b3, 0, none⟩))])) rfl rfl rfl ?_
 refine WL.nil ?_
 refine W.seq ?_
 refine W.seq ?_
 refine W.region ?_
 refine O.move (v := va1) rfl rfl rfl ?_
 refine O.lenS Try.underlying125 (H.arg ha1) rfl rfl rfl ?_
 refine O.move (v := (.int .i64 0)) rfl rfl rfl ?_
 refine WL.nil ?_
 obtain ⟨s1, hm1, hm⟩ := bind_some hm
 refine W.via (fun f w => ∃ ms5 : List Nat, f 2 = (.pointer (some ⟨b1, 0, none⟩)) ∧ f 5 = (.pointer (some ⟨b3, 0, none⟩)) ∧ f 6 = (.func (.func 64) #[] #[(.pointer (some ⟨b3, 0, none⟩))]) ∧ f.marks = ms5 ∧ Inv w0 w [marksI ms5, boxI b1 53 [va0_0, va0_1], mapI (K := GPoint) (V := Int) m1 s1, ownI (α := GEdge) (.slice none 0 0) 137 ([] : List GEdge), boxI b2 129 [(.map (some m1)), (.slice none 0 0)], boxI b3 104 [(.pointer (some ⟨b2, 0, none⟩))]]) ?_ ?_
 ·
  refine W.block ?_
  refine W.rangeL (i := 0) hm1 (fun rem ik1 s f w => ∃ z2 : (List (GPoint × Int)), ∃ ms3 : List Nat, z2 = s ∧ a1.drop ik1 = rem ∧ f 20 = .int .i64 (ik1 : Int) ∧ f 19 = (.int .i64 ((a1.length : Nat) : Int)) ∧ f 2 = (.pointer (some ⟨b1, 0, none⟩)) ∧ f 5 = (.pointer (some ⟨b3, 0, none⟩)) ∧ f 6 = (.func (.func 64) #[] #[(.pointer (some ⟨b3, 0, none⟩))]) ∧ f 18 = va1 ∧ f.marks = ms3 ∧ Inv w0 w [marksI ms3, boxI b1 53 [va0_0, va0_1], mapI (K := GPoint) (V := Int) m1 z2, ownI (α := GEdge) (.slice none 0 0) 137 ([] : List GEdge), boxI b2 129 [(.map (some m1)), (.slice none 0 0)], boxI b3 104 [(.pointer (some ⟨b2, 0, none⟩))]]) ?_ ?_ ?_
  ·
   exact ⟨_, [], rfl, List.drop_zero, rfl, rfl, rfl, rfl, rfl, rfl, hmk, H⟩
  ·
   rintro yk1 xs ik1 _ st f w ⟨z2, ms3, rfl, hdropk1, hf20, hf19, hf2, hf5, hf6, hf18, hmk, H⟩ hm2
   have hltk1 := drop_lt hdropk1; have hixk1 := drop_idx hdropk1
   obtain ⟨u1, rfl⟩ := up6 hf20 hf19 hf2 hf5 hf6 hf18
   have hinck1 := addI_lt hltk1 (H.arg ha1).len_le
   refine W.seq ?_
   refine W.region ?_
   refine O.lss rfl rfl rfl rfl ?_
   refine WL.nil ?_
   refine W.seq ?_
   refine W.cond_true (congrArg Value.bool (decide_eq_true hltk1)) ?_
   refine W.skip ?_
   refine W.seq ?_
   refine W.block ?_
   refine W.seq ?_
   refine W.region ?_
   obtain ⟨p1, hp1, hrp1⟩ := fix_indexAddr Try.underlying125 sz131 ha1 hixk1
   refine hrp1 rfl rfl rfl rfl ?_
   refine O.loadA [(.int .i64 yk1.clock), (.int .i64 yk1.at_)] ag131 rfl rfl rfl rfl ((hp1.mono H.base).flat) ?_
   refine O.alloc [(.int .i64 0), (.int .i64 0)] ze131 H rfl rfl rfl ?_
   intro b4 w6 H hb5
   refine O.store 6 0 [(.int .i64 yk1.clock), (.int .i64 yk1.at_)] [(.int .i64 yk1.clock), (.int .i64 yk1.at_)] sz131 H rfl rfl rfl rfl rfl rfl ⟨⟨rfl, rfl⟩, rfl⟩ (one_cons rfl (one_cons rfl one_nil)) ?_
   intro w7 H
   refine WL.nil ?_
   refine W.region ?_
   refine O.move (v := (.func (.func 64) #[] #[(.pointer (some ⟨b3, 0, none⟩))])) rfl rfl rfl ?_
   refine O.loadA [(.int .i64 yk1.clock), (.int .i64 yk1.at_)] ag131 rfl rfl rfl rfl (H.cell 6 rfl) ?_
   have H := H.pick [0, 1, 3, 6, 5, 4, 2] ([marksI ms3, boxI b1 53 [va0_0, va0_1], ownI (α := GEdge) (.slice none 0 0) 137 ([] : List GEdge), boxI b4 131 [(.int .i64 yk1.clock), (.int .i64 yk1.at_)]] ++ (numItems b3 b2 m1 (.slice none 0 0) z2)) rfl (by decide)
   refine O.callFV [marksI ms3, boxI b1 53 [va0_0, va0_1], ownI (α := GEdge) (.slice none 0 0) 137 ([] : List GEdge), boxI b4 131 [(.int .i64 yk1.clock), (.int .i64 yk1.at_)]] (numItems b3 b2 m1 (.slice none 0 0) z2) H Try.call64 rfl rfl rfl rfl (c_num b3 b2 m1 (.slice none 0 0) z2 yk1 (InvD.frame H)) ?_
   intro vq w8 Lq H hvq
   obtain ⟨rfl, rfl⟩ := hvq
   have H := H.pick [0, 1, 6, 2, 5, 4, 3] [marksI ms3, boxI b1 53 [va0_0, va0_1], mapI (K := GPoint) (V := Int) m1 (sight_num z2 yk1).2, ownI (α := GEdge) (.slice none 0 0) 137 ([] : List GEdge), boxI b2 129 [(.map (some m1)), (.slice none 0 0)], boxI b3 104 [(.pointer (some ⟨b2, 0, none⟩))], boxI b4 131 [(.int .i64 yk1.clock), (.int .i64 yk1.at_)]] rfl (by decide)
   refine WL.nil ?_
   refine W.region ?_
   refine O.add rfl rfl rfl rfl hinck1 ?_
   refine O.move (v := .int .i64 ((ik1 : Int) + 1)) rfl rfl rfl ?_
   refine WL.nil ?_
   have H := H.keep [0, 1, 2, 3, 4, 5] [marksI ms3, boxI b1 53 [va0_0, va0_1], mapI (K := GPoint) (V := Int) m1 (sight_num z2 yk1).2, ownI (α := GEdge) (.slice none 0 0) 137 ([] : List GEdge), boxI b2 129 [(.map (some m1)), (.slice none 0 0)], boxI b3 104 [(.pointer (some ⟨b2, 0, none⟩))]] rfl (by decide)
   obtain rfl := Option.some.inj hm2
   exact ⟨_, rfl, _, ms3, rfl, drop_next hdropk1, rfl, rfl, rfl, rfl, rfl, rfl, hmk, H⟩
  ·
   rintro ik1 _ f w ⟨z2, ms3, rfl, hdropk1, hf20, hf19, hf2, hf5, hf6, hf18, hmk, H⟩ hfin
   have hltk1 := drop_end hdropk1
   obtain ⟨u2, rfl⟩ := up6 hf20 hf19 hf2 hf5 hf6 hf18
   refine W.seq ?_
   refine W.region ?_
   refine O.lss rfl rfl rfl rfl ?_
   refine WL.nil ?_
   refine W.seq ?_
   refine W.cond_false (congrArg Value.bool (decide_eq_false hltk1)) ?_
   refine W.exit ?_
   have hq : z2 = s1 := hfin
   subst hq
   refine xT rfl ?_
   exact ⟨ms3, rfl, rfl, rfl, hmk, H⟩
 ·
  rintro f w ⟨ms5, hf2, hf5, hf6, hmk, H⟩
  obtain ⟨u3, rfl⟩ := up3 hf2 hf5 hf6
  refine W.seq ?_
  refine W.seq ?_
  refine W.region ?_
  refine O.fieldAddr fd53_1 rfl rfl rfl ?_
  refine O.load sc51 rfl rfl rfl (H.cell 1 rfl 1 _ rfl) ?_
  refine O.lenS Try.underlying51 (H.arg ha0_1) rfl rfl rfl ?_
  obtain ⟨t1, ht1, hm⟩ := bind_some hm
  refine O.mul rfl rfl rfl rfl ht1 ?_
  refine O.move (v := (.int .i64 0)) rfl rfl rfl ?_
  refine WL.nil ?_
  obtain ⟨⟨s2, s3⟩, hm3, hm⟩ := bind_some hm
  refine W.via (fun f w => ∃ ms12 : List Nat, ∃ v6 : Value, f 2 = (.pointer (some ⟨b1, 0, none⟩)) ∧ f 5 = (.pointer (some ⟨b3, 0, none⟩)) ∧ f.marks = ms12 ∧ Inv w0 w [marksI ms12, boxI b1 53 [va0_0, va0_1], mapI (K := GPoint) (V := Int) m1 s2, ownI (α := GEdge) v6 137 s3, boxI b2 129 [(.map (some m1)), v6], boxI b3 104 [(.pointer (some ⟨b2, 0, none⟩))]]) ?_ ?_
  ·
   refine W.block ?_
   obtain ⟨hbdik2, hm3⟩ := chk_some hm3
   refine W.rangeN (i := 0) hm3 (fun rem ik2 s f w => ∃ z8 : (List (GPoint × Int)), ∃ z9 : (List GEdge), ∃ ms10 : List Nat, ∃ v4 : Value, (z8, z9) = s ∧ (ik2 : Int) + rem = max 0 t1 ∧ f 32 = .int .i64 (ik2 : Int) ∧ f 31 = (.int .i64 t1) ∧ f 2 = (.pointer (some ⟨b1, 0, none⟩)) ∧ f 5 = (.pointer (some ⟨b3, 0, none⟩)) ∧ f 6 = (.func (.func 64) #[] #[(.pointer (some ⟨b3, 0, none⟩))]) ∧ f.marks = ms10 ∧ Inv w0 w [marksI ms10, boxI b1 53 [va0_0, va0_1], mapI (K := GPoint) (V := Int) m1 z8, ownI (α := GEdge) v4 137 z9, boxI b2 129 [(.map (some m1)), v4], boxI b3 104 [(.pointer (some ⟨b2, 0, none⟩))]]) ?_ ?_ ?_
   ·
    exact ⟨_, _, ms5, (.slice none 0 0), rfl, rangeN_start, rfl, rfl, rfl, rfl, rfl, hmk, H⟩
   ·
    rintro k ik2 _ st f w ⟨z8, z9, ms10, v4, rfl, hdropk2, hf32, hf31, hf2, hf5, hf6, hmk, H⟩ hm4
    have hltk2 := rangeN_lt hdropk2
    obtain ⟨u4, rfl⟩ := up5 hf32 hf31 hf2 hf5 hf6
    have hinck2 := addI_lt hltk2 (inI_iff.1 hbdik2).2
    refine W.seq ?_
    refine W.region ?_
    refine O.lss rfl rfl rfl rfl ?_
    refine WL.nil ?_
    refine W.seq ?_
    refine W.cond_true (congrArg Value.bool (decide_eq_true hltk2)) ?_
    refine W.skip ?_
    refine W.seq ?_
    refine W.block ?_
    refine W.seq ?_
    refine W.region ?_
    refine O.move (v := (.int .i64 (ik2 : Int))) rfl rfl rfl ?_
    refine O.assign (v := (.int .i64 (ik2 : Int))) rfl rfl rfl ?_
    refine WL.nil ?_
    refine W.seq ?_
    refine W.region ?_
    refine O.loadA [va0_0, va0_1] ag53 rfl rfl rfl rfl (H.cell 1 rfl) ?_
    refine O.move (v := (.int .i64 (ik2 : Int))) rfl rfl rfl ?_
    obtain ⟨⟨t2, t3, t4⟩, hy1, hm4⟩ := bind_some hm4
    refine O.call Try.call65 rfl rfl rfl (c_sight_taken _ _ (GNet.mk a0.Rates a0.Sights) (H.arg ha0_0) (H.arg ha0_1) _ hy1) ?_
    rintro _ w9 hb6 rfl
    have H := H.ext hb6
    refine O.move (v := (.tuple #[(.agg (Flat.cells t2).toArray), (.agg (Flat.cells t3).toArray), (.int .i64 t4)])) rfl rfl rfl ?_
    refine O.extract (v := (.agg (Flat.cells t2).toArray)) rfl rfl rfl rfl ?_
    refine O.extract (v := (.agg (Flat.cells t3).toArray)) rfl rfl rfl rfl ?_
    refine O.extract (v := (.int .i64 t4)) rfl rfl rfl rfl ?_
    refine O.alloc [(.int .i64 0), (.int .i64 0)] ze131 H rfl rfl rfl ?_
    intro b5 w10 H hb7
    refine O.alloc [(.int .i64 0), (.int .i64 0)] ze131 H rfl rfl rfl ?_
    intro b6 w11 H hb8
    refine O.store 6 0 [(.int .i64 t2.clock), (.int .i64 t2.at_)] [(.int .i64 t2.clock), (.int .i64 t2.at_)] sz131 H rfl rfl rfl rfl rfl rfl ⟨⟨rfl, rfl⟩, rfl⟩ (one_cons rfl (one_cons rfl one_nil)) ?_
    intro w12 H
    refine O.store 7 0 [(.int .i64 t3.clock), (.int .i64 t3.at_)] [(.int .i64 t3.clock), (.int .i64 t3.at_)] sz131 H rfl rfl rfl rfl rfl rfl ⟨⟨rfl, rfl⟩, rfl⟩ (one_cons rfl (one_cons rfl one_nil)) ?_
    intro w13 H
    refine O.assign (v := (.int .i64 t4)) rfl rfl rfl ?_
    refine WL.nil ?_
    obtain ⟨t5, ht5, hm4⟩ := bind_some hm4
    have H := H.addGone
    refine W.drawD 16 [[], [], [1], [1, 2], [1, 2, 3], [], [], [5, 6], [], [], [5, 6, 7, 8, 9], [], [], [5, 6, 7, 8, 9, 10, 11, 12], [5, 6, 7, 8, 9, 10, 11, 12, 13], [1, 2, 3, 4, 5, 6, 7, 8, 9, 10, 11, 12, 13, 14]] [[], [2, 3, 4, 15], [3, 4, 15], [4, 15], [15], [7, 10, 13, 14, 15], [7, 10, 13, 14, 15], [10, 13, 14, 15], [10, 13, 14, 15], [10, 13, 14, 15], [13, 14, 15], [13, 14, 15], [13, 14, 15], [14, 15], [15], []] (fun S f w => ∃ v7 : Value, ∃ v8 : Value, Inv w0 w [] ∧ f 2 = (.pointer (some ⟨b1, 0, none⟩)) ∧ f 5 = (.pointer (some ⟨b3, 0, none⟩)) ∧ f 6 = (.func (.func 64) #[] #[(.pointer (some ⟨b3, 0, none⟩))]) ∧ f 9 = (.int .i64 (ik2 : Int)) ∧ f 10 = (.pointer (some ⟨b5, 0, none⟩)) ∧ f 11 = (.pointer (some ⟨b6, 0, none⟩)) ∧ f 12 = (.int .i64 t4) ∧ f 31 = (.int .i64 t1) ∧ f 32 = (.int .i64 (ik2 : Int)) ∧ f.marks = ms10 ∧ (S 0 = true → f 42 = (.pointer (some ⟨b2, 0, none⟩))) ∧ (S 1 = true → f 43 = (.pointer (some ⟨b2, 0, none⟩))) ∧ (S 2 = true → f 44 = (.pointer (some ⟨b2, 0, none⟩))) ∧ (S 3 = true → f 45 = (.pointer (some (Addr.add (Addr.mk b2 0 none) 1)))) ∧ (S 4 = true → f 46 = v4) ∧ (S 5 = true → f 47 = (.func (.func 64) #[] #[(.pointer (some ⟨b3, 0, none⟩))])) ∧ (S 6 = true → f 48 = (.agg (Flat.cells t2).toArray)) ∧ (S 7 = true → f 49 = (.int .i64 (sight_num z8 t2).1)) ∧ (S 8 = true → f 50 = (.func (.func 64) #[] #[(.pointer (some ⟨b3, 0, none⟩))])) ∧ (S 9 = true → f 51 = (.agg (Flat.cells t3).toArray)) ∧ (S 10 = true → f 52 = (.int .i64 (sight_num (sight_num z8 t2).2 t3).1)) ∧ (S 11 = true → f 53 = (.int .i64 t4)) ∧ (S 12 = true → f 54 = (.int .i64 (ik2 : Int))) ∧ (S 13 = true → f 55 = (.agg (Flat.cells (GEdge.mk (sight_num z8 t2).1 (sight_num (sight_num z8 t2).2 t3).1 t4 (ik2 : Int))).toArray)) ∧ (S 14 = true → f 56 = v7) ∧ (S 15 = true → f 57 = v8) ∧ (S 10 = true → S 7 = true) ∧ (S 14 = true → S 7 = true) ∧ (S 14 = true → S 10 = true) ∧ (S 15 = true → S 7 = true) ∧ (S 15 = true → S 10 = true) ∧ (S 15 = true → S 14 = true) ∧ (S 7 = false → S 10 = false → S 14 = false → S 15 = false → Inv w0 w [marksI ms10, boxI b1 53 [va0_0, va0_1], mapI (K := GPoint) (V := Int) m1 z8, ownI (α := GEdge) v4 137 z9, boxI b2 129 [(.map (some m1)), v4], boxI b3 104 [(.pointer (some ⟨b2, 0, none⟩))], boxI b5 131 [(.int .i64 t2.clock), (.int .i64 t2.at_)], boxI b6 131 [(.int .i64 t3.clock), (.int .i64 t3.at_)], goneI]) ∧ (S 7 = true → S 10 = false → S 14 = false → S 15 = false → Inv w0 w [marksI ms10, boxI b1 53 [va0_0, va0_1], mapI (K := GPoint) (V := Int) m1 (sight_num z8 t2).2, ownI (α := GEdge) v4 137 z9, boxI b2 129 [(.map (some m1)), v4], boxI b3 104 [(.pointer (some ⟨b2, 0, none⟩))], boxI b5 131 [(.int .i64 t2.clock), (.int .i64 t2.at_)], boxI b6 131 [(.int .i64 t3.clock), (.int .i64 t3.at_)], goneI]) ∧ (S 7 = true → S 10 = true → S 14 = false → S 15 = false → Inv w0 w [marksI ms10, boxI b1 53 [va0_0, va0_1], mapI (K := GPoint) (V := Int) m1 (sight_num (sight_num z8 t2).2 t3).2, ownI (α := GEdge) v4 137 z9, boxI b2 129 [(.map (some m1)), v4], boxI b3 104 [(.pointer (some ⟨b2, 0, none⟩))], boxI b5 131 [(.int .i64 t2.clock), (.int .i64 t2.at_)], boxI b6 131 [(.int .i64 t3.clock), (.int .i64 t3.at_)], goneI]) ∧ (S 7 = true → S 10 = true → S 14 = true → S 15 = false → Inv w0 w [marksI ms10, boxI b1 53 [va0_0, va0_1], mapI (K := GPoint) (V := Int) m1 (sight_num (sight_num z8 t2).2 t3).2, ownI (α := GEdge) v4 137 z9, boxI b2 129 [(.map (some m1)), v4], boxI b3 104 [(.pointer (some ⟨b2, 0, none⟩))], boxI b5 131 [(.int .i64 t2.clock), (.int .i64 t2.at_)], boxI b6 131 [(.int .i64 t3.clock), (.int .i64 t3.at_)], ownI (α := GEdge) v7 137 ([(GEdge.mk (sight_num z8 t2).1 (sight_num (sight_num z8 t2).2 t3).1 t4 (ik2 : Int))] : List GEdge)]) ∧ (S 7 = true → S 10 = true → S 14 = true → S 15 = true → Inv w0 w [marksI ms10, boxI b1 53 [va0_0, va0_1], mapI (K := GPoint) (V := Int) m1 (sight_num (sight_num z8 t2).2 t3).2, ownI (α := GEdge) v8 137 t5, boxI b2 129 [(.map (some m1)), v4], boxI b3 104 [(.pointer (some ⟨b2, 0, none⟩))], boxI b5 131 [(.int .i64 t2.clock), (.int .i64 t2.at_)], boxI b6 131 [(.int .i64 t3.clock), (.int .i64 t3.at_)], ownI (α := GEdge) v7 137 ([(GEdge.mk (sight_num z8 t2).1 (sight_num (sight_num z8 t2).2 t3).1 t4 (ik2 : Int))] : List GEdge)])) fol (by kernel_rfl) ?_ ?_ ?_
    ·
     exact fun d _ => ⟨.nilFunc, .nilFunc, ((H.ext (below_drawn d)).pick [] [] rfl (by decide)), rfl, rfl, rfl, rfl, rfl, rfl, rfl, rfl, rfl, hmk, nF, nF, nF, nF, nF, nF, nF, nF, nF, nF, nF, nF, nF, nF, nF, nF, nF, nF, nF, nF, nF, nF, (fun _ _ _ _ => H.ext (below_drawn d)), (fun a _ _ _ => nF a), (fun a _ _ _ => nF a), (fun a _ _ _ => nF a), (fun a _ _ _ => nF a)⟩
    ·
     refine ⟨?_, ⟨?_, ⟨?_, ⟨?_, ⟨?_, ⟨?_, ⟨?_, ⟨?_, ⟨?_, ⟨?_, ⟨?_, ⟨?_, ⟨?_, ⟨?_, ⟨?_, ⟨?_, trivial⟩⟩⟩⟩⟩⟩⟩⟩⟩⟩⟩⟩⟩⟩⟩⟩
     ·
      rintro S f w hS - - ⟨v7, v8, B, hf2, hf5, hf6, hf9, hf10, hf11, hf12, hf31, hf32, hmk, hd0, hd1, hd2, hd3, hd4, hd5, hd6, hd7, hd8, hd9, hd10, hd11, hd12, hd13, hd14, hd15, C10_7, C14_7, C14_10, C15_7, C15_10, C15_14, W0, W1, W2, W3, W4⟩
      obtain ⟨u5, rfl⟩ := up1 hf5
      rcases bool_ft (S 7) with e7 | e7
      ·
       rcases bool_ft (S 10) with e10 | e10
       ·
        rcases bool_ft (S 14) with e14 | e14
        ·
         rcases bool_ft (S 15) with e15 | e15
         ·
          have H := W0 e7 e10 e14 e15
          refine O.load sc104 rfl rfl rfl (H.cell 5 rfl 0 _ rfl) ?_
          exact WL.nil ⟨v7, v8, B, hf2, rfl, hf6, hf9, hf10, hf11, hf12, hf31, hf32, hmk, (fun _ => rfl), hd1, hd2, hd3, hd4, hd5, hd6, hd7, hd8, hd9, hd10, hd11, hd12, hd13, hd14, hd15, C10_7, C14_7, C14_10, C15_7, C15_10, C15_14, (fun _ _ _ _ => H), (fun a _ _ _ => nX e7 a), (fun a _ _ _ => nX e7 a), (fun a _ _ _ => nX e7 a), (fun a _ _ _ => nX e7 a)⟩
         ·
          exact nomatch (show true = false from (C15_7 e15).symm.trans e7)
        ·
         rcases bool_ft (S 15) with e15 | e15
         ·
          exact nomatch (show true = false from (C14_7 e14).symm.trans e7)
         ·
          exact nomatch (show true = false from (C14_7 e14).symm.trans e7)
       ·
        rcases bool_ft (S 14) with e14 | e14
        ·
         rcases bool_ft (S 15) with e15 | e15
         ·
          exact nomatch (show true = false from (C10_7 e10).symm.trans e7)
         ·
          exact nomatch (show true = false from (C10_7 e10).symm.trans e7)
        ·
         rcases bool_ft (S 15) with e15 | e15
         ·
          exact nomatch (show true = false from (C10_7 e10).symm.trans e7)
         ·
          exact nomatch (show true = false from (C10_7 e10).symm.trans e7)
      ·
       rcases bool_ft (S 10) with e10 | e10
       ·
        rcases bool_ft (S 14) with e14 | e14
        ·
         rcases bool_ft (S 15) with e15 | e15
         ·
          have H := W1 e7 e10 e14 e15
          refine O.load sc104 rfl rfl rfl (H.cell 5 rfl 0 _ rfl) ?_
          exact WL.nil ⟨v7, v8, B, hf2, rfl, hf6, hf9, hf10, hf11, hf12, hf31, hf32, hmk, (fun _ => rfl), hd1, hd2, hd3, hd4, hd5, hd6, hd7, hd8, hd9, hd10, hd11, hd12, hd13, hd14, hd15, C10_7, C14_7, C14_10, C15_7, C15_10, C15_14, (fun a _ _ _ => nT e7 a), (fun _ _ _ _ => H), (fun _ a _ _ => nX e10 a), (fun _ a _ _ => nX e10 a), (fun _ a _ _ => nX e10 a)⟩
         ·
          exact nomatch (show true = false from (C15_10 e15).symm.trans e10)
        ·
         rcases bool_ft (S 15) with e15 | e15
         ·
          exact nomatch (show true = false from (C14_10 e14).symm.trans e10)
         ·
          exact nomatch (show true = false from (C14_10 e14).symm.trans e10)
       ·
        rcases bool_ft (S 14) with e14 | e14
        ·
         rcases bool_ft (S 15) with e15 | e15
         ·
          have H := W2 e7 e10 e14 e15
          refine O.load sc104 rfl rfl rfl (H.cell 5 rfl 0 _ rfl) ?_
          exact WL.nil ⟨v7, v8, B, hf2, rfl, hf6, hf9, hf10, hf11, hf12, hf31, hf32, hmk, (fun _ => rfl), hd1, hd2, hd3, hd4, hd5, hd6, hd7, hd8, hd9, hd10, hd11, hd12, hd13, hd14, hd15, C10_7, C14_7, C14_10, C15_7, C15_10, C15_14, (fun a _ _ _ => nT e7 a), (fun _ a _ _ => nT e10 a), (fun _ _ _ _ => H), (fun _ _ a _ => nX e14 a), (fun _ _ a _ => nX e14 a)⟩
         ·
          exact nomatch (show true = false from (C15_14 e15).symm.trans e14)
        ·
         rcases bool_ft (S 15) with e15 | e15
         ·
          have H := W3 e7 e10 e14 e15
          refine O.load sc104 rfl rfl rfl (H.cell 5 rfl 0 _ rfl) ?_
          exact WL.nil ⟨v7, v8, B, hf2, rfl, hf6, hf9, hf10, hf11, hf12, hf31, hf32, hmk, (fun _ => rfl), hd1, hd2, hd3, hd4, hd5, hd6, hd7, hd8, hd9, hd10, hd11, hd12, hd13, hd14, hd15, C10_7, C14_7, C14_10, C15_7, C15_10, C15_14, (fun a _ _ _ => nT e7 a), (fun _ a _ _ => nT e10 a), (fun _ _ a _ => nT e14 a), (fun _ _ _ _ => H), (fun _ _ _ a => nX e15 a)⟩
         ·
          have H := W4 e7 e10 e14 e15
          refine O.load sc104 rfl rfl rfl (H.cell 5 rfl 0 _ rfl) ?_
          exact WL.nil ⟨v7, v8, B, hf2, rfl, hf6, hf9, hf10, hf11, hf12, hf31, hf32, hmk, (fun _ => rfl), hd1, hd2, hd3, hd4, hd5, hd6, hd7, hd8, hd9, hd10, hd11, hd12, hd13, hd14, hd15, C10_7, C14_7, C14_10, C15_7, C15_10, C15_14, (fun a _ _ _ => nT e7 a), (fun _ a _ _ => nT e10 a), (fun _ _ a _ => nT e14 a), (fun _ _ _ a => nT e15 a), (fun _ _ _ _ => H)⟩
     ·
      rintro S f w hS - ⟨e2, e3, e4, e15, -⟩ ⟨v7, v8, B, hf2, hf5, hf6, hf9, hf10, hf11, hf12, hf31, hf32, hmk, hd0, hd1, hd2, hd3, hd4, hd5, hd6, hd7, hd8, hd9, hd10, hd11, hd12, hd13, hd14, hd15, C10_7, C14_7, C14_10, C15_7, C15_10, C15_14, W0, W1, W2, W3, W4⟩
      obtain ⟨u6, rfl⟩ := up1 hf5
      rcases bool_ft (S 7) with e7 | e7
      ·
       rcases bool_ft (S 10) with e10 | e10
       ·
        rcases bool_ft (S 14) with e14 | e14
        ·
         have H := W0 e7 e10 e14 e15
         refine O.load sc104 rfl rfl rfl (H.cell 5 rfl 0 _ rfl) ?_
         exact WL.nil ⟨v7, v8, B, hf2, rfl, hf6, hf9, hf10, hf11, hf12, hf31, hf32, hmk, hd0, (fun _ => rfl), hd2, hd3, hd4, hd5, hd6, hd7, hd8, hd9, hd10, hd11, hd12, hd13, hd14, hd15, C10_7, C14_7, C14_10, C15_7, C15_10, C15_14, (fun _ _ _ _ => H), (fun a _ _ _ => nX e7 a), (fun a _ _ _ => nX e7 a), (fun a _ _ _ => nX e7 a), (fun a _ _ _ => nX e7 a)⟩
        ·
         exact nomatch (show true = false from (C14_7 e14).symm.trans e7)
       ·
        rcases bool_ft (S 14) with e14 | e14
        ·
         exact nomatch (show true = false from (C10_7 e10).symm.trans e7)
        ·
         exact nomatch (show true = false from (C10_7 e10).symm.trans e7)
      ·
       rcases bool_ft (S 10) with e10 | e10
       ·
        rcases bool_ft (S 14) with e14 | e14
        ·
         have H := W1 e7 e10 e14 e15
         refine O.load sc104 rfl rfl rfl (H.cell 5 rfl 0 _ rfl) ?_
         exact WL.nil ⟨v7, v8, B, hf2, rfl, hf6, hf9, hf10, hf11, hf12, hf31, hf32, hmk, hd0, (fun _ => rfl), hd2, hd3, hd4, hd5, hd6, hd7, hd8, hd9, hd10, hd11, hd12, hd13, hd14, hd15, C10_7, C14_7, C14_10, C15_7, C15_10, C15_14, (fun a _ _ _ => nT e7 a), (fun _ _ _ _ => H), (fun _ a _ _ => nX e10 a), (fun _ a _ _ => nX e10 a), (fun _ a _ _ => nX e10 a)⟩
        ·
         exact nomatch (show true = false from (C14_10 e14).symm.trans e10)
       ·
        rcases bool_ft (S 14) with e14 | e14
        ·
         have H := W2 e7 e10 e14 e15
         refine O.load sc104 rfl rfl rfl (H.cell 5 rfl 0 _ rfl) ?_
         exact WL.nil ⟨v7, v8, B, hf2, rfl, hf6, hf9, hf10, hf11, hf12, hf31, hf32, hmk, hd0, (fun _ => rfl), hd2, hd3, hd4, hd5, hd6, hd7, hd8, hd9, hd10, hd11, hd12, hd13, hd14, hd15, C10_7, C14_7, C14_10, C15_7, C15_10, C15_14, (fun a _ _ _ => nT e7 a), (fun _ a _ _ => nT e10 a), (fun _ _ _ _ => H), (fun _ _ a _ => nX e14 a), (fun _ _ a _ => nX e14 a)⟩
        ·
         have H := W3 e7 e10 e14 e15
         refine O.load sc104 rfl rfl rfl (H.cell 5 rfl 0 _ rfl) ?_
         exact WL.nil ⟨v7, v8, B, hf2, rfl, hf6, hf9, hf10, hf11, hf12, hf31, hf32, hmk, hd0, (fun _ => rfl), hd2, hd3, hd4, hd5, hd6, hd7, hd8, hd9, hd10, hd11, hd12, hd13, hd14, hd15, C10_7, C14_7, C14_10, C15_7, C15_10, C15_14, (fun a _ _ _ => nT e7 a), (fun _ a _ _ => nT e10 a), (fun _ _ a _ => nT e14 a), (fun _ _ _ _ => H), (fun _ _ _ a => nX e15 a)⟩
     ·
      rintro S f w hS ⟨e1, -⟩ ⟨e3, e4, e15, -⟩ ⟨v7, v8, B, hf2, hf5, hf6, hf9, hf10, hf11, hf12, hf31, hf32, hmk, hd0, hd1, hd2, t⟩
      have hf43 := hd1 e1
      obtain ⟨u7, rfl⟩ := up1 hf43
      have H := B
      refine O.nilCheck rfl rfl rfl ?_
      exact WL.nil ⟨v7, v8, B, hf2, hf5, hf6, hf9, hf10, hf11, hf12, hf31, hf32, hmk, hd0, hd1, (fun _ => rfl), t⟩
     ·
      rintro S f w hS ⟨e1, e2, -⟩ ⟨e4, e15, -⟩ ⟨v7, v8, B, hf2, hf5, hf6, hf9, hf10, hf11, hf12, hf31, hf32, hmk, hd0, hd1, hd2, hd3, t⟩
      have hf44 := hd2 e2
      obtain ⟨u8, rfl⟩ := up1 hf44
      have H := B
      refine O.fieldAddr fd129_1 rfl rfl rfl ?_
      exact WL.nil ⟨v7, v8, B, hf2, hf5, hf6, hf9, hf10, hf11, hf12, hf31, hf32, hmk, hd0, hd1, hd2, (fun _ => rfl), t⟩
     ·
      rintro S f w hS ⟨e1, e2, e3, -⟩ ⟨e15, -⟩ ⟨v7, v8, B, hf2, hf5, hf6, hf9, hf10, hf11, hf12, hf31, hf32, hmk, hd0, hd1, hd2, hd3, hd4, hd5, hd6, hd7, hd8, hd9, hd10, hd11, hd12, hd13, hd14, hd15, C10_7, C14_7, C14_10, C15_7, C15_10, C15_14, W0, W1, W2, W3, W4⟩
      have hf45 := hd3 e3
      obtain ⟨u9, rfl⟩ := up1 hf45
      rcases bool_ft (S 7) with e7 | e7
      ·
       rcases bool_ft (S 10) with e10 | e10
       ·
        rcases bool_ft (S 14) with e14 | e14
        ·
         have H := W0 e7 e10 e14 e15
         refine O.load sc127 rfl rfl rfl (H.cell 4 rfl 1 _ rfl) ?_
         exact WL.nil ⟨v7, v8, B, hf2, hf5, hf6, hf9, hf10, hf11, hf12, hf31, hf32, hmk, hd0, hd1, hd2, hd3, (fun _ => rfl), hd5, hd6, hd7, hd8, hd9, hd10, hd11, hd12, hd13, hd14, hd15, C10_7, C14_7, C14_10, C15_7, C15_10, C15_14, (fun _ _ _ _ => H), (fun a _ _ _ => nX e7 a), (fun a _ _ _ => nX e7 a), (fun a _ _ _ => nX e7 a), (fun a _ _ _ => nX e7 a)⟩
        ·
         exact nomatch (show true = false from (C14_7 e14).symm.trans e7)
       ·
        rcases bool_ft (S 14) with e14 | e14
        ·
         exact nomatch (show true = false from (C10_7 e10).symm.trans e7)
        ·
         exact nomatch (show true = false from (C10_7 e10).symm.trans e7)
      ·
       rcases bool_ft (S 10) with e10 | e10
       ·
        rcases bool_ft (S 14) with e14 | e14
        ·
         have H := W1 e7 e10 e14 e15
         refine O.load sc127 rfl rfl rfl (H.cell 4 rfl 1 _ rfl) ?_
         exact WL.nil ⟨v7, v8, B, hf2, hf5, hf6, hf9, hf10, hf11, hf12, hf31, hf32, hmk, hd0, hd1, hd2, hd3, (fun _ => rfl), hd5, hd6, hd7, hd8, hd9, hd10, hd11, hd12, hd13, hd14, hd15, C10_7, C14_7, C14_10, C15_7, C15_10, C15_14, (fun a _ _ _ => nT e7 a), (fun _ _ _ _ => H), (fun _ a _ _ => nX e10 a), (fun _ a _ _ => nX e10 a), (fun _ a _ _ => nX e10 a)⟩
        ·
         exact nomatch (show true = false from (C14_10 e14).symm.trans e10)
       ·
        rcases bool_ft (S 14) with e14 | e14
        ·
         have H := W2 e7 e10 e14 e15
         refine O.load sc127 rfl rfl rfl (H.cell 4 rfl 1 _ rfl) ?_
         exact WL.nil ⟨v7, v8, B, hf2, hf5, hf6, hf9, hf10, hf11, hf12, hf31, hf32, hmk, hd0, hd1, hd2, hd3, (fun _ => rfl), hd5, hd6, hd7, hd8, hd9, hd10, hd11, hd12, hd13, hd14, hd15, C10_7, C14_7, C14_10, C15_7, C15_10, C15_14, (fun a _ _ _ => nT e7 a), (fun _ a _ _ => nT e10 a), (fun _ _ _ _ => H), (fun _ _ a _ => nX e14 a), (fun _ _ a _ => nX e14 a)⟩
        ·
         have H := W3 e7 e10 e14 e15
         refine O.load sc127 rfl rfl rfl (H.cell 4 rfl 1 _ rfl) ?_
         exact WL.nil ⟨v7, v8, B, hf2, hf5, hf6, hf9, hf10, hf11, hf12, hf31, hf32, hmk, hd0, hd1, hd2, hd3, (fun _ => rfl), hd5, hd6, hd7, hd8, hd9, hd10, hd11, hd12, hd13, hd14, hd15, C10_7, C14_7, C14_10, C15_7, C15_10, C15_14, (fun a _ _ _ => nT e7 a), (fun _ a _ _ => nT e10 a), (fun _ _ a _ => nT e14 a), (fun _ _ _ _ => H), (fun _ _ _ a => nX e15 a)⟩
     ·
      rintro S f w hS - ⟨e7, e10, e13, e14, e15, -⟩ ⟨v7, v8, B, hf2, hf5, hf6, hf9, hf10, hf11, hf12, hf31, hf32, hmk, hd0, hd1, hd2, hd3, hd4, hd5, t⟩
      obtain ⟨u10, rfl⟩ := up1 hf6
      have H := t.2.2.2.2.2.2.2.2.2.2.2.2.2.2.2.2.1 e7 e10 e14 e15
      refine O.move (v := (.func (.func 64) #[] #[(.pointer (some ⟨b3, 0, none⟩))])) rfl rfl rfl ?_
      exact WL.nil ⟨v7, v8, B, hf2, hf5, rfl, hf9, hf10, hf11, hf12, hf31, hf32, hmk, hd0, hd1, hd2, hd3, hd4, (fun _ => rfl), t⟩
     ·
      rintro S f w hS - ⟨e7, e10, e13, e14, e15, -⟩ ⟨v7, v8, B, hf2, hf5, hf6, hf9, hf10, hf11, hf12, hf31, hf32, hmk, hd0, hd1, hd2, hd3, hd4, hd5, hd6, t⟩
      obtain ⟨u11, rfl⟩ := up1 hf10
      have H := t.2.2.2.2.2.2.2.2.2.2.2.2.2.2.2.1 e7 e10 e14 e15
      refine O.loadA [(.int .i64 t2.clock), (.int .i64 t2.at_)] ag131 rfl rfl rfl rfl (H.cell 6 rfl) ?_
      exact WL.nil ⟨v7, v8, B, hf2, hf5, hf6, hf9, rfl, hf11, hf12, hf31, hf32, hmk, hd0, hd1, hd2, hd3, hd4, hd5, (fun _ => rfl), t⟩
     ·
      rintro S f w hS ⟨e5, e6, -⟩ ⟨e10, e13, e14, e15, -⟩ ⟨v7, v8, B, hf2, hf5, hf6, hf9, hf10, hf11, hf12, hf31, hf32, hmk, hd0, hd1, hd2, hd3, hd4, hd5, hd6, hd7, hd8, hd9, hd10, hd11, hd12, hd13, hd14, hd15, C10_7, C14_7, C14_10, C15_7, C15_10, C15_14, W0, W1, W2, W3, W4⟩
      have hf47 := hd5 e5
      have hf48 := hd6 e6
      obtain ⟨u12, rfl⟩ := up2 hf47 hf48
      have H := W0 hS e10 e14 e15
      have H := H.pick [0, 1, 3, 6, 7, 8, 5, 4, 2] ([marksI ms10, boxI b1 53 [va0_0, va0_1], ownI (α := GEdge) v4 137 z9, boxI b5 131 [(.int .i64 t2.clock), (.int .i64 t2.at_)], boxI b6 131 [(.int .i64 t3.clock), (.int .i64 t3.at_)], goneI] ++ (numItems b3 b2 m1 v4 z8)) rfl (by decide)
      refine O.callFV [marksI ms10, boxI b1 53 [va0_0, va0_1], ownI (α := GEdge) v4 137 z9, boxI b5 131 [(.int .i64 t2.clock), (.int .i64 t2.at_)], boxI b6 131 [(.int .i64 t3.clock), (.int .i64 t3.at_)], goneI] (numItems b3 b2 m1 v4 z8) H Try.call64 rfl rfl rfl rfl (c_num b3 b2 m1 v4 z8 t2 (InvD.frame H)) ?_
      intro vq w14 Lq H hvq
      obtain ⟨rfl, rfl⟩ := hvq
      have H := H.pick [0, 1, 8, 2, 7, 6, 3, 4, 5] [marksI ms10, boxI b1 53 [va0_0, va0_1], mapI (K := GPoint) (V := Int) m1 (sight_num z8 t2).2, ownI (α := GEdge) v4 137 z9, boxI b2 129 [(.map (some m1)), v4], boxI b3 104 [(.pointer (some ⟨b2, 0, none⟩))], boxI b5 131 [(.int .i64 t2.clock), (.int .i64 t2.at_)], boxI b6 131 [(.int .i64 t3.clock), (.int .i64 t3.at_)], goneI] rfl (by decide)
      exact WL.nil ⟨v7, v8, (H.pick [] [] rfl (by decide)), hf2, hf5, hf6, hf9, hf10, hf11, hf12, hf31, hf32, hmk, hd0, hd1, hd2, hd3, hd4, hd5, hd6, (fun _ => rfl), hd8, hd9, hd10, hd11, hd12, hd13, hd14, hd15, (fun _ => rfl), (fun _ => rfl), C14_10, (fun _ => rfl), C15_10, C15_14, (fun a _ _ _ => nG a), (fun _ _ _ _ => H), (fun _ a _ _ => nX e10 a), (fun _ a _ _ => nX e10 a), (fun _ a _ _ => nX e10 a)⟩
     ·
      rintro S f w hS - ⟨e10, e13, e14, e15, -⟩ ⟨v7, v8, B, hf2, hf5, hf6, hf9, hf10, hf11, hf12, hf31, hf32, hmk, hd0, hd1, hd2, hd3, hd4, hd5, hd6, hd7, hd8, t⟩
      obtain ⟨u13, rfl⟩ := up1 hf6
      have H := B
      refine O.move (v := (.func (.func 64) #[] #[(.pointer (some ⟨b3, 0, none⟩))])) rfl rfl rfl ?_
      exact WL.nil ⟨v7, v8, B, hf2, hf5, rfl, hf9, hf10, hf11, hf12, hf31, hf32, hmk, hd0, hd1, hd2, hd3, hd4, hd5, hd6, hd7, (fun _ => rfl), t⟩
     ·
      rintro S f w hS - ⟨e10, e13, e14, e15, -⟩ ⟨v7, v8, B, hf2, hf5, hf6, hf9, hf10, hf11, hf12, hf31, hf32, hmk, hd0, hd1, hd2, hd3, hd4, hd5, hd6, hd7, hd8, hd9, hd10, hd11, hd12, hd13, hd14, hd15, C10_7, C14_7, C14_10, C15_7, C15_10, C15_14, W0, W1, W2, W3, W4⟩
      obtain ⟨u14, rfl⟩ := up1 hf11
      rcases bool_ft (S 7) with e7 | e7
      ·
       have H := W0 e7 e10 e14 e15
       refine O.loadA [(.int .i64 t3.clock), (.int .i64 t3.at_)] ag131 rfl rfl rfl rfl (H.cell 7 rfl) ?_
       exact WL.nil ⟨v7, v8, B, hf2, hf5, hf6, hf9, hf10, rfl, hf12, hf31, hf32, hmk, hd0, hd1, hd2, hd3, hd4, hd5, hd6, hd7, hd8, (fun _ => rfl), hd10, hd11, hd12, hd13, hd14, hd15, C10_7, C14_7, C14_10, C15_7, C15_10, C15_14, (fun _ _ _ _ => H), (fun a _ _ _ => nX e7 a), (fun a _ _ _ => nX e7 a), (fun a _ _ _ => nX e7 a), (fun a _ _ _ => nX e7 a)⟩
      ·
       have H := W1 e7 e10 e14 e15
       refine O.loadA [(.int .i64 t3.clock), (.int .i64 t3.at_)] ag131 rfl rfl rfl rfl (H.cell 7 rfl) ?_
       exact WL.nil ⟨v7, v8, B, hf2, hf5, hf6, hf9, hf10, rfl, hf12, hf31, hf32, hmk, hd0, hd1, hd2, hd3, hd4, hd5, hd6, hd7, hd8, (fun _ => rfl), hd10, hd11, hd12, hd13, hd14, hd15, C10_7, C14_7, C14_10, C15_7, C15_10, C15_14, (fun a _ _ _ => nT e7 a), (fun _ _ _ _ => H), (fun _ a _ _ => nX e10 a), (fun _ a _ _ => nX e10 a), (fun _ a _ _ => nX e10 a)⟩
     ·
      rintro S f w hS ⟨e5, e6, e7, e8, e9, -⟩ ⟨e13, e14, e15, -⟩ ⟨v7, v8, B, hf2, hf5, hf6, hf9, hf10, hf11, hf12, hf31, hf32, hmk, hd0, hd1, hd2, hd3, hd4, hd5, hd6, hd7, hd8, hd9, hd10, hd11, hd12, hd13, hd14, hd15, C10_7, C14_7, C14_10, C15_7, C15_10, C15_14, W0, W1, W2, W3, W4⟩
      have hf50 := hd8 e8
      have hf51 := hd9 e9
      obtain ⟨u15, rfl⟩ := up2 hf50 hf51
      have H := W1 e7 hS e14 e15
      have H := H.pick [0, 1, 3, 6, 7, 8, 5, 4, 2] ([marksI ms10, boxI b1 53 [va0_0, va0_1], ownI (α := GEdge) v4 137 z9, boxI b5 131 [(.int .i64 t2.clock), (.int .i64 t2.at_)], boxI b6 131 [(.int .i64 t3.clock), (.int .i64 t3.at_)], goneI] ++ (numItems b3 b2 m1 v4 (sight_num z8 t2).2)) rfl (by decide)
      refine O.callFV [marksI ms10, boxI b1 53 [va0_0, va0_1], ownI (α := GEdge) v4 137 z9, boxI b5 131 [(.int .i64 t2.clock), (.int .i64 t2.at_)], boxI b6 131 [(.int .i64 t3.clock), (.int .i64 t3.at_)], goneI] (numItems b3 b2 m1 v4 (sight_num z8 t2).2) H Try.call64 rfl rfl rfl rfl (c_num b3 b2 m1 v4 (sight_num z8 t2).2 t3 (InvD.frame H)) ?_
      intro vq w15 Lq H hvq
      obtain ⟨rfl, rfl⟩ := hvq
      have H := H.pick [0, 1, 8, 2, 7, 6, 3, 4, 5] [marksI ms10, boxI b1 53 [va0_0, va0_1], mapI (K := GPoint) (V := Int) m1 (sight_num (sight_num z8 t2).2 t3).2, ownI (α := GEdge) v4 137 z9, boxI b2 129 [(.map (some m1)), v4], boxI b3 104 [(.pointer (some ⟨b2, 0, none⟩))], boxI b5 131 [(.int .i64 t2.clock), (.int .i64 t2.at_)], boxI b6 131 [(.int .i64 t3.clock), (.int .i64 t3.at_)], goneI] rfl (by decide)
      exact WL.nil ⟨v7, v8, (H.pick [] [] rfl (by decide)), hf2, hf5, hf6, hf9, hf10, hf11, hf12, hf31, hf32, hmk, hd0, hd1, hd2, hd3, hd4, hd5, hd6, hd7, hd8, hd9, (fun _ => rfl), hd11, hd12, hd13, hd14, hd15, (fun _ => e7), C14_7, (fun _ => rfl), C15_7, (fun _ => rfl), C15_14, (fun a _ _ _ => nT e7 a), (fun _ a _ _ => nG a), (fun _ _ _ _ => H), (fun _ _ a _ => nX e14 a), (fun _ _ a _ => nX e14 a)⟩
     ·
      rintro S f w hS - ⟨e13, e14, e15, -⟩ ⟨v7, v8, B, hf2, hf5, hf6, hf9, hf10, hf11, hf12, hf31, hf32, hmk, hd0, hd1, hd2, hd3, hd4, hd5, hd6, hd7, hd8, hd9, hd10, hd11, t⟩
      obtain ⟨u16, rfl⟩ := up1 hf12
      have H := B
      refine O.move (v := (.int .i64 t4)) rfl rfl rfl ?_
      exact WL.nil ⟨v7, v8, B, hf2, hf5, hf6, hf9, hf10, hf11, rfl, hf31, hf32, hmk, hd0, hd1, hd2, hd3, hd4, hd5, hd6, hd7, hd8, hd9, hd10, (fun _ => rfl), t⟩
     ·
      rintro S f w hS - ⟨e13, e14, e15, -⟩ ⟨v7, v8, B, hf2, hf5, hf6, hf9, hf10, hf11, hf12, hf31, hf32, hmk, hd0, hd1, hd2, hd3, hd4, hd5, hd6, hd7, hd8, hd9, hd10, hd11, hd12, t⟩
      obtain ⟨u17, rfl⟩ := up1 hf9
      have H := B
      refine O.move (v := (.int .i64 (ik2 : Int))) rfl rfl rfl ?_
      exact WL.nil ⟨v7, v8, B, hf2, hf5, hf6, rfl, hf10, hf11, hf12, hf31, hf32, hmk, hd0, hd1, hd2, hd3, hd4, hd5, hd6, hd7, hd8, hd9, hd10, hd11, (fun _ => rfl), t⟩
     ·
      rintro S f w hS ⟨e5, e6, e7, e8, e9, e10, e11, e12, -⟩ ⟨e14, e15, -⟩ ⟨v7, v8, B, hf2, hf5, hf6, hf9, hf10, hf11, hf12, hf31, hf32, hmk, hd0, hd1, hd2, hd3, hd4, hd5, hd6, hd7, hd8, hd9, hd10, hd11, hd12, hd13, t⟩
      have hf49 := hd7 e7
      have hf52 := hd10 e10
      have hf53 := hd11 e11
      have hf54 := hd12 e12
      obtain ⟨u18, rfl⟩ := up4 hf49 hf52 hf53 hf54
      have H := t.2.2.2.2.2.2.2.2.2.2.1 e7 e10 e14 e15
      refine O.build (v := (.agg (Flat.cells (GEdge.mk (sight_num z8 t2).1 (sight_num (sight_num z8 t2).2 t3).1 t4 (ik2 : Int))).toArray)) (fun w => bd137_0_1_2_3 _ _ _ _ w) rfl rfl rfl ?_
      exact WL.nil ⟨v7, v8, B, hf2, hf5, hf6, hf9, hf10, hf11, hf12, hf31, hf32, hmk, hd0, hd1, hd2, hd3, hd4, hd5, hd6, hd7, hd8, hd9, hd10, hd11, hd12, (fun _ => rfl), t⟩
     ·
      rintro S f w hS ⟨e5, e6, e7, e8, e9, e10, e11, e12, e13, -⟩ ⟨e15, -⟩ ⟨_, v8, B, hf2, hf5, hf6, hf9, hf10, hf11, hf12, hf31, hf32, hmk, hd0, hd1, hd2, hd3, hd4, hd5, hd6, hd7, hd8, hd9, hd10, hd11, hd12, hd13, hd14, hd15, C10_7, C14_7, C14_10, C15_7, C15_10, C15_14, W0, W1, W2, W3, W4⟩
      have hf55 := hd13 e13
      obtain ⟨u19, rfl⟩ := up1 hf55
      have H := W2 e7 e10 hS e15
      refine O.buildSlice (α := GEdge) [(.agg (Flat.cells (GEdge.mk (sight_num z8 t2).1 (sight_num (sight_num z8 t2).2 t3).1 t4 (ik2 : Int))).toArray)] [(GEdge.mk (sight_num z8 t2).1 (sight_num (sight_num z8 t2).2 t3).1 t4 (ik2 : Int))] Try.underlying127 el137 H rfl rfl rfl rfl rfl rfl rfl ?_
      intro v7 w16 H hb9
      refine WL.nil ?_
      have H := H.pick [0, 1, 2, 3, 4, 5, 6, 7, 9] [marksI ms10, boxI b1 53 [va0_0, va0_1], mapI (K := GPoint) (V := Int) m1 (sight_num (sight_num z8 t2).2 t3).2, ownI (α := GEdge) v4 137 z9, boxI b2 129 [(.map (some m1)), v4], boxI b3 104 [(.pointer (some ⟨b2, 0, none⟩))], boxI b5 131 [(.int .i64 t2.clock), (.int .i64 t2.at_)], boxI b6 131 [(.int .i64 t3.clock), (.int .i64 t3.at_)], ownI (α := GEdge) v7 137 ([(GEdge.mk (sight_num z8 t2).1 (sight_num (sight_num z8 t2).2 t3).1 t4 (ik2 : Int))] : List GEdge)] rfl (by decide)
      exact ⟨v7, v8, (H.pick [] [] rfl (by decide)), hf2, hf5, hf6, hf9, hf10, hf11, hf12, hf31, hf32, hmk, hd0, hd1, hd2, hd3, hd4, hd5, hd6, hd7, hd8, hd9, hd10, hd11, hd12, hd13, (fun _ => rfl), hd15, C10_7, (fun _ => e7), (fun _ => e10), C15_7, C15_10, (fun _ => rfl), (fun a _ _ _ => nT e7 a), (fun _ a _ _ => nT e10 a), (fun _ _ a _ => nG a), (fun _ _ _ _ => H), (fun _ _ _ a => nX e15 a)⟩
     ·
      rintro S f w hS ⟨e1, e2, e3, e4, e5, e6, e7, e8, e9, e10, e11, e12, e13, e14, -⟩ - ⟨v7, _, B, hf2, hf5, hf6, hf9, hf10, hf11, hf12, hf31, hf32, hmk, hd0, hd1, hd2, hd3, hd4, hd5, hd6, hd7, hd8, hd9, hd10, hd11, hd12, hd13, hd14, hd15, C10_7, C14_7, C14_10, C15_7, C15_10, C15_14, W0, W1, W2, W3, W4⟩
      have hf46 := hd4 e4
      have hf56 := hd14 e14
      obtain ⟨u20, rfl⟩ := up2 hf46 hf56
      have H := W3 e7 e10 e14 hS
      refine O.append 3 Try.underlying127 el137 rfl H rfl (H.own 8 rfl) ht5 rfl rfl rfl rfl ?_
      intro v8 w17 H
      exact WL.nil ⟨v7, v8, (H.pick [] [] rfl (by decide)), hf2, hf5, hf6, hf9, hf10, hf11, hf12, hf31, hf32, hmk, hd0, hd1, hd2, hd3, hd4, hd5, hd6, hd7, hd8, hd9, hd10, hd11, hd12, hd13, hd14, (fun _ => rfl), C10_7, C14_7, C14_10, (fun _ => e7), (fun _ => e10), (fun _ => e14), (fun a _ _ _ => nT e7 a), (fun _ a _ _ => nT e10 a), (fun _ _ a _ => nT e14 a), (fun _ _ _ a => nG a), (fun _ _ _ _ => H)⟩
    ·
     rintro S f w ⟨e0, e1, e2, e3, e4, e5, e6, e7, e8, e9, e10, e11, e12, e13, e14, e15, -⟩ ⟨v7, v8, B, hf2, hf5, hf6, hf9, hf10, hf11, hf12, hf31, hf32, hmk, hd0, hd1, hd2, hd3, hd4, hd5, hd6, hd7, hd8, hd9, hd10, hd11, hd12, hd13, hd14, hd15, C10_7, C14_7, C14_10, C15_7, C15_10, C15_14, W0, W1, W2, W3, W4⟩
     have hf42 := hd0 e0
     have hf57 := hd15 e15
     have H := W4 e7 e10 e14 e15
     obtain ⟨u21, rfl⟩ := up7 hf2 hf5 hf6 hf31 hf32 hf42 hf57
     refine O.nilCheck rfl rfl rfl ?_
     refine O.fieldAddr fd129_1 rfl rfl rfl ?_
     refine O.store 4 1 [v8] [(.map (some m1)), v8] sz127 H rfl rfl rfl rfl rfl (SliceR.cells1 (H.own 3 rfl)) ⟨⟨rfl, rfl⟩, rfl⟩ (one_cons (SliceR.one (H.own 3 rfl)) one_nil) ?_
     intro w18 H
     refine WL.nil ?_
     refine W.region ?_
     refine O.add rfl rfl rfl rfl hinck2 ?_
     refine O.move (v := .int .i64 ((ik2 : Int) + 1)) rfl rfl rfl ?_
     refine WL.nil ?_
     have H := H.keep [0, 1, 2, 3, 4, 5] [marksI ms10, boxI b1 53 [va0_0, va0_1], mapI (K := GPoint) (V := Int) m1 (sight_num (sight_num z8 t2).2 t3).2, ownI (α := GEdge) v8 137 t5, boxI b2 129 [(.map (some m1)), v8], boxI b3 104 [(.pointer (some ⟨b2, 0, none⟩))]] rfl (by decide)
     obtain rfl := Option.some.inj hm4
     exact ⟨_, rfl, _, _, ms10, v8, rfl, rangeN_next hdropk2, rfl, rfl, rfl, rfl, rfl, hmk, H⟩
   ·
    rintro ik2 _ f w ⟨z8, z9, ms10, v4, rfl, hdropk2, hf32, hf31, hf2, hf5, hf6, hmk, H⟩ hfin
    have hltk2 := rangeN_end hdropk2
    obtain ⟨u22, rfl⟩ := up5 hf32 hf31 hf2 hf5 hf6
    refine W.seq ?_
    refine W.region ?_
    refine O.lss rfl rfl rfl rfl ?_
    refine WL.nil ?_
    refine W.seq ?_
    refine W.cond_false (congrArg Value.bool (decide_eq_false hltk2)) ?_
    refine W.exit ?_
    have hq : (z8, z9) = (s2, s3) := hfin
    obtain ⟨he0, hq0⟩ := Prod.mk.inj hq; clear hq; subst he0
    subst hq0
    refine xT rfl ?_
    exact ⟨ms10, v4, rfl, rfl, hmk, H⟩
  ·
   rintro f w ⟨ms12, v6, hf2, hf5, hmk, H⟩
   obtain ⟨u23, rfl⟩ := up2 hf2 hf5
   refine W.seq ?_
   refine W.seq ?_
   refine W.drawN 5 (fun f => f 5 = (.pointer (some ⟨b3, 0, none⟩)) ∧ f 61 = (.agg #[va0_0, va0_1]) ∧ f 65 = (.map (some m1))) fol (by kernel_rfl) ?_ ?_
   ·
    refine PL.of (fun _ w8 _ hx => by have H := H.ext hx; exact O.loadA [va0_0, va0_1] ag53 rfl rfl rfl rfl (H.cell 1 rfl) (WL.nil ⟨rfl, hx⟩)) ?_
    refine PL.of (fun _ w8 _ hx => by have H := H.ext hx; exact O.load sc104 rfl rfl rfl (H.cell 5 rfl 0 _ rfl) (WL.nil ⟨rfl, hx⟩)) ?_
    refine PL.of (fun _ w8 _ hx => O.nilCheck rfl rfl rfl (WL.nil ⟨rfl, hx⟩)) ?_
    refine PL.of (fun _ w8 _ hx => O.fieldAddr fd129_0 rfl rfl rfl (WL.nil ⟨rfl, hx⟩)) ?_
    refine PL.of (fun _ w8 _ hx => by have H := H.ext hx; exact O.load sc126 rfl rfl rfl (H.cell 4 rfl 0 _ rfl) (WL.nil ⟨rfl, hx⟩)) ?_
    refine PL.nil ?_
    exact ⟨rfl, rfl, rfl⟩
   ·
    rintro f w ⟨hf5, hf61, hf65⟩ hmd hx
    have H := H.ext hx
    have hmk := hmd.trans hmk
    obtain ⟨u24, rfl⟩ := up3 hf5 hf61 hf65
    refine O.call Try.call66 rfl rfl rfl (c_sight_carries _ _ (GNet.mk a0.Rates a0.Sights) (H.arg ha0_0) (H.arg ha0_1) _ _ (H.map 2 rfl)) ?_
    rintro _ w19 hb10 ⟨b7, b8, rfl, hM1⟩
    have H := H.addAll hb10 hM1
    refine WL.nil ?_
    obtain ⟨xs1, hxs1, hm⟩ := bind_some hm
    obtain ⟨t6, ht6, hm⟩ := bind_some hm
    have H := H.pick [0, 5, 4, 2, 3, 6, 7] [marksI ms12, boxI b3 104 [(.pointer (some ⟨b2, 0, none⟩))], boxI b2 129 [(.map (some m1)), v6], mapI (K := GPoint) (V := Int) m1 s2, ownI (α := GEdge) v6 137 s3, boxI b7 126 [(.map (some m1))], boxI b8 53 [va0_0, va0_1]] rfl (by decide)
    obtain ⟨es, clock, e1, e2, e3, e4', e5⟩ := H.mapOk 3 rfl
    have e4 : (es.toList.map (·.born)).Nodup := e4'.imp (fun h => Nat.ne_of_lt h)
    have e6 : es.toList.length = (s2).length := by simpa using congrArg List.length e2
    have H := H.turn (it' := mapX m1 es clock) 3 rfl (fun b h => h) (fun _ => e1)
    refine W.via (fun f w => ∃ (D : List Nat) (vs : Value) (ys : List GEdge), ys.Perm xs1 ∧ f 5 = .pointer (some ⟨b3, 0, none⟩) ∧ f.marks = D ∧ Inv w0 w (marksI D :: [boxI b3 104 [.pointer (some ⟨b2, 0, none⟩)], boxI b2 129 [.map (some m1), vs], mapI m1 s2, ownI (α := GEdge) vs 137 (s3 ++ ys)])) ?_ ?_
    ·
     refine W.block ?_
     refine W.rangeFunc (α := GEdge) (rep := repF) (S := fun ys => ys.Perm xs1) (A := fun pre L' => ∃ vs : Value, L' = marksI ms12 :: [boxI b3 104 [.pointer (some ⟨b2, 0, none⟩)], boxI b2 129 [.map (some m1), vs], mapX m1 es clock, ownI (α := GEdge) vs 137 (s3 ++ pre), boxI b7 126 [.map (some m1)], boxI b8 53 [va0_0, va0_1]]) (Ax := fun _ _ => False) rfl Try.call81 rfl ?_ ?_ H ?_ ?_ ?_ ?_ ?_
     · rintro w x vs rfl; rfl
     ·
      intro Kp W _ hK
      obtain ⟨hx0, hxs0⟩ := row_some hxs1
      rw [hxs0]
      refine it_carries ⟨b7, 0, none⟩ ⟨b8, 0, none⟩ m1 es clock s2 a0 va0_0 va0_1 _ hx0 e2 e4 e5 e6 fun w hw => ?_
      obtain ⟨pre, i0, i1, L', ⟨vs, rfl⟩, H⟩ := hK w hw
      exact ⟨H.cell 7 rfl, (H.items (mapX m1 es clock) (List.mem_of_getElem? (i := 5) rfl)).1, H.cell 8 rfl, H.arg ha0_0, H.arg ha0_1⟩
     · exact ⟨v6, by rw [List.append_nil]; rfl⟩
     ·
      rintro l rs lp lp2 pre x L' w vs ⟨v0, rfl⟩ ⟨rest, hrest⟩ rfl H
      change W _ _ _ _ _ _ _ (upd _ 67 (Flat.val x)) w
      have hxl : (s3 ++ pre).length + 1 ≤ 1099511627776 := by
       have h1 := (appI_some ht6).1
       have h2 := hrest.length_eq
       rw [List.length_append, List.length_cons] at h2
       rw [List.length_append]; omega
      obtain ⟨xs1n, hxs1n⟩ : ∃ z, appI (s3 ++ pre) [x] = some z := ⟨_, if_pos hxl⟩
      refine W.region ?_
      refine O.alloc [.int .i64 0, .int .i64 0, .int .i64 0, .int .i64 0] ze137 H rfl rfl rfl ?_
      intro b13 w1 H hb13
      refine O.store 9 0 (Flat.cells x) (Flat.cells x) sz137 H rfl rfl rfl rfl rfl rfl ⟨⟨rfl, rfl⟩, rfl⟩ (one_cons rfl (one_cons rfl (one_cons rfl (one_cons rfl one_nil)))) ?_
      intro w2 H
      refine WL.nil ?_
      refine ⟨_, H, fun w hsl H => ?_⟩
      have hmB : ((appI (s3 ++ pre) [x]).bind fun z => some z) = some xs1n := by rw [hxs1n]; rfl
      refine W.block ?_
      obtain ⟨t7, ht7, hmB⟩ := bind_some hmB
      have H := H.addGone
      refine W.drawD 8 [[], [], [1], [1, 2], [1, 2, 3], [], [5], [1, 2, 3, 4, 5, 6]] [[], [2, 3, 4, 7], [3, 4, 7], [4, 7], [7], [6, 7], [7], []] (fun S f w => ∃ v9 : Value, ∃ v10 : Value, Inv w0 w [] ∧ f 5 = (.pointer (some ⟨b3, 0, none⟩)) ∧ f 13 = (.pointer (some ⟨b13, 0, none⟩)) ∧ (S 0 = true → f 68 = (.pointer (some ⟨b2, 0, none⟩))) ∧ (S 1 = true → f 69 = (.pointer (some ⟨b2, 0, none⟩))) ∧ (S 2 = true → f 70 = (.pointer (some ⟨b2, 0, none⟩))) ∧ (S 3 = true → f 71 = (.pointer (some (Addr.add (Addr.mk b2 0 none) 1)))) ∧ (S 4 = true → f 72 = v0) ∧ (S 5 = true → f 73 = (.agg (Flat.cells x).toArray)) ∧ (S 6 = true → f 74 = v9) ∧ (S 7 = true → f 75 = v10) ∧ (S 7 = true → S 6 = true) ∧ (S 6 = false → S 7 = false → Inv w0 w [rs, lp2, marksI ms12, boxI b3 104 [(.pointer (some ⟨b2, 0, none⟩))], boxI b2 129 [(.map (some m1)), v0], mapX m1 es clock, ownI (α := GEdge) v0 137 (s3 ++ pre), boxI b7 126 [(.map (some m1))], boxI b8 53 [va0_0, va0_1], boxI b13 137 [(.int .i64 x.from_), (.int .i64 x.to), (.int .i64 x.cost), (.int .i64 x.number)], goneI]) ∧ (S 6 = true → S 7 = false → Inv w0 w [rs, lp2, marksI ms12, boxI b3 104 [(.pointer (some ⟨b2, 0, none⟩))], boxI b2 129 [(.map (some m1)), v0], mapX m1 es clock, ownI (α := GEdge) v0 137 (s3 ++ pre), boxI b7 126 [(.map (some m1))], boxI b8 53 [va0_0, va0_1], boxI b13 137 [(.int .i64 x.from_), (.int .i64 x.to), (.int .i64 x.cost), (.int .i64 x.number)], ownI (α := GEdge) v9 137 ([x] : List GEdge)]) ∧ (S 6 = true → S 7 = true → Inv w0 w [rs, lp2, marksI ms12, boxI b3 104 [(.pointer (some ⟨b2, 0, none⟩))], boxI b2 129 [(.map (some m1)), v0], mapX m1 es clock, ownI (α := GEdge) v10 137 t7, boxI b7 126 [(.map (some m1))], boxI b8 53 [va0_0, va0_1], boxI b13 137 [(.int .i64 x.from_), (.int .i64 x.to), (.int .i64 x.cost), (.int .i64 x.number)], ownI (α := GEdge) v9 137 ([x] : List GEdge)])) fol (by kernel_rfl) ?_ ?_ ?_
      ·
       exact fun d _ => ⟨.nilFunc, .nilFunc, ((H.ext (below_drawn d)).pick [] [] rfl (by decide)), rfl, rfl, nF, nF, nF, nF, nF, nF, nF, nF, nF, (fun _ _ => H.ext (below_drawn d)), (fun a _ => nF a), (fun a _ => nF a)⟩
      ·
       refine ⟨?_, ⟨?_, ⟨?_, ⟨?_, ⟨?_, ⟨?_, ⟨?_, ⟨?_, trivial⟩⟩⟩⟩⟩⟩⟩⟩
       ·
        rintro S f w hS - - ⟨v9, v10, B, hf5, hf13, hd0, hd1, hd2, hd3, hd4, hd5, hd6, hd7, C7_6, W0, W1, W2⟩
        obtain ⟨u26, rfl⟩ := up1 hf5
        rcases bool_ft (S 6) with e6 | e6
        ·
         rcases bool_ft (S 7) with e7 | e7
         ·
          have H := W0 e6 e7
          refine O.load sc104 rfl rfl rfl (H.cell 3 rfl 0 _ rfl) ?_
          exact WL.nil ⟨v9, v10, B, rfl, hf13, (fun _ => rfl), hd1, hd2, hd3, hd4, hd5, hd6, hd7, C7_6, (fun _ _ => H), (fun a _ => nX e6 a), (fun a _ => nX e6 a)⟩
         ·
          exact nomatch (show true = false from (C7_6 e7).symm.trans e6)
        ·
         rcases bool_ft (S 7) with e7 | e7
         ·
          have H := W1 e6 e7
          refine O.load sc104 rfl rfl rfl (H.cell 3 rfl 0 _ rfl) ?_
          exact WL.nil ⟨v9, v10, B, rfl, hf13, (fun _ => rfl), hd1, hd2, hd3, hd4, hd5, hd6, hd7, C7_6, (fun a _ => nT e6 a), (fun _ _ => H), (fun _ a => nX e7 a)⟩
         ·
          have H := W2 e6 e7
          refine O.load sc104 rfl rfl rfl (H.cell 3 rfl 0 _ rfl) ?_
          exact WL.nil ⟨v9, v10, B, rfl, hf13, (fun _ => rfl), hd1, hd2, hd3, hd4, hd5, hd6, hd7, C7_6, (fun a _ => nT e6 a), (fun _ a => nT e7 a), (fun _ _ => H)⟩
       ·
        rintro S f w hS - ⟨e2, e3, e4, e7, -⟩ ⟨v9, v10, B, hf5, hf13, hd0, hd1, hd2, hd3, hd4, hd5, hd6, hd7, C7_6, W0, W1, W2⟩
        obtain ⟨u27, rfl⟩ := up1 hf5
        rcases bool_ft (S 6) with e6 | e6
        ·
         have H := W0 e6 e7
         refine O.load sc104 rfl rfl rfl (H.cell 3 rfl 0 _ rfl) ?_
         exact WL.nil ⟨v9, v10, B, rfl, hf13, hd0, (fun _ => rfl), hd2, hd3, hd4, hd5, hd6, hd7, C7_6, (fun _ _ => H), (fun a _ => nX e6 a), (fun a _ => nX e6 a)⟩
        ·
         have H := W1 e6 e7
         refine O.load sc104 rfl rfl rfl (H.cell 3 rfl 0 _ rfl) ?_
         exact WL.nil ⟨v9, v10, B, rfl, hf13, hd0, (fun _ => rfl), hd2, hd3, hd4, hd5, hd6, hd7, C7_6, (fun a _ => nT e6 a), (fun _ _ => H), (fun _ a => nX e7 a)⟩
       ·
        rintro S f w hS ⟨e1, -⟩ ⟨e3, e4, e7, -⟩ ⟨v9, v10, B, hf5, hf13, hd0, hd1, hd2, t⟩
        have hf69 := hd1 e1
        obtain ⟨u28, rfl⟩ := up1 hf69
        have H := B
        refine O.nilCheck rfl rfl rfl ?_
        exact WL.nil ⟨v9, v10, B, hf5, hf13, hd0, hd1, (fun _ => rfl), t⟩
       ·
        rintro S f w hS ⟨e1, e2, -⟩ ⟨e4, e7, -⟩ ⟨v9, v10, B, hf5, hf13, hd0, hd1, hd2, hd3, t⟩
        have hf70 := hd2 e2
        obtain ⟨u29, rfl⟩ := up1 hf70
        have H := B
        refine O.fieldAddr fd129_1 rfl rfl rfl ?_
        exact WL.nil ⟨v9, v10, B, hf5, hf13, hd0, hd1, hd2, (fun _ => rfl), t⟩
       ·
        rintro S f w hS ⟨e1, e2, e3, -⟩ ⟨e7, -⟩ ⟨v9, v10, B, hf5, hf13, hd0, hd1, hd2, hd3, hd4, hd5, hd6, hd7, C7_6, W0, W1, W2⟩
        have hf71 := hd3 e3
        obtain ⟨u30, rfl⟩ := up1 hf71
        rcases bool_ft (S 6) with e6 | e6
        ·
         have H := W0 e6 e7
         refine O.load sc127 rfl rfl rfl (H.cell 4 rfl 1 _ rfl) ?_
         exact WL.nil ⟨v9, v10, B, hf5, hf13, hd0, hd1, hd2, hd3, (fun _ => rfl), hd5, hd6, hd7, C7_6, (fun _ _ => H), (fun a _ => nX e6 a), (fun a _ => nX e6 a)⟩
        ·
         have H := W1 e6 e7
         refine O.load sc127 rfl rfl rfl (H.cell 4 rfl 1 _ rfl) ?_
         exact WL.nil ⟨v9, v10, B, hf5, hf13, hd0, hd1, hd2, hd3, (fun _ => rfl), hd5, hd6, hd7, C7_6, (fun a _ => nT e6 a), (fun _ _ => H), (fun _ a => nX e7 a)⟩
       ·
        rintro S f w hS - ⟨e6, e7, -⟩ ⟨v9, v10, B, hf5, hf13, hd0, hd1, hd2, hd3, hd4, hd5, t⟩
        obtain ⟨u31, rfl⟩ := up1 hf13
        have H := t.2.2.2.1 e6 e7
        refine O.loadA [(.int .i64 x.from_), (.int .i64 x.to), (.int .i64 x.cost), (.int .i64 x.number)] ag137 rfl rfl rfl rfl (H.cell 9 rfl) ?_
        exact WL.nil ⟨v9, v10, B, hf5, rfl, hd0, hd1, hd2, hd3, hd4, (fun _ => rfl), t⟩
       ·
        rintro S f w hS ⟨e5, -⟩ ⟨e7, -⟩ ⟨_, v10, B, hf5, hf13, hd0, hd1, hd2, hd3, hd4, hd5, hd6, hd7, C7_6, W0, W1, W2⟩
        have hf73 := hd5 e5
        obtain ⟨u32, rfl⟩ := up1 hf73
        have H := W0 hS e7
        refine O.buildSlice (α := GEdge) [(.agg (Flat.cells x).toArray)] [x] Try.underlying127 el137 H rfl rfl rfl rfl rfl rfl rfl ?_
        intro v9 w20 H hb11
        refine WL.nil ?_
        have H := H.pick [0, 1, 2, 3, 4, 5, 6, 7, 8, 9, 11] [rs, lp2, marksI ms12, boxI b3 104 [(.pointer (some ⟨b2, 0, none⟩))], boxI b2 129 [(.map (some m1)), v0], mapX m1 es clock, ownI (α := GEdge) v0 137 (s3 ++ pre), boxI b7 126 [(.map (some m1))], boxI b8 53 [va0_0, va0_1], boxI b13 137 [(.int .i64 x.from_), (.int .i64 x.to), (.int .i64 x.cost), (.int .i64 x.number)], ownI (α := GEdge) v9 137 ([x] : List GEdge)] rfl (by decide)
        exact ⟨v9, v10, (H.pick [] [] rfl (by decide)), hf5, hf13, hd0, hd1, hd2, hd3, hd4, hd5, (fun _ => rfl), hd7, (fun _ => rfl), (fun a _ => nG a), (fun _ _ => H), (fun _ a => nX e7 a)⟩
       ·
        rintro S f w hS ⟨e1, e2, e3, e4, e5, e6, -⟩ - ⟨v9, _, B, hf5, hf13, hd0, hd1, hd2, hd3, hd4, hd5, hd6, hd7, C7_6, W0, W1, W2⟩
        have hf72 := hd4 e4
        have hf74 := hd6 e6
        obtain ⟨u33, rfl⟩ := up2 hf72 hf74
        have H := W1 e6 hS
        refine O.append 6 Try.underlying127 el137 rfl H rfl (H.own 10 rfl) ht7 rfl rfl rfl rfl ?_
        intro v10 w21 H
        exact WL.nil ⟨v9, v10, (H.pick [] [] rfl (by decide)), hf5, hf13, hd0, hd1, hd2, hd3, hd4, hd5, hd6, (fun _ => rfl), (fun _ => e6), (fun a _ => nT e6 a), (fun _ a => nG a), (fun _ _ => H)⟩
      ·
       rintro S f w ⟨e0, e1, e2, e3, e4, e5, e6, e7, -⟩ ⟨v9, v10, B, hf5, hf13, hd0, hd1, hd2, hd3, hd4, hd5, hd6, hd7, C7_6, W0, W1, W2⟩
       have hf68 := hd0 e0
       have hf75 := hd7 e7
       have H := W2 e6 e7
       obtain ⟨u34, rfl⟩ := up2 hf68 hf75
       refine O.nilCheck rfl rfl rfl ?_
       refine O.fieldAddr fd129_1 rfl rfl rfl ?_
       refine O.store 4 1 [v10] [(.map (some m1)), v10] sz127 H rfl rfl rfl rfl rfl (SliceR.cells1 (H.own 6 rfl)) ⟨⟨rfl, rfl⟩, rfl⟩ (one_cons (SliceR.one (H.own 6 rfl)) one_nil) ?_
       intro w22 H
       refine WL.nil ?_
       obtain rfl := Option.some.inj hmB
       have H := H.keep [0, 1, 2, 3, 4, 5, 6, 7, 8] [rs, lp2, marksI ms12, boxI b3 104 [(.pointer (some ⟨b2, 0, none⟩))], boxI b2 129 [(.map (some m1)), v10], mapX m1 es clock, ownI (α := GEdge) v10 137 t7, boxI b7 126 [(.map (some m1))], boxI b8 53 [va0_0, va0_1]] rfl (by decide)
       have hz := (appI_some ht7).2
       refine ⟨_, ⟨v10, ?_⟩, H⟩
       rw [← hz, List.append_assoc]
     ·
      rintro D ys L' w hys ⟨vs, rfl⟩ H
      have H := H.joinMark
      have hw := (H.items (mapX m1 es clock) (List.mem_of_getElem? (i := 3) rfl)).1
      have H := H.turn (it' := mapI m1 s2) 3 rfl (fun b h => h) (fun hw => (⟨es, clock, hw, e2, e3, e4', e5⟩ : MapOk _ m1 s2))
      exact ⟨D :: ms12, vs, ys, hys, rfl, congrArg (D :: ·) hmk, H.keep [0, 1, 2, 3, 4] _ rfl (by decide)⟩
     · rintro _ _ _ _ h; exact h.elim
     · rintro _ _ _ h; exact h.elim
    ·
     rintro f w ⟨D, vs, ys, hys, hf5, hmk, H⟩
     obtain ⟨u0, rfl⟩ := up1 hf5
     refine W.seq ?_
     refine W.region ?_
     refine O.load sc104 rfl rfl rfl (H.cell 1 rfl 0 _ rfl) ?_
     refine O.assign (v := (.pointer (some ⟨b2, 0, none⟩))) rfl rfl rfl ?_
     refine WL.nil ?_
     refine W.ret ?_
     refine endsM_mk H hmk ?_
     intro w H _
     have hq : (s2, t6) = (r0, r1) := Option.some.inj hm
     obtain ⟨he0, hq0⟩ := Prod.mk.inj hq
     subst hq0; subst he0
     have hp : t6 = _ := (appI_some ht6).2.symm
     exact ends1 Try.results48 rfl ⟨_, rfl, H.base, ⟨b2, m1, vs, _, rfl, by rw [hp]; exact hys.append_left _, H.keep [2, 3, 4] _ rfl (by decide)⟩⟩

theorem c_slices_Clone_step {w0 : World} (va0 : Value) (a0 : (List GEdge)) (ha0 : SliceR w0 va0 a0) {r0 : (List GEdge)} (hm : slices_Clone_step a0 = some r0) :
  Calls Try.prog 83 #[va0] w0 (Ret w0 fun w v => OwnR w0 w v 137 r0) := by
 unfold slices_Clone_step at hm
 refine calls_of_W Try.func83 rfl Try.ntmps83 (Nat.le_of_ble_eq_true rfl) ?_
 have H := Inv.start (w := w0)
 refine W.seq ?_
 refine W.region ?_
 have H := H.addNil (α := GEdge) (E := 137)
 refine O.assign (v := (.slice none 0 0)) rfl rfl rfl ?_
 refine WL.nil ?_
 refine W.seq ?_
 refine W.seq ?_
 refine W.region ?_
 refine O.move (v := va0) rfl rfl rfl ?_
 rcases ha0.nil_or with ⟨rfl, rfl⟩ | ⟨ad, cap, rfl⟩
 ·
  replace hm : (some ([] : List GEdge)) = some r0 := by simpa [appI] using hm
  refine O.eqlNil Try.underlying127 rfl rfl rfl rfl ?_
  refine WL.reset (i := 4) (v := .bool true) rfl ?_
  refine WL.nil ?_
  refine W.cond_true rfl ?_
  refine W.seq ?_
  refine W.region ?_
  have H := H.addNil (α := GEdge) (E := 137)
  refine O.assign (v := (.slice none 0 0)) rfl rfl rfl ?_
  refine WL.nil ?_
  refine W.ret ?_
  have hq : ([] : List GEdge) = r0 := Option.some.inj (show some ([] : List GEdge) = some r0 from hm)
  subst hq
  exact ends1 Try.results83 rfl ⟨_, rfl, H.base, H.ownR 1 rfl⟩
 ·
  refine O.eqlNil Try.underlying127 rfl rfl rfl rfl ?_
  refine WL.reset (i := 4) (v := .bool false) rfl ?_
  refine WL.nil ?_
  refine W.cond_false rfl ?_
  refine W.skip ?_
  refine W.seq ?_
  refine W.region ?_
  refine O.buildEmpty (α := GEdge) Try.underlying127 el137 H rfl rfl ?_
  intro b1 w1 H hb1
  refine O.move (v := (.slice (some ad) a0.length cap)) rfl rfl rfl ?_
  obtain ⟨t1, ht1, hm⟩ := bind_some hm
  refine O.append 1 Try.underlying127 el137 rfl H rfl (H.arg ha0) ht1 rfl rfl rfl rfl ?_
  intro v1 w2 H
  refine O.assign (v := v1) rfl rfl rfl ?_
  refine WL.nil ?_
  refine W.ret ?_
  have hq : t1 = r0 := Option.some.inj (show some t1 = some r0 from hm)
  subst hq
  exact ends1 Try.results83 rfl ⟨_, rfl, H.base, H.ownR 1 rfl⟩

theorem c_cmp_isNaN_int {w0 : World} (a0 : Int) {r0 : Bool} (hm : cmp_isNaN_int a0 = some r0) :
  Calls Try.prog 103 #[(.int .i64 a0)] w0 (Ret w0 fun _ v => v = (.bool r0)) := by
 unfold cmp_isNaN_int at hm
 refine calls_of_W Try.func103 rfl Try.ntmps103 (Nat.le_of_ble_eq_true rfl) ?_
 have H := Inv.start (w := w0)
 refine W.seq ?_
 refine W.region ?_
 refine O.assign (v := (.bool false)) rfl rfl rfl ?_
 refine WL.nil ?_
 refine W.seq ?_
 refine W.region ?_
 refine O.move (v := (.int .i64 a0)) rfl rfl rfl ?_
 refine O.move (v := (.int .i64 a0)) rfl rfl rfl ?_
 refine O.neq rfl rfl rfl rfl ?_
 refine O.assign (v := (.bool (a0 != a0))) rfl rfl rfl ?_
 refine WL.nil ?_
 refine W.ret ?_
 have hq : (a0 != a0) = r0 := Option.some.inj (show some (a0 != a0) = some r0 from hm)
 subst hq
 exact ends1 Try.results103 rfl ⟨_, rfl, H.base, rfl⟩

set_option maxRecDepth 20000 in
theorem c_cmp_Compare_int {w0 : World} (a0 : Int) (a1 : Int) {r0 : Int} (hm : cmp_Compare_int a0 a1 = some r0) :
  Calls Try.prog 92 #[(.int .i64 a0), (.int .i64 a1)] w0 (Ret w0 fun _ v => v = (.int .i64 r0)) := by
 unfold cmp_Compare_int at hm
 refine calls_of_W Try.func92 rfl Try.ntmps92 (Nat.le_of_ble_eq_true rfl) ?_
 have H := Inv.start (w := w0)
 refine W.seq ?_
 refine W.region ?_
 refine O.assign (v := (.int .i64 0)) rfl rfl rfl ?_
 refine WL.nil ?_
 refine W.seq ?_
 refine W.region ?_
 refine O.move (v := (.int .i64 a0)) rfl rfl rfl ?_
 obtain ⟨t1, hy1, hm⟩ := bind_some hm
 refine O.call Try.call103 rfl rfl rfl (c_cmp_isNaN_int _ hy1) ?_
 rintro _ w1 hb1 rfl
 have H := H.ext hb1
 refine O.assign (v := (.bool t1)) rfl rfl rfl ?_
 refine WL.nil ?_
 refine W.seq ?_
 refine W.region ?_
 refine O.move (v := (.int .i64 a1)) rfl rfl rfl ?_
 obtain ⟨t2, hy2, hm⟩ := bind_some hm
 refine O.call Try.call103 rfl rfl rfl (c_cmp_isNaN_int _ hy2) ?_
 rintro _ w2 hb2 rfl
 have H := H.ext hb2
 refine O.assign (v := (.bool t2)) rfl rfl rfl ?_
 refine WL.nil ?_
 refine W.seq ?_
 refine W.seq ?_
 refine W.region ?_
 refine O.move (v := (.bool t1)) rfl rfl rfl ?_
 refine WL.nil ?_
 rcases ite_some hm with ⟨hc1, hm⟩ | ⟨hc1, hm⟩
 ·
  refine W.cond_true (congrArg Value.bool hc1) ?_
  refine W.seq ?_
  refine W.seq ?_
  refine W.region ?_
  refine O.move (v := (.bool t2)) rfl rfl rfl ?_
  refine WL.nil ?_
  rcases ite_some hm with ⟨hc2, hm⟩ | ⟨hc2, hm⟩
  ·
   refine W.cond_true (congrArg Value.bool hc2) ?_
   refine W.seq ?_
   refine W.region ?_
   refine O.assign (v := (.int .i64 0)) rfl rfl rfl ?_
   refine WL.nil ?_
   refine W.ret ?_
   have hq : 0 = r0 := Option.some.inj (show some 0 = some r0 from hm)
   subst hq
   exact ends1 Try.results92 rfl ⟨_, rfl, H.base, rfl⟩
  ·
   refine W.cond_false (congrArg Value.bool hc2) ?_
   refine W.skip ?_
   refine W.seq ?_
   refine W.region ?_
   refine O.assign (v := (.int .i64 (-1))) rfl rfl rfl ?_
   refine WL.nil ?_
   refine W.ret ?_
   have hq : (-1) = r0 := Option.some.inj (show some (-1) = some r0 from hm)
   subst hq
   exact ends1 Try.results92 rfl ⟨_, rfl, H.base, rfl⟩
 ·
  refine W.cond_false (congrArg Value.bool hc1) ?_
  refine W.skip ?_
  refine W.seq ?_
  refine W.seq ?_
  refine W.region ?_
  refine O.move (v := (.bool t2)) rfl rfl rfl ?_
  refine WL.nil ?_
  rcases ite_some hm with ⟨hc3, hm⟩ | ⟨hc3, hm⟩
  ·
   refine W.cond_true (congrArg Value.bool hc3) ?_
   refine W.seq ?_
   refine W.region ?_
   refine O.assign (v := (.int .i64 1)) rfl rfl rfl ?_
   refine WL.nil ?_
   refine W.ret ?_
   have hq : 1 = r0 := Option.some.inj (show some 1 = some r0 from hm)
   subst hq
   exact ends1 Try.results92 rfl ⟨_, rfl, H.base, rfl⟩
  ·
   refine W.cond_false (congrArg Value.bool hc3) ?_
   refine W.skip ?_
   refine W.seq ?_
   refine W.seq ?_
   refine W.region ?_
   refine O.move (v := (.int .i64 a0)) rfl rfl rfl ?_
   refine O.move (v := (.int .i64 a1)) rfl rfl rfl ?_
   refine O.lss rfl rfl rfl rfl ?_
   refine WL.nil ?_
   rcases ite_some hm with ⟨hc4, hm⟩ | ⟨hc4, hm⟩
   ·
    refine W.cond_true (congrArg Value.bool hc4) ?_
    refine W.seq ?_
    refine W.region ?_
    refine O.assign (v := (.int .i64 (-1))) rfl rfl rfl ?_
    refine WL.nil ?_
    refine W.ret ?_
    have hq : (-1) = r0 := Option.some.inj (show some (-1) = some r0 from hm)
    subst hq
    exact ends1 Try.results92 rfl ⟨_, rfl, H.base, rfl⟩
   ·
    refine W.cond_false (congrArg Value.bool hc4) ?_
    refine W.skip ?_
    refine W.seq ?_
    refine W.seq ?_
    refine W.region ?_
    refine O.move (v := (.int .i64 a0)) rfl rfl rfl ?_
    refine O.move (v := (.int .i64 a1)) rfl rfl rfl ?_
    refine O.gtr rfl rfl rfl rfl ?_
    refine WL.nil ?_
    rcases ite_some hm with ⟨hc5, hm⟩ | ⟨hc5, hm⟩
    ·
     refine W.cond_true (congrArg Value.bool hc5) ?_
     refine W.seq ?_
     refine W.region ?_
     refine O.assign (v := (.int .i64 1)) rfl rfl rfl ?_
     refine WL.nil ?_
     refine W.ret ?_
     have hq : 1 = r0 := Option.some.inj (show some 1 = some r0 from hm)
     subst hq
     exact ends1 Try.results92 rfl ⟨_, rfl, H.base, rfl⟩
    ·
     refine W.cond_false (congrArg Value.bool hc5) ?_
     refine W.skip ?_
     refine W.seq ?_
     refine W.region ?_
     refine O.assign (v := (.int .i64 0)) rfl rfl rfl ?_
     refine WL.nil ?_
     refine W.ret ?_
     have hq : 0 = r0 := Option.some.inj (show some 0 = some r0 from hm)
     subst hq
     exact ends1 Try.results92 rfl ⟨_, rfl, H.base, rfl⟩

set_option maxRecDepth 20000 in
theorem c_slices_Compare_int {w0 : World} (va0 : Value) (a0 : (List Int)) (ha0 : SliceR w0 va0 a0) (va1 : Value) (a1 : (List Int)) (ha1 : SliceR w0 va1 a1) {r0 : Int} (hm : slices_Compare_int a0 a1 = some r0) :
  Calls Try.prog 86 #[va0, va1] w0 (Ret w0 fun _ v => v = (.int .i64 r0)) := by
 unfold slices_Compare_int at hm
 refine calls_of_W Try.func86 rfl Try.ntmps86 (Nat.le_of_ble_eq_true rfl) ?_
 have H := Inv.start (w := w0)
 refine W.seq ?_
 refine W.region ?_
 refine O.assign (v := (.int .i64 0)) rfl rfl rfl ?_
 refine WL.nil ?_
 refine W.seq ?_
 refine W.seq ?_
 refine W.region ?_
 refine O.move (v := va0) rfl rfl rfl ?_
 refine O.lenS Try.underlying22 (H.arg ha0) rfl rfl rfl ?_
 refine O.move (v := (.int .i64 0)) rfl rfl rfl ?_
 refine WL.nil ?_
 obtain ⟨o1, hm1, hm⟩ := bind_some hm
 refine W.via (fun f w => o1 = .next () ∧ f 0 = va0 ∧ f 1 = va1 ∧ Inv w0 w []) ?_ ?_
 ·
  refine W.block ?_
  have hbdik1 := (H.arg ha0).len_le
  refine W.rangeN (i := 0) hm1 (fun rem ik1 s f w => () = s ∧ (ik1 : Int) + rem = max 0 ((a0.length : Nat) : Int) ∧ f 11 = .int .i64 (ik1 : Int) ∧ f 10 = (.int .i64 ((a0.length : Nat) : Int)) ∧ f 0 = va0 ∧ f 1 = va1 ∧ f 9 = va0 ∧ Inv w0 w []) ?_ ?_ ?_
  ·
   exact ⟨rfl, rangeN_start, rfl, rfl, rfl, rfl, rfl, H⟩
  ·
   rintro k ik1 _ st f w ⟨rfl, hdropk1, hf11, hf10, hf0, hf1, hf9, H⟩ hm2
   have hltk1 := rangeN_lt hdropk1
   obtain ⟨u1, rfl⟩ := up5 hf11 hf10 hf0 hf1 hf9
   have hinck1 := addI_lt hltk1 hbdik1
   refine W.seq ?_
   refine W.region ?_
   refine O.lss rfl rfl rfl rfl ?_
   refine WL.nil ?_
   refine W.seq ?_
   refine W.cond_true (congrArg Value.bool (decide_eq_true hltk1)) ?_
   refine W.skip ?_
   refine W.seq ?_
   refine W.block ?_
   refine W.seq ?_
   refine W.region ?_
   refine O.move (v := (.int .i64 (ik1 : Int))) rfl rfl rfl ?_
   obtain ⟨x1, hx1, hm2⟩ := bind_some hm2
   obtain ⟨p1, hp1, hrp1⟩ := fix_indexAddr Try.underlying22 sz3 ha0 hx1
   refine hrp1 rfl rfl rfl rfl ?_
   refine O.load sc3 rfl rfl rfl ((hp1.mono H.base).flat 0 _ rfl) ?_
   refine O.assign (v := (.int .i64 (ik1 : Int))) rfl rfl rfl ?_
   refine O.assign (v := (.int .i64 x1)) rfl rfl rfl ?_
   refine WL.nil ?_
   refine W.seq ?_
   refine W.seq ?_
   refine W.region ?_
   refine O.move (v := (.int .i64 (ik1 : Int))) rfl rfl rfl ?_
   refine O.move (v := va1) rfl rfl rfl ?_
   refine O.lenS Try.underlying22 (H.arg ha1) rfl rfl rfl ?_
   refine O.geq rfl rfl rfl rfl ?_
   refine WL.nil ?_
   rcases ite_some hm2 with ⟨hc1, hm2⟩ | ⟨hc1, hm2⟩
   ·
    refine W.cond_true (congrArg Value.bool hc1) ?_
    refine W.seq ?_
    refine W.region ?_
    refine O.assign (v := (.int .i64 1)) rfl rfl rfl ?_
    refine WL.nil ?_
    refine W.ret ?_
    obtain rfl := Option.some.inj hm2
    refine ⟨_, rfl, ?_⟩
    rintro rfl
    have hq : 1 = r0 := Option.some.inj (show some 1 = some r0 from hm)
    subst hq
    exact ends1 Try.results86 rfl ⟨_, rfl, H.base, rfl⟩
   ·
    refine W.cond_false (congrArg Value.bool hc1) ?_
    refine W.skip ?_
    refine W.seq ?_
    refine W.region ?_
    refine O.move (v := va1) rfl rfl rfl ?_
    refine O.move (v := (.int .i64 (ik1 : Int))) rfl rfl rfl ?_
    obtain ⟨x2, hx2, hm2⟩ := bind_some hm2
    obtain ⟨p2, hp2, hrp2⟩ := fix_indexAddr Try.underlying22 sz3 ha1 hx2
    refine hrp2 rfl rfl rfl rfl ?_
    refine O.load sc3 rfl rfl rfl ((hp2.mono H.base).flat 0 _ rfl) ?_
    refine O.assign (v := (.int .i64 x2)) rfl rfl rfl ?_
    refine WL.nil ?_
    refine W.seq ?_
    refine W.region ?_
    refine O.move (v := (.int .i64 x1)) rfl rfl rfl ?_
    refine O.move (v := (.int .i64 x2)) rfl rfl rfl ?_
    obtain ⟨t1, hy1, hm2⟩ := bind_some hm2
    refine O.call Try.call92 rfl rfl rfl (c_cmp_Compare_int _ _ hy1) ?_
    rintro _ w1 hb1 rfl
    have H := H.ext hb1
    refine O.assign (v := (.int .i64 t1)) rfl rfl rfl ?_
    refine WL.nil ?_
    refine W.seq ?_
    refine W.region ?_
    refine O.move (v := (.int .i64 t1)) rfl rfl rfl ?_
    refine O.neq rfl rfl rfl rfl ?_
    refine WL.nil ?_
    rcases ite_some hm2 with ⟨hc2, hm2⟩ | ⟨hc2, hm2⟩
    ·
     refine W.cond_true (congrArg Value.bool hc2) ?_
     refine W.seq ?_
     refine W.region ?_
     refine O.move (v := (.int .i64 t1)) rfl rfl rfl ?_
     refine O.assign (v := (.int .i64 t1)) rfl rfl rfl ?_
     refine WL.nil ?_
     refine W.ret ?_
     obtain rfl := Option.some.inj hm2
     refine ⟨_, rfl, ?_⟩
     rintro rfl
     have hq : t1 = r0 := Option.some.inj (show some t1 = some r0 from hm)
     subst hq
     exact ends1 Try.results86 rfl ⟨_, rfl, H.base, rfl⟩
    ·
     refine W.cond_false (congrArg Value.bool hc2) ?_
     refine W.skip ?_
     refine W.region ?_
     refine O.add rfl rfl rfl rfl hinck1 ?_
     refine O.move (v := .int .i64 ((ik1 : Int) + 1)) rfl rfl rfl ?_
     refine WL.nil ?_
     obtain rfl := Option.some.inj hm2
     exact ⟨_, rfl, rfl, rangeN_next hdropk1, rfl, rfl, rfl, rfl, rfl, H⟩
  ·
   rintro ik1 _ f w ⟨rfl, hdropk1, hf11, hf10, hf0, hf1, hf9, H⟩ hfin
   have hltk1 := rangeN_end hdropk1
   obtain ⟨u2, rfl⟩ := up5 hf11 hf10 hf0 hf1 hf9
   refine W.seq ?_
   refine W.region ?_
   refine O.lss rfl rfl rfl rfl ?_
   refine WL.nil ?_
   refine W.seq ?_
   refine W.cond_false (congrArg Value.bool (decide_eq_false hltk1)) ?_
   refine W.exit ?_
   obtain rfl : Ctl.next () = o1 := hfin
   refine xT rfl ?_
   exact ⟨rfl, rfl, rfl, H⟩
 ·
  rintro f w ⟨rfl, hf0, hf1, H⟩
  obtain ⟨u3, rfl⟩ := up2 hf0 hf1
  refine W.seq ?_
  refine W.seq ?_
  refine W.region ?_
  refine O.move (v := va0) rfl rfl rfl ?_
  refine O.lenS Try.underlying22 (H.arg ha0) rfl rfl rfl ?_
  refine O.move (v := va1) rfl rfl rfl ?_
  refine O.lenS Try.underlying22 (H.arg ha1) rfl rfl rfl ?_
  refine O.lss rfl rfl rfl rfl ?_
  refine WL.nil ?_
  rcases ite_some hm with ⟨hc3, hm⟩ | ⟨hc3, hm⟩
  ·
   refine W.cond_true (congrArg Value.bool hc3) ?_
   refine W.seq ?_
   refine W.region ?_
   refine O.assign (v := (.int .i64 (-1))) rfl rfl rfl ?_
   refine WL.nil ?_
   refine W.ret ?_
   have hq : (-1) = r0 := Option.some.inj (show some (-1) = some r0 from hm)
   subst hq
   exact ends1 Try.results86 rfl ⟨_, rfl, H.base, rfl⟩
  ·
   refine W.cond_false (congrArg Value.bool hc3) ?_
   refine W.skip ?_
   refine W.seq ?_
   refine W.region ?_
   refine O.assign (v := (.int .i64 0)) rfl rfl rfl ?_
   refine WL.nil ?_
   refine W.ret ?_
   have hq : 0 = r0 := Option.some.inj (show some 0 = some r0 from hm)
   subst hq
   exact ends1 Try.results86 rfl ⟨_, rfl, H.base, rfl⟩

theorem c_sight_graph_sorted_c1 {w0 : World} (a0 : GEdge) (a1 : GEdge) {r0 : Int} (hm : sight_graph_sorted_c1 a0 a1 = some r0) :
  Calls Try.prog 85 #[(.agg (Flat.cells a0).toArray), (.agg (Flat.cells a1).toArray)] w0 (Ret w0 fun _ v => v = (.int .i64 r0)) := by
 unfold sight_graph_sorted_c1 at hm
 refine calls_of_W Try.func85 rfl Try.ntmps85 (Nat.le_of_ble_eq_true rfl) ?_
 have H := Inv.start (w := w0)
 refine W.seq ?_
 refine W.region ?_
 refine O.box [(.int .i64 a0.from_), (.int .i64 a0.to), (.int .i64 a0.cost), (.int .i64 a0.number)] H rfl rfl rfl rfl ?_
 intro b1 w1 H hb1
 refine O.box [(.int .i64 a1.from_), (.int .i64 a1.to), (.int .i64 a1.cost), (.int .i64 a1.number)] H rfl rfl rfl rfl ?_
 intro b2 w2 H hb2
 refine O.assign (v := (.int .i64 0)) rfl rfl rfl ?_
 refine WL.nil ?_
 refine W.seq ?_
 refine W.region ?_
 refine O.fieldAddr fd137_0 rfl rfl rfl ?_
 refine O.load sc3 rfl rfl rfl (H.cell 0 rfl 0 _ rfl) ?_
 refine O.fieldAddr fd137_1 rfl rfl rfl ?_
 refine O.load sc3 rfl rfl rfl (H.cell 0 rfl 1 _ rfl) ?_
 refine O.fieldAddr fd137_3 rfl rfl rfl ?_
 refine O.load sc3 rfl rfl rfl (H.cell 0 rfl 3 _ rfl) ?_
 refine O.buildSlice (α := Int) [(.int .i64 a0.from_), (.int .i64 a0.to), (.int .i64 a0.number)] [a0.from_, a0.to, a0.number] Try.underlying22 el3 H rfl rfl rfl rfl rfl rfl rfl ?_
 intro v1 w3 H hb3
 refine O.fieldAddr fd137_0 rfl rfl rfl ?_
 refine O.load sc3 rfl rfl rfl (H.cell 1 rfl 0 _ rfl) ?_
 refine O.fieldAddr fd137_1 rfl rfl rfl ?_
 refine O.load sc3 rfl rfl rfl (H.cell 1 rfl 1 _ rfl) ?_
 refine O.fieldAddr fd137_3 rfl rfl rfl ?_
 refine O.load sc3 rfl rfl rfl (H.cell 1 rfl 3 _ rfl) ?_
 refine O.buildSlice (α := Int) [(.int .i64 a1.from_), (.int .i64 a1.to), (.int .i64 a1.number)] [a1.from_, a1.to, a1.number] Try.underlying22 el3 H rfl rfl rfl rfl rfl rfl rfl ?_
 intro v2 w4 H hb4
 obtain ⟨t1, hy1, hm⟩ := bind_some hm
 refine O.call Try.call86 rfl rfl rfl (c_slices_Compare_int _ _ (H.own 2 rfl) _ _ (H.own 3 rfl) hy1) ?_
 rintro _ w5 hb5 rfl
 have H := H.ext hb5
 refine O.assign (v := (.int .i64 t1)) rfl rfl rfl ?_
 refine WL.nil ?_
 refine W.ret ?_
 have hq : t1 = r0 := Option.some.inj (show some t1 = some r0 from hm)
 subst hq
 exact ends1 Try.results85 rfl ⟨_, rfl, H.base, rfl⟩

theorem g_cmp_isNaN_int {w0 : World} (a0 : Int) {r0 : Bool} (hm : cmp_isNaN_int a0 = some r0) :
  Calls Try.prog 103 #[(.int .i64 a0)] w0 (Ret w0 fun w v => v = (.bool r0) ∧ GrewQ w0 w) := by
 unfold cmp_isNaN_int at hm
 refine calls_of_W Try.func103 rfl Try.ntmps103 (Nat.le_of_ble_eq_true rfl) ?_
 have H := GInv.start (w := w0)
 refine W.seq ?_
 refine W.region ?_
 refine O.assign (v := (.bool false)) rfl rfl rfl ?_
 refine WL.nil ?_
 refine W.seq ?_
 refine W.region ?_
 refine O.move (v := (.int .i64 a0)) rfl rfl rfl ?_
 refine O.move (v := (.int .i64 a0)) rfl rfl rfl ?_
 refine O.neq rfl rfl rfl rfl ?_
 refine O.assign (v := (.bool (a0 != a0))) rfl rfl rfl ?_
 refine WL.nil ?_
 refine W.ret ?_
 have hq : (a0 != a0) = r0 := Option.some.inj (show some (a0 != a0) = some r0 from hm)
 subst hq
 exact ends1 Try.results103 rfl ⟨_, rfl, H.base, rfl, H.g⟩

set_option maxRecDepth 20000 in
theorem g_cmp_Compare_int {w0 : World} (a0 : Int) (a1 : Int) {r0 : Int} (hm : cmp_Compare_int a0 a1 = some r0) :
  Calls Try.prog 92 #[(.int .i64 a0), (.int .i64 a1)] w0 (Ret w0 fun w v => v = (.int .i64 r0) ∧ GrewQ w0 w) := by
 unfold cmp_Compare_int at hm
 refine calls_of_W Try.func92 rfl Try.ntmps92 (Nat.le_of_ble_eq_true rfl) ?_
 have H := GInv.start (w := w0)
 refine W.seq ?_
 refine W.region ?_
 refine O.assign (v := (.int .i64 0)) rfl rfl rfl ?_
 refine WL.nil ?_
 refine W.seq ?_
 refine W.region ?_
 refine O.move (v := (.int .i64 a0)) rfl rfl rfl ?_
 obtain ⟨t1, hy1, hm⟩ := bind_some hm
 refine O.call Try.call103 rfl rfl rfl (g_cmp_isNaN_int _ hy1) ?_
 rintro _ w1 hb1 ⟨rfl, hghb1⟩
 have H := H.ext hghb1
 refine O.assign (v := (.bool t1)) rfl rfl rfl ?_
 refine WL.nil ?_
 refine W.seq ?_
 refine W.region ?_
 refine O.move (v := (.int .i64 a1)) rfl rfl rfl ?_
 obtain ⟨t2, hy2, hm⟩ := bind_some hm
 refine O.call Try.call103 rfl rfl rfl (g_cmp_isNaN_int _ hy2) ?_
 rintro _ w2 hb2 ⟨rfl, hghb2⟩
 have H := H.ext hghb2
 refine O.assign (v := (.bool t2)) rfl rfl rfl ?_
 refine WL.nil ?_
 refine W.seq ?_
 refine W.seq ?_
 refine W.region ?_
 refine O.move (v := (.bool t1)) rfl rfl rfl ?_
 refine WL.nil ?_
 rcases ite_some hm with ⟨hc1, hm⟩ | ⟨hc1, hm⟩
 ·
  refine W.cond_true (congrArg Value.bool hc1) ?_
  refine W.seq ?_
  refine W.seq ?_
  refine W.region ?_
  refine O.move (v := (.bool t2)) rfl rfl rfl ?_
  refine WL.nil ?_
  rcases ite_some hm with ⟨hc2, hm⟩ | ⟨hc2, hm⟩
  ·
   refine W.cond_true (congrArg Value.bool hc2) ?_
   refine W.seq ?_
   refine W.region ?_
   refine O.assign (v := (.int .i64 0)) rfl rfl rfl ?_
   refine WL.nil ?_
   refine W.ret ?_
   have hq : 0 = r0 := Option.some.inj (show some 0 = some r0 from hm)
   subst hq
   exact ends1 Try.results92 rfl ⟨_, rfl, H.base, rfl, H.g⟩
  ·
   refine W.cond_false (congrArg Value.bool hc2) ?_
   refine W.skip ?_
   refine W.seq ?_
   refine W.region ?_
   refine O.assign (v := (.int .i64 (-1))) rfl rfl rfl ?_
   refine WL.nil ?_
   refine W.ret ?_
   have hq : (-1) = r0 := Option.some.inj (show some (-1) = some r0 from hm)
   subst hq
   exact ends1 Try.results92 rfl ⟨_, rfl, H.base, rfl, H.g⟩
 ·
  refine W.cond_false (congrArg Value.bool hc1) ?_
  refine W.skip ?_
  refine W.seq ?_
  refine W.seq ?_
  refine W.region ?_
  refine O.move (v := (.bool t2)) rfl rfl rfl ?_
  refine WL.nil ?_
  rcases ite_some hm with ⟨hc3, hm⟩ | ⟨hc3, hm⟩
  ·
   refine W.cond_true (congrArg Value.bool hc3) ?_
   refine W.seq ?_
   refine W.region ?_
   refine O.assign (v := (.int .i64 1)) rfl rfl rfl ?_
   refine WL.nil ?_
   refine W.ret ?_
   have hq : 1 = r0 := Option.some.inj (show some 1 = some r0 from hm)
   subst hq
   exact ends1 Try.results92 rfl ⟨_, rfl, H.base, rfl, H.g⟩
  ·
   refine W.cond_false (congrArg Value.bool hc3) ?_
   refine W.skip ?_
   refine W.seq ?_
   refine W.seq ?_
   refine W.region ?_
   refine O.move (v := (.int .i64 a0)) rfl rfl rfl ?_
   refine O.move (v := (.int .i64 a1)) rfl rfl rfl ?_
   refine O.lss rfl rfl rfl rfl ?_
   refine WL.nil ?_
   rcases ite_some hm with ⟨hc4, hm⟩ | ⟨hc4, hm⟩
   ·
    refine W.cond_true (congrArg Value.bool hc4) ?_
    refine W.seq ?_
    refine W.region ?_
    refine O.assign (v := (.int .i64 (-1))) rfl rfl rfl ?_
    refine WL.nil ?_
    refine W.ret ?_
    have hq : (-1) = r0 := Option.some.inj (show some (-1) = some r0 from hm)
    subst hq
    exact ends1 Try.results92 rfl ⟨_, rfl, H.base, rfl, H.g⟩
   ·
    refine W.cond_false (congrArg Value.bool hc4) ?_
    refine W.skip ?_
    refine W.seq ?_
    refine W.seq ?_
    refine W.region ?_
    refine O.move (v := (.int .i64 a0)) rfl rfl rfl ?_
    refine O.move (v := (.int .i64 a1)) rfl rfl rfl ?_
    refine O.gtr rfl rfl rfl rfl ?_
    refine WL.nil ?_
    rcases ite_some hm with ⟨hc5, hm⟩ | ⟨hc5, hm⟩
    ·
     refine W.cond_true (congrArg Value.bool hc5) ?_
     refine W.seq ?_
     refine W.region ?_
     refine O.assign (v := (.int .i64 1)) rfl rfl rfl ?_
     refine WL.nil ?_
     refine W.ret ?_
     have hq : 1 = r0 := Option.some.inj (show some 1 = some r0 from hm)
     subst hq
     exact ends1 Try.results92 rfl ⟨_, rfl, H.base, rfl, H.g⟩
    ·
     refine W.cond_false (congrArg Value.bool hc5) ?_
     refine W.skip ?_
     refine W.seq ?_
     refine W.region ?_
     refine O.assign (v := (.int .i64 0)) rfl rfl rfl ?_
     refine WL.nil ?_
     refine W.ret ?_
     have hq : 0 = r0 := Option.some.inj (show some 0 = some r0 from hm)
     subst hq
     exact ends1 Try.results92 rfl ⟨_, rfl, H.base, rfl, H.g⟩

set_option maxRecDepth 20000 in
theorem g_slices_Compare_int {w0 : World} (va0 : Value) (a0 : (List Int)) (ha0 : SliceR w0 va0 a0) (va1 : Value) (a1 : (List Int)) (ha1 : SliceR w0 va1 a1) {r0 : Int} (hm : slices_Compare_int a0 a1 = some r0) :
  Calls Try.prog 86 #[va0, va1] w0 (Ret w0 fun w v => v = (.int .i64 r0) ∧ GrewQ w0 w) := by
 unfold slices_Compare_int at hm
 refine calls_of_W Try.func86 rfl Try.ntmps86 (Nat.le_of_ble_eq_true rfl) ?_
 have H := GInv.start (w := w0)
 refine W.seq ?_
 refine W.region ?_
 refine O.assign (v := (.int .i64 0)) rfl rfl rfl ?_
 refine WL.nil ?_
 refine W.seq ?_
 refine W.seq ?_
 refine W.region ?_
 refine O.move (v := va0) rfl rfl rfl ?_
 refine O.lenS Try.underlying22 (H.arg ha0) rfl rfl rfl ?_
 refine O.move (v := (.int .i64 0)) rfl rfl rfl ?_
 refine WL.nil ?_
 obtain ⟨o1, hm1, hm⟩ := bind_some hm
 refine W.via (fun f w => o1 = .next () ∧ f 0 = va0 ∧ f 1 = va1 ∧ GInv w0 w []) ?_ ?_
 ·
  refine W.block ?_
  have hbdik1 := (H.arg ha0).len_le
  refine W.rangeN (i := 0) hm1 (fun rem ik1 s f w => () = s ∧ (ik1 : Int) + rem = max 0 ((a0.length : Nat) : Int) ∧ f 11 = .int .i64 (ik1 : Int) ∧ f 10 = (.int .i64 ((a0.length : Nat) : Int)) ∧ f 0 = va0 ∧ f 1 = va1 ∧ f 9 = va0 ∧ GInv w0 w []) ?_ ?_ ?_
  ·
   exact ⟨rfl, rangeN_start, rfl, rfl, rfl, rfl, rfl, H⟩
  ·
   rintro k ik1 _ st f w ⟨rfl, hdropk1, hf11, hf10, hf0, hf1, hf9, H⟩ hm2
   have hltk1 := rangeN_lt hdropk1
   obtain ⟨u1, rfl⟩ := up5 hf11 hf10 hf0 hf1 hf9
   have hinck1 := addI_lt hltk1 hbdik1
   refine W.seq ?_
   refine W.region ?_
   refine O.lss rfl rfl rfl rfl ?_
   refine WL.nil ?_
   refine W.seq ?_
   refine W.cond_true (congrArg Value.bool (decide_eq_true hltk1)) ?_
   refine W.skip ?_
   refine W.seq ?_
   refine W.block ?_
   refine W.seq ?_
   refine W.region ?_
   refine O.move (v := (.int .i64 (ik1 : Int))) rfl rfl rfl ?_
   obtain ⟨x1, hx1, hm2⟩ := bind_some hm2
   obtain ⟨p1, hp1, hrp1⟩ := fix_indexAddr Try.underlying22 sz3 ha0 hx1
   refine hrp1 rfl rfl rfl rfl ?_
   refine O.load sc3 rfl rfl rfl ((hp1.mono H.base).flat 0 _ rfl) ?_
   refine O.assign (v := (.int .i64 (ik1 : Int))) rfl rfl rfl ?_
   refine O.assign (v := (.int .i64 x1)) rfl rfl rfl ?_
   refine WL.nil ?_
   refine W.seq ?_
   refine W.seq ?_
   refine W.region ?_
   refine O.move (v := (.int .i64 (ik1 : Int))) rfl rfl rfl ?_
   refine O.move (v := va1) rfl rfl rfl ?_
   refine O.lenS Try.underlying22 (H.arg ha1) rfl rfl rfl ?_
   refine O.geq rfl rfl rfl rfl ?_
   refine WL.nil ?_
   rcases ite_some hm2 with ⟨hc1, hm2⟩ | ⟨hc1, hm2⟩
   ·
    refine W.cond_true (congrArg Value.bool hc1) ?_
    refine W.seq ?_
    refine W.region ?_
    refine O.assign (v := (.int .i64 1)) rfl rfl rfl ?_
    refine WL.nil ?_
    refine W.ret ?_
    obtain rfl := Option.some.inj hm2
    refine ⟨_, rfl, ?_⟩
    rintro rfl
    have hq : 1 = r0 := Option.some.inj (show some 1 = some r0 from hm)
    subst hq
    exact ends1 Try.results86 rfl ⟨_, rfl, H.base, rfl, H.g⟩
   ·
    refine W.cond_false (congrArg Value.bool hc1) ?_
    refine W.skip ?_
    refine W.seq ?_
    refine W.region ?_
    refine O.move (v := va1) rfl rfl rfl ?_
    refine O.move (v := (.int .i64 (ik1 : Int))) rfl rfl rfl ?_
    obtain ⟨x2, hx2, hm2⟩ := bind_some hm2
    obtain ⟨p2, hp2, hrp2⟩ := fix_indexAddr Try.underlying22 sz3 ha1 hx2
    refine hrp2 rfl rfl rfl rfl ?_
    refine O.load sc3 rfl rfl rfl ((hp2.mono H.base).flat 0 _ rfl) ?_
    refine O.assign (v := (.int .i64 x2)) rfl rfl rfl ?_
    refine WL.nil ?_
    refine W.seq ?_
    refine W.region ?_
    refine O.move (v := (.int .i64 x1)) rfl rfl rfl ?_
    refine O.move (v := (.int .i64 x2)) rfl rfl rfl ?_
    obtain ⟨t1, hy1, hm2⟩ := bind_some hm2
    refine O.call Try.call92 rfl rfl rfl (g_cmp_Compare_int _ _ hy1) ?_
    rintro _ w1 hb1 ⟨rfl, hghb1⟩
    have H := H.ext hghb1
    refine O.assign (v := (.int .i64 t1)) rfl rfl rfl ?_
    refine WL.nil ?_
    refine W.seq ?_
    refine W.region ?_
    refine O.move (v := (.int .i64 t1)) rfl rfl rfl ?_
    refine O.neq rfl rfl rfl rfl ?_
    refine WL.nil ?_
    rcases ite_some hm2 with ⟨hc2, hm2⟩ | ⟨hc2, hm2⟩
    ·
     refine W.cond_true (congrArg Value.bool hc2) ?_
     refine W.seq ?_
     refine W.region ?_
     refine O.move (v := (.int .i64 t1)) rfl rfl rfl ?_
     refine O.assign (v := (.int .i64 t1)) rfl rfl rfl ?_
     refine WL.nil ?_
     refine W.ret ?_
     obtain rfl := Option.some.inj hm2
     refine ⟨_, rfl, ?_⟩
     rintro rfl
     have hq : t1 = r0 := Option.some.inj (show some t1 = some r0 from hm)
     subst hq
     exact ends1 Try.results86 rfl ⟨_, rfl, H.base, rfl, H.g⟩
    ·
     refine W.cond_false (congrArg Value.bool hc2) ?_
     refine W.skip ?_
     refine W.region ?_
     refine O.add rfl rfl rfl rfl hinck1 ?_
     refine O.move (v := .int .i64 ((ik1 : Int) + 1)) rfl rfl rfl ?_
     refine WL.nil ?_
     obtain rfl := Option.some.inj hm2
     exact ⟨_, rfl, rfl, rangeN_next hdropk1, rfl, rfl, rfl, rfl, rfl, H⟩
  ·
   rintro ik1 _ f w ⟨rfl, hdropk1, hf11, hf10, hf0, hf1, hf9, H⟩ hfin
   have hltk1 := rangeN_end hdropk1
   obtain ⟨u2, rfl⟩ := up5 hf11 hf10 hf0 hf1 hf9
   refine W.seq ?_
   refine W.region ?_
   refine O.lss rfl rfl rfl rfl ?_
   refine WL.nil ?_
   refine W.seq ?_
   refine W.cond_false (congrArg Value.bool (decide_eq_false hltk1)) ?_
   refine W.exit ?_
   obtain rfl : Ctl.next () = o1 := hfin
   refine xT rfl ?_
   exact ⟨rfl, rfl, rfl, H⟩
 ·
  rintro f w ⟨rfl, hf0, hf1, H⟩
  obtain ⟨u3, rfl⟩ := up2 hf0 hf1
  refine W.seq ?_
  refine W.seq ?_
  refine W.region ?_
  refine O.move (v := va0) rfl rfl rfl ?_
  refine O.lenS Try.underlying22 (H.arg ha0) rfl rfl rfl ?_
  refine O.move (v := va1) rfl rfl rfl ?_
  refine O.lenS Try.underlying22 (H.arg ha1) rfl rfl rfl ?_
  refine O.lss rfl rfl rfl rfl ?_
  refine WL.nil ?_
  rcases ite_some hm with ⟨hc3, hm⟩ | ⟨hc3, hm⟩
  ·
   refine W.cond_true (congrArg Value.bool hc3) ?_
   refine W.seq ?_
   refine W.region ?_
   refine O.assign (v := (.int .i64 (-1))) rfl rfl rfl ?_
   refine WL.nil ?_
   refine W.ret ?_
   have hq : (-1) = r0 := Option.some.inj (show some (-1) = some r0 from hm)
   subst hq
   exact ends1 Try.results86 rfl ⟨_, rfl, H.base, rfl, H.g⟩
  ·
   refine W.cond_false (congrArg Value.bool hc3) ?_
   refine W.skip ?_
   refine W.seq ?_
   refine W.region ?_
   refine O.assign (v := (.int .i64 0)) rfl rfl rfl ?_
   refine WL.nil ?_
   refine W.ret ?_
   have hq : 0 = r0 := Option.some.inj (show some 0 = some r0 from hm)
   subst hq
   exact ends1 Try.results86 rfl ⟨_, rfl, H.base, rfl, H.g⟩

theorem g_sight_graph_sorted_c1 {w0 : World} (a0 : GEdge) (a1 : GEdge) {r0 : Int} (hm : sight_graph_sorted_c1 a0 a1 = some r0) :
  Calls Try.prog 85 #[(.agg (Flat.cells a0).toArray), (.agg (Flat.cells a1).toArray)] w0 (Ret w0 fun w v => v = (.int .i64 r0) ∧ GrewQ w0 w) := by
 unfold sight_graph_sorted_c1 at hm
 refine calls_of_W Try.func85 rfl Try.ntmps85 (Nat.le_of_ble_eq_true rfl) ?_
 have H := GInv.start (w := w0)
 refine W.seq ?_
 refine W.region ?_
 refine O.boxG [(.int .i64 a0.from_), (.int .i64 a0.to), (.int .i64 a0.cost), (.int .i64 a0.number)] H rfl rfl rfl rfl ?_
 intro b1 w1 H hb1
 refine O.boxG [(.int .i64 a1.from_), (.int .i64 a1.to), (.int .i64 a1.cost), (.int .i64 a1.number)] H rfl rfl rfl rfl ?_
 intro b2 w2 H hb2
 refine O.assign (v := (.int .i64 0)) rfl rfl rfl ?_
 refine WL.nil ?_
 refine W.seq ?_
 refine W.region ?_
 refine O.fieldAddr fd137_0 rfl rfl rfl ?_
 refine O.load sc3 rfl rfl rfl (H.cell 0 rfl 0 _ rfl) ?_
 refine O.fieldAddr fd137_1 rfl rfl rfl ?_
 refine O.load sc3 rfl rfl rfl (H.cell 0 rfl 1 _ rfl) ?_
 refine O.fieldAddr fd137_3 rfl rfl rfl ?_
 refine O.load sc3 rfl rfl rfl (H.cell 0 rfl 3 _ rfl) ?_
 refine O.buildSliceG (α := Int) [(.int .i64 a0.from_), (.int .i64 a0.to), (.int .i64 a0.number)] [a0.from_, a0.to, a0.number] Try.underlying22 el3 H rfl rfl rfl rfl rfl rfl rfl ?_
 intro v1 w3 H hb3
 refine O.fieldAddr fd137_0 rfl rfl rfl ?_
 refine O.load sc3 rfl rfl rfl (H.cell 1 rfl 0 _ rfl) ?_
 refine O.fieldAddr fd137_1 rfl rfl rfl ?_
 refine O.load sc3 rfl rfl rfl (H.cell 1 rfl 1 _ rfl) ?_
 refine O.fieldAddr fd137_3 rfl rfl rfl ?_
 refine O.load sc3 rfl rfl rfl (H.cell 1 rfl 3 _ rfl) ?_
 refine O.buildSliceG (α := Int) [(.int .i64 a1.from_), (.int .i64 a1.to), (.int .i64 a1.number)] [a1.from_, a1.to, a1.number] Try.underlying22 el3 H rfl rfl rfl rfl rfl rfl rfl ?_
 intro v2 w4 H hb4
 obtain ⟨t1, hy1, hm⟩ := bind_some hm
 refine O.call Try.call86 rfl rfl rfl (g_slices_Compare_int _ _ (H.own 2 rfl) _ _ (H.own 3 rfl) hy1) ?_
 rintro _ w5 hb5 ⟨rfl, hghb5⟩
 have H := H.ext hghb5
 refine O.assign (v := (.int .i64 t1)) rfl rfl rfl ?_
 refine WL.nil ?_
 refine W.ret ?_
 have hq : t1 = r0 := Option.some.inj (show some t1 = some r0 from hm)
 subst hq
 exact ends1 Try.results85 rfl ⟨_, rfl, H.base, rfl, H.g⟩

theorem edges_sort : SortsK Try.prog GEdge 84 (.func (.func 85) #[] #[]) sortEdges :=
  sortsK_of (α := GEdge) Try.sortT Try.isAgg137 Try.sizeOf137 edgeC edge_swo 85 (enters_of Try.func85 (by kernel_rfl) rfl) fun x y W => (g_sight_graph_sorted_c1 x y (edge_some x y)).mono (by rintro e w' ⟨v, rfl, _, rfl, hg⟩; exact ⟨rfl, hg⟩)

theorem rev_turns : TurnsI Try.prog 69 List.reverse := turns_reverse Try.revT

theorem c_sight_graph_sorted {w0 : World} (pa0 : Addr) (va0_0 : Value) (va0_1 : Value) (a0_0 : (List (GPoint × Int))) (a0_1 : (List GEdge)) (ha0 : ∀ j c, ([va0_0, va0_1] : List Value)[j]? = some c → w0.cell? (pa0.add j) = some c) (ra0_0 : MapR w0 va0_0 a0_0) (ra0_1 : SliceR w0 va0_1 a0_1) {r0 : (List GEdge)} (hm : sight_graph_sorted a0_0 a0_1 = some r0) :
  Calls Try.prog 67 #[(.pointer (some pa0))] w0 (Ret w0 fun w v => OwnR w0 w v 137 r0) := by
 unfold sight_graph_sorted at hm
 refine calls_of_W Try.func67 rfl Try.ntmps67 (Nat.le_of_ble_eq_true rfl) ?_
 have H := Inv.start (w := w0)
 refine W.seq ?_
 refine W.region ?_
 have H := H.addNil (α := GEdge) (E := 137)
 refine O.assign (v := (.slice none 0 0)) rfl rfl rfl ?_
 refine WL.nil ?_
 refine W.seq ?_
 refine W.region ?_
 refine O.move (v := (.pointer (some pa0))) rfl rfl rfl ?_
 refine O.nilCheck rfl rfl rfl ?_
 refine O.fieldAddr fd129_1 rfl rfl rfl ?_
 refine O.load sc127 rfl rfl rfl (cells_mono ha0 H.base 1 _ rfl) ?_
 obtain ⟨t1, hy1, hm⟩ := bind_some hm
 refine O.call Try.call83 rfl rfl rfl (c_slices_Clone_step _ _ (H.arg ra0_1) hy1) ?_
 rintro v1 w1 hb1 ho1
 have H := H.addOwn hb1 ho1
 refine O.assign (v := v1) rfl rfl rfl ?_
 refine WL.nil ?_
 refine W.seq ?_
 refine W.region ?_
 refine O.move (v := v1) rfl rfl rfl ?_
 obtain ⟨t2, hy2, hm⟩ := bind_some hm
 refine O.sortK 1 H rfl edges_sort hy2 Try.call84 rfl rfl rfl rfl ?_
 intro w2 H
 refine WL.nil ?_
 refine W.seq ?_
 refine W.region ?_
 refine O.move (v := v1) rfl rfl rfl ?_
 refine O.assign (v := v1) rfl rfl rfl ?_
 refine WL.nil ?_
 refine W.ret ?_
 have hq : t2 = r0 := Option.some.inj (show some t2 = some r0 from hm)
 subst hq
 exact ends1 Try.results67 rfl ⟨_, rfl, H.base, H.ownR 1 rfl⟩

def pushItems (b1 b2 b3 b4 : Nat) (v1 v2 v3 : Value) (a0 : Int) (a1 : List GEdge) (a2 : List Int) (a3 : List GEdge) : List Fw.Item := [boxI b1 3 [(.int .i64 a0)], boxI b2 127 [v1], boxI b3 22 [v2], boxI b4 127 [v3], ownI (α := GEdge) v1 137 a1, ownI (α := Int) v2 3 a2, ownI (α := GEdge) v3 137 a3]
set_option maxRecDepth 20000 in
theorem c_push {w0 : World} (b1 b2 b3 b4 : Nat) (v1 v2 v3 : Value) (a0 : Int) (a1 : List GEdge) (a2 : List Int) (a3 : List GEdge) {r0 : List Int} {r1 : List GEdge} {r2 : Int} (H0 : InvD (fpOf (pushItems b1 b2 b3 b4 v1 v2 v3 a0 a1 a2 a3)) w0 w0 (pushItems b1 b2 b3 b4 v1 v2 v3 a0 a1 a2 a3)) (hm : sight_push a0 a1 a2 a3 = some (r0, r1, r2)) :
  Calls Try.prog 68 #[.pointer (some ⟨b1, 0, none⟩), .pointer (some ⟨b2, 0, none⟩), .pointer (some ⟨b3, 0, none⟩), .pointer (some ⟨b4, 0, none⟩)] w0 fun e w' => ∃ v L1, e = .returned v ∧ InvD (fpOf (pushItems b1 b2 b3 b4 v1 v2 v3 a0 a1 a2 a3)) w0 w' L1 ∧ (∃ u2 u3 : Value, v = .tuple #[] ∧ L1 = pushItems b1 b2 b3 b4 v1 u2 u3 r2 a1 r0 r1) := by
 unfold sight_push at hm
 refine calls_of_W Try.func68 rfl Try.ntmps68 (Nat.le_of_ble_eq_true rfl) ?_
 have H : InvD (fpOf (pushItems b1 b2 b3 b4 v1 v2 v3 a0 a1 a2 a3)) w0 w0 [boxI b1 3 [(.int .i64 a0)], boxI b2 127 [v1], boxI b3 22 [v2], boxI b4 127 [v3], ownI (α := GEdge) v1 137 a1, ownI (α := Int) v2 3 a2, ownI (α := GEdge) v3 137 a3] := H0
 refine W.seq ?_
 refine W.region ?_
 refine O.store 0 0 [(.int .i64 (-1))] [(.int .i64 (-1))] sz3 H rfl rfl rfl rfl rfl rfl ⟨⟨rfl, rfl⟩, rfl⟩ (one_cons rfl one_nil) ?_
 intro w1 H
 refine WL.nil ?_
 refine W.seq ?_
 refine W.region ?_
 refine O.load sc127 rfl rfl rfl (H.cell 1 rfl 0 _ rfl) ?_
 refine O.lenS Try.underlying127 (H.own 4 rfl) rfl rfl rfl ?_
 refine O.move (v := (.int .i64 0)) rfl rfl rfl ?_
 refine WL.nil ?_
 obtain ⟨⟨s1, s2, s3⟩, hm1, hm⟩ := bind_some hm
 refine W.via (fun f w => ∃ v10 : Value, ∃ v11 : Value, f 0 = (.pointer (some ⟨b1, 0, none⟩)) ∧ f 1 = (.pointer (some ⟨b2, 0, none⟩)) ∧ f 2 = (.pointer (some ⟨b3, 0, none⟩)) ∧ f 3 = (.pointer (some ⟨b4, 0, none⟩)) ∧ InvD (fpOf (pushItems b1 b2 b3 b4 v1 v2 v3 a0 a1 a2 a3)) w0 w [boxI b1 3 [(.int .i64 s1)], boxI b2 127 [v1], boxI b3 22 [v10], boxI b4 127 [v11], ownI (α := GEdge) v1 137 a1, ownI (α := Int) v10 3 s2, ownI (α := GEdge) v11 137 s3]) ?_ ?_
 ·
  refine W.block ?_
  refine W.rangeL (i := 0) hm1 (fun rem ik1 s f w => ∃ z4 : Int, ∃ z5 : (List Int), ∃ z6 : (List GEdge), ∃ v6 : Value, ∃ v7 : Value, (z4, z5, z6) = s ∧ a1.drop ik1 = rem ∧ f 9 = .int .i64 (ik1 : Int) ∧ f 8 = (.int .i64 ((a1.length : Nat) : Int)) ∧ f 0 = (.pointer (some ⟨b1, 0, none⟩)) ∧ f 1 = (.pointer (some ⟨b2, 0, none⟩)) ∧ f 2 = (.pointer (some ⟨b3, 0, none⟩)) ∧ f 3 = (.pointer (some ⟨b4, 0, none⟩)) ∧ f 7 = v1 ∧ InvD (fpOf (pushItems b1 b2 b3 b4 v1 v2 v3 a0 a1 a2 a3)) w0 w [boxI b1 3 [(.int .i64 z4)], boxI b2 127 [v1], boxI b3 22 [v6], boxI b4 127 [v7], ownI (α := GEdge) v1 137 a1, ownI (α := Int) v6 3 z5, ownI (α := GEdge) v7 137 z6]) ?_ ?_ ?_
  ·
   exact ⟨_, _, _, v2, v3, rfl, List.drop_zero, rfl, rfl, rfl, rfl, rfl, rfl, rfl, H⟩
  ·
   rintro yk1 xs ik1 _ st f w ⟨z4, z5, z6, v6, v7, rfl, hdropk1, hf9, hf8, hf0, hf1, hf2, hf3, hf7, H⟩ hm2
   have hltk1 := drop_lt hdropk1; have hixk1 := drop_idx hdropk1
   obtain ⟨u1, rfl⟩ := up7 hf9 hf8 hf0 hf1 hf2 hf3 hf7
   have hinck1 := addI_lt hltk1 (H.own 4 rfl).len_le
   refine W.seq ?_
   refine W.region ?_
   refine O.lss rfl rfl rfl rfl ?_
   refine WL.nil ?_
   refine W.seq ?_
   refine W.cond_true (congrArg Value.bool (decide_eq_true hltk1)) ?_
   refine W.skip ?_
   refine W.seq ?_
   obtain ⟨⟨s4, s5, s6⟩, hm3, hm2⟩ := bind_some hm2
   refine W.via (fun f w => ∃ v12 : Value, ∃ v13 : Value, f 0 = (.pointer (some ⟨b1, 0, none⟩)) ∧ f 1 = (.pointer (some ⟨b2, 0, none⟩)) ∧ f 2 = (.pointer (some ⟨b3, 0, none⟩)) ∧ f 3 = (.pointer (some ⟨b4, 0, none⟩)) ∧ f 7 = v1 ∧ f 8 = (.int .i64 ((a1.length : Nat) : Int)) ∧ f 9 = (.int .i64 (ik1 : Int)) ∧ InvD (fpOf (pushItems b1 b2 b3 b4 v1 v2 v3 a0 a1 a2 a3)) w0 w [boxI b1 3 [(.int .i64 s4)], boxI b2 127 [v1], boxI b3 22 [v12], boxI b4 127 [v13], ownI (α := GEdge) v1 137 a1, ownI (α := Int) v12 3 s5, ownI (α := GEdge) v13 137 s6]) ?_ ?_
   ·
    refine W.block ?_
    refine W.seq ?_
    refine W.region ?_
    refine O.indexAddr Try.underlying127 sz137 (H.own 4 rfl) hixk1 rfl rfl rfl rfl ?_
    intro p1 hp1
    refine O.loadA [(.int .i64 yk1.from_), (.int .i64 yk1.to), (.int .i64 yk1.cost), (.int .i64 yk1.number)] ag137 rfl rfl rfl rfl (hp1.flat) ?_
    refine O.alloc [(.int .i64 0), (.int .i64 0), (.int .i64 0), (.int .i64 0)] ze137 H rfl rfl rfl ?_
    intro b5 w2 H hb1
    have hp1 := hp1.mono hb1
    refine O.store 7 0 [(.int .i64 yk1.from_), (.int .i64 yk1.to), (.int .i64 yk1.cost), (.int .i64 yk1.number)] [(.int .i64 yk1.from_), (.int .i64 yk1.to), (.int .i64 yk1.cost), (.int .i64 yk1.number)] sz137 H rfl rfl rfl rfl rfl rfl ⟨⟨rfl, rfl⟩, rfl⟩ (one_cons rfl (one_cons rfl (one_cons rfl (one_cons rfl one_nil)))) ?_
    intro w3 H
    clear hp1
    refine WL.nil ?_
    refine W.seq ?_
    obtain ⟨x1, hx1, hm3⟩ := bind_some hm3
    obtain ⟨p2, hp2, hrp2⟩ := fix_indexAddr Try.underlying22 sz3 (H.own 5 rfl) hx1
    refine W.drawN 7 (fun f => f 0 = (.pointer (some ⟨b1, 0, none⟩)) ∧ f 1 = (.pointer (some ⟨b2, 0, none⟩)) ∧ f 2 = (.pointer (some ⟨b3, 0, none⟩)) ∧ f 3 = (.pointer (some ⟨b4, 0, none⟩)) ∧ f 5 = (.pointer (some ⟨b5, 0, none⟩)) ∧ f 7 = v1 ∧ f 8 = (.int .i64 ((a1.length : Nat) : Int)) ∧ f 9 = (.int .i64 (ik1 : Int)) ∧ f 17 = (.int .i64 x1) ∧ f 19 = (.int .i64 yk1.cost)) fol (by kernel_rfl) ?_ ?_
    ·
     refine PL.of (fun _ w8 _ hx => by have H := H.ext hx; exact O.load sc22 rfl rfl rfl (H.cell 2 rfl 0 _ rfl) (WL.nil ⟨rfl, hx⟩)) ?_
     refine PL.of (fun _ w8 _ hx => O.fieldAddr fd137_0 rfl rfl rfl (WL.nil ⟨rfl, hx⟩)) ?_
     refine PL.of (fun _ w8 _ hx => by have H := H.ext hx; exact O.load sc3 rfl rfl rfl (H.cell 7 rfl 0 _ rfl) (WL.nil ⟨rfl, hx⟩)) ?_
     refine PL.of (fun _ w8 _ hx => hrp2 rfl rfl rfl rfl (WL.nil ⟨rfl, hx⟩)) ?_
     refine PL.of (fun _ w8 _ hx => by have hp2 := hp2.mono hx; exact O.load sc3 rfl rfl rfl (hp2.flat 0 _ rfl) (WL.nil ⟨rfl, hx⟩)) ?_
     refine PL.of (fun _ w8 _ hx => O.fieldAddr fd137_2 rfl rfl rfl (WL.nil ⟨rfl, hx⟩)) ?_
     refine PL.of (fun _ w8 _ hx => by have H := H.ext hx; exact O.load sc3 rfl rfl rfl (H.cell 7 rfl 2 _ rfl) (WL.nil ⟨rfl, hx⟩)) ?_
     refine PL.nil ?_
     exact ⟨rfl, rfl, rfl, rfl, rfl, rfl, rfl, rfl, rfl, rfl⟩
    ·
     rintro f w ⟨hf0, hf1, hf2, hf3, hf5, hf7, hf8, hf9, hf17, hf19⟩ hmd hx
     have H := H.ext hx
     have hp2 := hp2.mono hx
     obtain ⟨u2, rfl⟩ : ∃ u2, f = (upd (upd (upd (upd (upd (upd (upd (upd (upd (upd u2 0 (.pointer (some ⟨b1, 0, none⟩))) 1 (.pointer (some ⟨b2, 0, none⟩))) 2 (.pointer (some ⟨b3, 0, none⟩))) 3 (.pointer (some ⟨b4, 0, none⟩))) 5 (.pointer (some ⟨b5, 0, none⟩))) 7 v1) 8 (.int .i64 ((a1.length : Nat) : Int))) 9 (.int .i64 (ik1 : Int))) 17 (.int .i64 x1)) 19 (.int .i64 yk1.cost)) := ⟨f, by rw [upd_self hf0, upd_self hf1, upd_self hf2, upd_self hf3, upd_self hf5, upd_self hf7, upd_self hf8, upd_self hf9, upd_self hf17, upd_self hf19]⟩
     obtain ⟨t1, ht1, hm3⟩ := bind_some hm3
     refine O.add rfl rfl rfl rfl ht1 ?_
     refine O.assign (v := (.int .i64 t1)) rfl rfl rfl ?_
     refine WL.nil ?_
     refine W.seq ?_
     refine W.region ?_
     refine O.move (v := (.int .i64 t1)) rfl rfl rfl ?_
     refine O.load sc22 rfl rfl rfl (H.cell 2 rfl 0 _ rfl) ?_
     refine O.fieldAddr fd137_1 rfl rfl rfl ?_
     refine O.load sc3 rfl rfl rfl (H.cell 7 rfl 1 _ rfl) ?_
     obtain ⟨x2, hx2, hm3⟩ := bind_some hm3
     refine O.indexAddr Try.underlying22 sz3 (H.own 5 rfl) hx2 rfl rfl rfl rfl ?_
     intro p3 hp3
     refine O.load sc3 rfl rfl rfl (hp3.flat 0 _ rfl) ?_
     refine O.lss rfl rfl rfl rfl ?_
     refine WL.nil ?_
     obtain ⟨⟨s7, s8, s9⟩, hm4, hm3⟩ := bind_some hm3
     refine W.via (fun f w => ∃ v14 : Value, ∃ v15 : Value, f 0 = (.pointer (some ⟨b1, 0, none⟩)) ∧ f 1 = (.pointer (some ⟨b2, 0, none⟩)) ∧ f 2 = (.pointer (some ⟨b3, 0, none⟩)) ∧ f 3 = (.pointer (some ⟨b4, 0, none⟩)) ∧ f 7 = v1 ∧ f 8 = (.int .i64 ((a1.length : Nat) : Int)) ∧ f 9 = (.int .i64 (ik1 : Int)) ∧ InvD (fpOf (pushItems b1 b2 b3 b4 v1 v2 v3 a0 a1 a2 a3)) w0 w [boxI b1 3 [(.int .i64 s7)], boxI b2 127 [v1], boxI b3 22 [v14], boxI b4 127 [v15], ownI (α := GEdge) v1 137 a1, ownI (α := Int) v14 3 s8, ownI (α := GEdge) v15 137 s9]) ?_ ?_
     ·
      rcases ite_some hm4 with ⟨hc1, hm4⟩ | ⟨hc1, hm4⟩
      ·
       refine W.cond_true (congrArg Value.bool hc1) ?_
       obtain ⟨x3, hx3, hm4⟩ := bind_some hm4
       obtain ⟨x4, hx4, hm4⟩ := bind_some hm4
       refine W.drawD 14 [[], [], [1], [], [], [4], [], [], [], [8], [0, 1, 2, 6], [0, 1, 2, 6, 10], [0, 1, 2, 3, 4, 5, 6, 7, 10, 11], [0, 1, 2, 3, 4, 5, 6, 7, 10, 11, 12]] [[10, 11, 12, 13], [2, 10, 11, 12, 13], [10, 11, 12, 13], [12, 13], [5, 12, 13], [12, 13], [10, 11, 12, 13], [12, 13], [9], [], [11, 12, 13], [12, 13], [13], []] (fun S f w => ∃ b6 : Nat, ∃ b7 : Nat, InvD (fpOf (pushItems b1 b2 b3 b4 v1 v2 v3 a0 a1 a2 a3)) w0 w [] ∧ f 0 = (.pointer (some ⟨b1, 0, none⟩)) ∧ f 1 = (.pointer (some ⟨b2, 0, none⟩)) ∧ f 2 = (.pointer (some ⟨b3, 0, none⟩)) ∧ f 3 = (.pointer (some ⟨b4, 0, none⟩)) ∧ f 5 = (.pointer (some ⟨b5, 0, none⟩)) ∧ f 6 = (.int .i64 t1) ∧ f 7 = v1 ∧ f 8 = (.int .i64 ((a1.length : Nat) : Int)) ∧ f 9 = (.int .i64 (ik1 : Int)) ∧ (S 0 = true → f 28 = v6) ∧ (S 1 = true → f 29 = (.pointer (some (Addr.add (Addr.mk b5 0 none) 1)))) ∧ (S 2 = true → f 30 = (.int .i64 yk1.to)) ∧ (S 3 = true → f 31 = v7) ∧ (S 4 = true → f 32 = (.pointer (some (Addr.add (Addr.mk b5 0 none) 1)))) ∧ (S 5 = true → f 33 = (.int .i64 yk1.to)) ∧ (S 6 = true → f 34 = (.int .i64 t1)) ∧ (S 7 = true → f 35 = (.agg (Flat.cells yk1).toArray)) ∧ (S 8 = true → f 36 = (.pointer (some (Addr.add (Addr.mk b5 0 none) 1)))) ∧ (S 9 = true → f 37 = (.int .i64 yk1.to)) ∧ (S 10 = true → f 38 = (.pointer (some ⟨b6, Int.toNat yk1.to * Flat.size Int, none⟩))) ∧ (S 12 = true → f 39 = (.pointer (some ⟨b7, Int.toNat yk1.to * Flat.size GEdge, none⟩))) ∧ (S 10 = true → Value.ownBlock v6 = some b6) ∧ (S 12 = true → Value.ownBlock v7 = some b7) ∧ (S 10 = true → S 11 = false → S 13 = false → (ElemAt w (⟨b6, Int.toNat yk1.to * Flat.size Int, none⟩ : Addr) x3)) ∧ (S 12 = true → S 11 = false → S 13 = false → (ElemAt w (⟨b7, Int.toNat yk1.to * Flat.size GEdge, none⟩ : Addr) x4)) ∧ (S 11 = false → S 13 = false → (ElemAt w p3 x2)) ∧ (S 13 = true → S 11 = true) ∧ (S 11 = false → S 13 = false → InvD (fpOf (pushItems b1 b2 b3 b4 v1 v2 v3 a0 a1 a2 a3)) w0 w [boxI b1 3 [(.int .i64 z4)], boxI b2 127 [v1], boxI b3 22 [v6], boxI b4 127 [v7], ownI (α := GEdge) v1 137 a1, ownI (α := Int) v6 3 z5, ownI (α := GEdge) v7 137 z6, boxI b5 137 [(.int .i64 yk1.from_), (.int .i64 yk1.to), (.int .i64 yk1.cost), (.int .i64 yk1.number)]]) ∧ (S 11 = true → S 13 = false → InvD (fpOf (pushItems b1 b2 b3 b4 v1 v2 v3 a0 a1 a2 a3)) w0 w [boxI b1 3 [(.int .i64 z4)], boxI b2 127 [v1], boxI b3 22 [v6], boxI b4 127 [v7], ownI (α := GEdge) v1 137 a1, ownI (α := Int) v6 3 (z5.set (Int.toNat yk1.to) t1), ownI (α := GEdge) v7 137 z6, boxI b5 137 [(.int .i64 yk1.from_), (.int .i64 yk1.to), (.int .i64 yk1.cost), (.int .i64 yk1.number)]]) ∧ (S 11 = true → S 13 = true → InvD (fpOf (pushItems b1 b2 b3 b4 v1 v2 v3 a0 a1 a2 a3)) w0 w [boxI b1 3 [(.int .i64 z4)], boxI b2 127 [v1], boxI b3 22 [v6], boxI b4 127 [v7], ownI (α := GEdge) v1 137 a1, ownI (α := Int) v6 3 (z5.set (Int.toNat yk1.to) t1), ownI (α := GEdge) v7 137 (z6.set (Int.toNat yk1.to) yk1), boxI b5 137 [(.int .i64 yk1.from_), (.int .i64 yk1.to), (.int .i64 yk1.cost), (.int .i64 yk1.number)]])) fol (by kernel_rfl) ?_ ?_ ?_
       ·
        exact fun d _ => ⟨0, 0, ((H.ext (below_drawn d)).pick [] [] rfl (by decide)), rfl, rfl, rfl, rfl, rfl, rfl, rfl, rfl, rfl, nF, nF, nF, nF, nF, nF, nF, nF, nF, nF, nF, nF, nF, nF, nF, nF, (fun _ _ => hp3.mono (below_drawn d)), nF, (fun _ _ => H.ext (below_drawn d)), (fun a _ => nF a), (fun a _ => nF a)⟩
       ·
        refine ⟨?_, ⟨?_, ⟨?_, ⟨?_, ⟨?_, ⟨?_, ⟨?_, ⟨?_, ⟨?_, ⟨?_, ⟨?_, ⟨?_, ⟨?_, ⟨?_, trivial⟩⟩⟩⟩⟩⟩⟩⟩⟩⟩⟩⟩⟩⟩
        ·
         rintro S f w hS - ⟨e10, e11, e12, e13, -⟩ ⟨b6, b7, B, hf0, hf1, hf2, hf3, hf5, hf6, hf7, hf8, hf9, hd0, hd1, hd2, hd3, hd4, hd5, hd6, hd7, hd8, hd9, hd10, hd12, Fhob1, Fhob2, Fhp4, Fhp5, Fhp3, t⟩
         obtain ⟨u3, rfl⟩ := up1 hf2
         have H := t.2.1 e11 e13
         have hp3 := Fhp3 e11 e13
         refine O.load sc22 rfl rfl rfl (H.cell 2 rfl 0 _ rfl) ?_
         exact WL.nil ⟨b6, b7, B, hf0, hf1, rfl, hf3, hf5, hf6, hf7, hf8, hf9, (fun _ => rfl), hd1, hd2, hd3, hd4, hd5, hd6, hd7, hd8, hd9, hd10, hd12, Fhob1, Fhob2, (fun g0 g1 g2 => Fhp4 g0 g1 g2), (fun g0 g1 g2 => Fhp5 g0 g1 g2), (fun g0 g1 => Fhp3 g0 g1), t⟩
        ·
         rintro S f w hS - ⟨e2, e10, e11, e12, e13, -⟩ ⟨b6, b7, B, hf0, hf1, hf2, hf3, hf5, hf6, hf7, hf8, hf9, hd0, hd1, hd2, hd3, hd4, hd5, hd6, hd7, hd8, hd9, hd10, hd12, Fhob1, Fhob2, Fhp4, Fhp5, Fhp3, t⟩
         obtain ⟨u4, rfl⟩ := up1 hf5
         have H := t.2.1 e11 e13
         have hp3 := Fhp3 e11 e13
         refine O.fieldAddr fd137_1 rfl rfl rfl ?_
         exact WL.nil ⟨b6, b7, B, hf0, hf1, hf2, hf3, rfl, hf6, hf7, hf8, hf9, hd0, (fun _ => rfl), hd2, hd3, hd4, hd5, hd6, hd7, hd8, hd9, hd10, hd12, Fhob1, Fhob2, (fun g0 g1 g2 => Fhp4 g0 g1 g2), (fun g0 g1 g2 => Fhp5 g0 g1 g2), (fun g0 g1 => Fhp3 g0 g1), t⟩
        ·
         rintro S f w hS ⟨e1, -⟩ ⟨e10, e11, e12, e13, -⟩ ⟨b6, b7, B, hf0, hf1, hf2, hf3, hf5, hf6, hf7, hf8, hf9, hd0, hd1, hd2, hd3, hd4, hd5, hd6, hd7, hd8, hd9, hd10, hd12, Fhob1, Fhob2, Fhp4, Fhp5, Fhp3, t⟩
         have hf29 := hd1 e1
         obtain ⟨u5, rfl⟩ := up1 hf29
         have H := t.2.1 e11 e13
         have hp3 := Fhp3 e11 e13
         refine O.load sc3 rfl rfl rfl (H.cell 7 rfl 1 _ rfl) ?_
         exact WL.nil ⟨b6, b7, B, hf0, hf1, hf2, hf3, hf5, hf6, hf7, hf8, hf9, hd0, hd1, (fun _ => rfl), hd3, hd4, hd5, hd6, hd7, hd8, hd9, hd10, hd12, Fhob1, Fhob2, (fun g0 g1 g2 => Fhp4 g0 g1 g2), (fun g0 g1 g2 => Fhp5 g0 g1 g2), (fun g0 g1 => Fhp3 g0 g1), t⟩
        ·
         rintro S f w hS - ⟨e12, e13, -⟩ ⟨b6, b7, B, hf0, hf1, hf2, hf3, hf5, hf6, hf7, hf8, hf9, hd0, hd1, hd2, hd3, hd4, hd5, hd6, hd7, hd8, hd9, hd10, hd12, Fhob1, Fhob2, Fhp4, Fhp5, Fhp3, C13_11, W0, W1, W2⟩
         obtain ⟨u6, rfl⟩ := up1 hf3
         rcases bool_ft (S 11) with e11 | e11
         ·
          have H := W0 e11 e13
          have hp3 := Fhp3 e11 e13
          refine O.load sc127 rfl rfl rfl (H.cell 3 rfl 0 _ rfl) ?_
          exact WL.nil ⟨b6, b7, B, hf0, hf1, hf2, rfl, hf5, hf6, hf7, hf8, hf9, hd0, hd1, hd2, (fun _ => rfl), hd4, hd5, hd6, hd7, hd8, hd9, hd10, hd12, Fhob1, Fhob2, (fun g0 g1 g2 => Fhp4 g0 g1 g2), (fun g0 g1 g2 => Fhp5 g0 g1 g2), (fun g0 g1 => Fhp3 g0 g1), C13_11, (fun _ _ => H), (fun a _ => nX e11 a), (fun a _ => nX e11 a)⟩
         ·
          have H := W1 e11 e13
          refine O.load sc127 rfl rfl rfl (H.cell 3 rfl 0 _ rfl) ?_
          exact WL.nil ⟨b6, b7, B, hf0, hf1, hf2, rfl, hf5, hf6, hf7, hf8, hf9, hd0, hd1, hd2, (fun _ => rfl), hd4, hd5, hd6, hd7, hd8, hd9, hd10, hd12, Fhob1, Fhob2, (fun g0 g1 g2 => Fhp4 g0 g1 g2), (fun g0 g1 g2 => Fhp5 g0 g1 g2), (fun g0 g1 => Fhp3 g0 g1), C13_11, (fun a _ => nT e11 a), (fun _ _ => H), (fun _ a => nX e13 a)⟩
        ·
         rintro S f w hS - ⟨e5, e12, e13, -⟩ ⟨b6, b7, B, hf0, hf1, hf2, hf3, hf5, hf6, hf7, hf8, hf9, hd0, hd1, hd2, hd3, hd4, hd5, hd6, hd7, hd8, hd9, hd10, hd12, Fhob1, Fhob2, Fhp4, Fhp5, Fhp3, C13_11, W0, W1, W2⟩
         obtain ⟨u7, rfl⟩ := up1 hf5
         rcases bool_ft (S 11) with e11 | e11
         ·
          have H := W0 e11 e13
          have hp3 := Fhp3 e11 e13
          refine O.fieldAddr fd137_1 rfl rfl rfl ?_
          exact WL.nil ⟨b6, b7, B, hf0, hf1, hf2, hf3, rfl, hf6, hf7, hf8, hf9, hd0, hd1, hd2, hd3, (fun _ => rfl), hd5, hd6, hd7, hd8, hd9, hd10, hd12, Fhob1, Fhob2, (fun g0 g1 g2 => Fhp4 g0 g1 g2), (fun g0 g1 g2 => Fhp5 g0 g1 g2), (fun g0 g1 => Fhp3 g0 g1), C13_11, (fun _ _ => H), (fun a _ => nX e11 a), (fun a _ => nX e11 a)⟩
         ·
          have H := W1 e11 e13
          refine O.fieldAddr fd137_1 rfl rfl rfl ?_
          exact WL.nil ⟨b6, b7, B, hf0, hf1, hf2, hf3, rfl, hf6, hf7, hf8, hf9, hd0, hd1, hd2, hd3, (fun _ => rfl), hd5, hd6, hd7, hd8, hd9, hd10, hd12, Fhob1, Fhob2, (fun g0 g1 g2 => Fhp4 g0 g1 g2), (fun g0 g1 g2 => Fhp5 g0 g1 g2), (fun g0 g1 => Fhp3 g0 g1), C13_11, (fun a _ => nT e11 a), (fun _ _ => H), (fun _ a => nX e13 a)⟩
        ·
         rintro S f w hS ⟨e4, -⟩ ⟨e12, e13, -⟩ ⟨b6, b7, B, hf0, hf1, hf2, hf3, hf5, hf6, hf7, hf8, hf9, hd0, hd1, hd2, hd3, hd4, hd5, hd6, hd7, hd8, hd9, hd10, hd12, Fhob1, Fhob2, Fhp4, Fhp5, Fhp3, C13_11, W0, W1, W2⟩
         have hf32 := hd4 e4
         obtain ⟨u8, rfl⟩ := up1 hf32
         rcases bool_ft (S 11) with e11 | e11
         ·
          have H := W0 e11 e13
          have hp3 := Fhp3 e11 e13
          refine O.load sc3 rfl rfl rfl (H.cell 7 rfl 1 _ rfl) ?_
          exact WL.nil ⟨b6, b7, B, hf0, hf1, hf2, hf3, hf5, hf6, hf7, hf8, hf9, hd0, hd1, hd2, hd3, hd4, (fun _ => rfl), hd6, hd7, hd8, hd9, hd10, hd12, Fhob1, Fhob2, (fun g0 g1 g2 => Fhp4 g0 g1 g2), (fun g0 g1 g2 => Fhp5 g0 g1 g2), (fun g0 g1 => Fhp3 g0 g1), C13_11, (fun _ _ => H), (fun a _ => nX e11 a), (fun a _ => nX e11 a)⟩
         ·
          have H := W1 e11 e13
          refine O.load sc3 rfl rfl rfl (H.cell 7 rfl 1 _ rfl) ?_
          exact WL.nil ⟨b6, b7, B, hf0, hf1, hf2, hf3, hf5, hf6, hf7, hf8, hf9, hd0, hd1, hd2, hd3, hd4, (fun _ => rfl), hd6, hd7, hd8, hd9, hd10, hd12, Fhob1, Fhob2, (fun g0 g1 g2 => Fhp4 g0 g1 g2), (fun g0 g1 g2 => Fhp5 g0 g1 g2), (fun g0 g1 => Fhp3 g0 g1), C13_11, (fun a _ => nT e11 a), (fun _ _ => H), (fun _ a => nX e13 a)⟩
        ·
         rintro S f w hS - ⟨e10, e11, e12, e13, -⟩ ⟨b6, b7, B, hf0, hf1, hf2, hf3, hf5, hf6, hf7, hf8, hf9, hd0, hd1, hd2, hd3, hd4, hd5, hd6, hd7, hd8, hd9, hd10, hd12, Fhob1, Fhob2, Fhp4, Fhp5, Fhp3, t⟩
         obtain ⟨u9, rfl⟩ := up1 hf6
         have H := t.2.1 e11 e13
         have hp3 := Fhp3 e11 e13
         refine O.move (v := (.int .i64 t1)) rfl rfl rfl ?_
         exact WL.nil ⟨b6, b7, B, hf0, hf1, hf2, hf3, hf5, rfl, hf7, hf8, hf9, hd0, hd1, hd2, hd3, hd4, hd5, (fun _ => rfl), hd7, hd8, hd9, hd10, hd12, Fhob1, Fhob2, (fun g0 g1 g2 => Fhp4 g0 g1 g2), (fun g0 g1 g2 => Fhp5 g0 g1 g2), (fun g0 g1 => Fhp3 g0 g1), t⟩
        ·
         rintro S f w hS - ⟨e12, e13, -⟩ ⟨b6, b7, B, hf0, hf1, hf2, hf3, hf5, hf6, hf7, hf8, hf9, hd0, hd1, hd2, hd3, hd4, hd5, hd6, hd7, hd8, hd9, hd10, hd12, Fhob1, Fhob2, Fhp4, Fhp5, Fhp3, C13_11, W0, W1, W2⟩
         obtain ⟨u10, rfl⟩ := up1 hf5
         rcases bool_ft (S 11) with e11 | e11
         ·
          have H := W0 e11 e13
          have hp3 := Fhp3 e11 e13
          refine O.loadA [(.int .i64 yk1.from_), (.int .i64 yk1.to), (.int .i64 yk1.cost), (.int .i64 yk1.number)] ag137 rfl rfl rfl rfl (H.cell 7 rfl) ?_
          exact WL.nil ⟨b6, b7, B, hf0, hf1, hf2, hf3, rfl, hf6, hf7, hf8, hf9, hd0, hd1, hd2, hd3, hd4, hd5, hd6, (fun _ => rfl), hd8, hd9, hd10, hd12, Fhob1, Fhob2, (fun g0 g1 g2 => Fhp4 g0 g1 g2), (fun g0 g1 g2 => Fhp5 g0 g1 g2), (fun g0 g1 => Fhp3 g0 g1), C13_11, (fun _ _ => H), (fun a _ => nX e11 a), (fun a _ => nX e11 a)⟩
         ·
          have H := W1 e11 e13
          refine O.loadA [(.int .i64 yk1.from_), (.int .i64 yk1.to), (.int .i64 yk1.cost), (.int .i64 yk1.number)] ag137 rfl rfl rfl rfl (H.cell 7 rfl) ?_
          exact WL.nil ⟨b6, b7, B, hf0, hf1, hf2, hf3, rfl, hf6, hf7, hf8, hf9, hd0, hd1, hd2, hd3, hd4, hd5, hd6, (fun _ => rfl), hd8, hd9, hd10, hd12, Fhob1, Fhob2, (fun g0 g1 g2 => Fhp4 g0 g1 g2), (fun g0 g1 g2 => Fhp5 g0 g1 g2), (fun g0 g1 => Fhp3 g0 g1), C13_11, (fun a _ => nT e11 a), (fun _ _ => H), (fun _ a => nX e13 a)⟩
        ·
         rintro S f w hS - ⟨e9, -⟩ ⟨b6, b7, B, hf0, hf1, hf2, hf3, hf5, hf6, hf7, hf8, hf9, hd0, hd1, hd2, hd3, hd4, hd5, hd6, hd7, hd8, hd9, hd10, hd12, Fhob1, Fhob2, Fhp4, Fhp5, Fhp3, C13_11, W0, W1, W2⟩
         obtain ⟨u11, rfl⟩ := up1 hf5
         rcases bool_ft (S 11) with e11 | e11
         ·
          rcases bool_ft (S 13) with e13 | e13
          ·
           have H := W0 e11 e13
           have hp3 := Fhp3 e11 e13
           refine O.fieldAddr fd137_1 rfl rfl rfl ?_
           exact WL.nil ⟨b6, b7, B, hf0, hf1, hf2, hf3, rfl, hf6, hf7, hf8, hf9, hd0, hd1, hd2, hd3, hd4, hd5, hd6, hd7, (fun _ => rfl), hd9, hd10, hd12, Fhob1, Fhob2, (fun g0 g1 g2 => Fhp4 g0 g1 g2), (fun g0 g1 g2 => Fhp5 g0 g1 g2), (fun g0 g1 => Fhp3 g0 g1), C13_11, (fun _ _ => H), (fun a _ => nX e11 a), (fun a _ => nX e11 a)⟩
          ·
           exact nomatch (show true = false from (C13_11 e13).symm.trans e11)
         ·
          rcases bool_ft (S 13) with e13 | e13
          ·
           have H := W1 e11 e13
           refine O.fieldAddr fd137_1 rfl rfl rfl ?_
           exact WL.nil ⟨b6, b7, B, hf0, hf1, hf2, hf3, rfl, hf6, hf7, hf8, hf9, hd0, hd1, hd2, hd3, hd4, hd5, hd6, hd7, (fun _ => rfl), hd9, hd10, hd12, Fhob1, Fhob2, (fun g0 g1 g2 => Fhp4 g0 g1 g2), (fun g0 g1 g2 => Fhp5 g0 g1 g2), (fun g0 g1 => Fhp3 g0 g1), C13_11, (fun a _ => nT e11 a), (fun _ _ => H), (fun _ a => nX e13 a)⟩
          ·
           have H := W2 e11 e13
           refine O.fieldAddr fd137_1 rfl rfl rfl ?_
           exact WL.nil ⟨b6, b7, B, hf0, hf1, hf2, hf3, rfl, hf6, hf7, hf8, hf9, hd0, hd1, hd2, hd3, hd4, hd5, hd6, hd7, (fun _ => rfl), hd9, hd10, hd12, Fhob1, Fhob2, (fun g0 g1 g2 => Fhp4 g0 g1 g2), (fun g0 g1 g2 => Fhp5 g0 g1 g2), (fun g0 g1 => Fhp3 g0 g1), C13_11, (fun a _ => nT e11 a), (fun _ a => nT e13 a), (fun _ _ => H)⟩
        ·
         rintro S f w hS ⟨e8, -⟩ - ⟨b6, b7, B, hf0, hf1, hf2, hf3, hf5, hf6, hf7, hf8, hf9, hd0, hd1, hd2, hd3, hd4, hd5, hd6, hd7, hd8, hd9, hd10, hd12, Fhob1, Fhob2, Fhp4, Fhp5, Fhp3, C13_11, W0, W1, W2⟩
         have hf36 := hd8 e8
         obtain ⟨u12, rfl⟩ := up1 hf36
         rcases bool_ft (S 11) with e11 | e11
         ·
          rcases bool_ft (S 13) with e13 | e13
          ·
           have H := W0 e11 e13
           have hp3 := Fhp3 e11 e13
           refine O.load sc3 rfl rfl rfl (H.cell 7 rfl 1 _ rfl) ?_
           exact WL.nil ⟨b6, b7, B, hf0, hf1, hf2, hf3, hf5, hf6, hf7, hf8, hf9, hd0, hd1, hd2, hd3, hd4, hd5, hd6, hd7, hd8, (fun _ => rfl), hd10, hd12, Fhob1, Fhob2, (fun g0 g1 g2 => Fhp4 g0 g1 g2), (fun g0 g1 g2 => Fhp5 g0 g1 g2), (fun g0 g1 => Fhp3 g0 g1), C13_11, (fun _ _ => H), (fun a _ => nX e11 a), (fun a _ => nX e11 a)⟩
          ·
           exact nomatch (show true = false from (C13_11 e13).symm.trans e11)
         ·
          rcases bool_ft (S 13) with e13 | e13
          ·
           have H := W1 e11 e13
           refine O.load sc3 rfl rfl rfl (H.cell 7 rfl 1 _ rfl) ?_
           exact WL.nil ⟨b6, b7, B, hf0, hf1, hf2, hf3, hf5, hf6, hf7, hf8, hf9, hd0, hd1, hd2, hd3, hd4, hd5, hd6, hd7, hd8, (fun _ => rfl), hd10, hd12, Fhob1, Fhob2, (fun g0 g1 g2 => Fhp4 g0 g1 g2), (fun g0 g1 g2 => Fhp5 g0 g1 g2), (fun g0 g1 => Fhp3 g0 g1), C13_11, (fun a _ => nT e11 a), (fun _ _ => H), (fun _ a => nX e13 a)⟩
          ·
           have H := W2 e11 e13
           refine O.load sc3 rfl rfl rfl (H.cell 7 rfl 1 _ rfl) ?_
           exact WL.nil ⟨b6, b7, B, hf0, hf1, hf2, hf3, hf5, hf6, hf7, hf8, hf9, hd0, hd1, hd2, hd3, hd4, hd5, hd6, hd7, hd8, (fun _ => rfl), hd10, hd12, Fhob1, Fhob2, (fun g0 g1 g2 => Fhp4 g0 g1 g2), (fun g0 g1 g2 => Fhp5 g0 g1 g2), (fun g0 g1 => Fhp3 g0 g1), C13_11, (fun a _ => nT e11 a), (fun _ a => nT e13 a), (fun _ _ => H)⟩
        ·
         rintro S f w hS ⟨e0, e1, e2, e6, -⟩ ⟨e11, e12, e13, -⟩ ⟨_, b7, B, hf0, hf1, hf2, hf3, hf5, hf6, hf7, hf8, hf9, hd0, hd1, hd2, hd3, hd4, hd5, hd6, hd7, hd8, hd9, hd10, hd12, Fhob1, Fhob2, Fhp4, Fhp5, Fhp3, t⟩
         have hf28 := hd0 e0
         have hf30 := hd2 e2
         obtain ⟨u13, rfl⟩ := up2 hf28 hf30
         have H := t.2.1 e11 e13
         have hp3 := Fhp3 e11 e13
         refine O.indexOwn 5 Try.underlying22 sz3 H rfl hx3 rfl rfl rfl rfl ?_
         intro b6 hob1 hp4
         exact WL.nil ⟨b6, b7, B, hf0, hf1, hf2, hf3, hf5, hf6, hf7, hf8, hf9, hd0, hd1, hd2, hd3, hd4, hd5, hd6, hd7, hd8, hd9, (fun _ => rfl), hd12, (fun _ => hob1), Fhob2, (fun _ _ _ => hp4), (fun g0 g1 g2 => Fhp5 g0 g1 g2), (fun g0 g1 => Fhp3 g0 g1), t⟩
        ·
         rintro S f w hS ⟨e0, e1, e2, e6, e10, -⟩ ⟨e12, e13, -⟩ ⟨b6, b7, B, hf0, hf1, hf2, hf3, hf5, hf6, hf7, hf8, hf9, hd0, hd1, hd2, hd3, hd4, hd5, hd6, hd7, hd8, hd9, hd10, hd12, Fhob1, Fhob2, Fhp4, Fhp5, Fhp3, C13_11, W0, W1, W2⟩
         have hf34 := hd6 e6
         have hf38 := hd10 e10
         obtain ⟨u14, rfl⟩ := up2 hf34 hf38
         have H := W0 hS e13
         have hp4 := Fhp4 e10 hS e13
         have hp3 := Fhp3 hS e13
         have hob1 := Fhob1 e10
         refine O.storeOwn (α := Int) (i0 := yk1.to) (x0 := x3) 5 0 t1 [(.int .i64 t1)] sz3 H rfl hob1 hx3 rfl rfl rfl rfl rfl rfl rfl rfl (one_cons rfl one_nil) ?_
         intro w4 H
         clear hp4
         clear hp3
         exact WL.nil ⟨b6, b7, (H.pick [] [] rfl (by decide)), hf0, hf1, hf2, hf3, hf5, hf6, hf7, hf8, hf9, hd0, hd1, hd2, hd3, hd4, hd5, hd6, hd7, hd8, hd9, hd10, hd12, Fhob1, Fhob2, (fun g0 g1 g2 => nG g1), (fun g0 g1 g2 => nG g1), (fun g0 g1 => nG g0), (fun _ => rfl), (fun a _ => nG a), (fun _ _ => H), (fun _ a => nX e13 a)⟩
        ·
         rintro S f w hS ⟨e0, e1, e2, e3, e4, e5, e6, e7, e10, e11, -⟩ ⟨e13, -⟩ ⟨b6, _, B, hf0, hf1, hf2, hf3, hf5, hf6, hf7, hf8, hf9, hd0, hd1, hd2, hd3, hd4, hd5, hd6, hd7, hd8, hd9, hd10, hd12, Fhob1, Fhob2, Fhp4, Fhp5, Fhp3, t⟩
         have hf31 := hd3 e3
         have hf33 := hd5 e5
         obtain ⟨u15, rfl⟩ := up2 hf31 hf33
         have H := t.2.2.1 e11 e13
         have hob1 := Fhob1 e10
         refine O.indexOwn 6 Try.underlying127 sz137 H rfl hx4 rfl rfl rfl rfl ?_
         intro b7 hob2 hp5
         exact WL.nil ⟨b6, b7, B, hf0, hf1, hf2, hf3, hf5, hf6, hf7, hf8, hf9, hd0, hd1, hd2, hd3, hd4, hd5, hd6, hd7, hd8, hd9, hd10, (fun _ => rfl), Fhob1, (fun _ => hob2), (fun g0 g1 g2 => Fhp4 g0 g1 g2), (fun _ _ _ => hp5), (fun g0 g1 => Fhp3 g0 g1), t⟩
        ·
         rintro S f w hS ⟨e0, e1, e2, e3, e4, e5, e6, e7, e10, e11, e12, -⟩ - ⟨b6, b7, B, hf0, hf1, hf2, hf3, hf5, hf6, hf7, hf8, hf9, hd0, hd1, hd2, hd3, hd4, hd5, hd6, hd7, hd8, hd9, hd10, hd12, Fhob1, Fhob2, Fhp4, Fhp5, Fhp3, C13_11, W0, W1, W2⟩
         have hf35 := hd7 e7
         have hf39 := hd12 e12
         obtain ⟨u16, rfl⟩ := up2 hf35 hf39
         have H := W1 e11 hS
         have hob1 := Fhob1 e10
         have hob2 := Fhob2 e12
         refine O.storeOwn (α := GEdge) (i0 := yk1.to) (x0 := x4) 6 0 yk1 [(.int .i64 yk1.from_), (.int .i64 yk1.to), (.int .i64 yk1.cost), (.int .i64 yk1.number)] sz137 H rfl hob2 hx4 rfl rfl rfl rfl rfl rfl rfl rfl (one_cons rfl (one_cons rfl (one_cons rfl (one_cons rfl one_nil)))) ?_
         intro w5 H
         exact WL.nil ⟨b6, b7, (H.pick [] [] rfl (by decide)), hf0, hf1, hf2, hf3, hf5, hf6, hf7, hf8, hf9, hd0, hd1, hd2, hd3, hd4, hd5, hd6, hd7, hd8, hd9, hd10, hd12, Fhob1, Fhob2, (fun g0 g1 g2 => nG g2), (fun g0 g1 g2 => nG g2), (fun g0 g1 => nG g1), (fun _ => e11), (fun a _ => nT e11 a), (fun _ a => nG a), (fun _ _ => H)⟩
       ·
        rintro S f w ⟨e0, e1, e2, e3, e4, e5, e6, e7, e8, e9, e10, e11, e12, e13, -⟩ ⟨b6, b7, B, hf0, hf1, hf2, hf3, hf5, hf6, hf7, hf8, hf9, hd0, hd1, hd2, hd3, hd4, hd5, hd6, hd7, hd8, hd9, hd10, hd12, Fhob1, Fhob2, Fhp4, Fhp5, Fhp3, C13_11, W0, W1, W2⟩
        have hf37 := hd9 e9
        have H := W2 e11 e13
        obtain ⟨u17, rfl⟩ := up8 hf0 hf1 hf2 hf3 hf7 hf8 hf9 hf37
        refine O.store 0 0 [(.int .i64 yk1.to)] [(.int .i64 yk1.to)] sz3 H rfl rfl rfl rfl rfl rfl ⟨⟨rfl, rfl⟩, rfl⟩ (one_cons rfl one_nil) ?_
        intro w6 H
        refine WL.nil ?_
        have H := H.keep [0, 1, 2, 3, 4, 5, 6] [boxI b1 3 [(.int .i64 yk1.to)], boxI b2 127 [v1], boxI b3 22 [v6], boxI b4 127 [v7], ownI (α := GEdge) v1 137 a1, ownI (α := Int) v6 3 (z5.set (Int.toNat yk1.to) t1), ownI (α := GEdge) v7 137 (z6.set (Int.toNat yk1.to) yk1)] rfl (by decide)
        have hq : (yk1.to, (z5.set (Int.toNat yk1.to) t1), (z6.set (Int.toNat yk1.to) yk1)) = (s7, s8, s9) := Option.some.inj (show some (yk1.to, (z5.set (Int.toNat yk1.to) t1), (z6.set (Int.toNat yk1.to) yk1)) = some (s7, s8, s9) from hm4)
        obtain ⟨he0, hq0⟩ := Prod.mk.inj hq; clear hq; subst he0
        obtain ⟨he1, hq1⟩ := Prod.mk.inj hq0; clear hq0; subst he1
        subst hq1
        exact ⟨v6, v7, rfl, rfl, rfl, rfl, rfl, rfl, rfl, H⟩
      ·
       refine W.cond_false (congrArg Value.bool hc1) ?_
       refine W.skip ?_
       have H := H.keep [0, 1, 2, 3, 4, 5, 6] [boxI b1 3 [(.int .i64 z4)], boxI b2 127 [v1], boxI b3 22 [v6], boxI b4 127 [v7], ownI (α := GEdge) v1 137 a1, ownI (α := Int) v6 3 z5, ownI (α := GEdge) v7 137 z6] rfl (by decide)
       have hq : (z4, z5, z6) = (s7, s8, s9) := Option.some.inj (show some (z4, z5, z6) = some (s7, s8, s9) from hm4)
       obtain ⟨he0, hq0⟩ := Prod.mk.inj hq; clear hq; subst he0
       obtain ⟨he1, hq1⟩ := Prod.mk.inj hq0; clear hq0; subst he1
       subst hq1
       exact ⟨v6, v7, rfl, rfl, rfl, rfl, rfl, rfl, rfl, H⟩
     ·
      rintro f w ⟨v14, v15, hf0, hf1, hf2, hf3, hf7, hf8, hf9, H⟩
      obtain ⟨u18, rfl⟩ := up7 hf0 hf1 hf2 hf3 hf7 hf8 hf9
      have hq : (s7, s8, s9) = (s4, s5, s6) := Option.some.inj (show some (s7, s8, s9) = some (s4, s5, s6) from hm3)
      obtain ⟨he0, hq0⟩ := Prod.mk.inj hq; clear hq; subst he0
      obtain ⟨he1, hq1⟩ := Prod.mk.inj hq0; clear hq0; subst he1
      subst hq1
      exact ⟨v14, v15, rfl, rfl, rfl, rfl, rfl, rfl, rfl, H⟩
   ·
    rintro f w ⟨v12, v13, hf0, hf1, hf2, hf3, hf7, hf8, hf9, H⟩
    obtain ⟨u19, rfl⟩ := up7 hf0 hf1 hf2 hf3 hf7 hf8 hf9
    refine W.region ?_
    refine O.add rfl rfl rfl rfl hinck1 ?_
    refine O.move (v := .int .i64 ((ik1 : Int) + 1)) rfl rfl rfl ?_
    refine WL.nil ?_
    obtain rfl := Option.some.inj hm2
    exact ⟨_, rfl, _, _, _, v12, v13, rfl, drop_next hdropk1, rfl, rfl, rfl, rfl, rfl, rfl, rfl, H⟩
  ·
   rintro ik1 _ f w ⟨z4, z5, z6, v6, v7, rfl, hdropk1, hf9, hf8, hf0, hf1, hf2, hf3, hf7, H⟩ hfin
   have hltk1 := drop_end hdropk1
   obtain ⟨u20, rfl⟩ := up7 hf9 hf8 hf0 hf1 hf2 hf3 hf7
   refine W.seq ?_
   refine W.region ?_
   refine O.lss rfl rfl rfl rfl ?_
   refine WL.nil ?_
   refine W.seq ?_
   refine W.cond_false (congrArg Value.bool (decide_eq_false hltk1)) ?_
   refine W.exit ?_
   have hq : (z4, z5, z6) = (s1, s2, s3) := hfin
   obtain ⟨he0, hq0⟩ := Prod.mk.inj hq; clear hq; subst he0
   obtain ⟨he1, hq1⟩ := Prod.mk.inj hq0; clear hq0; subst he1
   subst hq1
   refine xT rfl ?_
   exact ⟨v6, v7, rfl, rfl, rfl, rfl, H⟩
 ·
  rintro f w ⟨v10, v11, hf0, hf1, hf2, hf3, H⟩
  obtain ⟨u21, rfl⟩ := up4 hf0 hf1 hf2 hf3
  have hq : (s2, s3, s1) = (r0, r1, r2) := Option.some.inj (show some (s2, s3, s1) = some (r0, r1, r2) from hm)
  obtain ⟨he0, hq0⟩ := Prod.mk.inj hq; clear hq; subst he0
  obtain ⟨he1, hq1⟩ := Prod.mk.inj hq0; clear hq0; subst he1
  subst hq1
  refine ends0 Try.results68 ⟨_, _, rfl, H.keep [0, 1, 2, 3, 4, 5, 6] (pushItems b1 b2 b3 b4 v1 v10 v11 s1 a1 s2 s3) rfl (by decide), _, _, rfl, rfl⟩

end Go.Proofs
