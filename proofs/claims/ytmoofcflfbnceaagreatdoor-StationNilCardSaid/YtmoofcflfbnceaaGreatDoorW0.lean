/-
  The walks: each function does what its model says, where the model has a value. No other condition.
-/
import Derived.Test.YtmoofcflfbnceaaGreatDoorRows
import Derived.Test.YtmoofcflfbnceaaGreatDoorM2
import Derived.Test.YtmoofcflfbnceaaGreatDoorFwMx
import Derived.Test.YtmoofcflfbnceaaGreatDoorFwX
import Derived.Test.YtmoofcflfbnceaaGreatDoorFwSb
import Derived.Test.YtmoofcflfbnceaaGreatDoorFwUp
import Derived.Test.YtmoofcflfbnceaaGreatDoorSgCirc
import Derived.Test.YtmoofcflfbnceaaGreatDoorFwZ
import Derived.Test.YtmoofcflfbnceaaGreatDoorFwBd
import Derived.Test.YtmoofcflfbnceaaGreatDoorFwNs
import Derived.Test.YtmoofcflfbnceaaGreatDoorFwAr
import Derived.Test.YtmoofcflfbnceaaGreatDoorFwOb
import Derived.Test.YtmoofcflfbnceaaGreatDoorFwSt
import Derived.Test.YtmoofcflfbnceaaGreatDoorFwHx
import Derived.Test.YtmoofcflfbnceaaGreatDoorFwAt
import Derived.Test.YtmoofcflfbnceaaGreatDoorFwU6
import Derived.Test.YtmoofcflfbnceaaGreatDoorShelf
import Derived.Test.YtmoofcflfbnceaaGreatDoorFwDl
import Derived.Test.YtmoofcflfbnceaaGreatDoorFwSh
namespace Go.Proofs
open Go.Fw Go.RowKit Go.Shelf Go.Maps
open Go.Proofs.Tryz
open Go.Fw.W renaming seq → Sq, region → Rg, skip → Sk, block → Bk, ret → Rt, cond_true → Ct, cond_false → Cf, exit → Ex, via → Va
open Go.Fw.WL renaming nil → Nl
open Go.Fw.O renaming store → St, extract → Xt
open Go.Fw.PL renaming of → Pl
abbrev o210 (v : Value) (l : List GEdge) : Go.Fw.Item := ownI v 210 l
abbrev o3 (v : Value) (l : List Int) : Go.Fw.Item := ownI v 3 l
abbrev o4 (v : Value) (l : List Bool) : Go.Fw.Item := ownI v 4 l
abbrev o92 (v : Value) (l : List GSight) : Go.Fw.Item := ownI v 92 l
abbrev o9 (v : Value) (l : List ByteArray) : Go.Fw.Item := ownI v 9 l
abbrev o70 (v : Value) (l : List GEvent) : Go.Fw.Item := ownI v 70 l
abbrev o74 (v : Value) (l : List GEntry) : Go.Fw.Item := ownI v 74 l
abbrev o65 (v : Value) (l : List GLine) : Go.Fw.Item := ownI v 65 l
abbrev cI (a : GInside) (u0 u1 u2 u3 u4 : Value) : List Value := [(vi a.mast.Noon), (vi a.mast.Half), (vi a.mast.Full), (vi a.mast.Late), (vi a.mast.Again), (vi a.mast.Wind), (vi a.day), u0, u1, u2, (vi a.state.Place), (vi a.state.Wind), (.bool a.state.Flag), (vi a.state.At), u3, u4, (vi a.flags)]
abbrev cS (a : GInside) (u0 u1 u2 u3 u4 u5 : Value) : List Value := [(vi a.mast.Noon), (vi a.mast.Half), (vi a.mast.Full), (vi a.mast.Late), (vi a.mast.Again), (vi a.mast.Wind), (vi a.day), u0, u1, u2, (vi a.state.Place), (vi a.state.Wind), (.bool a.state.Flag), (vi a.state.At), u3, u4, (vi a.flags), u5]
theorem sc164 : ScalarT prog 164 := ScalarT.mk underlying164 rfl
theorem sc200 : ScalarT prog 200 := ScalarT.mk underlying200 rfl
theorem sc201 : ScalarT prog 201 := ScalarT.mk underlying201 rfl
theorem sc3 : ScalarT prog 3 := ScalarT.mk underlying3 rfl
theorem sc4 : ScalarT prog 4 := ScalarT.mk underlying4 rfl
theorem sc26 : ScalarT prog 26 := ScalarT.mk underlying26 rfl
theorem ag205 : AggT prog 205 2 := AggT.mk underlying205 rfl (by kernel_rfl)
theorem ag210 : AggT prog 210 4 := AggT.mk underlying210 rfl (by kernel_rfl)
theorem ag29 : AggT prog 29 2 := AggT.mk underlying29 rfl (by kernel_rfl)
theorem ag92 : AggT prog 92 5 := AggT.mk underlying92 rfl (by kernel_rfl)
theorem sz164 : SizeT prog 164 1 := SizeT.mk (by kernel_rfl)
theorem sz205 : SizeT prog 205 2 := SizeT.mk (by kernel_rfl)
theorem sz210 : SizeT prog 210 4 := SizeT.mk (by kernel_rfl)
theorem sz201 : SizeT prog 201 1 := SizeT.mk (by kernel_rfl)
theorem sz203 : SizeT prog 203 2 := SizeT.mk (by kernel_rfl)
theorem sz3 : SizeT prog 3 1 := SizeT.mk (by kernel_rfl)
theorem sz26 : SizeT prog 26 1 := SizeT.mk (by kernel_rfl)
theorem sz92 : SizeT prog 92 5 := SizeT.mk (by kernel_rfl)
theorem sz200 : SizeT prog 200 1 := SizeT.mk (by kernel_rfl)
theorem sz4 : SizeT prog 4 1 := SizeT.mk (by kernel_rfl)
theorem ze164 : ZeroT prog 164 (.pointer none) := ZeroT.mk (by kernel_rfl)
theorem ze205 : ZeroT prog 205 (.agg #[(vi (0)), (vi (0))]) := ZeroT.mk (by kernel_rfl)
theorem ze210 : ZeroT prog 210 (.agg #[(vi (0)), (vi (0)), (vi (0)), (vi (0))]) := ZeroT.mk (by kernel_rfl)
theorem ze3 : ZeroT prog 3 (vi (0)) := ZeroT.mk (by kernel_rfl)
theorem ze92 : ZeroT prog 92 (.agg #[(vi (0)), (vi (0)), (vi (0)), (vi (0)), (vi (0))]) := ZeroT.mk (by kernel_rfl)
theorem ze203 : ZeroT prog 203 (.agg #[(.map none), (.slice none 0 0)]) := ZeroT.mk (by kernel_rfl)
theorem fd29_0 : FieldT prog 29 0 0 := FieldT.mk (k := 1) underlying29 R R (by kernel_rfl) (by decide)
theorem fd29_1 : FieldT prog 29 1 1 := FieldT.mk (k := 1) underlying29 R R (by kernel_rfl) (by decide)
theorem fd203_0 : FieldT prog 203 0 0 := FieldT.mk (k := 1) underlying203 R R (by kernel_rfl) (by decide)
theorem fd203_1 : FieldT prog 203 1 1 := FieldT.mk (k := 1) underlying203 R R (by kernel_rfl) (by decide)
theorem fd205_0 : FieldT prog 205 0 0 := FieldT.mk (k := 1) underlying205 R R (by kernel_rfl) (by decide)
theorem fd205_1 : FieldT prog 205 1 1 := FieldT.mk (k := 1) underlying205 R R (by kernel_rfl) (by decide)
theorem fd210_0 : FieldT prog 210 0 0 := FieldT.mk (k := 1) underlying210 R R (by kernel_rfl) (by decide)
theorem fd210_1 : FieldT prog 210 1 1 := FieldT.mk (k := 1) underlying210 R R (by kernel_rfl) (by decide)
theorem fd210_2 : FieldT prog 210 2 2 := FieldT.mk (k := 1) underlying210 R R (by kernel_rfl) (by decide)
theorem fd210_3 : FieldT prog 210 3 3 := FieldT.mk (k := 1) underlying210 R R (by kernel_rfl) (by decide)
theorem fd92_0 : FieldT prog 92 0 0 := FieldT.mk (k := 1) underlying92 R R (by kernel_rfl) (by decide)
theorem fd92_1 : FieldT prog 92 1 1 := FieldT.mk (k := 1) underlying92 R R (by kernel_rfl) (by decide)
theorem fd92_2 : FieldT prog 92 2 2 := FieldT.mk (k := 1) underlying92 R R (by kernel_rfl) (by decide)
theorem fd92_3 : FieldT prog 92 3 3 := FieldT.mk (k := 1) underlying92 R R (by kernel_rfl) (by decide)
theorem fd92_4 : FieldT prog 92 4 4 := FieldT.mk (k := 1) underlying92 R R (by kernel_rfl) (by decide)
theorem el210 : ElemT prog 210 4 32 := ElemT.mk (z := (.agg #[(vi (0)), (vi (0)), (vi (0)), (vi (0))])) (by kernel_rfl) rfl
theorem el3 : ElemT prog 3 1 8 := ElemT.mk (z := (vi (0))) (by kernel_rfl) rfl
theorem el205 : ElemT prog 205 2 16 := ElemT.mk (z := (.agg #[(vi (0)), (vi (0))])) (by kernel_rfl) rfl
theorem fol : prog.follows .mixedOrders = true := by kernel_rfl
theorem eq205 : EqT prog 205 GPoint := by
  refine ⟨Tryz.eqGuardType205, ?_⟩
  intro a b w
  obtain ⟨a0, a1⟩ := a
  obtain ⟨b0, b1⟩ := b
  have hs : prog.underlying 205 = some (.struct (prog.fieldsOf 205)) := by kernel_rfl
  rw [run_equalIn_agg w 9999 205 _ _ hs Tryz.stoodInHeld205]
  simp only [Program.fieldsOf, underlying205]
  simp [Op.eqFields, Flat.cells, part, isAgg3, run_equalIn_int _ _ _ _ _ _ _ underlying3]
  cases h0 : decide (a0 = b0) <;> cases h1 : decide (a1 = b1) <;> simp_all
theorem ck205 : ∀ (n : Nat) (k : GPoint) (b : Bool) (w : World), (Instr.checkKey b (n + 1 + 1) 205 (.agg (Flat.cells k).toArray)).run prog w = .ok () w := by
  intro n k b w
  obtain ⟨k0, k1⟩ := k
  simp only [Instr.checkKey, Sem.run_bind, run_underlying underlying205, Result.andThen_ok]
  simp [Flat.cells, part, isAgg3]
theorem st205 : ∀ (n : Nat) (k : GPoint), Instr.sameBits (n + 1) (.agg (Flat.cells k).toArray) (.agg (Flat.cells k).toArray) = true := by
  intro n k
  obtain ⟨k0, k1⟩ := k
  simp [Instr.sameBits, Flat.cells]
theorem key205 : KeyT prog 205 GPoint := KeyT.struct underlying205 (fun k b w => ck205 9998 k b w) (fun a b w => eq205.2 a b w) (fun k => st205 9999 k)
theorem bd205_0_1 : ∀ (v0 : Int) (v1 : Int) (w : World), (Instr.build 205 #[(0, (vi v0)), (1, (vi v1))]).run prog w = .ok (.agg #[(vi v0), (vi v1)]) w := by
  intro v0 v1 w
  simp [Instr.build, Tryz.zeroValue205, Tryz.runUnderlying205, Instr.fill, sizeOf3, Value.cells]
theorem sc27 : ScalarT prog 27 := ScalarT.mk underlying27 rfl
theorem bd203_0 : ∀ (r : Nat) (w : World), (Instr.build 203 #[(0, .map (some r))]).run prog w = .ok (.agg #[.map (some r), .slice none 0 0]) w := by
  intro r w
  simp [Instr.build, Tryz.zeroValue203, Tryz.runUnderlying203, Instr.fill, sizeOf200, sizeOf201, Value.cells]
theorem bd210_0_1_2_3 : ∀ (v0 : Int) (v1 : Int) (v2 : Int) (v3 : Int) (w : World), (Instr.build 210 #[(0, (vi v0)), (1, (vi v1)), (2, (vi v2)), (3, (vi v3))]).run prog w = .ok (.agg #[(vi v0), (vi v1), (vi v2), (vi v3)]) w := by
  intro v0 v1 v2 v3 w
  simp [Instr.build, Tryz.zeroValue210, Tryz.runUnderlying210, Instr.fill, sizeOf3, Value.cells]
theorem zel3 : ZElemT prog 3 (0 : Int) 8 := ZElemT.mk (z := (vi (0))) (by kernel_rfl) rfl
theorem zel210 : ZElemT prog 210 ((GEdge.mk 0 0 0 0) : GEdge) 32 := ZElemT.mk (z := (.agg #[(vi (0)), (vi (0)), (vi (0)), (vi (0))])) (by kernel_rfl) rfl
theorem ze26 : ZeroT prog 26 (.slice none 0 0) := ZeroT.mk (by kernel_rfl)
theorem ze201 : ZeroT prog 201 (.slice none 0 0) := ZeroT.mk (by kernel_rfl)
theorem zel4 : ZElemT prog 4 (false : Bool) 1 := ZElemT.mk (z := (.bool false)) (by kernel_rfl) rfl
theorem sz5 : SizeT prog 5 1 := SizeT.mk (by kernel_rfl)
theorem sc5 : ScalarT prog 5 := ScalarT.mk underlying5 rfl
theorem sz9 : SizeT prog 9 1 := SizeT.mk (by kernel_rfl)
theorem sc9 : ScalarT prog 9 := ScalarT.mk underlying9 rfl
theorem fd61_0 : FieldT prog 61 0 0 := FieldT.mk (k := 17) underlying61 R R (by kernel_rfl) (by decide)
theorem fd54_1 : FieldT prog 54 1 6 := FieldT.mk (k := 1) underlying54 R R (by kernel_rfl) (by decide)
theorem el92 : ElemT prog 92 5 40 := ElemT.mk (z := (.agg #[(vi (0)), (vi (0)), (vi (0)), (vi (0)), (vi (0))])) (by kernel_rfl) rfl
theorem ze29 : ZeroT prog 29 (.agg #[(.slice none 0 0), (.slice none 0 0)]) := ZeroT.mk (by kernel_rfl)
theorem bd29_ : ∀  (w : World), (Instr.build 29 #[]).run prog w = .ok (.agg #[(.slice none 0 0), (.slice none 0 0)]) w := by
  intro  w
  simp [Instr.build, Tryz.zeroValue29, Tryz.runUnderlying29, Instr.fill, sizeOf26, sizeOf27, Value.cells]
theorem sz29 : SizeT prog 29 2 := SizeT.mk (by kernel_rfl)
theorem bd29_0_1 : ∀ (y0 : Option Addr) (n0 m0 : Nat) (y1 : Option Addr) (n1 m1 : Nat) (w : World), (Instr.build 29 #[(0, .slice y0 n0 m0), (1, .slice y1 n1 m1)]).run prog w = .ok (.agg #[.slice y0 n0 m0, .slice y1 n1 m1]) w := by
  intro y0 n0 m0 y1 n1 m1 w
  simp [Instr.build, Tryz.zeroValue29, Tryz.runUnderlying29, Instr.fill, sizeOf26, sizeOf27, Value.cells]
theorem ze96 : ZeroT prog 96 (.agg #[(.pointer none), (.slice none 0 0)]) := ZeroT.mk (by kernel_rfl)
theorem el9 : ElemT prog 9 1 16 := ElemT.mk (z := (.string ByteArray.empty)) (by kernel_rfl) rfl
theorem fd54_2 : FieldT prog 54 2 7 := FieldT.mk (k := 2) underlying54 R R (by kernel_rfl) (by decide)
theorem bd92_0_1_2_3_4 : ∀ (v0 : Int) (v1 : Int) (v2 : Int) (v3 : Int) (v4 : Int) (w : World), (Instr.build 92 #[(0, (vi v0)), (1, (vi v1)), (2, (vi v2)), (3, (vi v3)), (4, (vi v4))]).run prog w = .ok (.agg #[(vi v0), (vi v1), (vi v2), (vi v3), (vi v4)]) w := by
  intro v0 v1 v2 v3 v4 w
  simp [Instr.build, Tryz.zeroValue92, Tryz.runUnderlying92, Instr.fill, sizeOf3, Value.cells]
theorem fd52_0 : FieldT prog 52 0 0 := FieldT.mk (k := 1) underlying52 R R (by kernel_rfl) (by decide)
theorem fd52_2 : FieldT prog 52 2 2 := FieldT.mk (k := 1) underlying52 R R (by kernel_rfl) (by decide)
theorem fd52_1 : FieldT prog 52 1 1 := FieldT.mk (k := 1) underlying52 R R (by kernel_rfl) (by decide)
theorem fd52_3 : FieldT prog 52 3 3 := FieldT.mk (k := 1) underlying52 R R (by kernel_rfl) (by decide)
theorem fd52_4 : FieldT prog 52 4 4 := FieldT.mk (k := 1) underlying52 R R (by kernel_rfl) (by decide)
theorem fd52_5 : FieldT prog 52 5 5 := FieldT.mk (k := 1) underlying52 R R (by kernel_rfl) (by decide)
theorem fd32_0 : FieldT prog 32 0 0 := FieldT.mk (k := 1) underlying32 R R (by kernel_rfl) (by decide)
theorem fd32_1 : FieldT prog 32 1 1 := FieldT.mk (k := 1) underlying32 R R (by kernel_rfl) (by decide)
theorem fd32_3 : FieldT prog 32 3 3 := FieldT.mk (k := 1) underlying32 R R (by kernel_rfl) (by decide)
theorem fd70_0 : FieldT prog 70 0 0 := FieldT.mk (k := 1) underlying70 R R (by kernel_rfl) (by decide)
theorem fd70_1 : FieldT prog 70 1 1 := FieldT.mk (k := 1) underlying70 R R (by kernel_rfl) (by decide)
theorem fd70_2 : FieldT prog 70 2 2 := FieldT.mk (k := 1) underlying70 R R (by kernel_rfl) (by decide)
theorem ag52 : AggT prog 52 6 := AggT.mk underlying52 rfl (by kernel_rfl)
theorem fd32_2 : FieldT prog 32 2 2 := FieldT.mk (k := 1) underlying32 R R (by kernel_rfl) (by decide)
theorem ze221 : ZeroT prog 221 (.agg #[.nilFunc, .nilFunc, .nilFunc, .nilFunc, .nilFunc, .nilFunc, .nilFunc, .nilFunc, .nilFunc, .nilFunc, .nilFunc, .nilFunc, .nilFunc, .nilFunc]) := ZeroT.mk (by kernel_rfl)
theorem bdf220_0_188_1_189 : ∀ w : World, (Instr.build 220 #[(0, (.func (.func 188) #[] #[])), (1, (.func (.func 189) #[] #[]))]).run prog w = .ok (.agg #[(.func (.func 188) #[] #[]), (.func (.func 189) #[] #[])]) w := fun _ => by kernel_rfl
theorem bdf220_0_190_1_192 : ∀ w : World, (Instr.build 220 #[(0, (.func (.func 190) #[] #[])), (1, (.func (.func 192) #[] #[]))]).run prog w = .ok (.agg #[(.func (.func 190) #[] #[]), (.func (.func 192) #[] #[])]) w := fun _ => by kernel_rfl
theorem bdf220_0_193_1_194 : ∀ w : World, (Instr.build 220 #[(0, (.func (.func 193) #[] #[])), (1, (.func (.func 194) #[] #[]))]).run prog w = .ok (.agg #[(.func (.func 193) #[] #[]), (.func (.func 194) #[] #[])]) w := fun _ => by kernel_rfl
theorem bdf220_0_195_1_196 : ∀ w : World, (Instr.build 220 #[(0, (.func (.func 195) #[] #[])), (1, (.func (.func 196) #[] #[]))]).run prog w = .ok (.agg #[(.func (.func 195) #[] #[]), (.func (.func 196) #[] #[])]) w := fun _ => by kernel_rfl
theorem bdf220_0_197_1_198 : ∀ w : World, (Instr.build 220 #[(0, (.func (.func 197) #[] #[])), (1, (.func (.func 198) #[] #[]))]).run prog w = .ok (.agg #[(.func (.func 197) #[] #[]), (.func (.func 198) #[] #[])]) w := fun _ => by kernel_rfl
theorem bdf220_0_199_1_200 : ∀ w : World, (Instr.build 220 #[(0, (.func (.func 199) #[] #[])), (1, (.func (.func 200) #[] #[]))]).run prog w = .ok (.agg #[(.func (.func 199) #[] #[]), (.func (.func 200) #[] #[])]) w := fun _ => by kernel_rfl
theorem bdf221_1_188_189_2_190_192_3_193_194_4_195_196_5_197_198_6_199_200 : ∀ w : World, (Instr.build 221 #[(1, (.agg #[(.func (.func 188) #[] #[]), (.func (.func 189) #[] #[])])), (2, (.agg #[(.func (.func 190) #[] #[]), (.func (.func 192) #[] #[])])), (3, (.agg #[(.func (.func 193) #[] #[]), (.func (.func 194) #[] #[])])), (4, (.agg #[(.func (.func 195) #[] #[]), (.func (.func 196) #[] #[])])), (5, (.agg #[(.func (.func 197) #[] #[]), (.func (.func 198) #[] #[])])), (6, (.agg #[(.func (.func 199) #[] #[]), (.func (.func 200) #[] #[])]))]).run prog w = .ok (.agg #[.nilFunc, .nilFunc, (.func (.func 188) #[] #[]), (.func (.func 189) #[] #[]), (.func (.func 190) #[] #[]), (.func (.func 192) #[] #[]), (.func (.func 193) #[] #[]), (.func (.func 194) #[] #[]), (.func (.func 195) #[] #[]), (.func (.func 196) #[] #[]), (.func (.func 197) #[] #[]), (.func (.func 198) #[] #[]), (.func (.func 199) #[] #[]), (.func (.func 200) #[] #[])]) w := fun _ => by kernel_rfl
theorem sz221 : SizeT prog 221 14 := SizeT.mk (by kernel_rfl)
theorem ag221 : AggT prog 221 14 := AggT.mk underlying221 rfl (by kernel_rfl)
theorem ze32 : ZeroT prog 32 (.agg #[(vi (0)), (vi (0)), (.bool false), (vi (0))]) := ZeroT.mk (by kernel_rfl)
theorem ag70 : AggT prog 70 3 := AggT.mk underlying70 rfl (by kernel_rfl)
theorem bd32_ : ∀  (w : World), (Instr.build 32 #[]).run prog w = .ok (.agg #[(vi 0), (vi 0), (.bool false), (vi 0)]) w := by
  intro  w
  simp [Instr.build, Tryz.zeroValue32, Tryz.runUnderlying32, Instr.fill, sizeOf3, sizeOf4, Value.cells]
theorem sz32 : SizeT prog 32 4 := SizeT.mk (by kernel_rfl)
theorem ag32 : AggT prog 32 4 := AggT.mk underlying32 rfl (by kernel_rfl)
theorem ixf221_1_108 : ∀ w : World, (Instr.index 221 (.agg #[.nilFunc, .nilFunc, (.func (.func 188) #[] #[]), (.func (.func 189) #[] #[]), (.func (.func 190) #[] #[]), (.func (.func 192) #[] #[]), (.func (.func 193) #[] #[]), (.func (.func 194) #[] #[]), (.func (.func 195) #[] #[]), (.func (.func 196) #[] #[]), (.func (.func 197) #[] #[]), (.func (.func 198) #[] #[]), (.func (.func 199) #[] #[]), (.func (.func 200) #[] #[])]) (vi 1)).run prog w = .ok (.agg #[(.func (.func 188) #[] #[]), (.func (.func 189) #[] #[])]) w := fun _ => by kernel_rfl
theorem ze220 : ZeroT prog 220 (.agg #[.nilFunc, .nilFunc]) := ZeroT.mk (by kernel_rfl)
theorem sz220 : SizeT prog 220 2 := SizeT.mk (by kernel_rfl)
theorem fd220_0 : FieldT prog 220 0 0 := FieldT.mk (k := 1) underlying220 R R (by kernel_rfl) (by decide)
theorem sc217 : ScalarT prog 217 := ScalarT.mk underlying217 rfl
theorem fd220_1 : FieldT prog 220 1 1 := FieldT.mk (k := 1) underlying220 R R (by kernel_rfl) (by decide)
theorem sc218 : ScalarT prog 218 := ScalarT.mk underlying218 rfl
theorem ixf221_2_108 : ∀ w : World, (Instr.index 221 (.agg #[.nilFunc, .nilFunc, (.func (.func 188) #[] #[]), (.func (.func 189) #[] #[]), (.func (.func 190) #[] #[]), (.func (.func 192) #[] #[]), (.func (.func 193) #[] #[]), (.func (.func 194) #[] #[]), (.func (.func 195) #[] #[]), (.func (.func 196) #[] #[]), (.func (.func 197) #[] #[]), (.func (.func 198) #[] #[]), (.func (.func 199) #[] #[]), (.func (.func 200) #[] #[])]) (vi 2)).run prog w = .ok (.agg #[(.func (.func 190) #[] #[]), (.func (.func 192) #[] #[])]) w := fun _ => by kernel_rfl
theorem ixf221_3_108 : ∀ w : World, (Instr.index 221 (.agg #[.nilFunc, .nilFunc, (.func (.func 188) #[] #[]), (.func (.func 189) #[] #[]), (.func (.func 190) #[] #[]), (.func (.func 192) #[] #[]), (.func (.func 193) #[] #[]), (.func (.func 194) #[] #[]), (.func (.func 195) #[] #[]), (.func (.func 196) #[] #[]), (.func (.func 197) #[] #[]), (.func (.func 198) #[] #[]), (.func (.func 199) #[] #[]), (.func (.func 200) #[] #[])]) (vi 3)).run prog w = .ok (.agg #[(.func (.func 193) #[] #[]), (.func (.func 194) #[] #[])]) w := fun _ => by kernel_rfl
theorem ixf221_4_108 : ∀ w : World, (Instr.index 221 (.agg #[.nilFunc, .nilFunc, (.func (.func 188) #[] #[]), (.func (.func 189) #[] #[]), (.func (.func 190) #[] #[]), (.func (.func 192) #[] #[]), (.func (.func 193) #[] #[]), (.func (.func 194) #[] #[]), (.func (.func 195) #[] #[]), (.func (.func 196) #[] #[]), (.func (.func 197) #[] #[]), (.func (.func 198) #[] #[]), (.func (.func 199) #[] #[]), (.func (.func 200) #[] #[])]) (vi 4)).run prog w = .ok (.agg #[(.func (.func 195) #[] #[]), (.func (.func 196) #[] #[])]) w := fun _ => by kernel_rfl
theorem ixf221_5_108 : ∀ w : World, (Instr.index 221 (.agg #[.nilFunc, .nilFunc, (.func (.func 188) #[] #[]), (.func (.func 189) #[] #[]), (.func (.func 190) #[] #[]), (.func (.func 192) #[] #[]), (.func (.func 193) #[] #[]), (.func (.func 194) #[] #[]), (.func (.func 195) #[] #[]), (.func (.func 196) #[] #[]), (.func (.func 197) #[] #[]), (.func (.func 198) #[] #[]), (.func (.func 199) #[] #[]), (.func (.func 200) #[] #[])]) (vi 5)).run prog w = .ok (.agg #[(.func (.func 197) #[] #[]), (.func (.func 198) #[] #[])]) w := fun _ => by kernel_rfl
theorem ixf221_6_108 : ∀ w : World, (Instr.index 221 (.agg #[.nilFunc, .nilFunc, (.func (.func 188) #[] #[]), (.func (.func 189) #[] #[]), (.func (.func 190) #[] #[]), (.func (.func 192) #[] #[]), (.func (.func 193) #[] #[]), (.func (.func 194) #[] #[]), (.func (.func 195) #[] #[]), (.func (.func 196) #[] #[]), (.func (.func 197) #[] #[]), (.func (.func 198) #[] #[]), (.func (.func 199) #[] #[]), (.func (.func 200) #[] #[])]) (vi 6)).run prog w = .ok (.agg #[(.func (.func 199) #[] #[]), (.func (.func 200) #[] #[])]) w := fun _ => by kernel_rfl
theorem bd70_0_1_2 : ∀ (v0 : Int) (v1 : Int) (v2 : Int) (w : World), (Instr.build 70 #[(0, (vi v0)), (1, (vi v1)), (2, (vi v2))]).run prog w = .ok (.agg #[(vi v0), (vi v1), (vi v2)]) w := by
  intro v0 v1 v2 w
  simp [Instr.build, Tryz.zeroValue70, Tryz.runUnderlying70, Instr.fill, sizeOf3, Value.cells]
theorem ze70 : ZeroT prog 70 (.agg #[(vi (0)), (vi (0)), (vi (0))]) := ZeroT.mk (by kernel_rfl)
theorem sz70 : SizeT prog 70 3 := SizeT.mk (by kernel_rfl)
theorem fd54_0 : FieldT prog 54 0 0 := FieldT.mk (k := 6) underlying54 R R (by kernel_rfl) (by decide)
theorem fd54_4 : FieldT prog 54 4 10 := FieldT.mk (k := 4) underlying54 R R (by kernel_rfl) (by decide)
theorem fd54_3 : FieldT prog 54 3 9 := FieldT.mk (k := 1) underlying54 R R (by kernel_rfl) (by decide)
theorem sc35 : ScalarT prog 35 := ScalarT.mk underlying35 rfl
theorem el70 : ElemT prog 70 3 24 := ElemT.mk (z := (.agg #[(vi (0)), (vi (0)), (vi (0))])) (by kernel_rfl) rfl
theorem sz35 : SizeT prog 35 1 := SizeT.mk (by kernel_rfl)
theorem ze23 : ZeroT prog 23 (vi (0)) := ZeroT.mk (by kernel_rfl)
theorem sz23 : SizeT prog 23 1 := SizeT.mk (by kernel_rfl)
theorem sc23 : ScalarT prog 23 := ScalarT.mk underlying23 rfl
theorem bd171_s82 : ∀ w : World, (Instr.build 171 #[(0, (.string (bs [103, 111, 111, 100]))), (1, (.string (bs [119, 114, 111, 110, 103]))), (2, (.string (bs [102, 97, 108, 115, 101]))), (3, (.string (bs [97, 103, 97, 105, 110]))), (4, (.string (bs [116, 111, 108, 100]))), (5, (.string (bs [115, 105, 108, 101, 110, 116])))]).run prog w = .ok (.agg #[(.string (bs [103, 111, 111, 100])), (.string (bs [119, 114, 111, 110, 103])), (.string (bs [102, 97, 108, 115, 101])), (.string (bs [97, 103, 97, 105, 110])), (.string (bs [116, 111, 108, 100])), (.string (bs [115, 105, 108, 101, 110, 116]))]) w := fun _ => by kernel_rfl
theorem fd54_5 : FieldT prog 54 5 14 := FieldT.mk (k := 1) underlying54 R R (by kernel_rfl) (by decide)
theorem sz74 : SizeT prog 74 3 := SizeT.mk (by kernel_rfl)
theorem ag74 : AggT prog 74 3 := AggT.mk underlying74 rfl (by kernel_rfl)
theorem fd74_0 : FieldT prog 74 0 0 := FieldT.mk (k := 1) underlying74 R R (by kernel_rfl) (by decide)
theorem fd74_2 : FieldT prog 74 2 2 := FieldT.mk (k := 1) underlying74 R R (by kernel_rfl) (by decide)
theorem el74 : ElemT prog 74 3 24 := ElemT.mk (z := (.agg #[(vi (0)), (.bool false), (vi (0))])) (by kernel_rfl) rfl
theorem fd54_6 : FieldT prog 54 6 15 := FieldT.mk (k := 1) underlying54 R R (by kernel_rfl) (by decide)
theorem sc38 : ScalarT prog 38 := ScalarT.mk underlying38 rfl
theorem sz38 : SizeT prog 38 1 := SizeT.mk (by kernel_rfl)
theorem bd74_0_2 : ∀ (v0 : Int) (v2 : Int) (w : World), (Instr.build 74 #[(0, (vi v0)), (2, (vi v2))]).run prog w = .ok (.agg #[(vi v0), (.bool false), (vi v2)]) w := by
  intro v0 v2 w
  simp [Instr.build, Tryz.zeroValue74, Tryz.runUnderlying74, Instr.fill, sizeOf3, sizeOf4, Value.cells]
theorem bd74_0_1_2 : ∀ (v0 : Int) (v1 : Bool) (v2 : Int) (w : World), (Instr.build 74 #[(0, (vi v0)), (1, (.bool v1)), (2, (vi v2))]).run prog w = .ok (.agg #[(vi v0), (.bool v1), (vi v2)]) w := by
  intro v0 v1 v2 w
  simp [Instr.build, Tryz.zeroValue74, Tryz.runUnderlying74, Instr.fill, sizeOf3, sizeOf4, Value.cells]
theorem ze144 : ZeroT prog 144 (.agg #[(vi (0)), (vi (0))]) := ZeroT.mk (by kernel_rfl)
theorem bd144_ : ∀  (w : World), (Instr.build 144 #[]).run prog w = .ok (.agg #[(vi 0), (vi 0)]) w := by
  intro  w
  simp [Instr.build, Tryz.zeroValue144, Tryz.runUnderlying144, Instr.fill, sizeOf3, Value.cells]
theorem sz144 : SizeT prog 144 2 := SizeT.mk (by kernel_rfl)
theorem ag144 : AggT prog 144 2 := AggT.mk underlying144 rfl (by kernel_rfl)
theorem bd144_0_1 : ∀ (v0 : Int) (v1 : Int) (w : World), (Instr.build 144 #[(0, (vi v0)), (1, (vi v1))]).run prog w = .ok (.agg #[(vi v0), (vi v1)]) w := by
  intro v0 v1 w
  simp [Instr.build, Tryz.zeroValue144, Tryz.runUnderlying144, Instr.fill, sizeOf3, Value.cells]
theorem fd144_0 : FieldT prog 144 0 0 := FieldT.mk (k := 1) underlying144 R R (by kernel_rfl) (by decide)
theorem fd144_1 : FieldT prog 144 1 1 := FieldT.mk (k := 1) underlying144 R R (by kernel_rfl) (by decide)
theorem bd237_0_1 : ∀ (v0 : Int) (v1 : Bool) (w : World), (Instr.build 237 #[(0, (vi v0)), (1, (.bool v1))]).run prog w = .ok (.agg #[(vi v0), (.bool v1)]) w := by
  intro v0 v1 w
  simp [Instr.build, Tryz.zeroValue237, Tryz.runUnderlying237, Instr.fill, sizeOf3, sizeOf4, Value.cells]
theorem eq237 : EqT prog 237 GKey := by
  refine ⟨Tryz.eqGuardType237, ?_⟩
  intro a b w
  obtain ⟨a0, a1⟩ := a
  obtain ⟨b0, b1⟩ := b
  have hs : prog.underlying 237 = some (.struct (prog.fieldsOf 237)) := by kernel_rfl
  rw [run_equalIn_agg w 9999 237 _ _ hs Tryz.stoodInHeld237]
  simp only [Program.fieldsOf, underlying237]
  simp [Op.eqFields, Flat.cells, part, isAgg3, isAgg4, run_equalIn_bool' _ _ _ _ _ underlying4, run_equalIn_int _ _ _ _ _ _ _ underlying3]
  cases h0 : decide (a0 = b0) <;> cases h1 : decide (a1 = b1) <;> simp_all
theorem ck237 : ∀ (n : Nat) (k : GKey) (b : Bool) (w : World), (Instr.checkKey b (n + 1 + 1) 237 (.agg (Flat.cells k).toArray)).run prog w = .ok () w := by
  intro n k b w
  obtain ⟨k0, k1⟩ := k
  simp only [Instr.checkKey, Sem.run_bind, run_underlying underlying237, Result.andThen_ok]
  simp [Flat.cells, part, isAgg3, isAgg4]
theorem st237 : ∀ (n : Nat) (k : GKey), Instr.sameBits (n + 1) (.agg (Flat.cells k).toArray) (.agg (Flat.cells k).toArray) = true := by
  intro n k
  obtain ⟨k0, k1⟩ := k
  simp [Instr.sameBits, Flat.cells]
theorem key237 : KeyT prog 237 GKey := KeyT.struct underlying237 (fun k b w => ck237 9998 k b w) (fun a b w => eq237.2 a b w) (fun k => st237 9999 k)
theorem ze237 : ZeroT prog 237 (.agg #[(vi (0)), (.bool false)]) := ZeroT.mk (by kernel_rfl)
theorem fd74_1 : FieldT prog 74 1 1 := FieldT.mk (k := 1) underlying74 R R (by kernel_rfl) (by decide)
theorem sz237 : SizeT prog 237 2 := SizeT.mk (by kernel_rfl)
theorem ag237 : AggT prog 237 2 := AggT.mk underlying237 rfl (by kernel_rfl)
theorem ze74 : ZeroT prog 74 (.agg #[(vi (0)), (.bool false), (vi (0))]) := ZeroT.mk (by kernel_rfl)
theorem fd54_7 : FieldT prog 54 7 16 := FieldT.mk (k := 1) underlying54 R R (by kernel_rfl) (by decide)
theorem sc240 : ScalarT prog 240 := ScalarT.mk underlying240 rfl
theorem sc115 : ScalarT prog 115 := ScalarT.mk underlying115 rfl
theorem sz115 : SizeT prog 115 1 := SizeT.mk (by kernel_rfl)
theorem ze115 : ZeroT prog 115 .nilFunc := ZeroT.mk (by kernel_rfl)
theorem shl1_flag : ∀ {y : Nat}, y < 13 → shlI 1 (y : Int) = some (2 ^ y) := by
  intro y h
  unfold shlI
  have : ∀ y : Nat, y < 13 → inI (1 * 2 ^ y) = true := by decide
  rw [if_pos ⟨by omega, by rw [Int.toNat_natCast]; exact this y h⟩, Int.toNat_natCast, Int.one_mul]
theorem if98 : prog.underlying 98 = some (.interface (prog.methodsAt 98)) := by kernel_rfl
theorem ag107 : AggT prog 107 0 := AggT.mk underlying107 rfl (by kernel_rfl)
theorem sz107 : SizeT prog 107 0 := SizeT.mk (by kernel_rfl)
theorem mi107 : ∀ w : World, (Instr.makeInterface 107 (.agg #[])).run prog w = .ok (.iface 107 (.agg #[])) w := fun w => by kernel_rfl
theorem ze107 : ZeroT prog 107 (.agg #[]) := ZeroT.mk (by kernel_rfl)
theorem ag108 : AggT prog 108 0 := AggT.mk underlying108 rfl (by kernel_rfl)
theorem sz108 : SizeT prog 108 0 := SizeT.mk (by kernel_rfl)
theorem mi108 : ∀ w : World, (Instr.makeInterface 108 (.agg #[])).run prog w = .ok (.iface 108 (.agg #[])) w := fun w => by kernel_rfl
theorem ze108 : ZeroT prog 108 (.agg #[]) := ZeroT.mk (by kernel_rfl)
theorem ag109 : AggT prog 109 0 := AggT.mk underlying109 rfl (by kernel_rfl)
theorem sz109 : SizeT prog 109 0 := SizeT.mk (by kernel_rfl)
theorem mi109 : ∀ w : World, (Instr.makeInterface 109 (.agg #[])).run prog w = .ok (.iface 109 (.agg #[])) w := fun w => by kernel_rfl
theorem ze109 : ZeroT prog 109 (.agg #[]) := ZeroT.mk (by kernel_rfl)
theorem el85 : ElemT prog 85 1 16 := ElemT.mk (z := .nilIface) (by kernel_rfl) rfl
theorem sz85 : SizeT prog 85 1 := SizeT.mk (by kernel_rfl)
theorem sc85 : ScalarT prog 85 := ScalarT.mk underlying85 rfl
theorem sc44 : ScalarT prog 44 := ScalarT.mk underlying44 rfl
theorem sz47 : SizeT prog 47 2 := SizeT.mk (by kernel_rfl)
theorem ag47 : AggT prog 47 2 := AggT.mk underlying47 rfl (by kernel_rfl)
theorem fd47_0 : FieldT prog 47 0 0 := FieldT.mk (k := 1) underlying47 R R (by kernel_rfl) (by decide)
theorem ze47 : ZeroT prog 47 (.agg #[(.slice none 0 0), .nilFunc]) := ZeroT.mk (by kernel_rfl)
theorem bdf47 : ∀ (a : Option Addr) (n m k : Nat) (w : World), (Instr.build 47 #[(0, .slice a n m), (1, .func (.func k) #[] #[])]).run prog w = .ok (.agg #[.slice a n m, .func (.func k) #[] #[]]) w := by
  intro a n m k w
  kernel_rfl
theorem key9 : KeyT prog 9 ByteArray := KeyT.string underlying9
theorem ze54 : ZeroT prog 54 (.agg #[(vi (0)), (vi (0)), (vi (0)), (vi (0)), (vi (0)), (vi (0)), (vi (0)), (.slice none 0 0), (.slice none 0 0), (.slice none 0 0), (vi (0)), (vi (0)), (.bool false), (vi (0)), (.slice none 0 0), (.slice none 0 0), (vi (0))]) := ZeroT.mk (by kernel_rfl)
theorem ag54 : AggT prog 54 17 := AggT.mk underlying54 rfl (by kernel_rfl)
theorem sz54 : SizeT prog 54 17 := SizeT.mk (by kernel_rfl)
theorem ze87 : ZeroT prog 87 (.agg #[(vi (0))]) := ZeroT.mk (by kernel_rfl)
theorem sz87 : SizeT prog 87 1 := SizeT.mk (by kernel_rfl)
theorem ze9 : ZeroT prog 9 (.string ByteArray.empty) := ZeroT.mk (by kernel_rfl)
theorem ag87 : AggT prog 87 1 := AggT.mk underlying87 rfl (by kernel_rfl)
theorem sc45 : ScalarT prog 45 := ScalarT.mk underlying45 rfl
theorem fd47_1 : FieldT prog 47 1 1 := FieldT.mk (k := 1) underlying47 R R (by kernel_rfl) (by decide)
theorem fd87_0 : FieldT prog 87 0 0 := FieldT.mk (k := 1) underlying87 R R (by kernel_rfl) (by decide)
theorem if20 : prog.underlying 20 = some (.interface (prog.methodsAt 20)) := by kernel_rfl
theorem ze244 : ZeroT prog 244 (.agg (List.replicate 65 (.int .u8 0)).toArray) := ZeroT.mk (by kernel_rfl)
theorem ze65 : ZeroT prog 65 (.agg #[(vi (0)), (.string ByteArray.empty), (.int .u64 (0))]) := ZeroT.mk (by kernel_rfl)
theorem sz65 : SizeT prog 65 3 := SizeT.mk (by kernel_rfl)
theorem fd65_2 : FieldT prog 65 2 2 := FieldT.mk (k := 1) underlying65 R R (by kernel_rfl) (by decide)
theorem sc63 : ScalarT prog 63 := ScalarT.mk underlying63 rfl
theorem bd65_0_1_2 : ∀ (v0 : Int) (v1 : ByteArray) (v2 : Int) (w : World), (Instr.build 65 #[(0, (vi v0)), (1, (.string v1)), (2, (.int .u64 v2))]).run prog w = .ok (.agg #[(vi v0), (.string v1), (.int .u64 v2)]) w := by
  intro v0 v1 v2 w
  simp [Instr.build, Tryz.zeroValue65, Tryz.runUnderlying65, Instr.fill, sizeOf3, sizeOf63, sizeOf9, Value.cells]
theorem ag65 : AggT prog 65 3 := AggT.mk underlying65 rfl (by kernel_rfl)
theorem pt22 : prog.underlying 22 = some (.pointer (prog.pointee 22)) := by
  rw [show prog.pointee 22 = 57 by kernel_rfl]
  exact underlying22
theorem fd57_1 : FieldT prog 57 1 17 := FieldT.mk (k := 1) underlying57 R R (by kernel_rfl) (by decide)
theorem sc55 : ScalarT prog 55 := ScalarT.mk underlying55 rfl
theorem fd57_0 : FieldT prog 57 0 0 := FieldT.mk (k := 17) underlying57 R R (by kernel_rfl) (by decide)
theorem bdx61_0 : ∀ (v1 : GMast) (v2 : Int) (y4 : Option Addr) (n4 m4 : Nat) (y5 : Option Addr) (n5 m5 : Nat) (y6 : Option Addr) (n6 m6 : Nat) (v7 : GBall) (y8 : Option Addr) (n8 m8 : Nat) (y9 : Option Addr) (n9 m9 : Nat) (v10 : Int) (w : World), (Instr.build 61 #[(0, .agg #[.int .i64 v1.Noon, .int .i64 v1.Half, .int .i64 v1.Full, .int .i64 v1.Late, .int .i64 v1.Again, .int .i64 v1.Wind, (vi v2), .slice y4 n4 m4, .slice y5 n5 m5, .slice y6 n6 m6, .int .i64 v7.Place, .int .i64 v7.Wind, .bool v7.Flag, .int .i64 v7.At, .slice y8 n8 m8, .slice y9 n9 m9, (vi v10)])]).run prog w = .ok (.agg #[.int .i64 v1.Noon, .int .i64 v1.Half, .int .i64 v1.Full, .int .i64 v1.Late, .int .i64 v1.Again, .int .i64 v1.Wind, (vi v2), .slice y4 n4 m4, .slice y5 n5 m5, .slice y6 n6 m6, .int .i64 v7.Place, .int .i64 v7.Wind, .bool v7.Flag, .int .i64 v7.At, .slice y8 n8 m8, .slice y9 n9 m9, (vi v10)]) w := by
  intro v1 v2 y4 n4 m4 y5 n5 m5 y6 n6 m6 v7 y8 n8 m8 y9 n9 m9 v10 w
  kernel_rfl
theorem el65 : ElemT prog 65 3 32 := ElemT.mk (z := (.agg #[(vi (0)), (.string ByteArray.empty), (.int .u64 (0))])) (by kernel_rfl) rfl
theorem sz55 : SizeT prog 55 1 := SizeT.mk (by kernel_rfl)
theorem fd65_0 : FieldT prog 65 0 0 := FieldT.mk (k := 1) underlying65 R R (by kernel_rfl) (by decide)
theorem fd65_1 : FieldT prog 65 1 1 := FieldT.mk (k := 1) underlying65 R R (by kernel_rfl) (by decide)
theorem bdx57_0_1 : ∀ (v1 : GMast) (v2 : Int) (y4 : Option Addr) (n4 m4 : Nat) (y5 : Option Addr) (n5 m5 : Nat) (y6 : Option Addr) (n6 m6 : Nat) (v7 : GBall) (y8 : Option Addr) (n8 m8 : Nat) (y9 : Option Addr) (n9 m9 : Nat) (v10 : Int) (y11 : Option Addr) (n11 m11 : Nat) (w : World), (Instr.build 57 #[(0, .agg #[.int .i64 v1.Noon, .int .i64 v1.Half, .int .i64 v1.Full, .int .i64 v1.Late, .int .i64 v1.Again, .int .i64 v1.Wind, (vi v2), .slice y4 n4 m4, .slice y5 n5 m5, .slice y6 n6 m6, .int .i64 v7.Place, .int .i64 v7.Wind, .bool v7.Flag, .int .i64 v7.At, .slice y8 n8 m8, .slice y9 n9 m9, (vi v10)]), (1, .slice y11 n11 m11)]).run prog w = .ok (.agg #[.int .i64 v1.Noon, .int .i64 v1.Half, .int .i64 v1.Full, .int .i64 v1.Late, .int .i64 v1.Again, .int .i64 v1.Wind, (vi v2), .slice y4 n4 m4, .slice y5 n5 m5, .slice y6 n6 m6, .int .i64 v7.Place, .int .i64 v7.Wind, .bool v7.Flag, .int .i64 v7.At, .slice y8 n8 m8, .slice y9 n9 m9, (vi v10), .slice y11 n11 m11]) w := by
  intro v1 v2 y4 n4 m4 y5 n5 m5 y6 n6 m6 v7 y8 n8 m8 y9 n9 m9 v10 y11 n11 m11 w
  kernel_rfl
theorem ze52 : ZeroT prog 52 (.agg #[(vi (0)), (vi (0)), (vi (0)), (vi (0)), (vi (0)), (vi (0))]) := ZeroT.mk (by kernel_rfl)
theorem bd52_0_1_2_3_4_5 : ∀ (v0 : Int) (v1 : Int) (v2 : Int) (v3 : Int) (v4 : Int) (v5 : Int) (w : World), (Instr.build 52 #[(0, (vi v0)), (1, (vi v1)), (2, (vi v2)), (3, (vi v3)), (4, (vi v4)), (5, (vi v5))]).run prog w = .ok (.agg #[(vi v0), (vi v1), (vi v2), (vi v3), (vi v4), (vi v5)]) w := by
  intro v0 v1 v2 v3 v4 v5 w
  simp [Instr.build, Tryz.zeroValue52, Tryz.runUnderlying52, Instr.fill, sizeOf3, Value.cells]
theorem sz52 : SizeT prog 52 6 := SizeT.mk (by kernel_rfl)
theorem bd29_0 : ∀ (y0 : Option Addr) (n0 m0 : Nat) (w : World), (Instr.build 29 #[(0, .slice y0 n0 m0)]).run prog w = .ok (.agg #[.slice y0 n0 m0, (.slice none 0 0)]) w := by
  intro y0 n0 m0 w
  simp [Instr.build, Tryz.zeroValue29, Tryz.runUnderlying29, Instr.fill, sizeOf26, sizeOf27, Value.cells]
theorem bdx54_0_2_7 : ∀ (v0 : GMast) (y2 : Option Addr) (n2 m2 : Nat) (y3 : Option Addr) (n3 m3 : Nat) (v4 : Int) (w : World), (Instr.build 54 #[(0, (.agg (Flat.cells v0).toArray)), (2, .agg #[.slice y2 n2 m2, .slice y3 n3 m3]), (7, (vi v4))]).run prog w = .ok (.agg #[.int .i64 v0.Noon, .int .i64 v0.Half, .int .i64 v0.Full, .int .i64 v0.Late, .int .i64 v0.Again, .int .i64 v0.Wind, (vi 0), .slice y2 n2 m2, .slice y3 n3 m3, (.slice none 0 0), (vi 0), (vi 0), (.bool false), (vi 0), (.slice none 0 0), (.slice none 0 0), (vi v4)]) w := by
  intro v0 y2 n2 m2 y3 n3 m3 v4 w
  kernel_rfl
theorem bdx57_0 : ∀ (v1 : GMast) (v2 : Int) (y4 : Option Addr) (n4 m4 : Nat) (y5 : Option Addr) (n5 m5 : Nat) (y6 : Option Addr) (n6 m6 : Nat) (v7 : GBall) (y8 : Option Addr) (n8 m8 : Nat) (y9 : Option Addr) (n9 m9 : Nat) (v10 : Int) (w : World), (Instr.build 57 #[(0, .agg #[.int .i64 v1.Noon, .int .i64 v1.Half, .int .i64 v1.Full, .int .i64 v1.Late, .int .i64 v1.Again, .int .i64 v1.Wind, (vi v2), .slice y4 n4 m4, .slice y5 n5 m5, .slice y6 n6 m6, .int .i64 v7.Place, .int .i64 v7.Wind, .bool v7.Flag, .int .i64 v7.At, .slice y8 n8 m8, .slice y9 n9 m9, (vi v10)])]).run prog w = .ok (.agg #[.int .i64 v1.Noon, .int .i64 v1.Half, .int .i64 v1.Full, .int .i64 v1.Late, .int .i64 v1.Again, .int .i64 v1.Wind, (vi v2), .slice y4 n4 m4, .slice y5 n5 m5, .slice y6 n6 m6, .int .i64 v7.Place, .int .i64 v7.Wind, .bool v7.Flag, .int .i64 v7.At, .slice y8 n8 m8, .slice y9 n9 m9, (vi v10), (.slice none 0 0)]) w := by
  intro v1 v2 y4 n4 m4 y5 n5 m5 y6 n6 m6 v7 y8 n8 m8 y9 n9 m9 v10 w
  kernel_rfl
theorem eq32 : EqT prog 32 GBall := by
  refine ⟨Tryz.eqGuardType32, ?_⟩
  intro a b w
  obtain ⟨a0, a1, a2, a3⟩ := a
  obtain ⟨b0, b1, b2, b3⟩ := b
  have hs : prog.underlying 32 = some (.struct (prog.fieldsOf 32)) := by kernel_rfl
  rw [run_equalIn_agg w 9999 32 _ _ hs Tryz.stoodInHeld32]
  simp only [Program.fieldsOf, underlying32]
  simp [Op.eqFields, Flat.cells, part, isAgg3, isAgg4, run_equalIn_bool' _ _ _ _ _ underlying4, run_equalIn_int _ _ _ _ _ _ _ underlying3]
  cases h0 : decide (a0 = b0) <;> cases h1 : decide (a1 = b1) <;> cases h2 : decide (a2 = b2) <;> cases h3 : decide (a3 = b3) <;> simp_all
def numItems (bg br rm : Nat) (vs : Value) (kv : List (GPoint × Int)) : List Fw.Item := [boxI bg 164 [.pointer (some ⟨br, 0, none⟩)], boxI br 203 [.map (some rm), vs], mapI rm kv]

theorem c_num {w0 : World} (bg br rm : Nat) (vs : Value) (kv : List (GPoint × Int)) (p : GPoint)
  (H0 : InvD (fpOf (numItems bg br rm vs kv)) w0 w0 (numItems bg br rm vs kv)) :
  Calls prog 137 #[.agg (Flat.cells p).toArray, .pointer (some ⟨bg, 0, none⟩)] w0 fun e w' => ∃ v L1, e = .returned v ∧ InvD (fpOf (numItems bg br rm vs kv)) w0 w' L1 ∧ (v = .int .i64 (sight_num kv p).1 ∧ L1 = numItems bg br rm vs (sight_num kv p).2) := by
 refine cW func137 ntmps137 ?_
 have H : InvD (fpOf (numItems bg br rm vs kv)) w0 w0 [boxI bg 164 [.pointer (some ⟨br, 0, none⟩)], boxI br 203 [.map (some rm), vs], mapI rm kv] := H0
 refine Sq (Rg (Bx [.int .i64 p.clock, .int .i64 p.at_] H fun b1 w1 H hb1 => As (vi 0) (Nl (Sq ?_))))
 refine W.drawN 10 (fun f => f 1 = .pointer (some ⟨bg, 0, none⟩) ∧ f 2 = .pointer (some ⟨b1, 0, none⟩) ∧ f 4 = .int .i64 ((mget kv p).getD 0) ∧ f 14 = .bool (mget kv p).isSome) fol (by kernel_rfl) ?_ ?_
 ·
  exact Pl (fun _ w8 _ hx => by have H := H.ext hx; exact O.load (q := ⟨bg, 0, none⟩) (v := .pointer (some ⟨br, 0, none⟩)) sc164 R R R (H.cell 0 rfl 0 _ rfl) (Nl ⟨rfl, hx⟩)) (Pl (fun _ w8 _ hx => Nk rfl (Nl ⟨rfl, hx⟩)) (Pl (fun _ w8 _ hx => Fa fd203_0 rfl (Nl ⟨rfl, hx⟩)) (Pl (fun _ w8 _ hx => by have H := H.ext hx; exact Ld (.map (some rm)) sc200 (H.cell 1 rfl 0 _ rfl) (Nl ⟨rfl, hx⟩)) (Pl (fun _ w8 _ hx => by have H := H.ext hx; exact La [.int .i64 p.clock, .int .i64 p.at_] ag205 (H.cell 3 rfl) (Nl ⟨rfl, hx⟩)) (Pl (fun _ w8 _ hx => by have H := H.ext hx; exact O.lookup2 (z := 0) p underlying200 key205 ze3 (H.map 2 rfl) R R R R (Nl ⟨rfl, hx⟩)) (Pl (fun _ w8 _ hx => Mv (.tuple #[.int .i64 ((mget kv p).getD 0), .bool (mget kv p).isSome]) (Nl ⟨rfl, hx⟩)) (Pl (fun _ w8 _ hx => Xt (vi ((mget kv p).getD 0)) (Nl ⟨rfl, hx⟩)) (Pl (fun _ w8 _ hx => Xt (.bool (mget kv p).isSome) (Nl ⟨rfl, hx⟩)) (Pl (fun _ w8 _ hx => As (vi ((mget kv p).getD 0)) (Nl ⟨rfl, hx⟩)) ⟨rfl, rfl, rfl, rfl⟩)))))))))
 ·
  rintro f w ⟨hf1, hf2, hf4, hf14⟩ hmd hx
  have H := H.ext hx
  obtain ⟨u1, rfl⟩ := up4 hf1 hf2 hf4 hf14
  refine As (.bool (mget kv p).isSome) (Nl (Sq (Sq (Rg (Mv (.bool (mget kv p).isSome) (O.not R R R (Nl ?_)))))))
  cases hg : mget kv p with
  | some n =>
   refine Cf rfl (Sk (Sq (Rg (Mv (vi n) (As (vi n) (Nl (Rt ?_)))))))
   refine ends1 results137 rfl ⟨_, _, rfl, H.keep [0, 1, 2] (numItems bg br rm vs kv) rfl (by decide), ?_⟩
   unfold sight_num
   rw [hg]
   exact ⟨rfl, rfl⟩
  | none =>
   refine Ct rfl (Sq (Rg (O.load (q := ⟨bg, 0, none⟩) (v := .pointer (some ⟨br, 0, none⟩)) sc164 R R R (H.cell 0 rfl 0 _ rfl) (Nk rfl (Fa fd203_0 rfl (Ld (.map (some rm)) sc200 (H.cell 1 rfl 0 _ rfl) (O.lenM (kv := kv) underlying200 (H.map 2 rfl) R R R (As (vi (kv.length : Int)) (Nl ?_)))))))))
   refine W.drawN 6 (fun f => f 25 = .map (some rm) ∧ f 26 = .agg (Flat.cells p).toArray ∧ f 27 = .int .i64 (kv.length : Int) ∧ f 4 = .int .i64 (kv.length : Int)) fol (by kernel_rfl) ?_ ?_
   ·
    exact Pl (fun _ w8 _ hx => by have H := H.ext hx; exact O.load (q := ⟨bg, 0, none⟩) (v := .pointer (some ⟨br, 0, none⟩)) sc164 R R R (H.cell 0 rfl 0 _ rfl) (Nl ⟨rfl, hx⟩)) (Pl (fun _ w8 _ hx => Nk rfl (Nl ⟨rfl, hx⟩)) (Pl (fun _ w8 _ hx => Fa fd203_0 rfl (Nl ⟨rfl, hx⟩)) (Pl (fun _ w8 _ hx => by have H := H.ext hx; exact Ld (.map (some rm)) sc200 (H.cell 1 rfl 0 _ rfl) (Nl ⟨rfl, hx⟩)) (Pl (fun _ w8 _ hx => by have H := H.ext hx; exact La [.int .i64 p.clock, .int .i64 p.at_] ag205 (H.cell 3 rfl) (Nl ⟨rfl, hx⟩)) (Pl (fun _ w8 _ hx => Mv (vi (kv.length : Int)) (Nl ⟨rfl, hx⟩)) ⟨rfl, rfl, rfl, rfl⟩)))))
   ·
    rintro f w ⟨hf25, hf26, hf27, hf4⟩ hmd hx
    have H := H.ext hx
    obtain ⟨u1, rfl⟩ := up4 hf25 hf26 hf27 hf4
    refine O.mapUpdate 2 p (kv.length : Int) underlying200 key205 H R R R R R fun w4 H => Nl (Sq (Rg (Mv (vi (kv.length : Int)) (As (vi (kv.length : Int)) (Nl (Rt ?_))))))
    refine ends1 results137 rfl ⟨_, _, rfl, H.keep [0, 1, 2] (numItems bg br rm vs (mput kv p (kv.length : Int))) rfl (by decide), ?_⟩
    unfold sight_num
    rw [hg]
    exact ⟨rfl, rfl⟩

theorem c_sight_pointOf {w0 : World} (a0 : Int) (a1 : Int) {r0 : GPoint} (hm : sight_pointOf a0 a1 = some r0) :
  Calls prog 155 #[(vi a0), (vi a1)] w0 (Ret w0 fun _ v => v = (.agg (Flat.cells r0).toArray)) := by
 unfold sight_pointOf at hm
 refine cW func155 ntmps155 ?_
 have H := Inv.start (w := w0)
 refine Sq (Rg (Al [(vi 0), (vi 0)] ze205 H fun b1 w1 H hb1 => Nl (Sq (Sq (Rg (Mv (vi a0) (Eq_ (Nl ?_))))))))
 obtain ⟨s1, hm1, hm⟩ := bind_some hm
 refine Va (fun f w => f 0 = (vi a0) ∧ f 1 = (vi s1) ∧ f 4 = (pt b1) ∧ Inv w0 w [boxI b1 205 [(vi 0), (vi 0)]]) ?_ ?_
 ·
  rcases ite_some hm1 with ⟨hc1, hm1⟩ | ⟨hc1, hm1⟩
  ·
   refine Ct (cb hc1) (Rg (As (vi 0) (Nl ?_)))
   obtain rfl := sj hm1
   exact ⟨rfl, rfl, rfl, H⟩
  ·
   refine Cf (cb hc1) (Sk ?_)
   obtain rfl := sj hm1
   exact ⟨rfl, rfl, rfl, H⟩
 ·
  rintro f w ⟨hf0, hf1, hf4, H⟩
  obtain ⟨u1, rfl⟩ := up3 hf0 hf1 hf4
  refine Sq (Rg (Mv (vi a0) (Mv (vi s1) (Bd (v := (.agg (Flat.cells (GPoint.mk a0 s1)).toArray)) (fun w => bd205_0_1 _ _ w) rfl (St 0 0 [(vi a0), (vi s1)] [(vi a0), (vi s1)] sz205 H R R (one_cons rfl (one_cons rfl one_nil)) fun w2 H => Nl (Rt ?_))))))
  obtain rfl := sj hm
  exact ends1 results155 ⟨_, rfl, run_loadVar_agg ag205 rfl (H.cell 0 rfl)⟩ ⟨_, rfl, H.base, rfl⟩

set_option maxRecDepth 20000 in
theorem c_sight_taken {w0 : World} (va0_0 : Value) (va0_1 : Value) (a0 : GNet) (ha0_0 : SliceR w0 va0_0 a0.Rates) (ha0_1 : SliceR w0 va0_1 a0.Sights) (a1 : Int) {r0 : GPoint} {r1 : GPoint} {r2 : Int} (hm : sight_taken a0 a1 = some (r0, r1, r2)) :
  Calls prog 138 #[(.agg #[va0_0, va0_1]), (vi a1)] w0 (Ret w0 fun _ v => v = .tuple #[(.agg (Flat.cells r0).toArray), (.agg (Flat.cells r1).toArray), (vi r2)]) := by
 unfold sight_taken at hm
 refine cW func138 ntmps138 ?_
 have H := Inv.start (w := w0)
 refine Sq (Rg (Bx [va0_0, va0_1] H fun b1 w1 H hb1 => Al [(vi 0), (vi 0)] ze205 H fun b2 w2 H hb2 => Al [(vi 0), (vi 0)] ze205 H fun b3 w3 H hb3 => As (vi 0) (Nl (Sq (Rg (Fa fd29_1 rfl (Ld _ sc27 (H.cell 0 rfl 1 _ rfl) ?_)))))))
 refine Mv (vi a1) ?_
 obtain ⟨t1, ht1, hm⟩ := bind_some hm
 refine O.quo R R R R ht1 ?_
 obtain ⟨x1, hx1, hm⟩ := bind_some hm
 obtain ⟨p1, hp1, hrp1⟩ := fix_indexAddr underlying27 sz92 ha0_1 hx1
 refine hrp1 R R R R (La [(vi x1.At), (vi x1.A), (vi x1.B), (vi x1.Lo), (vi x1.Hi)] ag92 ((hp1.mono H.base).flat) (Al [(vi 0), (vi 0), (vi 0), (vi 0), (vi 0)] ze92 H fun b4 w4 H hb4 => St 3 0 [(vi x1.At), (vi x1.A), (vi x1.B), (vi x1.Lo), (vi x1.Hi)] [(vi x1.At), (vi x1.A), (vi x1.B), (vi x1.Lo), (vi x1.Hi)] sz92 H R R (one_cons rfl (one_cons rfl (one_cons rfl (one_cons rfl (one_cons rfl one_nil))))) fun w5 H => Nl (Sq (Sq (Rg (Mv (vi a1) ?_))))))
 obtain ⟨t2, ht2, hm⟩ := bind_some hm
 refine O.rem R R R R ht2 (Eq_ (Nl ?_))
 rcases ite_some hm with ⟨hc1, hm⟩ | ⟨hc1, hm⟩
 ·
  refine Ct (cb hc1) (Sq ?_)
  obtain ⟨t3, hy1, hm⟩ := bind_some hm
  obtain ⟨t4, hy2, hm⟩ := bind_some hm
  refine W.drawD 14 [[], [0], [], [2], [0, 1, 2, 3], [], [5], [], [7], [0, 1, 2, 3, 4, 5, 6, 7, 8], [], [10], [0, 1, 2, 3, 4, 5, 6, 7, 8, 9], [0, 1, 2, 3, 4, 5, 6, 7, 8, 9, 12]] [[1, 4, 9, 12, 13], [4, 9, 12, 13], [3, 4, 9, 12, 13], [4, 9, 12, 13], [9, 12, 13], [6, 9, 12, 13], [9, 12, 13], [8, 9, 12, 13], [9, 12, 13], [12, 13], [11], [], [13], []] (fun S f w => (f 4 = (pt b2) ∧ f 5 = (pt b3) ∧ f 7 = (pt b4)) ∧ Inv w0 w [boxI b1 29 [va0_0, va0_1], cond (S 12) (boxI b2 205 [(vi t3.clock), (vi t3.at_)]) (boxI b2 205 [(vi 0), (vi 0)]), cond (S 13) (boxI b3 205 [(vi t4.clock), (vi t4.at_)]) (boxI b3 205 [(vi 0), (vi 0)]), boxI b4 92 [(vi x1.At), (vi x1.A), (vi x1.B), (vi x1.Lo), (vi x1.Hi)]] ∧ (S 0 = true → f 17 = (.pointer (some (Addr.add (Addr.mk b4 0 none) 2)))) ∧ (S 1 = true → f 18 = (vi x1.B)) ∧ (S 2 = true → f 19 = (.pointer (some (Addr.add (Addr.mk b4 0 none) 0)))) ∧ (S 3 = true → f 20 = (vi x1.At)) ∧ (S 4 = true → f 21 = (.agg (Flat.cells t3).toArray)) ∧ (S 5 = true → f 22 = (.pointer (some (Addr.add (Addr.mk b4 0 none) 1)))) ∧ (S 6 = true → f 23 = (vi x1.A)) ∧ (S 7 = true → f 24 = (.pointer (some (Addr.add (Addr.mk b4 0 none) 0)))) ∧ (S 8 = true → f 25 = (vi x1.At)) ∧ (S 9 = true → f 26 = (.agg (Flat.cells t4).toArray)) ∧ (S 10 = true → f 27 = (.pointer (some (Addr.add (Addr.mk b4 0 none) 4)))) ∧ (S 11 = true → f 28 = (vi x1.Hi))) fol (by kernel_rfl) ?_ ?_ ?_
  ·
   exact fun d _ => ⟨⟨rfl, rfl, rfl⟩, H.ext (below_drawn d), nF, nF, nF, nF, nF, nF, nF, nF, nF, nF, nF, nF⟩
  ·
   refine ⟨?_, ⟨?_, ⟨?_, ⟨?_, ⟨?_, ⟨?_, ⟨?_, ⟨?_, ⟨?_, ⟨?_, ⟨?_, ⟨?_, ⟨?_, ⟨?_, trivial⟩⟩⟩⟩⟩⟩⟩⟩⟩⟩⟩⟩⟩⟩
   ·
    rintro S f w hS - ⟨e1, e4, e9, e12, e13, -⟩ ⟨k, H, q0, t⟩
    obtain ⟨u1, rfl⟩ := up1 k.2.2
    exact Fa fd92_2 rfl (Nl ⟨k, H, (fun _ => rfl), t⟩)
   ·
    rintro S f w hS ⟨e0, -⟩ ⟨e4, e9, e12, e13, -⟩ ⟨k, H, q0, q1, t⟩
    obtain ⟨u2, rfl⟩ := up1 (q0 e0)
    exact Ld _ sc3 (H.cell 3 rfl 2 _ rfl) (Nl ⟨k, H, q0, (fun _ => rfl), t⟩)
   ·
    rintro S f w hS - ⟨e3, e4, e9, e12, e13, -⟩ ⟨k, H, q0, q1, q2, t⟩
    obtain ⟨u3, rfl⟩ := up1 k.2.2
    exact Fa fd92_0 rfl (Nl ⟨k, H, q0, q1, (fun _ => rfl), t⟩)
   ·
    rintro S f w hS ⟨e2, -⟩ ⟨e4, e9, e12, e13, -⟩ ⟨k, H, q0, q1, q2, q3, t⟩
    obtain ⟨u4, rfl⟩ := up1 (q2 e2)
    exact Ld _ sc3 (H.cell 3 rfl 0 _ rfl) (Nl ⟨k, H, q0, q1, q2, (fun _ => rfl), t⟩)
   ·
    rintro S f w hS ⟨e0, e1, e2, e3, -⟩ ⟨e9, e12, e13, -⟩ ⟨k, H, q0, q1, q2, q3, q4, t⟩
    obtain ⟨u5, rfl⟩ := up2 (q1 e1) (q3 e3)
    refine Ca call155 (c_sight_pointOf _ _ hy1) ?_
    rintro _ w6 hb5 rfl
    have H := H.ext hb5
    exact Nl ⟨k, H, q0, q1, q2, q3, (fun _ => rfl), t⟩
   ·
    rintro S f w hS - ⟨e6, e9, e12, e13, -⟩ ⟨k, H, q0, q1, q2, q3, q4, q5, t⟩
    obtain ⟨u6, rfl⟩ := up1 k.2.2
    exact Fa fd92_1 rfl (Nl ⟨k, H, q0, q1, q2, q3, q4, (fun _ => rfl), t⟩)
   ·
    rintro S f w hS ⟨e5, -⟩ ⟨e9, e12, e13, -⟩ ⟨k, H, q0, q1, q2, q3, q4, q5, q6, t⟩
    obtain ⟨u7, rfl⟩ := up1 (q5 e5)
    exact Ld _ sc3 (H.cell 3 rfl 1 _ rfl) (Nl ⟨k, H, q0, q1, q2, q3, q4, q5, (fun _ => rfl), t⟩)
   ·
    rintro S f w hS - ⟨e8, e9, e12, e13, -⟩ ⟨k, H, q0, q1, q2, q3, q4, q5, q6, q7, t⟩
    obtain ⟨u8, rfl⟩ := up1 k.2.2
    exact Fa fd92_0 rfl (Nl ⟨k, H, q0, q1, q2, q3, q4, q5, q6, (fun _ => rfl), t⟩)
   ·
    rintro S f w hS ⟨e7, -⟩ ⟨e9, e12, e13, -⟩ ⟨k, H, q0, q1, q2, q3, q4, q5, q6, q7, q8, t⟩
    obtain ⟨u9, rfl⟩ := up1 (q7 e7)
    exact Ld _ sc3 (H.cell 3 rfl 0 _ rfl) (Nl ⟨k, H, q0, q1, q2, q3, q4, q5, q6, q7, (fun _ => rfl), t⟩)
   ·
    rintro S f w hS ⟨e0, e1, e2, e3, e4, e5, e6, e7, e8, -⟩ ⟨e12, e13, -⟩ ⟨k, H, q0, q1, q2, q3, q4, q5, q6, q7, q8, q9, t⟩
    obtain ⟨u10, rfl⟩ := up2 (q6 e6) (q8 e8)
    refine Ca call155 (c_sight_pointOf _ _ hy2) ?_
    rintro _ w7 hb6 rfl
    have H := H.ext hb6
    exact Nl ⟨k, H, q0, q1, q2, q3, q4, q5, q6, q7, q8, (fun _ => rfl), t⟩
   ·
    rintro S f w hS - ⟨e11, -⟩ ⟨k, H, q0, q1, q2, q3, q4, q5, q6, q7, q8, q9, q10, q11⟩
    obtain ⟨u11, rfl⟩ := up1 k.2.2
    exact Fa fd92_4 rfl (Nl ⟨k, H, q0, q1, q2, q3, q4, q5, q6, q7, q8, q9, (fun _ => rfl), q11⟩)
   ·
    rintro S f w hS ⟨e10, -⟩ - ⟨k, H, q0, q1, q2, q3, q4, q5, q6, q7, q8, q9, q10, q11⟩
    obtain ⟨u12, rfl⟩ := up1 (q10 e10)
    exact Ld _ sc3 (H.cell 3 rfl 4 _ rfl) (Nl ⟨k, H, q0, q1, q2, q3, q4, q5, q6, q7, q8, q9, q10, (fun _ => rfl)⟩)
   ·
    rintro S f w hS ⟨e0, e1, e2, e3, e4, e5, e6, e7, e8, e9, -⟩ ⟨e13, -⟩ ⟨k, H, q0, q1, q2, q3, q4, t⟩
    obtain ⟨u13, rfl⟩ := up2 k.1 (q4 e4)
    have H := H.cF 1 hS rfl
    exact St 1 0 [(vi t3.clock), (vi t3.at_)] [(vi t3.clock), (vi t3.at_)] sz205 H R R (one_cons rfl (one_cons rfl one_nil)) fun w8 H => Nl ⟨k, H, q0, q1, q2, q3, q4, t⟩
   ·
    rintro S f w hS ⟨e0, e1, e2, e3, e4, e5, e6, e7, e8, e9, e12, -⟩ - ⟨k, H, q0, q1, q2, q3, q4, q5, q6, q7, q8, q9, t⟩
    obtain ⟨u14, rfl⟩ := up2 k.2.1 (q9 e9)
    have H := H.cF 2 hS rfl
    exact St 2 0 [(vi t4.clock), (vi t4.at_)] [(vi t4.clock), (vi t4.at_)] sz205 H R R (one_cons rfl (one_cons rfl one_nil)) fun w9 H => Nl ⟨k, H, q0, q1, q2, q3, q4, q5, q6, q7, q8, q9, t⟩
  ·
   rintro S f w ⟨e0, e1, e2, e3, e4, e5, e6, e7, e8, e9, e10, e11, e12, e13, -⟩ ⟨k, H, q0, q1, q2, q3, q4, q5, q6, q7, q8, q9, q10, q11⟩
   have H : Inv w0 w [boxI b1 29 [va0_0, va0_1], boxI b2 205 [(vi t3.clock), (vi t3.at_)], boxI b3 205 [(vi t4.clock), (vi t4.at_)], boxI b4 92 [(vi x1.At), (vi x1.A), (vi x1.B), (vi x1.Lo), (vi x1.Hi)]] := ((H.cT 1 e12 rfl).cT 2 e13 rfl)
   obtain ⟨u15, rfl⟩ := up3 k.1 k.2.1 (q11 e11)
   refine As (vi x1.Hi) (Nl (Rt ?_))
   obtain ⟨rfl, rfl, rfl⟩ := j3 hm
   exact ends3 results138 ⟨_, rfl, run_loadVar_agg ag205 rfl (H.cell 1 rfl)⟩ ⟨_, rfl, run_loadVar_agg ag205 rfl (H.cell 2 rfl)⟩ rfl ⟨_, rfl, H.base, rfl⟩
 ·
  refine Cf (cb hc1) (Sk (Sq ?_))
  obtain ⟨t5, hy3, hm⟩ := bind_some hm
  obtain ⟨t6, hy4, hm⟩ := bind_some hm
  obtain ⟨t7, ht7, hm⟩ := bind_some hm
  refine W.drawD 15 [[], [0], [], [2], [0, 1, 2, 3], [], [5], [], [7], [0, 1, 2, 3, 4, 5, 6, 7, 8], [], [10], [10, 11], [0, 1, 2, 3, 4, 5, 6, 7, 8, 9], [0, 1, 2, 3, 4, 5, 6, 7, 8, 9, 13]] [[1, 4, 9, 13, 14], [4, 9, 13, 14], [3, 4, 9, 13, 14], [4, 9, 13, 14], [9, 13, 14], [6, 9, 13, 14], [9, 13, 14], [8, 9, 13, 14], [9, 13, 14], [13, 14], [11, 12], [12], [], [14], []] (fun S f w => (f 4 = (pt b2) ∧ f 5 = (pt b3) ∧ f 7 = (pt b4)) ∧ Inv w0 w [boxI b1 29 [va0_0, va0_1], cond (S 13) (boxI b2 205 [(vi t5.clock), (vi t5.at_)]) (boxI b2 205 [(vi 0), (vi 0)]), cond (S 14) (boxI b3 205 [(vi t6.clock), (vi t6.at_)]) (boxI b3 205 [(vi 0), (vi 0)]), boxI b4 92 [(vi x1.At), (vi x1.A), (vi x1.B), (vi x1.Lo), (vi x1.Hi)]] ∧ (S 0 = true → f 29 = (.pointer (some (Addr.add (Addr.mk b4 0 none) 1)))) ∧ (S 1 = true → f 30 = (vi x1.A)) ∧ (S 2 = true → f 31 = (.pointer (some (Addr.add (Addr.mk b4 0 none) 0)))) ∧ (S 3 = true → f 32 = (vi x1.At)) ∧ (S 4 = true → f 33 = (.agg (Flat.cells t5).toArray)) ∧ (S 5 = true → f 34 = (.pointer (some (Addr.add (Addr.mk b4 0 none) 2)))) ∧ (S 6 = true → f 35 = (vi x1.B)) ∧ (S 7 = true → f 36 = (.pointer (some (Addr.add (Addr.mk b4 0 none) 0)))) ∧ (S 8 = true → f 37 = (vi x1.At)) ∧ (S 9 = true → f 38 = (.agg (Flat.cells t6).toArray)) ∧ (S 10 = true → f 39 = (.pointer (some (Addr.add (Addr.mk b4 0 none) 3)))) ∧ (S 11 = true → f 40 = (vi x1.Lo)) ∧ (S 12 = true → f 41 = (vi t7))) fol (by kernel_rfl) ?_ ?_ ?_
  ·
   exact fun d _ => ⟨⟨rfl, rfl, rfl⟩, H.ext (below_drawn d), nF, nF, nF, nF, nF, nF, nF, nF, nF, nF, nF, nF, nF⟩
  ·
   refine ⟨?_, ⟨?_, ⟨?_, ⟨?_, ⟨?_, ⟨?_, ⟨?_, ⟨?_, ⟨?_, ⟨?_, ⟨?_, ⟨?_, ⟨?_, ⟨?_, ⟨?_, trivial⟩⟩⟩⟩⟩⟩⟩⟩⟩⟩⟩⟩⟩⟩⟩
   ·
    rintro S f w hS - ⟨e1, e4, e9, e13, e14, -⟩ ⟨k, H, q0, t⟩
    obtain ⟨u16, rfl⟩ := up1 k.2.2
    exact Fa fd92_1 rfl (Nl ⟨k, H, (fun _ => rfl), t⟩)
   ·
    rintro S f w hS ⟨e0, -⟩ ⟨e4, e9, e13, e14, -⟩ ⟨k, H, q0, q1, t⟩
    obtain ⟨u17, rfl⟩ := up1 (q0 e0)
    exact Ld _ sc3 (H.cell 3 rfl 1 _ rfl) (Nl ⟨k, H, q0, (fun _ => rfl), t⟩)
   ·
    rintro S f w hS - ⟨e3, e4, e9, e13, e14, -⟩ ⟨k, H, q0, q1, q2, t⟩
    obtain ⟨u18, rfl⟩ := up1 k.2.2
    exact Fa fd92_0 rfl (Nl ⟨k, H, q0, q1, (fun _ => rfl), t⟩)
   ·
    rintro S f w hS ⟨e2, -⟩ ⟨e4, e9, e13, e14, -⟩ ⟨k, H, q0, q1, q2, q3, t⟩
    obtain ⟨u19, rfl⟩ := up1 (q2 e2)
    exact Ld _ sc3 (H.cell 3 rfl 0 _ rfl) (Nl ⟨k, H, q0, q1, q2, (fun _ => rfl), t⟩)
   ·
    rintro S f w hS ⟨e0, e1, e2, e3, -⟩ ⟨e9, e13, e14, -⟩ ⟨k, H, q0, q1, q2, q3, q4, t⟩
    obtain ⟨u20, rfl⟩ := up2 (q1 e1) (q3 e3)
    refine Ca call155 (c_sight_pointOf _ _ hy3) ?_
    rintro _ w10 hb7 rfl
    have H := H.ext hb7
    exact Nl ⟨k, H, q0, q1, q2, q3, (fun _ => rfl), t⟩
   ·
    rintro S f w hS - ⟨e6, e9, e13, e14, -⟩ ⟨k, H, q0, q1, q2, q3, q4, q5, t⟩
    obtain ⟨u21, rfl⟩ := up1 k.2.2
    exact Fa fd92_2 rfl (Nl ⟨k, H, q0, q1, q2, q3, q4, (fun _ => rfl), t⟩)
   ·
    rintro S f w hS ⟨e5, -⟩ ⟨e9, e13, e14, -⟩ ⟨k, H, q0, q1, q2, q3, q4, q5, q6, t⟩
    obtain ⟨u22, rfl⟩ := up1 (q5 e5)
    exact Ld _ sc3 (H.cell 3 rfl 2 _ rfl) (Nl ⟨k, H, q0, q1, q2, q3, q4, q5, (fun _ => rfl), t⟩)
   ·
    rintro S f w hS - ⟨e8, e9, e13, e14, -⟩ ⟨k, H, q0, q1, q2, q3, q4, q5, q6, q7, t⟩
    obtain ⟨u23, rfl⟩ := up1 k.2.2
    exact Fa fd92_0 rfl (Nl ⟨k, H, q0, q1, q2, q3, q4, q5, q6, (fun _ => rfl), t⟩)
   ·
    rintro S f w hS ⟨e7, -⟩ ⟨e9, e13, e14, -⟩ ⟨k, H, q0, q1, q2, q3, q4, q5, q6, q7, q8, t⟩
    obtain ⟨u24, rfl⟩ := up1 (q7 e7)
    exact Ld _ sc3 (H.cell 3 rfl 0 _ rfl) (Nl ⟨k, H, q0, q1, q2, q3, q4, q5, q6, q7, (fun _ => rfl), t⟩)
   ·
    rintro S f w hS ⟨e0, e1, e2, e3, e4, e5, e6, e7, e8, -⟩ ⟨e13, e14, -⟩ ⟨k, H, q0, q1, q2, q3, q4, q5, q6, q7, q8, q9, t⟩
    obtain ⟨u25, rfl⟩ := up2 (q6 e6) (q8 e8)
    refine Ca call155 (c_sight_pointOf _ _ hy4) ?_
    rintro _ w11 hb8 rfl
    have H := H.ext hb8
    exact Nl ⟨k, H, q0, q1, q2, q3, q4, q5, q6, q7, q8, (fun _ => rfl), t⟩
   ·
    rintro S f w hS - ⟨e11, e12, -⟩ ⟨k, H, q0, q1, q2, q3, q4, q5, q6, q7, q8, q9, q10, t⟩
    obtain ⟨u26, rfl⟩ := up1 k.2.2
    exact Fa fd92_3 rfl (Nl ⟨k, H, q0, q1, q2, q3, q4, q5, q6, q7, q8, q9, (fun _ => rfl), t⟩)
   ·
    rintro S f w hS ⟨e10, -⟩ ⟨e12, -⟩ ⟨k, H, q0, q1, q2, q3, q4, q5, q6, q7, q8, q9, q10, q11, q12⟩
    obtain ⟨u27, rfl⟩ := up1 (q10 e10)
    exact Ld _ sc3 (H.cell 3 rfl 3 _ rfl) (Nl ⟨k, H, q0, q1, q2, q3, q4, q5, q6, q7, q8, q9, q10, (fun _ => rfl), q12⟩)
   ·
    rintro S f w hS ⟨e10, e11, -⟩ - ⟨k, H, q0, q1, q2, q3, q4, q5, q6, q7, q8, q9, q10, q11, q12⟩
    obtain ⟨u28, rfl⟩ := up1 (q11 e11)
    exact O.neg R R R ht7 (Nl ⟨k, H, q0, q1, q2, q3, q4, q5, q6, q7, q8, q9, q10, q11, (fun _ => rfl)⟩)
   ·
    rintro S f w hS ⟨e0, e1, e2, e3, e4, e5, e6, e7, e8, e9, -⟩ ⟨e14, -⟩ ⟨k, H, q0, q1, q2, q3, q4, t⟩
    obtain ⟨u29, rfl⟩ := up2 k.1 (q4 e4)
    have H := H.cF 1 hS rfl
    exact St 1 0 [(vi t5.clock), (vi t5.at_)] [(vi t5.clock), (vi t5.at_)] sz205 H R R (one_cons rfl (one_cons rfl one_nil)) fun w12 H => Nl ⟨k, H, q0, q1, q2, q3, q4, t⟩
   ·
    rintro S f w hS ⟨e0, e1, e2, e3, e4, e5, e6, e7, e8, e9, e13, -⟩ - ⟨k, H, q0, q1, q2, q3, q4, q5, q6, q7, q8, q9, t⟩
    obtain ⟨u30, rfl⟩ := up2 k.2.1 (q9 e9)
    have H := H.cF 2 hS rfl
    exact St 2 0 [(vi t6.clock), (vi t6.at_)] [(vi t6.clock), (vi t6.at_)] sz205 H R R (one_cons rfl (one_cons rfl one_nil)) fun w13 H => Nl ⟨k, H, q0, q1, q2, q3, q4, q5, q6, q7, q8, q9, t⟩
  ·
   rintro S f w ⟨e0, e1, e2, e3, e4, e5, e6, e7, e8, e9, e10, e11, e12, e13, e14, -⟩ ⟨k, H, q0, q1, q2, q3, q4, q5, q6, q7, q8, q9, q10, q11, q12⟩
   have H : Inv w0 w [boxI b1 29 [va0_0, va0_1], boxI b2 205 [(vi t5.clock), (vi t5.at_)], boxI b3 205 [(vi t6.clock), (vi t6.at_)], boxI b4 92 [(vi x1.At), (vi x1.A), (vi x1.B), (vi x1.Lo), (vi x1.Hi)]] := ((H.cT 1 e13 rfl).cT 2 e14 rfl)
   obtain ⟨u31, rfl⟩ := up3 k.1 k.2.1 (q12 e12)
   refine As (vi t7) (Nl (Rt ?_))
   obtain ⟨rfl, rfl, rfl⟩ := j3 hm
   exact ends3 results138 ⟨_, rfl, run_loadVar_agg ag205 rfl (H.cell 1 rfl)⟩ ⟨_, rfl, run_loadVar_agg ag205 rfl (H.cell 2 rfl)⟩ rfl ⟨_, rfl, H.base, rfl⟩

theorem c_sight_carry {w0 : World} (va0_0 : Value) (va0_1 : Value) (a0 : GNet) (ha0_0 : SliceR w0 va0_0 a0.Rates) (ha0_1 : SliceR w0 va0_1 a0.Sights) (a1 : Int) (a2 : Int) {r0 : Int} (hm : sight_carry a0 a1 a2 = some r0) :
  Calls prog 183 #[(.agg #[va0_0, va0_1]), (vi a1), (vi a2)] w0 (Ret w0 fun _ v => v = (vi r0)) := by
 unfold sight_carry at hm
 refine cW func183 ntmps183 ?_
 have H := Inv.start (w := w0)
 refine Sq (Rg (Bx [va0_0, va0_1] H fun b1 w1 H hb1 => As (vi 0) (Nl (Sq (Rg (Fa fd29_0 rfl (Ld _ sc26 (H.cell 0 rfl 0 _ rfl) (Mv (vi a1) ?_))))))))
 obtain ⟨x1, hx1, hm⟩ := bind_some hm
 obtain ⟨p1, hp1, hrp1⟩ := fix_indexAddr underlying26 sz3 ha0_0 hx1
 refine hrp1 R R R R (Ld _ sc3 ((hp1.mono H.base).flat 0 _ rfl) (Mv (vi a2) (Mv (vi a2) ?_)))
 obtain ⟨t1, ht1, hm⟩ := bind_some hm
 refine O.neg R R R ht1 (O.max2 R R R R ?_)
 obtain ⟨t2, ht2, hm⟩ := bind_some hm
 refine O.mul R R R R ht2 (As (vi t2) (Nl (Sq (Rg (Mv (vi t2) ?_)))))
 obtain ⟨t3, ht3, hm⟩ := bind_some hm
 refine Ad ht3 ?_
 obtain ⟨t4, ht4, hm⟩ := bind_some hm
 refine Su ht4 ?_
 obtain ⟨t5, ht5, hm⟩ := bind_some hm
 refine O.quo R R R R ht5 (As (vi t5) (Nl (Rt ?_)))
 obtain rfl := sj hm
 exact ends1 results183 rfl ⟨_, rfl, H.base, rfl⟩

theorem bd210_all : ∀ (v0 v1 v2 v3 : Int) (w : World), (Instr.build 210 #[(0, (vi v0)), (1, (vi v1)), (2, (vi v2)), (3, (vi v3))]).run prog w = .ok (.agg #[(vi v0), (vi v1), (vi v2), (vi v3)]) w := by
  intro v0 v1 v2 v3 w
  simp [Instr.build, Tryz.zeroValue210, Tryz.runUnderlying210, Instr.fill, sizeOf3, Value.cells]




def leftL (es : List MapEntry) (kv : List Pn) (seen : Array Nat) : List Pn := ((es.zip kv).filter fun x => !seen.contains x.1.born).map (·.2)
theorem done_left (es : List MapEntry) (kv : List Pn) (seen : Array Nat) (h : es.length = kv.length) : (doneL es kv seen ++ leftL es kv seen).Perm kv := by
  unfold doneL leftL
  rw [← List.map_append]
  have := (List.filter_append_perm (fun x : MapEntry × Pn => seen.contains x.1.born) (es.zip kv)).map (·.2)
  refine this.trans ?_
  rw [show (fun x : MapEntry × Pn => x.2) = Prod.snd from rfl, List.map_snd_zip (by omega)]
theorem row_cons (g : Pn → Pn → GEdge) (a b : Pn) (l : List Pn) : rowOf g a (b :: l) = if pairB a b = true then g a b :: rowOf g a l else rowOf g a l := by
  unfold rowOf
  rw [List.filter_cons]
  split <;> simp_all
theorem row_append (g : Pn → Pn → GEdge) (a : Pn) (l l' : List Pn) : rowOf g a (l ++ l') = rowOf g a l ++ rowOf g a l' := by simp [rowOf]
theorem row_perm (g : Pn → Pn → GEdge) (a : Pn) {l l' : List Pn} (h : l.Perm l') : (rowOf g a l).Perm (rowOf g a l') := (h.filter _).map _
theorem it_carries {wi : World} {Kp : World → Prop} (pn px : Addr) (r : Nat) (es : Array MapEntry) (clock : Nat) (kv : List Pn) (x : GNet) (vx0 vx1 : Value) (g : Pn → Pn → GEdge)
    (hm : ∀ a ∈ kv, ∀ b ∈ kv, pairB a b = true → edgeOf x a b = some (g a b))
    (e2 : es.toList.map (fun e => (e.key, e.val)) = kv.map (fun p => (Flat.val p.1, Flat.val p.2))) (e4 : (es.toList.map (·.born)).Nodup) (e5 : ∀ e ∈ es.toList, e.born < clock) (e6 : es.toList.length = kv.length)
    (hk : ∀ w, Kp w → (∀ j c, [Value.map (some r)][j]? = some c → w.cell? (pn.add j) = some c) ∧ w.heap[r]? = some (.map es clock) ∧ (∀ j c, [vx0, vx1][j]? = some c → w.cell? (px.add j) = some c) ∧ SliceR w vx0 x.Rates ∧ SliceR w vx1 x.Sights) :
    IterAt prog 182 #[.pointer (some pn), .pointer (some px)] (repF (α := GEdge)) (fun ys => ys.Perm (kv.flatMap fun a => rowOf g a kv)) Kp wi := by
  intro l J Jx hc h0
  refine cW func182 ntmps182 ?_
  have H := InvI.start hc h0
  have hK := hk _ (InvI.kp H)
  refine Sq (Rg (O.load (q := pn) (v := .map (some r)) sc200 R R R (hK.1 0 _ rfl) (O.range underlying200 hK.2.1 H R R R fun bi w1 H hb1 => Nl (Bk ?_))))
  refine W.loopL (l := kv) (fun rem f w => ∃ (seen : Array Nat) (pre : List GEdge) (C : Nat → Prop), (doneL es.toList kv seen).length + rem.length = kv.length ∧ pre.Perm ((doneL es.toList kv seen).flatMap fun a => rowOf g a kv) ∧
    f 9 = .pointer (some ⟨bi, 0, none⟩) ∧ f 0 = .func (.yield l) #[] #[] ∧ f 1 = .pointer (some pn) ∧ f 2 = .pointer (some px) ∧ InvI wi w [consI hc pre C, iterX bi r clock seen clock]) ?_ ?_ ?_
  · exact ⟨#[], [], _, by rw [doneL_nil]; simp, by rw [doneL_nil]; exact List.Perm.refl _, rfl, rfl, rfl, rfl, H⟩
  · rintro _ xs f w ⟨seen, pre, C, h1, h2, hf9, hf0, hf1, hf2, H⟩
    obtain ⟨u1, rfl⟩ := up4 hf9 hf0 hf1 hf2
    have hb := (hk _ (InvI.kp H)).2.1
    refine Sq (Rg ?_)
    refine O.next 1 H rfl hb e5 (Nat.le_refl _) R R R ?_ ?_
    · intro h0
      have := doneL_all es.toList kv seen e6 (left_none h0)
      rw [this] at h1
      simp at h1
    · intro e he w1 H hb
      obtain ⟨he1, he2⟩ := left_mem he
      obtain ⟨a, ha1, ha2, ha3, ha4⟩ := doneL_push seen e he2 es.toList kv e2 e4 he1
      have hlen2 := ha4.length_eq
      rw [List.length_cons] at hlen2
      rw [List.length_cons] at h1
      refine Xt (.bool true) (Nl (Sq (Ct rfl (Sk (Bk (Sq (Rg (O.entry 1 H rfl hb he1 e4 R R R (Xt (v := Flat.val a.1) R R R (by rw [ha2]; rfl) (Xt (v := Flat.val a.2) R R R (by rw [ha3]; rfl) (Al [.int .i64 0, .int .i64 0] ze205 H fun b4 w2 H hb4 => St 2 0 [.int .i64 a.1.clock, .int .i64 a.1.at_] [.int .i64 a.1.clock, .int .i64 a.1.at_] sz205 H R R (one_cons rfl (one_cons rfl one_nil)) ?_)))))))))))
      intro w3 H
      refine As (vi a.2) (Nl (Sq (Rg ?_)))
      have hK := hk _ (InvI.kp H)
      refine O.load (q := pn) (v := .map (some r)) sc200 R R R (hK.1 0 _ rfl) (O.range underlying200 hK.2.1 H R R R fun bj w4 H hb5 => Nl (Bk ?_))
      refine W.loopL (l := kv) (fun rem f w => ∃ (seen2 : Array Nat) (pre : List GEdge) (C : Nat → Prop), (doneL es.toList kv seen2).length + rem.length = kv.length ∧ pre.Perm (((doneL es.toList kv seen).flatMap fun a => rowOf g a kv) ++ rowOf g a (doneL es.toList kv seen2)) ∧
        f 16 = .pointer (some ⟨bj, 0, none⟩) ∧ f 9 = .pointer (some ⟨bi, 0, none⟩) ∧ f 5 = .int .i64 a.2 ∧ f 4 = .pointer (some ⟨b4, 0, none⟩) ∧ f 0 = .func (.yield l) #[] #[] ∧ f 1 = .pointer (some pn) ∧ f 2 = .pointer (some px) ∧
        InvI wi w [consI hc pre C, iterX bi r clock (seen.push e.born) clock, boxI b4 205 [.int .i64 a.1.clock, .int .i64 a.1.at_], iterX bj r clock seen2 clock]) ?_ ?_ ?_
      · exact ⟨#[], pre, _, by rw [doneL_nil]; simp, by rw [doneL_nil]; simpa [rowOf] using h2, rfl, rfl, rfl, rfl, rfl, rfl, rfl, H⟩
      · rintro _ xs2 f w ⟨seen2, pre, C, k1, k2, hf16, hf9, hf5, hf4, hf0, hf1, hf2, H⟩
        obtain ⟨u1, rfl⟩ := up7 hf16 hf9 hf5 hf4 hf0 hf1 hf2
        have hb := (hk _ (InvI.kp H)).2.1
        refine Sq (Rg ?_)
        refine O.next 3 H rfl hb e5 (Nat.le_refl _) R R R ?_ ?_
        · intro h0
          have := doneL_all es.toList kv seen2 e6 (left_none h0)
          rw [this] at k1
          simp at k1
        · intro e' he' w1 H hb
          obtain ⟨he3, he4⟩ := left_mem he'
          obtain ⟨b, hp1, hp2, hp3, hp4⟩ := doneL_push seen2 e' he4 es.toList kv e2 e4 he3
          have hlen3 := hp4.length_eq
          rw [List.length_cons] at hlen3
          rw [List.length_cons] at k1
          refine Xt (.bool true) (Nl (Sq (Ct rfl (Sk (Bk (Sq (Rg (O.entry 3 H rfl hb he3 e4 R R R (Xt (v := Flat.val b.1) R R R (by rw [hp2]; rfl) (Xt (v := Flat.val b.2) R R R (by rw [hp3]; rfl) (Al [.int .i64 0, .int .i64 0] ze205 H fun b6 w2 H hb6 => St 4 0 [.int .i64 b.1.clock, .int .i64 b.1.at_] [.int .i64 b.1.clock, .int .i64 b.1.at_] sz205 H R R (one_cons rfl (one_cons rfl one_nil)) ?_)))))))))))
          intro w3 H
          refine As (vi b.2) (Nl ?_)
          have hnext : pairB a b = false → pre.Perm (((doneL es.toList kv seen).flatMap fun a => rowOf g a kv) ++ rowOf g a (doneL es.toList kv (seen2.push e'.born))) := by
            intro hq
            refine k2.trans ((List.Perm.refl _).append ?_)
            have := row_perm g a hp4
            rw [row_cons, if_neg (by rw [hq]; decide)] at this
            exact this.symm
          refine Sq (Rg (Fa fd205_0 rfl (Ld _ sc3 (H.cell 2 rfl 0 _ rfl) (Fa fd205_0 rfl (Ld _ sc3 (H.cell 4 rfl 0 _ rfl) (Eq_ ?_))))))
          cases hq1 : (a.1.clock == b.1.clock) with
          | false =>
            refine Mv (.bool false) (Sp (Sp (Sp (Pf (.bool false) (Mv (.bool false) ?_)))))
            iterate 15 refine Sp ?_
            refine Pf (.bool false) (Nl (Cf rfl (Sk ?_)))
            have H := H.keep [0, 1, 2, 3] [consI hc pre C, iterX bi r clock (seen.push e.born) clock, boxI b4 205 [.int .i64 a.1.clock, .int .i64 a.1.at_], iterX bj r clock (seen2.push e'.born) clock] rfl (by decide)
            exact ⟨seen2.push e'.born, pre, C, by omega, hnext (by unfold pairB; rw [hq1]; rfl), rfl, rfl, rfl, rfl, rfl, rfl, rfl, H⟩
          | true =>
            refine Mv (.bool true) (Mv (vi a.2) (Mv (vi b.2) (Ne_ (Pt (.bool (a.2 != b.2)) (Mv (.bool (a.2 != b.2)) ?_)))))
            cases hq2 : (a.2 != b.2) with
            | false =>
              iterate 15 refine Sp ?_
              refine Pf (.bool false) (Nl (Cf rfl (Sk ?_)))
              have H := H.keep [0, 1, 2, 3] [consI hc pre C, iterX bi r clock (seen.push e.born) clock, boxI b4 205 [.int .i64 a.1.clock, .int .i64 a.1.at_], iterX bj r clock (seen2.push e'.born) clock] rfl (by decide)
              exact ⟨seen2.push e'.born, pre, C, by omega, hnext (by unfold pairB; rw [hq1, hq2]; rfl), rfl, rfl, rfl, rfl, rfl, rfl, rfl, H⟩
            | true =>
              have hpair : pairB a b = true := by unfold pairB; rw [hq1, hq2]; rfl
              have hedge := hm a ha1 b hp1 hpair
              unfold edgeOf at hedge
              obtain ⟨dt, hdt, hedge⟩ := bind_some hedge
              obtain ⟨c, hcy, hedge⟩ := bind_some hedge
              have hedge := (sj hedge).symm
              refine Mv (.func (.yield l) #[] #[]) (Mv (vi a.2) (Mv (vi b.2) ?_))
              have hK := hk _ (InvI.kp H)
              refine La (q := px) [vx0, vx1] ag29 hK.2.2.1 (Fa fd205_0 rfl (Ld _ sc3 (H.cell 2 rfl 0 _ rfl) (Fa fd205_1 rfl (Ld _ sc3 (H.cell 2 rfl 1 _ rfl) (Fa fd205_1 rfl (Ld _ sc3 (H.cell 4 rfl 1 _ rfl) (Su hdt (Ca call183 (c_sight_carry _ _ x hK.2.2.2.1 hK.2.2.2.2 _ _ hcy) ?_))))))))
              rintro _ w4 hb7 rfl
              have H := H.ext hb7
              refine Bd (v := .agg #[.int .i64 a.2, .int .i64 b.2, .int .i64 c, .int .i64 (-1)]) (fun w => bd210_all _ _ _ _ w) rfl ?_
              have hcomp : ∃ rest, (pre ++ g a b :: rest).Perm (kv.flatMap fun a => rowOf g a kv) := by
                have p1 := done_left es.toList kv (seen.push e.born) e6
                have p2 := done_left es.toList kv (seen2.push e'.born) e6
                refine ⟨rowOf g a (leftL es.toList kv (seen2.push e'.born)) ++ (leftL es.toList kv (seen.push e.born)).flatMap (fun a => rowOf g a kv), ?_⟩
                rw [List.perm_iff_count]
                intro z
                have q1 := (p1.flatMap_right (fun a => rowOf g a kv)).count_eq z
                have q2 := (ha4.flatMap_right (fun a => rowOf g a kv)).count_eq z
                have q3 := (row_perm g a p2).count_eq z
                have q4 := (row_perm g a hp4).count_eq z
                have q5 := k2.count_eq z
                rw [row_cons, if_pos hpair] at q4
                rw [List.flatMap_append] at q1
                rw [List.flatMap_cons] at q2
                rw [row_append] at q3
                simp only [List.count_append, List.count_cons] at q1 q2 q3 q4 q5 ⊢
                omega
              refine O.yield (g a b) [.agg #[.int .i64 a.2, .int .i64 b.2, .int .i64 c, .int .i64 (-1)]] H hcomp (by rw [hedge]; rfl) R R R R ?_ ?_
              · intro w5 C5 H
                refine O.not R R R (Pt (.bool false) (Nl (Cf rfl (Sk ?_))))
                have H := H.keep [0, 1, 2, 3] [consI hc (pre ++ [g a b]) C5, iterX bi r clock (seen.push e.born) clock, boxI b4 205 [.int .i64 a.1.clock, .int .i64 a.1.at_], iterX bj r clock (seen2.push e'.born) clock] rfl (by decide)
                refine ⟨seen2.push e'.born, pre ++ [g a b], C5, by omega, ?_, rfl, rfl, rfl, rfl, rfl, rfl, rfl, H⟩
                rw [List.perm_iff_count]
                intro z
                have q4 := (row_perm g a hp4).count_eq z
                have q5 := k2.count_eq z
                rw [row_cons, if_pos hpair] at q4
                simp only [List.count_append, List.count_cons, List.count_nil] at q4 q5 ⊢
                omega
              · intro w5 C5 H
                exact O.not R R R (Pt (.bool true) (Nl (Ct rfl (Rt (ends0 results182 ⟨_, _, rfl, .inr (H.items _ (List.mem_cons_self ..)).1⟩)))))
      · rintro f w ⟨seen2, pre, C, k1, k2, hf16, hf9, hf5, hf4, hf0, hf1, hf2, H⟩
        obtain ⟨u1, rfl⟩ := up7 hf16 hf9 hf5 hf4 hf0 hf1 hf2
        have hb := (hk _ (InvI.kp H)).2.1
        refine Sq (Rg ?_)
        refine O.next 3 H rfl hb e5 (Nat.le_refl _) R R R ?_ ?_
        · intro h0
          have hall := doneL_all es.toList kv seen2 e6 (left_none h0)
          rw [hall] at k2
          refine Xt (.bool false) (Nl (Sq (Cf rfl (Ex (xT rfl ?_)))))
          have H := H.keep [0, 1] [consI hc pre C, iterX bi r clock (seen.push e.born) clock] rfl (by decide)
          refine ⟨seen.push e.born, pre, C, by omega, ?_, rfl, rfl, rfl, rfl, H⟩
          refine k2.trans ?_
          have q := (ha4.flatMap_right (fun a => rowOf g a kv)).symm
          rw [List.flatMap_cons] at q
          exact List.perm_append_comm.trans q
        · intro e' he' w1 H hb
          exfalso
          obtain ⟨he3, he4⟩ := left_mem he'
          obtain ⟨b, hp1, hp2, hp3, hp4⟩ := doneL_push seen2 e' he4 es.toList kv e2 e4 he3
          have hlen := hp4.length_eq
          have hle := doneL_le es.toList kv (seen2.push e'.born)
          rw [List.length_cons] at hlen
          simp at k1
          omega
  · rintro f w ⟨seen, pre, C, h1, h2, hf9, hf0, hf1, hf2, H⟩
    obtain ⟨u1, rfl⟩ := up4 hf9 hf0 hf1 hf2
    have hb := (hk _ (InvI.kp H)).2.1
    refine Sq (Rg ?_)
    refine O.next 1 H rfl hb e5 (Nat.le_refl _) R R R ?_ ?_
    · intro h0
      have hall := doneL_all es.toList kv seen e6 (left_none h0)
      rw [hall] at h2
      exact Xt (.bool false) (Nl (Sq (Cf rfl (Ex (xT rfl (ends0 results182 ⟨_, C, rfl, .inl ⟨_, h2, (H.items _ (List.mem_cons_self ..)).1⟩⟩))))))
    · intro e he w1 H hb
      exfalso
      obtain ⟨he1, he2⟩ := left_mem he
      obtain ⟨a, ha1, ha2, ha3, ha4⟩ := doneL_push seen e he2 es.toList kv e2 e4 he1
      have hlen := ha4.length_eq
      have hle := doneL_le es.toList kv (seen.push e.born)
      rw [List.length_cons] at hlen
      simp at h1
      omega

theorem c_sight_carries {w0 : World} (va0_0 : Value) (va0_1 : Value) (a0 : GNet) (ha0_0 : SliceR w0 va0_0 a0.Rates) (ha0_1 : SliceR w0 va0_1 a0.Sights) (va1 : Value) (a1 : (List (GPoint × Int))) (ha1 : MapR w0 va1 a1) :
  Calls prog 139 #[(.agg #[va0_0, va0_1]), va1] w0 (Ret w0 fun w v => ∃ b2 : Nat, ∃ b1 : Nat, v = (.func (.func 182) #[] #[(pt b2), (pt b1)]) ∧ Inv w0 w [boxI b2 200 [va1], boxI b1 29 [va0_0, va0_1]]) := by
 refine cW func139 ntmps139 ?_
 have H := Inv.start (w := w0)
 refine Sq (Rg (Bx [va0_0, va0_1] H fun b1 w1 H hb1 => O.box [va1] H R R R (MapR.cells1 (H.argM ha1)) fun b2 w2 H hb2 => As (.nilFunc) (Nl (Sq (Rg (Mf (As (.func (.func 182) #[] #[(pt b2), (pt b1)]) (Nl (Rt ?_)))))))))
 exact ends1 results139 rfl ⟨_, rfl, H.base, ⟨_, _, rfl, H.pick [1, 0] [boxI b2 200 [va1], boxI b1 29 [va0_0, va0_1]] rfl (by decide)⟩⟩

set_option maxRecDepth 20000 in
theorem c_sight_graphOf {w0 : World} (va0_0 : Value) (va0_1 : Value) (a0 : GNet) (ha0_0 : SliceR w0 va0_0 a0.Rates) (ha0_1 : SliceR w0 va0_1 a0.Sights) (va1 : Value) (a1 : (List GPoint)) (ha1 : SliceR w0 va1 a1) {r0 : List (GPoint × Int)} {r1 : List GEdge} (hm : sight_graphOf a0 a1 = some (r0, r1)) :
  Calls prog 105 #[(.agg #[va0_0, va0_1]), va1] w0 (Ret w0 fun w v => ∃ (br rm : Nat) (vs : Value) (st : List GEdge), v = .pointer (some ⟨br, 0, none⟩) ∧ st.Perm r1 ∧ Inv w0 w [boxI br 203 [.map (some rm), vs], mapI rm r0, o210 vs st]) := by
 unfold sight_graphOf at hm
 refine calls_of_WM func105 rfl ntmps105 (Nat.le_of_ble_eq_true rfl) ?_
 have H := Inv.startM (w0 := w0)
 have hmk : (fr0 #[(.agg #[va0_0, va0_1]), va1]).marks = [] := rfl
 refine Sq (Rg (Bx [va0_0, va0_1] H fun b1 w1 H hb1 => As (.pointer none) (Nl (Sq (Rg (O.makeMap (α := GPoint) (β := Int) H R R fun m1 w2 H hb2 => ?_))))))
 have H := H.addNil (α := GEdge) (E := 210)
 refine Bd (v := .agg #[(.map (some m1)), (.slice none 0 0)]) (fun w => bd203_0 _ w) rfl (Bx [(.map (some m1)), (.slice none 0 0)] H fun b2 w3 H hb3 => Al [(.pointer none)] ze164 H fun b3 w4 H hb4 => St 5 0 [(pt b2)] [(pt b2)] sz164 H R R (one_cons rfl one_nil) fun w5 H => Nl (Sq (Rg (Mf (As (.func (.func 137) #[] #[(pt b3)]) (Nl (Sq ?_)))))))
 refine Sq (Rg (Mv va1 (Ln underlying199 (H.arg ha1) (Mv (vi 0) (Nl ?_)))))
 obtain ⟨s1, hm1, hm⟩ := bind_some hm
 refine Va (fun f w => ∃ ms5 : List Nat, f 2 = (pt b1) ∧ f 5 = (pt b3) ∧ f 6 = (.func (.func 137) #[] #[(pt b3)]) ∧ f.marks = ms5 ∧ Inv w0 w [marksI ms5, boxI b1 29 [va0_0, va0_1], mapI (K := GPoint) (V := Int) m1 s1, o210 (.slice none 0 0) ([] : List GEdge), boxI b2 203 [(.map (some m1)), (.slice none 0 0)], boxI b3 164 [(pt b2)]]) ?_ ?_
 ·
  refine Bk ?_
  refine W.rangeL (i := 0) hm1 (fun rem ik1 s f w => ∃ z2 : (List (GPoint × Int)), ∃ ms3 : List Nat, z2 = s ∧ a1.drop ik1 = rem ∧ f 20 = .int .i64 (ik1 : Int) ∧ f 19 = (vi ((a1.length : Nat) : Int)) ∧ f 2 = (pt b1) ∧ f 5 = (pt b3) ∧ f 6 = (.func (.func 137) #[] #[(pt b3)]) ∧ f 18 = va1 ∧ f.marks = ms3 ∧ Inv w0 w [marksI ms3, boxI b1 29 [va0_0, va0_1], mapI (K := GPoint) (V := Int) m1 z2, o210 (.slice none 0 0) ([] : List GEdge), boxI b2 203 [(.map (some m1)), (.slice none 0 0)], boxI b3 164 [(pt b2)]]) ?_ ?_ ?_
  ·
   exact ⟨_, [], rfl, List.drop_zero, rfl, rfl, rfl, rfl, rfl, rfl, hmk, H⟩
  ·
   rintro yk1 xs ik1 _ st f w ⟨z2, ms3, rfl, hdropk1, hf20, hf19, hf2, hf5, hf6, hf18, hmk, H⟩ hm2
   have hltk1 := drop_lt hdropk1; have hixk1 := drop_idx hdropk1
   obtain ⟨u1, rfl⟩ := up6 hf20 hf19 hf2 hf5 hf6 hf18
   have hinck1 := addI_lt hltk1 (H.arg ha1).len_le
   refine Sq (Rg (Ls (Nl (Sq (Ct (cb (decide_eq_true hltk1)) (Sk (Sq (Bk (Sq (Rg ?_))))))))))
   obtain ⟨p1, hp1, hrp1⟩ := fix_indexAddr underlying199 sz205 ha1 hixk1
   refine hrp1 R R R R (La [(vi yk1.clock), (vi yk1.at_)] ag205 ((hp1.mono H.base).flat) (Al [(vi 0), (vi 0)] ze205 H fun b4 w6 H hb5 => St 6 0 [(vi yk1.clock), (vi yk1.at_)] [(vi yk1.clock), (vi yk1.at_)] sz205 H R R (one_cons rfl (one_cons rfl one_nil)) fun w7 H => Nl (Rg (Mv (.func (.func 137) #[] #[(pt b3)]) (La [(vi yk1.clock), (vi yk1.at_)] ag205 (H.cell 6 rfl) ?_)))))
   have H := H.pick [0, 1, 3, 6, 5, 4, 2] ([marksI ms3, boxI b1 29 [va0_0, va0_1], o210 (.slice none 0 0) ([] : List GEdge), boxI b4 205 [(vi yk1.clock), (vi yk1.at_)]] ++ (numItems b3 b2 m1 (.slice none 0 0) z2)) rfl (by decide)
   refine O.callFV [marksI ms3, boxI b1 29 [va0_0, va0_1], o210 (.slice none 0 0) ([] : List GEdge), boxI b4 205 [(vi yk1.clock), (vi yk1.at_)]] (numItems b3 b2 m1 (.slice none 0 0) z2) H call137 R R R R (c_num b3 b2 m1 (.slice none 0 0) z2 yk1 (InvD.frame H)) fun vq w8 Lq H hvq => ?_
   obtain ⟨rfl, rfl⟩ := hvq
   have H := H.pick [0, 1, 6, 2, 5, 4, 3] [marksI ms3, boxI b1 29 [va0_0, va0_1], mapI (K := GPoint) (V := Int) m1 (sight_num z2 yk1).2, o210 (.slice none 0 0) ([] : List GEdge), boxI b2 203 [(.map (some m1)), (.slice none 0 0)], boxI b3 164 [(pt b2)], boxI b4 205 [(vi yk1.clock), (vi yk1.at_)]] rfl (by decide)
   refine Nl (Rg (Ad hinck1 (Mv (vi ((ik1 : Int) + 1)) (Nl ?_))))
   have H := H.keep [0, 1, 2, 3, 4, 5] [marksI ms3, boxI b1 29 [va0_0, va0_1], mapI (K := GPoint) (V := Int) m1 (sight_num z2 yk1).2, o210 (.slice none 0 0) ([] : List GEdge), boxI b2 203 [(.map (some m1)), (.slice none 0 0)], boxI b3 164 [(pt b2)]] rfl (by decide)
   obtain rfl := sj hm2
   exact ⟨_, rfl, _, ms3, rfl, drop_next hdropk1, rfl, rfl, rfl, rfl, rfl, rfl, hmk, H⟩
  ·
   rintro ik1 _ f w ⟨z2, ms3, rfl, hdropk1, hf20, hf19, hf2, hf5, hf6, hf18, hmk, H⟩ hfin
   have hltk1 := drop_end hdropk1
   obtain ⟨u2, rfl⟩ := up6 hf20 hf19 hf2 hf5 hf6 hf18
   refine Sq (Rg (Ls (Nl (Sq (Cf (cb (decide_eq_false hltk1)) (Ex ?_))))))
   have hq : z2 = s1 := hfin
   subst hq
   exact xT rfl ⟨ms3, rfl, rfl, rfl, hmk, H⟩
 ·
  rintro f w ⟨ms5, hf2, hf5, hf6, hmk, H⟩
  obtain ⟨u3, rfl⟩ := up3 hf2 hf5 hf6
  refine Sq (Sq (Rg (Fa fd29_1 rfl (Ld _ sc27 (H.cell 1 rfl 1 _ rfl) (Ln underlying27 (H.arg ha0_1) ?_)))))
  obtain ⟨t1, ht1, hm⟩ := bind_some hm
  refine O.mul R R R R ht1 (Mv (vi 0) (Nl ?_))
  obtain ⟨⟨s2, s3⟩, hm3, hm⟩ := bind_some hm
  refine Va (fun f w => ∃ ms12 : List Nat, ∃ v6 : Value, f 2 = (pt b1) ∧ f 5 = (pt b3) ∧ f.marks = ms12 ∧ Inv w0 w [marksI ms12, boxI b1 29 [va0_0, va0_1], mapI (K := GPoint) (V := Int) m1 s2, o210 v6 s3, boxI b2 203 [(.map (some m1)), v6], boxI b3 164 [(pt b2)]]) ?_ ?_
  ·
   refine Bk ?_
   obtain ⟨hbdik2, hm3⟩ := chk_some hm3
   refine W.rangeN (i := 0) hm3 (fun rem ik2 s f w => ∃ z8 : (List (GPoint × Int)), ∃ z9 : (List GEdge), ∃ ms10 : List Nat, ∃ v4 : Value, (z8, z9) = s ∧ (ik2 : Int) + rem = max 0 t1 ∧ f 32 = .int .i64 (ik2 : Int) ∧ f 31 = (vi t1) ∧ f 2 = (pt b1) ∧ f 5 = (pt b3) ∧ f 6 = (.func (.func 137) #[] #[(pt b3)]) ∧ f.marks = ms10 ∧ Inv w0 w [marksI ms10, boxI b1 29 [va0_0, va0_1], mapI (K := GPoint) (V := Int) m1 z8, o210 v4 z9, boxI b2 203 [(.map (some m1)), v4], boxI b3 164 [(pt b2)]]) ?_ ?_ ?_
   ·
    exact ⟨_, _, ms5, (.slice none 0 0), rfl, rangeN_start, rfl, rfl, rfl, rfl, rfl, hmk, H⟩
   ·
    rintro k ik2 _ st f w ⟨z8, z9, ms10, v4, rfl, hdropk2, hf32, hf31, hf2, hf5, hf6, hmk, H⟩ hm4
    have hltk2 := rangeN_lt hdropk2
    obtain ⟨u4, rfl⟩ := up5 hf32 hf31 hf2 hf5 hf6
    have hinck2 := addI_lt hltk2 (inI_iff.1 hbdik2).2
    refine Sq (Rg (Ls (Nl (Sq (Ct (cb (decide_eq_true hltk2)) (Sk (Sq (Bk (Sq (Rg (Mv (vi (ik2 : Int)) (As (vi (ik2 : Int)) (Nl ?_)))))))))))))
    refine Sq (Rg (La [va0_0, va0_1] ag29 (H.cell 1 rfl) (Mv (vi (ik2 : Int)) ?_)))
    obtain ⟨⟨t2, t3, t4⟩, hy1, hm4⟩ := bind_some hm4
    refine Ca call138 (c_sight_taken _ _ (GNet.mk a0.Rates a0.Sights) (H.arg ha0_0) (H.arg ha0_1) _ hy1) ?_
    rintro _ w9 hb6 rfl
    have H := H.ext hb6
    refine Mv (.tuple #[(.agg (Flat.cells t2).toArray), (.agg (Flat.cells t3).toArray), (vi t4)]) (Xt (.agg (Flat.cells t2).toArray) (Xt (.agg (Flat.cells t3).toArray) (Xt (vi t4) (Al [(vi 0), (vi 0)] ze205 H fun b5 w10 H hb7 => Al [(vi 0), (vi 0)] ze205 H fun b6 w11 H hb8 => St 6 0 [(vi t2.clock), (vi t2.at_)] [(vi t2.clock), (vi t2.at_)] sz205 H R R (one_cons rfl (one_cons rfl one_nil)) fun w12 H => St 7 0 [(vi t3.clock), (vi t3.at_)] [(vi t3.clock), (vi t3.at_)] sz205 H R R (one_cons rfl (one_cons rfl one_nil)) fun w13 H => As (vi t4) (Nl ?_)))))
    obtain ⟨t5, ht5, hm4⟩ := bind_some hm4
    have H := H.addGone
    refine W.drawD 16 [[], [], [1], [1, 2], [1, 2, 3], [], [], [5, 6], [], [], [5, 6, 7, 8, 9], [], [], [5, 6, 7, 8, 9, 10, 11, 12], [5, 6, 7, 8, 9, 10, 11, 12, 13], [1, 2, 3, 4, 5, 6, 7, 8, 9, 10, 11, 12, 13, 14]] [[], [2, 3, 4, 15], [3, 4, 15], [4, 15], [15], [7, 10, 13, 14, 15], [7, 10, 13, 14, 15], [10, 13, 14, 15], [10, 13, 14, 15], [10, 13, 14, 15], [13, 14, 15], [13, 14, 15], [13, 14, 15], [14, 15], [15], []] (fun S f w => ∃ v7 : Value, ∃ v8 : Value, (f 2 = (pt b1) ∧ f 5 = (pt b3) ∧ f 6 = (.func (.func 137) #[] #[(pt b3)]) ∧ f 9 = (vi (ik2 : Int)) ∧ f 10 = (pt b5) ∧ f 11 = (pt b6) ∧ f 12 = (vi t4) ∧ f 31 = (vi t1) ∧ f 32 = (vi (ik2 : Int)) ∧ f.marks = ms10) ∧ Inv w0 w [marksI ms10, boxI b1 29 [va0_0, va0_1], cond (S 10) (mapI (K := GPoint) (V := Int) m1 (sight_num (sight_num z8 t2).2 t3).2) (cond (S 7) (mapI (K := GPoint) (V := Int) m1 (sight_num z8 t2).2) (mapI (K := GPoint) (V := Int) m1 z8)), cond (S 15) (o210 v8 t5) (o210 v4 z9), boxI b2 203 [(.map (some m1)), v4], boxI b3 164 [(pt b2)], boxI b5 205 [(vi t2.clock), (vi t2.at_)], boxI b6 205 [(vi t3.clock), (vi t3.at_)], cond (S 14) (o210 v7 ([(GEdge.mk (sight_num z8 t2).1 (sight_num (sight_num z8 t2).2 t3).1 t4 (ik2 : Int))] : List GEdge)) goneI] ∧ (S 0 = true → f 42 = (pt b2)) ∧ (S 1 = true → f 43 = (pt b2)) ∧ (S 2 = true → f 44 = (pt b2)) ∧ (S 3 = true → f 45 = (.pointer (some (Addr.add (Addr.mk b2 0 none) 1)))) ∧ (S 4 = true → f 46 = v4) ∧ (S 5 = true → f 47 = (.func (.func 137) #[] #[(pt b3)])) ∧ (S 6 = true → f 48 = (.agg (Flat.cells t2).toArray)) ∧ (S 7 = true → f 49 = (vi (sight_num z8 t2).1)) ∧ (S 8 = true → f 50 = (.func (.func 137) #[] #[(pt b3)])) ∧ (S 9 = true → f 51 = (.agg (Flat.cells t3).toArray)) ∧ (S 10 = true → f 52 = (vi (sight_num (sight_num z8 t2).2 t3).1)) ∧ (S 11 = true → f 53 = (vi t4)) ∧ (S 12 = true → f 54 = (vi (ik2 : Int))) ∧ (S 13 = true → f 55 = (.agg (Flat.cells (GEdge.mk (sight_num z8 t2).1 (sight_num (sight_num z8 t2).2 t3).1 t4 (ik2 : Int))).toArray)) ∧ (S 14 = true → f 56 = v7) ∧ (S 15 = true → f 57 = v8)) fol (by kernel_rfl) ?_ ?_ ?_
    ·
     exact fun d _ => ⟨.nilFunc, .nilFunc, ⟨rfl, rfl, rfl, rfl, rfl, rfl, rfl, rfl, rfl, hmk⟩, H.ext (below_drawn d), nF, nF, nF, nF, nF, nF, nF, nF, nF, nF, nF, nF, nF, nF, nF, nF⟩
    ·
     refine ⟨?_, ⟨?_, ⟨?_, ⟨?_, ⟨?_, ⟨?_, ⟨?_, ⟨?_, ⟨?_, ⟨?_, ⟨?_, ⟨?_, ⟨?_, ⟨?_, ⟨?_, ⟨?_, trivial⟩⟩⟩⟩⟩⟩⟩⟩⟩⟩⟩⟩⟩⟩⟩⟩
     ·
      rintro S f w hS - - ⟨v7, v8, k, H, q0, t⟩
      obtain ⟨u5, rfl⟩ := up1 k.2.1
      exact Ld _ sc164 (H.cell 5 rfl 0 _ rfl) (Nl ⟨v7, v8, k, H, (fun _ => rfl), t⟩)
     ·
      rintro S f w hS - ⟨e2, e3, e4, e15, -⟩ ⟨v7, v8, k, H, q0, q1, t⟩
      obtain ⟨u6, rfl⟩ := up1 k.2.1
      exact Ld _ sc164 (H.cell 5 rfl 0 _ rfl) (Nl ⟨v7, v8, k, H, q0, (fun _ => rfl), t⟩)
     ·
      rintro S f w hS ⟨e1, -⟩ ⟨e3, e4, e15, -⟩ ⟨v7, v8, k, H, q0, q1, q2, t⟩
      obtain ⟨u7, rfl⟩ := up1 (q1 e1)
      exact Nk rfl (Nl ⟨v7, v8, k, H, q0, q1, (fun _ => rfl), t⟩)
     ·
      rintro S f w hS ⟨e1, e2, -⟩ ⟨e4, e15, -⟩ ⟨v7, v8, k, H, q0, q1, q2, q3, t⟩
      obtain ⟨u8, rfl⟩ := up1 (q2 e2)
      exact Fa fd203_1 rfl (Nl ⟨v7, v8, k, H, q0, q1, q2, (fun _ => rfl), t⟩)
     ·
      rintro S f w hS ⟨e1, e2, e3, -⟩ ⟨e15, -⟩ ⟨v7, v8, k, H, q0, q1, q2, q3, q4, t⟩
      obtain ⟨u9, rfl⟩ := up1 (q3 e3)
      exact Ld _ sc201 (H.cell 4 rfl 1 _ rfl) (Nl ⟨v7, v8, k, H, q0, q1, q2, q3, (fun _ => rfl), t⟩)
     ·
      rintro S f w hS - ⟨e7, e10, e13, e14, e15, -⟩ ⟨v7, v8, k, H, q0, q1, q2, q3, q4, q5, t⟩
      obtain ⟨u10, rfl⟩ := up1 k.2.2.1
      exact Mv (.func (.func 137) #[] #[(pt b3)]) (Nl ⟨v7, v8, k, H, q0, q1, q2, q3, q4, (fun _ => rfl), t⟩)
     ·
      rintro S f w hS - ⟨e7, e10, e13, e14, e15, -⟩ ⟨v7, v8, k, H, q0, q1, q2, q3, q4, q5, q6, t⟩
      obtain ⟨u11, rfl⟩ := up1 k.2.2.2.2.1
      exact La [(vi t2.clock), (vi t2.at_)] ag205 (H.cell 6 rfl) (Nl ⟨v7, v8, k, H, q0, q1, q2, q3, q4, q5, (fun _ => rfl), t⟩)
     ·
      rintro S f w hS ⟨e5, e6, -⟩ ⟨e10, e13, e14, e15, -⟩ ⟨v7, v8, k, H, q0, q1, q2, q3, q4, q5, q6, q7, t⟩
      obtain ⟨u12, rfl⟩ := up2 (q5 e5) (q6 e6)
      have H := (((H.cF 2 e10 rfl).cF 2 hS rfl).cF 3 e15 rfl).cF 8 e14 rfl
      have H := H.pick [0, 1, 3, 6, 7, 8, 5, 4, 2] ([marksI ms10, boxI b1 29 [va0_0, va0_1], o210 v4 z9, boxI b5 205 [(vi t2.clock), (vi t2.at_)], boxI b6 205 [(vi t3.clock), (vi t3.at_)], goneI] ++ (numItems b3 b2 m1 v4 z8)) rfl (by decide)
      refine O.callFV [marksI ms10, boxI b1 29 [va0_0, va0_1], o210 v4 z9, boxI b5 205 [(vi t2.clock), (vi t2.at_)], boxI b6 205 [(vi t3.clock), (vi t3.at_)], goneI] (numItems b3 b2 m1 v4 z8) H call137 R R R R (c_num b3 b2 m1 v4 z8 t2 (InvD.frame H)) fun vq w14 Lq H hvq => ?_
      obtain ⟨rfl, rfl⟩ := hvq
      have H := H.pick [0, 1, 8, 2, 7, 6, 3, 4, 5] [marksI ms10, boxI b1 29 [va0_0, va0_1], mapI (K := GPoint) (V := Int) m1 (sight_num z8 t2).2, o210 v4 z9, boxI b2 203 [(.map (some m1)), v4], boxI b3 164 [(pt b2)], boxI b5 205 [(vi t2.clock), (vi t2.at_)], boxI b6 205 [(vi t3.clock), (vi t3.at_)], goneI] rfl (by decide)
      exact Nl ⟨v7, v8, k, (((H.rF 2 e10 rfl).rF 3 e15 rfl).rF 8 e14 rfl), q0, q1, q2, q3, q4, q5, q6, (fun _ => rfl), t⟩
     ·
      rintro S f w hS - ⟨e10, e13, e14, e15, -⟩ ⟨v7, v8, k, H, q0, q1, q2, q3, q4, q5, q6, q7, q8, t⟩
      obtain ⟨u13, rfl⟩ := up1 k.2.2.1
      exact Mv (.func (.func 137) #[] #[(pt b3)]) (Nl ⟨v7, v8, k, H, q0, q1, q2, q3, q4, q5, q6, q7, (fun _ => rfl), t⟩)
     ·
      rintro S f w hS - ⟨e10, e13, e14, e15, -⟩ ⟨v7, v8, k, H, q0, q1, q2, q3, q4, q5, q6, q7, q8, q9, t⟩
      obtain ⟨u14, rfl⟩ := up1 k.2.2.2.2.2.1
      exact La [(vi t3.clock), (vi t3.at_)] ag205 (H.cell 7 rfl) (Nl ⟨v7, v8, k, H, q0, q1, q2, q3, q4, q5, q6, q7, q8, (fun _ => rfl), t⟩)
     ·
      rintro S f w hS ⟨e5, e6, e7, e8, e9, -⟩ ⟨e13, e14, e15, -⟩ ⟨v7, v8, k, H, q0, q1, q2, q3, q4, q5, q6, q7, q8, q9, q10, t⟩
      obtain ⟨u15, rfl⟩ := up2 (q8 e8) (q9 e9)
      have H := (((H.cF 2 hS rfl).cT 2 e7 rfl).cF 3 e15 rfl).cF 8 e14 rfl
      have H := H.pick [0, 1, 3, 6, 7, 8, 5, 4, 2] ([marksI ms10, boxI b1 29 [va0_0, va0_1], o210 v4 z9, boxI b5 205 [(vi t2.clock), (vi t2.at_)], boxI b6 205 [(vi t3.clock), (vi t3.at_)], goneI] ++ (numItems b3 b2 m1 v4 (sight_num z8 t2).2)) rfl (by decide)
      refine O.callFV [marksI ms10, boxI b1 29 [va0_0, va0_1], o210 v4 z9, boxI b5 205 [(vi t2.clock), (vi t2.at_)], boxI b6 205 [(vi t3.clock), (vi t3.at_)], goneI] (numItems b3 b2 m1 v4 (sight_num z8 t2).2) H call137 R R R R (c_num b3 b2 m1 v4 (sight_num z8 t2).2 t3 (InvD.frame H)) fun vq w15 Lq H hvq => ?_
      obtain ⟨rfl, rfl⟩ := hvq
      have H := H.pick [0, 1, 8, 2, 7, 6, 3, 4, 5] [marksI ms10, boxI b1 29 [va0_0, va0_1], mapI (K := GPoint) (V := Int) m1 (sight_num (sight_num z8 t2).2 t3).2, o210 v4 z9, boxI b2 203 [(.map (some m1)), v4], boxI b3 164 [(pt b2)], boxI b5 205 [(vi t2.clock), (vi t2.at_)], boxI b6 205 [(vi t3.clock), (vi t3.at_)], goneI] rfl (by decide)
      exact Nl ⟨v7, v8, k, ((H.rF 3 e15 rfl).rF 8 e14 rfl), q0, q1, q2, q3, q4, q5, q6, q7, q8, q9, (fun _ => rfl), t⟩
     ·
      rintro S f w hS - ⟨e13, e14, e15, -⟩ ⟨v7, v8, k, H, q0, q1, q2, q3, q4, q5, q6, q7, q8, q9, q10, q11, t⟩
      obtain ⟨u16, rfl⟩ := up1 k.2.2.2.2.2.2.1
      exact Mv (vi t4) (Nl ⟨v7, v8, k, H, q0, q1, q2, q3, q4, q5, q6, q7, q8, q9, q10, (fun _ => rfl), t⟩)
     ·
      rintro S f w hS - ⟨e13, e14, e15, -⟩ ⟨v7, v8, k, H, q0, q1, q2, q3, q4, q5, q6, q7, q8, q9, q10, q11, q12, t⟩
      obtain ⟨u17, rfl⟩ := up1 k.2.2.2.1
      exact Mv (vi (ik2 : Int)) (Nl ⟨v7, v8, k, H, q0, q1, q2, q3, q4, q5, q6, q7, q8, q9, q10, q11, (fun _ => rfl), t⟩)
     ·
      rintro S f w hS ⟨e5, e6, e7, e8, e9, e10, e11, e12, -⟩ ⟨e14, e15, -⟩ ⟨v7, v8, k, H, q0, q1, q2, q3, q4, q5, q6, q7, q8, q9, q10, q11, q12, q13, t⟩
      obtain ⟨u18, rfl⟩ := up4 (q7 e7) (q10 e10) (q11 e11) (q12 e12)
      exact Bd (v := (.agg (Flat.cells (GEdge.mk (sight_num z8 t2).1 (sight_num (sight_num z8 t2).2 t3).1 t4 (ik2 : Int))).toArray)) (fun w => bd210_0_1_2_3 _ _ _ _ w) rfl (Nl ⟨v7, v8, k, H, q0, q1, q2, q3, q4, q5, q6, q7, q8, q9, q10, q11, q12, (fun _ => rfl), t⟩)
     ·
      rintro S f w hS ⟨e5, e6, e7, e8, e9, e10, e11, e12, e13, -⟩ ⟨e15, -⟩ ⟨_, v8, k, H, q0, q1, q2, q3, q4, q5, q6, q7, q8, q9, q10, q11, q12, q13, q14, q15⟩
      obtain ⟨u19, rfl⟩ := up1 (q13 e13)
      have H := H.cF 8 hS rfl
      refine Bs (α := GEdge) [(.agg (Flat.cells (GEdge.mk (sight_num z8 t2).1 (sight_num (sight_num z8 t2).2 t3).1 t4 (ik2 : Int))).toArray)] [(GEdge.mk (sight_num z8 t2).1 (sight_num (sight_num z8 t2).2 t3).1 t4 (ik2 : Int))] underlying201 el210 H fun v7 w16 H hb9 => ?_
      have H := H.pick [0, 1, 2, 3, 4, 5, 6, 7, 9] [marksI ms10, boxI b1 29 [va0_0, va0_1], cond (S 10) (mapI (K := GPoint) (V := Int) m1 (sight_num (sight_num z8 t2).2 t3).2) (cond (S 7) (mapI (K := GPoint) (V := Int) m1 (sight_num z8 t2).2) (mapI (K := GPoint) (V := Int) m1 z8)), cond (S 15) (o210 v8 t5) (o210 v4 z9), boxI b2 203 [(.map (some m1)), v4], boxI b3 164 [(pt b2)], boxI b5 205 [(vi t2.clock), (vi t2.at_)], boxI b6 205 [(vi t3.clock), (vi t3.at_)], o210 v7 ([(GEdge.mk (sight_num z8 t2).1 (sight_num (sight_num z8 t2).2 t3).1 t4 (ik2 : Int))] : List GEdge)] rfl (by decide)
      exact Nl ⟨v7, v8, k, H, q0, q1, q2, q3, q4, q5, q6, q7, q8, q9, q10, q11, q12, q13, (fun _ => rfl), q15⟩
     ·
      rintro S f w hS ⟨e1, e2, e3, e4, e5, e6, e7, e8, e9, e10, e11, e12, e13, e14, -⟩ - ⟨v7, _, k, H, q0, q1, q2, q3, q4, q5, q6, q7, q8, q9, q10, q11, q12, q13, q14, q15⟩
      obtain ⟨u20, rfl⟩ := up2 (q4 e4) (q14 e14)
      have H := (H.cF 3 hS rfl).cT 8 e14 rfl
      exact Ap 3 underlying201 el210 H rfl (H.own 8 rfl) ht5 fun v8 w17 H => Nl ⟨v7, v8, k, (H.rT 8 e14 rfl), q0, q1, q2, q3, q4, q5, q6, q7, q8, q9, q10, q11, q12, q13, q14, (fun _ => rfl)⟩
    ·
     rintro S f w ⟨e0, e1, e2, e3, e4, e5, e6, e7, e8, e9, e10, e11, e12, e13, e14, e15, -⟩ ⟨v7, v8, k, H, q0, q1, q2, q3, q4, q5, q6, q7, q8, q9, q10, q11, q12, q13, q14, q15⟩
     have H : Inv w0 w [marksI ms10, boxI b1 29 [va0_0, va0_1], mapI (K := GPoint) (V := Int) m1 (sight_num (sight_num z8 t2).2 t3).2, o210 v8 t5, boxI b2 203 [(.map (some m1)), v4], boxI b3 164 [(pt b2)], boxI b5 205 [(vi t2.clock), (vi t2.at_)], boxI b6 205 [(vi t3.clock), (vi t3.at_)], o210 v7 ([(GEdge.mk (sight_num z8 t2).1 (sight_num (sight_num z8 t2).2 t3).1 t4 (ik2 : Int))] : List GEdge)] := (((H.cT 2 e10 rfl).cT 3 e15 rfl).cT 8 e14 rfl)
     have hmk := k.2.2.2.2.2.2.2.2.2
     obtain ⟨u21, rfl⟩ := up7 k.1 k.2.1 k.2.2.1 k.2.2.2.2.2.2.2.1 k.2.2.2.2.2.2.2.2.1 (q0 e0) (q15 e15)
     refine Nk rfl (Fa fd203_1 rfl (St 4 1 [v8] [(.map (some m1)), v8] sz201 H R R R R R (SliceR.cells1 (H.own 3 rfl)) ⟨⟨rfl, rfl⟩, rfl⟩ (one_cons (SliceR.one (H.own 3 rfl)) one_nil) fun w18 H => Nl (Rg (Ad hinck2 (Mv (vi ((ik2 : Int) + 1)) (Nl ?_))))))
     have H := H.keep [0, 1, 2, 3, 4, 5] [marksI ms10, boxI b1 29 [va0_0, va0_1], mapI (K := GPoint) (V := Int) m1 (sight_num (sight_num z8 t2).2 t3).2, o210 v8 t5, boxI b2 203 [(.map (some m1)), v8], boxI b3 164 [(pt b2)]] rfl (by decide)
     obtain rfl := sj hm4
     exact ⟨_, rfl, _, _, ms10, v8, rfl, rangeN_next hdropk2, rfl, rfl, rfl, rfl, rfl, hmk, H⟩
   ·
    rintro ik2 _ f w ⟨z8, z9, ms10, v4, rfl, hdropk2, hf32, hf31, hf2, hf5, hf6, hmk, H⟩ hfin
    have hltk2 := rangeN_end hdropk2
    obtain ⟨u22, rfl⟩ := up5 hf32 hf31 hf2 hf5 hf6
    refine Sq (Rg (Ls (Nl (Sq (Cf (cb (decide_eq_false hltk2)) (Ex ?_))))))
    have hq : (z8, z9) = (s2, s3) := hfin
    obtain ⟨he0, hq0⟩ := Prod.mk.inj hq; clear hq; subst he0
    subst hq0
    exact xT rfl ⟨ms10, v4, rfl, rfl, hmk, H⟩
  ·
   rintro f w ⟨ms12, v6, hf2, hf5, hmk, H⟩
   obtain ⟨u23, rfl⟩ := up2 hf2 hf5
   refine Sq (Sq ?_)
   refine W.drawN 5 (fun f => f 5 = (pt b3) ∧ f 61 = (.agg #[va0_0, va0_1]) ∧ f 65 = (.map (some m1))) fol (by kernel_rfl) ?_ ?_
   ·
    exact Pl (fun _ w8 _ hx => by have H := H.ext hx; exact La [va0_0, va0_1] ag29 (H.cell 1 rfl) (Nl ⟨rfl, hx⟩)) (Pl (fun _ w8 _ hx => by have H := H.ext hx; exact Ld _ sc164 (H.cell 5 rfl 0 _ rfl) (Nl ⟨rfl, hx⟩)) (Pl (fun _ w8 _ hx => Nk rfl (Nl ⟨rfl, hx⟩)) (Pl (fun _ w8 _ hx => Fa fd203_0 rfl (Nl ⟨rfl, hx⟩)) (Pl (fun _ w8 _ hx => by have H := H.ext hx; exact Ld _ sc200 (H.cell 4 rfl 0 _ rfl) (Nl ⟨rfl, hx⟩)) (PL.nil ⟨rfl, rfl, rfl⟩)))))
   ·
    rintro f w ⟨hf5, hf61, hf65⟩ hmd hx
    have H := H.ext hx
    have hmk := hmd.trans hmk
    obtain ⟨u24, rfl⟩ := up3 hf5 hf61 hf65
    refine Ca call139 (c_sight_carries _ _ (GNet.mk a0.Rates a0.Sights) (H.arg ha0_0) (H.arg ha0_1) _ _ (H.map 2 rfl)) ?_
    rintro _ w19 hb10 ⟨b7, b8, rfl, hM1⟩
    have H := H.addAll hb10 hM1
    refine Nl ?_
    obtain ⟨xs1, hxs1, hm⟩ := bind_some hm
    obtain ⟨t6, ht6, hm⟩ := bind_some hm
    have H := H.pick [0, 5, 4, 2, 3, 6, 7] [marksI ms12, boxI b3 164 [(pt b2)], boxI b2 203 [(.map (some m1)), v6], mapI (K := GPoint) (V := Int) m1 s2, o210 v6 s3, boxI b7 200 [(.map (some m1))], boxI b8 29 [va0_0, va0_1]] rfl (by decide)
    obtain ⟨es, clock, e1, e2, e3, e4', e5⟩ := H.mapOk 3 rfl
    have e4 : (es.toList.map (·.born)).Nodup := e4'.imp (fun h => Nat.ne_of_lt h)
    have e6 : es.toList.length = (s2).length := by simpa using congrArg List.length e2
    have H := H.turn (it' := mapX m1 es clock) 3 rfl (fun b h => h) (fun _ => e1)
    refine Va (fun f w => ∃ (D : List Nat) (vs : Value) (ys : List GEdge), ys.Perm xs1 ∧ f 5 = .pointer (some ⟨b3, 0, none⟩) ∧ f.marks = D ∧ Inv w0 w (marksI D :: [boxI b3 164 [.pointer (some ⟨b2, 0, none⟩)], boxI b2 203 [.map (some m1), vs], mapI m1 s2, o210 vs (s3 ++ ys)])) ?_ ?_
    ·
     refine Bk ?_
     refine W.rangeFunc (α := GEdge) (rep := repF) (S := fun ys => ys.Perm xs1) (A := fun pre L' => ∃ vs : Value, L' = marksI ms12 :: [boxI b3 164 [.pointer (some ⟨b2, 0, none⟩)], boxI b2 203 [.map (some m1), vs], mapX m1 es clock, o210 vs (s3 ++ pre), boxI b7 200 [.map (some m1)], boxI b8 29 [va0_0, va0_1]]) (Ax := fun _ _ => False) rfl call182 rfl ?_ ?_ H ?_ ?_ ?_ ?_ ?_
     · rintro w x vs rfl; rfl
     ·
      intro Kp W _ hK
      obtain ⟨hx0, hxs0⟩ := row_some hxs1
      rw [hxs0]
      refine it_carries ⟨b7, 0, none⟩ ⟨b8, 0, none⟩ m1 es clock s2 a0 va0_0 va0_1 _ hx0 e2 e4 e5 e6 fun w hw => ?_
      obtain ⟨pre, i0, i1, L', ⟨vs, rfl⟩, H⟩ := hK w hw
      exact ⟨H.cell 7 rfl, (H.items (mapX m1 es clock) (List.mem_of_getElem? (i := 5) rfl)).1, H.cell 8 rfl, H.arg ha0_0, H.arg ha0_1⟩
     · exact ⟨v6, by rw [List.append_nil]; rfl⟩
     ·
      rintro l rs lp lp2 pre x L' w vs ⟨v0, rfl⟩ ⟨rest, hrest⟩ rfl H
      change W _ _ _ _ _ _ _ (upd _ 67 (Flat.val x)) w
      have hxl : (s3 ++ pre).length + 1 ≤ 1099511627776 := by
       have h1 := (appI_some ht6).1
       have h2 := hrest.length_eq
       rw [List.length_append, List.length_cons] at h2
       rw [List.length_append]; omega
      obtain ⟨xs1n, hxs1n⟩ : ∃ z, appI (s3 ++ pre) [x] = some z := ⟨_, if_pos hxl⟩
      refine Rg (Al [.int .i64 0, .int .i64 0, .int .i64 0, .int .i64 0] ze210 H fun b13 w1 H hb13 => St 9 0 (Flat.cells x) (Flat.cells x) sz210 H R R (one_cons rfl (one_cons rfl (one_cons rfl (one_cons rfl one_nil)))) fun w2 H => Nl ?_)
      refine ⟨_, H, fun w hsl H => ?_⟩
      have hmB : ((appI (s3 ++ pre) [x]).bind fun z => some z) = some xs1n := by rw [hxs1n]; rfl
      refine Bk ?_
      obtain ⟨t7, ht7, hmB⟩ := bind_some hmB
      have H := H.addGone
      refine W.drawD 8 [[], [], [1], [1, 2], [1, 2, 3], [], [5], [1, 2, 3, 4, 5, 6]] [[], [2, 3, 4, 7], [3, 4, 7], [4, 7], [7], [6, 7], [7], []] (fun S f w => ∃ v9 : Value, ∃ v10 : Value, (f 5 = (pt b3) ∧ f 13 = (pt b13)) ∧ Inv w0 w [rs, lp2, marksI ms12, boxI b3 164 [(pt b2)], boxI b2 203 [(.map (some m1)), v0], mapX m1 es clock, cond (S 7) (o210 v10 t7) (o210 v0 (s3 ++ pre)), boxI b7 200 [(.map (some m1))], boxI b8 29 [va0_0, va0_1], boxI b13 210 [(vi x.from_), (vi x.to), (vi x.cost), (vi x.number)], cond (S 6) (o210 v9 ([x] : List GEdge)) goneI] ∧ (S 0 = true → f 68 = (pt b2)) ∧ (S 1 = true → f 69 = (pt b2)) ∧ (S 2 = true → f 70 = (pt b2)) ∧ (S 3 = true → f 71 = (.pointer (some (Addr.add (Addr.mk b2 0 none) 1)))) ∧ (S 4 = true → f 72 = v0) ∧ (S 5 = true → f 73 = (.agg (Flat.cells x).toArray)) ∧ (S 6 = true → f 74 = v9) ∧ (S 7 = true → f 75 = v10)) fol (by kernel_rfl) ?_ ?_ ?_
      ·
       exact fun d _ => ⟨.nilFunc, .nilFunc, ⟨rfl, rfl⟩, H.ext (below_drawn d), nF, nF, nF, nF, nF, nF, nF, nF⟩
      ·
       refine ⟨?_, ⟨?_, ⟨?_, ⟨?_, ⟨?_, ⟨?_, ⟨?_, ⟨?_, trivial⟩⟩⟩⟩⟩⟩⟩⟩
       ·
        rintro S f w hS - - ⟨v9, v10, k, H, q0, t⟩
        obtain ⟨u26, rfl⟩ := up1 k.1
        exact Ld _ sc164 (H.cell 3 rfl 0 _ rfl) (Nl ⟨v9, v10, k, H, (fun _ => rfl), t⟩)
       ·
        rintro S f w hS - ⟨e2, e3, e4, e7, -⟩ ⟨v9, v10, k, H, q0, q1, t⟩
        obtain ⟨u27, rfl⟩ := up1 k.1
        exact Ld _ sc164 (H.cell 3 rfl 0 _ rfl) (Nl ⟨v9, v10, k, H, q0, (fun _ => rfl), t⟩)
       ·
        rintro S f w hS ⟨e1, -⟩ ⟨e3, e4, e7, -⟩ ⟨v9, v10, k, H, q0, q1, q2, t⟩
        obtain ⟨u28, rfl⟩ := up1 (q1 e1)
        exact Nk rfl (Nl ⟨v9, v10, k, H, q0, q1, (fun _ => rfl), t⟩)
       ·
        rintro S f w hS ⟨e1, e2, -⟩ ⟨e4, e7, -⟩ ⟨v9, v10, k, H, q0, q1, q2, q3, t⟩
        obtain ⟨u29, rfl⟩ := up1 (q2 e2)
        exact Fa fd203_1 rfl (Nl ⟨v9, v10, k, H, q0, q1, q2, (fun _ => rfl), t⟩)
       ·
        rintro S f w hS ⟨e1, e2, e3, -⟩ ⟨e7, -⟩ ⟨v9, v10, k, H, q0, q1, q2, q3, q4, t⟩
        obtain ⟨u30, rfl⟩ := up1 (q3 e3)
        exact Ld _ sc201 (H.cell 4 rfl 1 _ rfl) (Nl ⟨v9, v10, k, H, q0, q1, q2, q3, (fun _ => rfl), t⟩)
       ·
        rintro S f w hS - ⟨e6, e7, -⟩ ⟨v9, v10, k, H, q0, q1, q2, q3, q4, q5, t⟩
        obtain ⟨u31, rfl⟩ := up1 k.2
        exact La [(vi x.from_), (vi x.to), (vi x.cost), (vi x.number)] ag210 (H.cell 9 rfl) (Nl ⟨v9, v10, k, H, q0, q1, q2, q3, q4, (fun _ => rfl), t⟩)
       ·
        rintro S f w hS ⟨e5, -⟩ ⟨e7, -⟩ ⟨_, v10, k, H, q0, q1, q2, q3, q4, q5, q6, q7⟩
        obtain ⟨u32, rfl⟩ := up1 (q5 e5)
        have H := H.cF 10 hS rfl
        refine Bs (α := GEdge) [(.agg (Flat.cells x).toArray)] [x] underlying201 el210 H fun v9 w20 H hb11 => ?_
        have H := H.pick [0, 1, 2, 3, 4, 5, 6, 7, 8, 9, 11] [rs, lp2, marksI ms12, boxI b3 164 [(pt b2)], boxI b2 203 [(.map (some m1)), v0], mapX m1 es clock, cond (S 7) (o210 v10 t7) (o210 v0 (s3 ++ pre)), boxI b7 200 [(.map (some m1))], boxI b8 29 [va0_0, va0_1], boxI b13 210 [(vi x.from_), (vi x.to), (vi x.cost), (vi x.number)], o210 v9 ([x] : List GEdge)] rfl (by decide)
        exact Nl ⟨v9, v10, k, H, q0, q1, q2, q3, q4, q5, (fun _ => rfl), q7⟩
       ·
        rintro S f w hS ⟨e1, e2, e3, e4, e5, e6, -⟩ - ⟨v9, _, k, H, q0, q1, q2, q3, q4, q5, q6, q7⟩
        obtain ⟨u33, rfl⟩ := up2 (q4 e4) (q6 e6)
        have H := (H.cF 6 hS rfl).cT 10 e6 rfl
        exact Ap 6 underlying201 el210 H rfl (H.own 10 rfl) ht7 fun v10 w21 H => Nl ⟨v9, v10, k, (H.rT 10 e6 rfl), q0, q1, q2, q3, q4, q5, q6, (fun _ => rfl)⟩
      ·
       rintro S f w ⟨e0, e1, e2, e3, e4, e5, e6, e7, -⟩ ⟨v9, v10, k, H, q0, q1, q2, q3, q4, q5, q6, q7⟩
       have H : Inv w0 w [rs, lp2, marksI ms12, boxI b3 164 [(pt b2)], boxI b2 203 [(.map (some m1)), v0], mapX m1 es clock, o210 v10 t7, boxI b7 200 [(.map (some m1))], boxI b8 29 [va0_0, va0_1], boxI b13 210 [(vi x.from_), (vi x.to), (vi x.cost), (vi x.number)], o210 v9 ([x] : List GEdge)] := ((H.cT 6 e7 rfl).cT 10 e6 rfl)
       obtain ⟨u34, rfl⟩ := up2 (q0 e0) (q7 e7)
       refine Nk rfl (Fa fd203_1 rfl (St 4 1 [v10] [(.map (some m1)), v10] sz201 H R R R R R (SliceR.cells1 (H.own 6 rfl)) ⟨⟨rfl, rfl⟩, rfl⟩ (one_cons (SliceR.one (H.own 6 rfl)) one_nil) fun w22 H => Nl ?_))
       obtain rfl := sj hmB
       have H := H.keep [0, 1, 2, 3, 4, 5, 6, 7, 8] [rs, lp2, marksI ms12, boxI b3 164 [(pt b2)], boxI b2 203 [(.map (some m1)), v10], mapX m1 es clock, o210 v10 t7, boxI b7 200 [(.map (some m1))], boxI b8 29 [va0_0, va0_1]] rfl (by decide)
       have hz := (appI_some ht7).2
       refine ⟨_, ⟨v10, ?_⟩, H⟩
       rw [← hz, List.append_assoc]
     ·
      rintro D ys L' w hys ⟨vs, rfl⟩ H
      have H := H.joinMark
      have hw := (H.items (mapX m1 es clock) (List.mem_of_getElem? (i := 3) rfl)).1
      have H := H.turn (it' := mapI m1 s2) 3 rfl (fun b h => h) (fun hw => (⟨es, clock, hw, e2, e3, e4', e5⟩ : MapOk _ m1 s2))
      exact ⟨D :: ms12, vs, ys, hys, rfl, congrArg (D :: ·) hmk, H.keep [0, 1, 2, 3, 4] _ rfl (by decide)⟩
     · rintro _ _ _ _ h; exact h.elim
     · rintro _ _ _ h; exact h.elim
    ·
     rintro f w ⟨D, vs, ys, hys, hf5, hmk, H⟩
     obtain ⟨u0, rfl⟩ := up1 hf5
     refine Sq (Rg (Ld _ sc164 (H.cell 1 rfl 0 _ rfl) (As (pt b2) (Nl (Rt (endsM_mk H hmk fun w H _ => ?_))))))
     have hq : (s2, t6) = (r0, r1) := sj hm
     obtain ⟨he0, hq0⟩ := Prod.mk.inj hq
     subst hq0; subst he0
     have hp : t6 = _ := (appI_some ht6).2.symm
     exact ends1 results105 rfl ⟨_, rfl, H.base, ⟨b2, m1, vs, _, rfl, by rw [hp]; exact hys.append_left _, H.keep [2, 3, 4] _ rfl (by decide)⟩⟩

theorem c_slices_Clone_step {w0 : World} (va0 : Value) (a0 : (List GEdge)) (ha0 : SliceR w0 va0 a0) {r0 : (List GEdge)} (hm : slices_Clone_step a0 = some r0) :
  Calls prog 184 #[va0] w0 (Ret w0 fun w v => OwnR w0 w v 210 r0) := by
 unfold slices_Clone_step at hm
 refine cW func184 ntmps184 ?_
 have H := Inv.start (w := w0)
 refine Sq (Rg ?_)
 have H := H.addNil (α := GEdge) (E := 210)
 refine As (.slice none 0 0) (Nl (Sq (Sq (Rg (Mv va0 ?_)))))
 rcases ha0.nil_or with ⟨rfl, rfl⟩ | ⟨ad, cap, rfl⟩
 ·
  replace hm : (some ([] : List GEdge)) = some r0 := by simpa [appI] using hm
  refine En underlying201 (WL.reset (i := 4) (v := .bool true) rfl (Nl (Ct rfl (Sq (Rg ?_)))))
  have H := H.addNil (α := GEdge) (E := 210)
  refine As (.slice none 0 0) (Nl (Rt ?_))
  obtain rfl := sj hm
  exact ends1 results184 rfl ⟨_, rfl, H.base, H.ownR 1 rfl⟩
 ·
  refine En underlying201 (WL.reset (i := 4) (v := .bool false) rfl (Nl (Cf rfl (Sk (Sq (Rg (O.buildEmpty (α := GEdge) underlying201 el210 H R R fun b1 w1 H hb1 => Mv (.slice (some ad) a0.length cap) ?_)))))))
  obtain ⟨t1, ht1, hm⟩ := bind_some hm
  refine Ap 1 underlying201 el210 H rfl (H.arg ha0) ht1 fun v1 w2 H => As v1 (Nl (Rt ?_))
  obtain rfl := sj hm
  exact ends1 results184 rfl ⟨_, rfl, H.base, H.ownR 1 rfl⟩

theorem c_cmp_isNaN_int {w0 : World} (a0 : Int) {r0 : Bool} (hm : cmp_isNaN_int a0 = some r0) :
  Calls prog 232 #[(vi a0)] w0 (Ret w0 fun _ v => v = (.bool r0)) := by
 unfold cmp_isNaN_int at hm
 refine cW func232 ntmps232 ?_
 have H := Inv.start (w := w0)
 refine Sq (Rg (As (.bool false) (Nl (Sq (Rg (Mv (vi a0) (Mv (vi a0) (Ne_ (As (.bool (a0 != a0)) (Nl (Rt ?_)))))))))))
 obtain rfl := sj hm
 exact ends1 results232 rfl ⟨_, rfl, H.base, rfl⟩

set_option maxRecDepth 20000 in
theorem c_cmp_Compare_int {w0 : World} (a0 : Int) (a1 : Int) {r0 : Int} (hm : cmp_Compare_int a0 a1 = some r0) :
  Calls prog 217 #[(vi a0), (vi a1)] w0 (Ret w0 fun _ v => v = (vi r0)) := by
 unfold cmp_Compare_int at hm
 refine cW func217 ntmps217 ?_
 have H := Inv.start (w := w0)
 refine Sq (Rg (As (vi 0) (Nl (Sq (Rg (Mv (vi a0) ?_))))))
 obtain ⟨t1, hy1, hm⟩ := bind_some hm
 refine Ca call232 (c_cmp_isNaN_int _ hy1) ?_
 rintro _ w1 hb1 rfl
 have H := H.ext hb1
 refine As (.bool t1) (Nl (Sq (Rg (Mv (vi a1) ?_))))
 obtain ⟨t2, hy2, hm⟩ := bind_some hm
 refine Ca call232 (c_cmp_isNaN_int _ hy2) ?_
 rintro _ w2 hb2 rfl
 have H := H.ext hb2
 refine As (.bool t2) (Nl (Sq (Sq (Rg (Mv (.bool t1) (Nl ?_))))))
 rcases ite_some hm with ⟨hc1, hm⟩ | ⟨hc1, hm⟩
 ·
  refine Ct (cb hc1) (Sq (Sq (Rg (Mv (.bool t2) (Nl ?_)))))
  rcases ite_some hm with ⟨hc2, hm⟩ | ⟨hc2, hm⟩
  ·
   refine Ct (cb hc2) (Sq (Rg (As (vi 0) (Nl (Rt ?_)))))
   obtain rfl := sj hm
   exact ends1 results217 rfl ⟨_, rfl, H.base, rfl⟩
  ·
   refine Cf (cb hc2) (Sk (Sq (Rg (As (vi (-1)) (Nl (Rt ?_))))))
   obtain rfl := sj hm
   exact ends1 results217 rfl ⟨_, rfl, H.base, rfl⟩
 ·
  refine Cf (cb hc1) (Sk (Sq (Sq (Rg (Mv (.bool t2) (Nl ?_))))))
  rcases ite_some hm with ⟨hc3, hm⟩ | ⟨hc3, hm⟩
  ·
   refine Ct (cb hc3) (Sq (Rg (As (vi 1) (Nl (Rt ?_)))))
   obtain rfl := sj hm
   exact ends1 results217 rfl ⟨_, rfl, H.base, rfl⟩
  ·
   refine Cf (cb hc3) (Sk (Sq (Sq (Rg (Mv (vi a0) (Mv (vi a1) (Ls (Nl ?_))))))))
   rcases ite_some hm with ⟨hc4, hm⟩ | ⟨hc4, hm⟩
   ·
    refine Ct (cb hc4) (Sq (Rg (As (vi (-1)) (Nl (Rt ?_)))))
    obtain rfl := sj hm
    exact ends1 results217 rfl ⟨_, rfl, H.base, rfl⟩
   ·
    refine Cf (cb hc4) (Sk (Sq (Sq (Rg (Mv (vi a0) (Mv (vi a1) (Gt_ (Nl ?_))))))))
    rcases ite_some hm with ⟨hc5, hm⟩ | ⟨hc5, hm⟩
    ·
     refine Ct (cb hc5) (Sq (Rg (As (vi 1) (Nl (Rt ?_)))))
     obtain rfl := sj hm
     exact ends1 results217 rfl ⟨_, rfl, H.base, rfl⟩
    ·
     refine Cf (cb hc5) (Sk (Sq (Rg (As (vi 0) (Nl (Rt ?_))))))
     obtain rfl := sj hm
     exact ends1 results217 rfl ⟨_, rfl, H.base, rfl⟩

set_option maxRecDepth 20000 in
theorem c_slices_Compare_int {w0 : World} (va0 : Value) (a0 : (List Int)) (ha0 : SliceR w0 va0 a0) (va1 : Value) (a1 : (List Int)) (ha1 : SliceR w0 va1 a1) {r0 : Int} (hm : slices_Compare_int a0 a1 = some r0) :
  Calls prog 187 #[va0, va1] w0 (Ret w0 fun _ v => v = (vi r0)) := by
 unfold slices_Compare_int at hm
 refine cW func187 ntmps187 ?_
 have H := Inv.start (w := w0)
 refine Sq (Rg (As (vi 0) (Nl (Sq (Sq (Rg (Mv va0 (Ln underlying26 (H.arg ha0) (Mv (vi 0) (Nl ?_))))))))))
 obtain ⟨o1, hm1, hm⟩ := bind_some hm
 refine Va (fun f w => o1 = .next () ∧ f 0 = va0 ∧ f 1 = va1 ∧ Inv w0 w []) ?_ ?_
 ·
  refine Bk ?_
  have hbdik1 := (H.arg ha0).len_le
  refine W.rangeN (i := 0) hm1 (fun rem ik1 s f w => () = s ∧ (ik1 : Int) + rem = max 0 ((a0.length : Nat) : Int) ∧ f 11 = .int .i64 (ik1 : Int) ∧ f 10 = (vi ((a0.length : Nat) : Int)) ∧ f 0 = va0 ∧ f 1 = va1 ∧ f 9 = va0 ∧ Inv w0 w []) ?_ ?_ ?_
  ·
   exact ⟨rfl, rangeN_start, rfl, rfl, rfl, rfl, rfl, H⟩
  ·
   rintro k ik1 _ st f w ⟨rfl, hdropk1, hf11, hf10, hf0, hf1, hf9, H⟩ hm2
   have hltk1 := rangeN_lt hdropk1
   obtain ⟨u1, rfl⟩ := up5 hf11 hf10 hf0 hf1 hf9
   have hinck1 := addI_lt hltk1 hbdik1
   refine Sq (Rg (Ls (Nl (Sq (Ct (cb (decide_eq_true hltk1)) (Sk (Sq (Bk (Sq (Rg (Mv (vi (ik1 : Int)) ?_)))))))))))
   obtain ⟨x1, hx1, hm2⟩ := bind_some hm2
   obtain ⟨p1, hp1, hrp1⟩ := fix_indexAddr underlying26 sz3 ha0 hx1
   refine hrp1 R R R R (Ld _ sc3 ((hp1.mono H.base).flat 0 _ rfl) (As (vi (ik1 : Int)) (As (vi x1) (Nl (Sq (Sq (Rg (Mv (vi (ik1 : Int)) (Mv va1 (Ln underlying26 (H.arg ha1) (Ge_ (Nl ?_))))))))))))
   rcases ite_some hm2 with ⟨hc1, hm2⟩ | ⟨hc1, hm2⟩
   ·
    refine Ct (cb hc1) (Sq (Rg (As (vi 1) (Nl (Rt ?_)))))
    obtain rfl := sj hm2
    refine ⟨_, rfl, ?_⟩
    rintro rfl
    obtain rfl := sj hm
    exact ends1 results187 rfl ⟨_, rfl, H.base, rfl⟩
   ·
    refine Cf (cb hc1) (Sk (Sq (Rg (Mv va1 (Mv (vi (ik1 : Int)) ?_)))))
    obtain ⟨x2, hx2, hm2⟩ := bind_some hm2
    obtain ⟨p2, hp2, hrp2⟩ := fix_indexAddr underlying26 sz3 ha1 hx2
    refine hrp2 R R R R (Ld _ sc3 ((hp2.mono H.base).flat 0 _ rfl) (As (vi x2) (Nl (Sq (Rg (Mv (vi x1) (Mv (vi x2) ?_)))))))
    obtain ⟨t1, hy1, hm2⟩ := bind_some hm2
    refine Ca call217 (c_cmp_Compare_int _ _ hy1) ?_
    rintro _ w1 hb1 rfl
    have H := H.ext hb1
    refine As (vi t1) (Nl (Sq (Rg (Mv (vi t1) (Ne_ (Nl ?_))))))
    rcases ite_some hm2 with ⟨hc2, hm2⟩ | ⟨hc2, hm2⟩
    ·
     refine Ct (cb hc2) (Sq (Rg (Mv (vi t1) (As (vi t1) (Nl (Rt ?_))))))
     obtain rfl := sj hm2
     refine ⟨_, rfl, ?_⟩
     rintro rfl
     obtain rfl := sj hm
     exact ends1 results187 rfl ⟨_, rfl, H.base, rfl⟩
    ·
     refine Cf (cb hc2) (Sk (Rg (Ad hinck1 (Mv (vi ((ik1 : Int) + 1)) (Nl ?_)))))
     obtain rfl := sj hm2
     exact ⟨_, rfl, rfl, rangeN_next hdropk1, rfl, rfl, rfl, rfl, rfl, H⟩
  ·
   rintro ik1 _ f w ⟨rfl, hdropk1, hf11, hf10, hf0, hf1, hf9, H⟩ hfin
   have hltk1 := rangeN_end hdropk1
   obtain ⟨u2, rfl⟩ := up5 hf11 hf10 hf0 hf1 hf9
   refine Sq (Rg (Ls (Nl (Sq (Cf (cb (decide_eq_false hltk1)) (Ex ?_))))))
   obtain rfl : Ctl.next () = o1 := hfin
   exact xT rfl ⟨rfl, rfl, rfl, H⟩
 ·
  rintro f w ⟨rfl, hf0, hf1, H⟩
  obtain ⟨u3, rfl⟩ := up2 hf0 hf1
  refine Sq (Sq (Rg (Mv va0 (Ln underlying26 (H.arg ha0) (Mv va1 (Ln underlying26 (H.arg ha1) (Ls (Nl ?_))))))))
  rcases ite_some hm with ⟨hc3, hm⟩ | ⟨hc3, hm⟩
  ·
   refine Ct (cb hc3) (Sq (Rg (As (vi (-1)) (Nl (Rt ?_)))))
   obtain rfl := sj hm
   exact ends1 results187 rfl ⟨_, rfl, H.base, rfl⟩
  ·
   refine Cf (cb hc3) (Sk (Sq (Rg (As (vi 0) (Nl (Rt ?_))))))
   obtain rfl := sj hm
   exact ends1 results187 rfl ⟨_, rfl, H.base, rfl⟩

theorem c_sight_graph_sorted_c1 {w0 : World} (a0 : GEdge) (a1 : GEdge) {r0 : Int} (hm : sight_graph_sorted_c1 a0 a1 = some r0) :
  Calls prog 186 #[(.agg (Flat.cells a0).toArray), (.agg (Flat.cells a1).toArray)] w0 (Ret w0 fun _ v => v = (vi r0)) := by
 unfold sight_graph_sorted_c1 at hm
 refine cW func186 ntmps186 ?_
 have H := Inv.start (w := w0)
 refine Sq (Rg (Bx [(vi a0.from_), (vi a0.to), (vi a0.cost), (vi a0.number)] H fun b1 w1 H hb1 => Bx [(vi a1.from_), (vi a1.to), (vi a1.cost), (vi a1.number)] H fun b2 w2 H hb2 => As (vi 0) (Nl (Sq (Rg (Fa fd210_0 rfl (Ld _ sc3 (H.cell 0 rfl 0 _ rfl) (Fa fd210_1 rfl (Ld _ sc3 (H.cell 0 rfl 1 _ rfl) ?_)))))))))
 refine Fa fd210_3 rfl (Ld _ sc3 (H.cell 0 rfl 3 _ rfl) (Bs (α := Int) [(vi a0.from_), (vi a0.to), (vi a0.number)] [a0.from_, a0.to, a0.number] underlying26 el3 H fun v1 w3 H hb3 => Fa fd210_0 rfl (Ld _ sc3 (H.cell 1 rfl 0 _ rfl) (Fa fd210_1 rfl (Ld _ sc3 (H.cell 1 rfl 1 _ rfl) (Fa fd210_3 rfl (Ld _ sc3 (H.cell 1 rfl 3 _ rfl) (Bs (α := Int) [(vi a1.from_), (vi a1.to), (vi a1.number)] [a1.from_, a1.to, a1.number] underlying26 el3 H fun v2 w4 H hb4 => ?_))))))))
 obtain ⟨t1, hy1, hm⟩ := bind_some hm
 refine Ca call187 (c_slices_Compare_int _ _ (H.own 2 rfl) _ _ (H.own 3 rfl) hy1) ?_
 rintro _ w5 hb5 rfl
 have H := H.ext hb5
 refine As (vi t1) (Nl (Rt ?_))
 obtain rfl := sj hm
 exact ends1 results186 rfl ⟨_, rfl, H.base, rfl⟩

theorem g_cmp_isNaN_int {w0 : World} (a0 : Int) {r0 : Bool} (hm : cmp_isNaN_int a0 = some r0) :
  Calls prog 232 #[(vi a0)] w0 (Ret w0 fun w v => v = (.bool r0) ∧ GrewQ w0 w) := by
 unfold cmp_isNaN_int at hm
 refine cW func232 ntmps232 ?_
 have H := GInv.start (w := w0)
 refine Sq (Rg (As (.bool false) (Nl (Sq (Rg (Mv (vi a0) (Mv (vi a0) (Ne_ (As (.bool (a0 != a0)) (Nl (Rt ?_)))))))))))
 obtain rfl := sj hm
 exact ends1 results232 rfl ⟨_, rfl, H.base, rfl, H.g⟩

set_option maxRecDepth 20000 in
theorem g_cmp_Compare_int {w0 : World} (a0 : Int) (a1 : Int) {r0 : Int} (hm : cmp_Compare_int a0 a1 = some r0) :
  Calls prog 217 #[(vi a0), (vi a1)] w0 (Ret w0 fun w v => v = (vi r0) ∧ GrewQ w0 w) := by
 unfold cmp_Compare_int at hm
 refine cW func217 ntmps217 ?_
 have H := GInv.start (w := w0)
 refine Sq (Rg (As (vi 0) (Nl (Sq (Rg (Mv (vi a0) ?_))))))
 obtain ⟨t1, hy1, hm⟩ := bind_some hm
 refine Ca call232 (g_cmp_isNaN_int _ hy1) ?_
 rintro _ w1 hb1 ⟨rfl, hghb1⟩
 have H := H.ext hghb1
 refine As (.bool t1) (Nl (Sq (Rg (Mv (vi a1) ?_))))
 obtain ⟨t2, hy2, hm⟩ := bind_some hm
 refine Ca call232 (g_cmp_isNaN_int _ hy2) ?_
 rintro _ w2 hb2 ⟨rfl, hghb2⟩
 have H := H.ext hghb2
 refine As (.bool t2) (Nl (Sq (Sq (Rg (Mv (.bool t1) (Nl ?_))))))
 rcases ite_some hm with ⟨hc1, hm⟩ | ⟨hc1, hm⟩
 ·
  refine Ct (cb hc1) (Sq (Sq (Rg (Mv (.bool t2) (Nl ?_)))))
  rcases ite_some hm with ⟨hc2, hm⟩ | ⟨hc2, hm⟩
  ·
   refine Ct (cb hc2) (Sq (Rg (As (vi 0) (Nl (Rt ?_)))))
   obtain rfl := sj hm
   exact ends1 results217 rfl ⟨_, rfl, H.base, rfl, H.g⟩
  ·
   refine Cf (cb hc2) (Sk (Sq (Rg (As (vi (-1)) (Nl (Rt ?_))))))
   obtain rfl := sj hm
   exact ends1 results217 rfl ⟨_, rfl, H.base, rfl, H.g⟩
 ·
  refine Cf (cb hc1) (Sk (Sq (Sq (Rg (Mv (.bool t2) (Nl ?_))))))
  rcases ite_some hm with ⟨hc3, hm⟩ | ⟨hc3, hm⟩
  ·
   refine Ct (cb hc3) (Sq (Rg (As (vi 1) (Nl (Rt ?_)))))
   obtain rfl := sj hm
   exact ends1 results217 rfl ⟨_, rfl, H.base, rfl, H.g⟩
  ·
   refine Cf (cb hc3) (Sk (Sq (Sq (Rg (Mv (vi a0) (Mv (vi a1) (Ls (Nl ?_))))))))
   rcases ite_some hm with ⟨hc4, hm⟩ | ⟨hc4, hm⟩
   ·
    refine Ct (cb hc4) (Sq (Rg (As (vi (-1)) (Nl (Rt ?_)))))
    obtain rfl := sj hm
    exact ends1 results217 rfl ⟨_, rfl, H.base, rfl, H.g⟩
   ·
    refine Cf (cb hc4) (Sk (Sq (Sq (Rg (Mv (vi a0) (Mv (vi a1) (Gt_ (Nl ?_))))))))
    rcases ite_some hm with ⟨hc5, hm⟩ | ⟨hc5, hm⟩
    ·
     refine Ct (cb hc5) (Sq (Rg (As (vi 1) (Nl (Rt ?_)))))
     obtain rfl := sj hm
     exact ends1 results217 rfl ⟨_, rfl, H.base, rfl, H.g⟩
    ·
     refine Cf (cb hc5) (Sk (Sq (Rg (As (vi 0) (Nl (Rt ?_))))))
     obtain rfl := sj hm
     exact ends1 results217 rfl ⟨_, rfl, H.base, rfl, H.g⟩

set_option maxRecDepth 20000 in
theorem g_slices_Compare_int {w0 : World} (va0 : Value) (a0 : (List Int)) (ha0 : SliceR w0 va0 a0) (va1 : Value) (a1 : (List Int)) (ha1 : SliceR w0 va1 a1) {r0 : Int} (hm : slices_Compare_int a0 a1 = some r0) :
  Calls prog 187 #[va0, va1] w0 (Ret w0 fun w v => v = (vi r0) ∧ GrewQ w0 w) := by
 unfold slices_Compare_int at hm
 refine cW func187 ntmps187 ?_
 have H := GInv.start (w := w0)
 refine Sq (Rg (As (vi 0) (Nl (Sq (Sq (Rg (Mv va0 (Ln underlying26 (H.arg ha0) (Mv (vi 0) (Nl ?_))))))))))
 obtain ⟨o1, hm1, hm⟩ := bind_some hm
 refine Va (fun f w => o1 = .next () ∧ f 0 = va0 ∧ f 1 = va1 ∧ GInv w0 w []) ?_ ?_
 ·
  refine Bk ?_
  have hbdik1 := (H.arg ha0).len_le
  refine W.rangeN (i := 0) hm1 (fun rem ik1 s f w => () = s ∧ (ik1 : Int) + rem = max 0 ((a0.length : Nat) : Int) ∧ f 11 = .int .i64 (ik1 : Int) ∧ f 10 = (vi ((a0.length : Nat) : Int)) ∧ f 0 = va0 ∧ f 1 = va1 ∧ f 9 = va0 ∧ GInv w0 w []) ?_ ?_ ?_
  ·
   exact ⟨rfl, rangeN_start, rfl, rfl, rfl, rfl, rfl, H⟩
  ·
   rintro k ik1 _ st f w ⟨rfl, hdropk1, hf11, hf10, hf0, hf1, hf9, H⟩ hm2
   have hltk1 := rangeN_lt hdropk1
   obtain ⟨u1, rfl⟩ := up5 hf11 hf10 hf0 hf1 hf9
   have hinck1 := addI_lt hltk1 hbdik1
   refine Sq (Rg (Ls (Nl (Sq (Ct (cb (decide_eq_true hltk1)) (Sk (Sq (Bk (Sq (Rg (Mv (vi (ik1 : Int)) ?_)))))))))))
   obtain ⟨x1, hx1, hm2⟩ := bind_some hm2
   obtain ⟨p1, hp1, hrp1⟩ := fix_indexAddr underlying26 sz3 ha0 hx1
   refine hrp1 R R R R (Ld _ sc3 ((hp1.mono H.base).flat 0 _ rfl) (As (vi (ik1 : Int)) (As (vi x1) (Nl (Sq (Sq (Rg (Mv (vi (ik1 : Int)) (Mv va1 (Ln underlying26 (H.arg ha1) (Ge_ (Nl ?_))))))))))))
   rcases ite_some hm2 with ⟨hc1, hm2⟩ | ⟨hc1, hm2⟩
   ·
    refine Ct (cb hc1) (Sq (Rg (As (vi 1) (Nl (Rt ?_)))))
    obtain rfl := sj hm2
    refine ⟨_, rfl, ?_⟩
    rintro rfl
    obtain rfl := sj hm
    exact ends1 results187 rfl ⟨_, rfl, H.base, rfl, H.g⟩
   ·
    refine Cf (cb hc1) (Sk (Sq (Rg (Mv va1 (Mv (vi (ik1 : Int)) ?_)))))
    obtain ⟨x2, hx2, hm2⟩ := bind_some hm2
    obtain ⟨p2, hp2, hrp2⟩ := fix_indexAddr underlying26 sz3 ha1 hx2
    refine hrp2 R R R R (Ld _ sc3 ((hp2.mono H.base).flat 0 _ rfl) (As (vi x2) (Nl (Sq (Rg (Mv (vi x1) (Mv (vi x2) ?_)))))))
    obtain ⟨t1, hy1, hm2⟩ := bind_some hm2
    refine Ca call217 (g_cmp_Compare_int _ _ hy1) ?_
    rintro _ w1 hb1 ⟨rfl, hghb1⟩
    have H := H.ext hghb1
    refine As (vi t1) (Nl (Sq (Rg (Mv (vi t1) (Ne_ (Nl ?_))))))
    rcases ite_some hm2 with ⟨hc2, hm2⟩ | ⟨hc2, hm2⟩
    ·
     refine Ct (cb hc2) (Sq (Rg (Mv (vi t1) (As (vi t1) (Nl (Rt ?_))))))
     obtain rfl := sj hm2
     refine ⟨_, rfl, ?_⟩
     rintro rfl
     obtain rfl := sj hm
     exact ends1 results187 rfl ⟨_, rfl, H.base, rfl, H.g⟩
    ·
     refine Cf (cb hc2) (Sk (Rg (Ad hinck1 (Mv (vi ((ik1 : Int) + 1)) (Nl ?_)))))
     obtain rfl := sj hm2
     exact ⟨_, rfl, rfl, rangeN_next hdropk1, rfl, rfl, rfl, rfl, rfl, H⟩
  ·
   rintro ik1 _ f w ⟨rfl, hdropk1, hf11, hf10, hf0, hf1, hf9, H⟩ hfin
   have hltk1 := rangeN_end hdropk1
   obtain ⟨u2, rfl⟩ := up5 hf11 hf10 hf0 hf1 hf9
   refine Sq (Rg (Ls (Nl (Sq (Cf (cb (decide_eq_false hltk1)) (Ex ?_))))))
   obtain rfl : Ctl.next () = o1 := hfin
   exact xT rfl ⟨rfl, rfl, rfl, H⟩
 ·
  rintro f w ⟨rfl, hf0, hf1, H⟩
  obtain ⟨u3, rfl⟩ := up2 hf0 hf1
  refine Sq (Sq (Rg (Mv va0 (Ln underlying26 (H.arg ha0) (Mv va1 (Ln underlying26 (H.arg ha1) (Ls (Nl ?_))))))))
  rcases ite_some hm with ⟨hc3, hm⟩ | ⟨hc3, hm⟩
  ·
   refine Ct (cb hc3) (Sq (Rg (As (vi (-1)) (Nl (Rt ?_)))))
   obtain rfl := sj hm
   exact ends1 results187 rfl ⟨_, rfl, H.base, rfl, H.g⟩
  ·
   refine Cf (cb hc3) (Sk (Sq (Rg (As (vi 0) (Nl (Rt ?_))))))
   obtain rfl := sj hm
   exact ends1 results187 rfl ⟨_, rfl, H.base, rfl, H.g⟩

theorem g_sight_graph_sorted_c1 {w0 : World} (a0 : GEdge) (a1 : GEdge) {r0 : Int} (hm : sight_graph_sorted_c1 a0 a1 = some r0) :
  Calls prog 186 #[(.agg (Flat.cells a0).toArray), (.agg (Flat.cells a1).toArray)] w0 (Ret w0 fun w v => v = (vi r0) ∧ GrewQ w0 w) := by
 unfold sight_graph_sorted_c1 at hm
 refine cW func186 ntmps186 ?_
 have H := GInv.start (w := w0)
 refine Sq (Rg (O.boxG [(vi a0.from_), (vi a0.to), (vi a0.cost), (vi a0.number)] H R R R R fun b1 w1 H hb1 => O.boxG [(vi a1.from_), (vi a1.to), (vi a1.cost), (vi a1.number)] H R R R R fun b2 w2 H hb2 => As (vi 0) (Nl (Sq (Rg (Fa fd210_0 rfl (Ld _ sc3 (H.cell 0 rfl 0 _ rfl) (Fa fd210_1 rfl (Ld _ sc3 (H.cell 0 rfl 1 _ rfl) ?_)))))))))
 refine Fa fd210_3 rfl (Ld _ sc3 (H.cell 0 rfl 3 _ rfl) (O.buildSliceG (α := Int) [(vi a0.from_), (vi a0.to), (vi a0.number)] [a0.from_, a0.to, a0.number] underlying26 el3 H R R R R R R R fun v1 w3 H hb3 => Fa fd210_0 rfl (Ld _ sc3 (H.cell 1 rfl 0 _ rfl) (Fa fd210_1 rfl (Ld _ sc3 (H.cell 1 rfl 1 _ rfl) (Fa fd210_3 rfl (Ld _ sc3 (H.cell 1 rfl 3 _ rfl) (O.buildSliceG (α := Int) [(vi a1.from_), (vi a1.to), (vi a1.number)] [a1.from_, a1.to, a1.number] underlying26 el3 H R R R R R R R fun v2 w4 H hb4 => ?_))))))))
 obtain ⟨t1, hy1, hm⟩ := bind_some hm
 refine Ca call187 (g_slices_Compare_int _ _ (H.own 2 rfl) _ _ (H.own 3 rfl) hy1) ?_
 rintro _ w5 hb5 ⟨rfl, hghb5⟩
 have H := H.ext hghb5
 refine As (vi t1) (Nl (Rt ?_))
 obtain rfl := sj hm
 exact ends1 results186 rfl ⟨_, rfl, H.base, rfl, H.g⟩

theorem edges_sort : SortsK prog GEdge 185 (.func (.func 186) #[] #[]) sortEdges :=
  sortsK_of (α := GEdge) Tryz.sortT isAgg210 sizeOf210 edgeC edge_swo 186 (enters_of func186 (by kernel_rfl) rfl) fun x y W => (g_sight_graph_sorted_c1 x y (edge_some x y)).mono (by rintro e w' ⟨v, rfl, _, rfl, hg⟩; exact ⟨rfl, hg⟩)

theorem rev_turns : TurnsI prog 142 List.reverse := turns_reverse Tryz.revT

theorem c_sight_graph_sorted {w0 : World} (pa0 : Addr) (va0_0 : Value) (va0_1 : Value) (a0_0 : (List (GPoint × Int))) (a0_1 : (List GEdge)) (ha0 : ∀ j c, ([va0_0, va0_1] : List Value)[j]? = some c → w0.cell? (pa0.add j) = some c) (ra0_0 : MapR w0 va0_0 a0_0) (ra0_1 : SliceR w0 va0_1 a0_1) {r0 : (List GEdge)} (hm : sight_graph_sorted a0_0 a0_1 = some r0) :
  Calls prog 140 #[(.pointer (some pa0))] w0 (Ret w0 fun w v => OwnR w0 w v 210 r0) := by
 unfold sight_graph_sorted at hm
 refine cW func140 ntmps140 ?_
 have H := Inv.start (w := w0)
 refine Sq (Rg ?_)
 have H := H.addNil (α := GEdge) (E := 210)
 refine As (.slice none 0 0) (Nl (Sq (Rg (Mv (.pointer (some pa0)) (Nk rfl (Fa fd203_1 rfl (Ld _ sc201 (cells_mono ha0 H.base 1 _ rfl) ?_)))))))
 obtain ⟨t1, hy1, hm⟩ := bind_some hm
 refine Ca call184 (c_slices_Clone_step _ _ (H.arg ra0_1) hy1) ?_
 rintro v1 w1 hb1 ho1
 have H := H.addOwn hb1 ho1
 refine As v1 (Nl (Sq (Rg (Mv v1 ?_))))
 obtain ⟨t2, hy2, hm⟩ := bind_some hm
 refine O.sortK 1 H rfl edges_sort hy2 call185 R R R R fun w2 H => Nl (Sq (Rg (Mv v1 (As v1 (Nl (Rt ?_))))))
 obtain rfl := sj hm
 exact ends1 results140 rfl ⟨_, rfl, H.base, H.ownR 1 rfl⟩

def pushItems (b1 b2 b3 b4 : Nat) (v1 v2 v3 : Value) (a0 : Int) (a1 : List GEdge) (a2 : List Int) (a3 : List GEdge) : List Fw.Item := [boxI b1 3 [(vi a0)], boxI b2 201 [v1], boxI b3 26 [v2], boxI b4 201 [v3], o210 v1 a1, o3 v2 a2, o210 v3 a3]
set_option maxRecDepth 20000 in
theorem c_push {w0 : World} (b1 b2 b3 b4 : Nat) (v1 v2 v3 : Value) (a0 : Int) (a1 : List GEdge) (a2 : List Int) (a3 : List GEdge) {r0 : List Int} {r1 : List GEdge} {r2 : Int} (H0 : InvD (fpOf (pushItems b1 b2 b3 b4 v1 v2 v3 a0 a1 a2 a3)) w0 w0 (pushItems b1 b2 b3 b4 v1 v2 v3 a0 a1 a2 a3)) (hm : sight_push a0 a1 a2 a3 = some (r0, r1, r2)) :
  Calls prog 141 #[.pointer (some ⟨b1, 0, none⟩), .pointer (some ⟨b2, 0, none⟩), .pointer (some ⟨b3, 0, none⟩), .pointer (some ⟨b4, 0, none⟩)] w0 fun e w' => ∃ v L1, e = .returned v ∧ InvD (fpOf (pushItems b1 b2 b3 b4 v1 v2 v3 a0 a1 a2 a3)) w0 w' L1 ∧ (∃ u2 u3 : Value, v = .tuple #[] ∧ L1 = pushItems b1 b2 b3 b4 v1 u2 u3 r2 a1 r0 r1) := by
 unfold sight_push at hm
 refine cW func141 ntmps141 ?_
 have H : InvD (fpOf (pushItems b1 b2 b3 b4 v1 v2 v3 a0 a1 a2 a3)) w0 w0 [boxI b1 3 [(vi a0)], boxI b2 201 [v1], boxI b3 26 [v2], boxI b4 201 [v3], o210 v1 a1, o3 v2 a2, o210 v3 a3] := H0
 refine Sq (Rg (St 0 0 [(vi (-1))] [(vi (-1))] sz3 H R R (one_cons rfl one_nil) fun w1 H => Nl (Sq (Rg (Ld _ sc201 (H.cell 1 rfl 0 _ rfl) (Ln underlying201 (H.own 4 rfl) (Mv (vi 0) (Nl ?_))))))))
 obtain ⟨⟨s1, s2, s3⟩, hm1, hm⟩ := bind_some hm
 refine Va (fun f w => ∃ v10 : Value, ∃ v11 : Value, f 0 = (pt b1) ∧ f 1 = (pt b2) ∧ f 2 = (pt b3) ∧ f 3 = (pt b4) ∧ InvD (fpOf (pushItems b1 b2 b3 b4 v1 v2 v3 a0 a1 a2 a3)) w0 w [boxI b1 3 [(vi s1)], boxI b2 201 [v1], boxI b3 26 [v10], boxI b4 201 [v11], o210 v1 a1, o3 v10 s2, o210 v11 s3]) ?_ ?_
 ·
  refine Bk ?_
  refine W.rangeL (i := 0) hm1 (fun rem ik1 s f w => ∃ z4 : Int, ∃ z5 : (List Int), ∃ z6 : (List GEdge), ∃ v6 : Value, ∃ v7 : Value, (z4, z5, z6) = s ∧ a1.drop ik1 = rem ∧ f 9 = .int .i64 (ik1 : Int) ∧ f 8 = (vi ((a1.length : Nat) : Int)) ∧ f 0 = (pt b1) ∧ f 1 = (pt b2) ∧ f 2 = (pt b3) ∧ f 3 = (pt b4) ∧ f 7 = v1 ∧ InvD (fpOf (pushItems b1 b2 b3 b4 v1 v2 v3 a0 a1 a2 a3)) w0 w [boxI b1 3 [(vi z4)], boxI b2 201 [v1], boxI b3 26 [v6], boxI b4 201 [v7], o210 v1 a1, o3 v6 z5, o210 v7 z6]) ?_ ?_ ?_
  ·
   exact ⟨_, _, _, v2, v3, rfl, List.drop_zero, rfl, rfl, rfl, rfl, rfl, rfl, rfl, H⟩
  ·
   rintro yk1 xs ik1 _ st f w ⟨z4, z5, z6, v6, v7, rfl, hdropk1, hf9, hf8, hf0, hf1, hf2, hf3, hf7, H⟩ hm2
   have hltk1 := drop_lt hdropk1; have hixk1 := drop_idx hdropk1
   obtain ⟨u1, rfl⟩ := up7 hf9 hf8 hf0 hf1 hf2 hf3 hf7
   have hinck1 := addI_lt hltk1 (H.own 4 rfl).len_le
   refine Sq (Rg (Ls (Nl (Sq (Ct (cb (decide_eq_true hltk1)) (Sk (Sq ?_)))))))
   obtain ⟨⟨s4, s5, s6⟩, hm3, hm2⟩ := bind_some hm2
   refine Va (fun f w => ∃ v12 : Value, ∃ v13 : Value, f 0 = (pt b1) ∧ f 1 = (pt b2) ∧ f 2 = (pt b3) ∧ f 3 = (pt b4) ∧ f 7 = v1 ∧ f 8 = (vi ((a1.length : Nat) : Int)) ∧ f 9 = (vi (ik1 : Int)) ∧ InvD (fpOf (pushItems b1 b2 b3 b4 v1 v2 v3 a0 a1 a2 a3)) w0 w [boxI b1 3 [(vi s4)], boxI b2 201 [v1], boxI b3 26 [v12], boxI b4 201 [v13], o210 v1 a1, o3 v12 s5, o210 v13 s6]) ?_ ?_
   ·
    refine Bk (Sq (Rg (Ia underlying201 sz210 (H.own 4 rfl) hixk1 fun p1 hp1 => La [(vi yk1.from_), (vi yk1.to), (vi yk1.cost), (vi yk1.number)] ag210 (hp1.flat) (Al [(vi 0), (vi 0), (vi 0), (vi 0)] ze210 H fun b5 w2 H hb1 => ?_))))
    have hp1 := hp1.mono hb1
    refine St 7 0 [(vi yk1.from_), (vi yk1.to), (vi yk1.cost), (vi yk1.number)] [(vi yk1.from_), (vi yk1.to), (vi yk1.cost), (vi yk1.number)] sz210 H R R (one_cons rfl (one_cons rfl (one_cons rfl (one_cons rfl one_nil)))) fun w3 H => ?_
    clear hp1
    refine Nl (Sq ?_)
    obtain ⟨x1, hx1, hm3⟩ := bind_some hm3
    obtain ⟨p2, hp2, hrp2⟩ := fix_indexAddr underlying26 sz3 (H.own 5 rfl) hx1
    refine W.drawN 7 (fun f => f 0 = (pt b1) ∧ f 1 = (pt b2) ∧ f 2 = (pt b3) ∧ f 3 = (pt b4) ∧ f 5 = (pt b5) ∧ f 7 = v1 ∧ f 8 = (vi ((a1.length : Nat) : Int)) ∧ f 9 = (vi (ik1 : Int)) ∧ f 17 = (vi x1) ∧ f 19 = (vi yk1.cost)) fol (by kernel_rfl) ?_ ?_
    ·
     exact Pl (fun _ w8 _ hx => by have H := H.ext hx; exact Ld _ sc26 (H.cell 2 rfl 0 _ rfl) (Nl ⟨rfl, hx⟩)) (Pl (fun _ w8 _ hx => Fa fd210_0 rfl (Nl ⟨rfl, hx⟩)) (Pl (fun _ w8 _ hx => by have H := H.ext hx; exact Ld _ sc3 (H.cell 7 rfl 0 _ rfl) (Nl ⟨rfl, hx⟩)) (Pl (fun _ w8 _ hx => hrp2 R R R R (Nl ⟨rfl, hx⟩)) (Pl (fun _ w8 _ hx => by have hp2 := hp2.mono hx; exact Ld _ sc3 (hp2.flat 0 _ rfl) (Nl ⟨rfl, hx⟩)) (Pl (fun _ w8 _ hx => Fa fd210_2 rfl (Nl ⟨rfl, hx⟩)) (Pl (fun _ w8 _ hx => by have H := H.ext hx; exact Ld _ sc3 (H.cell 7 rfl 2 _ rfl) (Nl ⟨rfl, hx⟩)) (PL.nil ⟨rfl, rfl, rfl, rfl, rfl, rfl, rfl, rfl, rfl, rfl⟩)))))))
    ·
     rintro f w ⟨hf0, hf1, hf2, hf3, hf5, hf7, hf8, hf9, hf17, hf19⟩ hmd hx
     have H := H.ext hx
     have hp2 := hp2.mono hx
     obtain ⟨u2, rfl⟩ : ∃ u2, f = (upd (upd (upd (upd (upd (upd (upd (upd (upd (upd u2 0 (pt b1)) 1 (pt b2)) 2 (pt b3)) 3 (pt b4)) 5 (pt b5)) 7 v1) 8 (vi ((a1.length : Nat) : Int))) 9 (vi (ik1 : Int))) 17 (vi x1)) 19 (vi yk1.cost)) := ⟨f, by rw [upd_self hf0, upd_self hf1, upd_self hf2, upd_self hf3, upd_self hf5, upd_self hf7, upd_self hf8, upd_self hf9, upd_self hf17, upd_self hf19]⟩
     obtain ⟨t1, ht1, hm3⟩ := bind_some hm3
     refine Ad ht1 (As (vi t1) (Nl (Sq (Rg (Mv (vi t1) (Ld _ sc26 (H.cell 2 rfl 0 _ rfl) (Fa fd210_1 rfl (Ld _ sc3 (H.cell 7 rfl 1 _ rfl) ?_))))))))
     obtain ⟨x2, hx2, hm3⟩ := bind_some hm3
     refine Ia underlying26 sz3 (H.own 5 rfl) hx2 fun p3 hp3 => Ld _ sc3 (hp3.flat 0 _ rfl) (Ls (Nl ?_))
     obtain ⟨⟨s7, s8, s9⟩, hm4, hm3⟩ := bind_some hm3
     refine Va (fun f w => ∃ v14 : Value, ∃ v15 : Value, f 0 = (pt b1) ∧ f 1 = (pt b2) ∧ f 2 = (pt b3) ∧ f 3 = (pt b4) ∧ f 7 = v1 ∧ f 8 = (vi ((a1.length : Nat) : Int)) ∧ f 9 = (vi (ik1 : Int)) ∧ InvD (fpOf (pushItems b1 b2 b3 b4 v1 v2 v3 a0 a1 a2 a3)) w0 w [boxI b1 3 [(vi s7)], boxI b2 201 [v1], boxI b3 26 [v14], boxI b4 201 [v15], o210 v1 a1, o3 v14 s8, o210 v15 s9]) ?_ ?_
     ·
      rcases ite_some hm4 with ⟨hc1, hm4⟩ | ⟨hc1, hm4⟩
      ·
       refine Ct (cb hc1) ?_
       obtain ⟨x3, hx3, hm4⟩ := bind_some hm4
       obtain ⟨x4, hx4, hm4⟩ := bind_some hm4
       refine W.drawD 14 [[], [], [1], [], [], [4], [], [], [], [8], [0, 1, 2, 6], [0, 1, 2, 6, 10], [0, 1, 2, 3, 4, 5, 6, 7, 10, 11], [0, 1, 2, 3, 4, 5, 6, 7, 10, 11, 12]] [[10, 11, 12, 13], [2, 10, 11, 12, 13], [10, 11, 12, 13], [12, 13], [5, 12, 13], [12, 13], [10, 11, 12, 13], [12, 13], [9], [], [11, 12, 13], [12, 13], [13], []] (fun S f w => ∃ b6 : Nat, ∃ b7 : Nat, (f 0 = (pt b1) ∧ f 1 = (pt b2) ∧ f 2 = (pt b3) ∧ f 3 = (pt b4) ∧ f 5 = (pt b5) ∧ f 6 = (vi t1) ∧ f 7 = v1 ∧ f 8 = (vi ((a1.length : Nat) : Int)) ∧ f 9 = (vi (ik1 : Int))) ∧ InvD (fpOf (pushItems b1 b2 b3 b4 v1 v2 v3 a0 a1 a2 a3)) w0 w [boxI b1 3 [(vi z4)], boxI b2 201 [v1], boxI b3 26 [v6], boxI b4 201 [v7], o210 v1 a1, cond (S 11) (o3 v6 (z5.set (Int.toNat yk1.to) t1)) (o3 v6 z5), cond (S 13) (o210 v7 (z6.set (Int.toNat yk1.to) yk1)) (o210 v7 z6), boxI b5 210 [(vi yk1.from_), (vi yk1.to), (vi yk1.cost), (vi yk1.number)]] ∧ (S 0 = true → f 28 = v6) ∧ (S 1 = true → f 29 = (.pointer (some (Addr.add (Addr.mk b5 0 none) 1)))) ∧ (S 2 = true → f 30 = (vi yk1.to)) ∧ (S 3 = true → f 31 = v7) ∧ (S 4 = true → f 32 = (.pointer (some (Addr.add (Addr.mk b5 0 none) 1)))) ∧ (S 5 = true → f 33 = (vi yk1.to)) ∧ (S 6 = true → f 34 = (vi t1)) ∧ (S 7 = true → f 35 = (.agg (Flat.cells yk1).toArray)) ∧ (S 8 = true → f 36 = (.pointer (some (Addr.add (Addr.mk b5 0 none) 1)))) ∧ (S 9 = true → f 37 = (vi yk1.to)) ∧ (S 10 = true → f 38 = (.pointer (some ⟨b6, Int.toNat yk1.to * Flat.size Int, none⟩))) ∧ (S 12 = true → f 39 = (.pointer (some ⟨b7, Int.toNat yk1.to * Flat.size GEdge, none⟩))) ∧ (S 10 = true → Value.ownBlock v6 = some b6) ∧ (S 12 = true → Value.ownBlock v7 = some b7) ∧ (S 10 = true → S 11 = false → S 13 = false → (ElemAt w (⟨b6, Int.toNat yk1.to * Flat.size Int, none⟩ : Addr) x3)) ∧ (S 12 = true → S 11 = false → S 13 = false → (ElemAt w (⟨b7, Int.toNat yk1.to * Flat.size GEdge, none⟩ : Addr) x4)) ∧ (S 11 = false → S 13 = false → (ElemAt w p3 x2))) fol (by kernel_rfl) ?_ ?_ ?_
       ·
        exact fun d _ => ⟨0, 0, ⟨rfl, rfl, rfl, rfl, rfl, rfl, rfl, rfl, rfl⟩, H.ext (below_drawn d), nF, nF, nF, nF, nF, nF, nF, nF, nF, nF, nF, nF, nF, nF, nF, nF, (fun _ _ => hp3.mono (below_drawn d))⟩
       ·
        refine ⟨?_, ⟨?_, ⟨?_, ⟨?_, ⟨?_, ⟨?_, ⟨?_, ⟨?_, ⟨?_, ⟨?_, ⟨?_, ⟨?_, ⟨?_, ⟨?_, trivial⟩⟩⟩⟩⟩⟩⟩⟩⟩⟩⟩⟩⟩⟩
        ·
         rintro S f w hS - ⟨e10, e11, e12, e13, -⟩ ⟨b6, b7, k, H, q0, t⟩
         obtain ⟨u3, rfl⟩ := up1 k.2.2.1
         exact Ld _ sc26 (H.cell 2 rfl 0 _ rfl) (Nl ⟨b6, b7, k, H, (fun _ => rfl), t⟩)
        ·
         rintro S f w hS - ⟨e2, e10, e11, e12, e13, -⟩ ⟨b6, b7, k, H, q0, q1, t⟩
         obtain ⟨u4, rfl⟩ := up1 k.2.2.2.2.1
         exact Fa fd210_1 rfl (Nl ⟨b6, b7, k, H, q0, (fun _ => rfl), t⟩)
        ·
         rintro S f w hS ⟨e1, -⟩ ⟨e10, e11, e12, e13, -⟩ ⟨b6, b7, k, H, q0, q1, q2, t⟩
         obtain ⟨u5, rfl⟩ := up1 (q1 e1)
         exact Ld _ sc3 (H.cell 7 rfl 1 _ rfl) (Nl ⟨b6, b7, k, H, q0, q1, (fun _ => rfl), t⟩)
        ·
         rintro S f w hS - ⟨e12, e13, -⟩ ⟨b6, b7, k, H, q0, q1, q2, q3, t⟩
         obtain ⟨u6, rfl⟩ := up1 k.2.2.2.1
         exact Ld _ sc201 (H.cell 3 rfl 0 _ rfl) (Nl ⟨b6, b7, k, H, q0, q1, q2, (fun _ => rfl), t⟩)
        ·
         rintro S f w hS - ⟨e5, e12, e13, -⟩ ⟨b6, b7, k, H, q0, q1, q2, q3, q4, t⟩
         obtain ⟨u7, rfl⟩ := up1 k.2.2.2.2.1
         exact Fa fd210_1 rfl (Nl ⟨b6, b7, k, H, q0, q1, q2, q3, (fun _ => rfl), t⟩)
        ·
         rintro S f w hS ⟨e4, -⟩ ⟨e12, e13, -⟩ ⟨b6, b7, k, H, q0, q1, q2, q3, q4, q5, t⟩
         obtain ⟨u8, rfl⟩ := up1 (q4 e4)
         exact Ld _ sc3 (H.cell 7 rfl 1 _ rfl) (Nl ⟨b6, b7, k, H, q0, q1, q2, q3, q4, (fun _ => rfl), t⟩)
        ·
         rintro S f w hS - ⟨e10, e11, e12, e13, -⟩ ⟨b6, b7, k, H, q0, q1, q2, q3, q4, q5, q6, t⟩
         obtain ⟨u9, rfl⟩ := up1 k.2.2.2.2.2.1
         exact Mv (vi t1) (Nl ⟨b6, b7, k, H, q0, q1, q2, q3, q4, q5, (fun _ => rfl), t⟩)
        ·
         rintro S f w hS - ⟨e12, e13, -⟩ ⟨b6, b7, k, H, q0, q1, q2, q3, q4, q5, q6, q7, t⟩
         obtain ⟨u10, rfl⟩ := up1 k.2.2.2.2.1
         exact La [(vi yk1.from_), (vi yk1.to), (vi yk1.cost), (vi yk1.number)] ag210 (H.cell 7 rfl) (Nl ⟨b6, b7, k, H, q0, q1, q2, q3, q4, q5, q6, (fun _ => rfl), t⟩)
        ·
         rintro S f w hS - ⟨e9, -⟩ ⟨b6, b7, k, H, q0, q1, q2, q3, q4, q5, q6, q7, q8, t⟩
         obtain ⟨u11, rfl⟩ := up1 k.2.2.2.2.1
         exact Fa fd210_1 rfl (Nl ⟨b6, b7, k, H, q0, q1, q2, q3, q4, q5, q6, q7, (fun _ => rfl), t⟩)
        ·
         rintro S f w hS ⟨e8, -⟩ - ⟨b6, b7, k, H, q0, q1, q2, q3, q4, q5, q6, q7, q8, q9, t⟩
         obtain ⟨u12, rfl⟩ := up1 (q8 e8)
         exact Ld _ sc3 (H.cell 7 rfl 1 _ rfl) (Nl ⟨b6, b7, k, H, q0, q1, q2, q3, q4, q5, q6, q7, q8, (fun _ => rfl), t⟩)
        ·
         rintro S f w hS ⟨e0, e1, e2, e6, -⟩ ⟨e11, e12, e13, -⟩ ⟨_, b7, k, H, q0, q1, q2, q3, q4, q5, q6, q7, q8, q9, q10, q12, Fhob1, Fhob2, Fhp4, t⟩
         obtain ⟨u13, rfl⟩ := up2 (q0 e0) (q2 e2)
         have G := H
         have H := H.cF 5 e11 rfl
         exact O.indexOwn 5 underlying26 sz3 H rfl hx3 R R R R fun b6 hob1 hp4 => Nl ⟨b6, b7, k, G, q0, q1, q2, q3, q4, q5, q6, q7, q8, q9, (fun _ => rfl), q12, (fun _ => hob1), Fhob2, (fun _ _ _ => hp4), t⟩
        ·
         rintro S f w hS ⟨e0, e1, e2, e6, e10, -⟩ ⟨e12, e13, -⟩ ⟨b6, b7, k, H, q0, q1, q2, q3, q4, q5, q6, q7, q8, q9, q10, q12, Fhob1, Fhob2, Fhp4, Fhp5, Fhp3⟩
         obtain ⟨u14, rfl⟩ := up2 (q6 e6) (q10 e10)
         have H := H.cF 5 hS rfl
         have hob1 := Fhob1 e10
         exact O.storeOwn (α := Int) (i0 := yk1.to) (x0 := x3) 5 0 t1 [(vi t1)] sz3 H rfl hob1 hx3 R R R R R R R R (one_cons rfl one_nil) fun w4 H => Nl ⟨b6, b7, k, H, q0, q1, q2, q3, q4, q5, q6, q7, q8, q9, q10, q12, Fhob1, Fhob2, (fun g0 g1 g2 => nG g1), (fun g0 g1 g2 => nG g1), (fun g0 g1 => nG g0)⟩
        ·
         rintro S f w hS ⟨e0, e1, e2, e3, e4, e5, e6, e7, e10, e11, -⟩ ⟨e13, -⟩ ⟨b6, _, k, H, q0, q1, q2, q3, q4, q5, q6, q7, q8, q9, q10, q12, Fhob1, Fhob2, Fhp4, Fhp5, Fhp3⟩
         obtain ⟨u15, rfl⟩ := up2 (q3 e3) (q5 e5)
         have G := H
         have H := H.cF 6 e13 rfl
         exact O.indexOwn 6 underlying201 sz210 H rfl hx4 R R R R fun b7 hob2 hp5 => Nl ⟨b6, b7, k, G, q0, q1, q2, q3, q4, q5, q6, q7, q8, q9, q10, (fun _ => rfl), Fhob1, (fun _ => hob2), Fhp4, (fun _ _ _ => hp5), Fhp3⟩
        ·
         rintro S f w hS ⟨e0, e1, e2, e3, e4, e5, e6, e7, e10, e11, e12, -⟩ - ⟨b6, b7, k, H, q0, q1, q2, q3, q4, q5, q6, q7, q8, q9, q10, q12, Fhob1, Fhob2, Fhp4, Fhp5, Fhp3⟩
         obtain ⟨u16, rfl⟩ := up2 (q7 e7) (q12 e12)
         have H := H.cF 6 hS rfl
         have hob2 := Fhob2 e12
         exact O.storeOwn (α := GEdge) (i0 := yk1.to) (x0 := x4) 6 0 yk1 [(vi yk1.from_), (vi yk1.to), (vi yk1.cost), (vi yk1.number)] sz210 H rfl hob2 hx4 R R R R R R R R (one_cons rfl (one_cons rfl (one_cons rfl (one_cons rfl one_nil)))) fun w5 H => Nl ⟨b6, b7, k, H, q0, q1, q2, q3, q4, q5, q6, q7, q8, q9, q10, q12, Fhob1, Fhob2, (fun g0 g1 g2 => nG g2), (fun g0 g1 g2 => nG g2), (fun g0 g1 => nG g1)⟩
       ·
        rintro S f w ⟨e0, e1, e2, e3, e4, e5, e6, e7, e8, e9, e10, e11, e12, e13, -⟩ ⟨b6, b7, k, H, q0, q1, q2, q3, q4, q5, q6, q7, q8, q9, q10, q12, Fhob1, Fhob2, Fhp4, Fhp5, Fhp3⟩
        have H : InvD (fpOf (pushItems b1 b2 b3 b4 v1 v2 v3 a0 a1 a2 a3)) w0 w [boxI b1 3 [(vi z4)], boxI b2 201 [v1], boxI b3 26 [v6], boxI b4 201 [v7], o210 v1 a1, o3 v6 (z5.set (Int.toNat yk1.to) t1), o210 v7 (z6.set (Int.toNat yk1.to) yk1), boxI b5 210 [(vi yk1.from_), (vi yk1.to), (vi yk1.cost), (vi yk1.number)]] := ((H.cT 5 e11 rfl).cT 6 e13 rfl)
        obtain ⟨u17, rfl⟩ := up8 k.1 k.2.1 k.2.2.1 k.2.2.2.1 k.2.2.2.2.2.2.1 k.2.2.2.2.2.2.2.1 k.2.2.2.2.2.2.2.2 (q9 e9)
        refine St 0 0 [(vi yk1.to)] [(vi yk1.to)] sz3 H R R (one_cons rfl one_nil) fun w6 H => Nl ?_
        have H := H.keep [0, 1, 2, 3, 4, 5, 6] [boxI b1 3 [(vi yk1.to)], boxI b2 201 [v1], boxI b3 26 [v6], boxI b4 201 [v7], o210 v1 a1, o3 v6 (z5.set (Int.toNat yk1.to) t1), o210 v7 (z6.set (Int.toNat yk1.to) yk1)] rfl (by decide)
        obtain ⟨rfl, rfl, rfl⟩ := j3 hm4
        exact ⟨v6, v7, rfl, rfl, rfl, rfl, rfl, rfl, rfl, H⟩
      ·
       refine Cf (cb hc1) (Sk ?_)
       have H := H.keep [0, 1, 2, 3, 4, 5, 6] [boxI b1 3 [(vi z4)], boxI b2 201 [v1], boxI b3 26 [v6], boxI b4 201 [v7], o210 v1 a1, o3 v6 z5, o210 v7 z6] rfl (by decide)
       obtain ⟨rfl, rfl, rfl⟩ := j3 hm4
       exact ⟨v6, v7, rfl, rfl, rfl, rfl, rfl, rfl, rfl, H⟩
     ·
      rintro f w ⟨v14, v15, hf0, hf1, hf2, hf3, hf7, hf8, hf9, H⟩
      obtain ⟨u18, rfl⟩ := up7 hf0 hf1 hf2 hf3 hf7 hf8 hf9
      obtain ⟨rfl, rfl, rfl⟩ := j3 hm3
      exact ⟨v14, v15, rfl, rfl, rfl, rfl, rfl, rfl, rfl, H⟩
   ·
    rintro f w ⟨v12, v13, hf0, hf1, hf2, hf3, hf7, hf8, hf9, H⟩
    obtain ⟨u19, rfl⟩ := up7 hf0 hf1 hf2 hf3 hf7 hf8 hf9
    refine Rg (Ad hinck1 (Mv (vi ((ik1 : Int) + 1)) (Nl ?_)))
    obtain rfl := sj hm2
    exact ⟨_, rfl, _, _, _, v12, v13, rfl, drop_next hdropk1, rfl, rfl, rfl, rfl, rfl, rfl, rfl, H⟩
  ·
   rintro ik1 _ f w ⟨z4, z5, z6, v6, v7, rfl, hdropk1, hf9, hf8, hf0, hf1, hf2, hf3, hf7, H⟩ hfin
   have hltk1 := drop_end hdropk1
   obtain ⟨u20, rfl⟩ := up7 hf9 hf8 hf0 hf1 hf2 hf3 hf7
   refine Sq (Rg (Ls (Nl (Sq (Cf (cb (decide_eq_false hltk1)) (Ex ?_))))))
   have hq : (z4, z5, z6) = (s1, s2, s3) := hfin
   obtain ⟨he0, hq0⟩ := Prod.mk.inj hq; clear hq; subst he0
   obtain ⟨he1, hq1⟩ := Prod.mk.inj hq0; clear hq0; subst he1
   subst hq1
   exact xT rfl ⟨v6, v7, rfl, rfl, rfl, rfl, H⟩
 ·
  rintro f w ⟨v10, v11, hf0, hf1, hf2, hf3, H⟩
  obtain ⟨u21, rfl⟩ := up4 hf0 hf1 hf2 hf3
  obtain ⟨rfl, rfl, rfl⟩ := j3 hm
  refine ends0 results141 ⟨_, _, rfl, H.keep [0, 1, 2, 3, 4, 5, 6] (pushItems b1 b2 b3 b4 v1 v10 v11 s1 a1 s2 s3) rfl (by decide), _, _, rfl, rfl⟩

set_option maxRecDepth 20000 in
theorem c_sight_graph_circle {w0 : World} (pa0 : Addr) (va0_0 : Value) (va0_1 : Value) (a0_0 : (List (GPoint × Int))) (a0_1 : (List GEdge)) (ha0 : ∀ j c, ([va0_0, va0_1] : List Value)[j]? = some c → w0.cell? (pa0.add j) = some c) (ra0_0 : MapR w0 va0_0 a0_0) (ra0_1 : SliceR w0 va0_1 a0_1) {r0 : Bool} {r1 : List Int} (hm : sight_graph_circle a0_0 a0_1 = some (r0, r1)) :
  Calls prog 106 #[(.pointer (some pa0))] w0 (Ret w0 fun w v => OwnR w0 w v 3 r1 ∧ NilB v r0) := by
 unfold sight_graph_circle at hm
 refine cW func106 ntmps106 ?_
 have H := Inv.start (w := w0)
 refine Sq (Rg ?_)
 have H := H.addNil (α := Int) (E := 3)
 refine As (.slice none 0 0) (Nl (Sq (Rg (Mv (.pointer (some pa0)) (Nk rfl (Fa fd203_0 rfl (Ld _ sc200 (cells_mono ha0 H.base 0 _ rfl) (O.lenM underlying200 (H.argM ra0_0) R R R (As (vi ((a0_0.length : Nat) : Int)) (Nl (Sq ?_)))))))))))
 obtain ⟨t1, ht1, hm⟩ := bind_some hm
 obtain ⟨t2, ht2, hm⟩ := bind_some hm
 have H := H.addGone
 have H := H.addGone
 have H := H.addGone
 have H := H.addGone
 have H := H.addGone
 have H := H.addGone
 refine W.drawD 7 [[], [0], [], [2], [], [], [0, 1, 4, 5]] [[1, 6], [6], [3], [], [6], [6], []] (fun S f w => ∃ v1 : Value, ∃ v2 : Value, ∃ b1 : Nat, ∃ b2 : Nat, (f 0 = (.pointer (some pa0)) ∧ f 3 = (vi ((a0_0.length : Nat) : Int))) ∧ Inv w0 w [o3 (.slice none 0 0) ([] : List Int), cond (S 1) (o3 v1 t1) goneI, cond (S 3) (o210 v2 t2) goneI, cond (S 6) (boxI b1 26 [v1]) (cond (S 4) (boxI b1 26 [(.slice none 0 0)]) goneI), cond (S 4) (o3 (.slice none 0 0) ([] : List Int)) goneI, cond (S 5) (boxI b2 201 [(.slice none 0 0)]) goneI, cond (S 5) (o210 (.slice none 0 0) ([] : List GEdge)) goneI] ∧ (S 0 = true → f 17 = (vi ((a0_0.length : Nat) : Int))) ∧ (S 1 = true → f 18 = v1) ∧ (S 2 = true → f 19 = (vi ((a0_0.length : Nat) : Int))) ∧ (S 3 = true → f 20 = v2) ∧ (S 4 = true → f 4 = (pt b1)) ∧ (S 5 = true → f 5 = (pt b2))) fol (by kernel_rfl) ?_ ?_ ?_
 ·
  exact fun d _ => ⟨.nilFunc, .nilFunc, 0, 0, ⟨rfl, rfl⟩, H.ext (below_drawn d), nF, nF, nF, nF, nF, nF⟩
 ·
  refine ⟨?_, ⟨?_, ⟨?_, ⟨?_, ⟨?_, ⟨?_, ⟨?_, trivial⟩⟩⟩⟩⟩⟩⟩
  ·
   rintro S f w hS - ⟨e1, e6, -⟩ ⟨v1, v2, b1, b2, k, H, q0, t⟩
   obtain ⟨u1, rfl⟩ := up1 k.2
   exact Mv (vi ((a0_0.length : Nat) : Int)) (Nl ⟨v1, v2, b1, b2, k, H, (fun _ => rfl), t⟩)
  ·
   rintro S f w hS ⟨e0, -⟩ ⟨e6, -⟩ ⟨_, v2, b1, b2, k, H, q0, q1, t⟩
   obtain ⟨u2, rfl⟩ := up1 (q0 e0)
   have H := (H.cF 1 hS rfl).cF 3 e6 rfl
   refine O.makeSlice underlying26 zel3 rfl H ht1 R R R R fun v1 w1 H hb1 => ?_
   have H := H.pick [0, 7, 2, 3, 4, 5, 6] [o3 (.slice none 0 0) ([] : List Int), o3 v1 t1, cond (S 3) (o210 v2 t2) goneI, cond (S 4) (boxI b1 26 [(.slice none 0 0)]) goneI, cond (S 4) (o3 (.slice none 0 0) ([] : List Int)) goneI, cond (S 5) (boxI b2 201 [(.slice none 0 0)]) goneI, cond (S 5) (o210 (.slice none 0 0) ([] : List GEdge)) goneI] rfl (by decide)
   exact Nl ⟨v1, v2, b1, b2, k, (H.rF 3 e6 rfl), q0, (fun _ => rfl), t⟩
  ·
   rintro S f w hS - ⟨e3, -⟩ ⟨v1, v2, b1, b2, k, H, q0, q1, q2, t⟩
   obtain ⟨u3, rfl⟩ := up1 k.2
   exact Mv (vi ((a0_0.length : Nat) : Int)) (Nl ⟨v1, v2, b1, b2, k, H, q0, q1, (fun _ => rfl), t⟩)
  ·
   rintro S f w hS ⟨e2, -⟩ - ⟨v1, _, b1, b2, k, H, q0, q1, q2, q3, t⟩
   obtain ⟨u4, rfl⟩ := up1 (q2 e2)
   have H := H.cF 2 hS rfl
   refine O.makeSlice underlying201 zel210 rfl H ht2 R R R R fun v2 w2 H hb2 => ?_
   have H := H.pick [0, 1, 7, 3, 4, 5, 6] [o3 (.slice none 0 0) ([] : List Int), cond (S 1) (o3 v1 t1) goneI, o210 v2 t2, cond (S 6) (boxI b1 26 [v1]) (cond (S 4) (boxI b1 26 [(.slice none 0 0)]) goneI), cond (S 4) (o3 (.slice none 0 0) ([] : List Int)) goneI, cond (S 5) (boxI b2 201 [(.slice none 0 0)]) goneI, cond (S 5) (o210 (.slice none 0 0) ([] : List GEdge)) goneI] rfl (by decide)
   exact Nl ⟨v1, v2, b1, b2, k, H, q0, q1, q2, (fun _ => rfl), t⟩
  ·
   rintro S f w hS - ⟨e6, -⟩ ⟨v1, v2, _, b2, k, H, q0, q1, q2, q3, q4, q5⟩
   have H := (H.cF 3 e6 rfl).cF 3 hS rfl
   refine Al [(.slice none 0 0)] ze26 H fun b1 w3 H hb3 => ?_
   have H := H.addNil (α := Int) (E := 3)
   have H := H.pick [0, 1, 2, 7, 8, 5, 6] [o3 (.slice none 0 0) ([] : List Int), cond (S 1) (o3 v1 t1) goneI, cond (S 3) (o210 v2 t2) goneI, boxI b1 26 [(.slice none 0 0)], o3 (.slice none 0 0) ([] : List Int), cond (S 5) (boxI b2 201 [(.slice none 0 0)]) goneI, cond (S 5) (o210 (.slice none 0 0) ([] : List GEdge)) goneI] rfl (by decide)
   exact Nl ⟨v1, v2, b1, b2, k, (H.rF 3 e6 rfl), q0, q1, q2, q3, (fun _ => rfl), q5⟩
  ·
   rintro S f w hS - ⟨e6, -⟩ ⟨v1, v2, b1, _, k, H, q0, q1, q2, q3, q4, q5⟩
   have H := H.cF 5 hS rfl
   refine Al [(.slice none 0 0)] ze201 H fun b2 w4 H hb4 => ?_
   have H := H.addNil (α := GEdge) (E := 210)
   have H := H.pick [0, 1, 2, 3, 4, 7, 8] [o3 (.slice none 0 0) ([] : List Int), cond (S 1) (o3 v1 t1) goneI, cond (S 3) (o210 v2 t2) goneI, cond (S 6) (boxI b1 26 [v1]) (cond (S 4) (boxI b1 26 [(.slice none 0 0)]) goneI), cond (S 4) (o3 (.slice none 0 0) ([] : List Int)) goneI, boxI b2 201 [(.slice none 0 0)], o210 (.slice none 0 0) ([] : List GEdge)] rfl (by decide)
   exact Nl ⟨v1, v2, b1, b2, k, H, q0, q1, q2, q3, q4, (fun _ => rfl)⟩
  ·
   rintro S f w hS ⟨e0, e1, e4, e5, -⟩ - ⟨v1, v2, b1, b2, k, H, q0, q1, q2, q3, q4, q5⟩
   obtain ⟨u5, rfl⟩ := up2 (q4 e4) (q1 e1)
   have H := ((H.cT 1 e1 rfl).cF 3 hS rfl).cT 3 e4 rfl
   exact St 3 0 [v1] [v1] sz26 H R R R R R (SliceR.cells1 (H.own 1 rfl)) ⟨⟨rfl, rfl⟩, rfl⟩ (one_cons (SliceR.one (H.own 1 rfl)) one_nil) fun w5 H => Nl ⟨v1, v2, b1, b2, k, (H.rT 1 e1 rfl), q0, q1, q2, q3, q4, q5⟩
 ·
  rintro S f w ⟨e0, e1, e2, e3, e4, e5, e6, -⟩ ⟨v1, v2, b1, b2, k, H, q0, q1, q2, q3, q4, q5⟩
  have H : Inv w0 w [o3 (.slice none 0 0) ([] : List Int), o3 v1 t1, o210 v2 t2, boxI b1 26 [v1], o3 (.slice none 0 0) ([] : List Int), boxI b2 201 [(.slice none 0 0)], o210 (.slice none 0 0) ([] : List GEdge)] := ((((((H.cT 1 e1 rfl).cT 2 e3 rfl).cT 3 e6 rfl).cT 4 e4 rfl).cT 5 e5 rfl).cT 6 e5 rfl)
  obtain ⟨u6, rfl⟩ := up5 k.1 k.2 (q4 e4) (q5 e5) (q3 e3)
  refine St 5 0 [v2] [v2] sz201 H R R R R R (SliceR.cells1 (H.own 2 rfl)) ⟨⟨rfl, rfl⟩, rfl⟩ (one_cons (SliceR.one (H.own 2 rfl)) one_nil) fun w6 H => Nl (Sq (Rg (Al [(vi 0)] ze3 H fun b3 w7 H hb5 => St 7 0 [(vi (-1))] [(vi (-1))] sz3 H R R (one_cons rfl one_nil) fun w8 H => Nl (Sq (Rg (Mv (.pointer (some pa0)) ?_))))))
  obtain ⟨t3, hy1, hm⟩ := bind_some hm
  refine Ca call140 (c_sight_graph_sorted _ _ _ a0_0 a0_1 (cells_mono ha0 H.base) (H.argM ra0_0) (H.arg ra0_1) hy1) ?_
  rintro v3 w9 hb6 ho1
  have H := H.addOwn hb6 ho1
  refine Al [(.slice none 0 0)] ze201 H fun b4 w10 H hb7 => ?_
  have H := H.addNil (α := GEdge) (E := 210)
  refine St 9 0 [v3] [v3] sz201 H R R R R R (SliceR.cells1 (H.own 8 rfl)) ⟨⟨rfl, rfl⟩, rfl⟩ (one_cons (SliceR.one (H.own 8 rfl)) one_nil) fun w11 H => Nl (Sq (Rg (Mf (As (.func (.func 141) #[] #[(pt b3), (pt b4), (pt b1), (pt b2)]) (Nl (Sq (Sq (Rg (Mv (vi ((a0_0.length : Nat) : Int)) ?_)))))))))
  obtain ⟨t4, ht4, hm⟩ := bind_some hm
  refine Ad ht4 (Mv (vi 0) (Nl ?_))
  obtain ⟨⟨s1, s2⟩, hm1, hm⟩ := bind_some hm
  refine Va (fun f w => ∃ v10 : Value, f 3 = (vi ((a0_0.length : Nat) : Int)) ∧ f 5 = (pt b2) ∧ f 6 = (pt b3) ∧ Inv w0 w [o210 v10 s1, boxI b2 201 [v10], boxI b3 3 [(vi s2)]]) ?_ ?_
  ·
   refine Bk ?_
   obtain ⟨hbdik1, hm1⟩ := chk_some hm1
   have H := H.keep [1, 2, 3, 5, 7, 8, 9] [o3 v1 t1, o210 v2 t2, boxI b1 26 [v1], boxI b2 201 [v2], boxI b3 3 [(vi (-1))], o210 v3 t3, boxI b4 201 [v3]] rfl (by decide)
   refine W.rangeN (i := 0) hm1 (fun rem ik1 s f w => ∃ z4 : (List Int), ∃ z5 : (List GEdge), ∃ z6 : Int, ∃ v6 : Value, ∃ v7 : Value, (z4, z5, z6) = s ∧ (ik1 : Int) + rem = max 0 t4 ∧ f 26 = .int .i64 (ik1 : Int) ∧ f 25 = (vi t4) ∧ f 3 = (vi ((a0_0.length : Nat) : Int)) ∧ f 5 = (pt b2) ∧ f 6 = (pt b3) ∧ f 8 = (.func (.func 141) #[] #[(pt b3), (pt b4), (pt b1), (pt b2)]) ∧ Inv w0 w [o3 v6 z4, o210 v7 z5, boxI b1 26 [v6], boxI b2 201 [v7], boxI b3 3 [(vi z6)], o210 v3 t3, boxI b4 201 [v3]]) ?_ ?_ ?_
   ·
    exact ⟨_, _, _, v1, v2, rfl, rangeN_start, rfl, rfl, rfl, rfl, rfl, rfl, H⟩
   ·
    rintro k ik1 _ st f w ⟨z4, z5, z6, v6, v7, rfl, hdropk1, hf26, hf25, hf3, hf5, hf6, hf8, H⟩ hm2
    have hltk1 := rangeN_lt hdropk1
    obtain ⟨u7, rfl⟩ := up6 hf26 hf25 hf3 hf5 hf6 hf8
    have hinck1 := addI_lt hltk1 (inI_iff.1 hbdik1).2
    refine Sq (Rg (Ls (Nl (Sq (Ct (cb (decide_eq_true hltk1)) (Sk (Sq (Bk (Rg (Mv (.func (.func 141) #[] #[(pt b3), (pt b4), (pt b1), (pt b2)]) ?_))))))))))
    obtain ⟨⟨t5, t6, t7⟩, hy2, hm2⟩ := bind_some hm2
    have H := H.pick [4, 6, 2, 3, 5, 0, 1] ([] ++ (pushItems b3 b4 b1 b2 v3 v6 v7 z6 t3 z4 z5)) rfl (by decide)
    refine O.callFV [] (pushItems b3 b4 b1 b2 v3 v6 v7 z6 t3 z4 z5) H call141 R R R R (c_push b3 b4 b1 b2 v3 v6 v7 z6 t3 z4 z5 (InvD.frame H) hy2) fun vq w12 Lq H hvq => ?_
    obtain ⟨v11, v12, rfl, rfl⟩ := hvq
    have H := H.pick [5, 6, 2, 3, 0, 4, 1] [o3 v11 t5, o210 v12 t6, boxI b1 26 [v11], boxI b2 201 [v12], boxI b3 3 [(vi t7)], o210 v3 t3, boxI b4 201 [v3]] rfl (by decide)
    refine Nl (Rg (Ad hinck1 (Mv (vi ((ik1 : Int) + 1)) (Nl ?_))))
    obtain rfl := sj hm2
    exact ⟨_, rfl, _, _, _, v11, v12, rfl, rangeN_next hdropk1, rfl, rfl, rfl, rfl, rfl, rfl, H⟩
   ·
    rintro ik1 _ f w ⟨z4, z5, z6, v6, v7, rfl, hdropk1, hf26, hf25, hf3, hf5, hf6, hf8, H⟩ hfin
    have hltk1 := rangeN_end hdropk1
    obtain ⟨u8, rfl⟩ := up6 hf26 hf25 hf3 hf5 hf6 hf8
    refine Sq (Rg (Ls (Nl (Sq (Cf (cb (decide_eq_false hltk1)) (Ex ?_))))))
    have hq : (z5, z6) = (s1, s2) := hfin
    obtain ⟨he0, hq0⟩ := Prod.mk.inj hq; clear hq; subst he0
    subst hq0
    have H := H.keep [1, 3, 4] [o210 v7 z5, boxI b2 201 [v7], boxI b3 3 [(vi z6)]] rfl (by decide)
    exact xT rfl ⟨v7, rfl, rfl, rfl, H⟩
  ·
   rintro f w ⟨v10, hf3, hf5, hf6, H⟩
   obtain ⟨u9, rfl⟩ := up3 hf3 hf5 hf6
   refine Sq (Sq (Rg (Ld _ sc3 (H.cell 2 rfl 0 _ rfl) (Ls (Nl ?_)))))
   rcases ite_some hm with ⟨hc1, hm⟩ | ⟨hc1, hm⟩
   ·
    refine Ct (cb hc1) (Sq (Rg ?_))
    have H := H.addNil (α := Int) (E := 3)
    refine As (.slice none 0 0) (Nl (Rt ?_))
    obtain ⟨rfl, rfl⟩ := j2 hm
    exact ends1 results106 rfl ⟨_, rfl, H.base, ⟨H.ownR 3 rfl, ⟨_, _, _, rfl, rfl⟩⟩⟩
   ·
    refine Cf (cb hc1) (Sk (Sq (Sq (Rg (Mv (vi ((a0_0.length : Nat) : Int)) (Mv (vi 0) (Nl ?_)))))))
    obtain ⟨s3, hm3, hm⟩ := bind_some hm
    refine Va (fun f w => f 5 = (pt b2) ∧ f 6 = (pt b3) ∧ Inv w0 w [o210 v10 s1, boxI b2 201 [v10], boxI b3 3 [(vi s3)]]) ?_ ?_
    ·
     refine Bk ?_
     obtain ⟨hbdik2, hm3⟩ := chk_some hm3
     refine W.rangeN (i := 0) hm3 (fun rem ik2 s f w => ∃ z11 : Int, z11 = s ∧ (ik2 : Int) + rem = max 0 ((a0_0.length : Nat) : Int) ∧ f 34 = .int .i64 (ik2 : Int) ∧ f 33 = (vi ((a0_0.length : Nat) : Int)) ∧ f 5 = (pt b2) ∧ f 6 = (pt b3) ∧ Inv w0 w [o210 v10 s1, boxI b2 201 [v10], boxI b3 3 [(vi z11)]]) ?_ ?_ ?_
     ·
      exact ⟨_, rfl, rangeN_start, rfl, rfl, rfl, rfl, H⟩
     ·
      rintro k ik2 _ st f w ⟨z11, rfl, hdropk2, hf34, hf33, hf5, hf6, H⟩ hm4
      have hltk2 := rangeN_lt hdropk2
      obtain ⟨u10, rfl⟩ := up4 hf34 hf33 hf5 hf6
      have hinck2 := addI_lt hltk2 (inI_iff.1 hbdik2).2
      refine Sq (Rg (Ls (Nl (Sq (Ct (cb (decide_eq_true hltk2)) (Sk (Sq (Bk (Rg (Ld _ sc201 (H.cell 1 rfl 0 _ rfl) (Ld _ sc3 (H.cell 2 rfl 0 _ rfl) ?_)))))))))))
      obtain ⟨x1, hx1, hm4⟩ := bind_some hm4
      refine Ia underlying201 sz210 (H.own 0 rfl) hx1 fun p1 hp1 => Fa fd210_0 rfl (Ld _ sc3 (hp1.flat 0 _ rfl) (St 2 0 [(vi x1.from_)] [(vi x1.from_)] sz3 H R R (one_cons rfl one_nil) fun w13 H => ?_))
      clear hp1
      refine Nl (Rg (Ad hinck2 (Mv (vi ((ik2 : Int) + 1)) (Nl ?_))))
      obtain rfl := sj hm4
      exact ⟨_, rfl, _, rfl, rangeN_next hdropk2, rfl, rfl, rfl, rfl, H⟩
     ·
      rintro ik2 _ f w ⟨z11, rfl, hdropk2, hf34, hf33, hf5, hf6, H⟩ hfin
      have hltk2 := rangeN_end hdropk2
      obtain ⟨u11, rfl⟩ := up4 hf34 hf33 hf5 hf6
      refine Sq (Rg (Ls (Nl (Sq (Cf (cb (decide_eq_false hltk2)) (Ex ?_))))))
      have hq : z11 = s3 := hfin
      subst hq
      exact xT rfl ⟨rfl, rfl, H⟩
    ·
     rintro f w ⟨hf5, hf6, H⟩
     obtain ⟨u12, rfl⟩ := up2 hf5 hf6
     refine Sq (Rg ?_)
     have H := H.addNil (α := Int) (E := 3)
     refine As (.slice none 0 0) (Nl (Sq (Sq (Rg (Ld _ sc3 (H.cell 2 rfl 0 _ rfl) (As (vi s3) (Nl ?_)))))))
     obtain ⟨s4, hm5, hm⟩ := bind_some hm
     refine Va (fun f w => ∃ v16 : Value, f 9 = v16 ∧ Inv w0 w [o3 v16 s4]) ?_ ?_
     ·
      refine Bk ?_
      refine W.loopR hm5 (fun s f w => ∃ z15 : Int, ∃ z16 : (List Int), ∃ v14 : Value, (z15, z16) = s ∧ f 5 = (pt b2) ∧ f 6 = (pt b3) ∧ f 9 = v14 ∧ f 10 = (vi z15) ∧ Inv w0 w [o210 v10 s1, boxI b2 201 [v10], boxI b3 3 [(vi s3)], o3 v14 z16]) ?_ ?_
      ·
       exact ⟨_, _, (.slice none 0 0), rfl, rfl, rfl, rfl, rfl, H⟩
      ·
       rintro _ st f w ⟨z15, z16, v14, rfl, hf5, hf6, hf9, hf10, H⟩ hm6
       obtain ⟨u13, rfl⟩ := up4 hf5 hf6 hf9 hf10
       refine Bk (Sq (Sq (Rg (Ld _ sc201 (H.cell 1 rfl 0 _ rfl) (Mv (vi z15) ?_)))))
       obtain ⟨x2, hx2, hm6⟩ := bind_some hm6
       refine Ia underlying201 sz210 (H.own 0 rfl) hx2 fun p2 hp2 => Fa fd210_3 rfl (Ld _ sc3 (hp2.flat 3 _ rfl) (As (vi x2.number) (Nl (Sq (Rg (Mv (vi x2.number) (Ge_ (Nl ?_))))))))
       obtain ⟨s5, hm7, hm6⟩ := bind_some hm6
       refine Va (fun f w => ∃ v17 : Value, f 5 = (pt b2) ∧ f 6 = (pt b3) ∧ f 9 = v17 ∧ f 10 = (vi z15) ∧ Inv w0 w [o210 v10 s1, boxI b2 201 [v10], boxI b3 3 [(vi s3)], o3 v17 s5]) ?_ ?_
       ·
        rcases ite_some hm7 with ⟨hc2, hm7⟩ | ⟨hc2, hm7⟩
        ·
         refine Ct (cb hc2) (Rg (Mv v14 (Mv (vi x2.number) (Bs (α := Int) [(vi x2.number)] [x2.number] underlying26 el3 H fun v18 w14 H hb8 => ?_))))
         have hp2 := hp2.mono hb8
         obtain ⟨t8, ht8, hm7⟩ := bind_some hm7
         refine Ap 3 underlying26 el3 H rfl (H.own 4 rfl) ht8 fun v19 w15 H => ?_
         clear hp2
         refine As v19 (Nl ?_)
         have H := H.keep [0, 1, 2, 3] [o210 v10 s1, boxI b2 201 [v10], boxI b3 3 [(vi s3)], o3 v19 t8] rfl (by decide)
         obtain rfl := sj hm7
         exact ⟨v19, rfl, rfl, rfl, rfl, H⟩
        ·
         refine Cf (cb hc2) (Sk ?_)
         obtain rfl := sj hm7
         exact ⟨v14, rfl, rfl, rfl, rfl, H⟩
       ·
        rintro f w ⟨v17, hf5, hf6, hf9, hf10, H⟩
        obtain ⟨u14, rfl⟩ := up4 hf5 hf6 hf9 hf10
        refine Sq (Rg (Ld _ sc201 (H.cell 1 rfl 0 _ rfl) (Mv (vi z15) ?_)))
        obtain ⟨x3, hx3, hm6⟩ := bind_some hm6
        refine Ia underlying201 sz210 (H.own 0 rfl) hx3 fun p3 hp3 => Fa fd210_0 rfl (Ld _ sc3 (hp3.flat 0 _ rfl) (As (vi x3.from_) (Nl (Sq (Rg (Mv (vi x3.from_) (Ld _ sc3 (H.cell 2 rfl 0 _ rfl) (Eq_ (Nl ?_)))))))))
        rcases ite_some hm6 with ⟨hc3, hm6⟩ | ⟨hc3, hm6⟩
        ·
         refine Ct (cb hc3) (Ex (xF rfl ?_))
         obtain rfl := sj hm6
         refine ⟨_, rfl, ?_⟩
         intro hy
         have hq : s5 = s4 := hy
         subst hq
         have H := H.keep [3] [o3 v17 s5] rfl (by decide)
         exact xT rfl ⟨v17, rfl, H⟩
        ·
         refine Cf (cb hc3) (Sk ?_)
         obtain rfl := sj hm6
         exact ⟨_, rfl, _, _, v17, rfl, rfl, rfl, rfl, rfl, H⟩
     ·
      rintro f w ⟨v16, hf9, H⟩
      obtain ⟨u15, rfl⟩ := up1 hf9
      refine Sq (Rg (Mv v16 ?_))
      obtain ⟨t9, hy3, hm⟩ := bind_some hm
      refine O.turnI2 0 H rfl rev_turns hy3 call142 R R R fun w16 H => Nl (Sq (Rg (Mv v16 (As v16 (Nl (Rt ?_))))))
      obtain ⟨hne, hm⟩ := ne_some hm
      obtain ⟨rfl, rfl⟩ := j2 hm
      exact ends1 results106 rfl ⟨_, rfl, H.base, ⟨H.ownR 0 rfl, nilB_of (H.ownR 0 rfl) hne⟩⟩

end Go.Proofs
