/-
  The walks: each function does what its model says, where the model has a value. No other condition.
-/
import Derived.Test.YtijjocfjgpibjaaDoorRows
import Derived.Test.YtijjocfjgpibjaaDoorM
import Derived.Test.YtijjocfjgpibjaaDoorFwZ
import Derived.Test.YtijjocfjgpibjaaDoorShelf
import Derived.Test.YtijjocfjgpibjaaDoorShelf2
import Derived.Test.YtijjocfjgpibjaaDoorFwUp
namespace Go.Proofs
open Go.Fw Go.RowKit Go.Shelf
theorem bd69_0_1 : ∀ (v0 : Int) (v1 : Bool) (w : World), (Instr.build 69 #[(0, (.int .i64 v0)), (1, (.bool v1))]).run Tryd.prog w = .ok (.agg #[(.int .i64 v0), (.bool v1)]) w := by
  intro v0 v1 w
  simp [Instr.build, Tryd.zeroValue69, Tryd.runUnderlying69, Instr.fill, Tryd.sizeOf3, Tryd.sizeOf4, Value.cells]
theorem eq69 : EqT Tryd.prog 69 GKey := by
  refine ⟨Tryd.eqGuardType69, ?_⟩
  intro a b w
  obtain ⟨a0, a1⟩ := a
  obtain ⟨b0, b1⟩ := b
  have hs : Tryd.prog.underlying 69 = some (.struct (Tryd.prog.fieldsOf 69)) := by kernel_rfl
  rw [run_equalIn_agg w 9999 69 _ _ hs Tryd.stoodInHeld69]
  simp only [Program.fieldsOf, Tryd.underlying69]
  simp [Op.eqFields, Flat.cells, part, Tryd.isAgg3, Tryd.isAgg4, run_equalIn_bool' _ _ _ _ _ Tryd.underlying4, run_equalIn_int _ _ _ _ _ _ _ Tryd.underlying3]
  cases h0 : decide (a0 = b0) <;> cases h1 : decide (a1 = b1) <;> simp_all
theorem ck69 : ∀ (n : Nat) (k : GKey) (b : Bool) (w : World), (Instr.checkKey b (n + 1 + 1) 69 (.agg (Flat.cells k).toArray)).run Tryd.prog w = .ok () w := by
  intro n k b w
  obtain ⟨k0, k1⟩ := k
  simp only [Instr.checkKey, Sem.run_bind, run_underlying Tryd.underlying69, Result.andThen_ok]
  simp [Flat.cells, part, Tryd.isAgg3, Tryd.isAgg4]
theorem st69 : ∀ (n : Nat) (k : GKey), Instr.sameBits (n + 1) (.agg (Flat.cells k).toArray) (.agg (Flat.cells k).toArray) = true := by
  intro n k
  obtain ⟨k0, k1⟩ := k
  simp [Instr.sameBits, Flat.cells]
theorem key69 : KeyT Tryd.prog 69 GKey := KeyT.struct Tryd.underlying69 (fun k b w => ck69 9998 k b w) (fun a b w => eq69.2 a b w) (fun k => st69 9999 k)
theorem ze3 : ZeroT Tryd.prog 3 (.int .i64 (0)) := ZeroT.mk (by kernel_rfl)
theorem sc3 : ScalarT Tryd.prog 3 := ScalarT.mk Tryd.underlying3 rfl
theorem sz34 : SizeT Tryd.prog 34 3 := SizeT.mk (by kernel_rfl)
theorem ag34 : AggT Tryd.prog 34 3 := AggT.mk Tryd.underlying34 rfl (by kernel_rfl)
theorem fd34_0 : FieldT Tryd.prog 34 0 0 := FieldT.mk (k := 1) Tryd.underlying34 rfl rfl (by kernel_rfl) (by decide)
theorem fd34_2 : FieldT Tryd.prog 34 2 2 := FieldT.mk (k := 1) Tryd.underlying34 rfl rfl (by kernel_rfl) (by decide)
theorem ze69 : ZeroT Tryd.prog 69 (.agg #[(.int .i64 (0)), (.bool false)]) := ZeroT.mk (by kernel_rfl)
theorem fd34_1 : FieldT Tryd.prog 34 1 1 := FieldT.mk (k := 1) Tryd.underlying34 rfl rfl (by kernel_rfl) (by decide)
theorem sc4 : ScalarT Tryd.prog 4 := ScalarT.mk Tryd.underlying4 rfl
theorem sz69 : SizeT Tryd.prog 69 2 := SizeT.mk (by kernel_rfl)
theorem ag69 : AggT Tryd.prog 69 2 := AggT.mk Tryd.underlying69 rfl (by kernel_rfl)
theorem ze34 : ZeroT Tryd.prog 34 (.agg #[(.int .i64 (0)), (.bool false), (.int .i64 (0))]) := ZeroT.mk (by kernel_rfl)
theorem fol : Tryd.prog.follows .mixedOrders = true := by kernel_rfl
theorem ze4 : ZeroT Tryd.prog 4 (.bool false) := ZeroT.mk (by kernel_rfl)
theorem el3 : ElemT Tryd.prog 3 1 8 := ElemT.mk (z := (.int .i64 (0))) (by kernel_rfl) rfl
theorem sz3 : SizeT Tryd.prog 3 1 := SizeT.mk (by kernel_rfl)
theorem bd34_0_2 : ∀ (v0 : Int) (v2 : Int) (w : World), (Instr.build 34 #[(0, (.int .i64 v0)), (2, (.int .i64 v2))]).run Tryd.prog w = .ok (.agg #[(.int .i64 v0), (.bool false), (.int .i64 v2)]) w := by
  intro v0 v2 w
  simp [Instr.build, Tryd.zeroValue34, Tryd.runUnderlying34, Instr.fill, Tryd.sizeOf3, Tryd.sizeOf4, Value.cells]
theorem bd34_0_1_2 : ∀ (v0 : Int) (v1 : Bool) (v2 : Int) (w : World), (Instr.build 34 #[(0, (.int .i64 v0)), (1, (.bool v1)), (2, (.int .i64 v2))]).run Tryd.prog w = .ok (.agg #[(.int .i64 v0), (.bool v1), (.int .i64 v2)]) w := by
  intro v0 v1 v2 w
  simp [Instr.build, Tryd.zeroValue34, Tryd.runUnderlying34, Instr.fill, Tryd.sizeOf3, Tryd.sizeOf4, Value.cells]
theorem el34 : ElemT Tryd.prog 34 3 24 := ElemT.mk (z := (.agg #[(.int .i64 (0)), (.bool false), (.int .i64 (0))])) (by kernel_rfl) rfl
theorem sz9 : SizeT Tryd.prog 9 1 := SizeT.mk (by kernel_rfl)
theorem sc9 : ScalarT Tryd.prog 9 := ScalarT.mk Tryd.underlying9 rfl
theorem bd34_1 : ∀ (v1 : Bool) (w : World), (Instr.build 34 #[(1, (.bool v1))]).run Tryd.prog w = .ok (.agg #[(.int .i64 0), (.bool v1), (.int .i64 0)]) w := by
  intro v1 w
  simp [Instr.build, Tryd.zeroValue34, Tryd.runUnderlying34, Instr.fill, Tryd.sizeOf3, Tryd.sizeOf4, Value.cells]
theorem eq34 : EqT Tryd.prog 34 GEntry := by
  refine ⟨Tryd.eqGuardType34, ?_⟩
  intro a b w
  obtain ⟨a0, a1, a2⟩ := a
  obtain ⟨b0, b1, b2⟩ := b
  have hs : Tryd.prog.underlying 34 = some (.struct (Tryd.prog.fieldsOf 34)) := by kernel_rfl
  rw [run_equalIn_agg w 9999 34 _ _ hs Tryd.stoodInHeld34]
  simp only [Program.fieldsOf, Tryd.underlying34]
  simp [Op.eqFields, Flat.cells, part, Tryd.isAgg3, Tryd.isAgg4, run_equalIn_bool' _ _ _ _ _ Tryd.underlying4, run_equalIn_int _ _ _ _ _ _ _ Tryd.underlying3]
  cases h0 : decide (a0 = b0) <;> cases h1 : decide (a1 = b1) <;> cases h2 : decide (a2 = b2) <;> simp_all
theorem c_noongunlaw09_fit {w0 : World} (va0 : Value) (a0 : (List GEntry)) (ha0 : SliceR w0 va0 a0) {r0 : Bool} (hm : noongunlaw09_fit a0 = some r0) :
  Calls Tryd.prog 5 #[va0] w0 (Ret w0 fun _ v => v = (.bool r0)) := by
 unfold noongunlaw09_fit at hm
 refine calls_of_W Tryd.func5 rfl Tryd.ntmps5 (Nat.le_of_ble_eq_true rfl) ?_
 have H := Inv.start (w := w0)
 refine W.seq ?_
 refine W.region ?_
 refine O.assign (v := (.bool false)) rfl rfl rfl ?_
 refine WL.nil ?_
 refine W.seq ?_
 refine W.region ?_
 refine O.move (v := va0) rfl rfl rfl ?_
 refine O.lenS Tryd.underlying22 (H.arg ha0) rfl rfl rfl ?_
 refine O.leq rfl rfl rfl rfl ?_
 refine O.move (v := (.bool (decide (((a0.length : Nat) : Int) ≤ 30)))) rfl rfl rfl ?_
 refine WL.cut 9 (fun f w => f 15 = .bool ((decide (((a0.length : Nat) : Int) ≤ 30)) || ((decide (1000 ≤ ((a0.length : Nat) : Int))) && (decide (((a0.length : Nat) : Int) ≤ 1003)))) ∧ Inv w0 w []) ?_ ?_
 ·
  rcases bool_ft (decide (((a0.length : Nat) : Int) ≤ 30)) with hc1 | hc1
  ·
   refine WL.reset (i := 6) (v := .bool false) (congrArg Value.bool hc1) ?_
   refine O.move (v := va0) rfl rfl rfl ?_
   refine O.lenS Tryd.underlying22 (H.arg ha0) rfl rfl rfl ?_
   refine O.geq rfl rfl rfl rfl ?_
   refine O.move (v := (.bool (decide (1000 ≤ ((a0.length : Nat) : Int))))) rfl rfl rfl ?_
   refine WL.cut 4 (fun f w => f 6 = (.bool false) ∧ f 14 = .bool ((decide (1000 ≤ ((a0.length : Nat) : Int))) && (decide (((a0.length : Nat) : Int) ≤ 1003))) ∧ Inv w0 w []) ?_ ?_
   ·
    rcases bool_ft (decide (1000 ≤ ((a0.length : Nat) : Int))) with hc2 | hc2
    ·
     refine WL.reset (i := 10) (v := .bool false) (congrArg Value.bool hc2) ?_
     refine O.skip rfl rfl ?_
     refine O.skip rfl rfl ?_
     refine O.skip rfl rfl ?_
     refine O.pick_false (v := (.bool false)) rfl rfl rfl rfl ?_
     exact WL.nil ⟨rfl, congrArg Value.bool (and_f hc2), H⟩
    ·
     refine WL.reset (i := 10) (v := .bool true) (congrArg Value.bool hc2) ?_
     refine O.move (v := va0) rfl rfl rfl ?_
     refine O.lenS Tryd.underlying22 (H.arg ha0) rfl rfl rfl ?_
     refine O.leq rfl rfl rfl rfl ?_
     refine O.pick_true (v := (.bool (decide (((a0.length : Nat) : Int) ≤ 1003)))) rfl rfl rfl rfl ?_
     exact WL.nil ⟨rfl, congrArg Value.bool (and_t hc2), H⟩
   ·
    rintro f w ⟨hf6, hf14, H⟩
    obtain ⟨u1, rfl⟩ := up2 hf6 hf14
    refine O.pick_false (v := (.bool ((decide (1000 ≤ ((a0.length : Nat) : Int))) && (decide (((a0.length : Nat) : Int) ≤ 1003))))) rfl rfl rfl rfl ?_
    exact WL.nil ⟨congrArg Value.bool (or_f hc1), H⟩
  ·
   refine WL.reset (i := 6) (v := .bool true) (congrArg Value.bool hc1) ?_
   refine O.skip rfl rfl ?_
   refine O.skip rfl rfl ?_
   refine O.skip rfl rfl ?_
   refine O.skip rfl rfl ?_
   refine O.skip rfl rfl ?_
   refine O.skip rfl rfl ?_
   refine O.skip rfl rfl ?_
   refine O.skip rfl rfl ?_
   refine O.pick_true (v := (.bool true)) rfl rfl rfl rfl ?_
   exact WL.nil ⟨congrArg Value.bool (or_t hc1), H⟩
 ·
  rintro f w ⟨hf15, H⟩
  obtain ⟨u2, rfl⟩ := up1 hf15
  refine O.assign (v := (.bool ((decide (((a0.length : Nat) : Int) ≤ 30)) || ((decide (1000 ≤ ((a0.length : Nat) : Int))) && (decide (((a0.length : Nat) : Int) ≤ 1003)))))) rfl rfl rfl ?_
  refine WL.nil ?_
  refine W.ret ?_
  have hq : ((decide (((a0.length : Nat) : Int) ≤ 30)) || ((decide (1000 ≤ ((a0.length : Nat) : Int))) && (decide (((a0.length : Nat) : Int) ≤ 1003)))) = r0 := Option.some.inj (show some ((decide (((a0.length : Nat) : Int) ≤ 30)) || ((decide (1000 ≤ ((a0.length : Nat) : Int))) && (decide (((a0.length : Nat) : Int) ≤ 1003)))) = some r0 from hm)
  subst hq
  exact ends1 Tryd.results5 rfl ⟨_, rfl, H.base, rfl⟩

theorem c_ledger_page_off {w0 : World} (va0 : Value) (a0 : (List (GKey × Int))) (ha0 : MapR w0 va0 a0) (a1 : Int) {r0 : Int} {r1 : Bool} (hm : ledger_page_off a0 a1 = some (r0, r1)) :
  Calls Tryd.prog 35 #[va0, (.int .i64 a1)] w0 (Ret w0 fun _ v => v = .tuple #[(.int .i64 r0), (.bool r1)]) := by
 unfold ledger_page_off at hm
 refine calls_of_W Tryd.func35 rfl Tryd.ntmps35 (Nat.le_of_ble_eq_true rfl) ?_
 have H := Inv.start (w := w0)
 refine W.seq ?_
 refine W.region ?_
 refine O.assign (v := (.int .i64 0)) rfl rfl rfl ?_
 refine O.assign (v := (.bool false)) rfl rfl rfl ?_
 refine WL.nil ?_
 refine W.seq ?_
 refine W.region ?_
 refine O.move (v := va0) rfl rfl rfl ?_
 refine O.move (v := (.int .i64 a1)) rfl rfl rfl ?_
 refine O.build (v := (.agg (Flat.cells (GKey.mk a1 false)).toArray)) (fun w => bd69_0_1 _ _ w) rfl rfl rfl ?_
 refine O.lookup2 (z := 0) (GKey.mk a1 false) Tryd.underlying63 key69 ze3 (H.argM ha0) rfl rfl rfl rfl ?_
 refine O.move (v := (.tuple #[(.int .i64 ((mget a0 (GKey.mk a1 false)).getD 0)), (.bool (mget a0 (GKey.mk a1 false)).isSome)])) rfl rfl rfl ?_
 refine O.extract (v := (.int .i64 ((mget a0 (GKey.mk a1 false)).getD 0))) rfl rfl rfl rfl ?_
 refine O.extract (v := (.bool (mget a0 (GKey.mk a1 false)).isSome)) rfl rfl rfl rfl ?_
 refine O.assign (v := (.int .i64 ((mget a0 (GKey.mk a1 false)).getD 0))) rfl rfl rfl ?_
 refine O.assign (v := (.bool (mget a0 (GKey.mk a1 false)).isSome)) rfl rfl rfl ?_
 refine WL.nil ?_
 refine W.seq ?_
 refine W.region ?_
 refine O.move (v := va0) rfl rfl rfl ?_
 refine O.move (v := (.int .i64 a1)) rfl rfl rfl ?_
 refine O.build (v := (.agg (Flat.cells (GKey.mk a1 true)).toArray)) (fun w => bd69_0_1 _ _ w) rfl rfl rfl ?_
 refine O.lookup2 (z := 0) (GKey.mk a1 true) Tryd.underlying63 key69 ze3 (H.argM ha0) rfl rfl rfl rfl ?_
 refine O.move (v := (.tuple #[(.int .i64 ((mget a0 (GKey.mk a1 true)).getD 0)), (.bool (mget a0 (GKey.mk a1 true)).isSome)])) rfl rfl rfl ?_
 refine O.extract (v := (.int .i64 ((mget a0 (GKey.mk a1 true)).getD 0))) rfl rfl rfl rfl ?_
 refine O.extract (v := (.bool (mget a0 (GKey.mk a1 true)).isSome)) rfl rfl rfl rfl ?_
 refine O.assign (v := (.int .i64 ((mget a0 (GKey.mk a1 true)).getD 0))) rfl rfl rfl ?_
 refine O.assign (v := (.bool (mget a0 (GKey.mk a1 true)).isSome)) rfl rfl rfl ?_
 refine WL.nil ?_
 refine W.seq ?_
 refine W.region ?_
 refine O.move (v := (.int .i64 ((mget a0 (GKey.mk a1 true)).getD 0))) rfl rfl rfl ?_
 refine O.move (v := (.int .i64 ((mget a0 (GKey.mk a1 false)).getD 0))) rfl rfl rfl ?_
 obtain ⟨t1, ht1, hm⟩ := bind_some hm
 refine O.sub rfl rfl rfl rfl ht1 ?_
 refine O.move (v := (.bool (mget a0 (GKey.mk a1 false)).isSome)) rfl rfl rfl ?_
 refine O.move (v := (.bool (mget a0 (GKey.mk a1 false)).isSome)) rfl rfl rfl ?_
 refine WL.cut 2 (fun f w => f 26 = (.int .i64 t1) ∧ f 30 = .bool ((mget a0 (GKey.mk a1 false)).isSome && (mget a0 (GKey.mk a1 true)).isSome) ∧ Inv w0 w []) ?_ ?_
 ·
  rcases bool_ft (mget a0 (GKey.mk a1 false)).isSome with hc1 | hc1
  ·
   refine WL.reset (i := 28) (v := .bool false) (congrArg Value.bool hc1) ?_
   refine O.skip rfl rfl ?_
   refine O.pick_false (v := (.bool false)) rfl rfl rfl rfl ?_
   exact WL.nil ⟨rfl, congrArg Value.bool (and_f hc1), H⟩
  ·
   refine WL.reset (i := 28) (v := .bool true) (congrArg Value.bool hc1) ?_
   refine O.move (v := (.bool (mget a0 (GKey.mk a1 true)).isSome)) rfl rfl rfl ?_
   refine O.pick_true (v := (.bool (mget a0 (GKey.mk a1 true)).isSome)) rfl rfl rfl rfl ?_
   exact WL.nil ⟨rfl, congrArg Value.bool (and_t hc1), H⟩
 ·
  rintro f w ⟨hf26, hf30, H⟩
  obtain ⟨u1, rfl⟩ := up2 hf26 hf30
  refine O.assign (v := (.int .i64 t1)) rfl rfl rfl ?_
  refine O.assign (v := (.bool ((mget a0 (GKey.mk a1 false)).isSome && (mget a0 (GKey.mk a1 true)).isSome))) rfl rfl rfl ?_
  refine WL.nil ?_
  refine W.ret ?_
  have hq : (t1, ((mget a0 (GKey.mk a1 false)).isSome && (mget a0 (GKey.mk a1 true)).isSome)) = (r0, r1) := Option.some.inj (show some (t1, ((mget a0 (GKey.mk a1 false)).isSome && (mget a0 (GKey.mk a1 true)).isSome)) = some (r0, r1) from hm)
  obtain ⟨he0, hq0⟩ := Prod.mk.inj hq; clear hq; subst he0
  subst hq0
  exact ends2 Tryd.results35 rfl rfl ⟨_, rfl, H.base, rfl⟩

theorem c_ledger_Off_c1 {w0 : World} (va0 : Value) (a0 : (List (GKey × Int))) (ha0 : MapR w0 va0 a0) (pc0 : Addr) (c0 : Int) (hc0 : ∀ j c, (Flat.cells c0)[j]? = some c → w0.cell? (pc0.add j) = some c) {r0 : Int} {r1 : Bool} (hm : ledger_Off_c1 a0 c0 = some (r0, r1)) :
  Calls Tryd.prog 34 #[va0, (.pointer (some pc0))] w0 (Ret w0 fun _ v => v = .tuple #[(.int .i64 r0), (.bool r1)]) := by
 unfold ledger_Off_c1 at hm
 refine calls_of_W Tryd.func34 rfl Tryd.ntmps34 (Nat.le_of_ble_eq_true rfl) ?_
 have H := Inv.start (w := w0)
 refine W.seq ?_
 refine W.region ?_
 refine O.assign (v := (.int .i64 0)) rfl rfl rfl ?_
 refine O.assign (v := (.bool false)) rfl rfl rfl ?_
 refine WL.nil ?_
 refine W.seq ?_
 refine W.region ?_
 refine O.move (v := va0) rfl rfl rfl ?_
 refine O.load sc3 rfl rfl rfl (cells_mono hc0 H.base 0 _ rfl) ?_
 obtain ⟨⟨t1, t2⟩, hy1, hm⟩ := bind_some hm
 refine O.call Tryd.call35 rfl rfl rfl (c_ledger_page_off _ _ (H.argM ha0) _ hy1) ?_
 rintro _ w1 hb1 rfl
 have H := H.ext hb1
 refine O.extract (v := (.int .i64 t1)) rfl rfl rfl rfl ?_
 refine O.extract (v := (.bool t2)) rfl rfl rfl rfl ?_
 refine O.assign (v := (.int .i64 t1)) rfl rfl rfl ?_
 refine O.assign (v := (.bool t2)) rfl rfl rfl ?_
 refine WL.nil ?_
 refine W.ret ?_
 have hq : (t1, t2) = (r0, r1) := Option.some.inj (show some (t1, t2) = some (r0, r1) from hm)
 obtain ⟨he0, hq0⟩ := Prod.mk.inj hq; clear hq; subst he0
 subst hq0
 exact ends2 Tryd.results34 rfl rfl ⟨_, rfl, H.base, rfl⟩

theorem c_slices_IndexFunc_Entry {w0 : World} (va0 : Value) (a0 : (List GEntry)) (ha0 : SliceR w0 va0 a0) (va1 : Value) (a1 : GEntry → Option (Bool)) (ha1 : ∀ (w : World), Below w0.heap.size w0 w → ∀ (x0 : GEntry) (y0 : Bool), a1 x0 = some y0 → CallsV Tryd.prog va1 #[(.agg (Flat.cells x0).toArray)] w (Ret w fun _ v => v = (.bool y0))) {r0 : Int} (hm : slices_IndexFunc_Entry a0 a1 = some r0) :
  Calls Tryd.prog 45 #[va0, va1] w0 (Ret w0 fun _ v => v = (.int .i64 r0)) := by
 unfold slices_IndexFunc_Entry at hm
 refine calls_of_W Tryd.func45 rfl Tryd.ntmps45 (Nat.le_of_ble_eq_true rfl) ?_
 have H := Inv.start (w := w0)
 refine W.seq ?_
 refine W.region ?_
 refine O.assign (v := (.int .i64 0)) rfl rfl rfl ?_
 refine WL.nil ?_
 refine W.seq ?_
 refine W.seq ?_
 refine W.region ?_
 refine O.move (v := va0) rfl rfl rfl ?_
 refine O.lenS Tryd.underlying22 (H.arg ha0) rfl rfl rfl ?_
 refine O.move (v := (.int .i64 0)) rfl rfl rfl ?_
 refine WL.nil ?_
 obtain ⟨o1, hm1, hm⟩ := bind_some hm
 refine W.via (fun f w => o1 = .next () ∧ Inv w0 w []) ?_ ?_
 ·
  refine W.block ?_
  have hbdik1 := (H.arg ha0).len_le
  refine W.rangeN (i := 0) hm1 (fun rem ik1 s f w => () = s ∧ (ik1 : Int) + rem = max 0 ((a0.length : Nat) : Int) ∧ f 8 = .int .i64 (ik1 : Int) ∧ f 7 = (.int .i64 ((a0.length : Nat) : Int)) ∧ f 0 = va0 ∧ f 1 = va1 ∧ Inv w0 w []) ?_ ?_ ?_
  ·
   exact ⟨rfl, rangeN_start, rfl, rfl, rfl, rfl, H⟩
  ·
   rintro k ik1 _ st f w ⟨rfl, hdropk1, hf8, hf7, hf0, hf1, H⟩ hm2
   have hltk1 := rangeN_lt hdropk1
   obtain ⟨u1, rfl⟩ := up4 hf8 hf7 hf0 hf1
   have hinck1 := addI_lt hltk1 hbdik1
   refine W.seq ?_
   refine W.region ?_
   refine O.lss rfl rfl rfl rfl ?_
   refine WL.nil ?_
   refine W.seq ?_
   refine W.cond_true (congrArg Value.bool (decide_eq_true hltk1)) ?_
   refine W.skip ?_
   refine W.seq ?_
   refine W.block ?_
   refine W.seq ?_
   refine W.region ?_
   refine O.move (v := (.int .i64 (ik1 : Int))) rfl rfl rfl ?_
   refine O.assign (v := (.int .i64 (ik1 : Int))) rfl rfl rfl ?_
   refine WL.nil ?_
   refine W.seq ?_
   refine W.region ?_
   refine O.move (v := va1) rfl rfl rfl ?_
   refine O.move (v := va0) rfl rfl rfl ?_
   refine O.move (v := (.int .i64 (ik1 : Int))) rfl rfl rfl ?_
   obtain ⟨x1, hx1, hm2⟩ := bind_some hm2
   obtain ⟨p1, hp1, hrp1⟩ := fix_indexAddr Tryd.underlying22 sz34 ha0 hx1
   refine hrp1 rfl rfl rfl rfl ?_
   refine O.loadA [(.int .i64 x1.Day), (.bool x1.Found), (.int .i64 x1.Error)] ag34 rfl rfl rfl rfl ((hp1.mono H.base).flat) ?_
   obtain ⟨t1, hy1, hm2⟩ := bind_some hm2
   refine O.callV rfl rfl rfl rfl (ha1 _ H.base x1 _ hy1) ?_
   rintro _ w1 hb1 rfl
   have H := H.ext hb1
   refine WL.nil ?_
   rcases ite_some hm2 with ⟨hc1, hm2⟩ | ⟨hc1, hm2⟩
   ·
    refine W.cond_true (congrArg Value.bool hc1) ?_
    refine W.seq ?_
    refine W.region ?_
    refine O.move (v := (.int .i64 (ik1 : Int))) rfl rfl rfl ?_
    refine O.assign (v := (.int .i64 (ik1 : Int))) rfl rfl rfl ?_
    refine WL.nil ?_
    refine W.ret ?_
    obtain rfl := Option.some.inj hm2
    refine ⟨_, rfl, ?_⟩
    rintro rfl
    have hq : (ik1 : Int) = r0 := Option.some.inj (show some (ik1 : Int) = some r0 from hm)
    subst hq
    exact ends1 Tryd.results45 rfl ⟨_, rfl, H.base, rfl⟩
   ·
    refine W.cond_false (congrArg Value.bool hc1) ?_
    refine W.skip ?_
    refine W.region ?_
    refine O.add rfl rfl rfl rfl hinck1 ?_
    refine O.move (v := .int .i64 ((ik1 : Int) + 1)) rfl rfl rfl ?_
    refine WL.nil ?_
    obtain rfl := Option.some.inj hm2
    exact ⟨_, rfl, rfl, rangeN_next hdropk1, rfl, rfl, rfl, rfl, H⟩
  ·
   rintro ik1 _ f w ⟨rfl, hdropk1, hf8, hf7, hf0, hf1, H⟩ hfin
   have hltk1 := rangeN_end hdropk1
   obtain ⟨u2, rfl⟩ := up4 hf8 hf7 hf0 hf1
   refine W.seq ?_
   refine W.region ?_
   refine O.lss rfl rfl rfl rfl ?_
   refine WL.nil ?_
   refine W.seq ?_
   refine W.cond_false (congrArg Value.bool (decide_eq_false hltk1)) ?_
   refine W.exit ?_
   obtain rfl : Ctl.next () = o1 := hfin
   refine xT rfl ?_
   exact ⟨rfl, H⟩
 ·
  rintro f w ⟨rfl, H⟩
  refine W.seq ?_
  refine W.region ?_
  refine O.assign (v := (.int .i64 (-1))) rfl rfl rfl ?_
  refine WL.nil ?_
  refine W.ret ?_
  have hq : (-1) = r0 := Option.some.inj (show some (-1) = some r0 from hm)
  subst hq
  exact ends1 Tryd.results45 rfl ⟨_, rfl, H.base, rfl⟩

theorem c_slices_ContainsFunc_Entry {w0 : World} (va0 : Value) (a0 : (List GEntry)) (ha0 : SliceR w0 va0 a0) (va1 : Value) (a1 : GEntry → Option (Bool)) (ha1 : ∀ (w : World), Below w0.heap.size w0 w → ∀ (x0 : GEntry) (y0 : Bool), a1 x0 = some y0 → CallsV Tryd.prog va1 #[(.agg (Flat.cells x0).toArray)] w (Ret w fun _ v => v = (.bool y0))) {r0 : Bool} (hm : slices_ContainsFunc_Entry a0 a1 = some r0) :
  Calls Tryd.prog 30 #[va0, va1] w0 (Ret w0 fun _ v => v = (.bool r0)) := by
 unfold slices_ContainsFunc_Entry at hm
 refine calls_of_W Tryd.func30 rfl Tryd.ntmps30 (Nat.le_of_ble_eq_true rfl) ?_
 have H := Inv.start (w := w0)
 refine W.seq ?_
 refine W.region ?_
 refine O.assign (v := (.bool false)) rfl rfl rfl ?_
 refine WL.nil ?_
 refine W.seq ?_
 refine W.region ?_
 refine O.move (v := va0) rfl rfl rfl ?_
 refine O.move (v := va1) rfl rfl rfl ?_
 obtain ⟨t1, hy1, hm⟩ := bind_some hm
 refine O.call Tryd.call45 rfl rfl rfl (c_slices_IndexFunc_Entry _ _ (H.arg ha0) va1 a1 (fun w hw => ha1 w (H.base.trans (hw.mono H.base.size))) hy1) ?_
 rintro _ w1 hb1 rfl
 have H := H.ext hb1
 refine O.geq rfl rfl rfl rfl ?_
 refine O.assign (v := (.bool (decide (0 ≤ t1)))) rfl rfl rfl ?_
 refine WL.nil ?_
 refine W.ret ?_
 have hq : (decide (0 ≤ t1)) = r0 := Option.some.inj (show some (decide (0 ≤ t1)) = some r0 from hm)
 subst hq
 exact ends1 Tryd.results30 rfl ⟨_, rfl, H.base, rfl⟩

theorem c_ledger_within {w0 : World} (a0 : Int) (a1 : Int) (a2 : Int) {r0 : Bool} (hm : ledger_within a0 a1 a2 = some r0) :
  Calls Tryd.prog 46 #[(.int .i64 a0), (.int .i64 a1), (.int .i64 a2)] w0 (Ret w0 fun _ v => v = (.bool r0)) := by
 unfold ledger_within at hm
 refine calls_of_W Tryd.func46 rfl Tryd.ntmps46 (Nat.le_of_ble_eq_true rfl) ?_
 have H := Inv.start (w := w0)
 refine W.seq ?_
 refine W.region ?_
 refine O.assign (v := (.bool false)) rfl rfl rfl ?_
 refine WL.nil ?_
 refine W.seq ?_
 refine W.region ?_
 refine O.move (v := (.int .i64 a0)) rfl rfl rfl ?_
 refine O.move (v := (.int .i64 a1)) rfl rfl rfl ?_
 refine O.geq rfl rfl rfl rfl ?_
 refine O.move (v := (.bool (decide (a1 ≤ a0)))) rfl rfl rfl ?_
 refine WL.cut 4 (fun f w => f 14 = .bool ((decide (a1 ≤ a0)) && (decide (a0 ≤ a2))) ∧ Inv w0 w []) ?_ ?_
 ·
  rcases bool_ft (decide (a1 ≤ a0)) with hc1 | hc1
  ·
   refine WL.reset (i := 10) (v := .bool false) (congrArg Value.bool hc1) ?_
   refine O.skip rfl rfl ?_
   refine O.skip rfl rfl ?_
   refine O.skip rfl rfl ?_
   refine O.pick_false (v := (.bool false)) rfl rfl rfl rfl ?_
   exact WL.nil ⟨congrArg Value.bool (and_f hc1), H⟩
  ·
   refine WL.reset (i := 10) (v := .bool true) (congrArg Value.bool hc1) ?_
   refine O.move (v := (.int .i64 a0)) rfl rfl rfl ?_
   refine O.move (v := (.int .i64 a2)) rfl rfl rfl ?_
   refine O.leq rfl rfl rfl rfl ?_
   refine O.pick_true (v := (.bool (decide (a0 ≤ a2)))) rfl rfl rfl rfl ?_
   exact WL.nil ⟨congrArg Value.bool (and_t hc1), H⟩
 ·
  rintro f w ⟨hf14, H⟩
  obtain ⟨u1, rfl⟩ := up1 hf14
  refine O.assign (v := (.bool ((decide (a1 ≤ a0)) && (decide (a0 ≤ a2))))) rfl rfl rfl ?_
  refine WL.nil ?_
  refine W.ret ?_
  have hq : ((decide (a1 ≤ a0)) && (decide (a0 ≤ a2))) = r0 := Option.some.inj (show some ((decide (a1 ≤ a0)) && (decide (a0 ≤ a2))) = some r0 from hm)
  subst hq
  exact ends1 Tryd.results46 rfl ⟨_, rfl, H.base, rfl⟩

theorem c_ledger_fine {w0 : World} (a0 : GEntry) {r0 : Bool} (hm : ledger_fine a0 = some r0) :
  Calls Tryd.prog 32 #[(.agg (Flat.cells a0).toArray)] w0 (Ret w0 fun _ v => v = (.bool r0)) := by
 unfold ledger_fine at hm
 refine calls_of_W Tryd.func32 rfl Tryd.ntmps32 (Nat.le_of_ble_eq_true rfl) ?_
 have H := Inv.start (w := w0)
 refine W.seq ?_
 refine W.region ?_
 refine O.box [(.int .i64 a0.Day), (.bool a0.Found), (.int .i64 a0.Error)] H rfl rfl rfl rfl ?_
 intro b1 w1 H hb1
 refine O.assign (v := (.bool false)) rfl rfl rfl ?_
 refine WL.nil ?_
 refine W.seq ?_
 refine W.region ?_
 refine O.fieldAddr fd34_0 rfl rfl rfl ?_
 refine O.load sc3 rfl rfl rfl (H.cell 0 rfl 0 _ rfl) ?_
 obtain ⟨t1, hy1, hm⟩ := bind_some hm
 refine O.call Tryd.call46 rfl rfl rfl (c_ledger_within _ _ _ hy1) ?_
 rintro _ w2 hb2 rfl
 have H := H.ext hb2
 refine O.move (v := (.bool t1)) rfl rfl rfl ?_
 obtain ⟨b2, hm1, hm⟩ := bind_some hm
 refine WL.cut 4 (fun f w => f 10 = .bool b2 ∧ Inv w0 w [boxI b1 34 [(.int .i64 a0.Day), (.bool a0.Found), (.int .i64 a0.Error)]]) ?_ ?_
 ·
  rcases ite_some hm1 with ⟨hc1, hm1⟩ | ⟨hc1, hm1⟩
  ·
   refine WL.reset (i := 6) (v := .bool true) (congrArg Value.bool hc1) ?_
   refine O.fieldAddr fd34_2 rfl rfl rfl ?_
   refine O.load sc3 rfl rfl rfl (H.cell 0 rfl 2 _ rfl) ?_
   obtain ⟨t2, hy2, hm1⟩ := bind_some hm1
   refine O.call Tryd.call46 rfl rfl rfl (c_ledger_within _ _ _ hy2) ?_
   rintro _ w3 hb3 rfl
   have H := H.ext hb3
   refine O.pick_true (v := (.bool t2)) rfl rfl rfl rfl ?_
   refine WL.nil ?_
   have hq : t2 = b2 := Option.some.inj (show some t2 = some b2 from hm1)
   subst hq
   exact ⟨rfl, H⟩
  ·
   refine WL.reset (i := 6) (v := .bool false) (congrArg Value.bool hc1) ?_
   refine O.skip rfl rfl ?_
   refine O.skip rfl rfl ?_
   refine O.skip rfl rfl ?_
   refine O.pick_false (v := (.bool false)) rfl rfl rfl rfl ?_
   refine WL.nil ?_
   have hq : false = b2 := Option.some.inj (show some false = some b2 from hm1)
   subst hq
   exact ⟨rfl, H⟩
 ·
  rintro f w ⟨hf10, H⟩
  obtain ⟨u1, rfl⟩ := up1 hf10
  refine O.assign (v := (.bool b2)) rfl rfl rfl ?_
  refine WL.nil ?_
  refine W.ret ?_
  have hq : b2 = r0 := Option.some.inj (show some b2 = some r0 from hm)
  subst hq
  exact ends1 Tryd.results32 rfl ⟨_, rfl, H.base, rfl⟩

theorem c_ledger_Valid_c1 {w0 : World} (a0 : GEntry) {r0 : Bool} (hm : ledger_Valid_c1 a0 = some r0) :
  Calls Tryd.prog 31 #[(.agg (Flat.cells a0).toArray)] w0 (Ret w0 fun _ v => v = (.bool r0)) := by
 unfold ledger_Valid_c1 at hm
 refine calls_of_W Tryd.func31 rfl Tryd.ntmps31 (Nat.le_of_ble_eq_true rfl) ?_
 have H := Inv.start (w := w0)
 refine W.seq ?_
 refine W.region ?_
 refine O.box [(.int .i64 a0.Day), (.bool a0.Found), (.int .i64 a0.Error)] H rfl rfl rfl rfl ?_
 intro b1 w1 H hb1
 refine O.assign (v := (.bool false)) rfl rfl rfl ?_
 refine WL.nil ?_
 refine W.seq ?_
 refine W.region ?_
 refine O.loadA [(.int .i64 a0.Day), (.bool a0.Found), (.int .i64 a0.Error)] ag34 rfl rfl rfl rfl (H.cell 0 rfl) ?_
 obtain ⟨t1, hy1, hm⟩ := bind_some hm
 refine O.call Tryd.call32 rfl rfl rfl (c_ledger_fine a0 hy1) ?_
 rintro _ w2 hb2 rfl
 have H := H.ext hb2
 refine O.not rfl rfl rfl ?_
 refine O.assign (v := (.bool (!t1))) rfl rfl rfl ?_
 refine WL.nil ?_
 refine W.ret ?_
 have hq : (!t1) = r0 := Option.some.inj (show some (!t1) = some r0 from hm)
 subst hq
 exact ends1 Tryd.results31 rfl ⟨_, rfl, H.base, rfl⟩

theorem c_ledger_Valid {w0 : World} (va0 : Value) (a0 : (List GEntry)) (ha0 : SliceR w0 va0 a0) {r0 : Bool} (hm : ledger_Valid a0 = some r0) :
  Calls Tryd.prog 14 #[va0] w0 (Ret w0 fun _ v => v = (.bool r0)) := by
 unfold ledger_Valid at hm
 refine calls_of_W Tryd.func14 rfl Tryd.ntmps14 (Nat.le_of_ble_eq_true rfl) ?_
 have H := Inv.start (w := w0)
 refine W.seq ?_
 refine W.region ?_
 refine O.assign (v := (.bool false)) rfl rfl rfl ?_
 refine WL.nil ?_
 refine W.seq ?_
 refine W.region ?_
 refine O.move (v := va0) rfl rfl rfl ?_
 refine O.lenS Tryd.underlying22 (H.arg ha0) rfl rfl rfl ?_
 refine O.leq rfl rfl rfl rfl ?_
 refine O.move (v := (.bool (decide (((a0.length : Nat) : Int) ≤ 1000)))) rfl rfl rfl ?_
 obtain ⟨b1, hm1, hm⟩ := bind_some hm
 refine WL.cut 4 (fun f w => f 10 = .bool b1 ∧ Inv w0 w []) ?_ ?_
 ·
  rcases ite_some hm1 with ⟨hc1, hm1⟩ | ⟨hc1, hm1⟩
  ·
   refine WL.reset (i := 6) (v := .bool true) (congrArg Value.bool hc1) ?_
   refine O.move (v := va0) rfl rfl rfl ?_
   obtain ⟨t1, hy1, hm1⟩ := bind_some hm1
   refine O.call Tryd.call30 rfl rfl rfl (c_slices_ContainsFunc_Entry _ _ (H.arg ha0) _ (fun x0 => ledger_Valid_c1 x0) (fun w hw x0 _ hy => callsV_mk Tryd.call31 (c_ledger_Valid_c1 x0 hy)) hy1) ?_
   rintro _ w1 hb1 rfl
   have H := H.ext hb1
   refine O.not rfl rfl rfl ?_
   refine O.pick_true (v := (.bool (!t1))) rfl rfl rfl rfl ?_
   refine WL.nil ?_
   have hq : (!t1) = b1 := Option.some.inj (show some (!t1) = some b1 from hm1)
   subst hq
   exact ⟨rfl, H⟩
  ·
   refine WL.reset (i := 6) (v := .bool false) (congrArg Value.bool hc1) ?_
   refine O.skip rfl rfl ?_
   refine O.skip rfl rfl ?_
   refine O.skip rfl rfl ?_
   refine O.pick_false (v := (.bool false)) rfl rfl rfl rfl ?_
   refine WL.nil ?_
   have hq : false = b1 := Option.some.inj (show some false = some b1 from hm1)
   subst hq
   exact ⟨rfl, H⟩
 ·
  rintro f w ⟨hf10, H⟩
  obtain ⟨u1, rfl⟩ := up1 hf10
  refine O.assign (v := (.bool b1)) rfl rfl rfl ?_
  refine WL.nil ?_
  refine W.ret ?_
  have hq : b1 = r0 := Option.some.inj (show some b1 = some r0 from hm)
  subst hq
  exact ends1 Tryd.results14 rfl ⟨_, rfl, H.base, rfl⟩

theorem c_ledger_isDay {w0 : World} (a0 : Int) {r0 : Bool} (hm : ledger_isDay a0 = some r0) :
  Calls Tryd.prog 47 #[(.int .i64 a0)] w0 (Ret w0 fun _ v => v = (.bool r0)) := by
 unfold ledger_isDay at hm
 refine calls_of_W Tryd.func47 rfl Tryd.ntmps47 (Nat.le_of_ble_eq_true rfl) ?_
 have H := Inv.start (w := w0)
 refine W.seq ?_
 refine W.region ?_
 refine O.assign (v := (.bool false)) rfl rfl rfl ?_
 refine WL.nil ?_
 refine W.seq ?_
 refine W.region ?_
 refine O.move (v := (.int .i64 a0)) rfl rfl rfl ?_
 obtain ⟨t1, hy1, hm⟩ := bind_some hm
 refine O.call Tryd.call46 rfl rfl rfl (c_ledger_within _ _ _ hy1) ?_
 rintro _ w1 hb1 rfl
 have H := H.ext hb1
 refine O.assign (v := (.bool t1)) rfl rfl rfl ?_
 refine WL.nil ?_
 refine W.ret ?_
 have hq : t1 = r0 := Option.some.inj (show some t1 = some r0 from hm)
 subst hq
 exact ends1 Tryd.results47 rfl ⟨_, rfl, H.base, rfl⟩

theorem c_ledger_of {w0 : World} (a0 : GEntry) {r0 : GKey} (hm : ledger_of a0 = some r0) :
  Calls Tryd.prog 36 #[(.agg (Flat.cells a0).toArray)] w0 (Ret w0 fun _ v => v = (.agg (Flat.cells r0).toArray)) := by
 unfold ledger_of at hm
 refine calls_of_W Tryd.func36 rfl Tryd.ntmps36 (Nat.le_of_ble_eq_true rfl) ?_
 have H := Inv.start (w := w0)
 refine W.seq ?_
 refine W.region ?_
 refine O.box [(.int .i64 a0.Day), (.bool a0.Found), (.int .i64 a0.Error)] H rfl rfl rfl rfl ?_
 intro b1 w1 H hb1
 refine O.alloc [(.int .i64 0), (.bool false)] ze69 H rfl rfl rfl ?_
 intro b2 w2 H hb2
 refine WL.nil ?_
 refine W.seq ?_
 refine W.region ?_
 refine O.fieldAddr fd34_0 rfl rfl rfl ?_
 refine O.load sc3 rfl rfl rfl (H.cell 0 rfl 0 _ rfl) ?_
 refine O.fieldAddr fd34_1 rfl rfl rfl ?_
 refine O.load sc4 rfl rfl rfl (H.cell 0 rfl 1 _ rfl) ?_
 refine O.build (v := (.agg (Flat.cells (GKey.mk a0.Day a0.Found)).toArray)) (fun w => bd69_0_1 _ _ w) rfl rfl rfl ?_
 refine O.store 1 0 [(.int .i64 a0.Day), (.bool a0.Found)] [(.int .i64 a0.Day), (.bool a0.Found)] sz69 H rfl rfl rfl rfl rfl rfl ⟨⟨rfl, rfl⟩, rfl⟩ (one_cons rfl (one_cons rfl one_nil)) ?_
 intro w3 H
 refine WL.nil ?_
 refine W.ret ?_
 have hq : (GKey.mk a0.Day a0.Found) = r0 := Option.some.inj (show some (GKey.mk a0.Day a0.Found) = some r0 from hm)
 subst hq
 exact ends1 Tryd.results36 ⟨_, rfl, run_loadVar_agg ag69 rfl (H.cell 1 rfl)⟩ ⟨_, rfl, H.base, rfl⟩

theorem c_ledger_pageOf {w0 : World} (va0 : Value) (a0 : (List GEntry)) (ha0 : SliceR w0 va0 a0) {r0 : (List (GKey × Int))} (hm : ledger_pageOf a0 = some r0) :
  Calls Tryd.prog 48 #[va0] w0 (Ret w0 fun w v => OwnM w0 w v r0) := by
 unfold ledger_pageOf at hm
 refine calls_of_W Tryd.func48 rfl Tryd.ntmps48 (Nat.le_of_ble_eq_true rfl) ?_
 have H := Inv.start (w := w0)
 refine W.seq ?_
 refine W.region ?_
 refine O.assign (v := (.map none)) rfl rfl rfl ?_
 refine WL.nil ?_
 refine W.seq ?_
 refine W.region ?_
 refine O.makeMap (α := GKey) (β := Int) H rfl rfl ?_
 intro m1 w1 H hb1
 refine O.assign (v := (.map (some m1))) rfl rfl rfl ?_
 refine WL.nil ?_
 refine W.seq ?_
 refine W.seq ?_
 refine W.region ?_
 refine O.move (v := va0) rfl rfl rfl ?_
 refine O.lenS Tryd.underlying22 (H.arg ha0) rfl rfl rfl ?_
 refine O.move (v := (.int .i64 0)) rfl rfl rfl ?_
 refine WL.nil ?_
 obtain ⟨s1, hm1, hm⟩ := bind_some hm
 refine W.via (fun f w => f 3 = (.map (some m1)) ∧ Inv w0 w [mapI (K := GKey) (V := Int) m1 s1]) ?_ ?_
 ·
  refine W.block ?_
  refine W.rangeL (i := 0) hm1 (fun rem ik1 s f w => ∃ z2 : (List (GKey × Int)), z2 = s ∧ a0.drop ik1 = rem ∧ f 9 = .int .i64 (ik1 : Int) ∧ f 8 = (.int .i64 ((a0.length : Nat) : Int)) ∧ f 3 = (.map (some m1)) ∧ f 7 = va0 ∧ Inv w0 w [mapI (K := GKey) (V := Int) m1 z2]) ?_ ?_ ?_
  ·
   exact ⟨_, rfl, List.drop_zero, rfl, rfl, rfl, rfl, H⟩
  ·
   rintro yk1 xs ik1 _ st f w ⟨z2, rfl, hdropk1, hf9, hf8, hf3, hf7, H⟩ hm2
   have hltk1 := drop_lt hdropk1; have hixk1 := drop_idx hdropk1
   obtain ⟨u1, rfl⟩ := up4 hf9 hf8 hf3 hf7
   have hinck1 := addI_lt hltk1 (H.arg ha0).len_le
   refine W.seq ?_
   refine W.region ?_
   refine O.lss rfl rfl rfl rfl ?_
   refine WL.nil ?_
   refine W.seq ?_
   refine W.cond_true (congrArg Value.bool (decide_eq_true hltk1)) ?_
   refine W.skip ?_
   refine W.seq ?_
   refine W.block ?_
   refine W.seq ?_
   refine W.region ?_
   obtain ⟨p1, hp1, hrp1⟩ := fix_indexAddr Tryd.underlying22 sz34 ha0 hixk1
   refine hrp1 rfl rfl rfl rfl ?_
   refine O.loadA [(.int .i64 yk1.Day), (.bool yk1.Found), (.int .i64 yk1.Error)] ag34 rfl rfl rfl rfl ((hp1.mono H.base).flat) ?_
   refine O.alloc [(.int .i64 0), (.bool false), (.int .i64 0)] ze34 H rfl rfl rfl ?_
   intro b1 w2 H hb2
   refine O.store 1 0 [(.int .i64 yk1.Day), (.bool yk1.Found), (.int .i64 yk1.Error)] [(.int .i64 yk1.Day), (.bool yk1.Found), (.int .i64 yk1.Error)] sz34 H rfl rfl rfl rfl rfl rfl ⟨⟨rfl, rfl⟩, rfl⟩ (one_cons rfl (one_cons rfl (one_cons rfl one_nil))) ?_
   intro w3 H
   refine WL.nil ?_
   obtain ⟨t1, hy1, hm2⟩ := bind_some hm2
   refine W.drawN 5 (fun f => f 3 = (.map (some m1)) ∧ f 7 = va0 ∧ f 8 = (.int .i64 ((a0.length : Nat) : Int)) ∧ f 9 = (.int .i64 (ik1 : Int)) ∧ f 13 = (.map (some m1)) ∧ f 15 = (.agg (Flat.cells t1).toArray) ∧ f 17 = (.int .i64 yk1.Error)) fol (by kernel_rfl) ?_ ?_
   ·
    refine PL.of (fun _ w8 _ hx => O.move (v := (.map (some m1))) rfl rfl rfl (WL.nil ⟨rfl, hx⟩)) ?_
    refine PL.of (fun _ w8 _ hx => by have H := H.ext hx; exact O.loadA [(.int .i64 yk1.Day), (.bool yk1.Found), (.int .i64 yk1.Error)] ag34 rfl rfl rfl rfl (H.cell 1 rfl) (WL.nil ⟨rfl, hx⟩)) ?_
    refine PL.of (fun _ w8 _ hx => O.call Tryd.call36 rfl rfl rfl (c_ledger_of yk1 hy1) (by rintro _ _ hb rfl; exact WL.nil ⟨rfl, hx.trans (hb.mono hx.size)⟩)) ?_
    refine PL.of (fun _ w8 _ hx => O.fieldAddr fd34_2 rfl rfl rfl (WL.nil ⟨rfl, hx⟩)) ?_
    refine PL.of (fun _ w8 _ hx => by have H := H.ext hx; exact O.load sc3 rfl rfl rfl (H.cell 1 rfl 2 _ rfl) (WL.nil ⟨rfl, hx⟩)) ?_
    refine PL.nil ?_
    exact ⟨rfl, rfl, rfl, rfl, rfl, rfl, rfl⟩
   ·
    rintro f w ⟨hf3, hf7, hf8, hf9, hf13, hf15, hf17⟩ hmd hx
    have H := H.ext hx
    obtain ⟨u2, rfl⟩ := up7 hf3 hf7 hf8 hf9 hf13 hf15 hf17
    refine O.mapUpdate 0 t1 yk1.Error Tryd.underlying63 key69 H rfl rfl rfl rfl rfl ?_
    intro w4 H
    refine WL.nil ?_
    refine W.region ?_
    refine O.add rfl rfl rfl rfl hinck1 ?_
    refine O.move (v := .int .i64 ((ik1 : Int) + 1)) rfl rfl rfl ?_
    refine WL.nil ?_
    have H := H.keep [0] [mapI (K := GKey) (V := Int) m1 (mput z2 t1 yk1.Error)] rfl (by decide)
    obtain rfl := Option.some.inj hm2
    exact ⟨_, rfl, _, rfl, drop_next hdropk1, rfl, rfl, rfl, rfl, H⟩
  ·
   rintro ik1 _ f w ⟨z2, rfl, hdropk1, hf9, hf8, hf3, hf7, H⟩ hfin
   have hltk1 := drop_end hdropk1
   obtain ⟨u3, rfl⟩ := up4 hf9 hf8 hf3 hf7
   refine W.seq ?_
   refine W.region ?_
   refine O.lss rfl rfl rfl rfl ?_
   refine WL.nil ?_
   refine W.seq ?_
   refine W.cond_false (congrArg Value.bool (decide_eq_false hltk1)) ?_
   refine W.exit ?_
   have hq : z2 = s1 := hfin
   subst hq
   refine xT rfl ?_
   exact ⟨rfl, H⟩
 ·
  rintro f w ⟨hf3, H⟩
  obtain ⟨u4, rfl⟩ := up1 hf3
  refine W.seq ?_
  refine W.region ?_
  refine O.move (v := (.map (some m1))) rfl rfl rfl ?_
  refine O.assign (v := (.map (some m1))) rfl rfl rfl ?_
  refine WL.nil ?_
  refine W.ret ?_
  have hq : s1 = r0 := Option.some.inj (show some s1 = some r0 from hm)
  subst hq
  exact ends1 Tryd.results48 rfl ⟨_, rfl, H.base, H.ownM 0 rfl⟩

theorem c_ledger_told {w0 : World} (va0 : Value) (a0 : (List GEntry)) (ha0 : SliceR w0 va0 a0) (a1 : Int) (va2 : Value) (a2 : (List (GKey × Int)) → Option (Int × Bool)) (ha2 : ∀ (w : World), Below w0.heap.size w0 w → ∀ (vx0 : Value) (x0 : (List (GKey × Int))) (hx0 : MapR w vx0 x0) (y0 : Int) (y1 : Bool), a2 x0 = some (y0, y1) → CallsV Tryd.prog va2 #[vx0] w (Ret w fun _ v => v = .tuple #[(.int .i64 y0), (.bool y1)])) {r0 : Int} {r1 : Int} (hm : ledger_told a0 a1 a2 = some (r0, r1)) :
  Calls Tryd.prog 33 #[va0, (.int .i64 a1), va2] w0 (Ret w0 fun _ v => v = .tuple #[(.int .i64 r0), (.int .i64 r1)]) := by
 unfold ledger_told at hm
 refine calls_of_W Tryd.func33 rfl Tryd.ntmps33 (Nat.le_of_ble_eq_true rfl) ?_
 have H := Inv.start (w := w0)
 refine W.seq ?_
 refine W.region ?_
 refine O.assign (v := (.int .i64 0)) rfl rfl rfl ?_
 refine O.assign (v := (.int .i64 0)) rfl rfl rfl ?_
 refine WL.nil ?_
 refine W.seq ?_
 refine W.block ?_
 refine W.seq ?_
 refine W.region ?_
 refine O.move (v := va0) rfl rfl rfl ?_
 obtain ⟨t1, hy1, hm⟩ := bind_some hm
 refine O.call Tryd.call14 rfl rfl rfl (c_ledger_Valid _ _ (H.arg ha0) hy1) ?_
 rintro _ w1 hb1 rfl
 have H := H.ext hb1
 refine O.not rfl rfl rfl ?_
 refine O.assign (v := (.bool (!t1))) rfl rfl rfl ?_
 refine WL.nil ?_
 rcases ite_some hm with ⟨hc1, hm⟩ | ⟨hc1, hm⟩
 ·
  refine W.cond_true (congrArg Value.bool hc1) ?_
  refine W.seq ?_
  refine W.region ?_
  refine O.assign (v := (.int .i64 0)) rfl rfl rfl ?_
  refine O.assign (v := (.int .i64 1)) rfl rfl rfl ?_
  refine WL.nil ?_
  refine W.ret ?_
  have hq : (0, 1) = (r0, r1) := Option.some.inj (show some (0, 1) = some (r0, r1) from hm)
  obtain ⟨he0, hq0⟩ := Prod.mk.inj hq; clear hq; subst he0
  subst hq0
  exact ends2 Tryd.results33 rfl rfl ⟨_, rfl, H.base, rfl⟩
 ·
  refine W.cond_false (congrArg Value.bool hc1) ?_
  refine W.seq ?_
  refine W.region ?_
  refine O.move (v := (.int .i64 a1)) rfl rfl rfl ?_
  obtain ⟨t2, hy2, hm⟩ := bind_some hm
  refine O.call Tryd.call47 rfl rfl rfl (c_ledger_isDay _ hy2) ?_
  rintro _ w2 hb2 rfl
  have H := H.ext hb2
  refine O.not rfl rfl rfl ?_
  refine O.assign (v := (.bool (!t2))) rfl rfl rfl ?_
  refine WL.nil ?_
  rcases ite_some hm with ⟨hc2, hm⟩ | ⟨hc2, hm⟩
  ·
   refine W.cond_true (congrArg Value.bool hc2) ?_
   refine W.seq ?_
   refine W.region ?_
   refine O.assign (v := (.int .i64 0)) rfl rfl rfl ?_
   refine O.assign (v := (.int .i64 7)) rfl rfl rfl ?_
   refine WL.nil ?_
   refine W.ret ?_
   have hq : (0, 7) = (r0, r1) := Option.some.inj (show some (0, 7) = some (r0, r1) from hm)
   obtain ⟨he0, hq0⟩ := Prod.mk.inj hq; clear hq; subst he0
   subst hq0
   exact ends2 Tryd.results33 rfl rfl ⟨_, rfl, H.base, rfl⟩
  ·
   refine W.cond_false (congrArg Value.bool hc2) ?_
   refine W.skip ?_
   refine W.seq ?_
   refine W.region ?_
   refine O.move (v := va2) rfl rfl rfl ?_
   refine O.move (v := va0) rfl rfl rfl ?_
   obtain ⟨t3, hy3, hm⟩ := bind_some hm
   refine O.call Tryd.call48 rfl rfl rfl (c_ledger_pageOf _ _ (H.arg ha0) hy3) ?_
   rintro _ w3 hb3 ⟨m1, rfl, ho1a, ho1b⟩
   have H := H.addMap hb3 ho1a ho1b
   obtain ⟨⟨t4, t5⟩, hy4, hm⟩ := bind_some hm
   refine O.callV rfl rfl rfl rfl (ha2 _ H.base _ _ (H.map 0 rfl) _ _ hy4) ?_
   rintro _ w4 hb4 rfl
   have H := H.ext hb4
   refine O.move (v := (.tuple #[(.int .i64 t4), (.bool t5)])) rfl rfl rfl ?_
   refine O.extract (v := (.int .i64 t4)) rfl rfl rfl rfl ?_
   refine O.extract (v := (.bool t5)) rfl rfl rfl rfl ?_
   refine O.assign (v := (.int .i64 t4)) rfl rfl rfl ?_
   refine O.assign (v := (.bool t5)) rfl rfl rfl ?_
   refine WL.nil ?_
   refine W.seq ?_
   refine W.seq ?_
   refine W.region ?_
   refine O.move (v := (.bool t5)) rfl rfl rfl ?_
   refine O.not rfl rfl rfl ?_
   refine WL.nil ?_
   rcases ite_some hm with ⟨hc3, hm⟩ | ⟨hc3, hm⟩
   ·
    refine W.cond_true (congrArg Value.bool hc3) ?_
    refine W.seq ?_
    refine W.region ?_
    refine O.assign (v := (.int .i64 0)) rfl rfl rfl ?_
    refine O.assign (v := (.int .i64 8)) rfl rfl rfl ?_
    refine WL.nil ?_
    refine W.ret ?_
    have hq : (0, 8) = (r0, r1) := Option.some.inj (show some (0, 8) = some (r0, r1) from hm)
    obtain ⟨he0, hq0⟩ := Prod.mk.inj hq; clear hq; subst he0
    subst hq0
    exact ends2 Tryd.results33 rfl rfl ⟨_, rfl, H.base, rfl⟩
   ·
    refine W.cond_false (congrArg Value.bool hc3) ?_
    refine W.skip ?_
    refine W.seq ?_
    refine W.region ?_
    refine O.move (v := (.int .i64 t4)) rfl rfl rfl ?_
    refine O.assign (v := (.int .i64 t4)) rfl rfl rfl ?_
    refine O.assign (v := (.int .i64 0)) rfl rfl rfl ?_
    refine WL.nil ?_
    refine W.ret ?_
    have hq : (t4, 0) = (r0, r1) := Option.some.inj (show some (t4, 0) = some (r0, r1) from hm)
    obtain ⟨he0, hq0⟩ := Prod.mk.inj hq; clear hq; subst he0
    subst hq0
    exact ends2 Tryd.results33 rfl rfl ⟨_, rfl, H.base, rfl⟩

theorem c_ledger_Off {w0 : World} (va0 : Value) (a0 : (List GEntry)) (ha0 : SliceR w0 va0 a0) (a1 : Int) {r0 : Int} {r1 : Int} (hm : ledger_Off a0 a1 = some (r0, r1)) :
  Calls Tryd.prog 15 #[va0, (.int .i64 a1)] w0 (Ret w0 fun _ v => v = .tuple #[(.int .i64 r0), (.int .i64 r1)]) := by
 unfold ledger_Off at hm
 refine calls_of_W Tryd.func15 rfl Tryd.ntmps15 (Nat.le_of_ble_eq_true rfl) ?_
 have H := Inv.start (w := w0)
 refine W.seq ?_
 refine W.region ?_
 refine O.box [(.int .i64 a1)] H rfl rfl rfl rfl ?_
 intro b1 w1 H hb1
 refine O.assign (v := (.int .i64 0)) rfl rfl rfl ?_
 refine O.assign (v := (.int .i64 0)) rfl rfl rfl ?_
 refine WL.nil ?_
 refine W.seq ?_
 refine W.region ?_
 refine O.move (v := va0) rfl rfl rfl ?_
 refine O.load sc3 rfl rfl rfl (H.cell 0 rfl 0 _ rfl) ?_
 refine O.makeFunc rfl rfl rfl rfl ?_
 obtain ⟨⟨t1, t2⟩, hy1, hm⟩ := bind_some hm
 refine O.call Tryd.call33 rfl rfl rfl (c_ledger_told _ _ (H.arg ha0) _ _ (fun x0 => ledger_Off_c1 x0 a1) (fun w hw vx0 x0 hx0 _ _ hy => callsV_mk Tryd.call34 (c_ledger_Off_c1 vx0 x0 hx0 _ a1 (cells_mono (H.cell 0 rfl) hw) hy)) hy1) ?_
 rintro _ w2 hb2 rfl
 have H := H.ext hb2
 refine O.extract (v := (.int .i64 t1)) rfl rfl rfl rfl ?_
 refine O.extract (v := (.int .i64 t2)) rfl rfl rfl rfl ?_
 refine O.assign (v := (.int .i64 t1)) rfl rfl rfl ?_
 refine O.assign (v := (.int .i64 t2)) rfl rfl rfl ?_
 refine WL.nil ?_
 refine W.ret ?_
 have hq : (t1, t2) = (r0, r1) := Option.some.inj (show some (t1, t2) = some (r0, r1) from hm)
 obtain ⟨he0, hq0⟩ := Prod.mk.inj hq; clear hq; subst he0
 subst hq0
 exact ends2 Tryd.results15 rfl rfl ⟨_, rfl, H.base, rfl⟩

set_option maxRecDepth 20000 in
theorem c_ledger_Corrections {w0 : World} (va0 : Value) (a0 : (List GEntry)) (ha0 : SliceR w0 va0 a0) {r0 : (List Int)} {r1 : Int} (hm : ledger_Corrections a0 = some (r0, r1)) :
  Calls Tryd.prog 16 #[va0] w0 (Ret w0 fun w v => ∃ vr0 : Value, v = .tuple #[vr0, (.int .i64 r1)] ∧ OwnR w0 w vr0 3 r0) := by
 unfold ledger_Corrections at hm
 refine calls_of_W Tryd.func16 rfl Tryd.ntmps16 (Nat.le_of_ble_eq_true rfl) ?_
 have H := Inv.start (w := w0)
 refine W.seq ?_
 refine W.region ?_
 have H := H.addNil (α := Int) (E := 3)
 refine O.assign (v := (.slice none 0 0)) rfl rfl rfl ?_
 refine O.assign (v := (.int .i64 0)) rfl rfl rfl ?_
 refine WL.nil ?_
 refine W.seq ?_
 refine W.seq ?_
 refine W.region ?_
 refine O.move (v := va0) rfl rfl rfl ?_
 obtain ⟨t1, hy1, hm⟩ := bind_some hm
 refine O.call Tryd.call14 rfl rfl rfl (c_ledger_Valid _ _ (H.arg ha0) hy1) ?_
 rintro _ w1 hb1 rfl
 have H := H.ext hb1
 refine O.not rfl rfl rfl ?_
 refine WL.nil ?_
 rcases ite_some hm with ⟨hc1, hm⟩ | ⟨hc1, hm⟩
 ·
  refine W.cond_true (congrArg Value.bool hc1) ?_
  refine W.seq ?_
  refine W.region ?_
  have H := H.addNil (α := Int) (E := 3)
  refine O.assign (v := (.slice none 0 0)) rfl rfl rfl ?_
  refine O.assign (v := (.int .i64 1)) rfl rfl rfl ?_
  refine WL.nil ?_
  refine W.ret ?_
  have hq : (([] : List Int), 1) = (r0, r1) := Option.some.inj (show some (([] : List Int), 1) = some (r0, r1) from hm)
  obtain ⟨he0, hq0⟩ := Prod.mk.inj hq; clear hq; subst he0
  subst hq0
  exact ends2 Tryd.results16 rfl rfl ⟨_, rfl, H.base, ⟨_, rfl, H.ownR 1 rfl⟩⟩
 ·
  refine W.cond_false (congrArg Value.bool hc1) ?_
  refine W.skip ?_
  refine W.seq ?_
  refine W.region ?_
  refine O.makeMap (α := GKey) (β := Bool) H rfl rfl ?_
  intro m1 w2 H hb2
  refine O.assign (v := (.map (some m1))) rfl rfl rfl ?_
  refine WL.nil ?_
  refine W.seq ?_
  refine W.region ?_
  have H := H.addNil (α := Int) (E := 3)
  refine O.assign (v := (.slice none 0 0)) rfl rfl rfl ?_
  refine WL.nil ?_
  refine W.seq ?_
  refine W.seq ?_
  refine W.region ?_
  refine O.move (v := va0) rfl rfl rfl ?_
  refine O.lenS Tryd.underlying22 (H.arg ha0) rfl rfl rfl ?_
  refine O.move (v := (.int .i64 0)) rfl rfl rfl ?_
  refine WL.nil ?_
  obtain ⟨s1, hm1, hm⟩ := bind_some hm
  refine W.via (fun f w => ∃ v4 : Value, f 5 = v4 ∧ Inv w0 w [ownI (α := Int) v4 3 s1]) ?_ ?_
  ·
   refine W.block ?_
   have hbdik1 := (H.arg ha0).len_le
   have H := H.keep [1, 2] [mapI (K := GKey) (V := Bool) m1 ([] : List (GKey × Bool)), ownI (α := Int) (.slice none 0 0) 3 ([] : List Int)] rfl (by decide)
   refine W.rangeN (i := 0) hm1 (fun rem ik1 s f w => ∃ z3 : (List (GKey × Bool)), ∃ z4 : (List Int), ∃ v2 : Value, (z3, z4) = s ∧ (ik1 : Int) + rem = max 0 ((a0.length : Nat) : Int) ∧ f 14 = .int .i64 (ik1 : Int) ∧ f 13 = (.int .i64 ((a0.length : Nat) : Int)) ∧ f 4 = (.map (some m1)) ∧ f 5 = v2 ∧ f 12 = va0 ∧ Inv w0 w [mapI (K := GKey) (V := Bool) m1 z3, ownI (α := Int) v2 3 z4]) ?_ ?_ ?_
   ·
    exact ⟨_, _, (.slice none 0 0), rfl, rangeN_start, rfl, rfl, rfl, rfl, rfl, H⟩
   ·
    rintro k ik1 _ st f w ⟨z3, z4, v2, rfl, hdropk1, hf14, hf13, hf4, hf5, hf12, H⟩ hm2
    have hltk1 := rangeN_lt hdropk1
    obtain ⟨u1, rfl⟩ := up5 hf14 hf13 hf4 hf5 hf12
    have hinck1 := addI_lt hltk1 hbdik1
    refine W.seq ?_
    refine W.region ?_
    refine O.lss rfl rfl rfl rfl ?_
    refine WL.nil ?_
    refine W.seq ?_
    refine W.cond_true (congrArg Value.bool (decide_eq_true hltk1)) ?_
    refine W.skip ?_
    refine W.seq ?_
    obtain ⟨⟨s2, s3⟩, hm3, hm2⟩ := bind_some hm2
    refine W.via (fun f w => ∃ v5 : Value, f 4 = (.map (some m1)) ∧ f 5 = v5 ∧ f 12 = va0 ∧ f 13 = (.int .i64 ((a0.length : Nat) : Int)) ∧ f 14 = (.int .i64 (ik1 : Int)) ∧ Inv w0 w [mapI (K := GKey) (V := Bool) m1 s2, ownI (α := Int) v5 3 s3]) ?_ ?_
    ·
     refine W.block ?_
     refine W.seq ?_
     refine W.region ?_
     refine O.move (v := (.int .i64 (ik1 : Int))) rfl rfl rfl ?_
     obtain ⟨x1, hx1, hm3⟩ := bind_some hm3
     obtain ⟨p1, hp1, hrp1⟩ := fix_indexAddr Tryd.underlying22 sz34 ha0 hx1
     refine hrp1 rfl rfl rfl rfl ?_
     refine O.loadA [(.int .i64 x1.Day), (.bool x1.Found), (.int .i64 x1.Error)] ag34 rfl rfl rfl rfl ((hp1.mono H.base).flat) ?_
     refine O.alloc [(.int .i64 0), (.bool false), (.int .i64 0)] ze34 H rfl rfl rfl ?_
     intro b1 w3 H hb3
     refine O.assign (v := (.int .i64 (ik1 : Int))) rfl rfl rfl ?_
     refine O.store 2 0 [(.int .i64 x1.Day), (.bool x1.Found), (.int .i64 x1.Error)] [(.int .i64 x1.Day), (.bool x1.Found), (.int .i64 x1.Error)] sz34 H rfl rfl rfl rfl rfl rfl ⟨⟨rfl, rfl⟩, rfl⟩ (one_cons rfl (one_cons rfl (one_cons rfl one_nil))) ?_
     intro w4 H
     refine WL.nil ?_
     refine W.seq ?_
     refine W.seq ?_
     refine W.region ?_
     refine O.move (v := (.map (some m1))) rfl rfl rfl ?_
     refine O.loadA [(.int .i64 x1.Day), (.bool x1.Found), (.int .i64 x1.Error)] ag34 rfl rfl rfl rfl (H.cell 2 rfl) ?_
     obtain ⟨t2, hy2, hm3⟩ := bind_some hm3
     refine O.call Tryd.call36 rfl rfl rfl (c_ledger_of x1 hy2) ?_
     rintro _ w5 hb4 rfl
     have H := H.ext hb4
     refine O.lookup1 (z := false) t2 Tryd.underlying67 key69 ze4 (H.map 0 rfl) rfl rfl rfl rfl ?_
     refine WL.nil ?_
     obtain ⟨s4, hm4, hm3⟩ := bind_some hm3
     refine W.via (fun f w => ∃ v6 : Value, f 4 = (.map (some m1)) ∧ f 5 = v6 ∧ f 7 = (.pointer (some ⟨b1, 0, none⟩)) ∧ f 12 = va0 ∧ f 13 = (.int .i64 ((a0.length : Nat) : Int)) ∧ f 14 = (.int .i64 (ik1 : Int)) ∧ Inv w0 w [mapI (K := GKey) (V := Bool) m1 z3, ownI (α := Int) v6 3 s4, boxI b1 34 [(.int .i64 x1.Day), (.bool x1.Found), (.int .i64 x1.Error)]]) ?_ ?_
     ·
      rcases ite_some hm4 with ⟨hc2, hm4⟩ | ⟨hc2, hm4⟩
      ·
       refine W.cond_true (congrArg Value.bool hc2) ?_
       refine W.region ?_
       refine O.move (v := v2) rfl rfl rfl ?_
       refine O.move (v := (.int .i64 (ik1 : Int))) rfl rfl rfl ?_
       refine O.buildSlice (α := Int) [(.int .i64 (ik1 : Int))] [(ik1 : Int)] Tryd.underlying37 el3 H rfl rfl rfl rfl rfl rfl rfl ?_
       intro v7 w6 H hb5
       obtain ⟨t3, ht3, hm4⟩ := bind_some hm4
       refine O.append 1 Tryd.underlying37 el3 rfl H rfl (H.own 3 rfl) ht3 rfl rfl rfl rfl ?_
       intro v8 w7 H
       refine O.assign (v := v8) rfl rfl rfl ?_
       refine WL.nil ?_
       have H := H.keep [0, 1, 2] [mapI (K := GKey) (V := Bool) m1 z3, ownI (α := Int) v8 3 t3, boxI b1 34 [(.int .i64 x1.Day), (.bool x1.Found), (.int .i64 x1.Error)]] rfl (by decide)
       have hq : t3 = s4 := Option.some.inj (show some t3 = some s4 from hm4)
       subst hq
       exact ⟨v8, rfl, rfl, rfl, rfl, rfl, rfl, H⟩
      ·
       refine W.cond_false (congrArg Value.bool hc2) ?_
       refine W.skip ?_
       have hq : z4 = s4 := Option.some.inj (show some z4 = some s4 from hm4)
       subst hq
       exact ⟨v2, rfl, rfl, rfl, rfl, rfl, rfl, H⟩
     ·
      rintro f w ⟨v6, hf4, hf5, hf7, hf12, hf13, hf14, H⟩
      obtain ⟨u2, rfl⟩ := up6 hf4 hf5 hf7 hf12 hf13 hf14
      refine W.region ?_
      refine O.move (v := (.map (some m1))) rfl rfl rfl ?_
      refine O.loadA [(.int .i64 x1.Day), (.bool x1.Found), (.int .i64 x1.Error)] ag34 rfl rfl rfl rfl (H.cell 2 rfl) ?_
      obtain ⟨t4, hy3, hm3⟩ := bind_some hm3
      refine O.call Tryd.call36 rfl rfl rfl (c_ledger_of x1 hy3) ?_
      rintro _ w8 hb6 rfl
      have H := H.ext hb6
      refine O.mapUpdate 0 t4 true Tryd.underlying67 key69 H rfl rfl rfl rfl rfl ?_
      intro w9 H
      refine WL.nil ?_
      have H := H.keep [0, 1] [mapI (K := GKey) (V := Bool) m1 (mput z3 t4 true), ownI (α := Int) v6 3 s4] rfl (by decide)
      have hq : ((mput z3 t4 true), s4) = (s2, s3) := Option.some.inj (show some ((mput z3 t4 true), s4) = some (s2, s3) from hm3)
      obtain ⟨he0, hq0⟩ := Prod.mk.inj hq; clear hq; subst he0
      subst hq0
      exact ⟨v6, rfl, rfl, rfl, rfl, rfl, H⟩
    ·
     rintro f w ⟨v5, hf4, hf5, hf12, hf13, hf14, H⟩
     obtain ⟨u3, rfl⟩ := up5 hf4 hf5 hf12 hf13 hf14
     refine W.region ?_
     refine O.add rfl rfl rfl rfl hinck1 ?_
     refine O.move (v := .int .i64 ((ik1 : Int) + 1)) rfl rfl rfl ?_
     refine WL.nil ?_
     obtain rfl := Option.some.inj hm2
     exact ⟨_, rfl, _, _, v5, rfl, rangeN_next hdropk1, rfl, rfl, rfl, rfl, rfl, H⟩
   ·
    rintro ik1 _ f w ⟨z3, z4, v2, rfl, hdropk1, hf14, hf13, hf4, hf5, hf12, H⟩ hfin
    have hltk1 := rangeN_end hdropk1
    obtain ⟨u4, rfl⟩ := up5 hf14 hf13 hf4 hf5 hf12
    refine W.seq ?_
    refine W.region ?_
    refine O.lss rfl rfl rfl rfl ?_
    refine WL.nil ?_
    refine W.seq ?_
    refine W.cond_false (congrArg Value.bool (decide_eq_false hltk1)) ?_
    refine W.exit ?_
    have hq : z4 = s1 := hfin
    subst hq
    have H := H.keep [1] [ownI (α := Int) v2 3 z4] rfl (by decide)
    refine xT rfl ?_
    exact ⟨v2, rfl, H⟩
  ·
   rintro f w ⟨v4, hf5, H⟩
   obtain ⟨u5, rfl⟩ := up1 hf5
   refine W.seq ?_
   refine W.region ?_
   refine O.move (v := v4) rfl rfl rfl ?_
   refine O.assign (v := v4) rfl rfl rfl ?_
   refine O.assign (v := (.int .i64 0)) rfl rfl rfl ?_
   refine WL.nil ?_
   refine W.ret ?_
   have hq : (s1, 0) = (r0, r1) := Option.some.inj (show some (s1, 0) = some (r0, r1) from hm)
   obtain ⟨he0, hq0⟩ := Prod.mk.inj hq; clear hq; subst he0
   subst hq0
   exact ends2 Tryd.results16 rfl rfl ⟨_, rfl, H.base, ⟨_, rfl, H.ownR 0 rfl⟩⟩

set_option maxRecDepth 20000 in
theorem c_noongunref09_SameInts {w0 : World} (va0 : Value) (a0 : (List Int)) (ha0 : SliceR w0 va0 a0) (va1 : Value) (a1 : (List Int)) (ha1 : SliceR w0 va1 a1) {r0 : Bool} (hm : noongunref09_SameInts a0 a1 = some r0) :
  Calls Tryd.prog 17 #[va0, va1] w0 (Ret w0 fun _ v => v = (.bool r0)) := by
 unfold noongunref09_SameInts at hm
 refine calls_of_W Tryd.func17 rfl Tryd.ntmps17 (Nat.le_of_ble_eq_true rfl) ?_
 have H := Inv.start (w := w0)
 refine W.seq ?_
 refine W.region ?_
 refine O.assign (v := (.bool false)) rfl rfl rfl ?_
 refine WL.nil ?_
 refine W.seq ?_
 refine W.seq ?_
 refine W.region ?_
 refine O.move (v := va0) rfl rfl rfl ?_
 refine O.lenS Tryd.underlying37 (H.arg ha0) rfl rfl rfl ?_
 refine O.move (v := va1) rfl rfl rfl ?_
 refine O.lenS Tryd.underlying37 (H.arg ha1) rfl rfl rfl ?_
 refine O.neq rfl rfl rfl rfl ?_
 refine WL.nil ?_
 rcases ite_some hm with ⟨hc1, hm⟩ | ⟨hc1, hm⟩
 ·
  refine W.cond_true (congrArg Value.bool hc1) ?_
  refine W.seq ?_
  refine W.region ?_
  refine O.assign (v := (.bool false)) rfl rfl rfl ?_
  refine WL.nil ?_
  refine W.ret ?_
  have hq : false = r0 := Option.some.inj (show some false = some r0 from hm)
  subst hq
  exact ends1 Tryd.results17 rfl ⟨_, rfl, H.base, rfl⟩
 ·
  refine W.cond_false (congrArg Value.bool hc1) ?_
  refine W.skip ?_
  refine W.seq ?_
  refine W.seq ?_
  refine W.region ?_
  refine O.move (v := va0) rfl rfl rfl ?_
  refine O.lenS Tryd.underlying37 (H.arg ha0) rfl rfl rfl ?_
  refine O.move (v := (.int .i64 0)) rfl rfl rfl ?_
  refine WL.nil ?_
  obtain ⟨o1, hm1, hm⟩ := bind_some hm
  refine W.via (fun f w => o1 = .next () ∧ Inv w0 w []) ?_ ?_
  ·
   refine W.block ?_
   have hbdik1 := (H.arg ha0).len_le
   refine W.rangeN (i := 0) hm1 (fun rem ik1 s f w => () = s ∧ (ik1 : Int) + rem = max 0 ((a0.length : Nat) : Int) ∧ f 13 = .int .i64 (ik1 : Int) ∧ f 12 = (.int .i64 ((a0.length : Nat) : Int)) ∧ f 0 = va0 ∧ f 1 = va1 ∧ Inv w0 w []) ?_ ?_ ?_
   ·
    exact ⟨rfl, rangeN_start, rfl, rfl, rfl, rfl, H⟩
   ·
    rintro k ik1 _ st f w ⟨rfl, hdropk1, hf13, hf12, hf0, hf1, H⟩ hm2
    have hltk1 := rangeN_lt hdropk1
    obtain ⟨u1, rfl⟩ := up4 hf13 hf12 hf0 hf1
    have hinck1 := addI_lt hltk1 hbdik1
    refine W.seq ?_
    refine W.region ?_
    refine O.lss rfl rfl rfl rfl ?_
    refine WL.nil ?_
    refine W.seq ?_
    refine W.cond_true (congrArg Value.bool (decide_eq_true hltk1)) ?_
    refine W.skip ?_
    refine W.seq ?_
    refine W.block ?_
    refine W.seq ?_
    refine W.region ?_
    refine O.move (v := (.int .i64 (ik1 : Int))) rfl rfl rfl ?_
    refine O.assign (v := (.int .i64 (ik1 : Int))) rfl rfl rfl ?_
    refine WL.nil ?_
    refine W.seq ?_
    obtain ⟨x1, hx1, hm2⟩ := bind_some hm2
    obtain ⟨p1, hp1, hrp1⟩ := fix_indexAddr Tryd.underlying37 sz3 (H.arg ha0) hx1
    obtain ⟨x2, hx2, hm2⟩ := bind_some hm2
    obtain ⟨p2, hp2, hrp2⟩ := fix_indexAddr Tryd.underlying37 sz3 (H.arg ha1) hx2
    refine W.drawN 8 (fun f => f 0 = va0 ∧ f 1 = va1 ∧ f 12 = (.int .i64 ((a0.length : Nat) : Int)) ∧ f 13 = (.int .i64 (ik1 : Int)) ∧ f 19 = (.int .i64 x1) ∧ f 23 = (.int .i64 x2)) fol (by kernel_rfl) ?_ ?_
    ·
     refine PL.of (fun _ w8 _ hx => O.move (v := va0) rfl rfl rfl (WL.nil ⟨rfl, hx⟩)) ?_
     refine PL.of (fun _ w8 _ hx => O.move (v := (.int .i64 (ik1 : Int))) rfl rfl rfl (WL.nil ⟨rfl, hx⟩)) ?_
     refine PL.of (fun _ w8 _ hx => hrp1 rfl rfl rfl rfl (WL.nil ⟨rfl, hx⟩)) ?_
     refine PL.of (fun _ w8 _ hx => by have hp1 := hp1.mono hx; exact O.load sc3 rfl rfl rfl (hp1.flat 0 _ rfl) (WL.nil ⟨rfl, hx⟩)) ?_
     refine PL.of (fun _ w8 _ hx => O.move (v := va1) rfl rfl rfl (WL.nil ⟨rfl, hx⟩)) ?_
     refine PL.of (fun _ w8 _ hx => O.move (v := (.int .i64 (ik1 : Int))) rfl rfl rfl (WL.nil ⟨rfl, hx⟩)) ?_
     refine PL.of (fun _ w8 _ hx => hrp2 rfl rfl rfl rfl (WL.nil ⟨rfl, hx⟩)) ?_
     refine PL.of (fun _ w8 _ hx => by have hp2 := hp2.mono hx; exact O.load sc3 rfl rfl rfl (hp2.flat 0 _ rfl) (WL.nil ⟨rfl, hx⟩)) ?_
     refine PL.nil ?_
     exact ⟨rfl, rfl, rfl, rfl, rfl, rfl⟩
    ·
     rintro f w ⟨hf0, hf1, hf12, hf13, hf19, hf23⟩ hmd hx
     have H := H.ext hx
     have hp1 := hp1.mono hx
     have hp2 := hp2.mono hx
     obtain ⟨u2, rfl⟩ := up6 hf0 hf1 hf12 hf13 hf19 hf23
     refine O.neq rfl rfl rfl rfl ?_
     refine WL.nil ?_
     rcases ite_some hm2 with ⟨hc2, hm2⟩ | ⟨hc2, hm2⟩
     ·
      refine W.cond_true (congrArg Value.bool hc2) ?_
      refine W.seq ?_
      refine W.region ?_
      refine O.assign (v := (.bool false)) rfl rfl rfl ?_
      refine WL.nil ?_
      refine W.ret ?_
      obtain rfl := Option.some.inj hm2
      refine ⟨_, rfl, ?_⟩
      rintro rfl
      have hq : false = r0 := Option.some.inj (show some false = some r0 from hm)
      subst hq
      exact ends1 Tryd.results17 rfl ⟨_, rfl, H.base, rfl⟩
     ·
      refine W.cond_false (congrArg Value.bool hc2) ?_
      refine W.skip ?_
      refine W.region ?_
      refine O.add rfl rfl rfl rfl hinck1 ?_
      refine O.move (v := .int .i64 ((ik1 : Int) + 1)) rfl rfl rfl ?_
      refine WL.nil ?_
      obtain rfl := Option.some.inj hm2
      exact ⟨_, rfl, rfl, rangeN_next hdropk1, rfl, rfl, rfl, rfl, H⟩
   ·
    rintro ik1 _ f w ⟨rfl, hdropk1, hf13, hf12, hf0, hf1, H⟩ hfin
    have hltk1 := rangeN_end hdropk1
    obtain ⟨u3, rfl⟩ := up4 hf13 hf12 hf0 hf1
    refine W.seq ?_
    refine W.region ?_
    refine O.lss rfl rfl rfl rfl ?_
    refine WL.nil ?_
    refine W.seq ?_
    refine W.cond_false (congrArg Value.bool (decide_eq_false hltk1)) ?_
    refine W.exit ?_
    obtain rfl : Ctl.next () = o1 := hfin
    refine xT rfl ?_
    exact ⟨rfl, H⟩
  ·
   rintro f w ⟨rfl, H⟩
   refine W.seq ?_
   refine W.region ?_
   refine O.assign (v := (.bool true)) rfl rfl rfl ?_
   refine WL.nil ?_
   refine W.ret ?_
   have hq : true = r0 := Option.some.inj (show some true = some r0 from hm)
   subst hq
   exact ends1 Tryd.results17 rfl ⟨_, rfl, H.base, rfl⟩

set_option maxRecDepth 20000 in
theorem c_noongunlaw09_awake {w0 : World}  {r0 : Bool} (hm : noongunlaw09_awake  = some r0) :
  Calls Tryd.prog 6 #[] w0 (Ret w0 fun _ v => v = (.bool r0)) := by
 unfold noongunlaw09_awake at hm
 refine calls_of_W Tryd.func6 rfl Tryd.ntmps6 (Nat.le_of_ble_eq_true rfl) ?_
 have H := Inv.start (w := w0)
 refine W.seq ?_
 refine W.region ?_
 refine O.assign (v := (.bool false)) rfl rfl rfl ?_
 refine WL.nil ?_
 refine W.seq ?_
 refine W.region ?_
 refine O.build (v := (.agg (Flat.cells (GEntry.mk 5 false 100)).toArray)) (fun w => bd34_0_2 _ _ w) rfl rfl rfl ?_
 refine O.build (v := (.agg (Flat.cells (GEntry.mk 5 true 180)).toArray)) (fun w => bd34_0_1_2 _ _ _ w) rfl rfl rfl ?_
 refine O.build (v := (.agg (Flat.cells (GEntry.mk 6 false 90)).toArray)) (fun w => bd34_0_2 _ _ w) rfl rfl rfl ?_
 refine O.build (v := (.agg (Flat.cells (GEntry.mk 5 true 170)).toArray)) (fun w => bd34_0_1_2 _ _ _ w) rfl rfl rfl ?_
 refine O.buildSlice (α := GEntry) [(.agg (Flat.cells (GEntry.mk 5 false 100)).toArray), (.agg (Flat.cells (GEntry.mk 5 true 180)).toArray), (.agg (Flat.cells (GEntry.mk 6 false 90)).toArray), (.agg (Flat.cells (GEntry.mk 5 true 170)).toArray)] [(GEntry.mk 5 false 100), (GEntry.mk 5 true 180), (GEntry.mk 6 false 90), (GEntry.mk 5 true 170)] Tryd.underlying22 el34 H rfl rfl rfl rfl rfl rfl rfl ?_
 intro v1 w1 H hb1
 refine O.assign (v := v1) rfl rfl rfl ?_
 refine WL.nil ?_
 refine W.seq ?_
 refine W.region ?_
 refine O.move (v := v1) rfl rfl rfl ?_
 obtain ⟨⟨t1, t2⟩, hy1, hm⟩ := bind_some hm
 refine O.call Tryd.call15 rfl rfl rfl (c_ledger_Off _ _ (H.own 0 rfl) _ hy1) ?_
 rintro _ w2 hb2 rfl
 have H := H.ext hb2
 refine O.move (v := (.tuple #[(.int .i64 t1), (.int .i64 t2)])) rfl rfl rfl ?_
 refine O.extract (v := (.int .i64 t1)) rfl rfl rfl rfl ?_
 refine O.extract (v := (.int .i64 t2)) rfl rfl rfl rfl ?_
 refine O.assign (v := (.int .i64 t1)) rfl rfl rfl ?_
 refine O.assign (v := (.int .i64 t2)) rfl rfl rfl ?_
 refine WL.nil ?_
 refine W.seq ?_
 refine W.region ?_
 refine O.move (v := v1) rfl rfl rfl ?_
 obtain ⟨⟨t3, t4⟩, hy2, hm⟩ := bind_some hm
 refine O.call Tryd.call16 rfl rfl rfl (c_ledger_Corrections _ _ (H.own 0 rfl) hy2) ?_
 rintro _ w3 hb3 ⟨v2, rfl, ho1⟩
 have H := H.addOwn hb3 ho1
 refine O.move (v := (.tuple #[v2, (.int .i64 t4)])) rfl rfl rfl ?_
 refine O.extract (v := v2) rfl rfl rfl rfl ?_
 refine O.extract (v := (.int .i64 t4)) rfl rfl rfl rfl ?_
 refine O.assign (v := v2) rfl rfl rfl ?_
 refine O.assign (v := (.int .i64 t4)) rfl rfl rfl ?_
 refine WL.nil ?_
 refine W.seq ?_
 refine W.region ?_
 refine O.move (v := (.int .i64 t2)) rfl rfl rfl ?_
 refine O.eql rfl rfl rfl rfl ?_
 refine O.move (v := (.bool (t2 == 0))) rfl rfl rfl ?_
 refine WL.cut 3 (fun f w => f 4 = v2 ∧ f 5 = (.int .i64 t4) ∧ f 26 = .bool ((t2 == 0) && (t1 == 70)) ∧ Inv w0 w [ownI (α := GEntry) v1 34 ([(GEntry.mk 5 false 100), (GEntry.mk 5 true 180), (GEntry.mk 6 false 90), (GEntry.mk 5 true 170)] : List GEntry), ownI (α := Int) v2 3 t3]) ?_ ?_
 ·
  rcases bool_ft (t2 == 0) with hc1 | hc1
  ·
   refine WL.reset (i := 23) (v := .bool false) (congrArg Value.bool hc1) ?_
   refine O.skip rfl rfl ?_
   refine O.skip rfl rfl ?_
   refine O.pick_false (v := (.bool false)) rfl rfl rfl rfl ?_
   exact WL.nil ⟨rfl, rfl, congrArg Value.bool (and_f hc1), H⟩
  ·
   refine WL.reset (i := 23) (v := .bool true) (congrArg Value.bool hc1) ?_
   refine O.move (v := (.int .i64 t1)) rfl rfl rfl ?_
   refine O.eql rfl rfl rfl rfl ?_
   refine O.pick_true (v := (.bool (t1 == 70))) rfl rfl rfl rfl ?_
   exact WL.nil ⟨rfl, rfl, congrArg Value.bool (and_t hc1), H⟩
 ·
  rintro f w ⟨hf4, hf5, hf26, H⟩
  obtain ⟨u1, rfl⟩ := up3 hf4 hf5 hf26
  refine O.move (v := (.bool ((t2 == 0) && (t1 == 70)))) rfl rfl rfl ?_
  refine WL.cut 3 (fun f w => f 4 = v2 ∧ f 30 = .bool (((t2 == 0) && (t1 == 70)) && (t4 == 0)) ∧ Inv w0 w [ownI (α := GEntry) v1 34 ([(GEntry.mk 5 false 100), (GEntry.mk 5 true 180), (GEntry.mk 6 false 90), (GEntry.mk 5 true 170)] : List GEntry), ownI (α := Int) v2 3 t3]) ?_ ?_
  ·
   rcases bool_ft ((t2 == 0) && (t1 == 70)) with hc2 | hc2
   ·
    refine WL.reset (i := 27) (v := .bool false) (congrArg Value.bool hc2) ?_
    refine O.skip rfl rfl ?_
    refine O.skip rfl rfl ?_
    refine O.pick_false (v := (.bool false)) rfl rfl rfl rfl ?_
    exact WL.nil ⟨rfl, congrArg Value.bool (and_f hc2), H⟩
   ·
    refine WL.reset (i := 27) (v := .bool true) (congrArg Value.bool hc2) ?_
    refine O.move (v := (.int .i64 t4)) rfl rfl rfl ?_
    refine O.eql rfl rfl rfl rfl ?_
    refine O.pick_true (v := (.bool (t4 == 0))) rfl rfl rfl rfl ?_
    exact WL.nil ⟨rfl, congrArg Value.bool (and_t hc2), H⟩
  ·
   rintro f w ⟨hf4, hf30, H⟩
   obtain ⟨u2, rfl⟩ := up2 hf4 hf30
   refine O.move (v := (.bool (((t2 == 0) && (t1 == 70)) && (t4 == 0)))) rfl rfl rfl ?_
   obtain ⟨b1, hm1, hm⟩ := bind_some hm
   refine WL.cut 4 (fun f w => f 35 = .bool b1 ∧ Inv w0 w [ownI (α := GEntry) v1 34 ([(GEntry.mk 5 false 100), (GEntry.mk 5 true 180), (GEntry.mk 6 false 90), (GEntry.mk 5 true 170)] : List GEntry), ownI (α := Int) v2 3 t3]) ?_ ?_
   ·
    rcases ite_some hm1 with ⟨hc3, hm1⟩ | ⟨hc3, hm1⟩
    ·
     refine WL.reset (i := 31) (v := .bool true) (congrArg Value.bool hc3) ?_
     refine O.move (v := v2) rfl rfl rfl ?_
     refine O.buildSlice (α := Int) [(.int .i64 3)] [3] Tryd.underlying37 el3 H rfl rfl rfl rfl rfl rfl rfl ?_
     intro v3 w4 H hb4
     obtain ⟨t5, hy3, hm1⟩ := bind_some hm1
     refine O.call Tryd.call17 rfl rfl rfl (c_noongunref09_SameInts _ _ (H.own 1 rfl) _ _ (H.own 2 rfl) hy3) ?_
     rintro _ w5 hb5 rfl
     have H := H.ext hb5
     refine O.pick_true (v := (.bool t5)) rfl rfl rfl rfl ?_
     refine WL.nil ?_
     have H := H.keep [0, 1] [ownI (α := GEntry) v1 34 ([(GEntry.mk 5 false 100), (GEntry.mk 5 true 180), (GEntry.mk 6 false 90), (GEntry.mk 5 true 170)] : List GEntry), ownI (α := Int) v2 3 t3] rfl (by decide)
     have hq : t5 = b1 := Option.some.inj (show some t5 = some b1 from hm1)
     subst hq
     exact ⟨rfl, H⟩
    ·
     refine WL.reset (i := 31) (v := .bool false) (congrArg Value.bool hc3) ?_
     refine O.skip rfl rfl ?_
     refine O.skip rfl rfl ?_
     refine O.skip rfl rfl ?_
     refine O.pick_false (v := (.bool false)) rfl rfl rfl rfl ?_
     refine WL.nil ?_
     have hq : false = b1 := Option.some.inj (show some false = some b1 from hm1)
     subst hq
     exact ⟨rfl, H⟩
   ·
    rintro f w ⟨hf35, H⟩
    obtain ⟨u3, rfl⟩ := up1 hf35
    refine O.assign (v := (.bool b1)) rfl rfl rfl ?_
    refine WL.nil ?_
    refine W.ret ?_
    have hq : b1 = r0 := Option.some.inj (show some b1 = some r0 from hm)
    subst hq
    exact ends1 Tryd.results6 rfl ⟨_, rfl, H.base, rfl⟩

theorem c_strings_Cut {w0 : World} (hT : EnvH Tryd.prog 0 1 2 w0) (a0 a1 : ByteArray) {r0 : ByteArray} {r1 : ByteArray} {r2 : Bool} (hm : strings_Cut a0 a1 = some (r0, r1, r2)) :
  Calls Tryd.prog 19 #[(.string a0), (.string a1)] w0 (Ret w0 fun _ v => v = (.tuple #[(.string r0), (.string r1), (.bool r2)])) := by
 unfold strings_Cut cutSI at hm
 split at hm
 case isFalse => cases hm
 rename_i hn
 cases hm
 exact c_Cut { Tryd.cutT with } hT a0 a1 hn

theorem c_strings_Split {w0 : World} (hT : EnvH Tryd.prog 0 1 2 w0) (a0 a1 : ByteArray) {r0 : List ByteArray} (hm : strings_Split a0 a1 = some r0) :
  Calls Tryd.prog 20 #[(.string a0), (.string a1)] w0 (Ret w0 fun w v => OwnR w0 w v 9 r0) := by
 unfold strings_Split splitI at hm
 split at hm
 case isFalse => cases hm
 rename_i hn
 cases hm
 exact c_SplitO Tryd.splitT hT a0 a1 hn.1 hn.2

theorem c_ledger_word {w0 : World} (a0 : Bool) {r0 : ByteArray} (hm : ledger_word a0 = some r0) :
  Calls Tryd.prog 21 #[(.bool a0)] w0 (Ret w0 fun _ v => v = (.string r0)) := by
 unfold ledger_word at hm
 refine calls_of_W Tryd.func21 rfl Tryd.ntmps21 (Nat.le_of_ble_eq_true rfl) ?_
 have H := Inv.start (w := w0)
 refine W.seq ?_
 refine W.region ?_
 refine O.assign (v := (.string (bs []))) rfl rfl rfl ?_
 refine WL.nil ?_
 refine W.seq ?_
 refine W.seq ?_
 refine W.region ?_
 refine O.move (v := (.bool a0)) rfl rfl rfl ?_
 refine WL.nil ?_
 rcases ite_some hm with ⟨hc1, hm⟩ | ⟨hc1, hm⟩
 ·
  refine W.cond_true (congrArg Value.bool hc1) ?_
  refine W.seq ?_
  refine W.region ?_
  refine O.assign (v := (.string (bs [102, 111, 117, 110, 100]))) rfl rfl rfl ?_
  refine WL.nil ?_
  refine W.ret ?_
  have hq : (bs [102, 111, 117, 110, 100]) = r0 := Option.some.inj (show some (bs [102, 111, 117, 110, 100]) = some r0 from hm)
  subst hq
  exact ends1 Tryd.results21 rfl ⟨_, rfl, H.base, rfl⟩
 ·
  refine W.cond_false (congrArg Value.bool hc1) ?_
  refine W.skip ?_
  refine W.seq ?_
  refine W.region ?_
  refine O.assign (v := (.string (bs [115, 97, 105, 100]))) rfl rfl rfl ?_
  refine WL.nil ?_
  refine W.ret ?_
  have hq : (bs [115, 97, 105, 100]) = r0 := Option.some.inj (show some (bs [115, 97, 105, 100]) = some r0 from hm)
  subst hq
  exact ends1 Tryd.results21 rfl ⟨_, rfl, H.base, rfl⟩

theorem c_strconv_Itoa {w0 : World} (hT : EnvH Tryd.prog 0 1 2 w0) (a0 : Int) {r0 : ByteArray} (hm : strconv_Itoa a0 = some r0) :
  Calls Tryd.prog 27 #[(.int .i64 a0)] w0 (Ret w0 fun _ v => v = (.string r0)) := by
 unfold strconv_Itoa at hm
 split at hm
 case isFalse => cases hm
 rename_i hn
 obtain rfl := Option.some.inj hm
 exact c_ItoaZ Tryd.itoaT hT.tab a0 hn.1 hn.2

theorem c_strconv_Atoi {w0 : World} (hT : EnvH Tryd.prog 0 1 2 w0) (a0 : ByteArray) {r0 : Int} (hm : atoiI a0 = some r0) :
  Calls Tryd.prog 22 #[(.string a0)] w0 (Ret w0 fun _ v => ∃ e, v = (.tuple #[(.int .i64 r0), e])) := by
 unfold atoiI at hm
 split at hm
 case isFalse => cases hm
 rename_i hn
 cases hm
 exact c_Atoi Tryd.atoiT hT a0 hn

theorem ze57 : ZeroT Tryd.prog 57 (.agg #[(.pointer none), (.slice none 0 0)]) := ZeroT.mk (by kernel_rfl)
theorem bldOk : BuilderOk Tryd.prog 26 28 57 5 := builderOk Tryd.writeT Tryd.writeX Tryd.stringT Tryd.stringX rfl rfl
theorem c_ledger_Format {w0 : World} (hT : EnvH Tryd.prog 0 1 2 w0) (va0 : Value) (a0 : (List GEntry)) (ha0 : SliceR w0 va0 a0) {r0 : ByteArray} (hm : ledger_Format a0 = some r0) :
  Calls Tryd.prog 12 #[va0] w0 (Ret w0 fun _ v => v = (.string r0)) := by
 unfold ledger_Format at hm
 refine calls_of_W Tryd.func12 rfl Tryd.ntmps12 (Nat.le_of_ble_eq_true rfl) ?_
 have H := Inv.start (w := w0)
 refine W.seq ?_
 refine W.region ?_
 refine O.assign (v := (.string (bs []))) rfl rfl rfl ?_
 refine WL.nil ?_
 refine W.seq ?_
 refine W.seq ?_
 refine W.region ?_
 refine O.move (v := va0) rfl rfl rfl ?_
 obtain ⟨t1, hy1, hm⟩ := bind_some hm
 refine O.call Tryd.call14 rfl rfl rfl (c_ledger_Valid _ _ (H.arg ha0) hy1) ?_
 rintro _ w1 hb1 rfl
 have H := H.ext hb1
 refine O.not rfl rfl rfl ?_
 refine WL.nil ?_
 rcases ite_some hm with ⟨hc1, hm⟩ | ⟨hc1, hm⟩
 ·
  refine W.cond_true (congrArg Value.bool hc1) ?_
  refine W.seq ?_
  refine W.region ?_
  refine O.assign (v := (.string (bs []))) rfl rfl rfl ?_
  refine WL.nil ?_
  refine W.ret ?_
  have hq : (bs []) = r0 := Option.some.inj hm
  subst hq
  exact ends1 Tryd.results12 rfl ⟨_, rfl, H.base, rfl⟩
 refine W.cond_false (congrArg Value.bool hc1) ?_
 refine W.skip ?_
 refine W.seq ?_
 refine W.region ?_
 refine O.alloc [(.pointer none), (.slice none 0 0)] ze57 H rfl rfl rfl ?_
 intro b0 w2 H hb2
 have H := H.addNil (α := UInt8) (E := 5)
 refine WL.nil ?_
 refine W.seq ?_
 refine W.seq ?_
 refine W.region ?_
 refine O.move (v := va0) rfl rfl rfl ?_
 refine O.lenS Tryd.underlying22 (H.arg ha0) rfl rfl rfl ?_
 refine O.move (v := (.int .i64 0)) rfl rfl rfl ?_
 refine WL.nil ?_
 obtain ⟨o1, hm1, hm⟩ := bind_some hm
 refine W.via (fun f w => f 3 = (.pointer (some ⟨b0, 0, none⟩)) ∧ ∃ p v, (p = .pointer none ∨ p = .pointer (some ⟨b0, 0, none⟩)) ∧ Inv w0 w [boxI b0 57 [p, v], ownI v 5 o1]) ?_ ?_
 ·
  refine W.block ?_
  refine W.rangeL (i := 0) hm1 (fun rem ik1 s f w => a0.drop ik1 = rem ∧ f 11 = .int .i64 (ik1 : Int) ∧ f 10 = (.int .i64 ((a0.length : Nat) : Int)) ∧ f 9 = va0 ∧ f 3 = (.pointer (some ⟨b0, 0, none⟩)) ∧ ∃ p v, (p = .pointer none ∨ p = .pointer (some ⟨b0, 0, none⟩)) ∧ Inv w0 w [boxI b0 57 [p, v], ownI v 5 s]) ?_ ?_ ?_
  · exact ⟨List.drop_zero, rfl, rfl, rfl, rfl, _, _, .inl rfl, H⟩
  ·
   rintro yk1 xs ik1 z st f w ⟨hdropk1, hf11, hf10, hf9, hf3, p, v, hp, H⟩ hm2
   have hltk1 := drop_lt hdropk1; have hixk1 := drop_idx hdropk1
   obtain ⟨u1, rfl⟩ := up4 hf11 hf10 hf9 hf3
   have hinck1 := addI_lt hltk1 (H.arg ha0).len_le
   refine W.seq ?_
   refine W.region ?_
   refine O.lss rfl rfl rfl rfl ?_
   refine WL.nil ?_
   refine W.seq ?_
   refine W.cond_true (congrArg Value.bool (decide_eq_true hltk1)) ?_
   refine W.skip ?_
   refine W.seq ?_
   refine W.block ?_
   refine W.seq ?_
   refine W.region ?_
   obtain ⟨p1, hp1, hrp1⟩ := fix_indexAddr Tryd.underlying22 sz34 ha0 hixk1
   refine hrp1 rfl rfl rfl rfl ?_
   refine O.loadA [(.int .i64 yk1.Day), (.bool yk1.Found), (.int .i64 yk1.Error)] ag34 rfl rfl rfl rfl ((hp1.mono H.base).flat) ?_
   refine O.alloc [(.int .i64 0), (.bool false), (.int .i64 0)] ze34 H rfl rfl rfl ?_
   intro b1 w1 H hb1
   refine O.store 2 0 [(.int .i64 yk1.Day), (.bool yk1.Found), (.int .i64 yk1.Error)] [(.int .i64 yk1.Day), (.bool yk1.Found), (.int .i64 yk1.Error)] sz34 H rfl rfl rfl rfl rfl rfl ⟨⟨rfl, rfl⟩, rfl⟩ (one_cons rfl (one_cons rfl (one_cons rfl one_nil))) ?_
   intro w2 H
   refine WL.nil ?_
   obtain ⟨ln, hln, hm2⟩ := bind_some hm2
   obtain ⟨z2, hz2, hm2⟩ := bind_some hm2
   obtain rfl := Option.some.inj hm2
   unfold addL at hz2
   obtain ⟨hlen, hz2⟩ : z.length + ln.size ≤ 1099511627776 ∧ z ++ Fw.bytes ln = z2 := by
    split at hz2
    · rename_i hh; exact ⟨hh, Option.some.inj hz2⟩
    · cases hz2
   subst hz2
   unfold ledger_lineN at hln
   obtain ⟨t1, hy1, hln⟩ := bind_some hln
   obtain ⟨t2, ht2, hln⟩ := bind_some hln
   obtain ⟨t3, hy2, hln⟩ := bind_some hln
   obtain ⟨t4, ht4, hln⟩ := bind_some hln
   obtain ⟨t5, ht5, hln⟩ := bind_some hln
   obtain ⟨t6, hy3, hln⟩ := bind_some hln
   obtain ⟨t7, ht7, hln⟩ := bind_some hln
   obtain ⟨t8, ht8, hln⟩ := bind_some hln
   obtain rfl := Option.some.inj hln
   refine W.drawN 14 (fun f => f 28 = (.string t8) ∧ f 11 = .int .i64 (ik1 : Int) ∧ f 10 = (.int .i64 ((a0.length : Nat) : Int)) ∧ f 9 = va0 ∧ f 3 = (.pointer (some ⟨b0, 0, none⟩))) fol (by kernel_rfl) ?_ ?_
   ·
    refine PL.of (fun _ w8 _ hx => O.fieldAddr fd34_0 rfl rfl rfl (WL.nil ⟨rfl, hx⟩)) ?_
    refine PL.of (fun _ w8 _ hx => by have H := H.ext hx; exact O.load sc3 rfl rfl rfl (H.cell 2 rfl 0 _ rfl) (WL.nil ⟨rfl, hx⟩)) ?_
    refine PL.of (fun _ w8 _ hx => by have H := H.ext hx; exact O.call Tryd.call27 rfl rfl rfl (c_strconv_Itoa (hT.mono H.base) _ hy1) (by rintro _ _ hb rfl; exact WL.nil ⟨rfl, hx.trans (hb.mono hx.size)⟩)) ?_
    refine PL.of (fun _ w8 _ hx => O.addS rfl rfl rfl rfl ht2 (WL.nil ⟨rfl, hx⟩)) ?_
    refine PL.of (fun _ w8 _ hx => O.fieldAddr fd34_1 rfl rfl rfl (WL.nil ⟨rfl, hx⟩)) ?_
    refine PL.of (fun _ w8 _ hx => by have H := H.ext hx; exact O.load sc4 rfl rfl rfl (H.cell 2 rfl 1 _ rfl) (WL.nil ⟨rfl, hx⟩)) ?_
    refine PL.of (fun _ w8 _ hx => by have H := H.ext hx; exact O.call Tryd.call21 rfl rfl rfl (c_ledger_word _ hy2) (by rintro _ _ hb rfl; exact WL.nil ⟨rfl, hx.trans (hb.mono hx.size)⟩)) ?_
    refine PL.of (fun _ w8 _ hx => O.addS rfl rfl rfl rfl ht4 (WL.nil ⟨rfl, hx⟩)) ?_
    refine PL.of (fun _ w8 _ hx => O.addS rfl rfl rfl rfl ht5 (WL.nil ⟨rfl, hx⟩)) ?_
    refine PL.of (fun _ w8 _ hx => O.fieldAddr fd34_2 rfl rfl rfl (WL.nil ⟨rfl, hx⟩)) ?_
    refine PL.of (fun _ w8 _ hx => by have H := H.ext hx; exact O.load sc3 rfl rfl rfl (H.cell 2 rfl 2 _ rfl) (WL.nil ⟨rfl, hx⟩)) ?_
    refine PL.of (fun _ w8 _ hx => by have H := H.ext hx; exact O.call Tryd.call27 rfl rfl rfl (c_strconv_Itoa (hT.mono H.base) _ hy3) (by rintro _ _ hb rfl; exact WL.nil ⟨rfl, hx.trans (hb.mono hx.size)⟩)) ?_
    refine PL.of (fun _ w8 _ hx => O.addS rfl rfl rfl rfl ht7 (WL.nil ⟨rfl, hx⟩)) ?_
    refine PL.of (fun _ w8 _ hx => O.addS rfl rfl rfl rfl ht8 (WL.nil ⟨rfl, hx⟩)) ?_
    refine PL.nil ?_
    exact ⟨rfl, rfl, rfl, rfl, rfl⟩
   rintro f w ⟨hf28, hf11, hf10, hf9, hf3⟩ hmd hx
   have H := H.ext hx
   obtain ⟨u2, rfl⟩ := up5 hf28 hf11 hf10 hf9 hf3
   refine O.writeS 0 1 bldOk H rfl rfl (by omega) hp hlen Tryd.call26 rfl rfl rfl rfl ?_
   intro v' w' H
   refine WL.nil ?_
   refine W.region ?_
   refine O.add rfl rfl rfl rfl hinck1 ?_
   refine O.move (v := .int .i64 ((ik1 : Int) + 1)) rfl rfl rfl ?_
   exact WL.nil ⟨_, rfl, drop_next hdropk1, rfl, rfl, rfl, rfl, _, _, .inr rfl, H⟩
  ·
   rintro ik1 z f w ⟨hdropk1, hf11, hf10, hf9, hf3, p, v, hp, H⟩ hfin
   have hltk1 := drop_end hdropk1
   obtain ⟨u1, rfl⟩ := up4 hf11 hf10 hf9 hf3
   refine W.seq ?_
   refine W.region ?_
   refine O.lss rfl rfl rfl rfl ?_
   refine WL.nil ?_
   refine W.seq ?_
   refine W.cond_false (congrArg Value.bool (decide_eq_false hltk1)) ?_
   refine W.exit ?_
   obtain rfl : z = o1 := hfin
   refine xT rfl ?_
   exact ⟨rfl, p, v, hp, H⟩
 ·
  rintro f w ⟨hf3, p, v, hp, H⟩
  obtain ⟨u3, rfl⟩ := up1 hf3
  refine W.seq ?_
  refine W.region ?_
  refine O.strS 0 1 bldOk H rfl rfl (by omega) hp Tryd.call28 rfl rfl rfl ?_
  intro w' H
  refine O.assign (v := (.string ⟨o1.toArray⟩)) rfl rfl rfl ?_
  refine WL.nil ?_
  refine W.ret ?_
  have hq : (⟨o1.toArray⟩ : ByteArray) = r0 := Option.some.inj hm
  subst hq
  exact ends1 Tryd.results12 rfl ⟨_, rfl, H.base, rfl⟩

theorem c_strings_HasPrefix {w0 : World} (a0 a1 : ByteArray) {r0 : Bool} (hm : strings_HasPrefix a0 a1 = some r0) :
  Calls Tryd.prog 23 #[(.string a0), (.string a1)] w0 (Ret w0 fun _ v => v = (.bool r0)) := by
 unfold strings_HasPrefix at hm
 cases hm
 exact c_Pref Tryd.prefT a0 a1

set_option maxRecDepth 20000 in
theorem c_ledger_Parse {w0 : World} (hT : EnvH Tryd.prog 0 1 2 w0) (a0 : ByteArray) {r0 : (List GEntry)} {r1 : Int} {r2 : Int} (hm : ledger_Parse a0 = some (r0, r1, r2)) :
  Calls Tryd.prog 9 #[(.string a0)] w0 (Ret w0 fun w v => ∃ vr0 : Value, v = .tuple #[vr0, (.int .i64 r1), (.int .i64 r2)] ∧ OwnR w0 w vr0 34 r0) := by
 unfold ledger_Parse at hm
 refine calls_of_W Tryd.func9 rfl Tryd.ntmps9 (Nat.le_of_ble_eq_true rfl) ?_
 have H := Inv.start (w := w0)
 refine W.seq ?_
 refine W.region ?_
 have H := H.addNil (α := GEntry) (E := 34)
 refine O.assign (v := (.slice none 0 0)) rfl rfl rfl ?_
 refine O.assign (v := (.int .i64 0)) rfl rfl rfl ?_
 refine O.assign (v := (.int .i64 0)) rfl rfl rfl ?_
 refine WL.nil ?_
 refine W.seq ?_
 refine W.seq ?_
 refine W.region ?_
 refine O.move (v := (.string a0)) rfl rfl rfl ?_
 refine O.lenStr Tryd.underlying9 rfl rfl rfl ?_
 refine O.gtr rfl rfl rfl rfl ?_
 refine WL.nil ?_
 rcases ite_some hm with ⟨hc1, hm⟩ | ⟨hc1, hm⟩
 ·
  refine W.cond_true (congrArg Value.bool hc1) ?_
  refine W.seq ?_
  refine W.region ?_
  have H := H.addNil (α := GEntry) (E := 34)
  refine O.assign (v := (.slice none 0 0)) rfl rfl rfl ?_
  refine O.assign (v := (.int .i64 0)) rfl rfl rfl ?_
  refine O.assign (v := (.int .i64 3)) rfl rfl rfl ?_
  refine WL.nil ?_
  refine W.ret ?_
  have hq : (([] : List GEntry), 0, 3) = (r0, r1, r2) := Option.some.inj (show some (([] : List GEntry), 0, 3) = some (r0, r1, r2) from hm)
  obtain ⟨he0, hq0⟩ := Prod.mk.inj hq; clear hq; subst he0
  obtain ⟨he1, hq1⟩ := Prod.mk.inj hq0; clear hq0; subst he1
  subst hq1
  exact ends3 Tryd.results9 rfl rfl rfl ⟨_, rfl, H.base, ⟨_, rfl, H.ownR 1 rfl⟩⟩
 ·
  refine W.cond_false (congrArg Value.bool hc1) ?_
  refine W.skip ?_
  refine W.seq ?_
  obtain ⟨o1, hm1, hm⟩ := bind_some hm
  refine W.via (fun f w => ∃ s1 : (List GEntry), ∃ v4 : Value, o1 = .next s1 ∧ f 2 = v4 ∧ Inv w0 w [ownI (α := GEntry) v4 34 s1]) ?_ ?_
  ·
   refine W.block ?_
   refine W.loopR hm1 (fun s f w => ∃ z4 : ByteArray, ∃ z5 : Int, ∃ z6 : (List GEntry), ∃ v2 : Value, (z4, z5, z6) = s ∧ f 0 = (.string z4) ∧ f 2 = v2 ∧ f 3 = (.int .i64 z5) ∧ Inv w0 w [ownI (α := GEntry) v2 34 z6]) ?_ ?_
   ·
    exact ⟨_, _, _, (.slice none 0 0), rfl, rfl, rfl, rfl, H⟩
   ·
    rintro _ st f w ⟨z4, z5, z6, v2, rfl, hf0, hf2, hf3, H⟩ hm2
    obtain ⟨u1, rfl⟩ := up3 hf0 hf2 hf3
    refine W.seq ?_
    refine W.seq ?_
    refine W.region ?_
    refine O.move (v := (.string z4)) rfl rfl rfl ?_
    refine O.neqS rfl rfl rfl rfl ?_
    refine WL.nil ?_
    rcases ite_some hm2 with ⟨hc2, hm2⟩ | ⟨hc2, hm2⟩
    ·
     refine W.cond_true (congrArg Value.bool hc2) ?_
     refine W.skip ?_
     refine W.block ?_
     refine W.seq ?_
     refine W.region ?_
     refine O.move (v := (.string z4)) rfl rfl rfl ?_
     obtain ⟨⟨t1, t2, t3⟩, hy1, hm2⟩ := bind_some hm2
     refine O.call Tryd.call19 rfl rfl rfl (c_strings_Cut (hT.mono H.base) _ _ hy1) ?_
     rintro _ w1 hb1 rfl
     have H := H.ext hb1
     refine O.move (v := (.tuple #[(.string t1), (.string t2), (.bool t3)])) rfl rfl rfl ?_
     refine O.extract (v := (.string t1)) rfl rfl rfl rfl ?_
     refine O.extract (v := (.string t2)) rfl rfl rfl rfl ?_
     refine O.extract (v := (.bool t3)) rfl rfl rfl rfl ?_
     refine O.assign (v := (.string t1)) rfl rfl rfl ?_
     refine O.assign (v := (.string t2)) rfl rfl rfl ?_
     refine O.assign (v := (.bool t3)) rfl rfl rfl ?_
     refine WL.nil ?_
     refine W.seq ?_
     refine W.region ?_
     refine O.move (v := (.string t1)) rfl rfl rfl ?_
     obtain ⟨t4, hy2, hm2⟩ := bind_some hm2
     refine O.call Tryd.call20 rfl rfl rfl (c_strings_Split (hT.mono H.base) _ _ hy2) ?_
     rintro v5 w2 hb2 ho1
     have H := H.addOwn hb2 ho1
     refine O.assign (v := v5) rfl rfl rfl ?_
     refine WL.nil ?_
     refine W.seq ?_
     refine W.seq ?_
     refine W.region ?_
     refine O.move (v := v5) rfl rfl rfl ?_
     refine O.lenS Tryd.underlying45 (H.own 1 rfl) rfl rfl rfl ?_
     refine O.neq rfl rfl rfl rfl ?_
     refine O.move (v := (.bool (((t4.length : Nat) : Int) != 3))) rfl rfl rfl ?_
     refine WL.cut 4 (fun f w => f 0 = (.string z4) ∧ f 2 = v2 ∧ f 3 = (.int .i64 z5) ∧ f 6 = (.string t2) ∧ f 8 = v5 ∧ f 31 = .bool ((((t4.length : Nat) : Int) != 3) || (((z6.length : Nat) : Int) == 1000)) ∧ Inv w0 w [ownI (α := GEntry) v2 34 z6, ownI (α := ByteArray) v5 9 t4]) ?_ ?_
     ·
      rcases bool_ft (((t4.length : Nat) : Int) != 3) with hc3 | hc3
      ·
       refine WL.reset (i := 27) (v := .bool false) (congrArg Value.bool hc3) ?_
       refine O.move (v := v2) rfl rfl rfl ?_
       refine O.lenS Tryd.underlying22 (H.own 0 rfl) rfl rfl rfl ?_
       refine O.eql rfl rfl rfl rfl ?_
       refine O.pick_false (v := (.bool (((z6.length : Nat) : Int) == 1000))) rfl rfl rfl rfl ?_
       exact WL.nil ⟨rfl, rfl, rfl, rfl, rfl, congrArg Value.bool (or_f hc3), H⟩
      ·
       refine WL.reset (i := 27) (v := .bool true) (congrArg Value.bool hc3) ?_
       refine O.skip rfl rfl ?_
       refine O.skip rfl rfl ?_
       refine O.skip rfl rfl ?_
       refine O.pick_true (v := (.bool true)) rfl rfl rfl rfl ?_
       exact WL.nil ⟨rfl, rfl, rfl, rfl, rfl, congrArg Value.bool (or_t hc3), H⟩
     ·
      rintro f w ⟨hf0, hf2, hf3, hf6, hf8, hf31, H⟩
      obtain ⟨u2, rfl⟩ := up6 hf0 hf2 hf3 hf6 hf8 hf31
      refine WL.nil ?_
      rcases ite_some hm2 with ⟨hc4, hm2⟩ | ⟨hc4, hm2⟩
      ·
       refine W.cond_true (congrArg Value.bool hc4) ?_
       refine W.seq ?_
       refine W.region ?_
       refine O.move (v := (.int .i64 z5)) rfl rfl rfl ?_
       have H := H.addNil (α := GEntry) (E := 34)
       refine O.assign (v := (.slice none 0 0)) rfl rfl rfl ?_
       refine O.assign (v := (.int .i64 z5)) rfl rfl rfl ?_
       refine O.assign (v := (.int .i64 2)) rfl rfl rfl ?_
       refine WL.nil ?_
       refine W.ret ?_
       obtain rfl := Option.some.inj hm2
       refine ⟨_, rfl, ?_⟩
       rintro rfl
       have hq : (([] : List GEntry), z5, 2) = (r0, r1, r2) := Option.some.inj (show some (([] : List GEntry), z5, 2) = some (r0, r1, r2) from hm)
       obtain ⟨he0, hq0⟩ := Prod.mk.inj hq; clear hq; subst he0
       obtain ⟨he1, hq1⟩ := Prod.mk.inj hq0; clear hq0; subst he1
       subst hq1
       exact ends3 Tryd.results9 rfl rfl rfl ⟨_, rfl, H.base, ⟨_, rfl, H.ownR 2 rfl⟩⟩
      ·
       refine W.cond_false (congrArg Value.bool hc4) ?_
       refine W.skip ?_
       refine W.seq ?_
       obtain ⟨x1, hx1, hm2⟩ := bind_some hm2
       obtain ⟨p1, hp1, hrp1⟩ := fix_indexAddr Tryd.underlying45 sz9 (H.own 1 rfl) hx1
       obtain ⟨t5, hy3, hm2⟩ := bind_some hm2
       refine W.drawA (d := 9) 6 [0, 1, 2, 3, 4, 5] (fun b9 w9 => Inv w0 w9 [ownI (α := GEntry) v2 34 z6, ownI (α := ByteArray) v5 9 t4, boxI b9 34 [(.int .i64 0), (.bool false), (.int .i64 0)]]) (fun f => f 0 = (.string z4) ∧ f 2 = v2 ∧ f 3 = (.int .i64 z5) ∧ f 6 = (.string t2) ∧ f 8 = v5 ∧ f 38 = (.agg (Flat.cells (GEntry.mk 0 (decide (x1 = t5)) 0)).toArray)) fol (by kernel_rfl) rfl ?_ ?_ ?_
       ·
        refine PL.of (fun b w8 _ hx => match b, hx with | none, hx => by exact O.move (v := v5) rfl rfl rfl (WL.nil ⟨rfl, hx⟩) | some _, ⟨bb, hv, hx, H⟩ => by exact O.move (v := v5) rfl rfl rfl (WL.nil ⟨rfl, bb, hv, hx, H⟩)) ?_
        refine PL.of (fun b w8 _ hx => match b, hx with | none, hx => by exact hrp1 rfl rfl rfl rfl (WL.nil ⟨rfl, hx⟩) | some _, ⟨bb, hv, hx, H⟩ => by exact hrp1 rfl rfl rfl rfl (WL.nil ⟨rfl, bb, hv, hx, H⟩)) ?_
        refine PL.of (fun b w8 _ hx => match b, hx with | none, hx => by have hp1 := hp1.mono hx; exact O.load sc9 rfl rfl rfl (hp1.flat 0 _ rfl) (WL.nil ⟨rfl, hx⟩) | some _, ⟨bb, hv, hx, H⟩ => by have hp1 := hp1.mono hx; exact O.load sc9 rfl rfl rfl (hp1.flat 0 _ rfl) (WL.nil ⟨rfl, bb, hv, hx, H⟩)) ?_
        refine PL.of (fun b w8 _ hx => match b, hx with | none, hx => by exact O.call Tryd.call21 rfl rfl rfl (c_ledger_word _ hy3) (by rintro _ _ hb rfl; exact WL.nil ⟨rfl, hx.trans (hb.mono hx.size)⟩) | some _, ⟨bb, hv, hx, H⟩ => by exact O.call Tryd.call21 rfl rfl rfl (c_ledger_word _ hy3) (by rintro _ _ hb rfl; exact WL.nil ⟨rfl, bb, hv, hx.trans (hb.mono hx.size), H.ext hb⟩)) ?_
        refine PL.of (fun b w8 _ hx => match b, hx with | none, hx => by exact O.eqlS rfl rfl rfl rfl (WL.nil ⟨rfl, hx⟩) | some _, ⟨bb, hv, hx, H⟩ => by exact O.eqlS rfl rfl rfl rfl (WL.nil ⟨rfl, bb, hv, hx, H⟩)) ?_
        refine PL.of (fun b w8 _ hx => match b, hx with | none, hx => by exact O.build (v := (.agg (Flat.cells (GEntry.mk 0 (decide (x1 = t5)) 0)).toArray)) (fun w => bd34_1 _ w) rfl rfl rfl (WL.nil ⟨rfl, hx⟩) | some _, ⟨bb, hv, hx, H⟩ => by exact O.build (v := (.agg (Flat.cells (GEntry.mk 0 (decide (x1 = t5)) 0)).toArray)) (fun w => bd34_1 _ w) rfl rfl rfl (WL.nil ⟨rfl, bb, hv, hx, H⟩)) ?_
        refine PL.nil ?_
        exact ⟨rfl, rfl, rfl, rfl, rfl, rfl⟩
       ·
        rintro f _ w hx
        have H := H.ext hx
        exact O.alloc [(.int .i64 0), (.bool false), (.int .i64 0)] ze34 H rfl rfl rfl (fun b _ H hb => WL.nil ⟨_, rfl, b, rfl, hx.trans (hb.mono hx.size), H⟩)
       ·
        rintro f w b1 ⟨hf0, hf2, hf3, hf6, hf8, hf38⟩ hmd hx H
        have hp1 := hp1.mono hx
        obtain ⟨u3, rfl⟩ := up6 hf0 hf2 hf3 hf6 hf8 hf38
        refine O.store 2 0 [(.int .i64 0), (.bool (decide (x1 = t5))), (.int .i64 0)] [(.int .i64 0), (.bool (decide (x1 = t5))), (.int .i64 0)] sz34 H rfl rfl rfl rfl rfl rfl ⟨⟨rfl, rfl⟩, rfl⟩ (one_cons rfl (one_cons rfl (one_cons rfl one_nil))) ?_
        intro w3 H
        clear hp1
        refine WL.nil ?_
        refine W.seq ?_
        refine W.region ?_
        refine O.move (v := v5) rfl rfl rfl ?_
        obtain ⟨x2, hx2, hm2⟩ := bind_some hm2
        refine O.indexAddr Tryd.underlying45 sz9 (H.own 1 rfl) hx2 rfl rfl rfl rfl ?_
        intro p2 hp2
        refine O.load sc9 rfl rfl rfl (hp2.flat 0 _ rfl) ?_
        obtain ⟨t6, hy4, hm2⟩ := bind_some hm2
        refine O.call Tryd.call22 rfl rfl rfl (c_strconv_Atoi (hT.mono H.base) _ hy4) ?_
        rintro _ w4 hb3 ⟨v6, rfl⟩
        have hp2 := hp2.mono hb3
        have H := H.ext hb3
        refine O.move (v := (.tuple #[(.int .i64 t6), v6])) rfl rfl rfl ?_
        refine O.extract (v := (.int .i64 t6)) rfl rfl rfl rfl ?_
        refine O.extract (v := v6) rfl rfl rfl rfl ?_
        refine O.fieldAddr fd34_0 rfl rfl rfl ?_
        refine O.store 2 0 [(.int .i64 t6)] [(.int .i64 t6), (.bool (decide (x1 = t5))), (.int .i64 0)] sz3 H rfl rfl rfl rfl rfl rfl ⟨⟨rfl, rfl⟩, rfl⟩ (one_cons rfl one_nil) ?_
        intro w5 H
        clear hp2
        refine WL.nil ?_
        refine W.seq ?_
        refine W.region ?_
        refine O.move (v := v5) rfl rfl rfl ?_
        obtain ⟨x3, hx3, hm2⟩ := bind_some hm2
        refine O.indexAddr Tryd.underlying45 sz9 (H.own 1 rfl) hx3 rfl rfl rfl rfl ?_
        intro p3 hp3
        refine O.load sc9 rfl rfl rfl (hp3.flat 0 _ rfl) ?_
        obtain ⟨t7, hy5, hm2⟩ := bind_some hm2
        refine O.call Tryd.call22 rfl rfl rfl (c_strconv_Atoi (hT.mono H.base) _ hy5) ?_
        rintro _ w6 hb4 ⟨v7, rfl⟩
        have hp3 := hp3.mono hb4
        have H := H.ext hb4
        refine O.move (v := (.tuple #[(.int .i64 t7), v7])) rfl rfl rfl ?_
        refine O.extract (v := (.int .i64 t7)) rfl rfl rfl rfl ?_
        refine O.extract (v := v7) rfl rfl rfl rfl ?_
        refine O.fieldAddr fd34_2 rfl rfl rfl ?_
        refine O.store 2 2 [(.int .i64 t7)] [(.int .i64 t6), (.bool (decide (x1 = t5))), (.int .i64 t7)] sz3 H rfl rfl rfl rfl rfl rfl ⟨⟨rfl, rfl⟩, rfl⟩ (one_cons rfl one_nil) ?_
        intro w7 H
        clear hp3
        refine WL.nil ?_
        refine W.seq ?_
        refine W.seq ?_
        refine W.region ?_
        refine O.loadA [(.int .i64 t6), (.bool (decide (x1 = t5))), (.int .i64 t7)] ag34 rfl rfl rfl rfl (H.cell 2 rfl) ?_
        refine O.buildSlice (α := GEntry) [(.agg (Flat.cells (GEntry.mk t6 (decide (x1 = t5)) t7)).toArray)] [(GEntry.mk t6 (decide (x1 = t5)) t7)] Tryd.underlying22 el34 H rfl rfl rfl rfl rfl rfl rfl ?_
        intro v8 w8 H hb5
        obtain ⟨t8, hy6, hm2⟩ := bind_some hm2
        refine O.call Tryd.call12 rfl rfl rfl (c_ledger_Format (hT.mono H.base) _ _ (H.own 3 rfl) hy6) ?_
        rintro _ w9 hb6 rfl
        have H := H.ext hb6
        refine O.assign (v := (.string t8)) rfl rfl rfl ?_
        refine WL.nil ?_
        refine W.seq ?_
        refine W.region ?_
        refine O.move (v := (.string t8)) rfl rfl rfl ?_
        refine O.eqlS rfl rfl rfl rfl ?_
        refine O.move (v := (.bool (decide (t8 = (bs []))))) rfl rfl rfl ?_
        obtain ⟨b2, hm3, hm2⟩ := bind_some hm2
        refine WL.cut 5 (fun f w => f 2 = v2 ∧ f 3 = (.int .i64 z5) ∧ f 6 = (.string t2) ∧ f 9 = (.pointer (some ⟨b1, 0, none⟩)) ∧ f 65 = .bool b2 ∧ Inv w0 w [ownI (α := GEntry) v2 34 z6, ownI (α := ByteArray) v5 9 t4, boxI b1 34 [(.int .i64 t6), (.bool (decide (x1 = t5))), (.int .i64 t7)], ownI (α := GEntry) v8 34 ([(GEntry.mk t6 (decide (x1 = t5)) t7)] : List GEntry)]) ?_ ?_
        ·
         rcases ite_some hm3 with ⟨hc5, hm3⟩ | ⟨hc5, hm3⟩
         ·
          refine WL.reset (i := 60) (v := .bool true) (congrArg Value.bool hc5) ?_
          refine O.skip rfl rfl ?_
          refine O.skip rfl rfl ?_
          refine O.skip rfl rfl ?_
          refine O.skip rfl rfl ?_
          refine O.pick_true (v := (.bool true)) rfl rfl rfl rfl ?_
          refine WL.nil ?_
          have hq : true = b2 := Option.some.inj (show some true = some b2 from hm3)
          subst hq
          exact ⟨rfl, rfl, rfl, rfl, rfl, H⟩
         ·
          refine WL.reset (i := 60) (v := .bool false) (congrArg Value.bool hc5) ?_
          refine O.move (v := (.string z4)) rfl rfl rfl ?_
          refine O.move (v := (.string t8)) rfl rfl rfl ?_
          obtain ⟨t9, hy7, hm3⟩ := bind_some hm3
          refine O.call Tryd.call23 rfl rfl rfl (c_strings_HasPrefix _ _ hy7) ?_
          rintro _ w10 hb7 rfl
          have H := H.ext hb7
          refine O.not rfl rfl rfl ?_
          refine O.pick_false (v := (.bool (!t9))) rfl rfl rfl rfl ?_
          refine WL.nil ?_
          have hq : (!t9) = b2 := Option.some.inj (show some (!t9) = some b2 from hm3)
          subst hq
          exact ⟨rfl, rfl, rfl, rfl, rfl, H⟩
        ·
         rintro f w ⟨hf2, hf3, hf6, hf9, hf65, H⟩
         obtain ⟨u4, rfl⟩ := up5 hf2 hf3 hf6 hf9 hf65
         refine WL.nil ?_
         rcases ite_some hm2 with ⟨hc6, hm2⟩ | ⟨hc6, hm2⟩
         ·
          refine W.cond_true (congrArg Value.bool hc6) ?_
          refine W.seq ?_
          refine W.region ?_
          refine O.move (v := (.int .i64 z5)) rfl rfl rfl ?_
          have H := H.addNil (α := GEntry) (E := 34)
          refine O.assign (v := (.slice none 0 0)) rfl rfl rfl ?_
          refine O.assign (v := (.int .i64 z5)) rfl rfl rfl ?_
          refine O.assign (v := (.int .i64 2)) rfl rfl rfl ?_
          refine WL.nil ?_
          refine W.ret ?_
          obtain rfl := Option.some.inj hm2
          refine ⟨_, rfl, ?_⟩
          rintro rfl
          have hq : (([] : List GEntry), z5, 2) = (r0, r1, r2) := Option.some.inj (show some (([] : List GEntry), z5, 2) = some (r0, r1, r2) from hm)
          obtain ⟨he0, hq0⟩ := Prod.mk.inj hq; clear hq; subst he0
          obtain ⟨he1, hq1⟩ := Prod.mk.inj hq0; clear hq0; subst he1
          subst hq1
          exact ends3 Tryd.results9 rfl rfl rfl ⟨_, rfl, H.base, ⟨_, rfl, H.ownR 4 rfl⟩⟩
         ·
          refine W.cond_false (congrArg Value.bool hc6) ?_
          refine W.skip ?_
          refine W.seq ?_
          refine W.region ?_
          refine O.move (v := v2) rfl rfl rfl ?_
          refine O.loadA [(.int .i64 t6), (.bool (decide (x1 = t5))), (.int .i64 t7)] ag34 rfl rfl rfl rfl (H.cell 2 rfl) ?_
          refine O.buildSlice (α := GEntry) [(.agg (Flat.cells (GEntry.mk t6 (decide (x1 = t5)) t7)).toArray)] [(GEntry.mk t6 (decide (x1 = t5)) t7)] Tryd.underlying22 el34 H rfl rfl rfl rfl rfl rfl rfl ?_
          intro v9 w11 H hb8
          obtain ⟨t10, ht10, hm2⟩ := bind_some hm2
          refine O.append 0 Tryd.underlying22 el34 rfl H rfl (H.own 4 rfl) ht10 rfl rfl rfl rfl ?_
          intro v10 w12 H
          refine O.assign (v := v10) rfl rfl rfl ?_
          refine WL.nil ?_
          refine W.seq ?_
          refine W.region ?_
          refine O.move (v := (.int .i64 z5)) rfl rfl rfl ?_
          obtain ⟨t11, ht11, hm2⟩ := bind_some hm2
          refine O.add rfl rfl rfl rfl ht11 ?_
          refine O.assign (v := (.int .i64 t11)) rfl rfl rfl ?_
          refine WL.nil ?_
          refine W.region ?_
          refine O.move (v := (.string t2)) rfl rfl rfl ?_
          refine O.assign (v := (.string t2)) rfl rfl rfl ?_
          refine WL.nil ?_
          have H := H.keep [0] [ownI (α := GEntry) v10 34 t10] rfl (by decide)
          obtain rfl := Option.some.inj hm2
          exact ⟨_, rfl, _, _, _, v10, rfl, rfl, rfl, rfl, H⟩
    ·
     refine W.cond_false (congrArg Value.bool hc2) ?_
     refine W.exit ?_
     obtain rfl := Option.some.inj hm2
     refine ⟨_, rfl, ?_⟩
     rintro rfl
     refine xT rfl ?_
     exact ⟨_, v2, rfl, rfl, H⟩
  ·
   rintro f w ⟨s1, v4, rfl, hf2, H⟩
   obtain ⟨u5, rfl⟩ := up1 hf2
   refine W.seq ?_
   refine W.region ?_
   refine O.move (v := v4) rfl rfl rfl ?_
   refine O.assign (v := v4) rfl rfl rfl ?_
   refine O.assign (v := (.int .i64 0)) rfl rfl rfl ?_
   refine O.assign (v := (.int .i64 0)) rfl rfl rfl ?_
   refine WL.nil ?_
   refine W.ret ?_
   have hq : (s1, 0, 0) = (r0, r1, r2) := Option.some.inj (show some (s1, 0, 0) = some (r0, r1, r2) from hm)
   obtain ⟨he0, hq0⟩ := Prod.mk.inj hq; clear hq; subst he0
   obtain ⟨he1, hq1⟩ := Prod.mk.inj hq0; clear hq0; subst he1
   subst hq1
   exact ends3 Tryd.results9 rfl rfl rfl ⟨_, rfl, H.base, ⟨_, rfl, H.ownR 0 rfl⟩⟩

theorem c_noongunref09_line {w0 : World} (hT : EnvH Tryd.prog 0 1 2 w0) (a0 : GEntry) {r0 : ByteArray} (hm : noongunref09_line a0 = some r0) :
  Calls Tryd.prog 24 #[(.agg (Flat.cells a0).toArray)] w0 (Ret w0 fun _ v => v = (.string r0)) := by
 unfold noongunref09_line at hm
 refine calls_of_W Tryd.func24 rfl Tryd.ntmps24 (Nat.le_of_ble_eq_true rfl) ?_
 have H := Inv.start (w := w0)
 refine W.seq ?_
 refine W.region ?_
 refine O.box [(.int .i64 a0.Day), (.bool a0.Found), (.int .i64 a0.Error)] H rfl rfl rfl rfl ?_
 intro b1 w1 H hb1
 refine O.assign (v := (.string (bs []))) rfl rfl rfl ?_
 refine WL.nil ?_
 refine W.seq ?_
 refine W.region ?_
 refine O.assign (v := (.string (bs [115, 97, 105, 100]))) rfl rfl rfl ?_
 refine WL.nil ?_
 refine W.seq ?_
 refine W.seq ?_
 refine W.region ?_
 refine O.fieldAddr fd34_1 rfl rfl rfl ?_
 refine O.load sc4 rfl rfl rfl (H.cell 0 rfl 1 _ rfl) ?_
 refine WL.nil ?_
 obtain ⟨s1, hm1, hm⟩ := bind_some hm
 refine W.via (fun f w => f 1 = (.pointer (some ⟨b1, 0, none⟩)) ∧ f 3 = (.string s1) ∧ Inv w0 w [boxI b1 34 [(.int .i64 a0.Day), (.bool a0.Found), (.int .i64 a0.Error)]]) ?_ ?_
 ·
  rcases ite_some hm1 with ⟨hc1, hm1⟩ | ⟨hc1, hm1⟩
  ·
   refine W.cond_true (congrArg Value.bool hc1) ?_
   refine W.region ?_
   refine O.assign (v := (.string (bs [102, 111, 117, 110, 100]))) rfl rfl rfl ?_
   refine WL.nil ?_
   have hq : (bs [102, 111, 117, 110, 100]) = s1 := Option.some.inj (show some (bs [102, 111, 117, 110, 100]) = some s1 from hm1)
   subst hq
   exact ⟨rfl, rfl, H⟩
  ·
   refine W.cond_false (congrArg Value.bool hc1) ?_
   refine W.skip ?_
   have hq : (bs [115, 97, 105, 100]) = s1 := Option.some.inj (show some (bs [115, 97, 105, 100]) = some s1 from hm1)
   subst hq
   exact ⟨rfl, rfl, H⟩
 ·
  rintro f w ⟨hf1, hf3, H⟩
  obtain ⟨u1, rfl⟩ := up2 hf1 hf3
  refine W.seq ?_
  obtain ⟨t1, hy1, hm⟩ := bind_some hm
  obtain ⟨t2, ht2, hm⟩ := bind_some hm
  obtain ⟨t3, ht3, hm⟩ := bind_some hm
  obtain ⟨t4, ht4, hm⟩ := bind_some hm
  obtain ⟨t5, hy2, hm⟩ := bind_some hm
  refine W.drawN 10 (fun f => f 12 = (.string t4) ∧ f 15 = (.string t5)) fol (by kernel_rfl) ?_ ?_
  ·
   refine PL.of (fun _ w8 _ hx => O.fieldAddr fd34_0 rfl rfl rfl (WL.nil ⟨rfl, hx⟩)) ?_
   refine PL.of (fun _ w8 _ hx => by have H := H.ext hx; exact O.load sc3 rfl rfl rfl (H.cell 0 rfl 0 _ rfl) (WL.nil ⟨rfl, hx⟩)) ?_
   refine PL.of (fun _ w8 _ hx => by have H := H.ext hx; exact O.call Tryd.call27 rfl rfl rfl (c_strconv_Itoa (hT.mono H.base) _ hy1) (by rintro _ _ hb rfl; exact WL.nil ⟨rfl, hx.trans (hb.mono hx.size)⟩)) ?_
   refine PL.of (fun _ w8 _ hx => O.addS rfl rfl rfl rfl ht2 (WL.nil ⟨rfl, hx⟩)) ?_
   refine PL.of (fun _ w8 _ hx => O.move (v := (.string s1)) rfl rfl rfl (WL.nil ⟨rfl, hx⟩)) ?_
   refine PL.of (fun _ w8 _ hx => O.addS rfl rfl rfl rfl ht3 (WL.nil ⟨rfl, hx⟩)) ?_
   refine PL.of (fun _ w8 _ hx => O.addS rfl rfl rfl rfl ht4 (WL.nil ⟨rfl, hx⟩)) ?_
   refine PL.of (fun _ w8 _ hx => O.fieldAddr fd34_2 rfl rfl rfl (WL.nil ⟨rfl, hx⟩)) ?_
   refine PL.of (fun _ w8 _ hx => by have H := H.ext hx; exact O.load sc3 rfl rfl rfl (H.cell 0 rfl 2 _ rfl) (WL.nil ⟨rfl, hx⟩)) ?_
   refine PL.of (fun _ w8 _ hx => by have H := H.ext hx; exact O.call Tryd.call27 rfl rfl rfl (c_strconv_Itoa (hT.mono H.base) _ hy2) (by rintro _ _ hb rfl; exact WL.nil ⟨rfl, hx.trans (hb.mono hx.size)⟩)) ?_
   refine PL.nil ?_
   exact ⟨rfl, rfl⟩
  ·
   rintro f w ⟨hf12, hf15⟩ hmd hx
   have H := H.ext hx
   obtain ⟨u2, rfl⟩ := up2 hf12 hf15
   obtain ⟨t6, ht6, hm⟩ := bind_some hm
   refine O.addS rfl rfl rfl rfl ht6 ?_
   refine O.assign (v := (.string t6)) rfl rfl rfl ?_
   refine WL.nil ?_
   refine W.ret ?_
   have hq : t6 = r0 := Option.some.inj (show some t6 = some r0 from hm)
   subst hq
   exact ends1 Tryd.results24 rfl ⟨_, rfl, H.base, rfl⟩

theorem c_noongunref09_day {w0 : World} (a0 : Int) {r0 : Bool} (hm : noongunref09_day a0 = some r0) :
  Calls Tryd.prog 42 #[(.int .i64 a0)] w0 (Ret w0 fun _ v => v = (.bool r0)) := by
 unfold noongunref09_day at hm
 refine calls_of_W Tryd.func42 rfl Tryd.ntmps42 (Nat.le_of_ble_eq_true rfl) ?_
 have H := Inv.start (w := w0)
 refine W.seq ?_
 refine W.region ?_
 refine O.assign (v := (.bool false)) rfl rfl rfl ?_
 refine WL.nil ?_
 refine W.seq ?_
 refine W.region ?_
 refine O.move (v := (.int .i64 a0)) rfl rfl rfl ?_
 refine O.geq rfl rfl rfl rfl ?_
 refine O.move (v := (.bool (decide (0 ≤ a0)))) rfl rfl rfl ?_
 refine WL.cut 3 (fun f w => f 8 = .bool ((decide (0 ≤ a0)) && (decide (a0 ≤ 182985))) ∧ Inv w0 w []) ?_ ?_
 ·
  rcases bool_ft (decide (0 ≤ a0)) with hc1 | hc1
  ·
   refine WL.reset (i := 5) (v := .bool false) (congrArg Value.bool hc1) ?_
   refine O.skip rfl rfl ?_
   refine O.skip rfl rfl ?_
   refine O.pick_false (v := (.bool false)) rfl rfl rfl rfl ?_
   exact WL.nil ⟨congrArg Value.bool (and_f hc1), H⟩
  ·
   refine WL.reset (i := 5) (v := .bool true) (congrArg Value.bool hc1) ?_
   refine O.move (v := (.int .i64 a0)) rfl rfl rfl ?_
   refine O.leq rfl rfl rfl rfl ?_
   refine O.pick_true (v := (.bool (decide (a0 ≤ 182985)))) rfl rfl rfl rfl ?_
   exact WL.nil ⟨congrArg Value.bool (and_t hc1), H⟩
 ·
  rintro f w ⟨hf8, H⟩
  obtain ⟨u1, rfl⟩ := up1 hf8
  refine O.assign (v := (.bool ((decide (0 ≤ a0)) && (decide (a0 ≤ 182985))))) rfl rfl rfl ?_
  refine WL.nil ?_
  refine W.ret ?_
  have hq : ((decide (0 ≤ a0)) && (decide (a0 ≤ 182985))) = r0 := Option.some.inj (show some ((decide (0 ≤ a0)) && (decide (a0 ≤ 182985))) = some r0 from hm)
  subst hq
  exact ends1 Tryd.results42 rfl ⟨_, rfl, H.base, rfl⟩

theorem c_noongunref09_valid {w0 : World} (a0 : GEntry) {r0 : Bool} (hm : noongunref09_valid a0 = some r0) :
  Calls Tryd.prog 25 #[(.agg (Flat.cells a0).toArray)] w0 (Ret w0 fun _ v => v = (.bool r0)) := by
 unfold noongunref09_valid at hm
 refine calls_of_W Tryd.func25 rfl Tryd.ntmps25 (Nat.le_of_ble_eq_true rfl) ?_
 have H := Inv.start (w := w0)
 refine W.seq ?_
 refine W.region ?_
 refine O.box [(.int .i64 a0.Day), (.bool a0.Found), (.int .i64 a0.Error)] H rfl rfl rfl rfl ?_
 intro b1 w1 H hb1
 refine O.assign (v := (.bool false)) rfl rfl rfl ?_
 refine WL.nil ?_
 refine W.seq ?_
 refine W.region ?_
 refine O.fieldAddr fd34_0 rfl rfl rfl ?_
 refine O.load sc3 rfl rfl rfl (H.cell 0 rfl 0 _ rfl) ?_
 obtain ⟨t1, hy1, hm⟩ := bind_some hm
 refine O.call Tryd.call42 rfl rfl rfl (c_noongunref09_day _ hy1) ?_
 rintro _ w2 hb2 rfl
 have H := H.ext hb2
 refine O.move (v := (.bool t1)) rfl rfl rfl ?_
 refine WL.cut 4 (fun f w => f 1 = (.pointer (some ⟨b1, 0, none⟩)) ∧ f 10 = .bool (t1 && (decide ((-86400000) ≤ a0.Error))) ∧ Inv w0 w [boxI b1 34 [(.int .i64 a0.Day), (.bool a0.Found), (.int .i64 a0.Error)]]) ?_ ?_
 ·
  rcases bool_ft t1 with hc1 | hc1
  ·
   refine WL.reset (i := 6) (v := .bool false) (congrArg Value.bool hc1) ?_
   refine O.skip rfl rfl ?_
   refine O.skip rfl rfl ?_
   refine O.skip rfl rfl ?_
   refine O.pick_false (v := (.bool false)) rfl rfl rfl rfl ?_
   exact WL.nil ⟨rfl, congrArg Value.bool (and_f hc1), H⟩
  ·
   refine WL.reset (i := 6) (v := .bool true) (congrArg Value.bool hc1) ?_
   refine O.fieldAddr fd34_2 rfl rfl rfl ?_
   refine O.load sc3 rfl rfl rfl (H.cell 0 rfl 2 _ rfl) ?_
   refine O.geq rfl rfl rfl rfl ?_
   refine O.pick_true (v := (.bool (decide ((-86400000) ≤ a0.Error)))) rfl rfl rfl rfl ?_
   exact WL.nil ⟨rfl, congrArg Value.bool (and_t hc1), H⟩
 ·
  rintro f w ⟨hf1, hf10, H⟩
  obtain ⟨u1, rfl⟩ := up2 hf1 hf10
  refine O.move (v := (.bool (t1 && (decide ((-86400000) ≤ a0.Error))))) rfl rfl rfl ?_
  refine WL.cut 4 (fun f w => f 15 = .bool ((t1 && (decide ((-86400000) ≤ a0.Error))) && (decide (a0.Error ≤ 86400000))) ∧ Inv w0 w [boxI b1 34 [(.int .i64 a0.Day), (.bool a0.Found), (.int .i64 a0.Error)]]) ?_ ?_
  ·
   rcases bool_ft (t1 && (decide ((-86400000) ≤ a0.Error))) with hc2 | hc2
   ·
    refine WL.reset (i := 11) (v := .bool false) (congrArg Value.bool hc2) ?_
    refine O.skip rfl rfl ?_
    refine O.skip rfl rfl ?_
    refine O.skip rfl rfl ?_
    refine O.pick_false (v := (.bool false)) rfl rfl rfl rfl ?_
    exact WL.nil ⟨congrArg Value.bool (and_f hc2), H⟩
   ·
    refine WL.reset (i := 11) (v := .bool true) (congrArg Value.bool hc2) ?_
    refine O.fieldAddr fd34_2 rfl rfl rfl ?_
    refine O.load sc3 rfl rfl rfl (H.cell 0 rfl 2 _ rfl) ?_
    refine O.leq rfl rfl rfl rfl ?_
    refine O.pick_true (v := (.bool (decide (a0.Error ≤ 86400000)))) rfl rfl rfl rfl ?_
    exact WL.nil ⟨congrArg Value.bool (and_t hc2), H⟩
  ·
   rintro f w ⟨hf15, H⟩
   obtain ⟨u2, rfl⟩ := up1 hf15
   refine O.assign (v := (.bool ((t1 && (decide ((-86400000) ≤ a0.Error))) && (decide (a0.Error ≤ 86400000))))) rfl rfl rfl ?_
   refine WL.nil ?_
   refine W.ret ?_
   have hq : ((t1 && (decide ((-86400000) ≤ a0.Error))) && (decide (a0.Error ≤ 86400000))) = r0 := Option.some.inj (show some ((t1 && (decide ((-86400000) ≤ a0.Error))) && (decide (a0.Error ≤ 86400000))) = some r0 from hm)
   subst hq
   exact ends1 Tryd.results25 rfl ⟨_, rfl, H.base, rfl⟩

set_option maxRecDepth 20000 in
theorem c_noongunref09_Parse {w0 : World} (hT : EnvH Tryd.prog 0 1 2 w0) (a0 : ByteArray) {r0 : (List GEntry)} {r1 : Int} {r2 : Int} (hm : noongunref09_Parse a0 = some (r0, r1, r2)) :
  Calls Tryd.prog 10 #[(.string a0)] w0 (Ret w0 fun w v => ∃ vr0 : Value, v = .tuple #[vr0, (.int .i64 r1), (.int .i64 r2)] ∧ OwnR w0 w vr0 34 r0) := by
 unfold noongunref09_Parse at hm
 refine calls_of_W Tryd.func10 rfl Tryd.ntmps10 (Nat.le_of_ble_eq_true rfl) ?_
 have H := Inv.start (w := w0)
 refine W.seq ?_
 refine W.region ?_
 have H := H.addNil (α := GEntry) (E := 34)
 refine O.assign (v := (.slice none 0 0)) rfl rfl rfl ?_
 refine O.assign (v := (.int .i64 0)) rfl rfl rfl ?_
 refine O.assign (v := (.int .i64 0)) rfl rfl rfl ?_
 refine WL.nil ?_
 refine W.seq ?_
 refine W.seq ?_
 refine W.region ?_
 refine O.move (v := (.string a0)) rfl rfl rfl ?_
 refine O.lenStr Tryd.underlying9 rfl rfl rfl ?_
 refine O.gtr rfl rfl rfl rfl ?_
 refine WL.nil ?_
 rcases ite_some hm with ⟨hc1, hm⟩ | ⟨hc1, hm⟩
 ·
  refine W.cond_true (congrArg Value.bool hc1) ?_
  refine W.seq ?_
  refine W.region ?_
  have H := H.addNil (α := GEntry) (E := 34)
  refine O.assign (v := (.slice none 0 0)) rfl rfl rfl ?_
  refine O.assign (v := (.int .i64 0)) rfl rfl rfl ?_
  refine O.assign (v := (.int .i64 3)) rfl rfl rfl ?_
  refine WL.nil ?_
  refine W.ret ?_
  have hq : (([] : List GEntry), 0, 3) = (r0, r1, r2) := Option.some.inj (show some (([] : List GEntry), 0, 3) = some (r0, r1, r2) from hm)
  obtain ⟨he0, hq0⟩ := Prod.mk.inj hq; clear hq; subst he0
  obtain ⟨he1, hq1⟩ := Prod.mk.inj hq0; clear hq0; subst he1
  subst hq1
  exact ends3 Tryd.results10 rfl rfl rfl ⟨_, rfl, H.base, ⟨_, rfl, H.ownR 1 rfl⟩⟩
 ·
  refine W.cond_false (congrArg Value.bool hc1) ?_
  refine W.skip ?_
  refine W.seq ?_
  refine W.seq ?_
  refine W.region ?_
  refine O.assign (v := (.int .i64 0)) rfl rfl rfl ?_
  refine WL.nil ?_
  obtain ⟨o1, hm1, hm⟩ := bind_some hm
  refine W.via (fun f w => ∃ s1 : (List GEntry), ∃ v4 : Value, o1 = .next s1 ∧ f 2 = v4 ∧ Inv w0 w [ownI (α := GEntry) v4 34 s1]) ?_ ?_
  ·
   refine W.block ?_
   refine W.loopR hm1 (fun s f w => ∃ z4 : ByteArray, ∃ z5 : Int, ∃ z6 : (List GEntry), ∃ v2 : Value, (z4, z5, z6) = s ∧ f 0 = (.string z4) ∧ f 2 = v2 ∧ f 5 = (.int .i64 z5) ∧ Inv w0 w [ownI (α := GEntry) v2 34 z6]) ?_ ?_
   ·
    exact ⟨_, _, _, (.slice none 0 0), rfl, rfl, rfl, rfl, H⟩
   ·
    rintro _ st f w ⟨z4, z5, z6, v2, rfl, hf0, hf2, hf5, H⟩ hm2
    obtain ⟨u1, rfl⟩ := up3 hf0 hf2 hf5
    refine W.seq ?_
    refine W.seq ?_
    refine W.region ?_
    refine O.move (v := (.string z4)) rfl rfl rfl ?_
    refine O.neqS rfl rfl rfl rfl ?_
    refine WL.nil ?_
    rcases ite_some hm2 with ⟨hc2, hm2⟩ | ⟨hc2, hm2⟩
    ·
     refine W.cond_true (congrArg Value.bool hc2) ?_
     refine W.skip ?_
     refine W.seq ?_
     refine W.block ?_
     refine W.seq ?_
     refine W.region ?_
     refine O.move (v := (.string z4)) rfl rfl rfl ?_
     obtain ⟨⟨t1, t2, t3⟩, hy1, hm2⟩ := bind_some hm2
     refine O.call Tryd.call19 rfl rfl rfl (c_strings_Cut (hT.mono H.base) _ _ hy1) ?_
     rintro _ w1 hb1 rfl
     have H := H.ext hb1
     refine O.move (v := (.tuple #[(.string t1), (.string t2), (.bool t3)])) rfl rfl rfl ?_
     refine O.extract (v := (.string t1)) rfl rfl rfl rfl ?_
     refine O.extract (v := (.string t2)) rfl rfl rfl rfl ?_
     refine O.extract (v := (.bool t3)) rfl rfl rfl rfl ?_
     refine O.assign (v := (.string t1)) rfl rfl rfl ?_
     refine O.assign (v := (.string t2)) rfl rfl rfl ?_
     refine O.assign (v := (.bool t3)) rfl rfl rfl ?_
     refine WL.nil ?_
     refine W.seq ?_
     refine W.region ?_
     refine O.move (v := (.string t1)) rfl rfl rfl ?_
     obtain ⟨t4, hy2, hm2⟩ := bind_some hm2
     refine O.call Tryd.call20 rfl rfl rfl (c_strings_Split (hT.mono H.base) _ _ hy2) ?_
     rintro v5 w2 hb2 ho1
     have H := H.addOwn hb2 ho1
     refine O.assign (v := v5) rfl rfl rfl ?_
     refine WL.nil ?_
     refine W.seq ?_
     refine W.seq ?_
     refine W.region ?_
     refine O.move (v := v5) rfl rfl rfl ?_
     refine O.lenS Tryd.underlying45 (H.own 1 rfl) rfl rfl rfl ?_
     refine O.neq rfl rfl rfl rfl ?_
     refine O.move (v := (.bool (((t4.length : Nat) : Int) != 3))) rfl rfl rfl ?_
     refine WL.cut 3 (fun f w => f 2 = v2 ∧ f 5 = (.int .i64 z5) ∧ f 6 = (.string t1) ∧ f 7 = (.string t2) ∧ f 9 = v5 ∧ f 32 = .bool ((((t4.length : Nat) : Int) != 3) || (!t3)) ∧ Inv w0 w [ownI (α := GEntry) v2 34 z6, ownI (α := ByteArray) v5 9 t4]) ?_ ?_
     ·
      rcases bool_ft (((t4.length : Nat) : Int) != 3) with hc3 | hc3
      ·
       refine WL.reset (i := 29) (v := .bool false) (congrArg Value.bool hc3) ?_
       refine O.move (v := (.bool t3)) rfl rfl rfl ?_
       refine O.not rfl rfl rfl ?_
       refine O.pick_false (v := (.bool (!t3))) rfl rfl rfl rfl ?_
       exact WL.nil ⟨rfl, rfl, rfl, rfl, rfl, congrArg Value.bool (or_f hc3), H⟩
      ·
       refine WL.reset (i := 29) (v := .bool true) (congrArg Value.bool hc3) ?_
       refine O.skip rfl rfl ?_
       refine O.skip rfl rfl ?_
       refine O.pick_true (v := (.bool true)) rfl rfl rfl rfl ?_
       exact WL.nil ⟨rfl, rfl, rfl, rfl, rfl, congrArg Value.bool (or_t hc3), H⟩
     ·
      rintro f w ⟨hf2, hf5, hf6, hf7, hf9, hf32, H⟩
      obtain ⟨u2, rfl⟩ := up6 hf2 hf5 hf6 hf7 hf9 hf32
      refine O.move (v := (.bool ((((t4.length : Nat) : Int) != 3) || (!t3)))) rfl rfl rfl ?_
      refine WL.cut 3 (fun f w => f 2 = v2 ∧ f 5 = (.int .i64 z5) ∧ f 6 = (.string t1) ∧ f 7 = (.string t2) ∧ f 9 = v5 ∧ f 36 = .bool (((((t4.length : Nat) : Int) != 3) || (!t3)) || (z5 == 1000)) ∧ Inv w0 w [ownI (α := GEntry) v2 34 z6, ownI (α := ByteArray) v5 9 t4]) ?_ ?_
      ·
       rcases bool_ft ((((t4.length : Nat) : Int) != 3) || (!t3)) with hc4 | hc4
       ·
        refine WL.reset (i := 33) (v := .bool false) (congrArg Value.bool hc4) ?_
        refine O.move (v := (.int .i64 z5)) rfl rfl rfl ?_
        refine O.eql rfl rfl rfl rfl ?_
        refine O.pick_false (v := (.bool (z5 == 1000))) rfl rfl rfl rfl ?_
        exact WL.nil ⟨rfl, rfl, rfl, rfl, rfl, congrArg Value.bool (or_f hc4), H⟩
       ·
        refine WL.reset (i := 33) (v := .bool true) (congrArg Value.bool hc4) ?_
        refine O.skip rfl rfl ?_
        refine O.skip rfl rfl ?_
        refine O.pick_true (v := (.bool true)) rfl rfl rfl rfl ?_
        exact WL.nil ⟨rfl, rfl, rfl, rfl, rfl, congrArg Value.bool (or_t hc4), H⟩
      ·
       rintro f w ⟨hf2, hf5, hf6, hf7, hf9, hf36, H⟩
       obtain ⟨u3, rfl⟩ := up6 hf2 hf5 hf6 hf7 hf9 hf36
       refine WL.nil ?_
       rcases ite_some hm2 with ⟨hc5, hm2⟩ | ⟨hc5, hm2⟩
       ·
        refine W.cond_true (congrArg Value.bool hc5) ?_
        refine W.seq ?_
        refine W.region ?_
        refine O.move (v := (.int .i64 z5)) rfl rfl rfl ?_
        have H := H.addNil (α := GEntry) (E := 34)
        refine O.assign (v := (.slice none 0 0)) rfl rfl rfl ?_
        refine O.assign (v := (.int .i64 z5)) rfl rfl rfl ?_
        refine O.assign (v := (.int .i64 2)) rfl rfl rfl ?_
        refine WL.nil ?_
        refine W.ret ?_
        obtain rfl := Option.some.inj hm2
        refine ⟨_, rfl, ?_⟩
        rintro rfl
        have hq : (([] : List GEntry), z5, 2) = (r0, r1, r2) := Option.some.inj (show some (([] : List GEntry), z5, 2) = some (r0, r1, r2) from hm)
        obtain ⟨he0, hq0⟩ := Prod.mk.inj hq; clear hq; subst he0
        obtain ⟨he1, hq1⟩ := Prod.mk.inj hq0; clear hq0; subst he1
        subst hq1
        exact ends3 Tryd.results10 rfl rfl rfl ⟨_, rfl, H.base, ⟨_, rfl, H.ownR 2 rfl⟩⟩
       ·
        refine W.cond_false (congrArg Value.bool hc5) ?_
        refine W.skip ?_
        refine W.seq ?_
        refine W.region ?_
        refine O.move (v := v5) rfl rfl rfl ?_
        obtain ⟨x1, hx1, hm2⟩ := bind_some hm2
        refine O.indexAddr Tryd.underlying45 sz9 (H.own 1 rfl) hx1 rfl rfl rfl rfl ?_
        intro p1 hp1
        refine O.load sc9 rfl rfl rfl (hp1.flat 0 _ rfl) ?_
        refine O.eqlS rfl rfl rfl rfl ?_
        refine O.build (v := (.agg (Flat.cells (GEntry.mk 0 (decide (x1 = (bs [102, 111, 117, 110, 100]))) 0)).toArray)) (fun w => bd34_1 _ w) rfl rfl rfl ?_
        refine O.alloc [(.int .i64 0), (.bool false), (.int .i64 0)] ze34 H rfl rfl rfl ?_
        intro b1 w3 H hb3
        have hp1 := hp1.mono hb3
        refine O.store 2 0 [(.int .i64 0), (.bool (decide (x1 = (bs [102, 111, 117, 110, 100])))), (.int .i64 0)] [(.int .i64 0), (.bool (decide (x1 = (bs [102, 111, 117, 110, 100])))), (.int .i64 0)] sz34 H rfl rfl rfl rfl rfl rfl ⟨⟨rfl, rfl⟩, rfl⟩ (one_cons rfl (one_cons rfl (one_cons rfl one_nil))) ?_
        intro w4 H
        clear hp1
        refine WL.nil ?_
        refine W.seq ?_
        refine W.region ?_
        refine O.move (v := v5) rfl rfl rfl ?_
        obtain ⟨x2, hx2, hm2⟩ := bind_some hm2
        refine O.indexAddr Tryd.underlying45 sz9 (H.own 1 rfl) hx2 rfl rfl rfl rfl ?_
        intro p2 hp2
        refine O.load sc9 rfl rfl rfl (hp2.flat 0 _ rfl) ?_
        obtain ⟨t5, hy3, hm2⟩ := bind_some hm2
        refine O.call Tryd.call22 rfl rfl rfl (c_strconv_Atoi (hT.mono H.base) _ hy3) ?_
        rintro _ w5 hb4 ⟨v6, rfl⟩
        have hp2 := hp2.mono hb4
        have H := H.ext hb4
        refine O.move (v := (.tuple #[(.int .i64 t5), v6])) rfl rfl rfl ?_
        refine O.extract (v := (.int .i64 t5)) rfl rfl rfl rfl ?_
        refine O.extract (v := v6) rfl rfl rfl rfl ?_
        refine O.fieldAddr fd34_0 rfl rfl rfl ?_
        refine O.store 2 0 [(.int .i64 t5)] [(.int .i64 t5), (.bool (decide (x1 = (bs [102, 111, 117, 110, 100])))), (.int .i64 0)] sz3 H rfl rfl rfl rfl rfl rfl ⟨⟨rfl, rfl⟩, rfl⟩ (one_cons rfl one_nil) ?_
        intro w6 H
        clear hp2
        refine WL.nil ?_
        refine W.seq ?_
        refine W.region ?_
        refine O.move (v := v5) rfl rfl rfl ?_
        obtain ⟨x3, hx3, hm2⟩ := bind_some hm2
        refine O.indexAddr Tryd.underlying45 sz9 (H.own 1 rfl) hx3 rfl rfl rfl rfl ?_
        intro p3 hp3
        refine O.load sc9 rfl rfl rfl (hp3.flat 0 _ rfl) ?_
        obtain ⟨t6, hy4, hm2⟩ := bind_some hm2
        refine O.call Tryd.call22 rfl rfl rfl (c_strconv_Atoi (hT.mono H.base) _ hy4) ?_
        rintro _ w7 hb5 ⟨v7, rfl⟩
        have hp3 := hp3.mono hb5
        have H := H.ext hb5
        refine O.move (v := (.tuple #[(.int .i64 t6), v7])) rfl rfl rfl ?_
        refine O.extract (v := (.int .i64 t6)) rfl rfl rfl rfl ?_
        refine O.extract (v := v7) rfl rfl rfl rfl ?_
        refine O.fieldAddr fd34_2 rfl rfl rfl ?_
        refine O.store 2 2 [(.int .i64 t6)] [(.int .i64 t5), (.bool (decide (x1 = (bs [102, 111, 117, 110, 100])))), (.int .i64 t6)] sz3 H rfl rfl rfl rfl rfl rfl ⟨⟨rfl, rfl⟩, rfl⟩ (one_cons rfl one_nil) ?_
        intro w8 H
        clear hp3
        refine WL.nil ?_
        refine W.seq ?_
        refine W.seq ?_
        refine W.region ?_
        refine O.loadA [(.int .i64 t5), (.bool (decide (x1 = (bs [102, 111, 117, 110, 100])))), (.int .i64 t6)] ag34 rfl rfl rfl rfl (H.cell 2 rfl) ?_
        obtain ⟨t7, hy5, hm2⟩ := bind_some hm2
        refine O.call Tryd.call24 rfl rfl rfl (c_noongunref09_line (hT.mono H.base) (GEntry.mk t5 (decide (x1 = (bs [102, 111, 117, 110, 100]))) t6) hy5) ?_
        rintro _ w9 hb6 rfl
        have H := H.ext hb6
        refine O.move (v := (.string t1)) rfl rfl rfl ?_
        refine O.neqS rfl rfl rfl rfl ?_
        refine O.move (v := (.bool (!(decide (t7 = t1))))) rfl rfl rfl ?_
        obtain ⟨b2, hm3, hm2⟩ := bind_some hm2
        refine WL.cut 4 (fun f w => f 2 = v2 ∧ f 5 = (.int .i64 z5) ∧ f 7 = (.string t2) ∧ f 10 = (.pointer (some ⟨b1, 0, none⟩)) ∧ f 67 = .bool b2 ∧ Inv w0 w [ownI (α := GEntry) v2 34 z6, ownI (α := ByteArray) v5 9 t4, boxI b1 34 [(.int .i64 t5), (.bool (decide (x1 = (bs [102, 111, 117, 110, 100])))), (.int .i64 t6)]]) ?_ ?_
        ·
         rcases ite_some hm3 with ⟨hc6, hm3⟩ | ⟨hc6, hm3⟩
         ·
          refine WL.reset (i := 63) (v := .bool true) (congrArg Value.bool hc6) ?_
          refine O.skip rfl rfl ?_
          refine O.skip rfl rfl ?_
          refine O.skip rfl rfl ?_
          refine O.pick_true (v := (.bool true)) rfl rfl rfl rfl ?_
          refine WL.nil ?_
          have hq : true = b2 := Option.some.inj (show some true = some b2 from hm3)
          subst hq
          exact ⟨rfl, rfl, rfl, rfl, rfl, H⟩
         ·
          refine WL.reset (i := 63) (v := .bool false) (congrArg Value.bool hc6) ?_
          refine O.loadA [(.int .i64 t5), (.bool (decide (x1 = (bs [102, 111, 117, 110, 100])))), (.int .i64 t6)] ag34 rfl rfl rfl rfl (H.cell 2 rfl) ?_
          obtain ⟨t8, hy6, hm3⟩ := bind_some hm3
          refine O.call Tryd.call25 rfl rfl rfl (c_noongunref09_valid (GEntry.mk t5 (decide (x1 = (bs [102, 111, 117, 110, 100]))) t6) hy6) ?_
          rintro _ w10 hb7 rfl
          have H := H.ext hb7
          refine O.not rfl rfl rfl ?_
          refine O.pick_false (v := (.bool (!t8))) rfl rfl rfl rfl ?_
          refine WL.nil ?_
          have hq : (!t8) = b2 := Option.some.inj (show some (!t8) = some b2 from hm3)
          subst hq
          exact ⟨rfl, rfl, rfl, rfl, rfl, H⟩
        ·
         rintro f w ⟨hf2, hf5, hf7, hf10, hf67, H⟩
         obtain ⟨u4, rfl⟩ := up5 hf2 hf5 hf7 hf10 hf67
         refine WL.nil ?_
         rcases ite_some hm2 with ⟨hc7, hm2⟩ | ⟨hc7, hm2⟩
         ·
          refine W.cond_true (congrArg Value.bool hc7) ?_
          refine W.seq ?_
          refine W.region ?_
          refine O.move (v := (.int .i64 z5)) rfl rfl rfl ?_
          have H := H.addNil (α := GEntry) (E := 34)
          refine O.assign (v := (.slice none 0 0)) rfl rfl rfl ?_
          refine O.assign (v := (.int .i64 z5)) rfl rfl rfl ?_
          refine O.assign (v := (.int .i64 2)) rfl rfl rfl ?_
          refine WL.nil ?_
          refine W.ret ?_
          obtain rfl := Option.some.inj hm2
          refine ⟨_, rfl, ?_⟩
          rintro rfl
          have hq : (([] : List GEntry), z5, 2) = (r0, r1, r2) := Option.some.inj (show some (([] : List GEntry), z5, 2) = some (r0, r1, r2) from hm)
          obtain ⟨he0, hq0⟩ := Prod.mk.inj hq; clear hq; subst he0
          obtain ⟨he1, hq1⟩ := Prod.mk.inj hq0; clear hq0; subst he1
          subst hq1
          exact ends3 Tryd.results10 rfl rfl rfl ⟨_, rfl, H.base, ⟨_, rfl, H.ownR 3 rfl⟩⟩
         ·
          refine W.cond_false (congrArg Value.bool hc7) ?_
          refine W.skip ?_
          refine W.seq ?_
          refine W.region ?_
          refine O.move (v := v2) rfl rfl rfl ?_
          refine O.loadA [(.int .i64 t5), (.bool (decide (x1 = (bs [102, 111, 117, 110, 100])))), (.int .i64 t6)] ag34 rfl rfl rfl rfl (H.cell 2 rfl) ?_
          refine O.buildSlice (α := GEntry) [(.agg (Flat.cells (GEntry.mk t5 (decide (x1 = (bs [102, 111, 117, 110, 100]))) t6)).toArray)] [(GEntry.mk t5 (decide (x1 = (bs [102, 111, 117, 110, 100]))) t6)] Tryd.underlying22 el34 H rfl rfl rfl rfl rfl rfl rfl ?_
          intro v8 w11 H hb8
          obtain ⟨t9, ht9, hm2⟩ := bind_some hm2
          refine O.append 0 Tryd.underlying22 el34 rfl H rfl (H.own 3 rfl) ht9 rfl rfl rfl rfl ?_
          intro v9 w12 H
          refine O.assign (v := v9) rfl rfl rfl ?_
          refine WL.nil ?_
          refine W.region ?_
          refine O.move (v := (.string t2)) rfl rfl rfl ?_
          refine O.assign (v := (.string t2)) rfl rfl rfl ?_
          refine WL.nil ?_
          refine W.region ?_
          refine O.move (v := (.int .i64 z5)) rfl rfl rfl ?_
          obtain ⟨t10, ht10, hm2⟩ := bind_some hm2
          refine O.add rfl rfl rfl rfl ht10 ?_
          refine O.assign (v := (.int .i64 t10)) rfl rfl rfl ?_
          refine WL.nil ?_
          have H := H.keep [0] [ownI (α := GEntry) v9 34 t9] rfl (by decide)
          obtain rfl := Option.some.inj hm2
          exact ⟨_, rfl, _, _, _, v9, rfl, rfl, rfl, rfl, H⟩
    ·
     refine W.cond_false (congrArg Value.bool hc2) ?_
     refine W.exit ?_
     obtain rfl := Option.some.inj hm2
     refine ⟨_, rfl, ?_⟩
     rintro rfl
     refine xT rfl ?_
     exact ⟨_, v2, rfl, rfl, H⟩
  ·
   rintro f w ⟨s1, v4, rfl, hf2, H⟩
   obtain ⟨u5, rfl⟩ := up1 hf2
   refine W.seq ?_
   refine W.region ?_
   refine O.move (v := v4) rfl rfl rfl ?_
   refine O.assign (v := v4) rfl rfl rfl ?_
   refine O.assign (v := (.int .i64 0)) rfl rfl rfl ?_
   refine O.assign (v := (.int .i64 0)) rfl rfl rfl ?_
   refine WL.nil ?_
   refine W.ret ?_
   have hq : (s1, 0, 0) = (r0, r1, r2) := Option.some.inj (show some (s1, 0, 0) = some (r0, r1, r2) from hm)
   obtain ⟨he0, hq0⟩ := Prod.mk.inj hq; clear hq; subst he0
   obtain ⟨he1, hq1⟩ := Prod.mk.inj hq0; clear hq0; subst he1
   subst hq1
   exact ends3 Tryd.results10 rfl rfl rfl ⟨_, rfl, H.base, ⟨_, rfl, H.ownR 0 rfl⟩⟩

set_option maxRecDepth 20000 in
theorem c_noongunref09_SameEntries {w0 : World} (va0 : Value) (a0 : (List GEntry)) (ha0 : SliceR w0 va0 a0) (va1 : Value) (a1 : (List GEntry)) (ha1 : SliceR w0 va1 a1) {r0 : Bool} (hm : noongunref09_SameEntries a0 a1 = some r0) :
  Calls Tryd.prog 11 #[va0, va1] w0 (Ret w0 fun _ v => v = (.bool r0)) := by
 unfold noongunref09_SameEntries at hm
 refine calls_of_W Tryd.func11 rfl Tryd.ntmps11 (Nat.le_of_ble_eq_true rfl) ?_
 have H := Inv.start (w := w0)
 refine W.seq ?_
 refine W.region ?_
 refine O.assign (v := (.bool false)) rfl rfl rfl ?_
 refine WL.nil ?_
 refine W.seq ?_
 refine W.seq ?_
 refine W.region ?_
 refine O.move (v := va0) rfl rfl rfl ?_
 refine O.lenS Tryd.underlying22 (H.arg ha0) rfl rfl rfl ?_
 refine O.move (v := va1) rfl rfl rfl ?_
 refine O.lenS Tryd.underlying22 (H.arg ha1) rfl rfl rfl ?_
 refine O.neq rfl rfl rfl rfl ?_
 refine WL.nil ?_
 rcases ite_some hm with ⟨hc1, hm⟩ | ⟨hc1, hm⟩
 ·
  refine W.cond_true (congrArg Value.bool hc1) ?_
  refine W.seq ?_
  refine W.region ?_
  refine O.assign (v := (.bool false)) rfl rfl rfl ?_
  refine WL.nil ?_
  refine W.ret ?_
  have hq : false = r0 := Option.some.inj (show some false = some r0 from hm)
  subst hq
  exact ends1 Tryd.results11 rfl ⟨_, rfl, H.base, rfl⟩
 ·
  refine W.cond_false (congrArg Value.bool hc1) ?_
  refine W.skip ?_
  refine W.seq ?_
  refine W.seq ?_
  refine W.region ?_
  refine O.move (v := va0) rfl rfl rfl ?_
  refine O.lenS Tryd.underlying22 (H.arg ha0) rfl rfl rfl ?_
  refine O.move (v := (.int .i64 0)) rfl rfl rfl ?_
  refine WL.nil ?_
  obtain ⟨o1, hm1, hm⟩ := bind_some hm
  refine W.via (fun f w => o1 = .next () ∧ Inv w0 w []) ?_ ?_
  ·
   refine W.block ?_
   have hbdik1 := (H.arg ha0).len_le
   refine W.rangeN (i := 0) hm1 (fun rem ik1 s f w => () = s ∧ (ik1 : Int) + rem = max 0 ((a0.length : Nat) : Int) ∧ f 13 = .int .i64 (ik1 : Int) ∧ f 12 = (.int .i64 ((a0.length : Nat) : Int)) ∧ f 0 = va0 ∧ f 1 = va1 ∧ Inv w0 w []) ?_ ?_ ?_
   ·
    exact ⟨rfl, rangeN_start, rfl, rfl, rfl, rfl, H⟩
   ·
    rintro k ik1 _ st f w ⟨rfl, hdropk1, hf13, hf12, hf0, hf1, H⟩ hm2
    have hltk1 := rangeN_lt hdropk1
    obtain ⟨u1, rfl⟩ := up4 hf13 hf12 hf0 hf1
    have hinck1 := addI_lt hltk1 hbdik1
    refine W.seq ?_
    refine W.region ?_
    refine O.lss rfl rfl rfl rfl ?_
    refine WL.nil ?_
    refine W.seq ?_
    refine W.cond_true (congrArg Value.bool (decide_eq_true hltk1)) ?_
    refine W.skip ?_
    refine W.seq ?_
    refine W.block ?_
    refine W.seq ?_
    refine W.region ?_
    refine O.move (v := (.int .i64 (ik1 : Int))) rfl rfl rfl ?_
    refine O.assign (v := (.int .i64 (ik1 : Int))) rfl rfl rfl ?_
    refine WL.nil ?_
    refine W.seq ?_
    obtain ⟨x1, hx1, hm2⟩ := bind_some hm2
    obtain ⟨p1, hp1, hrp1⟩ := fix_indexAddr Tryd.underlying22 sz34 (H.arg ha0) hx1
    obtain ⟨x2, hx2, hm2⟩ := bind_some hm2
    obtain ⟨p2, hp2, hrp2⟩ := fix_indexAddr Tryd.underlying22 sz34 (H.arg ha1) hx2
    refine W.drawN 8 (fun f => f 0 = va0 ∧ f 1 = va1 ∧ f 12 = (.int .i64 ((a0.length : Nat) : Int)) ∧ f 13 = (.int .i64 (ik1 : Int)) ∧ f 19 = (.agg (Flat.cells x1).toArray) ∧ f 23 = (.agg (Flat.cells x2).toArray)) fol (by kernel_rfl) ?_ ?_
    ·
     refine PL.of (fun _ w8 _ hx => O.move (v := va0) rfl rfl rfl (WL.nil ⟨rfl, hx⟩)) ?_
     refine PL.of (fun _ w8 _ hx => O.move (v := (.int .i64 (ik1 : Int))) rfl rfl rfl (WL.nil ⟨rfl, hx⟩)) ?_
     refine PL.of (fun _ w8 _ hx => hrp1 rfl rfl rfl rfl (WL.nil ⟨rfl, hx⟩)) ?_
     refine PL.of (fun _ w8 _ hx => by have hp1 := hp1.mono hx; exact O.loadA [(.int .i64 x1.Day), (.bool x1.Found), (.int .i64 x1.Error)] ag34 rfl rfl rfl rfl (hp1.flat) (WL.nil ⟨rfl, hx⟩)) ?_
     refine PL.of (fun _ w8 _ hx => O.move (v := va1) rfl rfl rfl (WL.nil ⟨rfl, hx⟩)) ?_
     refine PL.of (fun _ w8 _ hx => O.move (v := (.int .i64 (ik1 : Int))) rfl rfl rfl (WL.nil ⟨rfl, hx⟩)) ?_
     refine PL.of (fun _ w8 _ hx => hrp2 rfl rfl rfl rfl (WL.nil ⟨rfl, hx⟩)) ?_
     refine PL.of (fun _ w8 _ hx => by have hp2 := hp2.mono hx; exact O.loadA [(.int .i64 x2.Day), (.bool x2.Found), (.int .i64 x2.Error)] ag34 rfl rfl rfl rfl (hp2.flat) (WL.nil ⟨rfl, hx⟩)) ?_
     refine PL.nil ?_
     exact ⟨rfl, rfl, rfl, rfl, rfl, rfl⟩
    ·
     rintro f w ⟨hf0, hf1, hf12, hf13, hf19, hf23⟩ hmd hx
     have H := H.ext hx
     have hp1 := hp1.mono hx
     have hp2 := hp2.mono hx
     obtain ⟨u2, rfl⟩ := up6 hf0 hf1 hf12 hf13 hf19 hf23
     refine O.neqSt x1 x2 eq34 rfl rfl rfl rfl ?_
     refine WL.nil ?_
     rcases ite_some hm2 with ⟨hc2, hm2⟩ | ⟨hc2, hm2⟩
     ·
      refine W.cond_true (congrArg Value.bool hc2) ?_
      refine W.seq ?_
      refine W.region ?_
      refine O.assign (v := (.bool false)) rfl rfl rfl ?_
      refine WL.nil ?_
      refine W.ret ?_
      obtain rfl := Option.some.inj hm2
      refine ⟨_, rfl, ?_⟩
      rintro rfl
      have hq : false = r0 := Option.some.inj (show some false = some r0 from hm)
      subst hq
      exact ends1 Tryd.results11 rfl ⟨_, rfl, H.base, rfl⟩
     ·
      refine W.cond_false (congrArg Value.bool hc2) ?_
      refine W.skip ?_
      refine W.region ?_
      refine O.add rfl rfl rfl rfl hinck1 ?_
      refine O.move (v := .int .i64 ((ik1 : Int) + 1)) rfl rfl rfl ?_
      refine WL.nil ?_
      obtain rfl := Option.some.inj hm2
      exact ⟨_, rfl, rfl, rangeN_next hdropk1, rfl, rfl, rfl, rfl, H⟩
   ·
    rintro ik1 _ f w ⟨rfl, hdropk1, hf13, hf12, hf0, hf1, H⟩ hfin
    have hltk1 := rangeN_end hdropk1
    obtain ⟨u3, rfl⟩ := up4 hf13 hf12 hf0 hf1
    refine W.seq ?_
    refine W.region ?_
    refine O.lss rfl rfl rfl rfl ?_
    refine WL.nil ?_
    refine W.seq ?_
    refine W.cond_false (congrArg Value.bool (decide_eq_false hltk1)) ?_
    refine W.exit ?_
    obtain rfl : Ctl.next () = o1 := hfin
    refine xT rfl ?_
    exact ⟨rfl, H⟩
  ·
   rintro f w ⟨rfl, H⟩
   refine W.seq ?_
   refine W.region ?_
   refine O.assign (v := (.bool true)) rfl rfl rfl ?_
   refine WL.nil ?_
   refine W.ret ?_
   have hq : true = r0 := Option.some.inj (show some true = some r0 from hm)
   subst hq
   exact ends1 Tryd.results11 rfl ⟨_, rfl, H.base, rfl⟩

theorem c_noongunref09_Valid {w0 : World} (va0 : Value) (a0 : (List GEntry)) (ha0 : SliceR w0 va0 a0) {r0 : Bool} (hm : noongunref09_Valid a0 = some r0) :
  Calls Tryd.prog 29 #[va0] w0 (Ret w0 fun _ v => v = (.bool r0)) := by
 unfold noongunref09_Valid at hm
 refine calls_of_W Tryd.func29 rfl Tryd.ntmps29 (Nat.le_of_ble_eq_true rfl) ?_
 have H := Inv.start (w := w0)
 refine W.seq ?_
 refine W.region ?_
 refine O.assign (v := (.bool false)) rfl rfl rfl ?_
 refine WL.nil ?_
 refine W.seq ?_
 refine W.seq ?_
 refine W.region ?_
 refine O.move (v := va0) rfl rfl rfl ?_
 refine O.lenS Tryd.underlying22 (H.arg ha0) rfl rfl rfl ?_
 refine O.move (v := (.int .i64 0)) rfl rfl rfl ?_
 refine WL.nil ?_
 obtain ⟨o1, hm1, hm⟩ := bind_some hm
 refine W.via (fun f w => o1 = .next () ∧ f 0 = va0 ∧ Inv w0 w []) ?_ ?_
 ·
  refine W.block ?_
  refine W.rangeL (i := 0) hm1 (fun rem ik1 s f w => () = s ∧ a0.drop ik1 = rem ∧ f 7 = .int .i64 (ik1 : Int) ∧ f 6 = (.int .i64 ((a0.length : Nat) : Int)) ∧ f 0 = va0 ∧ f 5 = va0 ∧ Inv w0 w []) ?_ ?_ ?_
  ·
   exact ⟨rfl, List.drop_zero, rfl, rfl, rfl, rfl, H⟩
  ·
   rintro yk1 xs ik1 _ st f w ⟨rfl, hdropk1, hf7, hf6, hf0, hf5, H⟩ hm2
   have hltk1 := drop_lt hdropk1; have hixk1 := drop_idx hdropk1
   obtain ⟨u1, rfl⟩ := up4 hf7 hf6 hf0 hf5
   have hinck1 := addI_lt hltk1 (H.arg ha0).len_le
   refine W.seq ?_
   refine W.region ?_
   refine O.lss rfl rfl rfl rfl ?_
   refine WL.nil ?_
   refine W.seq ?_
   refine W.cond_true (congrArg Value.bool (decide_eq_true hltk1)) ?_
   refine W.skip ?_
   refine W.seq ?_
   refine W.block ?_
   refine W.seq ?_
   refine W.region ?_
   obtain ⟨p1, hp1, hrp1⟩ := fix_indexAddr Tryd.underlying22 sz34 ha0 hixk1
   refine hrp1 rfl rfl rfl rfl ?_
   refine O.loadA [(.int .i64 yk1.Day), (.bool yk1.Found), (.int .i64 yk1.Error)] ag34 rfl rfl rfl rfl ((hp1.mono H.base).flat) ?_
   refine O.alloc [(.int .i64 0), (.bool false), (.int .i64 0)] ze34 H rfl rfl rfl ?_
   intro b1 w1 H hb1
   refine O.store 0 0 [(.int .i64 yk1.Day), (.bool yk1.Found), (.int .i64 yk1.Error)] [(.int .i64 yk1.Day), (.bool yk1.Found), (.int .i64 yk1.Error)] sz34 H rfl rfl rfl rfl rfl rfl ⟨⟨rfl, rfl⟩, rfl⟩ (one_cons rfl (one_cons rfl (one_cons rfl one_nil))) ?_
   intro w2 H
   refine WL.nil ?_
   refine W.seq ?_
   refine W.region ?_
   refine O.loadA [(.int .i64 yk1.Day), (.bool yk1.Found), (.int .i64 yk1.Error)] ag34 rfl rfl rfl rfl (H.cell 0 rfl) ?_
   obtain ⟨t1, hy1, hm2⟩ := bind_some hm2
   refine O.call Tryd.call25 rfl rfl rfl (c_noongunref09_valid yk1 hy1) ?_
   rintro _ w3 hb2 rfl
   have H := H.ext hb2
   refine O.not rfl rfl rfl ?_
   refine WL.nil ?_
   rcases ite_some hm2 with ⟨hc1, hm2⟩ | ⟨hc1, hm2⟩
   ·
    refine W.cond_true (congrArg Value.bool hc1) ?_
    refine W.seq ?_
    refine W.region ?_
    refine O.assign (v := (.bool false)) rfl rfl rfl ?_
    refine WL.nil ?_
    refine W.ret ?_
    obtain rfl := Option.some.inj hm2
    refine ⟨_, rfl, ?_⟩
    rintro rfl
    have hq : false = r0 := Option.some.inj (show some false = some r0 from hm)
    subst hq
    exact ends1 Tryd.results29 rfl ⟨_, rfl, H.base, rfl⟩
   ·
    refine W.cond_false (congrArg Value.bool hc1) ?_
    refine W.skip ?_
    refine W.region ?_
    refine O.add rfl rfl rfl rfl hinck1 ?_
    refine O.move (v := .int .i64 ((ik1 : Int) + 1)) rfl rfl rfl ?_
    refine WL.nil ?_
    have H := H.keep [] [] rfl (by decide)
    obtain rfl := Option.some.inj hm2
    exact ⟨_, rfl, rfl, drop_next hdropk1, rfl, rfl, rfl, rfl, H⟩
  ·
   rintro ik1 _ f w ⟨rfl, hdropk1, hf7, hf6, hf0, hf5, H⟩ hfin
   have hltk1 := drop_end hdropk1
   obtain ⟨u2, rfl⟩ := up4 hf7 hf6 hf0 hf5
   refine W.seq ?_
   refine W.region ?_
   refine O.lss rfl rfl rfl rfl ?_
   refine WL.nil ?_
   refine W.seq ?_
   refine W.cond_false (congrArg Value.bool (decide_eq_false hltk1)) ?_
   refine W.exit ?_
   obtain rfl : Ctl.next () = o1 := hfin
   refine xT rfl ?_
   exact ⟨rfl, rfl, H⟩
 ·
  rintro f w ⟨rfl, hf0, H⟩
  obtain ⟨u3, rfl⟩ := up1 hf0
  refine W.seq ?_
  refine W.region ?_
  refine O.move (v := va0) rfl rfl rfl ?_
  refine O.lenS Tryd.underlying22 (H.arg ha0) rfl rfl rfl ?_
  refine O.leq rfl rfl rfl rfl ?_
  refine O.assign (v := (.bool (decide (((a0.length : Nat) : Int) ≤ 1000)))) rfl rfl rfl ?_
  refine WL.nil ?_
  refine W.ret ?_
  have hq : (decide (((a0.length : Nat) : Int) ≤ 1000)) = r0 := Option.some.inj (show some (decide (((a0.length : Nat) : Int) ≤ 1000)) = some r0 from hm)
  subst hq
  exact ends1 Tryd.results29 rfl ⟨_, rfl, H.base, rfl⟩

theorem c_noongunref09_Format {w0 : World} (hT : EnvH Tryd.prog 0 1 2 w0) (va0 : Value) (a0 : (List GEntry)) (ha0 : SliceR w0 va0 a0) {r0 : ByteArray} (hm : noongunref09_Format a0 = some r0) :
  Calls Tryd.prog 13 #[va0] w0 (Ret w0 fun _ v => v = (.string r0)) := by
 unfold noongunref09_Format at hm
 refine calls_of_W Tryd.func13 rfl Tryd.ntmps13 (Nat.le_of_ble_eq_true rfl) ?_
 have H := Inv.start (w := w0)
 refine W.seq ?_
 refine W.region ?_
 refine O.assign (v := (.string (bs []))) rfl rfl rfl ?_
 refine WL.nil ?_
 refine W.seq ?_
 refine W.seq ?_
 refine W.region ?_
 refine O.move (v := va0) rfl rfl rfl ?_
 obtain ⟨t1, hy1, hm⟩ := bind_some hm
 refine O.call Tryd.call29 rfl rfl rfl (c_noongunref09_Valid _ _ (H.arg ha0) hy1) ?_
 rintro _ w1 hb1 rfl
 have H := H.ext hb1
 refine O.not rfl rfl rfl ?_
 refine WL.nil ?_
 rcases ite_some hm with ⟨hc1, hm⟩ | ⟨hc1, hm⟩
 ·
  refine W.cond_true (congrArg Value.bool hc1) ?_
  refine W.seq ?_
  refine W.region ?_
  refine O.assign (v := (.string (bs []))) rfl rfl rfl ?_
  refine WL.nil ?_
  refine W.ret ?_
  have hq : (bs []) = r0 := Option.some.inj hm
  subst hq
  exact ends1 Tryd.results13 rfl ⟨_, rfl, H.base, rfl⟩
 refine W.cond_false (congrArg Value.bool hc1) ?_
 refine W.skip ?_
 refine W.seq ?_
 refine W.region ?_
 refine O.alloc [(.pointer none), (.slice none 0 0)] ze57 H rfl rfl rfl ?_
 intro b0 w2 H hb2
 have H := H.addNil (α := UInt8) (E := 5)
 refine WL.nil ?_
 refine W.seq ?_
 refine W.seq ?_
 refine W.region ?_
 refine O.move (v := va0) rfl rfl rfl ?_
 refine O.lenS Tryd.underlying22 (H.arg ha0) rfl rfl rfl ?_
 refine O.move (v := (.int .i64 0)) rfl rfl rfl ?_
 refine WL.nil ?_
 obtain ⟨o1, hm1, hm⟩ := bind_some hm
 refine W.via (fun f w => f 3 = (.pointer (some ⟨b0, 0, none⟩)) ∧ ∃ p v, (p = .pointer none ∨ p = .pointer (some ⟨b0, 0, none⟩)) ∧ Inv w0 w [boxI b0 57 [p, v], ownI v 5 o1]) ?_ ?_
 ·
  refine W.block ?_
  refine W.rangeL (i := 0) hm1 (fun rem ik1 s f w => a0.drop ik1 = rem ∧ f 11 = .int .i64 (ik1 : Int) ∧ f 10 = (.int .i64 ((a0.length : Nat) : Int)) ∧ f 9 = va0 ∧ f 3 = (.pointer (some ⟨b0, 0, none⟩)) ∧ ∃ p v, (p = .pointer none ∨ p = .pointer (some ⟨b0, 0, none⟩)) ∧ Inv w0 w [boxI b0 57 [p, v], ownI v 5 s]) ?_ ?_ ?_
  · exact ⟨List.drop_zero, rfl, rfl, rfl, rfl, _, _, .inl rfl, H⟩
  ·
   rintro yk1 xs ik1 z st f w ⟨hdropk1, hf11, hf10, hf9, hf3, p, v, hp, H⟩ hm2
   have hltk1 := drop_lt hdropk1; have hixk1 := drop_idx hdropk1
   obtain ⟨u1, rfl⟩ := up4 hf11 hf10 hf9 hf3
   have hinck1 := addI_lt hltk1 (H.arg ha0).len_le
   refine W.seq ?_
   refine W.region ?_
   refine O.lss rfl rfl rfl rfl ?_
   refine WL.nil ?_
   refine W.seq ?_
   refine W.cond_true (congrArg Value.bool (decide_eq_true hltk1)) ?_
   refine W.skip ?_
   refine W.seq ?_
   refine W.block ?_
   refine W.seq ?_
   refine W.region ?_
   obtain ⟨p1, hp1, hrp1⟩ := fix_indexAddr Tryd.underlying22 sz34 ha0 hixk1
   refine hrp1 rfl rfl rfl rfl ?_
   refine O.loadA [(.int .i64 yk1.Day), (.bool yk1.Found), (.int .i64 yk1.Error)] ag34 rfl rfl rfl rfl ((hp1.mono H.base).flat) ?_
   refine O.alloc [(.int .i64 0), (.bool false), (.int .i64 0)] ze34 H rfl rfl rfl ?_
   intro b1 w1 H hb1
   refine O.store 2 0 [(.int .i64 yk1.Day), (.bool yk1.Found), (.int .i64 yk1.Error)] [(.int .i64 yk1.Day), (.bool yk1.Found), (.int .i64 yk1.Error)] sz34 H rfl rfl rfl rfl rfl rfl ⟨⟨rfl, rfl⟩, rfl⟩ (one_cons rfl (one_cons rfl (one_cons rfl one_nil))) ?_
   intro w2 H
   refine WL.nil ?_
   obtain ⟨ln, hln, hm2⟩ := bind_some hm2
   obtain ⟨z2, hz2, hm2⟩ := bind_some hm2
   obtain rfl := Option.some.inj hm2
   unfold addL at hz2
   obtain ⟨hlen, hz2⟩ : z.length + ln.size ≤ 1099511627776 ∧ z ++ Fw.bytes ln = z2 := by
    split at hz2
    · rename_i hh; exact ⟨hh, Option.some.inj hz2⟩
    · cases hz2
   subst hz2
   unfold noongunref09_lineN at hln
   obtain ⟨t1, hy1, hln⟩ := bind_some hln
   obtain ⟨t2, ht2, hln⟩ := bind_some hln
   obtain rfl := Option.some.inj hln
   refine W.region ?_
   refine O.loadA [(.int .i64 yk1.Day), (.bool yk1.Found), (.int .i64 yk1.Error)] ag34 rfl rfl rfl rfl (H.cell 2 rfl) ?_
   refine O.call Tryd.call24 rfl rfl rfl (c_noongunref09_line (hT.mono H.base) yk1 hy1) ?_
   rintro _ w3 hb3 rfl
   have H := H.ext hb3
   refine O.addS rfl rfl rfl rfl ht2 ?_
   refine O.writeS 0 1 bldOk H rfl rfl (by omega) hp hlen Tryd.call26 rfl rfl rfl rfl ?_
   intro v' w' H
   refine WL.nil ?_
   refine W.region ?_
   refine O.add rfl rfl rfl rfl hinck1 ?_
   refine O.move (v := .int .i64 ((ik1 : Int) + 1)) rfl rfl rfl ?_
   exact WL.nil ⟨_, rfl, drop_next hdropk1, rfl, rfl, rfl, rfl, _, _, .inr rfl, H⟩
  ·
   rintro ik1 z f w ⟨hdropk1, hf11, hf10, hf9, hf3, p, v, hp, H⟩ hfin
   have hltk1 := drop_end hdropk1
   obtain ⟨u1, rfl⟩ := up4 hf11 hf10 hf9 hf3
   refine W.seq ?_
   refine W.region ?_
   refine O.lss rfl rfl rfl rfl ?_
   refine WL.nil ?_
   refine W.seq ?_
   refine W.cond_false (congrArg Value.bool (decide_eq_false hltk1)) ?_
   refine W.exit ?_
   obtain rfl : z = o1 := hfin
   refine xT rfl ?_
   exact ⟨rfl, p, v, hp, H⟩
 ·
  rintro f w ⟨hf3, p, v, hp, H⟩
  obtain ⟨u3, rfl⟩ := up1 hf3
  refine W.seq ?_
  refine W.region ?_
  refine O.strS 0 1 bldOk H rfl rfl (by omega) hp Tryd.call28 rfl rfl rfl ?_
  intro w' H
  refine O.assign (v := (.string ⟨o1.toArray⟩)) rfl rfl rfl ?_
  refine WL.nil ?_
  refine W.ret ?_
  have hq : (⟨o1.toArray⟩ : ByteArray) = r0 := Option.some.inj hm
  subst hq
  exact ends1 Tryd.results13 rfl ⟨_, rfl, H.base, rfl⟩

set_option maxRecDepth 20000 in
theorem c_noongunlaw09_LedgerTexts {w0 : World} (hT : EnvH Tryd.prog 0 1 2 w0) (va0 : Value) (a0 : (List GEntry)) (ha0 : SliceR w0 va0 a0) (a1 : ByteArray) {r0 : Bool} (hm : noongunlaw09_LedgerTexts a0 a1 = some r0) :
  Calls Tryd.prog 4 #[va0, (.string a1)] w0 (Ret w0 fun _ v => v = (.bool r0)) := by
 unfold noongunlaw09_LedgerTexts at hm
 refine calls_of_W Tryd.func4 rfl Tryd.ntmps4 (Nat.le_of_ble_eq_true rfl) ?_
 have H := Inv.start (w := w0)
 refine W.seq ?_
 refine W.region ?_
 refine O.assign (v := (.bool false)) rfl rfl rfl ?_
 refine WL.nil ?_
 refine W.seq ?_
 refine W.seq ?_
 refine W.region ?_
 refine O.move (v := va0) rfl rfl rfl ?_
 obtain ⟨t1, hy1, hm⟩ := bind_some hm
 refine O.call Tryd.call5 rfl rfl rfl (c_noongunlaw09_fit _ _ (H.arg ha0) hy1) ?_
 rintro _ w1 hb1 rfl
 have H := H.ext hb1
 refine O.not rfl rfl rfl ?_
 refine O.move (v := (.bool (!t1))) rfl rfl rfl ?_
 refine WL.cut 9 (fun f w => f 0 = va0 ∧ f 1 = (.string a1) ∧ f 27 = .bool ((!t1) || ((decide (3000 < ((a1.size : Nat) : Int))) && (decide (((a1.size : Nat) : Int) ≤ 65536)))) ∧ Inv w0 w []) ?_ ?_
 ·
  rcases bool_ft (!t1) with hc1 | hc1
  ·
   refine WL.reset (i := 18) (v := .bool false) (congrArg Value.bool hc1) ?_
   refine O.move (v := (.string a1)) rfl rfl rfl ?_
   refine O.lenStr Tryd.underlying9 rfl rfl rfl ?_
   refine O.gtr rfl rfl rfl rfl ?_
   refine O.move (v := (.bool (decide (3000 < ((a1.size : Nat) : Int))))) rfl rfl rfl ?_
   refine WL.cut 4 (fun f w => f 0 = va0 ∧ f 1 = (.string a1) ∧ f 18 = (.bool false) ∧ f 26 = .bool ((decide (3000 < ((a1.size : Nat) : Int))) && (decide (((a1.size : Nat) : Int) ≤ 65536))) ∧ Inv w0 w []) ?_ ?_
   ·
    rcases bool_ft (decide (3000 < ((a1.size : Nat) : Int))) with hc2 | hc2
    ·
     refine WL.reset (i := 22) (v := .bool false) (congrArg Value.bool hc2) ?_
     refine O.skip rfl rfl ?_
     refine O.skip rfl rfl ?_
     refine O.skip rfl rfl ?_
     refine O.pick_false (v := (.bool false)) rfl rfl rfl rfl ?_
     exact WL.nil ⟨rfl, rfl, rfl, congrArg Value.bool (and_f hc2), H⟩
    ·
     refine WL.reset (i := 22) (v := .bool true) (congrArg Value.bool hc2) ?_
     refine O.move (v := (.string a1)) rfl rfl rfl ?_
     refine O.lenStr Tryd.underlying9 rfl rfl rfl ?_
     refine O.leq rfl rfl rfl rfl ?_
     refine O.pick_true (v := (.bool (decide (((a1.size : Nat) : Int) ≤ 65536)))) rfl rfl rfl rfl ?_
     exact WL.nil ⟨rfl, rfl, rfl, congrArg Value.bool (and_t hc2), H⟩
   ·
    rintro f w ⟨hf0, hf1, hf18, hf26, H⟩
    obtain ⟨u1, rfl⟩ := up4 hf0 hf1 hf18 hf26
    refine O.pick_false (v := (.bool ((decide (3000 < ((a1.size : Nat) : Int))) && (decide (((a1.size : Nat) : Int) ≤ 65536))))) rfl rfl rfl rfl ?_
    exact WL.nil ⟨rfl, rfl, congrArg Value.bool (or_f hc1), H⟩
  ·
   refine WL.reset (i := 18) (v := .bool true) (congrArg Value.bool hc1) ?_
   refine O.skip rfl rfl ?_
   refine O.skip rfl rfl ?_
   refine O.skip rfl rfl ?_
   refine O.skip rfl rfl ?_
   refine O.skip rfl rfl ?_
   refine O.skip rfl rfl ?_
   refine O.skip rfl rfl ?_
   refine O.skip rfl rfl ?_
   refine O.pick_true (v := (.bool true)) rfl rfl rfl rfl ?_
   exact WL.nil ⟨rfl, rfl, congrArg Value.bool (or_t hc1), H⟩
 ·
  rintro f w ⟨hf0, hf1, hf27, H⟩
  obtain ⟨u2, rfl⟩ := up3 hf0 hf1 hf27
  refine WL.nil ?_
  rcases ite_some hm with ⟨hc3, hm⟩ | ⟨hc3, hm⟩
  ·
   refine W.cond_true (congrArg Value.bool hc3) ?_
   refine W.seq ?_
   refine W.region ?_
   obtain ⟨t2, hy2, hm⟩ := bind_some hm
   refine O.call Tryd.call6 rfl rfl rfl (c_noongunlaw09_awake  hy2) ?_
   rintro _ w2 hb2 rfl
   have H := H.ext hb2
   refine O.assign (v := (.bool t2)) rfl rfl rfl ?_
   refine WL.nil ?_
   refine W.ret ?_
   have hq : t2 = r0 := Option.some.inj (show some t2 = some r0 from hm)
   subst hq
   exact ends1 Tryd.results4 rfl ⟨_, rfl, H.base, rfl⟩
  ·
   refine W.cond_false (congrArg Value.bool hc3) ?_
   refine W.skip ?_
   refine W.seq ?_
   refine W.region ?_
   refine O.move (v := (.string a1)) rfl rfl rfl ?_
   obtain ⟨⟨t3, t4, t5⟩, hy3, hm⟩ := bind_some hm
   refine O.call Tryd.call9 rfl rfl rfl (c_ledger_Parse (hT.mono H.base) _ hy3) ?_
   rintro _ w3 hb3 ⟨v1, rfl, ho1⟩
   have H := H.addOwn hb3 ho1
   refine O.move (v := (.tuple #[v1, (.int .i64 t4), (.int .i64 t5)])) rfl rfl rfl ?_
   refine O.extract (v := v1) rfl rfl rfl rfl ?_
   refine O.extract (v := (.int .i64 t4)) rfl rfl rfl rfl ?_
   refine O.extract (v := (.int .i64 t5)) rfl rfl rfl rfl ?_
   refine O.assign (v := v1) rfl rfl rfl ?_
   refine O.assign (v := (.int .i64 t4)) rfl rfl rfl ?_
   refine O.assign (v := (.int .i64 t5)) rfl rfl rfl ?_
   refine WL.nil ?_
   refine W.seq ?_
   refine W.region ?_
   refine O.move (v := (.string a1)) rfl rfl rfl ?_
   obtain ⟨⟨t6, t7, t8⟩, hy4, hm⟩ := bind_some hm
   refine O.call Tryd.call10 rfl rfl rfl (c_noongunref09_Parse (hT.mono H.base) _ hy4) ?_
   rintro _ w4 hb4 ⟨v2, rfl, ho2⟩
   have H := H.addOwn hb4 ho2
   refine O.move (v := (.tuple #[v2, (.int .i64 t7), (.int .i64 t8)])) rfl rfl rfl ?_
   refine O.extract (v := v2) rfl rfl rfl rfl ?_
   refine O.extract (v := (.int .i64 t7)) rfl rfl rfl rfl ?_
   refine O.extract (v := (.int .i64 t8)) rfl rfl rfl rfl ?_
   refine O.assign (v := v2) rfl rfl rfl ?_
   refine O.assign (v := (.int .i64 t7)) rfl rfl rfl ?_
   refine O.assign (v := (.int .i64 t8)) rfl rfl rfl ?_
   refine WL.nil ?_
   refine W.seq ?_
   refine W.seq ?_
   refine W.region ?_
   refine O.move (v := v1) rfl rfl rfl ?_
   refine O.move (v := v2) rfl rfl rfl ?_
   obtain ⟨t9, hy5, hm⟩ := bind_some hm
   refine O.call Tryd.call11 rfl rfl rfl (c_noongunref09_SameEntries _ _ (H.own 0 rfl) _ _ (H.own 1 rfl) hy5) ?_
   rintro _ w5 hb5 rfl
   have H := H.ext hb5
   refine O.not rfl rfl rfl ?_
   refine O.move (v := (.bool (!t9))) rfl rfl rfl ?_
   refine WL.cut 4 (fun f w => f 0 = va0 ∧ f 7 = (.int .i64 t5) ∧ f 10 = (.int .i64 t8) ∧ f 49 = .bool ((!t9) || (t4 != t7)) ∧ Inv w0 w [ownI (α := GEntry) v1 34 t3, ownI (α := GEntry) v2 34 t6]) ?_ ?_
   ·
    rcases bool_ft (!t9) with hc4 | hc4
    ·
     refine WL.reset (i := 45) (v := .bool false) (congrArg Value.bool hc4) ?_
     refine O.move (v := (.int .i64 t4)) rfl rfl rfl ?_
     refine O.move (v := (.int .i64 t7)) rfl rfl rfl ?_
     refine O.neq rfl rfl rfl rfl ?_
     refine O.pick_false (v := (.bool (t4 != t7))) rfl rfl rfl rfl ?_
     exact WL.nil ⟨rfl, rfl, rfl, congrArg Value.bool (or_f hc4), H⟩
    ·
     refine WL.reset (i := 45) (v := .bool true) (congrArg Value.bool hc4) ?_
     refine O.skip rfl rfl ?_
     refine O.skip rfl rfl ?_
     refine O.skip rfl rfl ?_
     refine O.pick_true (v := (.bool true)) rfl rfl rfl rfl ?_
     exact WL.nil ⟨rfl, rfl, rfl, congrArg Value.bool (or_t hc4), H⟩
   ·
    rintro f w ⟨hf0, hf7, hf10, hf49, H⟩
    obtain ⟨u3, rfl⟩ := up4 hf0 hf7 hf10 hf49
    refine O.move (v := (.bool ((!t9) || (t4 != t7)))) rfl rfl rfl ?_
    refine WL.cut 4 (fun f w => f 0 = va0 ∧ f 54 = .bool (((!t9) || (t4 != t7)) || (t5 != t8)) ∧ Inv w0 w [ownI (α := GEntry) v1 34 t3, ownI (α := GEntry) v2 34 t6]) ?_ ?_
    ·
     rcases bool_ft ((!t9) || (t4 != t7)) with hc5 | hc5
     ·
      refine WL.reset (i := 50) (v := .bool false) (congrArg Value.bool hc5) ?_
      refine O.move (v := (.int .i64 t5)) rfl rfl rfl ?_
      refine O.move (v := (.int .i64 t8)) rfl rfl rfl ?_
      refine O.neq rfl rfl rfl rfl ?_
      refine O.pick_false (v := (.bool (t5 != t8))) rfl rfl rfl rfl ?_
      exact WL.nil ⟨rfl, congrArg Value.bool (or_f hc5), H⟩
     ·
      refine WL.reset (i := 50) (v := .bool true) (congrArg Value.bool hc5) ?_
      refine O.skip rfl rfl ?_
      refine O.skip rfl rfl ?_
      refine O.skip rfl rfl ?_
      refine O.pick_true (v := (.bool true)) rfl rfl rfl rfl ?_
      exact WL.nil ⟨rfl, congrArg Value.bool (or_t hc5), H⟩
    ·
     rintro f w ⟨hf0, hf54, H⟩
     obtain ⟨u4, rfl⟩ := up2 hf0 hf54
     refine WL.nil ?_
     rcases ite_some hm with ⟨hc6, hm⟩ | ⟨hc6, hm⟩
     ·
      refine W.cond_true (congrArg Value.bool hc6) ?_
      refine W.seq ?_
      refine W.region ?_
      refine O.assign (v := (.bool false)) rfl rfl rfl ?_
      refine WL.nil ?_
      refine W.ret ?_
      have hq : false = r0 := Option.some.inj (show some false = some r0 from hm)
      subst hq
      exact ends1 Tryd.results4 rfl ⟨_, rfl, H.base, rfl⟩
     ·
      refine W.cond_false (congrArg Value.bool hc6) ?_
      refine W.skip ?_
      refine W.seq ?_
      refine W.region ?_
      refine O.move (v := va0) rfl rfl rfl ?_
      obtain ⟨t10, hy6, hm⟩ := bind_some hm
      refine O.call Tryd.call12 rfl rfl rfl (c_ledger_Format (hT.mono H.base) _ _ (H.arg ha0) hy6) ?_
      rintro _ w6 hb6 rfl
      have H := H.ext hb6
      refine O.assign (v := (.string t10)) rfl rfl rfl ?_
      refine WL.nil ?_
      refine W.seq ?_
      refine W.seq ?_
      refine W.region ?_
      refine O.move (v := (.string t10)) rfl rfl rfl ?_
      refine O.move (v := va0) rfl rfl rfl ?_
      obtain ⟨t11, hy7, hm⟩ := bind_some hm
      refine O.call Tryd.call13 rfl rfl rfl (c_noongunref09_Format (hT.mono H.base) _ _ (H.arg ha0) hy7) ?_
      rintro _ w7 hb7 rfl
      have H := H.ext hb7
      refine O.neqS rfl rfl rfl rfl ?_
      refine WL.nil ?_
      rcases ite_some hm with ⟨hc7, hm⟩ | ⟨hc7, hm⟩
      ·
       refine W.cond_true (congrArg Value.bool hc7) ?_
       refine W.seq ?_
       refine W.region ?_
       refine O.assign (v := (.bool false)) rfl rfl rfl ?_
       refine WL.nil ?_
       refine W.ret ?_
       have hq : false = r0 := Option.some.inj (show some false = some r0 from hm)
       subst hq
       exact ends1 Tryd.results4 rfl ⟨_, rfl, H.base, rfl⟩
      ·
       refine W.cond_false (congrArg Value.bool hc7) ?_
       refine W.skip ?_
       refine W.seq ?_
       refine W.seq ?_
       refine W.region ?_
       refine O.move (v := va0) rfl rfl rfl ?_
       obtain ⟨t12, hy8, hm⟩ := bind_some hm
       refine O.call Tryd.call14 rfl rfl rfl (c_ledger_Valid _ _ (H.arg ha0) hy8) ?_
       rintro _ w8 hb8 rfl
       have H := H.ext hb8
       refine O.not rfl rfl rfl ?_
       refine WL.nil ?_
       rcases ite_some hm with ⟨hc8, hm⟩ | ⟨hc8, hm⟩
       ·
        refine W.cond_true (congrArg Value.bool hc8) ?_
        refine W.seq ?_
        refine W.region ?_
        obtain ⟨t13, hy9, hm⟩ := bind_some hm
        refine O.call Tryd.call6 rfl rfl rfl (c_noongunlaw09_awake  hy9) ?_
        rintro _ w9 hb9 rfl
        have H := H.ext hb9
        refine O.assign (v := (.bool t13)) rfl rfl rfl ?_
        refine WL.nil ?_
        refine W.ret ?_
        have hq : t13 = r0 := Option.some.inj (show some t13 = some r0 from hm)
        subst hq
        exact ends1 Tryd.results4 rfl ⟨_, rfl, H.base, rfl⟩
       ·
        refine W.cond_false (congrArg Value.bool hc8) ?_
        refine W.skip ?_
        refine W.seq ?_
        refine W.region ?_
        refine O.move (v := (.string t10)) rfl rfl rfl ?_
        obtain ⟨⟨t14, t15, t16⟩, hy10, hm⟩ := bind_some hm
        refine O.call Tryd.call9 rfl rfl rfl (c_ledger_Parse (hT.mono H.base) _ hy10) ?_
        rintro _ w10 hb10 ⟨v3, rfl, ho3⟩
        have H := H.addOwn hb10 ho3
        refine O.move (v := (.tuple #[v3, (.int .i64 t15), (.int .i64 t16)])) rfl rfl rfl ?_
        refine O.extract (v := v3) rfl rfl rfl rfl ?_
        refine O.extract (v := (.int .i64 t15)) rfl rfl rfl rfl ?_
        refine O.extract (v := (.int .i64 t16)) rfl rfl rfl rfl ?_
        refine O.assign (v := v3) rfl rfl rfl ?_
        refine O.assign (v := (.int .i64 t15)) rfl rfl rfl ?_
        refine O.assign (v := (.int .i64 t16)) rfl rfl rfl ?_
        refine WL.nil ?_
        refine W.seq ?_
        refine W.region ?_
        refine O.move (v := (.int .i64 t16)) rfl rfl rfl ?_
        refine O.eql rfl rfl rfl rfl ?_
        refine O.move (v := (.bool (t16 == 0))) rfl rfl rfl ?_
        obtain ⟨b1, hm1, hm⟩ := bind_some hm
        refine WL.cut 4 (fun f w => f 77 = .bool b1 ∧ Inv w0 w [ownI (α := GEntry) v1 34 t3, ownI (α := GEntry) v2 34 t6, ownI (α := GEntry) v3 34 t14]) ?_ ?_
        ·
         rcases ite_some hm1 with ⟨hc9, hm1⟩ | ⟨hc9, hm1⟩
         ·
          refine WL.reset (i := 73) (v := .bool true) (congrArg Value.bool hc9) ?_
          refine O.move (v := v3) rfl rfl rfl ?_
          refine O.move (v := va0) rfl rfl rfl ?_
          obtain ⟨t17, hy11, hm1⟩ := bind_some hm1
          refine O.call Tryd.call11 rfl rfl rfl (c_noongunref09_SameEntries _ _ (H.own 2 rfl) _ _ (H.arg ha0) hy11) ?_
          rintro _ w11 hb11 rfl
          have H := H.ext hb11
          refine O.pick_true (v := (.bool t17)) rfl rfl rfl rfl ?_
          refine WL.nil ?_
          have hq : t17 = b1 := Option.some.inj (show some t17 = some b1 from hm1)
          subst hq
          exact ⟨rfl, H⟩
         ·
          refine WL.reset (i := 73) (v := .bool false) (congrArg Value.bool hc9) ?_
          refine O.skip rfl rfl ?_
          refine O.skip rfl rfl ?_
          refine O.skip rfl rfl ?_
          refine O.pick_false (v := (.bool false)) rfl rfl rfl rfl ?_
          refine WL.nil ?_
          have hq : false = b1 := Option.some.inj (show some false = some b1 from hm1)
          subst hq
          exact ⟨rfl, H⟩
        ·
         rintro f w ⟨hf77, H⟩
         obtain ⟨u5, rfl⟩ := up1 hf77
         refine O.move (v := (.bool b1)) rfl rfl rfl ?_
         obtain ⟨b2, hm2, hm⟩ := bind_some hm
         refine WL.cut 2 (fun f w => f 80 = .bool b2 ∧ Inv w0 w [ownI (α := GEntry) v1 34 t3, ownI (α := GEntry) v2 34 t6, ownI (α := GEntry) v3 34 t14]) ?_ ?_
         ·
          rcases ite_some hm2 with ⟨hc10, hm2⟩ | ⟨hc10, hm2⟩
          ·
           refine WL.reset (i := 78) (v := .bool true) (congrArg Value.bool hc10) ?_
           obtain ⟨t18, hy12, hm2⟩ := bind_some hm2
           refine O.call Tryd.call6 rfl rfl rfl (c_noongunlaw09_awake  hy12) ?_
           rintro _ w12 hb12 rfl
           have H := H.ext hb12
           refine O.pick_true (v := (.bool t18)) rfl rfl rfl rfl ?_
           refine WL.nil ?_
           have hq : t18 = b2 := Option.some.inj (show some t18 = some b2 from hm2)
           subst hq
           exact ⟨rfl, H⟩
          ·
           refine WL.reset (i := 78) (v := .bool false) (congrArg Value.bool hc10) ?_
           refine O.skip rfl rfl ?_
           refine O.pick_false (v := (.bool false)) rfl rfl rfl rfl ?_
           refine WL.nil ?_
           have hq : false = b2 := Option.some.inj (show some false = some b2 from hm2)
           subst hq
           exact ⟨rfl, H⟩
         ·
          rintro f w ⟨hf80, H⟩
          obtain ⟨u6, rfl⟩ := up1 hf80
          refine O.assign (v := (.bool b2)) rfl rfl rfl ?_
          refine WL.nil ?_
          refine W.ret ?_
          have hq : b2 = r0 := Option.some.inj (show some b2 = some r0 from hm)
          subst hq
          exact ends1 Tryd.results4 rfl ⟨_, rfl, H.base, rfl⟩

end Go.Proofs
