/-
  The walks: each function does what its model says, where the model has a value. No other condition.
-/
import Derived.Test.YtijjocfjgpibjaaDoorRows
import Derived.Test.YtijjocfjgpibjaaDoorM
import Derived.Test.YtijjocfjgpibjaaDoorFwY
import Derived.Test.YtijjocfjgpibjaaDoorShelf
namespace Go.Proofs
open Go.Fw Go.RowKit Go.Shelf
theorem bd69_0_1 : ∀ (v0 : Int) (v1 : Bool) (w : World), (Instr.build 69 #[(0, (.int .i64 v0)), (1, (.bool v1))]).run Tryd.prog w = .ok (.agg #[(.int .i64 v0), (.bool v1)]) w := by
  intro v0 v1 w
  simp [Instr.build, Tryd.zeroValue69, Tryd.runUnderlying69, Instr.fill, Tryd.sizeOf3, Tryd.sizeOf4, Value.cells]
theorem eq69 : EqT Tryd.prog 69 GKey := by
  refine ⟨Tryd.eqGuardType69, ?_⟩
  intro a b w
  obtain ⟨a0, a1⟩ := a
  obtain ⟨b0, b1⟩ := b
  have hs : Tryd.prog.underlying 69 = some (.struct (Tryd.prog.fieldsOf 69)) := by kernel_rfl
  rw [run_equalIn_agg w 9999 69 _ _ hs Tryd.stoodInHeld69]
  simp only [Program.fieldsOf, Tryd.underlying69]
  simp [Op.eqFields, Flat.cells, part, Tryd.isAgg3, Tryd.isAgg4, run_equalIn_bool' _ _ _ _ _ Tryd.underlying4, run_equalIn_int _ _ _ _ _ _ _ Tryd.underlying3]
  cases h0 : decide (a0 = b0) <;> cases h1 : decide (a1 = b1) <;> simp_all
theorem ck69 : ∀ (n : Nat) (k : GKey) (b : Bool) (w : World), (Instr.checkKey b (n + 1 + 1) 69 (.agg (Flat.cells k).toArray)).run Tryd.prog w = .ok () w := by
  intro n k b w
  obtain ⟨k0, k1⟩ := k
  simp only [Instr.checkKey, Sem.run_bind, run_underlying Tryd.underlying69, Result.andThen_ok]
  simp [Flat.cells, part, Tryd.isAgg3, Tryd.isAgg4]
theorem st69 : ∀ (n : Nat) (k : GKey), Instr.sameBits (n + 1) (.agg (Flat.cells k).toArray) (.agg (Flat.cells k).toArray) = true := by
  intro n k
  obtain ⟨k0, k1⟩ := k
  simp [Instr.sameBits, Flat.cells]
theorem key69 : KeyT Tryd.prog 69 GKey := KeyT.struct Tryd.underlying69 (fun k b w => ck69 9998 k b w) (fun a b w => eq69.2 a b w) (fun k => st69 9999 k)
theorem ze3 : ZeroT Tryd.prog 3 (.int .i64 (0)) := ZeroT.mk (by kernel_rfl)
theorem sc3 : ScalarT Tryd.prog 3 := ScalarT.mk Tryd.underlying3 rfl
theorem sz34 : SizeT Tryd.prog 34 3 := SizeT.mk (by kernel_rfl)
theorem ag34 : AggT Tryd.prog 34 3 := AggT.mk Tryd.underlying34 rfl (by kernel_rfl)
theorem fd34_0 : FieldT Tryd.prog 34 0 0 := FieldT.mk (k := 1) Tryd.underlying34 rfl rfl (by kernel_rfl) (by decide)
theorem fd34_2 : FieldT Tryd.prog 34 2 2 := FieldT.mk (k := 1) Tryd.underlying34 rfl rfl (by kernel_rfl) (by decide)
theorem ze69 : ZeroT Tryd.prog 69 (.agg #[(.int .i64 (0)), (.bool false)]) := ZeroT.mk (by kernel_rfl)
theorem fd34_1 : FieldT Tryd.prog 34 1 1 := FieldT.mk (k := 1) Tryd.underlying34 rfl rfl (by kernel_rfl) (by decide)
theorem sc4 : ScalarT Tryd.prog 4 := ScalarT.mk Tryd.underlying4 rfl
theorem sz69 : SizeT Tryd.prog 69 2 := SizeT.mk (by kernel_rfl)
theorem ag69 : AggT Tryd.prog 69 2 := AggT.mk Tryd.underlying69 rfl (by kernel_rfl)
theorem ze34 : ZeroT Tryd.prog 34 (.agg #[(.int .i64 (0)), (.bool false), (.int .i64 (0))]) := ZeroT.mk (by kernel_rfl)
theorem fol : Tryd.prog.follows .mixedOrders = true := by kernel_rfl
theorem ze4 : ZeroT Tryd.prog 4 (.bool false) := ZeroT.mk (by kernel_rfl)
theorem el3 : ElemT Tryd.prog 3 1 8 := ElemT.mk (z := (.int .i64 (0))) (by kernel_rfl) rfl
theorem sz3 : SizeT Tryd.prog 3 1 := SizeT.mk (by kernel_rfl)
theorem bd34_0_2 : ∀ (v0 : Int) (v2 : Int) (w : World), (Instr.build 34 #[(0, (.int .i64 v0)), (2, (.int .i64 v2))]).run Tryd.prog w = .ok (.agg #[(.int .i64 v0), (.bool false), (.int .i64 v2)]) w := by
  intro v0 v2 w
  simp [Instr.build, Tryd.zeroValue34, Tryd.runUnderlying34, Instr.fill, Tryd.sizeOf3, Tryd.sizeOf4, Value.cells]
theorem bd34_0_1_2 : ∀ (v0 : Int) (v1 : Bool) (v2 : Int) (w : World), (Instr.build 34 #[(0, (.int .i64 v0)), (1, (.bool v1)), (2, (.int .i64 v2))]).run Tryd.prog w = .ok (.agg #[(.int .i64 v0), (.bool v1), (.int .i64 v2)]) w := by
  intro v0 v1 v2 w
  simp [Instr.build, Tryd.zeroValue34, Tryd.runUnderlying34, Instr.fill, Tryd.sizeOf3, Tryd.sizeOf4, Value.cells]
theorem el34 : ElemT Tryd.prog 34 3 24 := ElemT.mk (z := (.agg #[(.int .i64 (0)), (.bool false), (.int .i64 (0))])) (by kernel_rfl) rfl
theorem sz5 : SizeT Tryd.prog 5 1 := SizeT.mk (by kernel_rfl)
theorem sc5 : ScalarT Tryd.prog 5 := ScalarT.mk Tryd.underlying5 rfl
theorem c_noongunlaw09_fit {w0 : World} (va0 : Value) (a0 : (List GEntry)) (ha0 : SliceR w0 va0 a0) {r0 : Bool} (hm : noongunlaw09_fit a0 = some r0) :
    Calls Tryd.prog 5 #[va0] w0 (Ret w0 fun _ v => v = (.bool r0)) := by
  unfold noongunlaw09_fit at hm
  refine calls_of_W Tryd.func5 rfl Tryd.ntmps5 (Nat.le_of_ble_eq_true rfl) ?_
  have H := Inv.start (w := w0)
  refine W.seq ?_
  refine W.region ?_
  refine O.assign (v := (.bool false)) rfl rfl rfl ?_
  refine WL.nil ?_
  refine W.seq ?_
  refine W.region ?_
  refine O.move (v := va0) rfl rfl rfl ?_
  refine O.lenS Tryd.underlying22 (H.arg ha0) rfl rfl rfl ?_
  refine O.leq rfl rfl rfl rfl ?_
  refine O.move (v := (.bool (decide (((a0.length : Nat) : Int) ≤ 30)))) rfl rfl rfl ?_
  refine WL.cut 9 (fun f w => f 15 = .bool ((decide (((a0.length : Nat) : Int) ≤ 30)) || ((decide (1000 ≤ ((a0.length : Nat) : Int))) && (decide (((a0.length : Nat) : Int) ≤ 1003)))) ∧ Inv w0 w []) ?_ ?_
  · skip
    rcases bool_ft (decide (((a0.length : Nat) : Int) ≤ 30)) with hc1 | hc1
    · skip
      refine WL.reset (i := 6) (v := .bool false) (congrArg Value.bool hc1) ?_
      refine O.move (v := va0) rfl rfl rfl ?_
      refine O.lenS Tryd.underlying22 (H.arg ha0) rfl rfl rfl ?_
      refine O.geq rfl rfl rfl rfl ?_
      refine O.move (v := (.bool (decide (1000 ≤ ((a0.length : Nat) : Int))))) rfl rfl rfl ?_
      refine WL.cut 4 (fun f w => f 6 = (.bool false) ∧ f 14 = .bool ((decide (1000 ≤ ((a0.length : Nat) : Int))) && (decide (((a0.length : Nat) : Int) ≤ 1003))) ∧ Inv w0 w []) ?_ ?_
      · skip
        rcases bool_ft (decide (1000 ≤ ((a0.length : Nat) : Int))) with hc2 | hc2
        · skip
          refine WL.reset (i := 10) (v := .bool false) (congrArg Value.bool hc2) ?_
          refine O.skip rfl rfl ?_
          refine O.skip rfl rfl ?_
          refine O.skip rfl rfl ?_
          refine O.pick_false (v := (.bool false)) rfl rfl rfl rfl ?_
          refine WL.nil ?_
          exact ⟨rfl, congrArg Value.bool (and_f hc2), H⟩
        · skip
          refine WL.reset (i := 10) (v := .bool true) (congrArg Value.bool hc2) ?_
          refine O.move (v := va0) rfl rfl rfl ?_
          refine O.lenS Tryd.underlying22 (H.arg ha0) rfl rfl rfl ?_
          refine O.leq rfl rfl rfl rfl ?_
          refine O.pick_true (v := (.bool (decide (((a0.length : Nat) : Int) ≤ 1003)))) rfl rfl rfl rfl ?_
          refine WL.nil ?_
          exact ⟨rfl, congrArg Value.bool (and_t hc2), H⟩
      · skip
        rintro f w ⟨hf6, hf14, H⟩
        obtain ⟨u1, rfl⟩ : ∃ u1, f = (upd (upd u1 6 (.bool false)) 14 (.bool ((decide (1000 ≤ ((a0.length : Nat) : Int))) && (decide (((a0.length : Nat) : Int) ≤ 1003))))) := ⟨f, by rw [upd_self hf6, upd_self hf14]⟩
        refine O.pick_false (v := (.bool ((decide (1000 ≤ ((a0.length : Nat) : Int))) && (decide (((a0.length : Nat) : Int) ≤ 1003))))) rfl rfl rfl rfl ?_
        refine WL.nil ?_
        exact ⟨congrArg Value.bool (or_f hc1), H⟩
    · skip
      refine WL.reset (i := 6) (v := .bool true) (congrArg Value.bool hc1) ?_
      refine O.skip rfl rfl ?_
      refine O.skip rfl rfl ?_
      refine O.skip rfl rfl ?_
      refine O.skip rfl rfl ?_
      refine O.skip rfl rfl ?_
      refine O.skip rfl rfl ?_
      refine O.skip rfl rfl ?_
      refine O.skip rfl rfl ?_
      refine O.pick_true (v := (.bool true)) rfl rfl rfl rfl ?_
      refine WL.nil ?_
      exact ⟨congrArg Value.bool (or_t hc1), H⟩
  · skip
    rintro f w ⟨hf15, H⟩
    obtain ⟨u2, rfl⟩ : ∃ u2, f = (upd u2 15 (.bool ((decide (((a0.length : Nat) : Int) ≤ 30)) || ((decide (1000 ≤ ((a0.length : Nat) : Int))) && (decide (((a0.length : Nat) : Int) ≤ 1003)))))) := ⟨f, by rw [upd_self hf15]⟩
    refine O.assign (v := (.bool ((decide (((a0.length : Nat) : Int) ≤ 30)) || ((decide (1000 ≤ ((a0.length : Nat) : Int))) && (decide (((a0.length : Nat) : Int) ≤ 1003)))))) rfl rfl rfl ?_
    refine WL.nil ?_
    refine W.ret ?_
    have hq : ((decide (((a0.length : Nat) : Int) ≤ 30)) || ((decide (1000 ≤ ((a0.length : Nat) : Int))) && (decide (((a0.length : Nat) : Int) ≤ 1003)))) = r0 := Option.some.inj (show some ((decide (((a0.length : Nat) : Int) ≤ 30)) || ((decide (1000 ≤ ((a0.length : Nat) : Int))) && (decide (((a0.length : Nat) : Int) ≤ 1003)))) = some r0 from hm)
    subst hq
    exact ends1 Tryd.results5 rfl ⟨_, rfl, H.base, rfl⟩

theorem c_ledger_page_off {w0 : World} (va0 : Value) (a0 : (List (GKey × Int))) (ha0 : MapR w0 va0 a0) (a1 : Int) {r0 : Int} {r1 : Bool} (hm : ledger_page_off a0 a1 = some (r0, r1)) :
    Calls Tryd.prog 35 #[va0, (.int .i64 a1)] w0 (Ret w0 fun _ v => v = .tuple #[(.int .i64 r0), (.bool r1)]) := by
  unfold ledger_page_off at hm
  refine calls_of_W Tryd.func35 rfl Tryd.ntmps35 (Nat.le_of_ble_eq_true rfl) ?_
  have H := Inv.start (w := w0)
  refine W.seq ?_
  refine W.region ?_
  refine O.assign (v := (.int .i64 0)) rfl rfl rfl ?_
  refine O.assign (v := (.bool false)) rfl rfl rfl ?_
  refine WL.nil ?_
  refine W.seq ?_
  refine W.region ?_
  refine O.move (v := va0) rfl rfl rfl ?_
  refine O.move (v := (.int .i64 a1)) rfl rfl rfl ?_
  refine O.build (v := (.agg (Flat.cells (GKey.mk a1 false)).toArray)) (fun w => bd69_0_1 _ _ w) rfl rfl rfl ?_
  refine O.lookup2 (z := 0) (GKey.mk a1 false) Tryd.underlying63 key69 ze3 (H.argM ha0) rfl rfl rfl rfl ?_
  refine O.move (v := (.tuple #[(.int .i64 ((mget a0 (GKey.mk a1 false)).getD 0)), (.bool (mget a0 (GKey.mk a1 false)).isSome)])) rfl rfl rfl ?_
  refine O.extract (v := (.int .i64 ((mget a0 (GKey.mk a1 false)).getD 0))) rfl rfl rfl rfl ?_
  refine O.extract (v := (.bool (mget a0 (GKey.mk a1 false)).isSome)) rfl rfl rfl rfl ?_
  refine O.assign (v := (.int .i64 ((mget a0 (GKey.mk a1 false)).getD 0))) rfl rfl rfl ?_
  refine O.assign (v := (.bool (mget a0 (GKey.mk a1 false)).isSome)) rfl rfl rfl ?_
  refine WL.nil ?_
  refine W.seq ?_
  refine W.region ?_
  refine O.move (v := va0) rfl rfl rfl ?_
  refine O.move (v := (.int .i64 a1)) rfl rfl rfl ?_
  refine O.build (v := (.agg (Flat.cells (GKey.mk a1 true)).toArray)) (fun w => bd69_0_1 _ _ w) rfl rfl rfl ?_
  refine O.lookup2 (z := 0) (GKey.mk a1 true) Tryd.underlying63 key69 ze3 (H.argM ha0) rfl rfl rfl rfl ?_
  refine O.move (v := (.tuple #[(.int .i64 ((mget a0 (GKey.mk a1 true)).getD 0)), (.bool (mget a0 (GKey.mk a1 true)).isSome)])) rfl rfl rfl ?_
  refine O.extract (v := (.int .i64 ((mget a0 (GKey.mk a1 true)).getD 0))) rfl rfl rfl rfl ?_
  refine O.extract (v := (.bool (mget a0 (GKey.mk a1 true)).isSome)) rfl rfl rfl rfl ?_
  refine O.assign (v := (.int .i64 ((mget a0 (GKey.mk a1 true)).getD 0))) rfl rfl rfl ?_
  refine O.assign (v := (.bool (mget a0 (GKey.mk a1 true)).isSome)) rfl rfl rfl ?_
  refine WL.nil ?_
  refine W.seq ?_
  refine W.region ?_
  refine O.move (v := (.int .i64 ((mget a0 (GKey.mk a1 true)).getD 0))) rfl rfl rfl ?_
  refine O.move (v := (.int .i64 ((mget a0 (GKey.mk a1 false)).getD 0))) rfl rfl rfl ?_
  obtain ⟨t1, ht1, hm⟩ := bind_some hm
  refine O.sub rfl rfl rfl rfl ht1 ?_
  refine O.move (v := (.bool (mget a0 (GKey.mk a1 false)).isSome)) rfl rfl rfl ?_
  refine O.move (v := (.bool (mget a0 (GKey.mk a1 false)).isSome)) rfl rfl rfl ?_
  refine WL.cut 2 (fun f w => f 26 = (.int .i64 t1) ∧ f 30 = .bool ((mget a0 (GKey.mk a1 false)).isSome && (mget a0 (GKey.mk a1 true)).isSome) ∧ Inv w0 w []) ?_ ?_
  · skip
    rcases bool_ft (mget a0 (GKey.mk a1 false)).isSome with hc1 | hc1
    · skip
      refine WL.reset (i := 28) (v := .bool false) (congrArg Value.bool hc1) ?_
      refine O.skip rfl rfl ?_
      refine O.pick_false (v := (.bool false)) rfl rfl rfl rfl ?_
      refine WL.nil ?_
      exact ⟨rfl, congrArg Value.bool (and_f hc1), H⟩
    · skip
      refine WL.reset (i := 28) (v := .bool true) (congrArg Value.bool hc1) ?_
      refine O.move (v := (.bool (mget a0 (GKey.mk a1 true)).isSome)) rfl rfl rfl ?_
      refine O.pick_true (v := (.bool (mget a0 (GKey.mk a1 true)).isSome)) rfl rfl rfl rfl ?_
      refine WL.nil ?_
      exact ⟨rfl, congrArg Value.bool (and_t hc1), H⟩
  · skip
    rintro f w ⟨hf26, hf30, H⟩
    obtain ⟨u1, rfl⟩ : ∃ u1, f = (upd (upd u1 26 (.int .i64 t1)) 30 (.bool ((mget a0 (GKey.mk a1 false)).isSome && (mget a0 (GKey.mk a1 true)).isSome))) := ⟨f, by rw [upd_self hf26, upd_self hf30]⟩
    refine O.assign (v := (.int .i64 t1)) rfl rfl rfl ?_
    refine O.assign (v := (.bool ((mget a0 (GKey.mk a1 false)).isSome && (mget a0 (GKey.mk a1 true)).isSome))) rfl rfl rfl ?_
    refine WL.nil ?_
    refine W.ret ?_
    have hq : (t1, ((mget a0 (GKey.mk a1 false)).isSome && (mget a0 (GKey.mk a1 true)).isSome)) = (r0, r1) := Option.some.inj (show some (t1, ((mget a0 (GKey.mk a1 false)).isSome && (mget a0 (GKey.mk a1 true)).isSome)) = some (r0, r1) from hm)
    obtain ⟨he0, hq0⟩ := Prod.mk.inj hq; clear hq; subst he0
    subst hq0
    exact ends2 Tryd.results35 rfl rfl ⟨_, rfl, H.base, rfl⟩

theorem c_ledger_Off_c1 {w0 : World} (va0 : Value) (a0 : (List (GKey × Int))) (ha0 : MapR w0 va0 a0) (pc0 : Addr) (c0 : Int) (hc0 : ∀ j c, (Flat.cells c0)[j]? = some c → w0.cell? (pc0.add j) = some c) {r0 : Int} {r1 : Bool} (hm : ledger_Off_c1 a0 c0 = some (r0, r1)) :
    Calls Tryd.prog 34 #[va0, (.pointer (some pc0))] w0 (Ret w0 fun _ v => v = .tuple #[(.int .i64 r0), (.bool r1)]) := by
  unfold ledger_Off_c1 at hm
  refine calls_of_W Tryd.func34 rfl Tryd.ntmps34 (Nat.le_of_ble_eq_true rfl) ?_
  have H := Inv.start (w := w0)
  refine W.seq ?_
  refine W.region ?_
  refine O.assign (v := (.int .i64 0)) rfl rfl rfl ?_
  refine O.assign (v := (.bool false)) rfl rfl rfl ?_
  refine WL.nil ?_
  refine W.seq ?_
  refine W.region ?_
  refine O.move (v := va0) rfl rfl rfl ?_
  refine O.load sc3 rfl rfl rfl (cells_mono hc0 H.base 0 _ rfl) ?_
  obtain ⟨⟨t1, t2⟩, hy1, hm⟩ := bind_some hm
  refine O.call Tryd.call35 rfl rfl rfl (c_ledger_page_off _ _ (H.argM ha0) _ hy1) ?_
  rintro _ w1 hb1 rfl
  have H := H.ext hb1
  refine O.extract (v := (.int .i64 t1)) rfl rfl rfl rfl ?_
  refine O.extract (v := (.bool t2)) rfl rfl rfl rfl ?_
  refine O.assign (v := (.int .i64 t1)) rfl rfl rfl ?_
  refine O.assign (v := (.bool t2)) rfl rfl rfl ?_
  refine WL.nil ?_
  refine W.ret ?_
  have hq : (t1, t2) = (r0, r1) := Option.some.inj (show some (t1, t2) = some (r0, r1) from hm)
  obtain ⟨he0, hq0⟩ := Prod.mk.inj hq; clear hq; subst he0
  subst hq0
  exact ends2 Tryd.results34 rfl rfl ⟨_, rfl, H.base, rfl⟩

theorem c_slices_IndexFunc_Entry {w0 : World} (va0 : Value) (a0 : (List GEntry)) (ha0 : SliceR w0 va0 a0) (va1 : Value) (a1 : GEntry → Option (Bool)) (ha1 : ∀ (w : World), Below w0.heap.size w0 w → ∀ (x0 : GEntry) (y0 : Bool), a1 x0 = some y0 → CallsV Tryd.prog va1 #[(.agg (Flat.cells x0).toArray)] w (Ret w fun _ v => v = (.bool y0))) {r0 : Int} (hm : slices_IndexFunc_Entry a0 a1 = some r0) :
    Calls Tryd.prog 45 #[va0, va1] w0 (Ret w0 fun _ v => v = (.int .i64 r0)) := by
  unfold slices_IndexFunc_Entry at hm
  refine calls_of_W Tryd.func45 rfl Tryd.ntmps45 (Nat.le_of_ble_eq_true rfl) ?_
  have H := Inv.start (w := w0)
  refine W.seq ?_
  refine W.region ?_
  refine O.assign (v := (.int .i64 0)) rfl rfl rfl ?_
  refine WL.nil ?_
  refine W.seq ?_
  refine W.seq ?_
  refine W.region ?_
  refine O.move (v := va0) rfl rfl rfl ?_
  refine O.lenS Tryd.underlying22 (H.arg ha0) rfl rfl rfl ?_
  refine O.move (v := (.int .i64 0)) rfl rfl rfl ?_
  refine WL.nil ?_
  obtain ⟨o1, hm1, hm⟩ := bind_some hm
  refine W.via (fun f w => o1 = .next () ∧ Inv w0 w []) ?_ ?_
  · skip
    refine W.block ?_
    have hbdik1 := (H.arg ha0).len_le
    refine W.rangeN (i := 0) hm1 (fun rem ik1 s f w => () = s ∧ (ik1 : Int) + rem = max 0 ((a0.length : Nat) : Int) ∧ f 8 = .int .i64 (ik1 : Int) ∧ f 7 = (.int .i64 ((a0.length : Nat) : Int)) ∧ f 0 = va0 ∧ f 1 = va1 ∧ Inv w0 w []) ?_ ?_ ?_
    · skip
      exact ⟨rfl, rangeN_start, rfl, rfl, rfl, rfl, H⟩
    · skip
      rintro k ik1 _ st f w ⟨rfl, hdropk1, hf8, hf7, hf0, hf1, H⟩ hm2
      have hltk1 := rangeN_lt hdropk1
      obtain ⟨u1, rfl⟩ : ∃ u1, f = (upd (upd (upd (upd u1 8 (.int .i64 (ik1 : Int))) 7 (.int .i64 ((a0.length : Nat) : Int))) 0 va0) 1 va1) := ⟨f, by rw [upd_self hf8, upd_self hf7, upd_self hf0, upd_self hf1]⟩
      have hinck1 := addI_lt hltk1 hbdik1
      refine W.seq ?_
      refine W.region ?_
      refine O.lss rfl rfl rfl rfl ?_
      refine WL.nil ?_
      refine W.seq ?_
      refine W.cond_true (congrArg Value.bool (decide_eq_true hltk1)) ?_
      refine W.skip ?_
      refine W.seq ?_
      refine W.block ?_
      refine W.seq ?_
      refine W.region ?_
      refine O.move (v := (.int .i64 (ik1 : Int))) rfl rfl rfl ?_
      refine O.assign (v := (.int .i64 (ik1 : Int))) rfl rfl rfl ?_
      refine WL.nil ?_
      refine W.seq ?_
      refine W.region ?_
      refine O.move (v := va1) rfl rfl rfl ?_
      refine O.move (v := va0) rfl rfl rfl ?_
      refine O.move (v := (.int .i64 (ik1 : Int))) rfl rfl rfl ?_
      obtain ⟨x1, hx1, hm2⟩ := bind_some hm2
      obtain ⟨p1, hp1, hrp1⟩ := fix_indexAddr Tryd.underlying22 sz34 ha0 hx1
      refine hrp1 rfl rfl rfl rfl ?_
      refine O.loadA [(.int .i64 x1.Day), (.bool x1.Found), (.int .i64 x1.Error)] ag34 rfl rfl rfl rfl ((hp1.mono H.base).flat) ?_
      obtain ⟨t1, hy1, hm2⟩ := bind_some hm2
      refine O.callV rfl rfl rfl rfl (ha1 _ H.base x1 _ hy1) ?_
      rintro _ w1 hb1 rfl
      have H := H.ext hb1
      refine WL.nil ?_
      rcases ite_some hm2 with ⟨hc1, hm2⟩ | ⟨hc1, hm2⟩
      · refine W.cond_true (congrArg Value.bool hc1) ?_
        refine W.seq ?_
        refine W.region ?_
        refine O.move (v := (.int .i64 (ik1 : Int))) rfl rfl rfl ?_
        refine O.assign (v := (.int .i64 (ik1 : Int))) rfl rfl rfl ?_
        refine WL.nil ?_
        refine W.ret ?_
        obtain rfl := Option.some.inj hm2
        refine ⟨_, rfl, ?_⟩
        rintro rfl
        have hq : (ik1 : Int) = r0 := Option.some.inj (show some (ik1 : Int) = some r0 from hm)
        subst hq
        exact ends1 Tryd.results45 rfl ⟨_, rfl, H.base, rfl⟩
      · refine W.cond_false (congrArg Value.bool hc1) ?_
        refine W.skip ?_
        refine W.region ?_
        refine O.add rfl rfl rfl rfl hinck1 ?_
        refine O.move (v := .int .i64 ((ik1 : Int) + 1)) rfl rfl rfl ?_
        refine WL.nil ?_
        obtain rfl := Option.some.inj hm2
        exact ⟨_, rfl, rfl, rangeN_next hdropk1, rfl, rfl, rfl, rfl, H⟩
    · skip
      rintro ik1 _ f w ⟨rfl, hdropk1, hf8, hf7, hf0, hf1, H⟩ hfin
      have hltk1 := rangeN_end hdropk1
      obtain ⟨u2, rfl⟩ : ∃ u2, f = (upd (upd (upd (upd u2 8 (.int .i64 (ik1 : Int))) 7 (.int .i64 ((a0.length : Nat) : Int))) 0 va0) 1 va1) := ⟨f, by rw [upd_self hf8, upd_self hf7, upd_self hf0, upd_self hf1]⟩
      refine W.seq ?_
      refine W.region ?_
      refine O.lss rfl rfl rfl rfl ?_
      refine WL.nil ?_
      refine W.seq ?_
      refine W.cond_false (congrArg Value.bool (decide_eq_false hltk1)) ?_
      refine W.exit ?_
      obtain rfl : Ctl.next () = o1 := hfin
      refine xT rfl ?_
      exact ⟨rfl, H⟩
  · skip
    rintro f w ⟨rfl, H⟩
    refine W.seq ?_
    refine W.region ?_
    refine O.assign (v := (.int .i64 (-1))) rfl rfl rfl ?_
    refine WL.nil ?_
    refine W.ret ?_
    have hq : (-1) = r0 := Option.some.inj (show some (-1) = some r0 from hm)
    subst hq
    exact ends1 Tryd.results45 rfl ⟨_, rfl, H.base, rfl⟩

theorem c_slices_ContainsFunc_Entry {w0 : World} (va0 : Value) (a0 : (List GEntry)) (ha0 : SliceR w0 va0 a0) (va1 : Value) (a1 : GEntry → Option (Bool)) (ha1 : ∀ (w : World), Below w0.heap.size w0 w → ∀ (x0 : GEntry) (y0 : Bool), a1 x0 = some y0 → CallsV Tryd.prog va1 #[(.agg (Flat.cells x0).toArray)] w (Ret w fun _ v => v = (.bool y0))) {r0 : Bool} (hm : slices_ContainsFunc_Entry a0 a1 = some r0) :
    Calls Tryd.prog 30 #[va0, va1] w0 (Ret w0 fun _ v => v = (.bool r0)) := by
  unfold slices_ContainsFunc_Entry at hm
  refine calls_of_W Tryd.func30 rfl Tryd.ntmps30 (Nat.le_of_ble_eq_true rfl) ?_
  have H := Inv.start (w := w0)
  refine W.seq ?_
  refine W.region ?_
  refine O.assign (v := (.bool false)) rfl rfl rfl ?_
  refine WL.nil ?_
  refine W.seq ?_
  refine W.region ?_
  refine O.move (v := va0) rfl rfl rfl ?_
  refine O.move (v := va1) rfl rfl rfl ?_
  obtain ⟨t1, hy1, hm⟩ := bind_some hm
  refine O.call Tryd.call45 rfl rfl rfl (c_slices_IndexFunc_Entry _ _ (H.arg ha0) va1 a1 (fun w hw => ha1 w (H.base.trans (hw.mono H.base.size))) hy1) ?_
  rintro _ w1 hb1 rfl
  have H := H.ext hb1
  refine O.geq rfl rfl rfl rfl ?_
  refine O.assign (v := (.bool (decide (0 ≤ t1)))) rfl rfl rfl ?_
  refine WL.nil ?_
  refine W.ret ?_
  have hq : (decide (0 ≤ t1)) = r0 := Option.some.inj (show some (decide (0 ≤ t1)) = some r0 from hm)
  subst hq
  exact ends1 Tryd.results30 rfl ⟨_, rfl, H.base, rfl⟩

theorem c_ledger_within {w0 : World} (a0 : Int) (a1 : Int) (a2 : Int) {r0 : Bool} (hm : ledger_within a0 a1 a2 = some r0) :
    Calls Tryd.prog 46 #[(.int .i64 a0), (.int .i64 a1), (.int .i64 a2)] w0 (Ret w0 fun _ v => v = (.bool r0)) := by
  unfold ledger_within at hm
  refine calls_of_W Tryd.func46 rfl Tryd.ntmps46 (Nat.le_of_ble_eq_true rfl) ?_
  have H := Inv.start (w := w0)
  refine W.seq ?_
  refine W.region ?_
  refine O.assign (v := (.bool false)) rfl rfl rfl ?_
  refine WL.nil ?_
  refine W.seq ?_
  refine W.region ?_
  refine O.move (v := (.int .i64 a0)) rfl rfl rfl ?_
  refine O.move (v := (.int .i64 a1)) rfl rfl rfl ?_
  refine O.geq rfl rfl rfl rfl ?_
  refine O.move (v := (.bool (decide (a1 ≤ a0)))) rfl rfl rfl ?_
  refine WL.cut 4 (fun f w => f 14 = .bool ((decide (a1 ≤ a0)) && (decide (a0 ≤ a2))) ∧ Inv w0 w []) ?_ ?_
  · skip
    rcases bool_ft (decide (a1 ≤ a0)) with hc1 | hc1
    · skip
      refine WL.reset (i := 10) (v := .bool false) (congrArg Value.bool hc1) ?_
      refine O.skip rfl rfl ?_
      refine O.skip rfl rfl ?_
      refine O.skip rfl rfl ?_
      refine O.pick_false (v := (.bool false)) rfl rfl rfl rfl ?_
      refine WL.nil ?_
      exact ⟨congrArg Value.bool (and_f hc1), H⟩
    · skip
      refine WL.reset (i := 10) (v := .bool true) (congrArg Value.bool hc1) ?_
      refine O.move (v := (.int .i64 a0)) rfl rfl rfl ?_
      refine O.move (v := (.int .i64 a2)) rfl rfl rfl ?_
      refine O.leq rfl rfl rfl rfl ?_
      refine O.pick_true (v := (.bool (decide (a0 ≤ a2)))) rfl rfl rfl rfl ?_
      refine WL.nil ?_
      exact ⟨congrArg Value.bool (and_t hc1), H⟩
  · skip
    rintro f w ⟨hf14, H⟩
    obtain ⟨u1, rfl⟩ : ∃ u1, f = (upd u1 14 (.bool ((decide (a1 ≤ a0)) && (decide (a0 ≤ a2))))) := ⟨f, by rw [upd_self hf14]⟩
    refine O.assign (v := (.bool ((decide (a1 ≤ a0)) && (decide (a0 ≤ a2))))) rfl rfl rfl ?_
    refine WL.nil ?_
    refine W.ret ?_
    have hq : ((decide (a1 ≤ a0)) && (decide (a0 ≤ a2))) = r0 := Option.some.inj (show some ((decide (a1 ≤ a0)) && (decide (a0 ≤ a2))) = some r0 from hm)
    subst hq
    exact ends1 Tryd.results46 rfl ⟨_, rfl, H.base, rfl⟩

theorem c_ledger_fine {w0 : World} (a0 : GEntry) {r0 : Bool} (hm : ledger_fine a0 = some r0) :
    Calls Tryd.prog 32 #[(.agg (Flat.cells a0).toArray)] w0 (Ret w0 fun _ v => v = (.bool r0)) := by
  unfold ledger_fine at hm
  refine calls_of_W Tryd.func32 rfl Tryd.ntmps32 (Nat.le_of_ble_eq_true rfl) ?_
  have H := Inv.start (w := w0)
  refine W.seq ?_
  refine W.region ?_
  refine O.box [(.int .i64 a0.Day), (.bool a0.Found), (.int .i64 a0.Error)] H rfl rfl rfl rfl ?_
  intro b1 w1 H hb1
  refine O.assign (v := (.bool false)) rfl rfl rfl ?_
  refine WL.nil ?_
  refine W.seq ?_
  refine W.region ?_
  refine O.fieldAddr fd34_0 rfl rfl rfl ?_
  refine O.load sc3 rfl rfl rfl (H.cell 0 rfl 0 _ rfl) ?_
  obtain ⟨t1, hy1, hm⟩ := bind_some hm
  refine O.call Tryd.call46 rfl rfl rfl (c_ledger_within _ _ _ hy1) ?_
  rintro _ w2 hb2 rfl
  have H := H.ext hb2
  refine O.move (v := (.bool t1)) rfl rfl rfl ?_
  obtain ⟨b2, hm1, hm⟩ := bind_some hm
  refine WL.cut 4 (fun f w => f 10 = .bool b2 ∧ Inv w0 w [boxI b1 34 [(.int .i64 a0.Day), (.bool a0.Found), (.int .i64 a0.Error)]]) ?_ ?_
  · skip
    rcases ite_some hm1 with ⟨hc1, hm1⟩ | ⟨hc1, hm1⟩
    · skip
      refine WL.reset (i := 6) (v := .bool true) (congrArg Value.bool hc1) ?_
      refine O.fieldAddr fd34_2 rfl rfl rfl ?_
      refine O.load sc3 rfl rfl rfl (H.cell 0 rfl 2 _ rfl) ?_
      obtain ⟨t2, hy2, hm1⟩ := bind_some hm1
      refine O.call Tryd.call46 rfl rfl rfl (c_ledger_within _ _ _ hy2) ?_
      rintro _ w3 hb3 rfl
      have H := H.ext hb3
      refine O.pick_true (v := (.bool t2)) rfl rfl rfl rfl ?_
      refine WL.nil ?_
      have hq : t2 = b2 := Option.some.inj (show some t2 = some b2 from hm1)
      subst hq
      exact ⟨rfl, H⟩
    · skip
      refine WL.reset (i := 6) (v := .bool false) (congrArg Value.bool hc1) ?_
      refine O.skip rfl rfl ?_
      refine O.skip rfl rfl ?_
      refine O.skip rfl rfl ?_
      refine O.pick_false (v := (.bool false)) rfl rfl rfl rfl ?_
      refine WL.nil ?_
      have hq : false = b2 := Option.some.inj (show some false = some b2 from hm1)
      subst hq
      exact ⟨rfl, H⟩
  · skip
    rintro f w ⟨hf10, H⟩
    obtain ⟨u1, rfl⟩ : ∃ u1, f = (upd u1 10 (.bool b2)) := ⟨f, by rw [upd_self hf10]⟩
    refine O.assign (v := (.bool b2)) rfl rfl rfl ?_
    refine WL.nil ?_
    refine W.ret ?_
    have hq : b2 = r0 := Option.some.inj (show some b2 = some r0 from hm)
    subst hq
    exact ends1 Tryd.results32 rfl ⟨_, rfl, H.base, rfl⟩

theorem c_ledger_Valid_c1 {w0 : World} (a0 : GEntry) {r0 : Bool} (hm : ledger_Valid_c1 a0 = some r0) :
    Calls Tryd.prog 31 #[(.agg (Flat.cells a0).toArray)] w0 (Ret w0 fun _ v => v = (.bool r0)) := by
  unfold ledger_Valid_c1 at hm
  refine calls_of_W Tryd.func31 rfl Tryd.ntmps31 (Nat.le_of_ble_eq_true rfl) ?_
  have H := Inv.start (w := w0)
  refine W.seq ?_
  refine W.region ?_
  refine O.box [(.int .i64 a0.Day), (.bool a0.Found), (.int .i64 a0.Error)] H rfl rfl rfl rfl ?_
  intro b1 w1 H hb1
  refine O.assign (v := (.bool false)) rfl rfl rfl ?_
  refine WL.nil ?_
  refine W.seq ?_
  refine W.region ?_
  refine O.loadA [(.int .i64 a0.Day), (.bool a0.Found), (.int .i64 a0.Error)] ag34 rfl rfl rfl rfl (H.cell 0 rfl) ?_
  obtain ⟨t1, hy1, hm⟩ := bind_some hm
  refine O.call Tryd.call32 rfl rfl rfl (c_ledger_fine a0 hy1) ?_
  rintro _ w2 hb2 rfl
  have H := H.ext hb2
  refine O.not rfl rfl rfl ?_
  refine O.assign (v := (.bool (!t1))) rfl rfl rfl ?_
  refine WL.nil ?_
  refine W.ret ?_
  have hq : (!t1) = r0 := Option.some.inj (show some (!t1) = some r0 from hm)
  subst hq
  exact ends1 Tryd.results31 rfl ⟨_, rfl, H.base, rfl⟩

theorem c_ledger_Valid {w0 : World} (va0 : Value) (a0 : (List GEntry)) (ha0 : SliceR w0 va0 a0) {r0 : Bool} (hm : ledger_Valid a0 = some r0) :
    Calls Tryd.prog 14 #[va0] w0 (Ret w0 fun _ v => v = (.bool r0)) := by
  unfold ledger_Valid at hm
  refine calls_of_W Tryd.func14 rfl Tryd.ntmps14 (Nat.le_of_ble_eq_true rfl) ?_
  have H := Inv.start (w := w0)
  refine W.seq ?_
  refine W.region ?_
  refine O.assign (v := (.bool false)) rfl rfl rfl ?_
  refine WL.nil ?_
  refine W.seq ?_
  refine W.region ?_
  refine O.move (v := va0) rfl rfl rfl ?_
  refine O.lenS Tryd.underlying22 (H.arg ha0) rfl rfl rfl ?_
  refine O.leq rfl rfl rfl rfl ?_
  refine O.move (v := (.bool (decide (((a0.length : Nat) : Int) ≤ 1000)))) rfl rfl rfl ?_
  obtain ⟨b1, hm1, hm⟩ := bind_some hm
  refine WL.cut 4 (fun f w => f 10 = .bool b1 ∧ Inv w0 w []) ?_ ?_
  · skip
    rcases ite_some hm1 with ⟨hc1, hm1⟩ | ⟨hc1, hm1⟩
    · skip
      refine WL.reset (i := 6) (v := .bool true) (congrArg Value.bool hc1) ?_
      refine O.move (v := va0) rfl rfl rfl ?_
      obtain ⟨t1, hy1, hm1⟩ := bind_some hm1
      refine O.call Tryd.call30 rfl rfl rfl (c_slices_ContainsFunc_Entry _ _ (H.arg ha0) _ (fun x0 => ledger_Valid_c1 x0) (fun w hw x0 _ hy => callsV_mk Tryd.call31 (c_ledger_Valid_c1 x0 hy)) hy1) ?_
      rintro _ w1 hb1 rfl
      have H := H.ext hb1
      refine O.not rfl rfl rfl ?_
      refine O.pick_true (v := (.bool (!t1))) rfl rfl rfl rfl ?_
      refine WL.nil ?_
      have hq : (!t1) = b1 := Option.some.inj (show some (!t1) = some b1 from hm1)
      subst hq
      exact ⟨rfl, H⟩
    · skip
      refine WL.reset (i := 6) (v := .bool false) (congrArg Value.bool hc1) ?_
      refine O.skip rfl rfl ?_
      refine O.skip rfl rfl ?_
      refine O.skip rfl rfl ?_
      refine O.pick_false (v := (.bool false)) rfl rfl rfl rfl ?_
      refine WL.nil ?_
      have hq : false = b1 := Option.some.inj (show some false = some b1 from hm1)
      subst hq
      exact ⟨rfl, H⟩
  · skip
    rintro f w ⟨hf10, H⟩
    obtain ⟨u1, rfl⟩ : ∃ u1, f = (upd u1 10 (.bool b1)) := ⟨f, by rw [upd_self hf10]⟩
    refine O.assign (v := (.bool b1)) rfl rfl rfl ?_
    refine WL.nil ?_
    refine W.ret ?_
    have hq : b1 = r0 := Option.some.inj (show some b1 = some r0 from hm)
    subst hq
    exact ends1 Tryd.results14 rfl ⟨_, rfl, H.base, rfl⟩

theorem c_ledger_isDay {w0 : World} (a0 : Int) {r0 : Bool} (hm : ledger_isDay a0 = some r0) :
    Calls Tryd.prog 47 #[(.int .i64 a0)] w0 (Ret w0 fun _ v => v = (.bool r0)) := by
  unfold ledger_isDay at hm
  refine calls_of_W Tryd.func47 rfl Tryd.ntmps47 (Nat.le_of_ble_eq_true rfl) ?_
  have H := Inv.start (w := w0)
  refine W.seq ?_
  refine W.region ?_
  refine O.assign (v := (.bool false)) rfl rfl rfl ?_
  refine WL.nil ?_
  refine W.seq ?_
  refine W.region ?_
  refine O.move (v := (.int .i64 a0)) rfl rfl rfl ?_
  obtain ⟨t1, hy1, hm⟩ := bind_some hm
  refine O.call Tryd.call46 rfl rfl rfl (c_ledger_within _ _ _ hy1) ?_
  rintro _ w1 hb1 rfl
  have H := H.ext hb1
  refine O.assign (v := (.bool t1)) rfl rfl rfl ?_
  refine WL.nil ?_
  refine W.ret ?_
  have hq : t1 = r0 := Option.some.inj (show some t1 = some r0 from hm)
  subst hq
  exact ends1 Tryd.results47 rfl ⟨_, rfl, H.base, rfl⟩

theorem c_ledger_of {w0 : World} (a0 : GEntry) {r0 : GKey} (hm : ledger_of a0 = some r0) :
    Calls Tryd.prog 36 #[(.agg (Flat.cells a0).toArray)] w0 (Ret w0 fun _ v => v = (.agg (Flat.cells r0).toArray)) := by
  unfold ledger_of at hm
  refine calls_of_W Tryd.func36 rfl Tryd.ntmps36 (Nat.le_of_ble_eq_true rfl) ?_
  have H := Inv.start (w := w0)
  refine W.seq ?_
  refine W.region ?_
  refine O.box [(.int .i64 a0.Day), (.bool a0.Found), (.int .i64 a0.Error)] H rfl rfl rfl rfl ?_
  intro b1 w1 H hb1
  refine O.alloc [(.int .i64 0), (.bool false)] ze69 H rfl rfl rfl ?_
  intro b2 w2 H hb2
  refine WL.nil ?_
  refine W.seq ?_
  refine W.region ?_
  refine O.fieldAddr fd34_0 rfl rfl rfl ?_
  refine O.load sc3 rfl rfl rfl (H.cell 0 rfl 0 _ rfl) ?_
  refine O.fieldAddr fd34_1 rfl rfl rfl ?_
  refine O.load sc4 rfl rfl rfl (H.cell 0 rfl 1 _ rfl) ?_
  refine O.build (v := (.agg (Flat.cells (GKey.mk a0.Day a0.Found)).toArray)) (fun w => bd69_0_1 _ _ w) rfl rfl rfl ?_
  refine O.store 1 0 [(.int .i64 a0.Day), (.bool a0.Found)] [(.int .i64 a0.Day), (.bool a0.Found)] sz69 H rfl rfl rfl rfl rfl rfl ⟨⟨rfl, rfl⟩, rfl⟩ (one_cons rfl (one_cons rfl one_nil)) ?_
  intro w3 H
  refine WL.nil ?_
  refine W.ret ?_
  have hq : (GKey.mk a0.Day a0.Found) = r0 := Option.some.inj (show some (GKey.mk a0.Day a0.Found) = some r0 from hm)
  subst hq
  exact ends1 Tryd.results36 ⟨_, rfl, run_loadVar_agg ag69 rfl (H.cell 1 rfl)⟩ ⟨_, rfl, H.base, rfl⟩

theorem c_ledger_pageOf {w0 : World} (va0 : Value) (a0 : (List GEntry)) (ha0 : SliceR w0 va0 a0) {r0 : (List (GKey × Int))} (hm : ledger_pageOf a0 = some r0) :
    Calls Tryd.prog 48 #[va0] w0 (Ret w0 fun w v => OwnM w0 w v r0) := by
  unfold ledger_pageOf at hm
  refine calls_of_W Tryd.func48 rfl Tryd.ntmps48 (Nat.le_of_ble_eq_true rfl) ?_
  have H := Inv.start (w := w0)
  refine W.seq ?_
  refine W.region ?_
  refine O.assign (v := (.map none)) rfl rfl rfl ?_
  refine WL.nil ?_
  refine W.seq ?_
  refine W.region ?_
  refine O.makeMap (α := GKey) (β := Int) H rfl rfl ?_
  intro m1 w1 H hb1
  refine O.assign (v := (.map (some m1))) rfl rfl rfl ?_
  refine WL.nil ?_
  refine W.seq ?_
  refine W.seq ?_
  refine W.region ?_
  refine O.move (v := va0) rfl rfl rfl ?_
  refine O.lenS Tryd.underlying22 (H.arg ha0) rfl rfl rfl ?_
  refine O.move (v := (.int .i64 0)) rfl rfl rfl ?_
  refine WL.nil ?_
  obtain ⟨s1, hm1, hm⟩ := bind_some hm
  refine W.via (fun f w => f 3 = (.map (some m1)) ∧ Inv w0 w [mapI (K := GKey) (V := Int) m1 s1]) ?_ ?_
  · skip
    refine W.block ?_
    refine W.rangeL (i := 0) hm1 (fun rem ik1 s f w => ∃ z2 : (List (GKey × Int)), z2 = s ∧ a0.drop ik1 = rem ∧ f 9 = .int .i64 (ik1 : Int) ∧ f 8 = (.int .i64 ((a0.length : Nat) : Int)) ∧ f 3 = (.map (some m1)) ∧ f 7 = va0 ∧ Inv w0 w [mapI (K := GKey) (V := Int) m1 z2]) ?_ ?_ ?_
    · skip
      exact ⟨_, rfl, List.drop_zero, rfl, rfl, rfl, rfl, H⟩
    · skip
      rintro yk1 xs ik1 _ st f w ⟨z2, rfl, hdropk1, hf9, hf8, hf3, hf7, H⟩ hm2
      have hltk1 := drop_lt hdropk1; have hixk1 := drop_idx hdropk1
      obtain ⟨u1, rfl⟩ : ∃ u1, f = (upd (upd (upd (upd u1 9 (.int .i64 (ik1 : Int))) 8 (.int .i64 ((a0.length : Nat) : Int))) 3 (.map (some m1))) 7 va0) := ⟨f, by rw [upd_self hf9, upd_self hf8, upd_self hf3, upd_self hf7]⟩
      have hinck1 := addI_lt hltk1 (H.arg ha0).len_le
      refine W.seq ?_
      refine W.region ?_
      refine O.lss rfl rfl rfl rfl ?_
      refine WL.nil ?_
      refine W.seq ?_
      refine W.cond_true (congrArg Value.bool (decide_eq_true hltk1)) ?_
      refine W.skip ?_
      refine W.seq ?_
      refine W.block ?_
      refine W.seq ?_
      refine W.region ?_
      obtain ⟨p1, hp1, hrp1⟩ := fix_indexAddr Tryd.underlying22 sz34 ha0 hixk1
      refine hrp1 rfl rfl rfl rfl ?_
      refine O.loadA [(.int .i64 yk1.Day), (.bool yk1.Found), (.int .i64 yk1.Error)] ag34 rfl rfl rfl rfl ((hp1.mono H.base).flat) ?_
      refine O.alloc [(.int .i64 0), (.bool false), (.int .i64 0)] ze34 H rfl rfl rfl ?_
      intro b1 w2 H hb2
      refine O.store 1 0 [(.int .i64 yk1.Day), (.bool yk1.Found), (.int .i64 yk1.Error)] [(.int .i64 yk1.Day), (.bool yk1.Found), (.int .i64 yk1.Error)] sz34 H rfl rfl rfl rfl rfl rfl ⟨⟨rfl, rfl⟩, rfl⟩ (one_cons rfl (one_cons rfl (one_cons rfl one_nil))) ?_
      intro w3 H
      refine WL.nil ?_
      obtain ⟨t1, hy1, hm2⟩ := bind_some hm2
      refine W.drawN 5 (fun f => f 3 = (.map (some m1)) ∧ f 7 = va0 ∧ f 8 = (.int .i64 ((a0.length : Nat) : Int)) ∧ f 9 = (.int .i64 (ik1 : Int)) ∧ f 13 = (.map (some m1)) ∧ f 15 = (.agg (Flat.cells t1).toArray) ∧ f 17 = (.int .i64 yk1.Error)) fol (by kernel_rfl) ?_ ?_
      · skip
        refine PL.of (fun _ w8 _ hx => O.move (v := (.map (some m1))) rfl rfl rfl (WL.nil ⟨rfl, hx⟩)) ?_
        refine PL.of (fun _ w8 _ hx => by have H := H.ext hx; exact O.loadA [(.int .i64 yk1.Day), (.bool yk1.Found), (.int .i64 yk1.Error)] ag34 rfl rfl rfl rfl (H.cell 1 rfl) (WL.nil ⟨rfl, hx⟩)) ?_
        refine PL.of (fun _ w8 _ hx => O.call Tryd.call36 rfl rfl rfl (c_ledger_of yk1 hy1) (by rintro _ _ hb rfl; exact WL.nil ⟨rfl, hx.trans (hb.mono hx.size)⟩)) ?_
        refine PL.of (fun _ w8 _ hx => O.fieldAddr fd34_2 rfl rfl rfl (WL.nil ⟨rfl, hx⟩)) ?_
        refine PL.of (fun _ w8 _ hx => by have H := H.ext hx; exact O.load sc3 rfl rfl rfl (H.cell 1 rfl 2 _ rfl) (WL.nil ⟨rfl, hx⟩)) ?_
        refine PL.nil ?_
        exact ⟨rfl, rfl, rfl, rfl, rfl, rfl, rfl⟩
      · skip
        rintro f w ⟨hf3, hf7, hf8, hf9, hf13, hf15, hf17⟩ hmd hx
        have H := H.ext hx
        obtain ⟨u2, rfl⟩ : ∃ u2, f = (upd (upd (upd (upd (upd (upd (upd u2 3 (.map (some m1))) 7 va0) 8 (.int .i64 ((a0.length : Nat) : Int))) 9 (.int .i64 (ik1 : Int))) 13 (.map (some m1))) 15 (.agg (Flat.cells t1).toArray)) 17 (.int .i64 yk1.Error)) := ⟨f, by rw [upd_self hf3, upd_self hf7, upd_self hf8, upd_self hf9, upd_self hf13, upd_self hf15, upd_self hf17]⟩
        refine O.mapUpdate 0 t1 yk1.Error Tryd.underlying63 key69 H rfl rfl rfl rfl rfl ?_
        intro w4 H
        refine WL.nil ?_
        refine W.region ?_
        refine O.add rfl rfl rfl rfl hinck1 ?_
        refine O.move (v := .int .i64 ((ik1 : Int) + 1)) rfl rfl rfl ?_
        refine WL.nil ?_
        have H := H.keep [0] [mapI (K := GKey) (V := Int) m1 (mput z2 t1 yk1.Error)] rfl (by decide)
        obtain rfl := Option.some.inj hm2
        exact ⟨_, rfl, _, rfl, drop_next hdropk1, rfl, rfl, rfl, rfl, H⟩
    · skip
      rintro ik1 _ f w ⟨z2, rfl, hdropk1, hf9, hf8, hf3, hf7, H⟩ hfin
      have hltk1 := drop_end hdropk1
      obtain ⟨u3, rfl⟩ : ∃ u3, f = (upd (upd (upd (upd u3 9 (.int .i64 (ik1 : Int))) 8 (.int .i64 ((a0.length : Nat) : Int))) 3 (.map (some m1))) 7 va0) := ⟨f, by rw [upd_self hf9, upd_self hf8, upd_self hf3, upd_self hf7]⟩
      refine W.seq ?_
      refine W.region ?_
      refine O.lss rfl rfl rfl rfl ?_
      refine WL.nil ?_
      refine W.seq ?_
      refine W.cond_false (congrArg Value.bool (decide_eq_false hltk1)) ?_
      refine W.exit ?_
      have hq : z2 = s1 := hfin
      subst hq
      refine xT rfl ?_
      exact ⟨rfl, H⟩
  · skip
    rintro f w ⟨hf3, H⟩
    obtain ⟨u4, rfl⟩ : ∃ u4, f = (upd u4 3 (.map (some m1))) := ⟨f, by rw [upd_self hf3]⟩
    refine W.seq ?_
    refine W.region ?_
    refine O.move (v := (.map (some m1))) rfl rfl rfl ?_
    refine O.assign (v := (.map (some m1))) rfl rfl rfl ?_
    refine WL.nil ?_
    refine W.ret ?_
    have hq : s1 = r0 := Option.some.inj (show some s1 = some r0 from hm)
    subst hq
    exact ends1 Tryd.results48 rfl ⟨_, rfl, H.base, H.ownM 0 rfl⟩

theorem c_ledger_told {w0 : World} (va0 : Value) (a0 : (List GEntry)) (ha0 : SliceR w0 va0 a0) (a1 : Int) (va2 : Value) (a2 : (List (GKey × Int)) → Option (Int × Bool)) (ha2 : ∀ (w : World), Below w0.heap.size w0 w → ∀ (vx0 : Value) (x0 : (List (GKey × Int))) (_   : MapR w vx0 x0) (y0 : Int) (y1 : Bool), a2 x0 = some (y0, y1) → CallsV Tryd.prog va2 #[vx0] w (Ret w fun _ v => v = .tuple #[(.int .i64 y0), (.bool y1)])) {r0 : Int} {r1 : Int} (hm : ledger_told a0 a1 a2 = some (r0, r1)) :
    Calls Tryd.prog 33 #[va0, (.int .i64 a1), va2] w0 (Ret w0 fun _ v => v = .tuple #[(.int .i64 r0), (.int .i64 r1)]) := by
  unfold ledger_told at hm
  refine calls_of_W Tryd.func33 rfl Tryd.ntmps33 (Nat.le_of_ble_eq_true rfl) ?_
  have H := Inv.start (w := w0)
  refine W.seq ?_
  refine W.region ?_
  refine O.assign (v := (.int .i64 0)) rfl rfl rfl ?_
  refine O.assign (v := (.int .i64 0)) rfl rfl rfl ?_
  refine WL.nil ?_
  refine W.seq ?_
  refine W.block ?_
  refine W.seq ?_
  refine W.region ?_
  refine O.move (v := va0) rfl rfl rfl ?_
  obtain ⟨t1, hy1, hm⟩ := bind_some hm
  refine O.call Tryd.call14 rfl rfl rfl (c_ledger_Valid _ _ (H.arg ha0) hy1) ?_
  rintro _ w1 hb1 rfl
  have H := H.ext hb1
  refine O.not rfl rfl rfl ?_
  refine O.assign (v := (.bool (!t1))) rfl rfl rfl ?_
  refine WL.nil ?_
  rcases ite_some hm with ⟨hc1, hm⟩ | ⟨hc1, hm⟩
  · refine W.cond_true (congrArg Value.bool hc1) ?_
    refine W.seq ?_
    refine W.region ?_
    refine O.assign (v := (.int .i64 0)) rfl rfl rfl ?_
    refine O.assign (v := (.int .i64 1)) rfl rfl rfl ?_
    refine WL.nil ?_
    refine W.ret ?_
    have hq : (0, 1) = (r0, r1) := Option.some.inj (show some (0, 1) = some (r0, r1) from hm)
    obtain ⟨he0, hq0⟩ := Prod.mk.inj hq; clear hq; subst he0
    subst hq0
    exact ends2 Tryd.results33 rfl rfl ⟨_, rfl, H.base, rfl⟩
  · refine W.cond_false (congrArg Value.bool hc1) ?_
    refine W.seq ?_
    refine W.region ?_
    refine O.move (v := (.int .i64 a1)) rfl rfl rfl ?_
    obtain ⟨t2, hy2, hm⟩ := bind_some hm
    refine O.call Tryd.call47 rfl rfl rfl (c_ledger_isDay _ hy2) ?_
    rintro _ w2 hb2 rfl
    have H := H.ext hb2
    refine O.not rfl rfl rfl ?_
    refine O.assign (v := (.bool (!t2))) rfl rfl rfl ?_
    refine WL.nil ?_
    rcases ite_some hm with ⟨hc2, hm⟩ | ⟨hc2, hm⟩
    · refine W.cond_true (congrArg Value.bool hc2) ?_
      refine W.seq ?_
      refine W.region ?_
      refine O.assign (v := (.int .i64 0)) rfl rfl rfl ?_
      refine O.assign (v := (.int .i64 7)) rfl rfl rfl ?_
      refine WL.nil ?_
      refine W.ret ?_
      have hq : (0, 7) = (r0, r1) := Option.some.inj (show some (0, 7) = some (r0, r1) from hm)
      obtain ⟨he0, hq0⟩ := Prod.mk.inj hq; clear hq; subst he0
      subst hq0
      exact ends2 Tryd.results33 rfl rfl ⟨_, rfl, H.base, rfl⟩
    · refine W.cond_false (congrArg Value.bool hc2) ?_
      refine W.skip ?_
      refine W.seq ?_
      refine W.region ?_
      refine O.move (v := va2) rfl rfl rfl ?_
      refine O.move (v := va0) rfl rfl rfl ?_
      obtain ⟨t3, hy3, hm⟩ := bind_some hm
      refine O.call Tryd.call48 rfl rfl rfl (c_ledger_pageOf _ _ (H.arg ha0) hy3) ?_
      rintro _ w3 hb3 ⟨m1, rfl, ho1a, ho1b⟩
      have H := H.addMap hb3 ho1a ho1b
      obtain ⟨⟨t4, t5⟩, hy4, hm⟩ := bind_some hm
      refine O.callV rfl rfl rfl rfl (ha2 _ H.base _ _ (H.map 0 rfl) _ _ hy4) ?_
      rintro _ w4 hb4 rfl
      have H := H.ext hb4
      refine O.move (v := (.tuple #[(.int .i64 t4), (.bool t5)])) rfl rfl rfl ?_
      refine O.extract (v := (.int .i64 t4)) rfl rfl rfl rfl ?_
      refine O.extract (v := (.bool t5)) rfl rfl rfl rfl ?_
      refine O.assign (v := (.int .i64 t4)) rfl rfl rfl ?_
      refine O.assign (v := (.bool t5)) rfl rfl rfl ?_
      refine WL.nil ?_
      refine W.seq ?_
      refine W.seq ?_
      refine W.region ?_
      refine O.move (v := (.bool t5)) rfl rfl rfl ?_
      refine O.not rfl rfl rfl ?_
      refine WL.nil ?_
      rcases ite_some hm with ⟨hc3, hm⟩ | ⟨hc3, hm⟩
      · refine W.cond_true (congrArg Value.bool hc3) ?_
        refine W.seq ?_
        refine W.region ?_
        refine O.assign (v := (.int .i64 0)) rfl rfl rfl ?_
        refine O.assign (v := (.int .i64 8)) rfl rfl rfl ?_
        refine WL.nil ?_
        refine W.ret ?_
        have hq : (0, 8) = (r0, r1) := Option.some.inj (show some (0, 8) = some (r0, r1) from hm)
        obtain ⟨he0, hq0⟩ := Prod.mk.inj hq; clear hq; subst he0
        subst hq0
        exact ends2 Tryd.results33 rfl rfl ⟨_, rfl, H.base, rfl⟩
      · refine W.cond_false (congrArg Value.bool hc3) ?_
        refine W.skip ?_
        refine W.seq ?_
        refine W.region ?_
        refine O.move (v := (.int .i64 t4)) rfl rfl rfl ?_
        refine O.assign (v := (.int .i64 t4)) rfl rfl rfl ?_
        refine O.assign (v := (.int .i64 0)) rfl rfl rfl ?_
        refine WL.nil ?_
        refine W.ret ?_
        have hq : (t4, 0) = (r0, r1) := Option.some.inj (show some (t4, 0) = some (r0, r1) from hm)
        obtain ⟨he0, hq0⟩ := Prod.mk.inj hq; clear hq; subst he0
        subst hq0
        exact ends2 Tryd.results33 rfl rfl ⟨_, rfl, H.base, rfl⟩

theorem c_ledger_Off {w0 : World} (va0 : Value) (a0 : (List GEntry)) (ha0 : SliceR w0 va0 a0) (a1 : Int) {r0 : Int} {r1 : Int} (hm : ledger_Off a0 a1 = some (r0, r1)) :
    Calls Tryd.prog 15 #[va0, (.int .i64 a1)] w0 (Ret w0 fun _ v => v = .tuple #[(.int .i64 r0), (.int .i64 r1)]) := by
  unfold ledger_Off at hm
  refine calls_of_W Tryd.func15 rfl Tryd.ntmps15 (Nat.le_of_ble_eq_true rfl) ?_
  have H := Inv.start (w := w0)
  refine W.seq ?_
  refine W.region ?_
  refine O.box [(.int .i64 a1)] H rfl rfl rfl rfl ?_
  intro b1 w1 H hb1
  refine O.assign (v := (.int .i64 0)) rfl rfl rfl ?_
  refine O.assign (v := (.int .i64 0)) rfl rfl rfl ?_
  refine WL.nil ?_
  refine W.seq ?_
  refine W.region ?_
  refine O.move (v := va0) rfl rfl rfl ?_
  refine O.load sc3 rfl rfl rfl (H.cell 0 rfl 0 _ rfl) ?_
  refine O.makeFunc rfl rfl rfl rfl ?_
  obtain ⟨⟨t1, t2⟩, hy1, hm⟩ := bind_some hm
  refine O.call Tryd.call33 rfl rfl rfl (c_ledger_told _ _ (H.arg ha0) _ _ (fun x0 => ledger_Off_c1 x0 a1) (fun w hw vx0 x0 hx0 _ _ hy => callsV_mk Tryd.call34 (c_ledger_Off_c1 vx0 x0 hx0 _ a1 (cells_mono (H.cell 0 rfl) hw) hy)) hy1) ?_
  rintro _ w2 hb2 rfl
  have H := H.ext hb2
  refine O.extract (v := (.int .i64 t1)) rfl rfl rfl rfl ?_
  refine O.extract (v := (.int .i64 t2)) rfl rfl rfl rfl ?_
  refine O.assign (v := (.int .i64 t1)) rfl rfl rfl ?_
  refine O.assign (v := (.int .i64 t2)) rfl rfl rfl ?_
  refine WL.nil ?_
  refine W.ret ?_
  have hq : (t1, t2) = (r0, r1) := Option.some.inj (show some (t1, t2) = some (r0, r1) from hm)
  obtain ⟨he0, hq0⟩ := Prod.mk.inj hq; clear hq; subst he0
  subst hq0
  exact ends2 Tryd.results15 rfl rfl ⟨_, rfl, H.base, rfl⟩

set_option maxRecDepth 20000 in
theorem c_ledger_Corrections {w0 : World} (va0 : Value) (a0 : (List GEntry)) (ha0 : SliceR w0 va0 a0) {r0 : (List Int)} {r1 : Int} (hm : ledger_Corrections a0 = some (r0, r1)) :
    Calls Tryd.prog 16 #[va0] w0 (Ret w0 fun w v => ∃ vr0 : Value, v = .tuple #[vr0, (.int .i64 r1)] ∧ OwnR w0 w vr0 3 r0) := by
  unfold ledger_Corrections at hm
  refine calls_of_W Tryd.func16 rfl Tryd.ntmps16 (Nat.le_of_ble_eq_true rfl) ?_
  have H := Inv.start (w := w0)
  refine W.seq ?_
  refine W.region ?_
  have H := H.addNil (α := Int) (E := 3)
  refine O.assign (v := (.slice none 0 0)) rfl rfl rfl ?_
  refine O.assign (v := (.int .i64 0)) rfl rfl rfl ?_
  refine WL.nil ?_
  refine W.seq ?_
  refine W.seq ?_
  refine W.region ?_
  refine O.move (v := va0) rfl rfl rfl ?_
  obtain ⟨t1, hy1, hm⟩ := bind_some hm
  refine O.call Tryd.call14 rfl rfl rfl (c_ledger_Valid _ _ (H.arg ha0) hy1) ?_
  rintro _ w1 hb1 rfl
  have H := H.ext hb1
  refine O.not rfl rfl rfl ?_
  refine WL.nil ?_
  rcases ite_some hm with ⟨hc1, hm⟩ | ⟨hc1, hm⟩
  · refine W.cond_true (congrArg Value.bool hc1) ?_
    refine W.seq ?_
    refine W.region ?_
    have H := H.addNil (α := Int) (E := 3)
    refine O.assign (v := (.slice none 0 0)) rfl rfl rfl ?_
    refine O.assign (v := (.int .i64 1)) rfl rfl rfl ?_
    refine WL.nil ?_
    refine W.ret ?_
    have hq : (([] : List Int), 1) = (r0, r1) := Option.some.inj (show some (([] : List Int), 1) = some (r0, r1) from hm)
    obtain ⟨he0, hq0⟩ := Prod.mk.inj hq; clear hq; subst he0
    subst hq0
    exact ends2 Tryd.results16 rfl rfl ⟨_, rfl, H.base, ⟨_, rfl, H.ownR 1 rfl⟩⟩
  · refine W.cond_false (congrArg Value.bool hc1) ?_
    refine W.skip ?_
    refine W.seq ?_
    refine W.region ?_
    refine O.makeMap (α := GKey) (β := Bool) H rfl rfl ?_
    intro m1 w2 H hb2
    refine O.assign (v := (.map (some m1))) rfl rfl rfl ?_
    refine WL.nil ?_
    refine W.seq ?_
    refine W.region ?_
    have H := H.addNil (α := Int) (E := 3)
    refine O.assign (v := (.slice none 0 0)) rfl rfl rfl ?_
    refine WL.nil ?_
    refine W.seq ?_
    refine W.seq ?_
    refine W.region ?_
    refine O.move (v := va0) rfl rfl rfl ?_
    refine O.lenS Tryd.underlying22 (H.arg ha0) rfl rfl rfl ?_
    refine O.move (v := (.int .i64 0)) rfl rfl rfl ?_
    refine WL.nil ?_
    obtain ⟨s1, hm1, hm⟩ := bind_some hm
    refine W.via (fun f w => ∃ v4 : Value, f 5 = v4 ∧ Inv w0 w [ownI (α := Int) v4 3 s1]) ?_ ?_
    · skip
      refine W.block ?_
      have hbdik1 := (H.arg ha0).len_le
      have H := H.keep [1, 2] [mapI (K := GKey) (V := Bool) m1 ([] : List (GKey × Bool)), ownI (α := Int) (.slice none 0 0) 3 ([] : List Int)] rfl (by decide)
      refine W.rangeN (i := 0) hm1 (fun rem ik1 s f w => ∃ z3 : (List (GKey × Bool)), ∃ z4 : (List Int), ∃ v2 : Value, (z3, z4) = s ∧ (ik1 : Int) + rem = max 0 ((a0.length : Nat) : Int) ∧ f 14 = .int .i64 (ik1 : Int) ∧ f 13 = (.int .i64 ((a0.length : Nat) : Int)) ∧ f 4 = (.map (some m1)) ∧ f 5 = v2 ∧ f 12 = va0 ∧ Inv w0 w [mapI (K := GKey) (V := Bool) m1 z3, ownI (α := Int) v2 3 z4]) ?_ ?_ ?_
      · skip
        exact ⟨_, _, (.slice none 0 0), rfl, rangeN_start, rfl, rfl, rfl, rfl, rfl, H⟩
      · skip
        rintro k ik1 _ st f w ⟨z3, z4, v2, rfl, hdropk1, hf14, hf13, hf4, hf5, hf12, H⟩ hm2
        have hltk1 := rangeN_lt hdropk1
        obtain ⟨u1, rfl⟩ : ∃ u1, f = (upd (upd (upd (upd (upd u1 14 (.int .i64 (ik1 : Int))) 13 (.int .i64 ((a0.length : Nat) : Int))) 4 (.map (some m1))) 5 v2) 12 va0) := ⟨f, by rw [upd_self hf14, upd_self hf13, upd_self hf4, upd_self hf5, upd_self hf12]⟩
        have hinck1 := addI_lt hltk1 hbdik1
        refine W.seq ?_
        refine W.region ?_
        refine O.lss rfl rfl rfl rfl ?_
        refine WL.nil ?_
        refine W.seq ?_
        refine W.cond_true (congrArg Value.bool (decide_eq_true hltk1)) ?_
        refine W.skip ?_
        refine W.seq ?_
        obtain ⟨⟨s2, s3⟩, hm3, hm2⟩ := bind_some hm2
        refine W.via (fun f w => ∃ v5 : Value, f 4 = (.map (some m1)) ∧ f 5 = v5 ∧ f 12 = va0 ∧ f 13 = (.int .i64 ((a0.length : Nat) : Int)) ∧ f 14 = (.int .i64 (ik1 : Int)) ∧ Inv w0 w [mapI (K := GKey) (V := Bool) m1 s2, ownI (α := Int) v5 3 s3]) ?_ ?_
        · skip
          refine W.block ?_
          refine W.seq ?_
          refine W.region ?_
          refine O.move (v := (.int .i64 (ik1 : Int))) rfl rfl rfl ?_
          obtain ⟨x1, hx1, hm3⟩ := bind_some hm3
          obtain ⟨p1, hp1, hrp1⟩ := fix_indexAddr Tryd.underlying22 sz34 ha0 hx1
          refine hrp1 rfl rfl rfl rfl ?_
          refine O.loadA [(.int .i64 x1.Day), (.bool x1.Found), (.int .i64 x1.Error)] ag34 rfl rfl rfl rfl ((hp1.mono H.base).flat) ?_
          refine O.alloc [(.int .i64 0), (.bool false), (.int .i64 0)] ze34 H rfl rfl rfl ?_
          intro b1 w3 H hb3
          refine O.assign (v := (.int .i64 (ik1 : Int))) rfl rfl rfl ?_
          refine O.store 2 0 [(.int .i64 x1.Day), (.bool x1.Found), (.int .i64 x1.Error)] [(.int .i64 x1.Day), (.bool x1.Found), (.int .i64 x1.Error)] sz34 H rfl rfl rfl rfl rfl rfl ⟨⟨rfl, rfl⟩, rfl⟩ (one_cons rfl (one_cons rfl (one_cons rfl one_nil))) ?_
          intro w4 H
          refine WL.nil ?_
          refine W.seq ?_
          refine W.seq ?_
          refine W.region ?_
          refine O.move (v := (.map (some m1))) rfl rfl rfl ?_
          refine O.loadA [(.int .i64 x1.Day), (.bool x1.Found), (.int .i64 x1.Error)] ag34 rfl rfl rfl rfl (H.cell 2 rfl) ?_
          obtain ⟨t2, hy2, hm3⟩ := bind_some hm3
          refine O.call Tryd.call36 rfl rfl rfl (c_ledger_of x1 hy2) ?_
          rintro _ w5 hb4 rfl
          have H := H.ext hb4
          refine O.lookup1 (z := false) t2 Tryd.underlying67 key69 ze4 (H.map 0 rfl) rfl rfl rfl rfl ?_
          refine WL.nil ?_
          obtain ⟨s4, hm4, hm3⟩ := bind_some hm3
          refine W.via (fun f w => ∃ v6 : Value, f 4 = (.map (some m1)) ∧ f 5 = v6 ∧ f 7 = (.pointer (some ⟨b1, 0, none⟩)) ∧ f 12 = va0 ∧ f 13 = (.int .i64 ((a0.length : Nat) : Int)) ∧ f 14 = (.int .i64 (ik1 : Int)) ∧ Inv w0 w [mapI (K := GKey) (V := Bool) m1 z3, ownI (α := Int) v6 3 s4, boxI b1 34 [(.int .i64 x1.Day), (.bool x1.Found), (.int .i64 x1.Error)]]) ?_ ?_
          · skip
            rcases ite_some hm4 with ⟨hc2, hm4⟩ | ⟨hc2, hm4⟩
            · refine W.cond_true (congrArg Value.bool hc2) ?_
              refine W.region ?_
              refine O.move (v := v2) rfl rfl rfl ?_
              refine O.move (v := (.int .i64 (ik1 : Int))) rfl rfl rfl ?_
              refine O.buildSlice (α := Int) [(.int .i64 (ik1 : Int))] [(ik1 : Int)] Tryd.underlying37 el3 H rfl rfl rfl rfl rfl rfl rfl ?_
              intro v7 w6 H hb5
              obtain ⟨t3, ht3, hm4⟩ := bind_some hm4
              refine O.append 1 Tryd.underlying37 el3 rfl H rfl (H.own 3 rfl) ht3 rfl rfl rfl rfl ?_
              intro v8 w7 H
              refine O.assign (v := v8) rfl rfl rfl ?_
              refine WL.nil ?_
              have H := H.keep [0, 1, 2] [mapI (K := GKey) (V := Bool) m1 z3, ownI (α := Int) v8 3 t3, boxI b1 34 [(.int .i64 x1.Day), (.bool x1.Found), (.int .i64 x1.Error)]] rfl (by decide)
              have hq : t3 = s4 := Option.some.inj (show some t3 = some s4 from hm4)
              subst hq
              exact ⟨v8, rfl, rfl, rfl, rfl, rfl, rfl, H⟩
            · refine W.cond_false (congrArg Value.bool hc2) ?_
              refine W.skip ?_
              have hq : z4 = s4 := Option.some.inj (show some z4 = some s4 from hm4)
              subst hq
              exact ⟨v2, rfl, rfl, rfl, rfl, rfl, rfl, H⟩
          · skip
            rintro f w ⟨v6, hf4, hf5, hf7, hf12, hf13, hf14, H⟩
            obtain ⟨u2, rfl⟩ : ∃ u2, f = (upd (upd (upd (upd (upd (upd u2 4 (.map (some m1))) 5 v6) 7 (.pointer (some ⟨b1, 0, none⟩))) 12 va0) 13 (.int .i64 ((a0.length : Nat) : Int))) 14 (.int .i64 (ik1 : Int))) := ⟨f, by rw [upd_self hf4, upd_self hf5, upd_self hf7, upd_self hf12, upd_self hf13, upd_self hf14]⟩
            refine W.region ?_
            refine O.move (v := (.map (some m1))) rfl rfl rfl ?_
            refine O.loadA [(.int .i64 x1.Day), (.bool x1.Found), (.int .i64 x1.Error)] ag34 rfl rfl rfl rfl (H.cell 2 rfl) ?_
            obtain ⟨t4, hy3, hm3⟩ := bind_some hm3
            refine O.call Tryd.call36 rfl rfl rfl (c_ledger_of x1 hy3) ?_
            rintro _ w8 hb6 rfl
            have H := H.ext hb6
            refine O.mapUpdate 0 t4 true Tryd.underlying67 key69 H rfl rfl rfl rfl rfl ?_
            intro w9 H
            refine WL.nil ?_
            have H := H.keep [0, 1] [mapI (K := GKey) (V := Bool) m1 (mput z3 t4 true), ownI (α := Int) v6 3 s4] rfl (by decide)
            have hq : ((mput z3 t4 true), s4) = (s2, s3) := Option.some.inj (show some ((mput z3 t4 true), s4) = some (s2, s3) from hm3)
            obtain ⟨he0, hq0⟩ := Prod.mk.inj hq; clear hq; subst he0
            subst hq0
            exact ⟨v6, rfl, rfl, rfl, rfl, rfl, H⟩
        · skip
          rintro f w ⟨v5, hf4, hf5, hf12, hf13, hf14, H⟩
          obtain ⟨u3, rfl⟩ : ∃ u3, f = (upd (upd (upd (upd (upd u3 4 (.map (some m1))) 5 v5) 12 va0) 13 (.int .i64 ((a0.length : Nat) : Int))) 14 (.int .i64 (ik1 : Int))) := ⟨f, by rw [upd_self hf4, upd_self hf5, upd_self hf12, upd_self hf13, upd_self hf14]⟩
          refine W.region ?_
          refine O.add rfl rfl rfl rfl hinck1 ?_
          refine O.move (v := .int .i64 ((ik1 : Int) + 1)) rfl rfl rfl ?_
          refine WL.nil ?_
          obtain rfl := Option.some.inj hm2
          exact ⟨_, rfl, _, _, v5, rfl, rangeN_next hdropk1, rfl, rfl, rfl, rfl, rfl, H⟩
      · skip
        rintro ik1 _ f w ⟨z3, z4, v2, rfl, hdropk1, hf14, hf13, hf4, hf5, hf12, H⟩ hfin
        have hltk1 := rangeN_end hdropk1
        obtain ⟨u4, rfl⟩ : ∃ u4, f = (upd (upd (upd (upd (upd u4 14 (.int .i64 (ik1 : Int))) 13 (.int .i64 ((a0.length : Nat) : Int))) 4 (.map (some m1))) 5 v2) 12 va0) := ⟨f, by rw [upd_self hf14, upd_self hf13, upd_self hf4, upd_self hf5, upd_self hf12]⟩
        refine W.seq ?_
        refine W.region ?_
        refine O.lss rfl rfl rfl rfl ?_
        refine WL.nil ?_
        refine W.seq ?_
        refine W.cond_false (congrArg Value.bool (decide_eq_false hltk1)) ?_
        refine W.exit ?_
        have hq : z4 = s1 := hfin
        subst hq
        have H := H.keep [1] [ownI (α := Int) v2 3 z4] rfl (by decide)
        refine xT rfl ?_
        exact ⟨v2, rfl, H⟩
    · skip
      rintro f w ⟨v4, hf5, H⟩
      obtain ⟨u5, rfl⟩ : ∃ u5, f = (upd u5 5 v4) := ⟨f, by rw [upd_self hf5]⟩
      refine W.seq ?_
      refine W.region ?_
      refine O.move (v := v4) rfl rfl rfl ?_
      refine O.assign (v := v4) rfl rfl rfl ?_
      refine O.assign (v := (.int .i64 0)) rfl rfl rfl ?_
      refine WL.nil ?_
      refine W.ret ?_
      have hq : (s1, 0) = (r0, r1) := Option.some.inj (show some (s1, 0) = some (r0, r1) from hm)
      obtain ⟨he0, hq0⟩ := Prod.mk.inj hq; clear hq; subst he0
      subst hq0
      exact ends2 Tryd.results16 rfl rfl ⟨_, rfl, H.base, ⟨_, rfl, H.ownR 0 rfl⟩⟩

set_option maxRecDepth 20000 in
theorem c_noongunref09_SameInts {w0 : World} (va0 : Value) (a0 : (List Int)) (ha0 : SliceR w0 va0 a0) (va1 : Value) (a1 : (List Int)) (ha1 : SliceR w0 va1 a1) {r0 : Bool} (hm : noongunref09_SameInts a0 a1 = some r0) :
    Calls Tryd.prog 17 #[va0, va1] w0 (Ret w0 fun _ v => v = (.bool r0)) := by
  unfold noongunref09_SameInts at hm
  refine calls_of_W Tryd.func17 rfl Tryd.ntmps17 (Nat.le_of_ble_eq_true rfl) ?_
  have H := Inv.start (w := w0)
  refine W.seq ?_
  refine W.region ?_
  refine O.assign (v := (.bool false)) rfl rfl rfl ?_
  refine WL.nil ?_
  refine W.seq ?_
  refine W.seq ?_
  refine W.region ?_
  refine O.move (v := va0) rfl rfl rfl ?_
  refine O.lenS Tryd.underlying37 (H.arg ha0) rfl rfl rfl ?_
  refine O.move (v := va1) rfl rfl rfl ?_
  refine O.lenS Tryd.underlying37 (H.arg ha1) rfl rfl rfl ?_
  refine O.neq rfl rfl rfl rfl ?_
  refine WL.nil ?_
  rcases ite_some hm with ⟨hc1, hm⟩ | ⟨hc1, hm⟩
  · refine W.cond_true (congrArg Value.bool hc1) ?_
    refine W.seq ?_
    refine W.region ?_
    refine O.assign (v := (.bool false)) rfl rfl rfl ?_
    refine WL.nil ?_
    refine W.ret ?_
    have hq : false = r0 := Option.some.inj (show some false = some r0 from hm)
    subst hq
    exact ends1 Tryd.results17 rfl ⟨_, rfl, H.base, rfl⟩
  · refine W.cond_false (congrArg Value.bool hc1) ?_
    refine W.skip ?_
    refine W.seq ?_
    refine W.seq ?_
    refine W.region ?_
    refine O.move (v := va0) rfl rfl rfl ?_
    refine O.lenS Tryd.underlying37 (H.arg ha0) rfl rfl rfl ?_
    refine O.move (v := (.int .i64 0)) rfl rfl rfl ?_
    refine WL.nil ?_
    obtain ⟨o1, hm1, hm⟩ := bind_some hm
    refine W.via (fun f w => o1 = .next () ∧ Inv w0 w []) ?_ ?_
    · skip
      refine W.block ?_
      have hbdik1 := (H.arg ha0).len_le
      refine W.rangeN (i := 0) hm1 (fun rem ik1 s f w => () = s ∧ (ik1 : Int) + rem = max 0 ((a0.length : Nat) : Int) ∧ f 13 = .int .i64 (ik1 : Int) ∧ f 12 = (.int .i64 ((a0.length : Nat) : Int)) ∧ f 0 = va0 ∧ f 1 = va1 ∧ Inv w0 w []) ?_ ?_ ?_
      · skip
        exact ⟨rfl, rangeN_start, rfl, rfl, rfl, rfl, H⟩
      · skip
        rintro k ik1 _ st f w ⟨rfl, hdropk1, hf13, hf12, hf0, hf1, H⟩ hm2
        have hltk1 := rangeN_lt hdropk1
        obtain ⟨u1, rfl⟩ : ∃ u1, f = (upd (upd (upd (upd u1 13 (.int .i64 (ik1 : Int))) 12 (.int .i64 ((a0.length : Nat) : Int))) 0 va0) 1 va1) := ⟨f, by rw [upd_self hf13, upd_self hf12, upd_self hf0, upd_self hf1]⟩
        have hinck1 := addI_lt hltk1 hbdik1
        refine W.seq ?_
        refine W.region ?_
        refine O.lss rfl rfl rfl rfl ?_
        refine WL.nil ?_
        refine W.seq ?_
        refine W.cond_true (congrArg Value.bool (decide_eq_true hltk1)) ?_
        refine W.skip ?_
        refine W.seq ?_
        refine W.block ?_
        refine W.seq ?_
        refine W.region ?_
        refine O.move (v := (.int .i64 (ik1 : Int))) rfl rfl rfl ?_
        refine O.assign (v := (.int .i64 (ik1 : Int))) rfl rfl rfl ?_
        refine WL.nil ?_
        refine W.seq ?_
        obtain ⟨x1, hx1, hm2⟩ := bind_some hm2
        obtain ⟨p1, hp1, hrp1⟩ := fix_indexAddr Tryd.underlying37 sz3 (H.arg ha0) hx1
        obtain ⟨x2, hx2, hm2⟩ := bind_some hm2
        obtain ⟨p2, hp2, hrp2⟩ := fix_indexAddr Tryd.underlying37 sz3 (H.arg ha1) hx2
        refine W.drawN 8 (fun f => f 0 = va0 ∧ f 1 = va1 ∧ f 12 = (.int .i64 ((a0.length : Nat) : Int)) ∧ f 13 = (.int .i64 (ik1 : Int)) ∧ f 19 = (.int .i64 x1) ∧ f 23 = (.int .i64 x2)) fol (by kernel_rfl) ?_ ?_
        · skip
          refine PL.of (fun _ w8 _ hx => O.move (v := va0) rfl rfl rfl (WL.nil ⟨rfl, hx⟩)) ?_
          refine PL.of (fun _ w8 _ hx => O.move (v := (.int .i64 (ik1 : Int))) rfl rfl rfl (WL.nil ⟨rfl, hx⟩)) ?_
          refine PL.of (fun _ w8 _ hx => hrp1 rfl rfl rfl rfl (WL.nil ⟨rfl, hx⟩)) ?_
          refine PL.of (fun _ w8 _ hx => by have hp1 := hp1.mono hx; exact O.load sc3 rfl rfl rfl (hp1.flat 0 _ rfl) (WL.nil ⟨rfl, hx⟩)) ?_
          refine PL.of (fun _ w8 _ hx => O.move (v := va1) rfl rfl rfl (WL.nil ⟨rfl, hx⟩)) ?_
          refine PL.of (fun _ w8 _ hx => O.move (v := (.int .i64 (ik1 : Int))) rfl rfl rfl (WL.nil ⟨rfl, hx⟩)) ?_
          refine PL.of (fun _ w8 _ hx => hrp2 rfl rfl rfl rfl (WL.nil ⟨rfl, hx⟩)) ?_
          refine PL.of (fun _ w8 _ hx => by have hp2 := hp2.mono hx; exact O.load sc3 rfl rfl rfl (hp2.flat 0 _ rfl) (WL.nil ⟨rfl, hx⟩)) ?_
          refine PL.nil ?_
          exact ⟨rfl, rfl, rfl, rfl, rfl, rfl⟩
        · skip
          rintro f w ⟨hf0, hf1, hf12, hf13, hf19, hf23⟩ hmd hx
          have H := H.ext hx
          have hp1 := hp1.mono hx
          have hp2 := hp2.mono hx
          obtain ⟨u2, rfl⟩ : ∃ u2, f = (upd (upd (upd (upd (upd (upd u2 0 va0) 1 va1) 12 (.int .i64 ((a0.length : Nat) : Int))) 13 (.int .i64 (ik1 : Int))) 19 (.int .i64 x1)) 23 (.int .i64 x2)) := ⟨f, by rw [upd_self hf0, upd_self hf1, upd_self hf12, upd_self hf13, upd_self hf19, upd_self hf23]⟩
          refine O.neq rfl rfl rfl rfl ?_
          refine WL.nil ?_
          rcases ite_some hm2 with ⟨hc2, hm2⟩ | ⟨hc2, hm2⟩
          · refine W.cond_true (congrArg Value.bool hc2) ?_
            refine W.seq ?_
            refine W.region ?_
            refine O.assign (v := (.bool false)) rfl rfl rfl ?_
            refine WL.nil ?_
            refine W.ret ?_
            obtain rfl := Option.some.inj hm2
            refine ⟨_, rfl, ?_⟩
            rintro rfl
            have hq : false = r0 := Option.some.inj (show some false = some r0 from hm)
            subst hq
            exact ends1 Tryd.results17 rfl ⟨_, rfl, H.base, rfl⟩
          · refine W.cond_false (congrArg Value.bool hc2) ?_
            refine W.skip ?_
            refine W.region ?_
            refine O.add rfl rfl rfl rfl hinck1 ?_
            refine O.move (v := .int .i64 ((ik1 : Int) + 1)) rfl rfl rfl ?_
            refine WL.nil ?_
            obtain rfl := Option.some.inj hm2
            exact ⟨_, rfl, rfl, rangeN_next hdropk1, rfl, rfl, rfl, rfl, H⟩
      · skip
        rintro ik1 _ f w ⟨rfl, hdropk1, hf13, hf12, hf0, hf1, H⟩ hfin
        have hltk1 := rangeN_end hdropk1
        obtain ⟨u3, rfl⟩ : ∃ u3, f = (upd (upd (upd (upd u3 13 (.int .i64 (ik1 : Int))) 12 (.int .i64 ((a0.length : Nat) : Int))) 0 va0) 1 va1) := ⟨f, by rw [upd_self hf13, upd_self hf12, upd_self hf0, upd_self hf1]⟩
        refine W.seq ?_
        refine W.region ?_
        refine O.lss rfl rfl rfl rfl ?_
        refine WL.nil ?_
        refine W.seq ?_
        refine W.cond_false (congrArg Value.bool (decide_eq_false hltk1)) ?_
        refine W.exit ?_
        obtain rfl : Ctl.next () = o1 := hfin
        refine xT rfl ?_
        exact ⟨rfl, H⟩
    · skip
      rintro f w ⟨rfl, H⟩
      refine W.seq ?_
      refine W.region ?_
      refine O.assign (v := (.bool true)) rfl rfl rfl ?_
      refine WL.nil ?_
      refine W.ret ?_
      have hq : true = r0 := Option.some.inj (show some true = some r0 from hm)
      subst hq
      exact ends1 Tryd.results17 rfl ⟨_, rfl, H.base, rfl⟩

set_option maxRecDepth 20000 in
theorem c_noongunlaw09_awake {w0 : World}  {r0 : Bool} (hm : noongunlaw09_awake  = some r0) :
    Calls Tryd.prog 6 #[] w0 (Ret w0 fun _ v => v = (.bool r0)) := by
  unfold noongunlaw09_awake at hm
  refine calls_of_W Tryd.func6 rfl Tryd.ntmps6 (Nat.le_of_ble_eq_true rfl) ?_
  have H := Inv.start (w := w0)
  refine W.seq ?_
  refine W.region ?_
  refine O.assign (v := (.bool false)) rfl rfl rfl ?_
  refine WL.nil ?_
  refine W.seq ?_
  refine W.region ?_
  refine O.build (v := (.agg (Flat.cells (GEntry.mk 5 false 100)).toArray)) (fun w => bd34_0_2 _ _ w) rfl rfl rfl ?_
  refine O.build (v := (.agg (Flat.cells (GEntry.mk 5 true 180)).toArray)) (fun w => bd34_0_1_2 _ _ _ w) rfl rfl rfl ?_
  refine O.build (v := (.agg (Flat.cells (GEntry.mk 6 false 90)).toArray)) (fun w => bd34_0_2 _ _ w) rfl rfl rfl ?_
  refine O.build (v := (.agg (Flat.cells (GEntry.mk 5 true 170)).toArray)) (fun w => bd34_0_1_2 _ _ _ w) rfl rfl rfl ?_
  refine O.buildSlice (α := GEntry) [(.agg (Flat.cells (GEntry.mk 5 false 100)).toArray), (.agg (Flat.cells (GEntry.mk 5 true 180)).toArray), (.agg (Flat.cells (GEntry.mk 6 false 90)).toArray), (.agg (Flat.cells (GEntry.mk 5 true 170)).toArray)] [(GEntry.mk 5 false 100), (GEntry.mk 5 true 180), (GEntry.mk 6 false 90), (GEntry.mk 5 true 170)] Tryd.underlying22 el34 H rfl rfl rfl rfl rfl rfl rfl ?_
  intro v1 w1 H hb1
  refine O.assign (v := v1) rfl rfl rfl ?_
  refine WL.nil ?_
  refine W.seq ?_
  refine W.region ?_
  refine O.move (v := v1) rfl rfl rfl ?_
  obtain ⟨⟨t1, t2⟩, hy1, hm⟩ := bind_some hm
  refine O.call Tryd.call15 rfl rfl rfl (c_ledger_Off _ _ (H.own 0 rfl) _ hy1) ?_
  rintro _ w2 hb2 rfl
  have H := H.ext hb2
  refine O.move (v := (.tuple #[(.int .i64 t1), (.int .i64 t2)])) rfl rfl rfl ?_
  refine O.extract (v := (.int .i64 t1)) rfl rfl rfl rfl ?_
  refine O.extract (v := (.int .i64 t2)) rfl rfl rfl rfl ?_
  refine O.assign (v := (.int .i64 t1)) rfl rfl rfl ?_
  refine O.assign (v := (.int .i64 t2)) rfl rfl rfl ?_
  refine WL.nil ?_
  refine W.seq ?_
  refine W.region ?_
  refine O.move (v := v1) rfl rfl rfl ?_
  obtain ⟨⟨t3, t4⟩, hy2, hm⟩ := bind_some hm
  refine O.call Tryd.call16 rfl rfl rfl (c_ledger_Corrections _ _ (H.own 0 rfl) hy2) ?_
  rintro _ w3 hb3 ⟨v2, rfl, ho1⟩
  have H := H.addOwn hb3 ho1
  refine O.move (v := (.tuple #[v2, (.int .i64 t4)])) rfl rfl rfl ?_
  refine O.extract (v := v2) rfl rfl rfl rfl ?_
  refine O.extract (v := (.int .i64 t4)) rfl rfl rfl rfl ?_
  refine O.assign (v := v2) rfl rfl rfl ?_
  refine O.assign (v := (.int .i64 t4)) rfl rfl rfl ?_
  refine WL.nil ?_
  refine W.seq ?_
  refine W.region ?_
  refine O.move (v := (.int .i64 t2)) rfl rfl rfl ?_
  refine O.eql rfl rfl rfl rfl ?_
  refine O.move (v := (.bool (t2 == 0))) rfl rfl rfl ?_
  refine WL.cut 3 (fun f w => f 4 = v2 ∧ f 5 = (.int .i64 t4) ∧ f 26 = .bool ((t2 == 0) && (t1 == 70)) ∧ Inv w0 w [ownI (α := GEntry) v1 34 ([(GEntry.mk 5 false 100), (GEntry.mk 5 true 180), (GEntry.mk 6 false 90), (GEntry.mk 5 true 170)] : List GEntry), ownI (α := Int) v2 3 t3]) ?_ ?_
  · skip
    rcases bool_ft (t2 == 0) with hc1 | hc1
    · skip
      refine WL.reset (i := 23) (v := .bool false) (congrArg Value.bool hc1) ?_
      refine O.skip rfl rfl ?_
      refine O.skip rfl rfl ?_
      refine O.pick_false (v := (.bool false)) rfl rfl rfl rfl ?_
      refine WL.nil ?_
      exact ⟨rfl, rfl, congrArg Value.bool (and_f hc1), H⟩
    · skip
      refine WL.reset (i := 23) (v := .bool true) (congrArg Value.bool hc1) ?_
      refine O.move (v := (.int .i64 t1)) rfl rfl rfl ?_
      refine O.eql rfl rfl rfl rfl ?_
      refine O.pick_true (v := (.bool (t1 == 70))) rfl rfl rfl rfl ?_
      refine WL.nil ?_
      exact ⟨rfl, rfl, congrArg Value.bool (and_t hc1), H⟩
  · skip
    rintro f w ⟨hf4, hf5, hf26, H⟩
    obtain ⟨u1, rfl⟩ : ∃ u1, f = (upd (upd (upd u1 4 v2) 5 (.int .i64 t4)) 26 (.bool ((t2 == 0) && (t1 == 70)))) := ⟨f, by rw [upd_self hf4, upd_self hf5, upd_self hf26]⟩
    refine O.move (v := (.bool ((t2 == 0) && (t1 == 70)))) rfl rfl rfl ?_
    refine WL.cut 3 (fun f w => f 4 = v2 ∧ f 30 = .bool (((t2 == 0) && (t1 == 70)) && (t4 == 0)) ∧ Inv w0 w [ownI (α := GEntry) v1 34 ([(GEntry.mk 5 false 100), (GEntry.mk 5 true 180), (GEntry.mk 6 false 90), (GEntry.mk 5 true 170)] : List GEntry), ownI (α := Int) v2 3 t3]) ?_ ?_
    · skip
      rcases bool_ft ((t2 == 0) && (t1 == 70)) with hc2 | hc2
      · skip
        refine WL.reset (i := 27) (v := .bool false) (congrArg Value.bool hc2) ?_
        refine O.skip rfl rfl ?_
        refine O.skip rfl rfl ?_
        refine O.pick_false (v := (.bool false)) rfl rfl rfl rfl ?_
        refine WL.nil ?_
        exact ⟨rfl, congrArg Value.bool (and_f hc2), H⟩
      · skip
        refine WL.reset (i := 27) (v := .bool true) (congrArg Value.bool hc2) ?_
        refine O.move (v := (.int .i64 t4)) rfl rfl rfl ?_
        refine O.eql rfl rfl rfl rfl ?_
        refine O.pick_true (v := (.bool (t4 == 0))) rfl rfl rfl rfl ?_
        refine WL.nil ?_
        exact ⟨rfl, congrArg Value.bool (and_t hc2), H⟩
    · skip
      rintro f w ⟨hf4, hf30, H⟩
      obtain ⟨u2, rfl⟩ : ∃ u2, f = (upd (upd u2 4 v2) 30 (.bool (((t2 == 0) && (t1 == 70)) && (t4 == 0)))) := ⟨f, by rw [upd_self hf4, upd_self hf30]⟩
      refine O.move (v := (.bool (((t2 == 0) && (t1 == 70)) && (t4 == 0)))) rfl rfl rfl ?_
      obtain ⟨b1, hm1, hm⟩ := bind_some hm
      refine WL.cut 4 (fun f w => f 35 = .bool b1 ∧ Inv w0 w [ownI (α := GEntry) v1 34 ([(GEntry.mk 5 false 100), (GEntry.mk 5 true 180), (GEntry.mk 6 false 90), (GEntry.mk 5 true 170)] : List GEntry), ownI (α := Int) v2 3 t3]) ?_ ?_
      · skip
        rcases ite_some hm1 with ⟨hc3, hm1⟩ | ⟨hc3, hm1⟩
        · skip
          refine WL.reset (i := 31) (v := .bool true) (congrArg Value.bool hc3) ?_
          refine O.move (v := v2) rfl rfl rfl ?_
          refine O.buildSlice (α := Int) [(.int .i64 3)] [3] Tryd.underlying37 el3 H rfl rfl rfl rfl rfl rfl rfl ?_
          intro v3 w4 H hb4
          obtain ⟨t5, hy3, hm1⟩ := bind_some hm1
          refine O.call Tryd.call17 rfl rfl rfl (c_noongunref09_SameInts _ _ (H.own 1 rfl) _ _ (H.own 2 rfl) hy3) ?_
          rintro _ w5 hb5 rfl
          have H := H.ext hb5
          refine O.pick_true (v := (.bool t5)) rfl rfl rfl rfl ?_
          refine WL.nil ?_
          have H := H.keep [0, 1] [ownI (α := GEntry) v1 34 ([(GEntry.mk 5 false 100), (GEntry.mk 5 true 180), (GEntry.mk 6 false 90), (GEntry.mk 5 true 170)] : List GEntry), ownI (α := Int) v2 3 t3] rfl (by decide)
          have hq : t5 = b1 := Option.some.inj (show some t5 = some b1 from hm1)
          subst hq
          exact ⟨rfl, H⟩
        · skip
          refine WL.reset (i := 31) (v := .bool false) (congrArg Value.bool hc3) ?_
          refine O.skip rfl rfl ?_
          refine O.skip rfl rfl ?_
          refine O.skip rfl rfl ?_
          refine O.pick_false (v := (.bool false)) rfl rfl rfl rfl ?_
          refine WL.nil ?_
          have hq : false = b1 := Option.some.inj (show some false = some b1 from hm1)
          subst hq
          exact ⟨rfl, H⟩
      · skip
        rintro f w ⟨hf35, H⟩
        obtain ⟨u3, rfl⟩ : ∃ u3, f = (upd u3 35 (.bool b1)) := ⟨f, by rw [upd_self hf35]⟩
        refine O.assign (v := (.bool b1)) rfl rfl rfl ?_
        refine WL.nil ?_
        refine W.ret ?_
        have hq : b1 = r0 := Option.some.inj (show some b1 = some r0 from hm)
        subst hq
        exact ends1 Tryd.results6 rfl ⟨_, rfl, H.base, rfl⟩

theorem c_strconv_Itoa {w0 : World} (hT : TabH Tryd.prog w0) (a0 : Int) {r0 : ByteArray} (hm : strconv_Itoa a0 = some r0) :
    Calls Tryd.prog 27 #[(.int .i64 a0)] w0 (Ret w0 fun _ v => v = (.string r0)) := by
  unfold strconv_Itoa at hm
  split at hm
  case isFalse => cases hm
  rename_i hn
  obtain rfl := Option.some.inj hm
  exact c_ItoaZ Tryd.itoaT hT a0 hn.1 hn.2

theorem c_ledger_word {w0 : World} (a0 : Bool) {r0 : ByteArray} (hm : ledger_word a0 = some r0) :
    Calls Tryd.prog 21 #[(.bool a0)] w0 (Ret w0 fun _ v => v = (.string r0)) := by
  unfold ledger_word at hm
  refine calls_of_W Tryd.func21 rfl Tryd.ntmps21 (Nat.le_of_ble_eq_true rfl) ?_
  have H := Inv.start (w := w0)
  refine W.seq ?_
  refine W.region ?_
  refine O.assign (v := (.string (bs []))) rfl rfl rfl ?_
  refine WL.nil ?_
  refine W.seq ?_
  refine W.seq ?_
  refine W.region ?_
  refine O.move (v := (.bool a0)) rfl rfl rfl ?_
  refine WL.nil ?_
  rcases ite_some hm with ⟨hc1, hm⟩ | ⟨hc1, hm⟩
  · refine W.cond_true (congrArg Value.bool hc1) ?_
    refine W.seq ?_
    refine W.region ?_
    refine O.assign (v := (.string (bs [102, 111, 117, 110, 100]))) rfl rfl rfl ?_
    refine WL.nil ?_
    refine W.ret ?_
    have hq : (bs [102, 111, 117, 110, 100]) = r0 := Option.some.inj (show some (bs [102, 111, 117, 110, 100]) = some r0 from hm)
    subst hq
    exact ends1 Tryd.results21 rfl ⟨_, rfl, H.base, rfl⟩
  · refine W.cond_false (congrArg Value.bool hc1) ?_
    refine W.skip ?_
    refine W.seq ?_
    refine W.region ?_
    refine O.assign (v := (.string (bs [115, 97, 105, 100]))) rfl rfl rfl ?_
    refine WL.nil ?_
    refine W.ret ?_
    have hq : (bs [115, 97, 105, 100]) = r0 := Option.some.inj (show some (bs [115, 97, 105, 100]) = some r0 from hm)
    subst hq
    exact ends1 Tryd.results21 rfl ⟨_, rfl, H.base, rfl⟩

theorem ze57 : ZeroT Tryd.prog 57 (.agg #[(.pointer none), (.slice none 0 0)]) := ZeroT.mk (by kernel_rfl)
theorem bldOk : BuilderOk Tryd.prog 26 28 57 5 := builderOk Tryd.writeT Tryd.writeX Tryd.stringT Tryd.stringX rfl rfl
theorem c_ledger_Format {w0 : World} (hT : TabH Tryd.prog w0) (va0 : Value) (a0 : (List GEntry)) (ha0 : SliceR w0 va0 a0) {r0 : ByteArray} (hm : ledger_Format a0 = some r0) :
    Calls Tryd.prog 12 #[va0] w0 (Ret w0 fun _ v => v = (.string r0)) := by
  unfold ledger_Format at hm
  refine calls_of_W Tryd.func12 rfl Tryd.ntmps12 (Nat.le_of_ble_eq_true rfl) ?_
  have H := Inv.start (w := w0)
  refine W.seq ?_
  refine W.region ?_
  refine O.assign (v := (.string (bs []))) rfl rfl rfl ?_
  refine WL.nil ?_
  refine W.seq ?_
  refine W.seq ?_
  refine W.region ?_
  refine O.move (v := va0) rfl rfl rfl ?_
  obtain ⟨t1, hy1, hm⟩ := bind_some hm
  refine O.call Tryd.call14 rfl rfl rfl (c_ledger_Valid _ _ (H.arg ha0) hy1) ?_
  rintro _ w1 hb1 rfl
  have H := H.ext hb1
  refine O.not rfl rfl rfl ?_
  refine WL.nil ?_
  rcases ite_some hm with ⟨hc1, hm⟩ | ⟨hc1, hm⟩
  · refine W.cond_true (congrArg Value.bool hc1) ?_
    refine W.seq ?_
    refine W.region ?_
    refine O.assign (v := (.string (bs []))) rfl rfl rfl ?_
    refine WL.nil ?_
    refine W.ret ?_
    have hq : (bs []) = r0 := Option.some.inj hm
    subst hq
    exact ends1 Tryd.results12 rfl ⟨_, rfl, H.base, rfl⟩
  refine W.cond_false (congrArg Value.bool hc1) ?_
  refine W.skip ?_
  refine W.seq ?_
  refine W.region ?_
  refine O.alloc [(.pointer none), (.slice none 0 0)] ze57 H rfl rfl rfl ?_
  intro b0 w2 H hb2
  have H := H.addNil (α := UInt8) (E := 5)
  refine WL.nil ?_
  refine W.seq ?_
  refine W.seq ?_
  refine W.region ?_
  refine O.move (v := va0) rfl rfl rfl ?_
  refine O.lenS Tryd.underlying22 (H.arg ha0) rfl rfl rfl ?_
  refine O.move (v := (.int .i64 0)) rfl rfl rfl ?_
  refine WL.nil ?_
  obtain ⟨o1, hm1, hm⟩ := bind_some hm
  refine W.via (fun f w => f 3 = (.pointer (some ⟨b0, 0, none⟩)) ∧ ∃ p v, (p = .pointer none ∨ p = .pointer (some ⟨b0, 0, none⟩)) ∧ Inv w0 w [boxI b0 57 [p, v], ownI v 5 o1]) ?_ ?_
  · refine W.block ?_
    refine W.rangeL (i := 0) hm1 (fun rem ik1 s f w => a0.drop ik1 = rem ∧ f 11 = .int .i64 (ik1 : Int) ∧ f 10 = (.int .i64 ((a0.length : Nat) : Int)) ∧ f 9 = va0 ∧ f 3 = (.pointer (some ⟨b0, 0, none⟩)) ∧ ∃ p v, (p = .pointer none ∨ p = .pointer (some ⟨b0, 0, none⟩)) ∧ Inv w0 w [boxI b0 57 [p, v], ownI v 5 s]) ?_ ?_ ?_
    · exact ⟨List.drop_zero, rfl, rfl, rfl, rfl, _, _, .inl rfl, H⟩
    · rintro yk1 xs ik1 z st f w ⟨hdropk1, hf11, hf10, hf9, hf3, p, v, hp, H⟩ hm2
      have hltk1 := drop_lt hdropk1; have hixk1 := drop_idx hdropk1
      obtain ⟨u1, rfl⟩ : ∃ u1, f = (upd (upd (upd (upd u1 11 (.int .i64 (ik1 : Int))) 10 (.int .i64 ((a0.length : Nat) : Int))) 9 va0) 3 (.pointer (some ⟨b0, 0, none⟩))) := ⟨f, by rw [upd_self hf11, upd_self hf10, upd_self hf9, upd_self hf3]⟩
      have hinck1 := addI_lt hltk1 (H.arg ha0).len_le
      refine W.seq ?_
      refine W.region ?_
      refine O.lss rfl rfl rfl rfl ?_
      refine WL.nil ?_
      refine W.seq ?_
      refine W.cond_true (congrArg Value.bool (decide_eq_true hltk1)) ?_
      refine W.skip ?_
      refine W.seq ?_
      refine W.block ?_
      refine W.seq ?_
      refine W.region ?_
      obtain ⟨p1, hp1, hrp1⟩ := fix_indexAddr Tryd.underlying22 sz34 ha0 hixk1
      refine hrp1 rfl rfl rfl rfl ?_
      refine O.loadA [(.int .i64 yk1.Day), (.bool yk1.Found), (.int .i64 yk1.Error)] ag34 rfl rfl rfl rfl ((hp1.mono H.base).flat) ?_
      refine O.alloc [(.int .i64 0), (.bool false), (.int .i64 0)] ze34 H rfl rfl rfl ?_
      intro b1 w1 H hb1
      refine O.store 2 0 [(.int .i64 yk1.Day), (.bool yk1.Found), (.int .i64 yk1.Error)] [(.int .i64 yk1.Day), (.bool yk1.Found), (.int .i64 yk1.Error)] sz34 H rfl rfl rfl rfl rfl rfl ⟨⟨rfl, rfl⟩, rfl⟩ (one_cons rfl (one_cons rfl (one_cons rfl one_nil))) ?_
      intro w2 H
      refine WL.nil ?_
      obtain ⟨ln, hln, hm2⟩ := bind_some hm2
      obtain ⟨z2, hz2, hm2⟩ := bind_some hm2
      obtain rfl := Option.some.inj hm2
      unfold addL at hz2
      obtain ⟨hlen, hz2⟩ : z.length + ln.size ≤ 1099511627776 ∧ z ++ Fw.bytes ln = z2 := by
        split at hz2
        · rename_i hh; exact ⟨hh, Option.some.inj hz2⟩
        · cases hz2
      subst hz2
      unfold ledger_lineN at hln
      obtain ⟨t1, hy1, hln⟩ := bind_some hln
      obtain ⟨t2, ht2, hln⟩ := bind_some hln
      obtain ⟨t3, hy2, hln⟩ := bind_some hln
      obtain ⟨t4, ht4, hln⟩ := bind_some hln
      obtain ⟨t5, ht5, hln⟩ := bind_some hln
      obtain ⟨t6, hy3, hln⟩ := bind_some hln
      obtain ⟨t7, ht7, hln⟩ := bind_some hln
      obtain ⟨t8, ht8, hln⟩ := bind_some hln
      obtain rfl := Option.some.inj hln
      refine W.drawN 14 (fun f => f 28 = (.string t8) ∧ f 11 = .int .i64 (ik1 : Int) ∧ f 10 = (.int .i64 ((a0.length : Nat) : Int)) ∧ f 9 = va0 ∧ f 3 = (.pointer (some ⟨b0, 0, none⟩))) fol (by kernel_rfl) ?_ ?_
      · refine PL.of (fun _ w8 _ hx => O.fieldAddr fd34_0 rfl rfl rfl (WL.nil ⟨rfl, hx⟩)) ?_
        refine PL.of (fun _ w8 _ hx => by have H := H.ext hx; exact O.load sc3 rfl rfl rfl (H.cell 2 rfl 0 _ rfl) (WL.nil ⟨rfl, hx⟩)) ?_
        refine PL.of (fun _ w8 _ hx => by have H := H.ext hx; exact O.call Tryd.call27 rfl rfl rfl (c_strconv_Itoa (hT.mono H.base) _ hy1) (by rintro _ _ hb rfl; exact WL.nil ⟨rfl, hx.trans (hb.mono hx.size)⟩)) ?_
        refine PL.of (fun _ w8 _ hx => O.addS rfl rfl rfl rfl ht2 (WL.nil ⟨rfl, hx⟩)) ?_
        refine PL.of (fun _ w8 _ hx => O.fieldAddr fd34_1 rfl rfl rfl (WL.nil ⟨rfl, hx⟩)) ?_
        refine PL.of (fun _ w8 _ hx => by have H := H.ext hx; exact O.load sc4 rfl rfl rfl (H.cell 2 rfl 1 _ rfl) (WL.nil ⟨rfl, hx⟩)) ?_
        refine PL.of (fun _ w8 _ hx => by have H := H.ext hx; exact O.call Tryd.call21 rfl rfl rfl (c_ledger_word _ hy2) (by rintro _ _ hb rfl; exact WL.nil ⟨rfl, hx.trans (hb.mono hx.size)⟩)) ?_
        refine PL.of (fun _ w8 _ hx => O.addS rfl rfl rfl rfl ht4 (WL.nil ⟨rfl, hx⟩)) ?_
        refine PL.of (fun _ w8 _ hx => O.addS rfl rfl rfl rfl ht5 (WL.nil ⟨rfl, hx⟩)) ?_
        refine PL.of (fun _ w8 _ hx => O.fieldAddr fd34_2 rfl rfl rfl (WL.nil ⟨rfl, hx⟩)) ?_
        refine PL.of (fun _ w8 _ hx => by have H := H.ext hx; exact O.load sc3 rfl rfl rfl (H.cell 2 rfl 2 _ rfl) (WL.nil ⟨rfl, hx⟩)) ?_
        refine PL.of (fun _ w8 _ hx => by have H := H.ext hx; exact O.call Tryd.call27 rfl rfl rfl (c_strconv_Itoa (hT.mono H.base) _ hy3) (by rintro _ _ hb rfl; exact WL.nil ⟨rfl, hx.trans (hb.mono hx.size)⟩)) ?_
        refine PL.of (fun _ w8 _ hx => O.addS rfl rfl rfl rfl ht7 (WL.nil ⟨rfl, hx⟩)) ?_
        refine PL.of (fun _ w8 _ hx => O.addS rfl rfl rfl rfl ht8 (WL.nil ⟨rfl, hx⟩)) ?_
        refine PL.nil ?_
        exact ⟨rfl, rfl, rfl, rfl, rfl⟩
      rintro f w ⟨hf28, hf11, hf10, hf9, hf3⟩ hmd hx
      have H := H.ext hx
      obtain ⟨u2, rfl⟩ : ∃ u2, f = (upd (upd (upd (upd (upd u2 28 (.string t8)) 11 (.int .i64 (ik1 : Int))) 10 (.int .i64 ((a0.length : Nat) : Int))) 9 va0) 3 (.pointer (some ⟨b0, 0, none⟩))) := ⟨f, by rw [upd_self hf28, upd_self hf11, upd_self hf10, upd_self hf9, upd_self hf3]⟩
      refine O.writeS 0 1 bldOk H rfl rfl (by omega) hp hlen Tryd.call26 rfl rfl rfl rfl ?_
      intro v' w' H
      refine WL.nil ?_
      refine W.region ?_
      refine O.add rfl rfl rfl rfl hinck1 ?_
      refine O.move (v := .int .i64 ((ik1 : Int) + 1)) rfl rfl rfl ?_
      refine WL.nil ?_
      exact ⟨_, rfl, drop_next hdropk1, rfl, rfl, rfl, rfl, _, _, .inr rfl, H⟩
    · rintro ik1 z f w ⟨hdropk1, hf11, hf10, hf9, hf3, p, v, hp, H⟩ hfin
      have hltk1 := drop_end hdropk1
      obtain ⟨u1, rfl⟩ : ∃ u1, f = (upd (upd (upd (upd u1 11 (.int .i64 (ik1 : Int))) 10 (.int .i64 ((a0.length : Nat) : Int))) 9 va0) 3 (.pointer (some ⟨b0, 0, none⟩))) := ⟨f, by rw [upd_self hf11, upd_self hf10, upd_self hf9, upd_self hf3]⟩
      refine W.seq ?_
      refine W.region ?_
      refine O.lss rfl rfl rfl rfl ?_
      refine WL.nil ?_
      refine W.seq ?_
      refine W.cond_false (congrArg Value.bool (decide_eq_false hltk1)) ?_
      refine W.exit ?_
      obtain rfl : z = o1 := hfin
      refine xT rfl ?_
      exact ⟨rfl, p, v, hp, H⟩
  · rintro f w ⟨hf3, p, v, hp, H⟩
    obtain ⟨u3, rfl⟩ : ∃ u3, f = (upd u3 3 (.pointer (some ⟨b0, 0, none⟩))) := ⟨f, by rw [upd_self hf3]⟩
    refine W.seq ?_
    refine W.region ?_
    refine O.strS 0 1 bldOk H rfl rfl (by omega) hp Tryd.call28 rfl rfl rfl ?_
    intro w' H
    refine O.assign (v := (.string ⟨o1.toArray⟩)) rfl rfl rfl ?_
    refine WL.nil ?_
    refine W.ret ?_
    have hq : (⟨o1.toArray⟩ : ByteArray) = r0 := Option.some.inj hm
    subst hq
    exact ends1 Tryd.results12 rfl ⟨_, rfl, H.base, rfl⟩

theorem c_ledger_Digest {w0 : World} (hT : TabH Tryd.prog w0) (va0 : Value) (a0 : (List GEntry)) (ha0 : SliceR w0 va0 a0) {r0 : Int} (hm : ledger_Digest a0 = some r0) :
    Calls Tryd.prog 7 #[va0] w0 (Ret w0 fun _ v => v = (.int .u64 r0)) := by
  unfold ledger_Digest at hm
  refine calls_of_W Tryd.func7 rfl Tryd.ntmps7 (Nat.le_of_ble_eq_true rfl) ?_
  have H := Inv.start (w := w0)
  refine W.seq ?_
  refine W.region ?_
  refine O.assign (v := (.int .u64 0)) rfl rfl rfl ?_
  refine WL.nil ?_
  refine W.seq ?_
  refine W.region ?_
  refine O.assign (v := (.int .u64 14695981039346656037)) rfl rfl rfl ?_
  refine WL.nil ?_
  refine W.seq ?_
  refine W.seq ?_
  refine W.region ?_
  refine O.move (v := va0) rfl rfl rfl ?_
  obtain ⟨t1, hy1, hm⟩ := bind_some hm
  refine O.call Tryd.call12 rfl rfl rfl (c_ledger_Format (hT.mono H.base) _ _ (H.arg ha0) hy1) ?_
  rintro _ w1 hb1 rfl
  have H := H.ext hb1
  obtain ⟨t2, ht2, hm⟩ := bind_some hm
  refine O.bytesHeld Tryd.underlying9 Tryd.underlying41 Tryd.underlying5 ht2 H rfl rfl rfl ?_
  intro v1 w2 b1 ob1 H hb2 hsl1
  refine O.lenS Tryd.underlying41 (hsl1 _ (H.items _ (List.mem_of_getElem? (i := 0) rfl)).1) rfl rfl rfl ?_
  refine O.move (v := (.int .i64 0)) rfl rfl rfl ?_
  refine WL.nil ?_
  obtain ⟨s1, hm1, hm⟩ := bind_some hm
  refine W.via (fun f w => f 3 = (.int .u64 s1) ∧ Inv w0 w []) ?_ ?_
  · skip
    refine W.block ?_
    refine W.rangeL (i := 0) hm1 (fun rem ik1 s f w => ∃ z2 : Int, z2 = s ∧ t2.drop ik1 = rem ∧ f 10 = .int .i64 (ik1 : Int) ∧ f 9 = (.int .i64 ((t2.length : Nat) : Int)) ∧ f 3 = (.int .u64 z2) ∧ f 8 = v1 ∧ Inv w0 w [heldI b1 ob1]) ?_ ?_ ?_
    · skip
      exact ⟨_, rfl, List.drop_zero, rfl, rfl, rfl, rfl, H⟩
    · skip
      rintro yk1 xs ik1 _ st f w ⟨z2, rfl, hdropk1, hf10, hf9, hf3, hf8, H⟩ hm2
      have hltk1 := drop_lt hdropk1; have hixk1 := drop_idx hdropk1
      obtain ⟨u1, rfl⟩ : ∃ u1, f = (upd (upd (upd (upd u1 10 (.int .i64 (ik1 : Int))) 9 (.int .i64 ((t2.length : Nat) : Int))) 3 (.int .u64 z2)) 8 v1) := ⟨f, by rw [upd_self hf10, upd_self hf9, upd_self hf3, upd_self hf8]⟩
      have hinck1 := addI_lt hltk1 (hsl1 _ (H.items _ (List.mem_of_getElem? (i := 0) rfl)).1).len_le
      refine W.seq ?_
      refine W.region ?_
      refine O.lss rfl rfl rfl rfl ?_
      refine WL.nil ?_
      refine W.seq ?_
      refine W.cond_true (congrArg Value.bool (decide_eq_true hltk1)) ?_
      refine W.skip ?_
      refine W.seq ?_
      refine W.block ?_
      refine W.seq ?_
      refine W.region ?_
      refine O.indexAddr Tryd.underlying41 sz5 (hsl1 _ (H.items _ (List.mem_of_getElem? (i := 0) rfl)).1) hixk1 rfl rfl rfl rfl ?_
      intro p1 hp1
      refine O.load sc5 rfl rfl rfl (hp1.flat 0 _ rfl) ?_
      refine O.assign (v := (.int .u8 (yk1.toNat : Int))) rfl rfl rfl ?_
      refine WL.nil ?_
      refine W.region ?_
      refine O.move (v := (.int .u64 z2)) rfl rfl rfl ?_
      refine O.move (v := (.int .u8 (yk1.toNat : Int))) rfl rfl rfl ?_
      obtain ⟨t3, ht3, hm2⟩ := bind_some hm2
      refine O.convI (by rw [Tryd.underlying5]; rfl) Tryd.underlying25 ht3 rfl rfl rfl ?_
      refine O.xor rfl rfl rfl rfl ?_
      refine O.mulU rfl rfl rfl rfl ?_
      refine O.assign (v := (.int .u64 (wU ((bits .xor .u64 z2 t3) * 1099511628211)))) rfl rfl rfl ?_
      refine WL.nil ?_
      refine W.region ?_
      refine O.add rfl rfl rfl rfl hinck1 ?_
      refine O.move (v := .int .i64 ((ik1 : Int) + 1)) rfl rfl rfl ?_
      refine WL.nil ?_
      obtain rfl := Option.some.inj hm2
      exact ⟨_, rfl, _, rfl, drop_next hdropk1, rfl, rfl, rfl, rfl, H⟩
    · skip
      rintro ik1 _ f w ⟨z2, rfl, hdropk1, hf10, hf9, hf3, hf8, H⟩ hfin
      have hltk1 := drop_end hdropk1
      obtain ⟨u2, rfl⟩ : ∃ u2, f = (upd (upd (upd (upd u2 10 (.int .i64 (ik1 : Int))) 9 (.int .i64 ((t2.length : Nat) : Int))) 3 (.int .u64 z2)) 8 v1) := ⟨f, by rw [upd_self hf10, upd_self hf9, upd_self hf3, upd_self hf8]⟩
      refine W.seq ?_
      refine W.region ?_
      refine O.lss rfl rfl rfl rfl ?_
      refine WL.nil ?_
      refine W.seq ?_
      refine W.cond_false (congrArg Value.bool (decide_eq_false hltk1)) ?_
      refine W.exit ?_
      have hq : z2 = s1 := hfin
      subst hq
      have H := H.keep [] [] rfl (by decide)
      refine xT rfl ?_
      exact ⟨rfl, H⟩
  · skip
    rintro f w ⟨hf3, H⟩
    obtain ⟨u3, rfl⟩ : ∃ u3, f = (upd u3 3 (.int .u64 s1)) := ⟨f, by rw [upd_self hf3]⟩
    refine W.seq ?_
    refine W.region ?_
    refine O.move (v := (.int .u64 s1)) rfl rfl rfl ?_
    refine O.assign (v := (.int .u64 s1)) rfl rfl rfl ?_
    refine WL.nil ?_
    refine W.ret ?_
    have hq : s1 = r0 := Option.some.inj (show some s1 = some r0 from hm)
    subst hq
    exact ends1 Tryd.results7 rfl ⟨_, rfl, H.base, rfl⟩

theorem c_noongunref09_day {w0 : World} (a0 : Int) {r0 : Bool} (hm : noongunref09_day a0 = some r0) :
    Calls Tryd.prog 42 #[(.int .i64 a0)] w0 (Ret w0 fun _ v => v = (.bool r0)) := by
  unfold noongunref09_day at hm
  refine calls_of_W Tryd.func42 rfl Tryd.ntmps42 (Nat.le_of_ble_eq_true rfl) ?_
  have H := Inv.start (w := w0)
  refine W.seq ?_
  refine W.region ?_
  refine O.assign (v := (.bool false)) rfl rfl rfl ?_
  refine WL.nil ?_
  refine W.seq ?_
  refine W.region ?_
  refine O.move (v := (.int .i64 a0)) rfl rfl rfl ?_
  refine O.geq rfl rfl rfl rfl ?_
  refine O.move (v := (.bool (decide (0 ≤ a0)))) rfl rfl rfl ?_
  refine WL.cut 3 (fun f w => f 8 = .bool ((decide (0 ≤ a0)) && (decide (a0 ≤ 182985))) ∧ Inv w0 w []) ?_ ?_
  · skip
    rcases bool_ft (decide (0 ≤ a0)) with hc1 | hc1
    · skip
      refine WL.reset (i := 5) (v := .bool false) (congrArg Value.bool hc1) ?_
      refine O.skip rfl rfl ?_
      refine O.skip rfl rfl ?_
      refine O.pick_false (v := (.bool false)) rfl rfl rfl rfl ?_
      refine WL.nil ?_
      exact ⟨congrArg Value.bool (and_f hc1), H⟩
    · skip
      refine WL.reset (i := 5) (v := .bool true) (congrArg Value.bool hc1) ?_
      refine O.move (v := (.int .i64 a0)) rfl rfl rfl ?_
      refine O.leq rfl rfl rfl rfl ?_
      refine O.pick_true (v := (.bool (decide (a0 ≤ 182985)))) rfl rfl rfl rfl ?_
      refine WL.nil ?_
      exact ⟨congrArg Value.bool (and_t hc1), H⟩
  · skip
    rintro f w ⟨hf8, H⟩
    obtain ⟨u1, rfl⟩ : ∃ u1, f = (upd u1 8 (.bool ((decide (0 ≤ a0)) && (decide (a0 ≤ 182985))))) := ⟨f, by rw [upd_self hf8]⟩
    refine O.assign (v := (.bool ((decide (0 ≤ a0)) && (decide (a0 ≤ 182985))))) rfl rfl rfl ?_
    refine WL.nil ?_
    refine W.ret ?_
    have hq : ((decide (0 ≤ a0)) && (decide (a0 ≤ 182985))) = r0 := Option.some.inj (show some ((decide (0 ≤ a0)) && (decide (a0 ≤ 182985))) = some r0 from hm)
    subst hq
    exact ends1 Tryd.results42 rfl ⟨_, rfl, H.base, rfl⟩

theorem c_noongunref09_valid {w0 : World} (a0 : GEntry) {r0 : Bool} (hm : noongunref09_valid a0 = some r0) :
    Calls Tryd.prog 25 #[(.agg (Flat.cells a0).toArray)] w0 (Ret w0 fun _ v => v = (.bool r0)) := by
  unfold noongunref09_valid at hm
  refine calls_of_W Tryd.func25 rfl Tryd.ntmps25 (Nat.le_of_ble_eq_true rfl) ?_
  have H := Inv.start (w := w0)
  refine W.seq ?_
  refine W.region ?_
  refine O.box [(.int .i64 a0.Day), (.bool a0.Found), (.int .i64 a0.Error)] H rfl rfl rfl rfl ?_
  intro b1 w1 H hb1
  refine O.assign (v := (.bool false)) rfl rfl rfl ?_
  refine WL.nil ?_
  refine W.seq ?_
  refine W.region ?_
  refine O.fieldAddr fd34_0 rfl rfl rfl ?_
  refine O.load sc3 rfl rfl rfl (H.cell 0 rfl 0 _ rfl) ?_
  obtain ⟨t1, hy1, hm⟩ := bind_some hm
  refine O.call Tryd.call42 rfl rfl rfl (c_noongunref09_day _ hy1) ?_
  rintro _ w2 hb2 rfl
  have H := H.ext hb2
  refine O.move (v := (.bool t1)) rfl rfl rfl ?_
  refine WL.cut 4 (fun f w => f 1 = (.pointer (some ⟨b1, 0, none⟩)) ∧ f 10 = .bool (t1 && (decide ((-86400000) ≤ a0.Error))) ∧ Inv w0 w [boxI b1 34 [(.int .i64 a0.Day), (.bool a0.Found), (.int .i64 a0.Error)]]) ?_ ?_
  · skip
    rcases bool_ft t1 with hc1 | hc1
    · skip
      refine WL.reset (i := 6) (v := .bool false) (congrArg Value.bool hc1) ?_
      refine O.skip rfl rfl ?_
      refine O.skip rfl rfl ?_
      refine O.skip rfl rfl ?_
      refine O.pick_false (v := (.bool false)) rfl rfl rfl rfl ?_
      refine WL.nil ?_
      exact ⟨rfl, congrArg Value.bool (and_f hc1), H⟩
    · skip
      refine WL.reset (i := 6) (v := .bool true) (congrArg Value.bool hc1) ?_
      refine O.fieldAddr fd34_2 rfl rfl rfl ?_
      refine O.load sc3 rfl rfl rfl (H.cell 0 rfl 2 _ rfl) ?_
      refine O.geq rfl rfl rfl rfl ?_
      refine O.pick_true (v := (.bool (decide ((-86400000) ≤ a0.Error)))) rfl rfl rfl rfl ?_
      refine WL.nil ?_
      exact ⟨rfl, congrArg Value.bool (and_t hc1), H⟩
  · skip
    rintro f w ⟨hf1, hf10, H⟩
    obtain ⟨u1, rfl⟩ : ∃ u1, f = (upd (upd u1 1 (.pointer (some ⟨b1, 0, none⟩))) 10 (.bool (t1 && (decide ((-86400000) ≤ a0.Error))))) := ⟨f, by rw [upd_self hf1, upd_self hf10]⟩
    refine O.move (v := (.bool (t1 && (decide ((-86400000) ≤ a0.Error))))) rfl rfl rfl ?_
    refine WL.cut 4 (fun f w => f 15 = .bool ((t1 && (decide ((-86400000) ≤ a0.Error))) && (decide (a0.Error ≤ 86400000))) ∧ Inv w0 w [boxI b1 34 [(.int .i64 a0.Day), (.bool a0.Found), (.int .i64 a0.Error)]]) ?_ ?_
    · skip
      rcases bool_ft (t1 && (decide ((-86400000) ≤ a0.Error))) with hc2 | hc2
      · skip
        refine WL.reset (i := 11) (v := .bool false) (congrArg Value.bool hc2) ?_
        refine O.skip rfl rfl ?_
        refine O.skip rfl rfl ?_
        refine O.skip rfl rfl ?_
        refine O.pick_false (v := (.bool false)) rfl rfl rfl rfl ?_
        refine WL.nil ?_
        exact ⟨congrArg Value.bool (and_f hc2), H⟩
      · skip
        refine WL.reset (i := 11) (v := .bool true) (congrArg Value.bool hc2) ?_
        refine O.fieldAddr fd34_2 rfl rfl rfl ?_
        refine O.load sc3 rfl rfl rfl (H.cell 0 rfl 2 _ rfl) ?_
        refine O.leq rfl rfl rfl rfl ?_
        refine O.pick_true (v := (.bool (decide (a0.Error ≤ 86400000)))) rfl rfl rfl rfl ?_
        refine WL.nil ?_
        exact ⟨congrArg Value.bool (and_t hc2), H⟩
    · skip
      rintro f w ⟨hf15, H⟩
      obtain ⟨u2, rfl⟩ : ∃ u2, f = (upd u2 15 (.bool ((t1 && (decide ((-86400000) ≤ a0.Error))) && (decide (a0.Error ≤ 86400000))))) := ⟨f, by rw [upd_self hf15]⟩
      refine O.assign (v := (.bool ((t1 && (decide ((-86400000) ≤ a0.Error))) && (decide (a0.Error ≤ 86400000))))) rfl rfl rfl ?_
      refine WL.nil ?_
      refine W.ret ?_
      have hq : ((t1 && (decide ((-86400000) ≤ a0.Error))) && (decide (a0.Error ≤ 86400000))) = r0 := Option.some.inj (show some ((t1 && (decide ((-86400000) ≤ a0.Error))) && (decide (a0.Error ≤ 86400000))) = some r0 from hm)
      subst hq
      exact ends1 Tryd.results25 rfl ⟨_, rfl, H.base, rfl⟩

theorem c_noongunref09_Valid {w0 : World} (va0 : Value) (a0 : (List GEntry)) (ha0 : SliceR w0 va0 a0) {r0 : Bool} (hm : noongunref09_Valid a0 = some r0) :
    Calls Tryd.prog 29 #[va0] w0 (Ret w0 fun _ v => v = (.bool r0)) := by
  unfold noongunref09_Valid at hm
  refine calls_of_W Tryd.func29 rfl Tryd.ntmps29 (Nat.le_of_ble_eq_true rfl) ?_
  have H := Inv.start (w := w0)
  refine W.seq ?_
  refine W.region ?_
  refine O.assign (v := (.bool false)) rfl rfl rfl ?_
  refine WL.nil ?_
  refine W.seq ?_
  refine W.seq ?_
  refine W.region ?_
  refine O.move (v := va0) rfl rfl rfl ?_
  refine O.lenS Tryd.underlying22 (H.arg ha0) rfl rfl rfl ?_
  refine O.move (v := (.int .i64 0)) rfl rfl rfl ?_
  refine WL.nil ?_
  obtain ⟨o1, hm1, hm⟩ := bind_some hm
  refine W.via (fun f w => o1 = .next () ∧ f 0 = va0 ∧ Inv w0 w []) ?_ ?_
  · skip
    refine W.block ?_
    refine W.rangeL (i := 0) hm1 (fun rem ik1 s f w => () = s ∧ a0.drop ik1 = rem ∧ f 7 = .int .i64 (ik1 : Int) ∧ f 6 = (.int .i64 ((a0.length : Nat) : Int)) ∧ f 0 = va0 ∧ f 5 = va0 ∧ Inv w0 w []) ?_ ?_ ?_
    · skip
      exact ⟨rfl, List.drop_zero, rfl, rfl, rfl, rfl, H⟩
    · skip
      rintro yk1 xs ik1 _ st f w ⟨rfl, hdropk1, hf7, hf6, hf0, hf5, H⟩ hm2
      have hltk1 := drop_lt hdropk1; have hixk1 := drop_idx hdropk1
      obtain ⟨u1, rfl⟩ : ∃ u1, f = (upd (upd (upd (upd u1 7 (.int .i64 (ik1 : Int))) 6 (.int .i64 ((a0.length : Nat) : Int))) 0 va0) 5 va0) := ⟨f, by rw [upd_self hf7, upd_self hf6, upd_self hf0, upd_self hf5]⟩
      have hinck1 := addI_lt hltk1 (H.arg ha0).len_le
      refine W.seq ?_
      refine W.region ?_
      refine O.lss rfl rfl rfl rfl ?_
      refine WL.nil ?_
      refine W.seq ?_
      refine W.cond_true (congrArg Value.bool (decide_eq_true hltk1)) ?_
      refine W.skip ?_
      refine W.seq ?_
      refine W.block ?_
      refine W.seq ?_
      refine W.region ?_
      obtain ⟨p1, hp1, hrp1⟩ := fix_indexAddr Tryd.underlying22 sz34 ha0 hixk1
      refine hrp1 rfl rfl rfl rfl ?_
      refine O.loadA [(.int .i64 yk1.Day), (.bool yk1.Found), (.int .i64 yk1.Error)] ag34 rfl rfl rfl rfl ((hp1.mono H.base).flat) ?_
      refine O.alloc [(.int .i64 0), (.bool false), (.int .i64 0)] ze34 H rfl rfl rfl ?_
      intro b1 w1 H hb1
      refine O.store 0 0 [(.int .i64 yk1.Day), (.bool yk1.Found), (.int .i64 yk1.Error)] [(.int .i64 yk1.Day), (.bool yk1.Found), (.int .i64 yk1.Error)] sz34 H rfl rfl rfl rfl rfl rfl ⟨⟨rfl, rfl⟩, rfl⟩ (one_cons rfl (one_cons rfl (one_cons rfl one_nil))) ?_
      intro w2 H
      refine WL.nil ?_
      refine W.seq ?_
      refine W.region ?_
      refine O.loadA [(.int .i64 yk1.Day), (.bool yk1.Found), (.int .i64 yk1.Error)] ag34 rfl rfl rfl rfl (H.cell 0 rfl) ?_
      obtain ⟨t1, hy1, hm2⟩ := bind_some hm2
      refine O.call Tryd.call25 rfl rfl rfl (c_noongunref09_valid yk1 hy1) ?_
      rintro _ w3 hb2 rfl
      have H := H.ext hb2
      refine O.not rfl rfl rfl ?_
      refine WL.nil ?_
      rcases ite_some hm2 with ⟨hc1, hm2⟩ | ⟨hc1, hm2⟩
      · refine W.cond_true (congrArg Value.bool hc1) ?_
        refine W.seq ?_
        refine W.region ?_
        refine O.assign (v := (.bool false)) rfl rfl rfl ?_
        refine WL.nil ?_
        refine W.ret ?_
        obtain rfl := Option.some.inj hm2
        refine ⟨_, rfl, ?_⟩
        rintro rfl
        have hq : false = r0 := Option.some.inj (show some false = some r0 from hm)
        subst hq
        exact ends1 Tryd.results29 rfl ⟨_, rfl, H.base, rfl⟩
      · refine W.cond_false (congrArg Value.bool hc1) ?_
        refine W.skip ?_
        refine W.region ?_
        refine O.add rfl rfl rfl rfl hinck1 ?_
        refine O.move (v := .int .i64 ((ik1 : Int) + 1)) rfl rfl rfl ?_
        refine WL.nil ?_
        have H := H.keep [] [] rfl (by decide)
        obtain rfl := Option.some.inj hm2
        exact ⟨_, rfl, rfl, drop_next hdropk1, rfl, rfl, rfl, rfl, H⟩
    · skip
      rintro ik1 _ f w ⟨rfl, hdropk1, hf7, hf6, hf0, hf5, H⟩ hfin
      have hltk1 := drop_end hdropk1
      obtain ⟨u2, rfl⟩ : ∃ u2, f = (upd (upd (upd (upd u2 7 (.int .i64 (ik1 : Int))) 6 (.int .i64 ((a0.length : Nat) : Int))) 0 va0) 5 va0) := ⟨f, by rw [upd_self hf7, upd_self hf6, upd_self hf0, upd_self hf5]⟩
      refine W.seq ?_
      refine W.region ?_
      refine O.lss rfl rfl rfl rfl ?_
      refine WL.nil ?_
      refine W.seq ?_
      refine W.cond_false (congrArg Value.bool (decide_eq_false hltk1)) ?_
      refine W.exit ?_
      obtain rfl : Ctl.next () = o1 := hfin
      refine xT rfl ?_
      exact ⟨rfl, rfl, H⟩
  · skip
    rintro f w ⟨rfl, hf0, H⟩
    obtain ⟨u3, rfl⟩ : ∃ u3, f = (upd u3 0 va0) := ⟨f, by rw [upd_self hf0]⟩
    refine W.seq ?_
    refine W.region ?_
    refine O.move (v := va0) rfl rfl rfl ?_
    refine O.lenS Tryd.underlying22 (H.arg ha0) rfl rfl rfl ?_
    refine O.leq rfl rfl rfl rfl ?_
    refine O.assign (v := (.bool (decide (((a0.length : Nat) : Int) ≤ 1000)))) rfl rfl rfl ?_
    refine WL.nil ?_
    refine W.ret ?_
    have hq : (decide (((a0.length : Nat) : Int) ≤ 1000)) = r0 := Option.some.inj (show some (decide (((a0.length : Nat) : Int) ≤ 1000)) = some r0 from hm)
    subst hq
    exact ends1 Tryd.results29 rfl ⟨_, rfl, H.base, rfl⟩

theorem c_noongunref09_line {w0 : World} (hT : TabH Tryd.prog w0) (a0 : GEntry) {r0 : ByteArray} (hm : noongunref09_line a0 = some r0) :
    Calls Tryd.prog 24 #[(.agg (Flat.cells a0).toArray)] w0 (Ret w0 fun _ v => v = (.string r0)) := by
  unfold noongunref09_line at hm
  refine calls_of_W Tryd.func24 rfl Tryd.ntmps24 (Nat.le_of_ble_eq_true rfl) ?_
  have H := Inv.start (w := w0)
  refine W.seq ?_
  refine W.region ?_
  refine O.box [(.int .i64 a0.Day), (.bool a0.Found), (.int .i64 a0.Error)] H rfl rfl rfl rfl ?_
  intro b1 w1 H hb1
  refine O.assign (v := (.string (bs []))) rfl rfl rfl ?_
  refine WL.nil ?_
  refine W.seq ?_
  refine W.region ?_
  refine O.assign (v := (.string (bs [115, 97, 105, 100]))) rfl rfl rfl ?_
  refine WL.nil ?_
  refine W.seq ?_
  refine W.seq ?_
  refine W.region ?_
  refine O.fieldAddr fd34_1 rfl rfl rfl ?_
  refine O.load sc4 rfl rfl rfl (H.cell 0 rfl 1 _ rfl) ?_
  refine WL.nil ?_
  obtain ⟨s1, hm1, hm⟩ := bind_some hm
  refine W.via (fun f w => f 1 = (.pointer (some ⟨b1, 0, none⟩)) ∧ f 3 = (.string s1) ∧ Inv w0 w [boxI b1 34 [(.int .i64 a0.Day), (.bool a0.Found), (.int .i64 a0.Error)]]) ?_ ?_
  · skip
    rcases ite_some hm1 with ⟨hc1, hm1⟩ | ⟨hc1, hm1⟩
    · refine W.cond_true (congrArg Value.bool hc1) ?_
      refine W.region ?_
      refine O.assign (v := (.string (bs [102, 111, 117, 110, 100]))) rfl rfl rfl ?_
      refine WL.nil ?_
      have hq : (bs [102, 111, 117, 110, 100]) = s1 := Option.some.inj (show some (bs [102, 111, 117, 110, 100]) = some s1 from hm1)
      subst hq
      exact ⟨rfl, rfl, H⟩
    · refine W.cond_false (congrArg Value.bool hc1) ?_
      refine W.skip ?_
      have hq : (bs [115, 97, 105, 100]) = s1 := Option.some.inj (show some (bs [115, 97, 105, 100]) = some s1 from hm1)
      subst hq
      exact ⟨rfl, rfl, H⟩
  · skip
    rintro f w ⟨hf1, hf3, H⟩
    obtain ⟨u1, rfl⟩ : ∃ u1, f = (upd (upd u1 1 (.pointer (some ⟨b1, 0, none⟩))) 3 (.string s1)) := ⟨f, by rw [upd_self hf1, upd_self hf3]⟩
    refine W.seq ?_
    obtain ⟨t1, hy1, hm⟩ := bind_some hm
    obtain ⟨t2, ht2, hm⟩ := bind_some hm
    obtain ⟨t3, ht3, hm⟩ := bind_some hm
    obtain ⟨t4, ht4, hm⟩ := bind_some hm
    obtain ⟨t5, hy2, hm⟩ := bind_some hm
    refine W.drawN 10 (fun f => f 12 = (.string t4) ∧ f 15 = (.string t5)) fol (by kernel_rfl) ?_ ?_
    · skip
      refine PL.of (fun _ w8 _ hx => O.fieldAddr fd34_0 rfl rfl rfl (WL.nil ⟨rfl, hx⟩)) ?_
      refine PL.of (fun _ w8 _ hx => by have H := H.ext hx; exact O.load sc3 rfl rfl rfl (H.cell 0 rfl 0 _ rfl) (WL.nil ⟨rfl, hx⟩)) ?_
      refine PL.of (fun _ w8 _ hx => by have H := H.ext hx; exact O.call Tryd.call27 rfl rfl rfl (c_strconv_Itoa (hT.mono H.base) _ hy1) (by rintro _ _ hb rfl; exact WL.nil ⟨rfl, hx.trans (hb.mono hx.size)⟩)) ?_
      refine PL.of (fun _ w8 _ hx => O.addS rfl rfl rfl rfl ht2 (WL.nil ⟨rfl, hx⟩)) ?_
      refine PL.of (fun _ w8 _ hx => O.move (v := (.string s1)) rfl rfl rfl (WL.nil ⟨rfl, hx⟩)) ?_
      refine PL.of (fun _ w8 _ hx => O.addS rfl rfl rfl rfl ht3 (WL.nil ⟨rfl, hx⟩)) ?_
      refine PL.of (fun _ w8 _ hx => O.addS rfl rfl rfl rfl ht4 (WL.nil ⟨rfl, hx⟩)) ?_
      refine PL.of (fun _ w8 _ hx => O.fieldAddr fd34_2 rfl rfl rfl (WL.nil ⟨rfl, hx⟩)) ?_
      refine PL.of (fun _ w8 _ hx => by have H := H.ext hx; exact O.load sc3 rfl rfl rfl (H.cell 0 rfl 2 _ rfl) (WL.nil ⟨rfl, hx⟩)) ?_
      refine PL.of (fun _ w8 _ hx => by have H := H.ext hx; exact O.call Tryd.call27 rfl rfl rfl (c_strconv_Itoa (hT.mono H.base) _ hy2) (by rintro _ _ hb rfl; exact WL.nil ⟨rfl, hx.trans (hb.mono hx.size)⟩)) ?_
      refine PL.nil ?_
      exact ⟨rfl, rfl⟩
    · skip
      rintro f w ⟨hf12, hf15⟩ hmd hx
      have H := H.ext hx
      obtain ⟨u2, rfl⟩ : ∃ u2, f = (upd (upd u2 12 (.string t4)) 15 (.string t5)) := ⟨f, by rw [upd_self hf12, upd_self hf15]⟩
      obtain ⟨t6, ht6, hm⟩ := bind_some hm
      refine O.addS rfl rfl rfl rfl ht6 ?_
      refine O.assign (v := (.string t6)) rfl rfl rfl ?_
      refine WL.nil ?_
      refine W.ret ?_
      have hq : t6 = r0 := Option.some.inj (show some t6 = some r0 from hm)
      subst hq
      exact ends1 Tryd.results24 rfl ⟨_, rfl, H.base, rfl⟩

theorem c_noongunref09_Format {w0 : World} (hT : TabH Tryd.prog w0) (va0 : Value) (a0 : (List GEntry)) (ha0 : SliceR w0 va0 a0) {r0 : ByteArray} (hm : noongunref09_Format a0 = some r0) :
    Calls Tryd.prog 13 #[va0] w0 (Ret w0 fun _ v => v = (.string r0)) := by
  unfold noongunref09_Format at hm
  refine calls_of_W Tryd.func13 rfl Tryd.ntmps13 (Nat.le_of_ble_eq_true rfl) ?_
  have H := Inv.start (w := w0)
  refine W.seq ?_
  refine W.region ?_
  refine O.assign (v := (.string (bs []))) rfl rfl rfl ?_
  refine WL.nil ?_
  refine W.seq ?_
  refine W.seq ?_
  refine W.region ?_
  refine O.move (v := va0) rfl rfl rfl ?_
  obtain ⟨t1, hy1, hm⟩ := bind_some hm
  refine O.call Tryd.call29 rfl rfl rfl (c_noongunref09_Valid _ _ (H.arg ha0) hy1) ?_
  rintro _ w1 hb1 rfl
  have H := H.ext hb1
  refine O.not rfl rfl rfl ?_
  refine WL.nil ?_
  rcases ite_some hm with ⟨hc1, hm⟩ | ⟨hc1, hm⟩
  · refine W.cond_true (congrArg Value.bool hc1) ?_
    refine W.seq ?_
    refine W.region ?_
    refine O.assign (v := (.string (bs []))) rfl rfl rfl ?_
    refine WL.nil ?_
    refine W.ret ?_
    have hq : (bs []) = r0 := Option.some.inj hm
    subst hq
    exact ends1 Tryd.results13 rfl ⟨_, rfl, H.base, rfl⟩
  refine W.cond_false (congrArg Value.bool hc1) ?_
  refine W.skip ?_
  refine W.seq ?_
  refine W.region ?_
  refine O.alloc [(.pointer none), (.slice none 0 0)] ze57 H rfl rfl rfl ?_
  intro b0 w2 H hb2
  have H := H.addNil (α := UInt8) (E := 5)
  refine WL.nil ?_
  refine W.seq ?_
  refine W.seq ?_
  refine W.region ?_
  refine O.move (v := va0) rfl rfl rfl ?_
  refine O.lenS Tryd.underlying22 (H.arg ha0) rfl rfl rfl ?_
  refine O.move (v := (.int .i64 0)) rfl rfl rfl ?_
  refine WL.nil ?_
  obtain ⟨o1, hm1, hm⟩ := bind_some hm
  refine W.via (fun f w => f 3 = (.pointer (some ⟨b0, 0, none⟩)) ∧ ∃ p v, (p = .pointer none ∨ p = .pointer (some ⟨b0, 0, none⟩)) ∧ Inv w0 w [boxI b0 57 [p, v], ownI v 5 o1]) ?_ ?_
  · refine W.block ?_
    refine W.rangeL (i := 0) hm1 (fun rem ik1 s f w => a0.drop ik1 = rem ∧ f 11 = .int .i64 (ik1 : Int) ∧ f 10 = (.int .i64 ((a0.length : Nat) : Int)) ∧ f 9 = va0 ∧ f 3 = (.pointer (some ⟨b0, 0, none⟩)) ∧ ∃ p v, (p = .pointer none ∨ p = .pointer (some ⟨b0, 0, none⟩)) ∧ Inv w0 w [boxI b0 57 [p, v], ownI v 5 s]) ?_ ?_ ?_
    · exact ⟨List.drop_zero, rfl, rfl, rfl, rfl, _, _, .inl rfl, H⟩
    · rintro yk1 xs ik1 z st f w ⟨hdropk1, hf11, hf10, hf9, hf3, p, v, hp, H⟩ hm2
      have hltk1 := drop_lt hdropk1; have hixk1 := drop_idx hdropk1
      obtain ⟨u1, rfl⟩ : ∃ u1, f = (upd (upd (upd (upd u1 11 (.int .i64 (ik1 : Int))) 10 (.int .i64 ((a0.length : Nat) : Int))) 9 va0) 3 (.pointer (some ⟨b0, 0, none⟩))) := ⟨f, by rw [upd_self hf11, upd_self hf10, upd_self hf9, upd_self hf3]⟩
      have hinck1 := addI_lt hltk1 (H.arg ha0).len_le
      refine W.seq ?_
      refine W.region ?_
      refine O.lss rfl rfl rfl rfl ?_
      refine WL.nil ?_
      refine W.seq ?_
      refine W.cond_true (congrArg Value.bool (decide_eq_true hltk1)) ?_
      refine W.skip ?_
      refine W.seq ?_
      refine W.block ?_
      refine W.seq ?_
      refine W.region ?_
      obtain ⟨p1, hp1, hrp1⟩ := fix_indexAddr Tryd.underlying22 sz34 ha0 hixk1
      refine hrp1 rfl rfl rfl rfl ?_
      refine O.loadA [(.int .i64 yk1.Day), (.bool yk1.Found), (.int .i64 yk1.Error)] ag34 rfl rfl rfl rfl ((hp1.mono H.base).flat) ?_
      refine O.alloc [(.int .i64 0), (.bool false), (.int .i64 0)] ze34 H rfl rfl rfl ?_
      intro b1 w1 H hb1
      refine O.store 2 0 [(.int .i64 yk1.Day), (.bool yk1.Found), (.int .i64 yk1.Error)] [(.int .i64 yk1.Day), (.bool yk1.Found), (.int .i64 yk1.Error)] sz34 H rfl rfl rfl rfl rfl rfl ⟨⟨rfl, rfl⟩, rfl⟩ (one_cons rfl (one_cons rfl (one_cons rfl one_nil))) ?_
      intro w2 H
      refine WL.nil ?_
      obtain ⟨ln, hln, hm2⟩ := bind_some hm2
      obtain ⟨z2, hz2, hm2⟩ := bind_some hm2
      obtain rfl := Option.some.inj hm2
      unfold addL at hz2
      obtain ⟨hlen, hz2⟩ : z.length + ln.size ≤ 1099511627776 ∧ z ++ Fw.bytes ln = z2 := by
        split at hz2
        · rename_i hh; exact ⟨hh, Option.some.inj hz2⟩
        · cases hz2
      subst hz2
      unfold noongunref09_lineN at hln
      obtain ⟨t1, hy1, hln⟩ := bind_some hln
      obtain ⟨t2, ht2, hln⟩ := bind_some hln
      obtain rfl := Option.some.inj hln
      refine W.region ?_
      refine O.loadA [(.int .i64 yk1.Day), (.bool yk1.Found), (.int .i64 yk1.Error)] ag34 rfl rfl rfl rfl (H.cell 2 rfl) ?_
      refine O.call Tryd.call24 rfl rfl rfl (c_noongunref09_line (hT.mono H.base) yk1 hy1) ?_
      rintro _ w3 hb3 rfl
      have H := H.ext hb3
      refine O.addS rfl rfl rfl rfl ht2 ?_
      refine O.writeS 0 1 bldOk H rfl rfl (by omega) hp hlen Tryd.call26 rfl rfl rfl rfl ?_
      intro v' w' H
      refine WL.nil ?_
      refine W.region ?_
      refine O.add rfl rfl rfl rfl hinck1 ?_
      refine O.move (v := .int .i64 ((ik1 : Int) + 1)) rfl rfl rfl ?_
      refine WL.nil ?_
      exact ⟨_, rfl, drop_next hdropk1, rfl, rfl, rfl, rfl, _, _, .inr rfl, H⟩
    · rintro ik1 z f w ⟨hdropk1, hf11, hf10, hf9, hf3, p, v, hp, H⟩ hfin
      have hltk1 := drop_end hdropk1
      obtain ⟨u1, rfl⟩ : ∃ u1, f = (upd (upd (upd (upd u1 11 (.int .i64 (ik1 : Int))) 10 (.int .i64 ((a0.length : Nat) : Int))) 9 va0) 3 (.pointer (some ⟨b0, 0, none⟩))) := ⟨f, by rw [upd_self hf11, upd_self hf10, upd_self hf9, upd_self hf3]⟩
      refine W.seq ?_
      refine W.region ?_
      refine O.lss rfl rfl rfl rfl ?_
      refine WL.nil ?_
      refine W.seq ?_
      refine W.cond_false (congrArg Value.bool (decide_eq_false hltk1)) ?_
      refine W.exit ?_
      obtain rfl : z = o1 := hfin
      refine xT rfl ?_
      exact ⟨rfl, p, v, hp, H⟩
  · rintro f w ⟨hf3, p, v, hp, H⟩
    obtain ⟨u3, rfl⟩ : ∃ u3, f = (upd u3 3 (.pointer (some ⟨b0, 0, none⟩))) := ⟨f, by rw [upd_self hf3]⟩
    refine W.seq ?_
    refine W.region ?_
    refine O.strS 0 1 bldOk H rfl rfl (by omega) hp Tryd.call28 rfl rfl rfl ?_
    intro w' H
    refine O.assign (v := (.string ⟨o1.toArray⟩)) rfl rfl rfl ?_
    refine WL.nil ?_
    refine W.ret ?_
    have hq : (⟨o1.toArray⟩ : ByteArray) = r0 := Option.some.inj hm
    subst hq
    exact ends1 Tryd.results13 rfl ⟨_, rfl, H.base, rfl⟩

theorem c_noongunref09_Hash {w0 : World} (a0 : ByteArray) {r0 : Int} (hm : noongunref09_Hash a0 = some r0) :
    Calls Tryd.prog 18 #[(.string a0)] w0 (Ret w0 fun _ v => v = (.int .u64 r0)) := by
  unfold noongunref09_Hash at hm
  refine calls_of_W Tryd.func18 rfl Tryd.ntmps18 (Nat.le_of_ble_eq_true rfl) ?_
  have H := Inv.start (w := w0)
  refine W.seq ?_
  refine W.region ?_
  refine O.assign (v := (.int .u64 0)) rfl rfl rfl ?_
  refine WL.nil ?_
  refine W.seq ?_
  refine W.region ?_
  refine O.assign (v := (.int .u64 14695981039346656037)) rfl rfl rfl ?_
  refine WL.nil ?_
  refine W.seq ?_
  refine W.seq ?_
  refine W.region ?_
  refine O.move (v := (.string a0)) rfl rfl rfl ?_
  refine O.lenStr Tryd.underlying9 rfl rfl rfl ?_
  refine O.move (v := (.int .i64 0)) rfl rfl rfl ?_
  refine WL.nil ?_
  obtain ⟨s1, hm1, hm⟩ := bind_some hm
  refine W.via (fun f w => f 3 = (.int .u64 s1) ∧ Inv w0 w []) ?_ ?_
  · skip
    refine W.block ?_
    obtain ⟨hbdik1, hm1⟩ := chk_some hm1
    refine W.rangeN (i := 0) hm1 (fun rem ik1 s f w => ∃ z2 : Int, z2 = s ∧ (ik1 : Int) + rem = max 0 ((a0.size : Nat) : Int) ∧ f 7 = .int .i64 (ik1 : Int) ∧ f 6 = (.int .i64 ((a0.size : Nat) : Int)) ∧ f 0 = (.string a0) ∧ f 3 = (.int .u64 z2) ∧ Inv w0 w []) ?_ ?_ ?_
    · skip
      exact ⟨_, rfl, rangeN_start, rfl, rfl, rfl, rfl, H⟩
    · skip
      rintro k ik1 _ st f w ⟨z2, rfl, hdropk1, hf7, hf6, hf0, hf3, H⟩ hm2
      have hltk1 := rangeN_lt hdropk1
      obtain ⟨u1, rfl⟩ : ∃ u1, f = (upd (upd (upd (upd u1 7 (.int .i64 (ik1 : Int))) 6 (.int .i64 ((a0.size : Nat) : Int))) 0 (.string a0)) 3 (.int .u64 z2)) := ⟨f, by rw [upd_self hf7, upd_self hf6, upd_self hf0, upd_self hf3]⟩
      have hinck1 := addI_lt hltk1 (inI_iff.1 hbdik1).2
      refine W.seq ?_
      refine W.region ?_
      refine O.lss rfl rfl rfl rfl ?_
      refine WL.nil ?_
      refine W.seq ?_
      refine W.cond_true (congrArg Value.bool (decide_eq_true hltk1)) ?_
      refine W.skip ?_
      refine W.seq ?_
      refine W.block ?_
      refine W.seq ?_
      refine W.region ?_
      refine O.move (v := (.int .i64 (ik1 : Int))) rfl rfl rfl ?_
      refine O.assign (v := (.int .i64 (ik1 : Int))) rfl rfl rfl ?_
      refine WL.nil ?_
      refine W.seq ?_
      refine W.region ?_
      refine O.move (v := (.int .u64 z2)) rfl rfl rfl ?_
      refine O.move (v := (.string a0)) rfl rfl rfl ?_
      refine O.move (v := (.int .i64 (ik1 : Int))) rfl rfl rfl ?_
      obtain ⟨x1, hx1, hm2⟩ := bind_some hm2
      refine O.indexStr Tryd.underlying9 hx1 rfl rfl rfl rfl ?_
      obtain ⟨t1, ht1, hm2⟩ := bind_some hm2
      refine O.convI (by rw [Tryd.underlying5]; rfl) Tryd.underlying25 ht1 rfl rfl rfl ?_
      refine O.xor rfl rfl rfl rfl ?_
      refine O.assign (v := (.int .u64 (bits .xor .u64 z2 t1))) rfl rfl rfl ?_
      refine WL.nil ?_
      refine W.region ?_
      refine O.move (v := (.int .u64 (bits .xor .u64 z2 t1))) rfl rfl rfl ?_
      refine O.shlU (by decide) (by decide) rfl rfl rfl rfl ?_
      refine O.move (v := (.int .u64 (bits .xor .u64 z2 t1))) rfl rfl rfl ?_
      refine O.shlU (by decide) (by decide) rfl rfl rfl rfl ?_
      refine O.addU rfl rfl rfl rfl ?_
      refine O.move (v := (.int .u64 (bits .xor .u64 z2 t1))) rfl rfl rfl ?_
      refine O.shlU (by decide) (by decide) rfl rfl rfl rfl ?_
      refine O.addU rfl rfl rfl rfl ?_
      refine O.move (v := (.int .u64 (bits .xor .u64 z2 t1))) rfl rfl rfl ?_
      refine O.shlU (by decide) (by decide) rfl rfl rfl rfl ?_
      refine O.addU rfl rfl rfl rfl ?_
      refine O.move (v := (.int .u64 (bits .xor .u64 z2 t1))) rfl rfl rfl ?_
      refine O.shlU (by decide) (by decide) rfl rfl rfl rfl ?_
      refine O.addU rfl rfl rfl rfl ?_
      refine O.move (v := (.int .u64 (bits .xor .u64 z2 t1))) rfl rfl rfl ?_
      refine O.shlU (by decide) (by decide) rfl rfl rfl rfl ?_
      refine O.addU rfl rfl rfl rfl ?_
      refine O.move (v := (.int .u64 (bits .xor .u64 z2 t1))) rfl rfl rfl ?_
      refine O.addU rfl rfl rfl rfl ?_
      refine O.assign (v := (.int .u64 (wU ((wU ((wU ((wU ((wU ((wU ((wU ((bits .xor .u64 z2 t1) * 2 ^ 40)) + (wU ((bits .xor .u64 z2 t1) * 2 ^ 8)))) + (wU ((bits .xor .u64 z2 t1) * 2 ^ 7)))) + (wU ((bits .xor .u64 z2 t1) * 2 ^ 5)))) + (wU ((bits .xor .u64 z2 t1) * 2 ^ 4)))) + (wU ((bits .xor .u64 z2 t1) * 2 ^ 1)))) + (bits .xor .u64 z2 t1))))) rfl rfl rfl ?_
      refine WL.nil ?_
      refine W.region ?_
      refine O.add rfl rfl rfl rfl hinck1 ?_
      refine O.move (v := .int .i64 ((ik1 : Int) + 1)) rfl rfl rfl ?_
      refine WL.nil ?_
      obtain rfl := Option.some.inj hm2
      exact ⟨_, rfl, _, rfl, rangeN_next hdropk1, rfl, rfl, rfl, rfl, H⟩
    · skip
      rintro ik1 _ f w ⟨z2, rfl, hdropk1, hf7, hf6, hf0, hf3, H⟩ hfin
      have hltk1 := rangeN_end hdropk1
      obtain ⟨u2, rfl⟩ : ∃ u2, f = (upd (upd (upd (upd u2 7 (.int .i64 (ik1 : Int))) 6 (.int .i64 ((a0.size : Nat) : Int))) 0 (.string a0)) 3 (.int .u64 z2)) := ⟨f, by rw [upd_self hf7, upd_self hf6, upd_self hf0, upd_self hf3]⟩
      refine W.seq ?_
      refine W.region ?_
      refine O.lss rfl rfl rfl rfl ?_
      refine WL.nil ?_
      refine W.seq ?_
      refine W.cond_false (congrArg Value.bool (decide_eq_false hltk1)) ?_
      refine W.exit ?_
      have hq : z2 = s1 := hfin
      subst hq
      refine xT rfl ?_
      exact ⟨rfl, H⟩
  · skip
    rintro f w ⟨hf3, H⟩
    obtain ⟨u3, rfl⟩ : ∃ u3, f = (upd u3 3 (.int .u64 s1)) := ⟨f, by rw [upd_self hf3]⟩
    refine W.seq ?_
    refine W.region ?_
    refine O.move (v := (.int .u64 s1)) rfl rfl rfl ?_
    refine O.assign (v := (.int .u64 s1)) rfl rfl rfl ?_
    refine WL.nil ?_
    refine W.ret ?_
    have hq : s1 = r0 := Option.some.inj (show some s1 = some r0 from hm)
    subst hq
    exact ends1 Tryd.results18 rfl ⟨_, rfl, H.base, rfl⟩

theorem c_noongunref09_Digest {w0 : World} (hT : TabH Tryd.prog w0) (va0 : Value) (a0 : (List GEntry)) (ha0 : SliceR w0 va0 a0) {r0 : Int} (hm : noongunref09_Digest a0 = some r0) :
    Calls Tryd.prog 8 #[va0] w0 (Ret w0 fun _ v => v = (.int .u64 r0)) := by
  unfold noongunref09_Digest at hm
  refine calls_of_W Tryd.func8 rfl Tryd.ntmps8 (Nat.le_of_ble_eq_true rfl) ?_
  have H := Inv.start (w := w0)
  refine W.seq ?_
  refine W.region ?_
  refine O.assign (v := (.int .u64 0)) rfl rfl rfl ?_
  refine WL.nil ?_
  refine W.seq ?_
  refine W.region ?_
  refine O.move (v := va0) rfl rfl rfl ?_
  obtain ⟨t1, hy1, hm⟩ := bind_some hm
  refine O.call Tryd.call13 rfl rfl rfl (c_noongunref09_Format (hT.mono H.base) _ _ (H.arg ha0) hy1) ?_
  rintro _ w1 hb1 rfl
  have H := H.ext hb1
  obtain ⟨t2, hy2, hm⟩ := bind_some hm
  refine O.call Tryd.call18 rfl rfl rfl (c_noongunref09_Hash _ hy2) ?_
  rintro _ w2 hb2 rfl
  have H := H.ext hb2
  refine O.assign (v := (.int .u64 t2)) rfl rfl rfl ?_
  refine WL.nil ?_
  refine W.ret ?_
  have hq : t2 = r0 := Option.some.inj (show some t2 = some r0 from hm)
  subst hq
  exact ends1 Tryd.results8 rfl ⟨_, rfl, H.base, rfl⟩

set_option maxRecDepth 20000 in
theorem c_noongunlaw09_LedgerDigests {w0 : World} (hT : TabH Tryd.prog w0) (va0 : Value) (a0 : (List GEntry)) (ha0 : SliceR w0 va0 a0) {r0 : Bool} (hm : noongunlaw09_LedgerDigests a0 = some r0) :
    Calls Tryd.prog 3 #[va0] w0 (Ret w0 fun _ v => v = (.bool r0)) := by
  unfold noongunlaw09_LedgerDigests at hm
  refine calls_of_W Tryd.func3 rfl Tryd.ntmps3 (Nat.le_of_ble_eq_true rfl) ?_
  have H := Inv.start (w := w0)
  refine W.seq ?_
  refine W.region ?_
  refine O.assign (v := (.bool false)) rfl rfl rfl ?_
  refine WL.nil ?_
  refine W.seq ?_
  refine W.seq ?_
  refine W.region ?_
  refine O.move (v := va0) rfl rfl rfl ?_
  obtain ⟨t1, hy1, hm⟩ := bind_some hm
  refine O.call Tryd.call5 rfl rfl rfl (c_noongunlaw09_fit _ _ (H.arg ha0) hy1) ?_
  rintro _ w1 hb1 rfl
  have H := H.ext hb1
  refine O.not rfl rfl rfl ?_
  refine WL.nil ?_
  rcases ite_some hm with ⟨hc1, hm⟩ | ⟨hc1, hm⟩
  · refine W.cond_true (congrArg Value.bool hc1) ?_
    refine W.seq ?_
    refine W.region ?_
    obtain ⟨t2, hy2, hm⟩ := bind_some hm
    refine O.call Tryd.call6 rfl rfl rfl (c_noongunlaw09_awake  hy2) ?_
    rintro _ w2 hb2 rfl
    have H := H.ext hb2
    refine O.assign (v := (.bool t2)) rfl rfl rfl ?_
    refine WL.nil ?_
    refine W.ret ?_
    have hq : t2 = r0 := Option.some.inj (show some t2 = some r0 from hm)
    subst hq
    exact ends1 Tryd.results3 rfl ⟨_, rfl, H.base, rfl⟩
  · refine W.cond_false (congrArg Value.bool hc1) ?_
    refine W.skip ?_
    refine W.seq ?_
    refine W.region ?_
    refine O.move (v := va0) rfl rfl rfl ?_
    obtain ⟨t3, hy3, hm⟩ := bind_some hm
    refine O.call Tryd.call7 rfl rfl rfl (c_ledger_Digest (hT.mono H.base) _ _ (H.arg ha0) hy3) ?_
    rintro _ w3 hb3 rfl
    have H := H.ext hb3
    refine O.assign (v := (.int .u64 t3)) rfl rfl rfl ?_
    refine WL.nil ?_
    refine W.seq ?_
    refine W.region ?_
    refine O.move (v := (.int .u64 t3)) rfl rfl rfl ?_
    refine O.move (v := va0) rfl rfl rfl ?_
    obtain ⟨t4, hy4, hm⟩ := bind_some hm
    refine O.call Tryd.call8 rfl rfl rfl (c_noongunref09_Digest (hT.mono H.base) _ _ (H.arg ha0) hy4) ?_
    rintro _ w4 hb4 rfl
    have H := H.ext hb4
    refine O.eql rfl rfl rfl rfl ?_
    refine O.move (v := (.bool (t3 == t4))) rfl rfl rfl ?_
    obtain ⟨b1, hm1, hm⟩ := bind_some hm
    refine WL.cut 7 (fun f w => f 21 = .bool b1 ∧ Inv w0 w []) ?_ ?_
    · skip
      rcases ite_some hm1 with ⟨hc2, hm1⟩ | ⟨hc2, hm1⟩
      · skip
        refine WL.reset (i := 14) (v := .bool true) (congrArg Value.bool hc2) ?_
        refine O.move (v := (.int .u64 t3)) rfl rfl rfl ?_
        refine O.buildEmpty (α := GEntry) Tryd.underlying22 el34 H rfl rfl ?_
        intro b2 w5 H hb5
        refine O.move (v := va0) rfl rfl rfl ?_
        obtain ⟨t5, ht5, hm1⟩ := bind_some hm1
        refine O.append 0 Tryd.underlying22 el34 rfl H rfl (H.arg ha0) ht5 rfl rfl rfl rfl ?_
        intro v1 w6 H
        obtain ⟨t6, hy5, hm1⟩ := bind_some hm1
        refine O.call Tryd.call7 rfl rfl rfl (c_ledger_Digest (hT.mono H.base) _ _ (H.own 0 rfl) hy5) ?_
        rintro _ w7 hb6 rfl
        have H := H.ext hb6
        refine O.eql rfl rfl rfl rfl ?_
        refine O.pick_true (v := (.bool (t3 == t6))) rfl rfl rfl rfl ?_
        refine WL.nil ?_
        have H := H.keep [] [] rfl (by decide)
        have hq : (t3 == t6) = b1 := Option.some.inj (show some (t3 == t6) = some b1 from hm1)
        subst hq
        exact ⟨rfl, H⟩
      · skip
        refine WL.reset (i := 14) (v := .bool false) (congrArg Value.bool hc2) ?_
        refine O.skip rfl rfl ?_
        refine O.skip rfl rfl ?_
        refine O.skip rfl rfl ?_
        refine O.skip rfl rfl ?_
        refine O.skip rfl rfl ?_
        refine O.skip rfl rfl ?_
        refine O.pick_false (v := (.bool false)) rfl rfl rfl rfl ?_
        refine WL.nil ?_
        have hq : false = b1 := Option.some.inj (show some false = some b1 from hm1)
        subst hq
        exact ⟨rfl, H⟩
    · skip
      rintro f w ⟨hf21, H⟩
      obtain ⟨u1, rfl⟩ : ∃ u1, f = (upd u1 21 (.bool b1)) := ⟨f, by rw [upd_self hf21]⟩
      refine O.move (v := (.bool b1)) rfl rfl rfl ?_
      obtain ⟨b3, hm2, hm⟩ := bind_some hm
      refine WL.cut 2 (fun f w => f 24 = .bool b3 ∧ Inv w0 w []) ?_ ?_
      · skip
        rcases ite_some hm2 with ⟨hc3, hm2⟩ | ⟨hc3, hm2⟩
        · skip
          refine WL.reset (i := 22) (v := .bool true) (congrArg Value.bool hc3) ?_
          obtain ⟨t7, hy6, hm2⟩ := bind_some hm2
          refine O.call Tryd.call6 rfl rfl rfl (c_noongunlaw09_awake  hy6) ?_
          rintro _ w8 hb7 rfl
          have H := H.ext hb7
          refine O.pick_true (v := (.bool t7)) rfl rfl rfl rfl ?_
          refine WL.nil ?_
          have hq : t7 = b3 := Option.some.inj (show some t7 = some b3 from hm2)
          subst hq
          exact ⟨rfl, H⟩
        · skip
          refine WL.reset (i := 22) (v := .bool false) (congrArg Value.bool hc3) ?_
          refine O.skip rfl rfl ?_
          refine O.pick_false (v := (.bool false)) rfl rfl rfl rfl ?_
          refine WL.nil ?_
          have hq : false = b3 := Option.some.inj (show some false = some b3 from hm2)
          subst hq
          exact ⟨rfl, H⟩
      · skip
        rintro f w ⟨hf24, H⟩
        obtain ⟨u2, rfl⟩ : ∃ u2, f = (upd u2 24 (.bool b3)) := ⟨f, by rw [upd_self hf24]⟩
        refine O.assign (v := (.bool b3)) rfl rfl rfl ?_
        refine WL.nil ?_
        refine W.ret ?_
        have hq : b3 = r0 := Option.some.inj (show some b3 = some r0 from hm)
        subst hq
        exact ends1 Tryd.results3 rfl ⟨_, rfl, H.base, rfl⟩

end Go.Proofs
