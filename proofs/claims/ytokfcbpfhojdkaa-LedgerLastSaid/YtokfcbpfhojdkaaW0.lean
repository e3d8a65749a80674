/-
  The walks: each function does what its model says, where the model has a value. No other condition.
-/
import Derived.Test.YtokfcbpfhojdkaaRows
import Derived.Test.YtokfcbpfhojdkaaM
import Derived.Test.YtokfcbpfhojdkaaFwV
import Derived.Test.YtokfcbpfhojdkaaFwLa
import Derived.Test.YtokfcbpfhojdkaaShelf
import Derived.Test.YtokfcbpfhojdkaaFwUp
namespace Go.Proofs
open Go.Fw Go.RowKit Go.Shelf Go.Maps Go.Sort
theorem bd42_0_1 : ∀ (v0 : Int) (v1 : Bool) (w : World), (Instr.build 42 #[(0, (.int .i64 v0)), (1, (.bool v1))]).run Try.prog w = .ok (.agg #[(.int .i64 v0), (.bool v1)]) w := by
  intro v0 v1 w
  simp [Instr.build, Try.zeroValue42, Try.runUnderlying42, Instr.fill, Try.sizeOf3, Try.sizeOf4, Value.cells]
theorem eq42 : EqT Try.prog 42 GKey := by
  refine ⟨Try.eqGuardType42, ?_⟩
  intro a b w
  obtain ⟨a0, a1⟩ := a
  obtain ⟨b0, b1⟩ := b
  have hs : Try.prog.underlying 42 = some (.struct (Try.prog.fieldsOf 42)) := by kernel_rfl
  rw [run_equalIn_agg w 9999 42 _ _ hs Try.stoodInHeld42]
  simp only [Program.fieldsOf, Try.underlying42]
  simp [Op.eqFields, Flat.cells, part, Try.isAgg3, Try.isAgg4, run_equalIn_bool' _ _ _ _ _ Try.underlying4, run_equalIn_int _ _ _ _ _ _ _ Try.underlying3]
  cases h0 : decide (a0 = b0) <;> cases h1 : decide (a1 = b1) <;> simp_all
theorem ck42 : ∀ (n : Nat) (k : GKey) (b : Bool) (w : World), (Instr.checkKey b (n + 1 + 1) 42 (.agg (Flat.cells k).toArray)).run Try.prog w = .ok () w := by
  intro n k b w
  obtain ⟨k0, k1⟩ := k
  simp only [Instr.checkKey, Sem.run_bind, run_underlying Try.underlying42, Result.andThen_ok]
  simp [Flat.cells, part, Try.isAgg3, Try.isAgg4]
theorem st42 : ∀ (n : Nat) (k : GKey), Instr.sameBits (n + 1) (.agg (Flat.cells k).toArray) (.agg (Flat.cells k).toArray) = true := by
  intro n k
  obtain ⟨k0, k1⟩ := k
  simp [Instr.sameBits, Flat.cells]
theorem key42 : KeyT Try.prog 42 GKey := KeyT.struct Try.underlying42 (fun k b w => ck42 9998 k b w) (fun a b w => eq42.2 a b w) (fun k => st42 9999 k)
theorem ze3 : ZeroT Try.prog 3 (.int .i64 (0)) := ZeroT.mk (by kernel_rfl)
theorem sc3 : ScalarT Try.prog 3 := ScalarT.mk Try.underlying3 rfl
theorem sz36 : SizeT Try.prog 36 3 := SizeT.mk (by kernel_rfl)
theorem ag36 : AggT Try.prog 36 3 := AggT.mk Try.underlying36 rfl (by kernel_rfl)
theorem fd36_0 : FieldT Try.prog 36 0 0 := FieldT.mk (k := 1) Try.underlying36 rfl rfl (by kernel_rfl) (by decide)
theorem fd36_2 : FieldT Try.prog 36 2 2 := FieldT.mk (k := 1) Try.underlying36 rfl rfl (by kernel_rfl) (by decide)
theorem ze42 : ZeroT Try.prog 42 (.agg #[(.int .i64 (0)), (.bool false)]) := ZeroT.mk (by kernel_rfl)
theorem fd36_1 : FieldT Try.prog 36 1 1 := FieldT.mk (k := 1) Try.underlying36 rfl rfl (by kernel_rfl) (by decide)
theorem sc4 : ScalarT Try.prog 4 := ScalarT.mk Try.underlying4 rfl
theorem sz42 : SizeT Try.prog 42 2 := SizeT.mk (by kernel_rfl)
theorem ag42 : AggT Try.prog 42 2 := AggT.mk Try.underlying42 rfl (by kernel_rfl)
theorem ze36 : ZeroT Try.prog 36 (.agg #[(.int .i64 (0)), (.bool false), (.int .i64 (0))]) := ZeroT.mk (by kernel_rfl)
theorem fol : Try.prog.follows .mixedOrders = true := by kernel_rfl
theorem ze4 : ZeroT Try.prog 4 (.bool false) := ZeroT.mk (by kernel_rfl)
theorem el3 : ElemT Try.prog 3 1 8 := ElemT.mk (z := (.int .i64 (0))) (by kernel_rfl) rfl
theorem sz3 : SizeT Try.prog 3 1 := SizeT.mk (by kernel_rfl)
theorem bd36_0_2 : ∀ (v0 : Int) (v2 : Int) (w : World), (Instr.build 36 #[(0, (.int .i64 v0)), (2, (.int .i64 v2))]).run Try.prog w = .ok (.agg #[(.int .i64 v0), (.bool false), (.int .i64 v2)]) w := by
  intro v0 v2 w
  simp [Instr.build, Try.zeroValue36, Try.runUnderlying36, Instr.fill, Try.sizeOf3, Try.sizeOf4, Value.cells]
theorem bd36_0_1_2 : ∀ (v0 : Int) (v1 : Bool) (v2 : Int) (w : World), (Instr.build 36 #[(0, (.int .i64 v0)), (1, (.bool v1)), (2, (.int .i64 v2))]).run Try.prog w = .ok (.agg #[(.int .i64 v0), (.bool v1), (.int .i64 v2)]) w := by
  intro v0 v1 v2 w
  simp [Instr.build, Try.zeroValue36, Try.runUnderlying36, Instr.fill, Try.sizeOf3, Try.sizeOf4, Value.cells]
theorem el36 : ElemT Try.prog 36 3 24 := ElemT.mk (z := (.agg #[(.int .i64 (0)), (.bool false), (.int .i64 (0))])) (by kernel_rfl) rfl
theorem fd42_0 : FieldT Try.prog 42 0 0 := FieldT.mk (k := 1) Try.underlying42 rfl rfl (by kernel_rfl) (by decide)
theorem fd42_1 : FieldT Try.prog 42 1 1 := FieldT.mk (k := 1) Try.underlying42 rfl rfl (by kernel_rfl) (by decide)
theorem el4 : ElemT Try.prog 4 1 1 := ElemT.mk (z := (.bool false)) (by kernel_rfl) rfl
theorem sz4 : SizeT Try.prog 4 1 := SizeT.mk (by kernel_rfl)
theorem eq36 : EqT Try.prog 36 GEntry := by
  refine ⟨Try.eqGuardType36, ?_⟩
  intro a b w
  obtain ⟨a0, a1, a2⟩ := a
  obtain ⟨b0, b1, b2⟩ := b
  have hs : Try.prog.underlying 36 = some (.struct (Try.prog.fieldsOf 36)) := by kernel_rfl
  rw [run_equalIn_agg w 9999 36 _ _ hs Try.stoodInHeld36]
  simp only [Program.fieldsOf, Try.underlying36]
  simp [Op.eqFields, Flat.cells, part, Try.isAgg3, Try.isAgg4, run_equalIn_bool' _ _ _ _ _ Try.underlying4, run_equalIn_int _ _ _ _ _ _ _ Try.underlying3]
  cases h0 : decide (a0 = b0) <;> cases h1 : decide (a1 = b1) <;> cases h2 : decide (a2 = b2) <;> simp_all
theorem c_noongunlaw09_small {w0 : World} (va0 : Value) (a0 : (List GEntry)) (ha0 : SliceR w0 va0 a0) {r0 : Bool} (hm : noongunlaw09_small a0 = some r0) :
    Calls Try.prog 4 #[va0] w0 (Ret w0 fun _ v => v = (.bool r0)) := by
  unfold noongunlaw09_small at hm
  refine calls_of_W Try.func4 rfl Try.ntmps4 (Nat.le_of_ble_eq_true rfl) ?_
  have H := Inv.start (w := w0)
  refine W.seq ?_
  refine W.region ?_
  refine O.assign (v := (.bool false)) rfl rfl rfl ?_
  refine WL.nil ?_
  refine W.seq ?_
  refine W.region ?_
  refine O.move (v := va0) rfl rfl rfl ?_
  refine O.lenS Try.underlying22 (H.arg ha0) rfl rfl rfl ?_
  refine O.leq rfl rfl rfl rfl ?_
  refine O.assign (v := (.bool (decide (((a0.length : Nat) : Int) ≤ 30)))) rfl rfl rfl ?_
  refine WL.nil ?_
  refine W.ret ?_
  have hq : (decide (((a0.length : Nat) : Int) ≤ 30)) = r0 := Option.some.inj (show some (decide (((a0.length : Nat) : Int) ≤ 30)) = some r0 from hm)
  subst hq
  exact ends1 Try.results4 rfl ⟨_, rfl, H.base, rfl⟩

theorem c_ledger_page_off {w0 : World} (va0 : Value) (a0 : (List (GKey × Int))) (ha0 : MapR w0 va0 a0) (a1 : Int) {r0 : Int} {r1 : Bool} (hm : ledger_page_off a0 a1 = some (r0, r1)) :
    Calls Try.prog 26 #[va0, (.int .i64 a1)] w0 (Ret w0 fun _ v => v = .tuple #[(.int .i64 r0), (.bool r1)]) := by
  unfold ledger_page_off at hm
  refine calls_of_W Try.func26 rfl Try.ntmps26 (Nat.le_of_ble_eq_true rfl) ?_
  have H := Inv.start (w := w0)
  refine W.seq ?_
  refine W.region ?_
  refine O.assign (v := (.int .i64 0)) rfl rfl rfl ?_
  refine O.assign (v := (.bool false)) rfl rfl rfl ?_
  refine WL.nil ?_
  refine W.seq ?_
  refine W.region ?_
  refine O.move (v := va0) rfl rfl rfl ?_
  refine O.move (v := (.int .i64 a1)) rfl rfl rfl ?_
  refine O.build (v := (.agg (Flat.cells (GKey.mk a1 false)).toArray)) (fun w => bd42_0_1 _ _ w) rfl rfl rfl ?_
  refine O.lookup2 (z := 0) (GKey.mk a1 false) Try.underlying39 key42 ze3 (H.argM ha0) rfl rfl rfl rfl ?_
  refine O.move (v := (.tuple #[(.int .i64 ((mget a0 (GKey.mk a1 false)).getD 0)), (.bool (mget a0 (GKey.mk a1 false)).isSome)])) rfl rfl rfl ?_
  refine O.extract (v := (.int .i64 ((mget a0 (GKey.mk a1 false)).getD 0))) rfl rfl rfl rfl ?_
  refine O.extract (v := (.bool (mget a0 (GKey.mk a1 false)).isSome)) rfl rfl rfl rfl ?_
  refine O.assign (v := (.int .i64 ((mget a0 (GKey.mk a1 false)).getD 0))) rfl rfl rfl ?_
  refine O.assign (v := (.bool (mget a0 (GKey.mk a1 false)).isSome)) rfl rfl rfl ?_
  refine WL.nil ?_
  refine W.seq ?_
  refine W.region ?_
  refine O.move (v := va0) rfl rfl rfl ?_
  refine O.move (v := (.int .i64 a1)) rfl rfl rfl ?_
  refine O.build (v := (.agg (Flat.cells (GKey.mk a1 true)).toArray)) (fun w => bd42_0_1 _ _ w) rfl rfl rfl ?_
  refine O.lookup2 (z := 0) (GKey.mk a1 true) Try.underlying39 key42 ze3 (H.argM ha0) rfl rfl rfl rfl ?_
  refine O.move (v := (.tuple #[(.int .i64 ((mget a0 (GKey.mk a1 true)).getD 0)), (.bool (mget a0 (GKey.mk a1 true)).isSome)])) rfl rfl rfl ?_
  refine O.extract (v := (.int .i64 ((mget a0 (GKey.mk a1 true)).getD 0))) rfl rfl rfl rfl ?_
  refine O.extract (v := (.bool (mget a0 (GKey.mk a1 true)).isSome)) rfl rfl rfl rfl ?_
  refine O.assign (v := (.int .i64 ((mget a0 (GKey.mk a1 true)).getD 0))) rfl rfl rfl ?_
  refine O.assign (v := (.bool (mget a0 (GKey.mk a1 true)).isSome)) rfl rfl rfl ?_
  refine WL.nil ?_
  refine W.seq ?_
  refine W.region ?_
  refine O.move (v := (.int .i64 ((mget a0 (GKey.mk a1 true)).getD 0))) rfl rfl rfl ?_
  refine O.move (v := (.int .i64 ((mget a0 (GKey.mk a1 false)).getD 0))) rfl rfl rfl ?_
  obtain ⟨t1, ht1, hm⟩ := bind_some hm
  refine O.sub rfl rfl rfl rfl ht1 ?_
  refine O.move (v := (.bool (mget a0 (GKey.mk a1 false)).isSome)) rfl rfl rfl ?_
  refine O.move (v := (.bool (mget a0 (GKey.mk a1 false)).isSome)) rfl rfl rfl ?_
  refine WL.cut 2 (fun f w => f 26 = (.int .i64 t1) ∧ f 30 = .bool ((mget a0 (GKey.mk a1 false)).isSome && (mget a0 (GKey.mk a1 true)).isSome) ∧ Inv w0 w []) ?_ ?_
  · skip
    rcases bool_ft (mget a0 (GKey.mk a1 false)).isSome with hc1 | hc1
    · skip
      refine WL.reset (i := 28) (v := .bool false) (congrArg Value.bool hc1) ?_
      refine O.skip rfl rfl ?_
      refine O.pick_false (v := (.bool false)) rfl rfl rfl rfl ?_
      refine WL.nil ?_
      exact ⟨rfl, congrArg Value.bool (and_f hc1), H⟩
    · skip
      refine WL.reset (i := 28) (v := .bool true) (congrArg Value.bool hc1) ?_
      refine O.move (v := (.bool (mget a0 (GKey.mk a1 true)).isSome)) rfl rfl rfl ?_
      refine O.pick_true (v := (.bool (mget a0 (GKey.mk a1 true)).isSome)) rfl rfl rfl rfl ?_
      refine WL.nil ?_
      exact ⟨rfl, congrArg Value.bool (and_t hc1), H⟩
  · skip
    rintro f w ⟨hf26, hf30, H⟩
    obtain ⟨u1, rfl⟩ : ∃ u1, f = (upd (upd u1 26 (.int .i64 t1)) 30 (.bool ((mget a0 (GKey.mk a1 false)).isSome && (mget a0 (GKey.mk a1 true)).isSome))) := ⟨f, by rw [upd_self hf26, upd_self hf30]⟩
    refine O.assign (v := (.int .i64 t1)) rfl rfl rfl ?_
    refine O.assign (v := (.bool ((mget a0 (GKey.mk a1 false)).isSome && (mget a0 (GKey.mk a1 true)).isSome))) rfl rfl rfl ?_
    refine WL.nil ?_
    refine W.ret ?_
    have hq : (t1, ((mget a0 (GKey.mk a1 false)).isSome && (mget a0 (GKey.mk a1 true)).isSome)) = (r0, r1) := Option.some.inj (show some (t1, ((mget a0 (GKey.mk a1 false)).isSome && (mget a0 (GKey.mk a1 true)).isSome)) = some (r0, r1) from hm)
    obtain ⟨he0, hq0⟩ := Prod.mk.inj hq; clear hq; subst he0
    subst hq0
    exact ends2 Try.results26 rfl rfl ⟨_, rfl, H.base, rfl⟩

theorem c_ledger_Off_c1 {w0 : World} (va0 : Value) (a0 : (List (GKey × Int))) (ha0 : MapR w0 va0 a0) (pc0 : Addr) (c0 : Int) (hc0 : ∀ j c, (Flat.cells c0)[j]? = some c → w0.cell? (pc0.add j) = some c) {r0 : Int} {r1 : Bool} (hm : ledger_Off_c1 a0 c0 = some (r0, r1)) :
    Calls Try.prog 25 #[va0, (.pointer (some pc0))] w0 (Ret w0 fun _ v => v = .tuple #[(.int .i64 r0), (.bool r1)]) := by
  unfold ledger_Off_c1 at hm
  refine calls_of_W Try.func25 rfl Try.ntmps25 (Nat.le_of_ble_eq_true rfl) ?_
  have H := Inv.start (w := w0)
  refine W.seq ?_
  refine W.region ?_
  refine O.assign (v := (.int .i64 0)) rfl rfl rfl ?_
  refine O.assign (v := (.bool false)) rfl rfl rfl ?_
  refine WL.nil ?_
  refine W.seq ?_
  refine W.region ?_
  refine O.move (v := va0) rfl rfl rfl ?_
  refine O.load sc3 rfl rfl rfl (cells_mono hc0 H.base 0 _ rfl) ?_
  obtain ⟨⟨t1, t2⟩, hy1, hm⟩ := bind_some hm
  refine O.call Try.call26 rfl rfl rfl (c_ledger_page_off _ _ (H.argM ha0) _ hy1) ?_
  rintro _ w1 hb1 rfl
  have H := H.ext hb1
  refine O.extract (v := (.int .i64 t1)) rfl rfl rfl rfl ?_
  refine O.extract (v := (.bool t2)) rfl rfl rfl rfl ?_
  refine O.assign (v := (.int .i64 t1)) rfl rfl rfl ?_
  refine O.assign (v := (.bool t2)) rfl rfl rfl ?_
  refine WL.nil ?_
  refine W.ret ?_
  have hq : (t1, t2) = (r0, r1) := Option.some.inj (show some (t1, t2) = some (r0, r1) from hm)
  obtain ⟨he0, hq0⟩ := Prod.mk.inj hq; clear hq; subst he0
  subst hq0
  exact ends2 Try.results25 rfl rfl ⟨_, rfl, H.base, rfl⟩

theorem c_slices_IndexFunc_Entry {w0 : World} (va0 : Value) (a0 : (List GEntry)) (ha0 : SliceR w0 va0 a0) (va1 : Value) (a1 : GEntry → Option (Bool)) (ha1 : ∀ (w : World), Below w0.heap.size w0 w → ∀ (x0 : GEntry) (y0 : Bool), a1 x0 = some y0 → CallsV Try.prog va1 #[(.agg (Flat.cells x0).toArray)] w (Ret w fun _ v => v = (.bool y0))) {r0 : Int} (hm : slices_IndexFunc_Entry a0 a1 = some r0) :
    Calls Try.prog 34 #[va0, va1] w0 (Ret w0 fun _ v => v = (.int .i64 r0)) := by
  unfold slices_IndexFunc_Entry at hm
  refine calls_of_W Try.func34 rfl Try.ntmps34 (Nat.le_of_ble_eq_true rfl) ?_
  have H := Inv.start (w := w0)
  refine W.seq ?_
  refine W.region ?_
  refine O.assign (v := (.int .i64 0)) rfl rfl rfl ?_
  refine WL.nil ?_
  refine W.seq ?_
  refine W.seq ?_
  refine W.region ?_
  refine O.move (v := va0) rfl rfl rfl ?_
  refine O.lenS Try.underlying22 (H.arg ha0) rfl rfl rfl ?_
  refine O.move (v := (.int .i64 0)) rfl rfl rfl ?_
  refine WL.nil ?_
  obtain ⟨o1, hm1, hm⟩ := bind_some hm
  refine W.via (fun f w => o1 = .next () ∧ Inv w0 w []) ?_ ?_
  · skip
    refine W.block ?_
    have hbdik1 := (H.arg ha0).len_le
    refine W.rangeN (i := 0) hm1 (fun rem ik1 s f w => () = s ∧ (ik1 : Int) + rem = max 0 ((a0.length : Nat) : Int) ∧ f 8 = .int .i64 (ik1 : Int) ∧ f 7 = (.int .i64 ((a0.length : Nat) : Int)) ∧ f 0 = va0 ∧ f 1 = va1 ∧ Inv w0 w []) ?_ ?_ ?_
    · skip
      exact ⟨rfl, rangeN_start, rfl, rfl, rfl, rfl, H⟩
    · skip
      rintro k ik1 _ st f w ⟨rfl, hdropk1, hf8, hf7, hf0, hf1, H⟩ hm2
      have hltk1 := rangeN_lt hdropk1
      obtain ⟨u1, rfl⟩ : ∃ u1, f = (upd (upd (upd (upd u1 8 (.int .i64 (ik1 : Int))) 7 (.int .i64 ((a0.length : Nat) : Int))) 0 va0) 1 va1) := ⟨f, by rw [upd_self hf8, upd_self hf7, upd_self hf0, upd_self hf1]⟩
      have hinck1 := addI_lt hltk1 hbdik1
      refine W.seq ?_
      refine W.region ?_
      refine O.lss rfl rfl rfl rfl ?_
      refine WL.nil ?_
      refine W.seq ?_
      refine W.cond_true (congrArg Value.bool (decide_eq_true hltk1)) ?_
      refine W.skip ?_
      refine W.seq ?_
      refine W.block ?_
      refine W.seq ?_
      refine W.region ?_
      refine O.move (v := (.int .i64 (ik1 : Int))) rfl rfl rfl ?_
      refine O.assign (v := (.int .i64 (ik1 : Int))) rfl rfl rfl ?_
      refine WL.nil ?_
      refine W.seq ?_
      refine W.region ?_
      refine O.move (v := va1) rfl rfl rfl ?_
      refine O.move (v := va0) rfl rfl rfl ?_
      refine O.move (v := (.int .i64 (ik1 : Int))) rfl rfl rfl ?_
      obtain ⟨x1, hx1, hm2⟩ := bind_some hm2
      obtain ⟨p1, hp1, hrp1⟩ := fix_indexAddr Try.underlying22 sz36 ha0 hx1
      refine hrp1 rfl rfl rfl rfl ?_
      refine O.loadA [(.int .i64 x1.Day), (.bool x1.Found), (.int .i64 x1.Error)] ag36 rfl rfl rfl rfl ((hp1.mono H.base).flat) ?_
      obtain ⟨t1, hy1, hm2⟩ := bind_some hm2
      refine O.callV rfl rfl rfl rfl (ha1 _ H.base x1 _ hy1) ?_
      rintro _ w1 hb1 rfl
      have H := H.ext hb1
      refine WL.nil ?_
      rcases ite_some hm2 with ⟨hc1, hm2⟩ | ⟨hc1, hm2⟩
      · refine W.cond_true (congrArg Value.bool hc1) ?_
        refine W.seq ?_
        refine W.region ?_
        refine O.move (v := (.int .i64 (ik1 : Int))) rfl rfl rfl ?_
        refine O.assign (v := (.int .i64 (ik1 : Int))) rfl rfl rfl ?_
        refine WL.nil ?_
        refine W.ret ?_
        obtain rfl := Option.some.inj hm2
        refine ⟨_, rfl, ?_⟩
        rintro rfl
        have hq : (ik1 : Int) = r0 := Option.some.inj (show some (ik1 : Int) = some r0 from hm)
        subst hq
        exact ends1 Try.results34 rfl ⟨_, rfl, H.base, rfl⟩
      · refine W.cond_false (congrArg Value.bool hc1) ?_
        refine W.skip ?_
        refine W.region ?_
        refine O.add rfl rfl rfl rfl hinck1 ?_
        refine O.move (v := .int .i64 ((ik1 : Int) + 1)) rfl rfl rfl ?_
        refine WL.nil ?_
        obtain rfl := Option.some.inj hm2
        exact ⟨_, rfl, rfl, rangeN_next hdropk1, rfl, rfl, rfl, rfl, H⟩
    · skip
      rintro ik1 _ f w ⟨rfl, hdropk1, hf8, hf7, hf0, hf1, H⟩ hfin
      have hltk1 := rangeN_end hdropk1
      obtain ⟨u2, rfl⟩ : ∃ u2, f = (upd (upd (upd (upd u2 8 (.int .i64 (ik1 : Int))) 7 (.int .i64 ((a0.length : Nat) : Int))) 0 va0) 1 va1) := ⟨f, by rw [upd_self hf8, upd_self hf7, upd_self hf0, upd_self hf1]⟩
      refine W.seq ?_
      refine W.region ?_
      refine O.lss rfl rfl rfl rfl ?_
      refine WL.nil ?_
      refine W.seq ?_
      refine W.cond_false (congrArg Value.bool (decide_eq_false hltk1)) ?_
      refine W.exit ?_
      obtain rfl : Ctl.next () = o1 := hfin
      refine xT rfl ?_
      exact ⟨rfl, H⟩
  · skip
    rintro f w ⟨rfl, H⟩
    refine W.seq ?_
    refine W.region ?_
    refine O.assign (v := (.int .i64 (-1))) rfl rfl rfl ?_
    refine WL.nil ?_
    refine W.ret ?_
    have hq : (-1) = r0 := Option.some.inj (show some (-1) = some r0 from hm)
    subst hq
    exact ends1 Try.results34 rfl ⟨_, rfl, H.base, rfl⟩

theorem c_slices_ContainsFunc_Entry {w0 : World} (va0 : Value) (a0 : (List GEntry)) (ha0 : SliceR w0 va0 a0) (va1 : Value) (a1 : GEntry → Option (Bool)) (ha1 : ∀ (w : World), Below w0.heap.size w0 w → ∀ (x0 : GEntry) (y0 : Bool), a1 x0 = some y0 → CallsV Try.prog va1 #[(.agg (Flat.cells x0).toArray)] w (Ret w fun _ v => v = (.bool y0))) {r0 : Bool} (hm : slices_ContainsFunc_Entry a0 a1 = some r0) :
    Calls Try.prog 27 #[va0, va1] w0 (Ret w0 fun _ v => v = (.bool r0)) := by
  unfold slices_ContainsFunc_Entry at hm
  refine calls_of_W Try.func27 rfl Try.ntmps27 (Nat.le_of_ble_eq_true rfl) ?_
  have H := Inv.start (w := w0)
  refine W.seq ?_
  refine W.region ?_
  refine O.assign (v := (.bool false)) rfl rfl rfl ?_
  refine WL.nil ?_
  refine W.seq ?_
  refine W.region ?_
  refine O.move (v := va0) rfl rfl rfl ?_
  refine O.move (v := va1) rfl rfl rfl ?_
  obtain ⟨t1, hy1, hm⟩ := bind_some hm
  refine O.call Try.call34 rfl rfl rfl (c_slices_IndexFunc_Entry _ _ (H.arg ha0) va1 a1 (fun w hw => ha1 w (H.base.trans (hw.mono H.base.size))) hy1) ?_
  rintro _ w1 hb1 rfl
  have H := H.ext hb1
  refine O.geq rfl rfl rfl rfl ?_
  refine O.assign (v := (.bool (decide (0 ≤ t1)))) rfl rfl rfl ?_
  refine WL.nil ?_
  refine W.ret ?_
  have hq : (decide (0 ≤ t1)) = r0 := Option.some.inj (show some (decide (0 ≤ t1)) = some r0 from hm)
  subst hq
  exact ends1 Try.results27 rfl ⟨_, rfl, H.base, rfl⟩

theorem c_ledger_within {w0 : World} (a0 : Int) (a1 : Int) (a2 : Int) {r0 : Bool} (hm : ledger_within a0 a1 a2 = some r0) :
    Calls Try.prog 35 #[(.int .i64 a0), (.int .i64 a1), (.int .i64 a2)] w0 (Ret w0 fun _ v => v = (.bool r0)) := by
  unfold ledger_within at hm
  refine calls_of_W Try.func35 rfl Try.ntmps35 (Nat.le_of_ble_eq_true rfl) ?_
  have H := Inv.start (w := w0)
  refine W.seq ?_
  refine W.region ?_
  refine O.assign (v := (.bool false)) rfl rfl rfl ?_
  refine WL.nil ?_
  refine W.seq ?_
  refine W.region ?_
  refine O.move (v := (.int .i64 a0)) rfl rfl rfl ?_
  refine O.move (v := (.int .i64 a1)) rfl rfl rfl ?_
  refine O.geq rfl rfl rfl rfl ?_
  refine O.move (v := (.bool (decide (a1 ≤ a0)))) rfl rfl rfl ?_
  refine WL.cut 4 (fun f w => f 14 = .bool ((decide (a1 ≤ a0)) && (decide (a0 ≤ a2))) ∧ Inv w0 w []) ?_ ?_
  · skip
    rcases bool_ft (decide (a1 ≤ a0)) with hc1 | hc1
    · skip
      refine WL.reset (i := 10) (v := .bool false) (congrArg Value.bool hc1) ?_
      refine O.skip rfl rfl ?_
      refine O.skip rfl rfl ?_
      refine O.skip rfl rfl ?_
      refine O.pick_false (v := (.bool false)) rfl rfl rfl rfl ?_
      refine WL.nil ?_
      exact ⟨congrArg Value.bool (and_f hc1), H⟩
    · skip
      refine WL.reset (i := 10) (v := .bool true) (congrArg Value.bool hc1) ?_
      refine O.move (v := (.int .i64 a0)) rfl rfl rfl ?_
      refine O.move (v := (.int .i64 a2)) rfl rfl rfl ?_
      refine O.leq rfl rfl rfl rfl ?_
      refine O.pick_true (v := (.bool (decide (a0 ≤ a2)))) rfl rfl rfl rfl ?_
      refine WL.nil ?_
      exact ⟨congrArg Value.bool (and_t hc1), H⟩
  · skip
    rintro f w ⟨hf14, H⟩
    obtain ⟨u1, rfl⟩ : ∃ u1, f = (upd u1 14 (.bool ((decide (a1 ≤ a0)) && (decide (a0 ≤ a2))))) := ⟨f, by rw [upd_self hf14]⟩
    refine O.assign (v := (.bool ((decide (a1 ≤ a0)) && (decide (a0 ≤ a2))))) rfl rfl rfl ?_
    refine WL.nil ?_
    refine W.ret ?_
    have hq : ((decide (a1 ≤ a0)) && (decide (a0 ≤ a2))) = r0 := Option.some.inj (show some ((decide (a1 ≤ a0)) && (decide (a0 ≤ a2))) = some r0 from hm)
    subst hq
    exact ends1 Try.results35 rfl ⟨_, rfl, H.base, rfl⟩

theorem c_ledger_fine {w0 : World} (a0 : GEntry) {r0 : Bool} (hm : ledger_fine a0 = some r0) :
    Calls Try.prog 29 #[(.agg (Flat.cells a0).toArray)] w0 (Ret w0 fun _ v => v = (.bool r0)) := by
  unfold ledger_fine at hm
  refine calls_of_W Try.func29 rfl Try.ntmps29 (Nat.le_of_ble_eq_true rfl) ?_
  have H := Inv.start (w := w0)
  refine W.seq ?_
  refine W.region ?_
  refine O.box [(.int .i64 a0.Day), (.bool a0.Found), (.int .i64 a0.Error)] H rfl rfl rfl rfl ?_
  intro b1 w1 H hb1
  refine O.assign (v := (.bool false)) rfl rfl rfl ?_
  refine WL.nil ?_
  refine W.seq ?_
  refine W.region ?_
  refine O.fieldAddr fd36_0 rfl rfl rfl ?_
  refine O.load sc3 rfl rfl rfl (H.cell 0 rfl 0 _ rfl) ?_
  obtain ⟨t1, hy1, hm⟩ := bind_some hm
  refine O.call Try.call35 rfl rfl rfl (c_ledger_within _ _ _ hy1) ?_
  rintro _ w2 hb2 rfl
  have H := H.ext hb2
  refine O.move (v := (.bool t1)) rfl rfl rfl ?_
  obtain ⟨b2, hm1, hm⟩ := bind_some hm
  refine WL.cut 4 (fun f w => f 10 = .bool b2 ∧ Inv w0 w [boxI b1 36 [(.int .i64 a0.Day), (.bool a0.Found), (.int .i64 a0.Error)]]) ?_ ?_
  · skip
    rcases ite_some hm1 with ⟨hc1, hm1⟩ | ⟨hc1, hm1⟩
    · skip
      refine WL.reset (i := 6) (v := .bool true) (congrArg Value.bool hc1) ?_
      refine O.fieldAddr fd36_2 rfl rfl rfl ?_
      refine O.load sc3 rfl rfl rfl (H.cell 0 rfl 2 _ rfl) ?_
      obtain ⟨t2, hy2, hm1⟩ := bind_some hm1
      refine O.call Try.call35 rfl rfl rfl (c_ledger_within _ _ _ hy2) ?_
      rintro _ w3 hb3 rfl
      have H := H.ext hb3
      refine O.pick_true (v := (.bool t2)) rfl rfl rfl rfl ?_
      refine WL.nil ?_
      have hq : t2 = b2 := Option.some.inj (show some t2 = some b2 from hm1)
      subst hq
      exact ⟨rfl, H⟩
    · skip
      refine WL.reset (i := 6) (v := .bool false) (congrArg Value.bool hc1) ?_
      refine O.skip rfl rfl ?_
      refine O.skip rfl rfl ?_
      refine O.skip rfl rfl ?_
      refine O.pick_false (v := (.bool false)) rfl rfl rfl rfl ?_
      refine WL.nil ?_
      have hq : false = b2 := Option.some.inj (show some false = some b2 from hm1)
      subst hq
      exact ⟨rfl, H⟩
  · skip
    rintro f w ⟨hf10, H⟩
    obtain ⟨u1, rfl⟩ : ∃ u1, f = (upd u1 10 (.bool b2)) := ⟨f, by rw [upd_self hf10]⟩
    refine O.assign (v := (.bool b2)) rfl rfl rfl ?_
    refine WL.nil ?_
    refine W.ret ?_
    have hq : b2 = r0 := Option.some.inj (show some b2 = some r0 from hm)
    subst hq
    exact ends1 Try.results29 rfl ⟨_, rfl, H.base, rfl⟩

theorem c_ledger_Valid_c1 {w0 : World} (a0 : GEntry) {r0 : Bool} (hm : ledger_Valid_c1 a0 = some r0) :
    Calls Try.prog 28 #[(.agg (Flat.cells a0).toArray)] w0 (Ret w0 fun _ v => v = (.bool r0)) := by
  unfold ledger_Valid_c1 at hm
  refine calls_of_W Try.func28 rfl Try.ntmps28 (Nat.le_of_ble_eq_true rfl) ?_
  have H := Inv.start (w := w0)
  refine W.seq ?_
  refine W.region ?_
  refine O.box [(.int .i64 a0.Day), (.bool a0.Found), (.int .i64 a0.Error)] H rfl rfl rfl rfl ?_
  intro b1 w1 H hb1
  refine O.assign (v := (.bool false)) rfl rfl rfl ?_
  refine WL.nil ?_
  refine W.seq ?_
  refine W.region ?_
  refine O.loadA [(.int .i64 a0.Day), (.bool a0.Found), (.int .i64 a0.Error)] ag36 rfl rfl rfl rfl (H.cell 0 rfl) ?_
  obtain ⟨t1, hy1, hm⟩ := bind_some hm
  refine O.call Try.call29 rfl rfl rfl (c_ledger_fine a0 hy1) ?_
  rintro _ w2 hb2 rfl
  have H := H.ext hb2
  refine O.not rfl rfl rfl ?_
  refine O.assign (v := (.bool (!t1))) rfl rfl rfl ?_
  refine WL.nil ?_
  refine W.ret ?_
  have hq : (!t1) = r0 := Option.some.inj (show some (!t1) = some r0 from hm)
  subst hq
  exact ends1 Try.results28 rfl ⟨_, rfl, H.base, rfl⟩

theorem c_ledger_Valid {w0 : World} (va0 : Value) (a0 : (List GEntry)) (ha0 : SliceR w0 va0 a0) {r0 : Bool} (hm : ledger_Valid a0 = some r0) :
    Calls Try.prog 14 #[va0] w0 (Ret w0 fun _ v => v = (.bool r0)) := by
  unfold ledger_Valid at hm
  refine calls_of_W Try.func14 rfl Try.ntmps14 (Nat.le_of_ble_eq_true rfl) ?_
  have H := Inv.start (w := w0)
  refine W.seq ?_
  refine W.region ?_
  refine O.assign (v := (.bool false)) rfl rfl rfl ?_
  refine WL.nil ?_
  refine W.seq ?_
  refine W.region ?_
  refine O.move (v := va0) rfl rfl rfl ?_
  refine O.lenS Try.underlying22 (H.arg ha0) rfl rfl rfl ?_
  refine O.leq rfl rfl rfl rfl ?_
  refine O.move (v := (.bool (decide (((a0.length : Nat) : Int) ≤ 1000)))) rfl rfl rfl ?_
  obtain ⟨b1, hm1, hm⟩ := bind_some hm
  refine WL.cut 4 (fun f w => f 10 = .bool b1 ∧ Inv w0 w []) ?_ ?_
  · skip
    rcases ite_some hm1 with ⟨hc1, hm1⟩ | ⟨hc1, hm1⟩
    · skip
      refine WL.reset (i := 6) (v := .bool true) (congrArg Value.bool hc1) ?_
      refine O.move (v := va0) rfl rfl rfl ?_
      obtain ⟨t1, hy1, hm1⟩ := bind_some hm1
      refine O.call Try.call27 rfl rfl rfl (c_slices_ContainsFunc_Entry _ _ (H.arg ha0) _ (fun x0 => ledger_Valid_c1 x0) (fun w hw x0 _ hy => callsV_mk Try.call28 (c_ledger_Valid_c1 x0 hy)) hy1) ?_
      rintro _ w1 hb1 rfl
      have H := H.ext hb1
      refine O.not rfl rfl rfl ?_
      refine O.pick_true (v := (.bool (!t1))) rfl rfl rfl rfl ?_
      refine WL.nil ?_
      have hq : (!t1) = b1 := Option.some.inj (show some (!t1) = some b1 from hm1)
      subst hq
      exact ⟨rfl, H⟩
    · skip
      refine WL.reset (i := 6) (v := .bool false) (congrArg Value.bool hc1) ?_
      refine O.skip rfl rfl ?_
      refine O.skip rfl rfl ?_
      refine O.skip rfl rfl ?_
      refine O.pick_false (v := (.bool false)) rfl rfl rfl rfl ?_
      refine WL.nil ?_
      have hq : false = b1 := Option.some.inj (show some false = some b1 from hm1)
      subst hq
      exact ⟨rfl, H⟩
  · skip
    rintro f w ⟨hf10, H⟩
    obtain ⟨u1, rfl⟩ : ∃ u1, f = (upd u1 10 (.bool b1)) := ⟨f, by rw [upd_self hf10]⟩
    refine O.assign (v := (.bool b1)) rfl rfl rfl ?_
    refine WL.nil ?_
    refine W.ret ?_
    have hq : b1 = r0 := Option.some.inj (show some b1 = some r0 from hm)
    subst hq
    exact ends1 Try.results14 rfl ⟨_, rfl, H.base, rfl⟩

theorem c_ledger_isDay {w0 : World} (a0 : Int) {r0 : Bool} (hm : ledger_isDay a0 = some r0) :
    Calls Try.prog 33 #[(.int .i64 a0)] w0 (Ret w0 fun _ v => v = (.bool r0)) := by
  unfold ledger_isDay at hm
  refine calls_of_W Try.func33 rfl Try.ntmps33 (Nat.le_of_ble_eq_true rfl) ?_
  have H := Inv.start (w := w0)
  refine W.seq ?_
  refine W.region ?_
  refine O.assign (v := (.bool false)) rfl rfl rfl ?_
  refine WL.nil ?_
  refine W.seq ?_
  refine W.region ?_
  refine O.move (v := (.int .i64 a0)) rfl rfl rfl ?_
  obtain ⟨t1, hy1, hm⟩ := bind_some hm
  refine O.call Try.call35 rfl rfl rfl (c_ledger_within _ _ _ hy1) ?_
  rintro _ w1 hb1 rfl
  have H := H.ext hb1
  refine O.assign (v := (.bool t1)) rfl rfl rfl ?_
  refine WL.nil ?_
  refine W.ret ?_
  have hq : t1 = r0 := Option.some.inj (show some t1 = some r0 from hm)
  subst hq
  exact ends1 Try.results33 rfl ⟨_, rfl, H.base, rfl⟩

theorem c_ledger_of {w0 : World} (a0 : GEntry) {r0 : GKey} (hm : ledger_of a0 = some r0) :
    Calls Try.prog 21 #[(.agg (Flat.cells a0).toArray)] w0 (Ret w0 fun _ v => v = (.agg (Flat.cells r0).toArray)) := by
  unfold ledger_of at hm
  refine calls_of_W Try.func21 rfl Try.ntmps21 (Nat.le_of_ble_eq_true rfl) ?_
  have H := Inv.start (w := w0)
  refine W.seq ?_
  refine W.region ?_
  refine O.box [(.int .i64 a0.Day), (.bool a0.Found), (.int .i64 a0.Error)] H rfl rfl rfl rfl ?_
  intro b1 w1 H hb1
  refine O.alloc [(.int .i64 0), (.bool false)] ze42 H rfl rfl rfl ?_
  intro b2 w2 H hb2
  refine WL.nil ?_
  refine W.seq ?_
  refine W.region ?_
  refine O.fieldAddr fd36_0 rfl rfl rfl ?_
  refine O.load sc3 rfl rfl rfl (H.cell 0 rfl 0 _ rfl) ?_
  refine O.fieldAddr fd36_1 rfl rfl rfl ?_
  refine O.load sc4 rfl rfl rfl (H.cell 0 rfl 1 _ rfl) ?_
  refine O.build (v := (.agg (Flat.cells (GKey.mk a0.Day a0.Found)).toArray)) (fun w => bd42_0_1 _ _ w) rfl rfl rfl ?_
  refine O.store 1 0 [(.int .i64 a0.Day), (.bool a0.Found)] [(.int .i64 a0.Day), (.bool a0.Found)] sz42 H rfl rfl rfl rfl rfl rfl ⟨⟨rfl, rfl⟩, rfl⟩ (one_cons rfl (one_cons rfl one_nil)) ?_
  intro w3 H
  refine WL.nil ?_
  refine W.ret ?_
  have hq : (GKey.mk a0.Day a0.Found) = r0 := Option.some.inj (show some (GKey.mk a0.Day a0.Found) = some r0 from hm)
  subst hq
  exact ends1 Try.results21 ⟨_, rfl, run_loadVar_agg ag42 rfl (H.cell 1 rfl)⟩ ⟨_, rfl, H.base, rfl⟩

theorem c_ledger_pageOf {w0 : World} (va0 : Value) (a0 : (List GEntry)) (ha0 : SliceR w0 va0 a0) {r0 : (List (GKey × Int))} (hm : ledger_pageOf a0 = some r0) :
    Calls Try.prog 15 #[va0] w0 (Ret w0 fun w v => OwnM w0 w v r0) := by
  unfold ledger_pageOf at hm
  refine calls_of_W Try.func15 rfl Try.ntmps15 (Nat.le_of_ble_eq_true rfl) ?_
  have H := Inv.start (w := w0)
  refine W.seq ?_
  refine W.region ?_
  refine O.assign (v := (.map none)) rfl rfl rfl ?_
  refine WL.nil ?_
  refine W.seq ?_
  refine W.region ?_
  refine O.makeMap (α := GKey) (β := Int) H rfl rfl ?_
  intro m1 w1 H hb1
  refine O.assign (v := (.map (some m1))) rfl rfl rfl ?_
  refine WL.nil ?_
  refine W.seq ?_
  refine W.seq ?_
  refine W.region ?_
  refine O.move (v := va0) rfl rfl rfl ?_
  refine O.lenS Try.underlying22 (H.arg ha0) rfl rfl rfl ?_
  refine O.move (v := (.int .i64 0)) rfl rfl rfl ?_
  refine WL.nil ?_
  obtain ⟨s1, hm1, hm⟩ := bind_some hm
  refine W.via (fun f w => f 3 = (.map (some m1)) ∧ Inv w0 w [mapI (K := GKey) (V := Int) m1 s1]) ?_ ?_
  · skip
    refine W.block ?_
    refine W.rangeL (i := 0) hm1 (fun rem ik1 s f w => ∃ z2 : (List (GKey × Int)), z2 = s ∧ a0.drop ik1 = rem ∧ f 9 = .int .i64 (ik1 : Int) ∧ f 8 = (.int .i64 ((a0.length : Nat) : Int)) ∧ f 3 = (.map (some m1)) ∧ f 7 = va0 ∧ Inv w0 w [mapI (K := GKey) (V := Int) m1 z2]) ?_ ?_ ?_
    · skip
      exact ⟨_, rfl, List.drop_zero, rfl, rfl, rfl, rfl, H⟩
    · skip
      rintro yk1 xs ik1 _ st f w ⟨z2, rfl, hdropk1, hf9, hf8, hf3, hf7, H⟩ hm2
      have hltk1 := drop_lt hdropk1; have hixk1 := drop_idx hdropk1
      obtain ⟨u1, rfl⟩ : ∃ u1, f = (upd (upd (upd (upd u1 9 (.int .i64 (ik1 : Int))) 8 (.int .i64 ((a0.length : Nat) : Int))) 3 (.map (some m1))) 7 va0) := ⟨f, by rw [upd_self hf9, upd_self hf8, upd_self hf3, upd_self hf7]⟩
      have hinck1 := addI_lt hltk1 (H.arg ha0).len_le
      refine W.seq ?_
      refine W.region ?_
      refine O.lss rfl rfl rfl rfl ?_
      refine WL.nil ?_
      refine W.seq ?_
      refine W.cond_true (congrArg Value.bool (decide_eq_true hltk1)) ?_
      refine W.skip ?_
      refine W.seq ?_
      refine W.block ?_
      refine W.seq ?_
      refine W.region ?_
      obtain ⟨p1, hp1, hrp1⟩ := fix_indexAddr Try.underlying22 sz36 ha0 hixk1
      refine hrp1 rfl rfl rfl rfl ?_
      refine O.loadA [(.int .i64 yk1.Day), (.bool yk1.Found), (.int .i64 yk1.Error)] ag36 rfl rfl rfl rfl ((hp1.mono H.base).flat) ?_
      refine O.alloc [(.int .i64 0), (.bool false), (.int .i64 0)] ze36 H rfl rfl rfl ?_
      intro b1 w2 H hb2
      refine O.store 1 0 [(.int .i64 yk1.Day), (.bool yk1.Found), (.int .i64 yk1.Error)] [(.int .i64 yk1.Day), (.bool yk1.Found), (.int .i64 yk1.Error)] sz36 H rfl rfl rfl rfl rfl rfl ⟨⟨rfl, rfl⟩, rfl⟩ (one_cons rfl (one_cons rfl (one_cons rfl one_nil))) ?_
      intro w3 H
      refine WL.nil ?_
      obtain ⟨t1, hy1, hm2⟩ := bind_some hm2
      refine W.drawN 5 (fun f => f 3 = (.map (some m1)) ∧ f 7 = va0 ∧ f 8 = (.int .i64 ((a0.length : Nat) : Int)) ∧ f 9 = (.int .i64 (ik1 : Int)) ∧ f 13 = (.map (some m1)) ∧ f 15 = (.agg (Flat.cells t1).toArray) ∧ f 17 = (.int .i64 yk1.Error)) fol (by kernel_rfl) ?_ ?_
      · skip
        refine PL.of (fun _ w8 _ hx => O.move (v := (.map (some m1))) rfl rfl rfl (WL.nil ⟨rfl, hx⟩)) ?_
        refine PL.of (fun _ w8 _ hx => by have H := H.ext hx; exact O.loadA [(.int .i64 yk1.Day), (.bool yk1.Found), (.int .i64 yk1.Error)] ag36 rfl rfl rfl rfl (H.cell 1 rfl) (WL.nil ⟨rfl, hx⟩)) ?_
        refine PL.of (fun _ w8 _ hx => O.call Try.call21 rfl rfl rfl (c_ledger_of yk1 hy1) (by rintro _ _ hb rfl; exact WL.nil ⟨rfl, hx.trans (hb.mono hx.size)⟩)) ?_
        refine PL.of (fun _ w8 _ hx => O.fieldAddr fd36_2 rfl rfl rfl (WL.nil ⟨rfl, hx⟩)) ?_
        refine PL.of (fun _ w8 _ hx => by have H := H.ext hx; exact O.load sc3 rfl rfl rfl (H.cell 1 rfl 2 _ rfl) (WL.nil ⟨rfl, hx⟩)) ?_
        refine PL.nil ?_
        exact ⟨rfl, rfl, rfl, rfl, rfl, rfl, rfl⟩
      · skip
        rintro f w ⟨hf3, hf7, hf8, hf9, hf13, hf15, hf17⟩ hmd hx
        have H := H.ext hx
        obtain ⟨u2, rfl⟩ : ∃ u2, f = (upd (upd (upd (upd (upd (upd (upd u2 3 (.map (some m1))) 7 va0) 8 (.int .i64 ((a0.length : Nat) : Int))) 9 (.int .i64 (ik1 : Int))) 13 (.map (some m1))) 15 (.agg (Flat.cells t1).toArray)) 17 (.int .i64 yk1.Error)) := ⟨f, by rw [upd_self hf3, upd_self hf7, upd_self hf8, upd_self hf9, upd_self hf13, upd_self hf15, upd_self hf17]⟩
        refine O.mapUpdate 0 t1 yk1.Error Try.underlying39 key42 H rfl rfl rfl rfl rfl ?_
        intro w4 H
        refine WL.nil ?_
        refine W.region ?_
        refine O.add rfl rfl rfl rfl hinck1 ?_
        refine O.move (v := .int .i64 ((ik1 : Int) + 1)) rfl rfl rfl ?_
        refine WL.nil ?_
        have H := H.keep [0] [mapI (K := GKey) (V := Int) m1 (mput z2 t1 yk1.Error)] rfl (by decide)
        obtain rfl := Option.some.inj hm2
        exact ⟨_, rfl, _, rfl, drop_next hdropk1, rfl, rfl, rfl, rfl, H⟩
    · skip
      rintro ik1 _ f w ⟨z2, rfl, hdropk1, hf9, hf8, hf3, hf7, H⟩ hfin
      have hltk1 := drop_end hdropk1
      obtain ⟨u3, rfl⟩ : ∃ u3, f = (upd (upd (upd (upd u3 9 (.int .i64 (ik1 : Int))) 8 (.int .i64 ((a0.length : Nat) : Int))) 3 (.map (some m1))) 7 va0) := ⟨f, by rw [upd_self hf9, upd_self hf8, upd_self hf3, upd_self hf7]⟩
      refine W.seq ?_
      refine W.region ?_
      refine O.lss rfl rfl rfl rfl ?_
      refine WL.nil ?_
      refine W.seq ?_
      refine W.cond_false (congrArg Value.bool (decide_eq_false hltk1)) ?_
      refine W.exit ?_
      have hq : z2 = s1 := hfin
      subst hq
      refine xT rfl ?_
      exact ⟨rfl, H⟩
  · skip
    rintro f w ⟨hf3, H⟩
    obtain ⟨u4, rfl⟩ : ∃ u4, f = (upd u4 3 (.map (some m1))) := ⟨f, by rw [upd_self hf3]⟩
    refine W.seq ?_
    refine W.region ?_
    refine O.move (v := (.map (some m1))) rfl rfl rfl ?_
    refine O.assign (v := (.map (some m1))) rfl rfl rfl ?_
    refine WL.nil ?_
    refine W.ret ?_
    have hq : s1 = r0 := Option.some.inj (show some s1 = some r0 from hm)
    subst hq
    exact ends1 Try.results15 rfl ⟨_, rfl, H.base, H.ownM 0 rfl⟩

theorem c_ledger_told {w0 : World} (va0 : Value) (a0 : (List GEntry)) (ha0 : SliceR w0 va0 a0) (a1 : Int) (va2 : Value) (a2 : (List (GKey × Int)) → Option (Int × Bool)) (ha2 : ∀ (w : World), Below w0.heap.size w0 w → ∀ (vx0 : Value) (x0 : (List (GKey × Int))) (hx0 : MapR w vx0 x0) (y0 : Int) (y1 : Bool), a2 x0 = some (y0, y1) → CallsV Try.prog va2 #[vx0] w (Ret w fun _ v => v = .tuple #[(.int .i64 y0), (.bool y1)])) {r0 : Int} {r1 : Int} (hm : ledger_told a0 a1 a2 = some (r0, r1)) :
    Calls Try.prog 22 #[va0, (.int .i64 a1), va2] w0 (Ret w0 fun _ v => v = .tuple #[(.int .i64 r0), (.int .i64 r1)]) := by
  unfold ledger_told at hm
  refine calls_of_W Try.func22 rfl Try.ntmps22 (Nat.le_of_ble_eq_true rfl) ?_
  have H := Inv.start (w := w0)
  refine W.seq ?_
  refine W.region ?_
  refine O.assign (v := (.int .i64 0)) rfl rfl rfl ?_
  refine O.assign (v := (.int .i64 0)) rfl rfl rfl ?_
  refine WL.nil ?_
  refine W.seq ?_
  refine W.block ?_
  refine W.seq ?_
  refine W.region ?_
  refine O.move (v := va0) rfl rfl rfl ?_
  obtain ⟨t1, hy1, hm⟩ := bind_some hm
  refine O.call Try.call14 rfl rfl rfl (c_ledger_Valid _ _ (H.arg ha0) hy1) ?_
  rintro _ w1 hb1 rfl
  have H := H.ext hb1
  refine O.not rfl rfl rfl ?_
  refine O.assign (v := (.bool (!t1))) rfl rfl rfl ?_
  refine WL.nil ?_
  rcases ite_some hm with ⟨hc1, hm⟩ | ⟨hc1, hm⟩
  · refine W.cond_true (congrArg Value.bool hc1) ?_
    refine W.seq ?_
    refine W.region ?_
    refine O.assign (v := (.int .i64 0)) rfl rfl rfl ?_
    refine O.assign (v := (.int .i64 1)) rfl rfl rfl ?_
    refine WL.nil ?_
    refine W.ret ?_
    have hq : (0, 1) = (r0, r1) := Option.some.inj (show some (0, 1) = some (r0, r1) from hm)
    obtain ⟨he0, hq0⟩ := Prod.mk.inj hq; clear hq; subst he0
    subst hq0
    exact ends2 Try.results22 rfl rfl ⟨_, rfl, H.base, rfl⟩
  · refine W.cond_false (congrArg Value.bool hc1) ?_
    refine W.seq ?_
    refine W.region ?_
    refine O.move (v := (.int .i64 a1)) rfl rfl rfl ?_
    obtain ⟨t2, hy2, hm⟩ := bind_some hm
    refine O.call Try.call33 rfl rfl rfl (c_ledger_isDay _ hy2) ?_
    rintro _ w2 hb2 rfl
    have H := H.ext hb2
    refine O.not rfl rfl rfl ?_
    refine O.assign (v := (.bool (!t2))) rfl rfl rfl ?_
    refine WL.nil ?_
    rcases ite_some hm with ⟨hc2, hm⟩ | ⟨hc2, hm⟩
    · refine W.cond_true (congrArg Value.bool hc2) ?_
      refine W.seq ?_
      refine W.region ?_
      refine O.assign (v := (.int .i64 0)) rfl rfl rfl ?_
      refine O.assign (v := (.int .i64 7)) rfl rfl rfl ?_
      refine WL.nil ?_
      refine W.ret ?_
      have hq : (0, 7) = (r0, r1) := Option.some.inj (show some (0, 7) = some (r0, r1) from hm)
      obtain ⟨he0, hq0⟩ := Prod.mk.inj hq; clear hq; subst he0
      subst hq0
      exact ends2 Try.results22 rfl rfl ⟨_, rfl, H.base, rfl⟩
    · refine W.cond_false (congrArg Value.bool hc2) ?_
      refine W.skip ?_
      refine W.seq ?_
      refine W.region ?_
      refine O.move (v := va2) rfl rfl rfl ?_
      refine O.move (v := va0) rfl rfl rfl ?_
      obtain ⟨t3, hy3, hm⟩ := bind_some hm
      refine O.call Try.call15 rfl rfl rfl (c_ledger_pageOf _ _ (H.arg ha0) hy3) ?_
      rintro _ w3 hb3 ⟨m1, rfl, ho1a, ho1b⟩
      have H := H.addMap hb3 ho1a ho1b
      obtain ⟨⟨t4, t5⟩, hy4, hm⟩ := bind_some hm
      refine O.callV rfl rfl rfl rfl (ha2 _ H.base _ _ (H.map 0 rfl) _ _ hy4) ?_
      rintro _ w4 hb4 rfl
      have H := H.ext hb4
      refine O.move (v := (.tuple #[(.int .i64 t4), (.bool t5)])) rfl rfl rfl ?_
      refine O.extract (v := (.int .i64 t4)) rfl rfl rfl rfl ?_
      refine O.extract (v := (.bool t5)) rfl rfl rfl rfl ?_
      refine O.assign (v := (.int .i64 t4)) rfl rfl rfl ?_
      refine O.assign (v := (.bool t5)) rfl rfl rfl ?_
      refine WL.nil ?_
      refine W.seq ?_
      refine W.seq ?_
      refine W.region ?_
      refine O.move (v := (.bool t5)) rfl rfl rfl ?_
      refine O.not rfl rfl rfl ?_
      refine WL.nil ?_
      rcases ite_some hm with ⟨hc3, hm⟩ | ⟨hc3, hm⟩
      · refine W.cond_true (congrArg Value.bool hc3) ?_
        refine W.seq ?_
        refine W.region ?_
        refine O.assign (v := (.int .i64 0)) rfl rfl rfl ?_
        refine O.assign (v := (.int .i64 8)) rfl rfl rfl ?_
        refine WL.nil ?_
        refine W.ret ?_
        have hq : (0, 8) = (r0, r1) := Option.some.inj (show some (0, 8) = some (r0, r1) from hm)
        obtain ⟨he0, hq0⟩ := Prod.mk.inj hq; clear hq; subst he0
        subst hq0
        exact ends2 Try.results22 rfl rfl ⟨_, rfl, H.base, rfl⟩
      · refine W.cond_false (congrArg Value.bool hc3) ?_
        refine W.skip ?_
        refine W.seq ?_
        refine W.region ?_
        refine O.move (v := (.int .i64 t4)) rfl rfl rfl ?_
        refine O.assign (v := (.int .i64 t4)) rfl rfl rfl ?_
        refine O.assign (v := (.int .i64 0)) rfl rfl rfl ?_
        refine WL.nil ?_
        refine W.ret ?_
        have hq : (t4, 0) = (r0, r1) := Option.some.inj (show some (t4, 0) = some (r0, r1) from hm)
        obtain ⟨he0, hq0⟩ := Prod.mk.inj hq; clear hq; subst he0
        subst hq0
        exact ends2 Try.results22 rfl rfl ⟨_, rfl, H.base, rfl⟩

theorem c_ledger_Off {w0 : World} (va0 : Value) (a0 : (List GEntry)) (ha0 : SliceR w0 va0 a0) (a1 : Int) {r0 : Int} {r1 : Int} (hm : ledger_Off a0 a1 = some (r0, r1)) :
    Calls Try.prog 12 #[va0, (.int .i64 a1)] w0 (Ret w0 fun _ v => v = .tuple #[(.int .i64 r0), (.int .i64 r1)]) := by
  unfold ledger_Off at hm
  refine calls_of_W Try.func12 rfl Try.ntmps12 (Nat.le_of_ble_eq_true rfl) ?_
  have H := Inv.start (w := w0)
  refine W.seq ?_
  refine W.region ?_
  refine O.box [(.int .i64 a1)] H rfl rfl rfl rfl ?_
  intro b1 w1 H hb1
  refine O.assign (v := (.int .i64 0)) rfl rfl rfl ?_
  refine O.assign (v := (.int .i64 0)) rfl rfl rfl ?_
  refine WL.nil ?_
  refine W.seq ?_
  refine W.region ?_
  refine O.move (v := va0) rfl rfl rfl ?_
  refine O.load sc3 rfl rfl rfl (H.cell 0 rfl 0 _ rfl) ?_
  refine O.makeFunc rfl rfl rfl rfl ?_
  obtain ⟨⟨t1, t2⟩, hy1, hm⟩ := bind_some hm
  refine O.call Try.call22 rfl rfl rfl (c_ledger_told _ _ (H.arg ha0) _ _ (fun x0 => ledger_Off_c1 x0 a1) (fun w hw vx0 x0 hx0 _ _ hy => callsV_mk Try.call25 (c_ledger_Off_c1 vx0 x0 hx0 _ a1 (cells_mono (H.cell 0 rfl) hw) hy)) hy1) ?_
  rintro _ w2 hb2 rfl
  have H := H.ext hb2
  refine O.extract (v := (.int .i64 t1)) rfl rfl rfl rfl ?_
  refine O.extract (v := (.int .i64 t2)) rfl rfl rfl rfl ?_
  refine O.assign (v := (.int .i64 t1)) rfl rfl rfl ?_
  refine O.assign (v := (.int .i64 t2)) rfl rfl rfl ?_
  refine WL.nil ?_
  refine W.ret ?_
  have hq : (t1, t2) = (r0, r1) := Option.some.inj (show some (t1, t2) = some (r0, r1) from hm)
  obtain ⟨he0, hq0⟩ := Prod.mk.inj hq; clear hq; subst he0
  subst hq0
  exact ends2 Try.results12 rfl rfl ⟨_, rfl, H.base, rfl⟩

set_option maxRecDepth 20000 in
theorem c_ledger_Corrections {w0 : World} (va0 : Value) (a0 : (List GEntry)) (ha0 : SliceR w0 va0 a0) {r0 : (List Int)} {r1 : Int} (hm : ledger_Corrections a0 = some (r0, r1)) :
    Calls Try.prog 9 #[va0] w0 (Ret w0 fun w v => ∃ vr0 : Value, v = .tuple #[vr0, (.int .i64 r1)] ∧ OwnR w0 w vr0 3 r0) := by
  unfold ledger_Corrections at hm
  refine calls_of_W Try.func9 rfl Try.ntmps9 (Nat.le_of_ble_eq_true rfl) ?_
  have H := Inv.start (w := w0)
  refine W.seq ?_
  refine W.region ?_
  have H := H.addNil (α := Int) (E := 3)
  refine O.assign (v := (.slice none 0 0)) rfl rfl rfl ?_
  refine O.assign (v := (.int .i64 0)) rfl rfl rfl ?_
  refine WL.nil ?_
  refine W.seq ?_
  refine W.seq ?_
  refine W.region ?_
  refine O.move (v := va0) rfl rfl rfl ?_
  obtain ⟨t1, hy1, hm⟩ := bind_some hm
  refine O.call Try.call14 rfl rfl rfl (c_ledger_Valid _ _ (H.arg ha0) hy1) ?_
  rintro _ w1 hb1 rfl
  have H := H.ext hb1
  refine O.not rfl rfl rfl ?_
  refine WL.nil ?_
  rcases ite_some hm with ⟨hc1, hm⟩ | ⟨hc1, hm⟩
  · refine W.cond_true (congrArg Value.bool hc1) ?_
    refine W.seq ?_
    refine W.region ?_
    have H := H.addNil (α := Int) (E := 3)
    refine O.assign (v := (.slice none 0 0)) rfl rfl rfl ?_
    refine O.assign (v := (.int .i64 1)) rfl rfl rfl ?_
    refine WL.nil ?_
    refine W.ret ?_
    have hq : (([] : List Int), 1) = (r0, r1) := Option.some.inj (show some (([] : List Int), 1) = some (r0, r1) from hm)
    obtain ⟨he0, hq0⟩ := Prod.mk.inj hq; clear hq; subst he0
    subst hq0
    exact ends2 Try.results9 rfl rfl ⟨_, rfl, H.base, ⟨_, rfl, H.ownR 1 rfl⟩⟩
  · refine W.cond_false (congrArg Value.bool hc1) ?_
    refine W.skip ?_
    refine W.seq ?_
    refine W.region ?_
    refine O.makeMap (α := GKey) (β := Bool) H rfl rfl ?_
    intro m1 w2 H hb2
    refine O.assign (v := (.map (some m1))) rfl rfl rfl ?_
    refine WL.nil ?_
    refine W.seq ?_
    refine W.region ?_
    have H := H.addNil (α := Int) (E := 3)
    refine O.assign (v := (.slice none 0 0)) rfl rfl rfl ?_
    refine WL.nil ?_
    refine W.seq ?_
    refine W.seq ?_
    refine W.region ?_
    refine O.move (v := va0) rfl rfl rfl ?_
    refine O.lenS Try.underlying22 (H.arg ha0) rfl rfl rfl ?_
    refine O.move (v := (.int .i64 0)) rfl rfl rfl ?_
    refine WL.nil ?_
    obtain ⟨s1, hm1, hm⟩ := bind_some hm
    refine W.via (fun f w => ∃ v4 : Value, f 5 = v4 ∧ Inv w0 w [ownI (α := Int) v4 3 s1]) ?_ ?_
    · skip
      refine W.block ?_
      have hbdik1 := (H.arg ha0).len_le
      have H := H.keep [1, 2] [mapI (K := GKey) (V := Bool) m1 ([] : List (GKey × Bool)), ownI (α := Int) (.slice none 0 0) 3 ([] : List Int)] rfl (by decide)
      refine W.rangeN (i := 0) hm1 (fun rem ik1 s f w => ∃ z3 : (List (GKey × Bool)), ∃ z4 : (List Int), ∃ v2 : Value, (z3, z4) = s ∧ (ik1 : Int) + rem = max 0 ((a0.length : Nat) : Int) ∧ f 14 = .int .i64 (ik1 : Int) ∧ f 13 = (.int .i64 ((a0.length : Nat) : Int)) ∧ f 4 = (.map (some m1)) ∧ f 5 = v2 ∧ f 12 = va0 ∧ Inv w0 w [mapI (K := GKey) (V := Bool) m1 z3, ownI (α := Int) v2 3 z4]) ?_ ?_ ?_
      · skip
        exact ⟨_, _, (.slice none 0 0), rfl, rangeN_start, rfl, rfl, rfl, rfl, rfl, H⟩
      · skip
        rintro k ik1 _ st f w ⟨z3, z4, v2, rfl, hdropk1, hf14, hf13, hf4, hf5, hf12, H⟩ hm2
        have hltk1 := rangeN_lt hdropk1
        obtain ⟨u1, rfl⟩ : ∃ u1, f = (upd (upd (upd (upd (upd u1 14 (.int .i64 (ik1 : Int))) 13 (.int .i64 ((a0.length : Nat) : Int))) 4 (.map (some m1))) 5 v2) 12 va0) := ⟨f, by rw [upd_self hf14, upd_self hf13, upd_self hf4, upd_self hf5, upd_self hf12]⟩
        have hinck1 := addI_lt hltk1 hbdik1
        refine W.seq ?_
        refine W.region ?_
        refine O.lss rfl rfl rfl rfl ?_
        refine WL.nil ?_
        refine W.seq ?_
        refine W.cond_true (congrArg Value.bool (decide_eq_true hltk1)) ?_
        refine W.skip ?_
        refine W.seq ?_
        obtain ⟨⟨s2, s3⟩, hm3, hm2⟩ := bind_some hm2
        refine W.via (fun f w => ∃ v5 : Value, f 4 = (.map (some m1)) ∧ f 5 = v5 ∧ f 12 = va0 ∧ f 13 = (.int .i64 ((a0.length : Nat) : Int)) ∧ f 14 = (.int .i64 (ik1 : Int)) ∧ Inv w0 w [mapI (K := GKey) (V := Bool) m1 s2, ownI (α := Int) v5 3 s3]) ?_ ?_
        · skip
          refine W.block ?_
          refine W.seq ?_
          refine W.region ?_
          refine O.move (v := (.int .i64 (ik1 : Int))) rfl rfl rfl ?_
          obtain ⟨x1, hx1, hm3⟩ := bind_some hm3
          obtain ⟨p1, hp1, hrp1⟩ := fix_indexAddr Try.underlying22 sz36 ha0 hx1
          refine hrp1 rfl rfl rfl rfl ?_
          refine O.loadA [(.int .i64 x1.Day), (.bool x1.Found), (.int .i64 x1.Error)] ag36 rfl rfl rfl rfl ((hp1.mono H.base).flat) ?_
          refine O.alloc [(.int .i64 0), (.bool false), (.int .i64 0)] ze36 H rfl rfl rfl ?_
          intro b1 w3 H hb3
          refine O.assign (v := (.int .i64 (ik1 : Int))) rfl rfl rfl ?_
          refine O.store 2 0 [(.int .i64 x1.Day), (.bool x1.Found), (.int .i64 x1.Error)] [(.int .i64 x1.Day), (.bool x1.Found), (.int .i64 x1.Error)] sz36 H rfl rfl rfl rfl rfl rfl ⟨⟨rfl, rfl⟩, rfl⟩ (one_cons rfl (one_cons rfl (one_cons rfl one_nil))) ?_
          intro w4 H
          refine WL.nil ?_
          refine W.seq ?_
          refine W.seq ?_
          refine W.region ?_
          refine O.move (v := (.map (some m1))) rfl rfl rfl ?_
          refine O.loadA [(.int .i64 x1.Day), (.bool x1.Found), (.int .i64 x1.Error)] ag36 rfl rfl rfl rfl (H.cell 2 rfl) ?_
          obtain ⟨t2, hy2, hm3⟩ := bind_some hm3
          refine O.call Try.call21 rfl rfl rfl (c_ledger_of x1 hy2) ?_
          rintro _ w5 hb4 rfl
          have H := H.ext hb4
          refine O.lookup1 (z := false) t2 Try.underlying49 key42 ze4 (H.map 0 rfl) rfl rfl rfl rfl ?_
          refine WL.nil ?_
          obtain ⟨s4, hm4, hm3⟩ := bind_some hm3
          refine W.via (fun f w => ∃ v6 : Value, f 4 = (.map (some m1)) ∧ f 5 = v6 ∧ f 7 = (.pointer (some ⟨b1, 0, none⟩)) ∧ f 12 = va0 ∧ f 13 = (.int .i64 ((a0.length : Nat) : Int)) ∧ f 14 = (.int .i64 (ik1 : Int)) ∧ Inv w0 w [mapI (K := GKey) (V := Bool) m1 z3, ownI (α := Int) v6 3 s4, boxI b1 36 [(.int .i64 x1.Day), (.bool x1.Found), (.int .i64 x1.Error)]]) ?_ ?_
          · skip
            rcases ite_some hm4 with ⟨hc2, hm4⟩ | ⟨hc2, hm4⟩
            · refine W.cond_true (congrArg Value.bool hc2) ?_
              refine W.region ?_
              refine O.move (v := v2) rfl rfl rfl ?_
              refine O.move (v := (.int .i64 (ik1 : Int))) rfl rfl rfl ?_
              refine O.buildSlice (α := Int) [(.int .i64 (ik1 : Int))] [(ik1 : Int)] Try.underlying29 el3 H rfl rfl rfl rfl rfl rfl rfl ?_
              intro v7 w6 H hb5
              obtain ⟨t3, ht3, hm4⟩ := bind_some hm4
              refine O.append 1 Try.underlying29 el3 rfl H rfl (H.own 3 rfl) ht3 rfl rfl rfl rfl ?_
              intro v8 w7 H
              refine O.assign (v := v8) rfl rfl rfl ?_
              refine WL.nil ?_
              have H := H.keep [0, 1, 2] [mapI (K := GKey) (V := Bool) m1 z3, ownI (α := Int) v8 3 t3, boxI b1 36 [(.int .i64 x1.Day), (.bool x1.Found), (.int .i64 x1.Error)]] rfl (by decide)
              have hq : t3 = s4 := Option.some.inj (show some t3 = some s4 from hm4)
              subst hq
              exact ⟨v8, rfl, rfl, rfl, rfl, rfl, rfl, H⟩
            · refine W.cond_false (congrArg Value.bool hc2) ?_
              refine W.skip ?_
              have hq : z4 = s4 := Option.some.inj (show some z4 = some s4 from hm4)
              subst hq
              exact ⟨v2, rfl, rfl, rfl, rfl, rfl, rfl, H⟩
          · skip
            rintro f w ⟨v6, hf4, hf5, hf7, hf12, hf13, hf14, H⟩
            obtain ⟨u2, rfl⟩ : ∃ u2, f = (upd (upd (upd (upd (upd (upd u2 4 (.map (some m1))) 5 v6) 7 (.pointer (some ⟨b1, 0, none⟩))) 12 va0) 13 (.int .i64 ((a0.length : Nat) : Int))) 14 (.int .i64 (ik1 : Int))) := ⟨f, by rw [upd_self hf4, upd_self hf5, upd_self hf7, upd_self hf12, upd_self hf13, upd_self hf14]⟩
            refine W.region ?_
            refine O.move (v := (.map (some m1))) rfl rfl rfl ?_
            refine O.loadA [(.int .i64 x1.Day), (.bool x1.Found), (.int .i64 x1.Error)] ag36 rfl rfl rfl rfl (H.cell 2 rfl) ?_
            obtain ⟨t4, hy3, hm3⟩ := bind_some hm3
            refine O.call Try.call21 rfl rfl rfl (c_ledger_of x1 hy3) ?_
            rintro _ w8 hb6 rfl
            have H := H.ext hb6
            refine O.mapUpdate 0 t4 true Try.underlying49 key42 H rfl rfl rfl rfl rfl ?_
            intro w9 H
            refine WL.nil ?_
            have H := H.keep [0, 1] [mapI (K := GKey) (V := Bool) m1 (mput z3 t4 true), ownI (α := Int) v6 3 s4] rfl (by decide)
            have hq : ((mput z3 t4 true), s4) = (s2, s3) := Option.some.inj (show some ((mput z3 t4 true), s4) = some (s2, s3) from hm3)
            obtain ⟨he0, hq0⟩ := Prod.mk.inj hq; clear hq; subst he0
            subst hq0
            exact ⟨v6, rfl, rfl, rfl, rfl, rfl, H⟩
        · skip
          rintro f w ⟨v5, hf4, hf5, hf12, hf13, hf14, H⟩
          obtain ⟨u3, rfl⟩ : ∃ u3, f = (upd (upd (upd (upd (upd u3 4 (.map (some m1))) 5 v5) 12 va0) 13 (.int .i64 ((a0.length : Nat) : Int))) 14 (.int .i64 (ik1 : Int))) := ⟨f, by rw [upd_self hf4, upd_self hf5, upd_self hf12, upd_self hf13, upd_self hf14]⟩
          refine W.region ?_
          refine O.add rfl rfl rfl rfl hinck1 ?_
          refine O.move (v := .int .i64 ((ik1 : Int) + 1)) rfl rfl rfl ?_
          refine WL.nil ?_
          obtain rfl := Option.some.inj hm2
          exact ⟨_, rfl, _, _, v5, rfl, rangeN_next hdropk1, rfl, rfl, rfl, rfl, rfl, H⟩
      · skip
        rintro ik1 _ f w ⟨z3, z4, v2, rfl, hdropk1, hf14, hf13, hf4, hf5, hf12, H⟩ hfin
        have hltk1 := rangeN_end hdropk1
        obtain ⟨u4, rfl⟩ : ∃ u4, f = (upd (upd (upd (upd (upd u4 14 (.int .i64 (ik1 : Int))) 13 (.int .i64 ((a0.length : Nat) : Int))) 4 (.map (some m1))) 5 v2) 12 va0) := ⟨f, by rw [upd_self hf14, upd_self hf13, upd_self hf4, upd_self hf5, upd_self hf12]⟩
        refine W.seq ?_
        refine W.region ?_
        refine O.lss rfl rfl rfl rfl ?_
        refine WL.nil ?_
        refine W.seq ?_
        refine W.cond_false (congrArg Value.bool (decide_eq_false hltk1)) ?_
        refine W.exit ?_
        have hq : z4 = s1 := hfin
        subst hq
        have H := H.keep [1] [ownI (α := Int) v2 3 z4] rfl (by decide)
        refine xT rfl ?_
        exact ⟨v2, rfl, H⟩
    · skip
      rintro f w ⟨v4, hf5, H⟩
      obtain ⟨u5, rfl⟩ : ∃ u5, f = (upd u5 5 v4) := ⟨f, by rw [upd_self hf5]⟩
      refine W.seq ?_
      refine W.region ?_
      refine O.move (v := v4) rfl rfl rfl ?_
      refine O.assign (v := v4) rfl rfl rfl ?_
      refine O.assign (v := (.int .i64 0)) rfl rfl rfl ?_
      refine WL.nil ?_
      refine W.ret ?_
      have hq : (s1, 0) = (r0, r1) := Option.some.inj (show some (s1, 0) = some (r0, r1) from hm)
      obtain ⟨he0, hq0⟩ := Prod.mk.inj hq; clear hq; subst he0
      subst hq0
      exact ends2 Try.results9 rfl rfl ⟨_, rfl, H.base, ⟨_, rfl, H.ownR 0 rfl⟩⟩

set_option maxRecDepth 20000 in
theorem c_noongunref09_SameInts {w0 : World} (va0 : Value) (a0 : (List Int)) (ha0 : SliceR w0 va0 a0) (va1 : Value) (a1 : (List Int)) (ha1 : SliceR w0 va1 a1) {r0 : Bool} (hm : noongunref09_SameInts a0 a1 = some r0) :
    Calls Try.prog 13 #[va0, va1] w0 (Ret w0 fun _ v => v = (.bool r0)) := by
  unfold noongunref09_SameInts at hm
  refine calls_of_W Try.func13 rfl Try.ntmps13 (Nat.le_of_ble_eq_true rfl) ?_
  have H := Inv.start (w := w0)
  refine W.seq ?_
  refine W.region ?_
  refine O.assign (v := (.bool false)) rfl rfl rfl ?_
  refine WL.nil ?_
  refine W.seq ?_
  refine W.seq ?_
  refine W.region ?_
  refine O.move (v := va0) rfl rfl rfl ?_
  refine O.lenS Try.underlying29 (H.arg ha0) rfl rfl rfl ?_
  refine O.move (v := va1) rfl rfl rfl ?_
  refine O.lenS Try.underlying29 (H.arg ha1) rfl rfl rfl ?_
  refine O.neq rfl rfl rfl rfl ?_
  refine WL.nil ?_
  rcases ite_some hm with ⟨hc1, hm⟩ | ⟨hc1, hm⟩
  · refine W.cond_true (congrArg Value.bool hc1) ?_
    refine W.seq ?_
    refine W.region ?_
    refine O.assign (v := (.bool false)) rfl rfl rfl ?_
    refine WL.nil ?_
    refine W.ret ?_
    have hq : false = r0 := Option.some.inj (show some false = some r0 from hm)
    subst hq
    exact ends1 Try.results13 rfl ⟨_, rfl, H.base, rfl⟩
  · refine W.cond_false (congrArg Value.bool hc1) ?_
    refine W.skip ?_
    refine W.seq ?_
    refine W.seq ?_
    refine W.region ?_
    refine O.move (v := va0) rfl rfl rfl ?_
    refine O.lenS Try.underlying29 (H.arg ha0) rfl rfl rfl ?_
    refine O.move (v := (.int .i64 0)) rfl rfl rfl ?_
    refine WL.nil ?_
    obtain ⟨o1, hm1, hm⟩ := bind_some hm
    refine W.via (fun f w => o1 = .next () ∧ Inv w0 w []) ?_ ?_
    · skip
      refine W.block ?_
      have hbdik1 := (H.arg ha0).len_le
      refine W.rangeN (i := 0) hm1 (fun rem ik1 s f w => () = s ∧ (ik1 : Int) + rem = max 0 ((a0.length : Nat) : Int) ∧ f 13 = .int .i64 (ik1 : Int) ∧ f 12 = (.int .i64 ((a0.length : Nat) : Int)) ∧ f 0 = va0 ∧ f 1 = va1 ∧ Inv w0 w []) ?_ ?_ ?_
      · skip
        exact ⟨rfl, rangeN_start, rfl, rfl, rfl, rfl, H⟩
      · skip
        rintro k ik1 _ st f w ⟨rfl, hdropk1, hf13, hf12, hf0, hf1, H⟩ hm2
        have hltk1 := rangeN_lt hdropk1
        obtain ⟨u1, rfl⟩ : ∃ u1, f = (upd (upd (upd (upd u1 13 (.int .i64 (ik1 : Int))) 12 (.int .i64 ((a0.length : Nat) : Int))) 0 va0) 1 va1) := ⟨f, by rw [upd_self hf13, upd_self hf12, upd_self hf0, upd_self hf1]⟩
        have hinck1 := addI_lt hltk1 hbdik1
        refine W.seq ?_
        refine W.region ?_
        refine O.lss rfl rfl rfl rfl ?_
        refine WL.nil ?_
        refine W.seq ?_
        refine W.cond_true (congrArg Value.bool (decide_eq_true hltk1)) ?_
        refine W.skip ?_
        refine W.seq ?_
        refine W.block ?_
        refine W.seq ?_
        refine W.region ?_
        refine O.move (v := (.int .i64 (ik1 : Int))) rfl rfl rfl ?_
        refine O.assign (v := (.int .i64 (ik1 : Int))) rfl rfl rfl ?_
        refine WL.nil ?_
        refine W.seq ?_
        obtain ⟨x1, hx1, hm2⟩ := bind_some hm2
        obtain ⟨p1, hp1, hrp1⟩ := fix_indexAddr Try.underlying29 sz3 (H.arg ha0) hx1
        obtain ⟨x2, hx2, hm2⟩ := bind_some hm2
        obtain ⟨p2, hp2, hrp2⟩ := fix_indexAddr Try.underlying29 sz3 (H.arg ha1) hx2
        refine W.drawN 8 (fun f => f 0 = va0 ∧ f 1 = va1 ∧ f 12 = (.int .i64 ((a0.length : Nat) : Int)) ∧ f 13 = (.int .i64 (ik1 : Int)) ∧ f 19 = (.int .i64 x1) ∧ f 23 = (.int .i64 x2)) fol (by kernel_rfl) ?_ ?_
        · skip
          refine PL.of (fun _ w8 _ hx => O.move (v := va0) rfl rfl rfl (WL.nil ⟨rfl, hx⟩)) ?_
          refine PL.of (fun _ w8 _ hx => O.move (v := (.int .i64 (ik1 : Int))) rfl rfl rfl (WL.nil ⟨rfl, hx⟩)) ?_
          refine PL.of (fun _ w8 _ hx => hrp1 rfl rfl rfl rfl (WL.nil ⟨rfl, hx⟩)) ?_
          refine PL.of (fun _ w8 _ hx => by have hp1 := hp1.mono hx; exact O.load sc3 rfl rfl rfl (hp1.flat 0 _ rfl) (WL.nil ⟨rfl, hx⟩)) ?_
          refine PL.of (fun _ w8 _ hx => O.move (v := va1) rfl rfl rfl (WL.nil ⟨rfl, hx⟩)) ?_
          refine PL.of (fun _ w8 _ hx => O.move (v := (.int .i64 (ik1 : Int))) rfl rfl rfl (WL.nil ⟨rfl, hx⟩)) ?_
          refine PL.of (fun _ w8 _ hx => hrp2 rfl rfl rfl rfl (WL.nil ⟨rfl, hx⟩)) ?_
          refine PL.of (fun _ w8 _ hx => by have hp2 := hp2.mono hx; exact O.load sc3 rfl rfl rfl (hp2.flat 0 _ rfl) (WL.nil ⟨rfl, hx⟩)) ?_
          refine PL.nil ?_
          exact ⟨rfl, rfl, rfl, rfl, rfl, rfl⟩
        · skip
          rintro f w ⟨hf0, hf1, hf12, hf13, hf19, hf23⟩ hmd hx
          have H := H.ext hx
          have hp1 := hp1.mono hx
          have hp2 := hp2.mono hx
          obtain ⟨u2, rfl⟩ : ∃ u2, f = (upd (upd (upd (upd (upd (upd u2 0 va0) 1 va1) 12 (.int .i64 ((a0.length : Nat) : Int))) 13 (.int .i64 (ik1 : Int))) 19 (.int .i64 x1)) 23 (.int .i64 x2)) := ⟨f, by rw [upd_self hf0, upd_self hf1, upd_self hf12, upd_self hf13, upd_self hf19, upd_self hf23]⟩
          refine O.neq rfl rfl rfl rfl ?_
          refine WL.nil ?_
          rcases ite_some hm2 with ⟨hc2, hm2⟩ | ⟨hc2, hm2⟩
          · refine W.cond_true (congrArg Value.bool hc2) ?_
            refine W.seq ?_
            refine W.region ?_
            refine O.assign (v := (.bool false)) rfl rfl rfl ?_
            refine WL.nil ?_
            refine W.ret ?_
            obtain rfl := Option.some.inj hm2
            refine ⟨_, rfl, ?_⟩
            rintro rfl
            have hq : false = r0 := Option.some.inj (show some false = some r0 from hm)
            subst hq
            exact ends1 Try.results13 rfl ⟨_, rfl, H.base, rfl⟩
          · refine W.cond_false (congrArg Value.bool hc2) ?_
            refine W.skip ?_
            refine W.region ?_
            refine O.add rfl rfl rfl rfl hinck1 ?_
            refine O.move (v := .int .i64 ((ik1 : Int) + 1)) rfl rfl rfl ?_
            refine WL.nil ?_
            obtain rfl := Option.some.inj hm2
            exact ⟨_, rfl, rfl, rangeN_next hdropk1, rfl, rfl, rfl, rfl, H⟩
      · skip
        rintro ik1 _ f w ⟨rfl, hdropk1, hf13, hf12, hf0, hf1, H⟩ hfin
        have hltk1 := rangeN_end hdropk1
        obtain ⟨u3, rfl⟩ : ∃ u3, f = (upd (upd (upd (upd u3 13 (.int .i64 (ik1 : Int))) 12 (.int .i64 ((a0.length : Nat) : Int))) 0 va0) 1 va1) := ⟨f, by rw [upd_self hf13, upd_self hf12, upd_self hf0, upd_self hf1]⟩
        refine W.seq ?_
        refine W.region ?_
        refine O.lss rfl rfl rfl rfl ?_
        refine WL.nil ?_
        refine W.seq ?_
        refine W.cond_false (congrArg Value.bool (decide_eq_false hltk1)) ?_
        refine W.exit ?_
        obtain rfl : Ctl.next () = o1 := hfin
        refine xT rfl ?_
        exact ⟨rfl, H⟩
    · skip
      rintro f w ⟨rfl, H⟩
      refine W.seq ?_
      refine W.region ?_
      refine O.assign (v := (.bool true)) rfl rfl rfl ?_
      refine WL.nil ?_
      refine W.ret ?_
      have hq : true = r0 := Option.some.inj (show some true = some r0 from hm)
      subst hq
      exact ends1 Try.results13 rfl ⟨_, rfl, H.base, rfl⟩

set_option maxRecDepth 20000 in
theorem c_noongunlaw09_awake {w0 : World}  {r0 : Bool} (hm : noongunlaw09_awake  = some r0) :
    Calls Try.prog 5 #[] w0 (Ret w0 fun _ v => v = (.bool r0)) := by
  unfold noongunlaw09_awake at hm
  refine calls_of_W Try.func5 rfl Try.ntmps5 (Nat.le_of_ble_eq_true rfl) ?_
  have H := Inv.start (w := w0)
  refine W.seq ?_
  refine W.region ?_
  refine O.assign (v := (.bool false)) rfl rfl rfl ?_
  refine WL.nil ?_
  refine W.seq ?_
  refine W.region ?_
  refine O.build (v := (.agg (Flat.cells (GEntry.mk 5 false 100)).toArray)) (fun w => bd36_0_2 _ _ w) rfl rfl rfl ?_
  refine O.build (v := (.agg (Flat.cells (GEntry.mk 5 true 180)).toArray)) (fun w => bd36_0_1_2 _ _ _ w) rfl rfl rfl ?_
  refine O.build (v := (.agg (Flat.cells (GEntry.mk 6 false 90)).toArray)) (fun w => bd36_0_2 _ _ w) rfl rfl rfl ?_
  refine O.build (v := (.agg (Flat.cells (GEntry.mk 5 true 170)).toArray)) (fun w => bd36_0_1_2 _ _ _ w) rfl rfl rfl ?_
  refine O.buildSlice (α := GEntry) [(.agg (Flat.cells (GEntry.mk 5 false 100)).toArray), (.agg (Flat.cells (GEntry.mk 5 true 180)).toArray), (.agg (Flat.cells (GEntry.mk 6 false 90)).toArray), (.agg (Flat.cells (GEntry.mk 5 true 170)).toArray)] [(GEntry.mk 5 false 100), (GEntry.mk 5 true 180), (GEntry.mk 6 false 90), (GEntry.mk 5 true 170)] Try.underlying22 el36 H rfl rfl rfl rfl rfl rfl rfl ?_
  intro v1 w1 H hb1
  refine O.assign (v := v1) rfl rfl rfl ?_
  refine WL.nil ?_
  refine W.seq ?_
  refine W.region ?_
  refine O.move (v := v1) rfl rfl rfl ?_
  obtain ⟨⟨t1, t2⟩, hy1, hm⟩ := bind_some hm
  refine O.call Try.call12 rfl rfl rfl (c_ledger_Off _ _ (H.own 0 rfl) _ hy1) ?_
  rintro _ w2 hb2 rfl
  have H := H.ext hb2
  refine O.move (v := (.tuple #[(.int .i64 t1), (.int .i64 t2)])) rfl rfl rfl ?_
  refine O.extract (v := (.int .i64 t1)) rfl rfl rfl rfl ?_
  refine O.extract (v := (.int .i64 t2)) rfl rfl rfl rfl ?_
  refine O.assign (v := (.int .i64 t1)) rfl rfl rfl ?_
  refine O.assign (v := (.int .i64 t2)) rfl rfl rfl ?_
  refine WL.nil ?_
  refine W.seq ?_
  refine W.region ?_
  refine O.move (v := v1) rfl rfl rfl ?_
  obtain ⟨⟨t3, t4⟩, hy2, hm⟩ := bind_some hm
  refine O.call Try.call9 rfl rfl rfl (c_ledger_Corrections _ _ (H.own 0 rfl) hy2) ?_
  rintro _ w3 hb3 ⟨v2, rfl, ho1⟩
  have H := H.addOwn hb3 ho1
  refine O.move (v := (.tuple #[v2, (.int .i64 t4)])) rfl rfl rfl ?_
  refine O.extract (v := v2) rfl rfl rfl rfl ?_
  refine O.extract (v := (.int .i64 t4)) rfl rfl rfl rfl ?_
  refine O.assign (v := v2) rfl rfl rfl ?_
  refine O.assign (v := (.int .i64 t4)) rfl rfl rfl ?_
  refine WL.nil ?_
  refine W.seq ?_
  refine W.region ?_
  refine O.move (v := (.int .i64 t2)) rfl rfl rfl ?_
  refine O.eql rfl rfl rfl rfl ?_
  refine O.move (v := (.bool (t2 == 0))) rfl rfl rfl ?_
  refine WL.cut 3 (fun f w => f 4 = v2 ∧ f 5 = (.int .i64 t4) ∧ f 26 = .bool ((t2 == 0) && (t1 == 70)) ∧ Inv w0 w [ownI (α := GEntry) v1 36 ([(GEntry.mk 5 false 100), (GEntry.mk 5 true 180), (GEntry.mk 6 false 90), (GEntry.mk 5 true 170)] : List GEntry), ownI (α := Int) v2 3 t3]) ?_ ?_
  · skip
    rcases bool_ft (t2 == 0) with hc1 | hc1
    · skip
      refine WL.reset (i := 23) (v := .bool false) (congrArg Value.bool hc1) ?_
      refine O.skip rfl rfl ?_
      refine O.skip rfl rfl ?_
      refine O.pick_false (v := (.bool false)) rfl rfl rfl rfl ?_
      refine WL.nil ?_
      exact ⟨rfl, rfl, congrArg Value.bool (and_f hc1), H⟩
    · skip
      refine WL.reset (i := 23) (v := .bool true) (congrArg Value.bool hc1) ?_
      refine O.move (v := (.int .i64 t1)) rfl rfl rfl ?_
      refine O.eql rfl rfl rfl rfl ?_
      refine O.pick_true (v := (.bool (t1 == 70))) rfl rfl rfl rfl ?_
      refine WL.nil ?_
      exact ⟨rfl, rfl, congrArg Value.bool (and_t hc1), H⟩
  · skip
    rintro f w ⟨hf4, hf5, hf26, H⟩
    obtain ⟨u1, rfl⟩ : ∃ u1, f = (upd (upd (upd u1 4 v2) 5 (.int .i64 t4)) 26 (.bool ((t2 == 0) && (t1 == 70)))) := ⟨f, by rw [upd_self hf4, upd_self hf5, upd_self hf26]⟩
    refine O.move (v := (.bool ((t2 == 0) && (t1 == 70)))) rfl rfl rfl ?_
    refine WL.cut 3 (fun f w => f 4 = v2 ∧ f 30 = .bool (((t2 == 0) && (t1 == 70)) && (t4 == 0)) ∧ Inv w0 w [ownI (α := GEntry) v1 36 ([(GEntry.mk 5 false 100), (GEntry.mk 5 true 180), (GEntry.mk 6 false 90), (GEntry.mk 5 true 170)] : List GEntry), ownI (α := Int) v2 3 t3]) ?_ ?_
    · skip
      rcases bool_ft ((t2 == 0) && (t1 == 70)) with hc2 | hc2
      · skip
        refine WL.reset (i := 27) (v := .bool false) (congrArg Value.bool hc2) ?_
        refine O.skip rfl rfl ?_
        refine O.skip rfl rfl ?_
        refine O.pick_false (v := (.bool false)) rfl rfl rfl rfl ?_
        refine WL.nil ?_
        exact ⟨rfl, congrArg Value.bool (and_f hc2), H⟩
      · skip
        refine WL.reset (i := 27) (v := .bool true) (congrArg Value.bool hc2) ?_
        refine O.move (v := (.int .i64 t4)) rfl rfl rfl ?_
        refine O.eql rfl rfl rfl rfl ?_
        refine O.pick_true (v := (.bool (t4 == 0))) rfl rfl rfl rfl ?_
        refine WL.nil ?_
        exact ⟨rfl, congrArg Value.bool (and_t hc2), H⟩
    · skip
      rintro f w ⟨hf4, hf30, H⟩
      obtain ⟨u2, rfl⟩ : ∃ u2, f = (upd (upd u2 4 v2) 30 (.bool (((t2 == 0) && (t1 == 70)) && (t4 == 0)))) := ⟨f, by rw [upd_self hf4, upd_self hf30]⟩
      refine O.move (v := (.bool (((t2 == 0) && (t1 == 70)) && (t4 == 0)))) rfl rfl rfl ?_
      obtain ⟨b1, hm1, hm⟩ := bind_some hm
      refine WL.cut 4 (fun f w => f 35 = .bool b1 ∧ Inv w0 w [ownI (α := GEntry) v1 36 ([(GEntry.mk 5 false 100), (GEntry.mk 5 true 180), (GEntry.mk 6 false 90), (GEntry.mk 5 true 170)] : List GEntry), ownI (α := Int) v2 3 t3]) ?_ ?_
      · skip
        rcases ite_some hm1 with ⟨hc3, hm1⟩ | ⟨hc3, hm1⟩
        · skip
          refine WL.reset (i := 31) (v := .bool true) (congrArg Value.bool hc3) ?_
          refine O.move (v := v2) rfl rfl rfl ?_
          refine O.buildSlice (α := Int) [(.int .i64 3)] [3] Try.underlying29 el3 H rfl rfl rfl rfl rfl rfl rfl ?_
          intro v3 w4 H hb4
          obtain ⟨t5, hy3, hm1⟩ := bind_some hm1
          refine O.call Try.call13 rfl rfl rfl (c_noongunref09_SameInts _ _ (H.own 1 rfl) _ _ (H.own 2 rfl) hy3) ?_
          rintro _ w5 hb5 rfl
          have H := H.ext hb5
          refine O.pick_true (v := (.bool t5)) rfl rfl rfl rfl ?_
          refine WL.nil ?_
          have H := H.keep [0, 1] [ownI (α := GEntry) v1 36 ([(GEntry.mk 5 false 100), (GEntry.mk 5 true 180), (GEntry.mk 6 false 90), (GEntry.mk 5 true 170)] : List GEntry), ownI (α := Int) v2 3 t3] rfl (by decide)
          have hq : t5 = b1 := Option.some.inj (show some t5 = some b1 from hm1)
          subst hq
          exact ⟨rfl, H⟩
        · skip
          refine WL.reset (i := 31) (v := .bool false) (congrArg Value.bool hc3) ?_
          refine O.skip rfl rfl ?_
          refine O.skip rfl rfl ?_
          refine O.skip rfl rfl ?_
          refine O.pick_false (v := (.bool false)) rfl rfl rfl rfl ?_
          refine WL.nil ?_
          have hq : false = b1 := Option.some.inj (show some false = some b1 from hm1)
          subst hq
          exact ⟨rfl, H⟩
      · skip
        rintro f w ⟨hf35, H⟩
        obtain ⟨u3, rfl⟩ : ∃ u3, f = (upd u3 35 (.bool b1)) := ⟨f, by rw [upd_self hf35]⟩
        refine O.assign (v := (.bool b1)) rfl rfl rfl ?_
        refine WL.nil ?_
        refine W.ret ?_
        have hq : b1 = r0 := Option.some.inj (show some b1 = some r0 from hm)
        subst hq
        exact ends1 Try.results5 rfl ⟨_, rfl, H.base, rfl⟩

theorem c_last_cmp (x y : GEntry) (w0 : World) : Calls Try.prog 17 #[.agg (Flat.cells x).toArray, .agg (Flat.cells y).toArray] w0 fun e w' => e = .returned (.int .i64 (lastC x y)) ∧ GrewQ w0 w' := by
  refine calls_of_W Try.func17 rfl Try.ntmps17 (Nat.le_of_ble_eq_true rfl) ?_
  have H := GInv.start (w := w0)
  refine W.seq ?_
  refine W.region ?_
  refine O.boxG (Flat.cells x) H rfl rfl rfl rfl ?_
  intro b0 w1 H hb0
  refine O.boxG (Flat.cells y) H rfl rfl rfl rfl ?_
  intro b1 w2 H hb1
  refine O.assign (v := .int .i64 0) rfl rfl rfl ?_
  refine WL.nil ?_
  refine W.seq ?_
  refine W.seq ?_
  refine W.region ?_
  refine O.fieldAddr fd36_0 rfl rfl rfl ?_
  refine O.load (v := .int .i64 x.Day) sc3 rfl rfl rfl (H.cell 0 rfl 0 _ rfl) ?_
  refine O.fieldAddr fd36_0 rfl rfl rfl ?_
  refine O.load (v := .int .i64 y.Day) sc3 rfl rfl rfl (H.cell 1 rfl 0 _ rfl) ?_
  refine O.neq rfl rfl rfl rfl ?_
  refine WL.nil ?_
  by_cases he : x.Day ≠ y.Day
  · refine W.cond_true (congrArg Value.bool (bne_iff_ne.2 he)) ?_
    refine W.seq ?_
    refine W.region ?_
    refine O.fieldAddr fd36_0 rfl rfl rfl ?_
    refine O.load (v := .int .i64 x.Day) sc3 rfl rfl rfl (H.cell 0 rfl 0 _ rfl) ?_
    refine O.fieldAddr fd36_0 rfl rfl rfl ?_
    refine O.load (v := .int .i64 y.Day) sc3 rfl rfl rfl (H.cell 1 rfl 0 _ rfl) ?_
    refine O.subWr rfl rfl rfl rfl ?_
    refine O.assign (v := .int .i64 (IntKind.i64.wrap (x.Day - y.Day))) rfl rfl rfl ?_
    refine WL.nil ?_
    refine W.ret ?_
    exact ends1 Try.results17 rfl ⟨by rw [lastC, if_pos he]; rfl, H.g⟩
  refine W.cond_false (congrArg Value.bool (by simpa using he)) ?_
  refine W.skip ?_
  refine W.seq ?_
  refine W.seq ?_
  refine W.region ?_
  refine O.fieldAddr fd36_1 rfl rfl rfl ?_
  refine O.load (v := .bool x.Found) sc4 rfl rfl rfl (H.cell 0 rfl 1 _ rfl) ?_
  refine WL.nil ?_
  cases hf : x.Found with
  | true =>
    refine W.cond_true rfl ?_
    refine W.seq ?_
    refine W.region ?_
    refine O.assign (v := .int .i64 1) rfl rfl rfl ?_
    refine WL.nil ?_
    refine W.ret ?_
    exact ends1 Try.results17 rfl ⟨by rw [lastC, if_neg he, if_pos hf]; rfl, H.g⟩
  | false =>
    refine W.cond_false rfl ?_
    refine W.skip ?_
    refine W.seq ?_
    refine W.region ?_
    refine O.assign (v := .int .i64 (-1)) rfl rfl rfl ?_
    refine WL.nil ?_
    refine W.ret ?_
    exact ends1 Try.results17 rfl ⟨by rw [lastC, if_neg he, if_neg (by rw [hf]; decide)]; rfl, H.g⟩

theorem ins_w {P : Program} {ρ : Go.Shelf.Ren} (L : SlLaysF0.n20 P ρ) (aE : ∀ w, (isAgg (ρ.t 24)).run P w = .ok true w) (zE : ∀ w, (Go.sizeOf (ρ.t 24)).run P w = .ok 3 w) (cf : GEntry → GEntry → Int) (g : Nat) (blk off cap a b : Nat) (d0 d d' : Array GEntry) (w0 w : World)
    (eg : ∀ args w, (callFunc g args).run P w = .ok (.enter g args) w) (hcmp : CmpLays P g #[] (Flat.cells (α := GEntry)) 3 cf blk off d0.size w0) (R : RowK (Flat.cells (α := GEntry)) 3 w0 blk off d0) (hs : d0.size = d.size) (S : SWK (Flat.cells (α := GEntry)) 3 w0 blk off d w) (he : insertionSort (ltOf cf) d a b = d') (hs' : d'.size = d.size) (hab : a ≤ b) (hb : b ≤ d.size) (hsz : d.size < 4611686018427387904) :
    Calls P (ρ.f 20) #[.slice (some ⟨blk, off, none⟩) d.size cap, .int .i64 a, .int .i64 b, .func (.func g) #[] #[]] w fun e w' => e = .returned (.tuple #[]) ∧ SWK (Flat.cells (α := GEntry)) 3 w0 blk off d' w' := by
  have hC : CmpLays P g #[] (Flat.cells (α := GEntry)) 3 cf blk off d.size w := fun m os d2 h2 x y => by
    obtain ⟨n0, os0, rfl⟩ := S
    rw [sortWorldK_on Flat.cells 3 w0 blk off n0 m d d2 os0 os R.hblk h2]
    exact hcmp _ _ d2 (h2.trans hs.symm) x y
  refine (AnyQ.insertionSortCmpFunc L 3 aE zE Flat.cells R.hk R.h1 cf g #[] blk off cap a b d w eg hC (S.holds R.hblk R.hH hs.symm) (S.lt R.hblk) hab hb hsz).mono ?_
  rintro e w' ⟨rfl, n, os, rfl⟩
  rw [he]
  exact ⟨rfl, S.on R.hblk n _ os hs'⟩
theorem hint2 {h : Hint} (hn : h ≠ .decreasing) : (hintCode h == 2) = false := by
  cases h with
  | unknown => rfl
  | increasing => rfl
  | decreasing => exact absurd rfl hn
theorem hint1 (h : Hint) : (hintCode h == 1) = decide (h = .increasing) := by
  cases h <;> rfl
theorem sub1N {a : Nat} (h : 1 ≤ a) (hb : a < 4611686018427387904) : subI (a : Int) 1 = some ((a - 1 : Nat) : Int) := subN h hb
set_option maxRecDepth 20000 in
theorem c_pdq {lt' : GEntry → GEntry → Bool} (hO : SWO lt') (cf : GEntry → GEntry → Int) (g : Nat) (eg : Callable Try.prog g) (blk off cap : Nat) (d0 : Array GEntry) (w0 : World) (hcmp : CmpLays Try.prog g #[] (Flat.cells (α := GEntry)) 3 cf blk off d0.size w0) (R : RowK (Flat.cells (α := GEntry)) 3 w0 blk off d0) (hcap : d0.size ≤ cap) (hcm : cap ≤ maxLen) :
    ∀ (N a b limit : Nat) (d : Array GEntry) (w : World), b - a < N → d.size = d0.size → AgP (ltOf cf) lt' d → SWK (Flat.cells (α := GEntry)) 3 w0 blk off d w → a ≤ b → b ≤ d.size → d.size < 4611686018427387904 → limit < 4611686018427387904 → Go.Sort.Below lt' a b d →
    Calls Try.prog 30 #[.slice (some ⟨blk, off, none⟩) d0.size cap, .int .i64 a, .int .i64 b, .int .i64 limit, .func (.func g) #[] #[]] w fun e w' => e = .returned (.tuple #[]) ∧ SWK (Flat.cells (α := GEntry)) 3 w0 blk off (pdq lt' d a b limit true true) w' := by
  intro N
  induction N with
  | zero => exact fun a b _ _ _ h => absurd h (Nat.not_lt_zero _)
  | succ N ih =>
    intro a b limit d w hN hs hAg S hab hb hsz hlim hBel
    refine calls_of_W Try.func30 rfl Try.ntmps30 (Nat.le_of_ble_eq_true rfl) ?_
    refine W.seq ?_
    refine W.region ?_
    refine O.assign (v := .bool true) rfl rfl rfl ?_
    refine WL.nil ?_
    refine W.seq ?_
    refine W.region ?_
    refine O.assign (v := .bool true) rfl rfl rfl ?_
    refine WL.nil ?_
    refine W.block ?_
    refine W.loopL (l := List.replicate (b - a + 1) ()) (fun rem f w => ∃ (a' b' lim : Nat) (wb wp : Bool) (dk : Array GEntry), (f 0 = (.slice (some ⟨blk, off, none⟩) d0.size cap) ∧ f 1 = (.int .i64 (a' : Int)) ∧ f 2 = (.int .i64 (b' : Int)) ∧ f 3 = (.int .i64 (lim : Int)) ∧ f 4 = (.func (.func g) #[] #[]) ∧ f 10 = .bool wb ∧ f 11 = .bool wp) ∧ (a' ≤ b' ∧ b' ≤ d.size ∧ b' - a' < rem.length ∧ b' - a' ≤ b - a ∧ lim ≤ limit ∧ dk.size = d.size) ∧ AgP (ltOf cf) lt' dk ∧ Go.Sort.Below lt' a' b' dk ∧ SWK (Flat.cells (α := GEntry)) 3 w0 blk off dk w ∧ pdq lt' dk a' b' lim wb wp = pdq lt' d a b limit true true) ?_ ?_ ?_
    · exact ⟨a, b, limit, true, true, d, ⟨rfl, rfl, rfl, rfl, rfl, rfl, rfl⟩, ⟨hab, hb, by rw [List.length_replicate]; omega, Nat.le_refl _, Nat.le_refl _, rfl⟩, hAg, hBel, S, rfl⟩
    · rintro x0 rem f w ⟨a', b', lim, wb, wp, dk, hf, ⟨hab', hb', hrem, hle, hlim', hds⟩, hAgk, hBelk, hS, heq⟩
      obtain ⟨u, rfl⟩ := up7 hf.1 hf.2.1 hf.2.2.1 hf.2.2.2.1 hf.2.2.2.2.1 hf.2.2.2.2.2.1 hf.2.2.2.2.2.2
      rw [List.length_cons] at hrem
      have hdz : dk.size = d0.size := hds.trans hs
      refine W.block ?_
      refine W.seq ?_
      refine W.region ?_
      refine O.move (v := (.int .i64 (b' : Int))) rfl rfl rfl ?_
      refine O.move (v := (.int .i64 (a' : Int))) rfl rfl rfl ?_
      refine O.sub rfl rfl rfl rfl (subN hab' (by omega)) ?_
      refine O.assign (v := (.int .i64 ((b' - a' : Nat) : Int))) rfl rfl rfl ?_
      refine WL.nil ?_
      refine W.seq ?_
      refine W.seq ?_
      refine W.region ?_
      refine O.move (v := (.int .i64 ((b' - a' : Nat) : Int))) rfl rfl rfl ?_
      refine O.leq rfl rfl rfl rfl ?_
      refine WL.nil ?_
      by_cases h12 : b' - a' ≤ 12
      · refine W.cond_true (congrArg Value.bool (decide_eq_true (by omega))) ?_
        have hc := ins_w (P := Try.prog) (ρ := Try.sortT_ren) { Try.sortT with } Try.isAgg36 Try.sizeOf36 cf g blk off cap a' b' d0 dk _ w0 w eg hcmp R hdz.symm hS (ag_insertionSort hAgk (by omega)) (insertionSort_holds hO dk a' b' hab' (by omega)).1.1 hab' (by omega) (by omega)
        rw [hdz] at hc
        refine W.seq ?_
        refine W.region ?_
        refine O.move (v := (.slice (some ⟨blk, off, none⟩) d0.size cap)) rfl rfl rfl ?_
        refine O.move (v := (.int .i64 (a' : Int))) rfl rfl rfl ?_
        refine O.move (v := (.int .i64 (b' : Int))) rfl rfl rfl ?_
        refine O.move (v := (.func (.func g) #[] #[])) rfl rfl rfl ?_
        refine O.callE Try.call36 rfl rfl rfl hc ?_
        intro w1 hw1
        refine WL.nil ?_
        refine W.ret ?_
        exact ends0 Try.results30 ⟨rfl, by rw [← heq, pdq_small h12]; exact hw1⟩
      refine W.cond_false (congrArg Value.bool (decide_eq_false (by omega))) ?_
      refine W.skip ?_
      refine W.seq ?_
      refine W.seq ?_
      refine W.region ?_
      refine O.move (v := (.int .i64 (lim : Int))) rfl rfl rfl ?_
      refine O.eql rfl rfl rfl rfl ?_
      refine WL.nil ?_
      by_cases hl0 : lim = 0
      · refine W.cond_true (congrArg Value.bool (beq_iff_eq.2 (by omega))) ?_
        have hc := AnyQ.heapSortCmpFunc (P := Try.prog) (ρ := Try.sortT_ren) { Try.sortT with } 3 Try.isAgg36 Try.sizeOf36 Flat.cells cf g #[] blk off cap a' b' d0 dk w0 w eg hcmp R hdz.symm hS hab' (by omega) (by omega)
        rw [hdz, ag_heapSort hAgk hab' (by omega)] at hc
        refine W.seq ?_
        refine W.region ?_
        refine O.move (v := (.slice (some ⟨blk, off, none⟩) d0.size cap)) rfl rfl rfl ?_
        refine O.move (v := (.int .i64 (a' : Int))) rfl rfl rfl ?_
        refine O.move (v := (.int .i64 (b' : Int))) rfl rfl rfl ?_
        refine O.move (v := (.func (.func g) #[] #[])) rfl rfl rfl ?_
        refine O.callE Try.call37 rfl rfl rfl hc ?_
        intro w1 hw1
        refine WL.nil ?_
        refine W.ret ?_
        exact ends0 Try.results30 ⟨rfl, by rw [← heq, pdq_heap h12 hl0]; exact hw1⟩
      refine W.cond_false (congrArg Value.bool (beq_eq_false_iff_ne.2 (by omega))) ?_
      refine W.skip ?_
      obtain ⟨s1, B1, hc1, s2, B2, hpv, s3, B3⟩ := rd_facts (lt := lt') (limit := lim) (wb := wb) (wp := wp) hO partialInsertionSort_holds reverseRange_holds (show a' < b' by omega) (show b' ≤ dk.size by omega) hBelk
      obtain ⟨p1, p2, p3⟩ := rd_perm (limit := lim) (wb := wb) (wp := wp) hO (show a' < b' by omega) (show b' ≤ dk.size by omega) hBelk
      have g1 := hAgk.permIn p1 (by omega)
      have g2 := g1.permIn p2 (by omega)
      have g3 := g2.permIn p3 (by omega)
      have ec : (rd lt' dk a' b' lim wb wp).c = choosePivot lt' (rd lt' dk a' b' lim wb wp).d1 a' b' := rfl
      have hwb0 : wb = false → (rd lt' dk a' b' lim wb wp).d1 = breakPatterns dk a' b' ∧ (rd lt' dk a' b' lim wb wp).lim = lim - 1 := by
        rintro rfl
        exact rd_false
      have hwb1 : wb = true → (rd lt' dk a' b' lim wb wp).d1 = dk ∧ (rd lt' dk a' b' lim wb wp).lim = lim := by
        rintro rfl
        exact rd_true
      have hdec := @rd_dec GEntry _ lt' dk a' b' lim wb wp
      have hnot := @rd_not GEntry _ lt' dk a' b' lim wb wp
      have hpy := @rd_pi_yes GEntry _ lt' dk a' b' lim wb wp
      have hpn := @rd_pi_no GEntry _ lt' dk a' b' lim wb wp
      have hlr := @rd_lim_le GEntry _ lt' dk a' b' lim wb wp
      have k1 := @pdq_done GEntry _ lt' dk a' b' lim wb wp h12 hl0
      have k2 := @pdq_eq GEntry _ lt' dk a' b' lim wb wp h12 hl0
      have k3 := @pdq_left GEntry _ lt' dk a' b' lim wb wp h12 hl0
      have k4 := @pdq_right GEntry _ lt' dk a' b' lim wb wp h12 hl0
      rw [heq] at k1 k2 k3 k4
      clear heq p1 p2 p3
      generalize rd lt' dk a' b' lim wb wp = r at *
      refine W.cut (fun f w => (f 0 = (.slice (some ⟨blk, off, none⟩) d0.size cap) ∧ f 1 = (.int .i64 (a' : Int)) ∧ f 2 = (.int .i64 (b' : Int)) ∧ f 3 = (.int .i64 (r.lim : Int)) ∧ f 4 = (.func (.func g) #[] #[]) ∧ f 10 = .bool wb ∧ f 11 = .bool wp ∧ f 12 = (.int .i64 ((b' - a' : Nat) : Int))) ∧ SWK (Flat.cells (α := GEntry)) 3 w0 blk off r.d1 w) ?_ ?_
      · refine W.seq ?_
        refine W.region ?_
        refine O.move (v := .bool wb) rfl rfl rfl ?_
        refine O.not rfl rfl rfl ?_
        refine WL.nil ?_
        cases hwb : wb with
        | false =>
          subst hwb
          obtain ⟨e1, e2⟩ := hwb0 rfl
          refine W.cond_true rfl ?_
          have hc := AnyQ.breakPatternsCmpFunc (P := Try.prog) (ρ := Try.sortT_ren) { Try.sortT with } 3 Try.isAgg36 Try.sizeOf36 Flat.cells g #[] blk off cap a' b' d0 dk w0 w R hdz.symm hS hab' (by omega) (by omega)
          rw [hdz, ← e1] at hc
          refine W.seq ?_
          refine W.region ?_
          refine O.move (v := (.slice (some ⟨blk, off, none⟩) d0.size cap)) rfl rfl rfl ?_
          refine O.move (v := (.int .i64 (a' : Int))) rfl rfl rfl ?_
          refine O.move (v := (.int .i64 (b' : Int))) rfl rfl rfl ?_
          refine O.move (v := (.func (.func g) #[] #[])) rfl rfl rfl ?_
          refine O.callE Try.call38 rfl rfl rfl hc ?_
          intro w1 hw1
          refine WL.nil ?_
          refine W.region ?_
          refine O.move (v := (.int .i64 (lim : Int))) rfl rfl rfl ?_
          refine O.sub rfl rfl rfl rfl (sub1N (by omega) (by omega)) ?_
          refine O.assign (v := (.int .i64 ((lim - 1 : Nat) : Int))) rfl rfl rfl ?_
          refine WL.nil ?_
          exact ⟨⟨rfl, rfl, rfl, by rw [e2]; rfl, rfl, rfl, rfl, rfl⟩, hw1⟩
        | true =>
          subst hwb
          obtain ⟨e1, e2⟩ := hwb1 rfl
          refine W.cond_false rfl ?_
          exact W.skip ⟨⟨rfl, rfl, rfl, by rw [e2]; rfl, rfl, rfl, rfl, rfl⟩, by rw [e1]; exact hS⟩
      clear hS hwb0 hwb1 hf u
      rintro f w ⟨hf, hS⟩
      obtain ⟨u, rfl⟩ := up8 hf.1 hf.2.1 hf.2.2.1 hf.2.2.2.1 hf.2.2.2.2.1 hf.2.2.2.2.2.1 hf.2.2.2.2.2.2.1 hf.2.2.2.2.2.2.2
      have hc := AnyQ.choosePivotCmpFunc (P := Try.prog) (ρ := Try.sortT_ren) { Try.sortT with } 3 Try.isAgg36 Try.sizeOf36 Flat.cells cf g #[] blk off cap a' b' d0 r.d1 w0 w eg hcmp R (by omega) hS (by omega) (by omega) (by omega)
      rw [show r.d1.size = d0.size by omega, ag_choosePivot g1 (by omega) (by omega), ← ec] at hc
      refine W.seq ?_
      refine W.region ?_
      refine O.move (v := (.slice (some ⟨blk, off, none⟩) d0.size cap)) rfl rfl rfl ?_
      refine O.move (v := (.int .i64 (a' : Int))) rfl rfl rfl ?_
      refine O.move (v := (.int .i64 (b' : Int))) rfl rfl rfl ?_
      refine O.move (v := (.func (.func g) #[] #[])) rfl rfl rfl ?_
      refine O.callE Try.call39 rfl rfl rfl hc ?_
      intro w1 hS
      refine O.move (v := (.tuple #[.int .i64 (r.c.1 : Int), .int .i64 (hintCode r.c.2)])) rfl rfl rfl ?_
      refine O.extract (v := .int .i64 (r.c.1 : Int)) rfl rfl rfl rfl ?_
      refine O.extract (v := .int .i64 (hintCode r.c.2)) rfl rfl rfl rfl ?_
      refine O.assign (v := .int .i64 (r.c.1 : Int)) rfl rfl rfl ?_
      refine O.assign (v := .int .i64 (hintCode r.c.2)) rfl rfl rfl ?_
      refine WL.nil ?_
      refine W.cut (fun f w => (f 0 = (.slice (some ⟨blk, off, none⟩) d0.size cap) ∧ f 1 = (.int .i64 (a' : Int)) ∧ f 2 = (.int .i64 (b' : Int)) ∧ f 3 = (.int .i64 (r.lim : Int)) ∧ f 4 = (.func (.func g) #[] #[]) ∧ f 10 = .bool wb ∧ f 11 = .bool wp ∧ f 12 = (.int .i64 ((b' - a' : Nat) : Int)) ∧ f 13 = (.int .i64 (r.pivot : Int)) ∧ f 14 = (.int .i64 (hintCode r.hint))) ∧ SWK (Flat.cells (α := GEntry)) 3 w0 blk off r.d2 w) ?_ ?_
      · refine W.seq ?_
        refine W.region ?_
        refine O.move (v := .int .i64 (hintCode r.c.2)) rfl rfl rfl ?_
        refine O.eql rfl rfl rfl rfl ?_
        refine WL.nil ?_
        by_cases hh : r.c.2 = .decreasing
        · obtain ⟨e1, e2, e3⟩ := hdec hh
          refine W.cond_true (congrArg Value.bool (by rw [hh]; rfl)) ?_
          have hc := AnyQ.reverseRangeCmpFunc (P := Try.prog) (ρ := Try.sortT_ren) { Try.sortT with } 3 Try.isAgg36 Try.sizeOf36 Flat.cells g #[] blk off cap a' b' d0 r.d1 w0 w1 R (by omega) hS hab' (by omega) (by omega)
          rw [show r.d1.size = d0.size by omega, ← e1] at hc
          refine W.seq ?_
          refine W.region ?_
          refine O.move (v := (.slice (some ⟨blk, off, none⟩) d0.size cap)) rfl rfl rfl ?_
          refine O.move (v := (.int .i64 (a' : Int))) rfl rfl rfl ?_
          refine O.move (v := (.int .i64 (b' : Int))) rfl rfl rfl ?_
          refine O.move (v := (.func (.func g) #[] #[])) rfl rfl rfl ?_
          refine O.callE Try.call40 rfl rfl rfl hc ?_
          intro w2 hS
          refine WL.nil ?_
          refine W.seq ?_
          refine W.region ?_
          refine O.move (v := (.int .i64 (b' : Int))) rfl rfl rfl ?_
          refine O.sub rfl rfl rfl rfl (sub1N (by omega) (by omega)) ?_
          refine O.move (v := .int .i64 (r.c.1 : Int)) rfl rfl rfl ?_
          refine O.move (v := (.int .i64 (a' : Int))) rfl rfl rfl ?_
          refine O.sub rfl rfl rfl rfl (subN (by omega) (by omega)) ?_
          refine O.sub rfl rfl rfl rfl (subN (by omega) (by omega)) ?_
          refine O.assign (v := (.int .i64 ((b' - 1 - (r.c.1 - a') : Nat) : Int))) rfl rfl rfl ?_
          refine WL.nil ?_
          refine W.region ?_
          refine O.assign (v := .int .i64 1) rfl rfl rfl ?_
          refine WL.nil ?_
          exact ⟨⟨rfl, rfl, rfl, rfl, rfl, rfl, rfl, rfl, by rw [e2]; rfl, by rw [e3]; rfl⟩, hS⟩
        · obtain ⟨e1, e2, e3⟩ := hnot hh
          refine W.cond_false (congrArg Value.bool (hint2 hh)) ?_
          exact W.skip ⟨⟨rfl, rfl, rfl, rfl, rfl, rfl, rfl, rfl, by rw [e2]; rfl, by rw [e3]; rfl⟩, by rw [e1]; exact hS⟩
      clear hS hdec hnot hf u hc
      rintro f w ⟨hf, hS⟩
      obtain ⟨u, rfl⟩ := up10 hf.1 hf.2.1 hf.2.2.1 hf.2.2.2.1 hf.2.2.2.2.1 hf.2.2.2.2.2.1 hf.2.2.2.2.2.2.1 hf.2.2.2.2.2.2.2.1 hf.2.2.2.2.2.2.2.2.1 hf.2.2.2.2.2.2.2.2.2
      refine W.seq ?_
      refine W.cut (fun f w => ((f 0 = (.slice (some ⟨blk, off, none⟩) d0.size cap) ∧ f 1 = (.int .i64 (a' : Int)) ∧ f 2 = (.int .i64 (b' : Int)) ∧ f 3 = (.int .i64 (r.lim : Int)) ∧ f 4 = (.func (.func g) #[] #[]) ∧ f 10 = .bool wb ∧ f 11 = .bool wp ∧ f 12 = (.int .i64 ((b' - a' : Nat) : Int)) ∧ f 13 = (.int .i64 (r.pivot : Int)) ∧ f 14 = (.int .i64 (hintCode r.hint))) ∧ f 75 = .bool (wb && wp && decide (r.hint = .increasing))) ∧ SWK (Flat.cells (α := GEntry)) 3 w0 blk off r.d2 w) ?_ ?_
      · refine W.region ?_
        cases wb with
        | false =>
          refine O.move (v := .bool false) rfl rfl rfl ?_
          refine O.move (v := .bool false) rfl rfl rfl ?_
          refine O.skip rfl rfl ?_
          refine O.pick_false (v := .bool false) rfl rfl rfl rfl ?_
          refine O.move (v := .bool false) rfl rfl rfl ?_
          refine O.skip rfl rfl ?_
          refine O.skip rfl rfl ?_
          refine O.pick_false (v := .bool false) rfl rfl rfl rfl ?_
          refine WL.nil ?_
          exact ⟨⟨⟨rfl, rfl, rfl, rfl, rfl, rfl, rfl, rfl, rfl, rfl⟩, rfl⟩, hS⟩
        | true =>
          refine O.move (v := .bool true) rfl rfl rfl ?_
          refine O.move (v := .bool true) rfl rfl rfl ?_
          refine O.move (v := .bool wp) rfl rfl rfl ?_
          refine O.pick_true (v := .bool wp) rfl rfl rfl rfl ?_
          cases wp with
          | false =>
            refine O.move (v := .bool false) rfl rfl rfl ?_
            refine O.skip rfl rfl ?_
            refine O.skip rfl rfl ?_
            refine O.pick_false (v := .bool false) rfl rfl rfl rfl ?_
            refine WL.nil ?_
            exact ⟨⟨⟨rfl, rfl, rfl, rfl, rfl, rfl, rfl, rfl, rfl, rfl⟩, rfl⟩, hS⟩
          | true =>
            refine O.move (v := .bool true) rfl rfl rfl ?_
            refine O.move (v := .int .i64 (hintCode r.hint)) rfl rfl rfl ?_
            refine O.eql rfl rfl rfl rfl ?_
            refine O.pick_true (v := .bool (hintCode r.hint == 1)) rfl rfl rfl rfl ?_
            refine WL.nil ?_
            exact ⟨⟨⟨rfl, rfl, rfl, rfl, rfl, rfl, rfl, rfl, rfl, rfl⟩, congrArg Value.bool (hint1 r.hint)⟩, hS⟩
      clear hS hf u
      rintro f w ⟨⟨hf, h75⟩, hS⟩
      obtain ⟨u, rfl⟩ := up11 hf.1 hf.2.1 hf.2.2.1 hf.2.2.2.1 hf.2.2.2.2.1 hf.2.2.2.2.2.1 hf.2.2.2.2.2.2.1 hf.2.2.2.2.2.2.2.1 hf.2.2.2.2.2.2.2.2.1 hf.2.2.2.2.2.2.2.2.2 h75
      refine W.via (fun f w => (f 0 = (.slice (some ⟨blk, off, none⟩) d0.size cap) ∧ f 1 = (.int .i64 (a' : Int)) ∧ f 2 = (.int .i64 (b' : Int)) ∧ f 3 = (.int .i64 (r.lim : Int)) ∧ f 4 = (.func (.func g) #[] #[]) ∧ f 10 = .bool wb ∧ f 11 = .bool wp ∧ f 12 = (.int .i64 ((b' - a' : Nat) : Int)) ∧ f 13 = (.int .i64 (r.pivot : Int))) ∧ r.pi.2 = false ∧ SWK (Flat.cells (α := GEntry)) 3 w0 blk off r.pi.1 w) ?_ ?_
      · cases hcd : (wb && wp && decide (r.hint = .increasing)) with
        | false =>
          have e1 := hpn hcd
          refine W.cond_false rfl ?_
          exact W.skip ⟨⟨rfl, rfl, rfl, rfl, rfl, rfl, rfl, rfl, rfl⟩, by rw [e1], by rw [e1]; exact hS⟩
        | true =>
          have e1 := hpy hcd
          refine W.cond_true rfl ?_
          have hc := AnyQ.partialInsertionSortCmpFunc (P := Try.prog) (ρ := Try.sortT_ren) { Try.sortT with } 3 Try.isAgg36 Try.sizeOf36 Flat.cells cf g #[] blk off cap a' b' d0 r.d2 w0 w eg hcmp R (by omega) hS (by omega) (by omega) (by omega)
          rw [show r.d2.size = d0.size by omega, ag_partialInsertionSort g2 (by omega) (by omega), ← e1] at hc
          refine W.seq ?_
          refine W.region ?_
          refine O.move (v := (.slice (some ⟨blk, off, none⟩) d0.size cap)) rfl rfl rfl ?_
          refine O.move (v := (.int .i64 (a' : Int))) rfl rfl rfl ?_
          refine O.move (v := (.int .i64 (b' : Int))) rfl rfl rfl ?_
          refine O.move (v := (.func (.func g) #[] #[])) rfl rfl rfl ?_
          refine O.callE Try.call41 rfl rfl rfl hc ?_
          intro w1 hS
          refine WL.nil ?_
          cases hp2 : r.pi.2 with
          | true =>
            refine W.cond_true rfl ?_
            refine W.ret ?_
            exact ends0 Try.results30 ⟨rfl, by rw [k1 hp2]; exact hS⟩
          | false =>
            refine W.cond_false rfl ?_
            exact W.skip ⟨⟨rfl, rfl, rfl, rfl, rfl, rfl, rfl, rfl, rfl⟩, rfl, hS⟩
      clear hS hpy hpn k1 hf h75 u
      rintro f w ⟨hf, hp2, hS⟩
      obtain ⟨u, rfl⟩ := up9 hf.1 hf.2.1 hf.2.2.1 hf.2.2.2.1 hf.2.2.2.2.1 hf.2.2.2.2.2.1 hf.2.2.2.2.2.2.1 hf.2.2.2.2.2.2.2.1 hf.2.2.2.2.2.2.2.2
      replace k2 := k2 hp2
      replace k3 := k3 hp2
      replace k4 := k4 hp2
      refine W.seq ?_
      refine W.cut (fun f w => ((f 0 = (.slice (some ⟨blk, off, none⟩) d0.size cap) ∧ f 1 = (.int .i64 (a' : Int)) ∧ f 2 = (.int .i64 (b' : Int)) ∧ f 3 = (.int .i64 (r.lim : Int)) ∧ f 4 = (.func (.func g) #[] #[]) ∧ f 10 = .bool wb ∧ f 11 = .bool wp ∧ f 12 = (.int .i64 ((b' - a' : Nat) : Int)) ∧ f 13 = (.int .i64 (r.pivot : Int))) ∧ f 97 = .bool (decide (a' > 0) && !lt' r.pi.1[a' - 1]! r.pi.1[r.pivot]!)) ∧ SWK (Flat.cells (α := GEntry)) 3 w0 blk off r.pi.1 w) ?_ ?_
      · obtain ⟨wd, hwd⟩ : ∃ x, x = w := ⟨w, rfl⟩
        subst hwd
        rcases Nat.eq_zero_or_pos a' with ha0 | ha0
        · refine W.drawGr 17 (fun f => ((f 0 = (.slice (some ⟨blk, off, none⟩) d0.size cap) ∧ f 1 = (.int .i64 (a' : Int)) ∧ f 2 = (.int .i64 (b' : Int)) ∧ f 3 = (.int .i64 (r.lim : Int)) ∧ f 4 = (.func (.func g) #[] #[]) ∧ f 10 = .bool wb ∧ f 11 = .bool wp ∧ f 12 = (.int .i64 ((b' - a' : Nat) : Int)) ∧ f 13 = (.int .i64 (r.pivot : Int))) ∧ f 97 = .bool (decide (a' > 0) && !lt' r.pi.1[a' - 1]! r.pi.1[r.pivot]!))) fol (by kernel_rfl) ?_ ?_
          · refine PL.of (fun _ wk _ hx => O.move (v := (.int .i64 (a' : Int))) rfl rfl rfl (WL.nil ⟨rfl, hx⟩)) ?_
            refine PL.of (fun _ wk _ hx => O.gtrB (c := false) rfl rfl rfl rfl (decide_eq_false (by omega)) (WL.nil ⟨rfl, hx⟩)) ?_
            refine PL.of (fun _ wk _ hx => O.move (v := .bool false) rfl rfl rfl (WL.nil ⟨rfl, hx⟩)) ?_
            refine PL.of (fun _ wk _ hx => O.skip rfl rfl (WL.nil ⟨rfl, hx⟩)) ?_
            refine PL.of (fun _ wk _ hx => O.skip rfl rfl (WL.nil ⟨rfl, hx⟩)) ?_
            refine PL.of (fun _ wk _ hx => O.skip rfl rfl (WL.nil ⟨rfl, hx⟩)) ?_
            refine PL.of (fun _ wk _ hx => O.skip rfl rfl (WL.nil ⟨rfl, hx⟩)) ?_
            refine PL.of (fun _ wk _ hx => O.skip rfl rfl (WL.nil ⟨rfl, hx⟩)) ?_
            refine PL.of (fun _ wk _ hx => O.skip rfl rfl (WL.nil ⟨rfl, hx⟩)) ?_
            refine PL.of (fun _ wk _ hx => O.skip rfl rfl (WL.nil ⟨rfl, hx⟩)) ?_
            refine PL.of (fun _ wk _ hx => O.skip rfl rfl (WL.nil ⟨rfl, hx⟩)) ?_
            refine PL.of (fun _ wk _ hx => O.skip rfl rfl (WL.nil ⟨rfl, hx⟩)) ?_
            refine PL.of (fun _ wk _ hx => O.skip rfl rfl (WL.nil ⟨rfl, hx⟩)) ?_
            refine PL.of (fun _ wk _ hx => O.skip rfl rfl (WL.nil ⟨rfl, hx⟩)) ?_
            refine PL.of (fun _ wk _ hx => O.skip rfl rfl (WL.nil ⟨rfl, hx⟩)) ?_
            refine PL.of (fun _ wk _ hx => O.skip rfl rfl (WL.nil ⟨rfl, hx⟩)) ?_
            refine PL.of (fun _ wk _ hx => O.pick_false (v := .bool false) rfl rfl rfl rfl (WL.nil ⟨rfl, hx⟩)) ?_
            exact ⟨⟨rfl, rfl, rfl, rfl, rfl, rfl, rfl, rfl, rfl⟩, congrArg Value.bool (by rw [decide_eq_false (by omega)]; rfl)⟩
          · rintro f wk hB _ hx
            exact WL.nil ⟨hB, SWK.grewQ hS hx⟩
        · have hR := sliceR_holds (cap := cap) (SWK.holds hS R.hblk R.hH (by omega)) (by omega) hcm
          rw [show r.pi.1.size = d0.size by omega] at hR
          have i1 : idx r.pi.1.toList ((a' - 1 : Nat) : Int) = some r.pi.1[a' - 1]! := by rw [idx_nat, getElem!_pos r.pi.1 (a' - 1) (by omega)]; simp [show a' - 1 < r.pi.1.size by omega]
          have i2 : idx r.pi.1.toList (r.pivot : Int) = some r.pi.1[r.pivot]! := by rw [idx_nat, getElem!_pos r.pi.1 r.pivot (by omega)]; simp [show r.pivot < r.pi.1.size by omega]
          obtain ⟨q1, hq1, hr1⟩ := fix_indexAddr Try.underlying22 sz36 hR i1
          obtain ⟨q2, hq2, hr2⟩ := fix_indexAddr Try.underlying22 sz36 hR i2
          have ea := g3.at (show a' - 1 < r.pi.1.size by omega) (show r.pivot < r.pi.1.size by omega) (by omega)
          have hsz3 : r.pi.1.size = d0.size := by omega
          generalize r.pi.1[a' - 1]! = x1 at *
          generalize r.pi.1[r.pivot]! = x2 at *
          refine W.drawGr 17 (fun f => ((f 0 = (.slice (some ⟨blk, off, none⟩) d0.size cap) ∧ f 1 = (.int .i64 (a' : Int)) ∧ f 2 = (.int .i64 (b' : Int)) ∧ f 3 = (.int .i64 (r.lim : Int)) ∧ f 4 = (.func (.func g) #[] #[]) ∧ f 10 = .bool wb ∧ f 11 = .bool wp ∧ f 12 = (.int .i64 ((b' - a' : Nat) : Int)) ∧ f 13 = (.int .i64 (r.pivot : Int))) ∧ f 97 = .bool (decide (a' > 0) && !lt' x1 x2))) fol (by kernel_rfl) ?_ ?_
          · refine PL.of (fun _ wk _ hx => O.move (v := (.int .i64 (a' : Int))) rfl rfl rfl (WL.nil ⟨rfl, hx⟩)) ?_
            refine PL.of (fun _ wk _ hx => O.gtrB (c := true) rfl rfl rfl rfl (decide_eq_true (by omega)) (WL.nil ⟨rfl, hx⟩)) ?_
            refine PL.of (fun _ wk _ hx => O.move (v := .bool true) rfl rfl rfl (WL.nil ⟨rfl, hx⟩)) ?_
            refine PL.of (fun _ wk _ hx => O.move (v := (.func (.func g) #[] #[])) rfl rfl rfl (WL.nil ⟨rfl, hx⟩)) ?_
            refine PL.of (fun _ wk _ hx => O.move (v := (.slice (some ⟨blk, off, none⟩) d0.size cap)) rfl rfl rfl (WL.nil ⟨rfl, hx⟩)) ?_
            refine PL.of (fun _ wk _ hx => O.move (v := (.int .i64 (a' : Int))) rfl rfl rfl (WL.nil ⟨rfl, hx⟩)) ?_
            refine PL.of (fun _ wk _ hx => O.sub rfl rfl rfl rfl (sub1N (by omega) (by omega)) (WL.nil ⟨rfl, hx⟩)) ?_
            refine PL.of (fun _ wk _ hx => hr1 rfl rfl rfl rfl (WL.nil ⟨rfl, hx⟩)) ?_
            refine PL.of (fun _ wk _ hx => O.loadA (Flat.cells x1) ag36 rfl rfl rfl rfl ((hq1.mono hx.below).flat) (WL.nil ⟨rfl, hx⟩)) ?_
            refine PL.of (fun _ wk _ hx => O.move (v := (.slice (some ⟨blk, off, none⟩) d0.size cap)) rfl rfl rfl (WL.nil ⟨rfl, hx⟩)) ?_
            refine PL.of (fun _ wk _ hx => O.move (v := (.int .i64 (r.pivot : Int))) rfl rfl rfl (WL.nil ⟨rfl, hx⟩)) ?_
            refine PL.of (fun _ wk _ hx => hr2 rfl rfl rfl rfl (WL.nil ⟨rfl, hx⟩)) ?_
            refine PL.of (fun _ wk _ hx => O.loadA (Flat.cells x2) ag36 rfl rfl rfl rfl ((hq2.mono hx.below).flat) (WL.nil ⟨rfl, hx⟩)) ?_
            refine PL.of (fun _ wk _ hx => O.callEV eg rfl rfl rfl rfl (cmp_at (SWK.grewQ hS hx) hcmp hsz3 x1 x2) fun w' hg => WL.nil ⟨rfl, hx.trans hg⟩) ?_
            refine PL.of (fun _ wk _ hx => O.lss rfl rfl rfl rfl (WL.nil ⟨rfl, hx⟩)) ?_
            refine PL.of (fun _ wk _ hx => O.not rfl rfl rfl (WL.nil ⟨rfl, hx⟩)) ?_
            refine PL.of (fun _ wk _ hx => O.pick_true (v := .bool (!decide (cf x1 x2 < 0))) rfl rfl rfl rfl (WL.nil ⟨rfl, hx⟩)) ?_
            exact ⟨⟨rfl, rfl, rfl, rfl, rfl, rfl, rfl, rfl, rfl⟩, congrArg Value.bool (by rw [decide_eq_true (show a' > 0 from ha0), ← ea]; rfl)⟩
          · rintro f wk hB _ hx
            exact WL.nil ⟨hB, SWK.grewQ hS hx⟩
      clear hS hf u
      rintro f w ⟨⟨hf, h97⟩, hS⟩
      obtain ⟨u, rfl⟩ := up10 hf.1 hf.2.1 hf.2.2.1 hf.2.2.2.1 hf.2.2.2.2.1 hf.2.2.2.2.2.1 hf.2.2.2.2.2.2.1 hf.2.2.2.2.2.2.2.1 hf.2.2.2.2.2.2.2.2 h97
      cases h87 : (decide (a' > 0) && !lt' r.pi.1[a' - 1]! r.pi.1[r.pivot]!) with
      | true =>
        have h87' := h87
        simp only [Bool.and_eq_true, decide_eq_true_eq, Bool.not_eq_true'] at h87'
        refine W.cond_true rfl ?_
        obtain ⟨mid, d4, hx⟩ : ∃ mid d4, partitionEqual lt' r.pi.1 a' b' r.pivot = (mid, d4) := ⟨_, _, rfl⟩
        obtain ⟨r1, r2, r3, r4, -⟩ := round_eq hO (partitionEqual_holds lt') h87'.1 hpv.1 hpv.2 (show b' ≤ r.pi.1.size by omega) B3 h87'.2 hx
        have hc := AnyQ.partitionEqualCmpFunc (P := Try.prog) (ρ := Try.sortT_ren) { Try.sortT with } 3 Try.isAgg36 Try.sizeOf36 Flat.cells cf g #[] blk off cap a' b' r.pivot d0 r.pi.1 w0 w eg hcmp R (by omega) hS hpv.1 hpv.2 (by omega) (by omega)
        rw [show r.pi.1.size = d0.size by omega, ag_partitionEqual g3 hpv.1 hpv.2 (by omega), hx] at hc
        have hpe := (partitionEqual_holds lt' hO r.pi.1 a' b' r.pivot hpv.1 hpv.2 (by omega) (fun i hi hi' => by
          rcases B3 with h0 | hB
          · omega
          · exact hO.ntrans _ _ _ (hB i hi hi') h87'.2)).2.2.1
        rw [hx] at hpe
        replace k2 := k2 h87
        rw [hx] at k2
        refine W.seq ?_
        refine W.region ?_
        refine O.move (v := (.slice (some ⟨blk, off, none⟩) d0.size cap)) rfl rfl rfl ?_
        refine O.move (v := (.int .i64 (a' : Int))) rfl rfl rfl ?_
        refine O.move (v := (.int .i64 (b' : Int))) rfl rfl rfl ?_
        refine O.move (v := (.int .i64 (r.pivot : Int))) rfl rfl rfl ?_
        refine O.move (v := (.func (.func g) #[] #[])) rfl rfl rfl ?_
        refine O.callE Try.call42 rfl rfl rfl hc ?_
        intro w1 hS
        refine O.assign (v := .int .i64 (mid : Int)) rfl rfl rfl ?_
        refine WL.nil ?_
        refine W.seq ?_
        refine W.region ?_
        refine O.move (v := .int .i64 (mid : Int)) rfl rfl rfl ?_
        refine O.assign (v := .int .i64 (mid : Int)) rfl rfl rfl ?_
        refine WL.nil ?_
        refine W.exit ?_
        refine xT rfl ?_
        exact ⟨mid, b', r.lim, wb, wp, d4, ⟨rfl, rfl, rfl, rfl, rfl, rfl, rfl⟩, ⟨r2, hb', by omega, by omega, by omega, by omega⟩, g3.permIn hpe (by omega), r4, hS, (k2 ⟨r1, r2⟩).symm⟩
      | false =>
        refine W.cond_false rfl ?_
        refine W.skip ?_
        obtain ⟨mid, ap, d4, hx⟩ : ∃ mid ap d4, partition lt' r.pi.1 a' b' r.pivot = (mid, ap, d4) := ⟨_, _, _, rfl⟩
        obtain ⟨r1, r2, r3, r4, r5, r6, r7⟩ := round_part hO (partition_holds lt') hpv.1 hpv.2 (show b' ≤ r.pi.1.size by omega) B3 hx
        have hc := AnyQ.partitionCmpFunc (P := Try.prog) (ρ := Try.sortT_ren) { Try.sortT with } 3 Try.isAgg36 Try.sizeOf36 Flat.cells cf g #[] blk off cap a' b' r.pivot d0 r.pi.1 w0 w eg hcmp R (by omega) hS hpv.1 hpv.2 (by omega) (by omega)
        rw [show r.pi.1.size = d0.size by omega, ag_partition g3 hpv.1 hpv.2 (by omega), hx] at hc
        have hpp := (partition_holds lt' hO r.pi.1 a' b' r.pivot hpv.1 hpv.2 (by omega)).2.2.1
        rw [hx] at hpp
        have g4 : AgP (ltOf cf) lt' d4 := g3.permIn hpp (by omega)
        replace k3 := k3 h87
        replace k4 := k4 h87
        rw [hx] at k3 k4
        refine W.seq ?_
        refine W.region ?_
        refine O.move (v := (.slice (some ⟨blk, off, none⟩) d0.size cap)) rfl rfl rfl ?_
        refine O.move (v := (.int .i64 (a' : Int))) rfl rfl rfl ?_
        refine O.move (v := (.int .i64 (b' : Int))) rfl rfl rfl ?_
        refine O.move (v := (.int .i64 (r.pivot : Int))) rfl rfl rfl ?_
        refine O.move (v := (.func (.func g) #[] #[])) rfl rfl rfl ?_
        refine O.callE Try.call43 rfl rfl rfl hc ?_
        intro w1 hS
        refine O.move (v := (.tuple #[.int .i64 (mid : Int), .bool ap])) rfl rfl rfl ?_
        refine O.extract (v := .int .i64 (mid : Int)) rfl rfl rfl rfl ?_
        refine O.extract (v := .bool ap) rfl rfl rfl rfl ?_
        refine O.assign (v := .int .i64 (mid : Int)) rfl rfl rfl ?_
        refine O.assign (v := .bool ap) rfl rfl rfl ?_
        refine WL.nil ?_
        refine W.seq ?_
        refine W.region ?_
        refine O.move (v := .bool ap) rfl rfl rfl ?_
        refine O.assign (v := .bool ap) rfl rfl rfl ?_
        refine WL.nil ?_
        refine W.seq ?_
        refine W.region ?_
        refine O.move (v := .int .i64 (mid : Int)) rfl rfl rfl ?_
        refine O.move (v := (.int .i64 (a' : Int))) rfl rfl rfl ?_
        refine O.sub rfl rfl rfl rfl (subN r1 (by omega)) ?_
        refine O.move (v := (.int .i64 (b' : Int))) rfl rfl rfl ?_
        refine O.move (v := .int .i64 (mid : Int)) rfl rfl rfl ?_
        refine O.sub rfl rfl rfl rfl (subN (Nat.le_of_lt r2) (by omega)) ?_
        refine O.assign (v := (.int .i64 ((mid - a' : Nat) : Int))) rfl rfl rfl ?_
        refine O.assign (v := (.int .i64 ((b' - mid : Nat) : Int))) rfl rfl rfl ?_
        refine WL.nil ?_
        refine W.seq ?_
        refine W.region ?_
        refine O.move (v := (.int .i64 ((b' - a' : Nat) : Int))) rfl rfl rfl ?_
        refine O.quo rfl rfl rfl rfl (quo8 _ (by omega)) ?_
        refine O.assign (v := (.int .i64 (((b' - a') / 8 : Nat) : Int))) rfl rfl rfl ?_
        refine WL.nil ?_
        refine W.seq ?_
        refine W.region ?_
        refine O.move (v := (.int .i64 ((mid - a' : Nat) : Int))) rfl rfl rfl ?_
        refine O.move (v := (.int .i64 ((b' - mid : Nat) : Int))) rfl rfl rfl ?_
        refine O.lss rfl rfl rfl rfl ?_
        refine WL.nil ?_
        by_cases h4 : mid - a' < b' - mid
        · refine W.cond_true (congrArg Value.bool (decide_eq_true (by omega))) ?_
          have hih := ih a' mid r.lim d4 w1 (by omega) (by omega) g4 hS r1 (by omega) (by omega) (by omega) r4
          obtain ⟨pL, sL⟩ := pdq_sorts lt' hO d4 a' mid r.lim true true r1 (by omega) r4
          refine W.seq ?_
          refine W.region ?_
          refine O.move (v := (.int .i64 ((mid - a' : Nat) : Int))) rfl rfl rfl ?_
          refine O.move (v := (.int .i64 (((b' - a') / 8 : Nat) : Int))) rfl rfl rfl ?_
          refine O.geq rfl rfl rfl rfl ?_
          refine O.assign (v := (.bool (decide ((((b' - a') / 8 : Nat) : Int) ≤ ((mid - a' : Nat) : Int))))) rfl rfl rfl ?_
          refine WL.nil ?_
          refine W.seq ?_
          refine W.region ?_
          refine O.move (v := (.slice (some ⟨blk, off, none⟩) d0.size cap)) rfl rfl rfl ?_
          refine O.move (v := (.int .i64 (a' : Int))) rfl rfl rfl ?_
          refine O.move (v := .int .i64 (mid : Int)) rfl rfl rfl ?_
          refine O.move (v := (.int .i64 (r.lim : Int))) rfl rfl rfl ?_
          refine O.move (v := (.func (.func g) #[] #[])) rfl rfl rfl ?_
          refine O.callE Try.call30 rfl rfl rfl hih ?_
          intro w2 hS
          refine WL.nil ?_
          refine W.region ?_
          refine O.move (v := .int .i64 (mid : Int)) rfl rfl rfl ?_
          refine O.add rfl rfl rfl rfl (add1N (by omega)) ?_
          refine O.assign (v := (.int .i64 ((mid + 1 : Nat) : Int))) rfl rfl rfl ?_
          refine WL.nil ?_
          exact ⟨mid + 1, b', r.lim, decide (mid - a' ≥ (b' - a') / 8), ap, pdq lt' d4 a' mid r.lim true true, ⟨rfl, rfl, rfl, rfl, rfl, congrArg Value.bool (decide_eq_decide.2 (by omega)), rfl⟩, ⟨by omega, hb', by omega, by omega, by omega, by rw [pL.1]; omega⟩, g4.permIn pL (by omega), (r6 _ pL sL).1, hS, (k3 ⟨r1, r2⟩ h4).symm⟩
        · refine W.cond_false (congrArg Value.bool (decide_eq_false (by omega))) ?_
          have hih := ih (mid + 1) b' r.lim d4 w1 (by omega) (by omega) g4 hS (by omega) (by omega) (by omega) (by omega) r5
          obtain ⟨pL, sL⟩ := pdq_sorts lt' hO d4 (mid + 1) b' r.lim true true (by omega) (by omega) r5
          refine W.seq ?_
          refine W.region ?_
          refine O.move (v := (.int .i64 ((b' - mid : Nat) : Int))) rfl rfl rfl ?_
          refine O.move (v := (.int .i64 (((b' - a') / 8 : Nat) : Int))) rfl rfl rfl ?_
          refine O.geq rfl rfl rfl rfl ?_
          refine O.assign (v := (.bool (decide ((((b' - a') / 8 : Nat) : Int) ≤ ((b' - mid : Nat) : Int))))) rfl rfl rfl ?_
          refine WL.nil ?_
          refine W.seq ?_
          refine W.region ?_
          refine O.move (v := (.slice (some ⟨blk, off, none⟩) d0.size cap)) rfl rfl rfl ?_
          refine O.move (v := .int .i64 (mid : Int)) rfl rfl rfl ?_
          refine O.add rfl rfl rfl rfl (add1N (by omega)) ?_
          refine O.move (v := (.int .i64 (b' : Int))) rfl rfl rfl ?_
          refine O.move (v := (.int .i64 (r.lim : Int))) rfl rfl rfl ?_
          refine O.move (v := (.func (.func g) #[] #[])) rfl rfl rfl ?_
          refine O.callE Try.call30 rfl rfl rfl hih ?_
          intro w2 hS
          refine WL.nil ?_
          refine W.region ?_
          refine O.move (v := .int .i64 (mid : Int)) rfl rfl rfl ?_
          refine O.assign (v := .int .i64 (mid : Int)) rfl rfl rfl ?_
          refine WL.nil ?_
          exact ⟨a', mid, r.lim, decide (b' - mid ≥ (b' - a') / 8), ap, pdq lt' d4 (mid + 1) b' r.lim true true, ⟨rfl, rfl, rfl, rfl, rfl, congrArg Value.bool (decide_eq_decide.2 (by omega)), rfl⟩, ⟨r1, by omega, by omega, by omega, by omega, by rw [pL.1]; omega⟩, g4.permIn pL (by omega), (r7 _ pL sL).1, hS, (k4 ⟨r1, r2⟩ h4).symm⟩
    · rintro f w ⟨a', b', lim, wb, wp, dk, hf, ⟨hab', hb', hrem, -⟩, -⟩
      exact absurd hrem (Nat.not_lt_zero _)

theorem last_sorts {xs ys : List GEntry} (h : sortLast xs = some ys) : SortsAt Try.prog 16 (.func (.func 17) #[] #[]) xs ys := by
  obtain ⟨hlen, hok, rfl⟩ := sortLast_some h
  have hl : (lastSort xs).length = xs.length := (lastSort_facts xs).1.length_eq
  refine ⟨hl, fun blk off cap w0 hH hblk hcap hcm hsz => ?_, fun p cap w => AnyF.slices_SortFunc_none Try.sortT p cap _ w⟩
  have hHK : HoldsK (Flat.cells (α := GEntry)) 3 w0 blk off xs.toArray := by
    have e := flatK_eq (α := GEntry) xs
    unfold HoldsK
    rw [show flatK (Flat.cells (α := GEntry)) 3 xs.toArray = (xs.flatMap Flat.cells).toArray from e]
    exact hH
  have R : RowK (Flat.cells (α := GEntry)) 3 w0 blk off xs.toArray := ⟨fun x => Flat.len x, fun x v hv => Flat.one x v hv, hHK, hblk⟩
  have hsz0 : xs.toArray.size = xs.length := by simp
  have eg : Callable Try.prog 17 := Try.call17
  have hcmp : CmpLays Try.prog 17 #[] (Flat.cells (α := GEntry)) 3 lastC blk off xs.toArray.size w0 := fun m os dk _ x y => by
    simpa [GrewQ] using c_last_cmp x y (sortWorldK Flat.cells 3 w0 blk off m dk os)
  have hp := c_pdq lastLt_swo lastC 17 eg blk off cap xs.toArray w0 hcmp R (by rw [hsz0]; exact hcap) hcm (xs.length + 1) 0 xs.length (Lib.bitLen xs.length) xs.toArray w0 (by omega) rfl (last_ag hok) (SWK.start hHK) (Nat.zero_le _) (by simp) (by simpa using hsz) (Nat.lt_of_le_of_lt (Lib.bitLen_le xs.length 62 (by omega) (by omega)) (by omega)) (Or.inl rfl)
  rw [hsz0] at hp
  have hb := Any.bits_Len (SlLaysF0.n15.bits (P := Try.prog) (ρ := Try.sortT_ren) { Try.sortT with }) (xs.length : Int) w0 (by omega) (by omega)
  rw [Int.toNat_natCast] at hb
  have hb : Calls Try.prog 31 #[.int .u64 (xs.length : Int)] w0 fun e w' => e = .returned (.int .i64 (Lib.bitLen xs.length : Nat)) ∧ w' = w0 := hb.mono (by rintro e w' ⟨rfl, rfl⟩; exact ⟨rfl, rfl⟩)
  have hR := sliceR_holds (cap := cap) hHK (by rw [hsz0]; exact hcap) hcm
  rw [hsz0] at hR
  have hlt : ((xs.toArray.toList.length : Nat) : Int) = (xs.length : Int) := by simp
  refine calls_of_W Try.func16 rfl Try.ntmps16 (Nat.le_of_ble_eq_true rfl) ?_
  refine W.seq ?_
  refine W.region ?_
  refine O.move (v := (.slice (some ⟨blk, off, none⟩) xs.length cap)) rfl rfl rfl ?_
  refine O.lenS Try.underlying22 hR rfl rfl rfl ?_
  rw [hlt]
  refine O.assign (v := .int .i64 (xs.length : Int)) rfl rfl rfl ?_
  refine WL.nil ?_
  refine W.region ?_
  refine O.move (v := (.slice (some ⟨blk, off, none⟩) xs.length cap)) rfl rfl rfl ?_
  refine O.move (v := .int .i64 (xs.length : Int)) rfl rfl rfl ?_
  refine O.move (v := .int .i64 (xs.length : Int)) rfl rfl rfl ?_
  refine O.convI (c := (xs.length : Int)) (by rw [Try.underlying3]; rfl) Try.underlying58 (by unfold cvI; rw [if_pos (by simp [IntKind.wrap, IntKind.bits, IntKind.signed]; omega)]) rfl rfl rfl ?_
  refine O.callE Try.call31 rfl rfl rfl hb ?_
  rintro w1 rfl
  refine O.move (v := .func (.func 17) #[] #[]) rfl rfl rfl ?_
  refine O.callE Try.call30 rfl rfl rfl hp ?_
  rintro w2 ⟨m, os, rfl⟩
  refine WL.nil ?_
  refine ends0 Try.results16 ⟨rfl, m, os, ?_⟩
  have e2 : ((lastSort xs).flatMap Flat.cells).toArray = flatK (Flat.cells (α := GEntry)) 3 (lastSort xs).toArray := (flatK_eq (lastSort xs)).symm
  rw [e2]
  unfold sortWorldK putRowK lastSort
  simp

set_option maxRecDepth 20000 in
theorem c_ledger_Last {w0 : World} (va0 : Value) (a0 : (List GEntry)) (ha0 : SliceR w0 va0 a0) {r0 : (List GEntry)} {r1 : Int} (hm : ledger_Last a0 = some (r0, r1)) :
    Calls Try.prog 6 #[va0] w0 (Ret w0 fun w v => ∃ vr0 : Value, v = .tuple #[vr0, (.int .i64 r1)] ∧ OwnR w0 w vr0 36 r0) := by
  unfold ledger_Last at hm
  refine calls_of_W Try.func6 rfl Try.ntmps6 (Nat.le_of_ble_eq_true rfl) ?_
  have H := Inv.start (w := w0)
  refine W.seq ?_
  refine W.region ?_
  have H := H.addNil (α := GEntry) (E := 36)
  refine O.assign (v := (.slice none 0 0)) rfl rfl rfl ?_
  refine O.assign (v := (.int .i64 0)) rfl rfl rfl ?_
  refine WL.nil ?_
  refine W.seq ?_
  refine W.seq ?_
  refine W.region ?_
  refine O.move (v := va0) rfl rfl rfl ?_
  obtain ⟨t1, hy1, hm⟩ := bind_some hm
  refine O.call Try.call14 rfl rfl rfl (c_ledger_Valid _ _ (H.arg ha0) hy1) ?_
  rintro _ w2 hb2 rfl
  have H := H.ext hb2
  refine O.not rfl rfl rfl ?_
  refine WL.nil ?_
  rcases ite_some hm with ⟨hc1, hm⟩ | ⟨hc1, hm⟩
  · refine W.cond_true (congrArg Value.bool hc1) ?_
    refine W.seq ?_
    refine W.region ?_
    have H := H.addNil (α := GEntry) (E := 36)
    refine O.assign (v := (.slice none 0 0)) rfl rfl rfl ?_
    refine O.assign (v := (.int .i64 1)) rfl rfl rfl ?_
    refine WL.nil ?_
    refine W.ret ?_
    have hq : (([] : List GEntry), 1) = (r0, r1) := Option.some.inj (show some (([] : List GEntry), 1) = some (r0, r1) from hm)
    obtain ⟨he0, hq0⟩ := Prod.mk.inj hq; clear hq; subst he0
    subst hq0
    exact ends2 Try.results6 rfl rfl ⟨_, rfl, H.base, ⟨_, rfl, H.ownR 1 rfl⟩⟩
  refine W.cond_false (congrArg Value.bool hc1) ?_
  refine W.skip ?_
  obtain ⟨kv, hy2, hm⟩ := bind_some hm
  obtain ⟨l, hso, hm⟩ := bind_some hm
  have hkl : kv.length ≤ 1073741824 := by
    have := (sortLast_some hso).1
    unfold entsOf at this
    rwa [List.length_map] at this
  refine W.seq ?_
  refine W.region ?_
  have H := H.addNil (α := GEntry) (E := 36)
  refine O.assign (v := (.slice none 0 0)) rfl rfl rfl ?_
  refine WL.nil ?_
  refine W.seq ?_
  refine W.via (fun f w => ∃ (vz : Value) (z : List GEntry), z.Perm (entsOf kv) ∧ f 4 = vz ∧ Inv w0 w [ownI vz 36 z]) ?_ ?_
  · refine W.seq ?_
    refine W.region ?_
    refine O.move (v := va0) rfl rfl rfl ?_
    refine O.call Try.call15 rfl rfl rfl (c_ledger_pageOf _ _ (H.arg ha0) hy2) ?_
    rintro _ w3 hb3 ⟨m1, rfl, ho1a, ho1b⟩
    have H := H.addMap hb3 ho1a ho1b
    have H := H.pick [2, 1] [mapI m1 kv, ownI (α := GEntry) (.slice none 0 0) 36 ([] : List GEntry)] rfl (by decide)
    obtain ⟨es, clock, e1, e2, e3, e4', e5⟩ := H.mapOk 0 rfl
    have e4 : (es.toList.map (·.born)).Nodup := e4'.imp (fun h => Nat.ne_of_lt h)
    have e6 : es.toList.length = kv.length := by simpa using congrArg List.length e2
    have H := H.turn (it' := mapX m1 es clock) 0 rfl (fun b h => h) (fun _ => e1)
    refine O.range Try.underlying39 e1 H rfl rfl rfl ?_
    intro bi w5 H hb5
    refine WL.nil ?_
    refine W.block ?_
    refine W.loopL (l := kv) (fun rem f w => ∃ (seen : Array Nat) (vz : Value) (z : List GEntry), (doneL es.toList kv seen).length + rem.length = kv.length ∧ z.Perm (entsOf (doneL es.toList kv seen)) ∧
      f 12 = .pointer (some ⟨bi, 0, none⟩) ∧ f 4 = vz ∧ Inv w0 w [mapX m1 es clock, ownI vz 36 z, iterX bi m1 clock seen clock]) ?_ ?_ ?_
    · exact ⟨#[], _, [], by rw [doneL_nil]; simp, by rw [doneL_nil]; exact List.Perm.refl _, rfl, rfl, H⟩
    · rintro _ xs f w ⟨seen, vz, z, h1, h2, hf12, hf4, H⟩
      obtain ⟨u1, rfl⟩ : ∃ u1, f = (upd (upd u1 12 (.pointer (some ⟨bi, 0, none⟩))) 4 vz) := ⟨f, by rw [upd_self hf12, upd_self hf4]⟩
      have hb : w.heap[m1]? = some (.map es clock) := (H.items (mapX m1 es clock) (List.mem_of_getElem? (i := 0) rfl)).1
      have hzl : z.length ≤ kv.length := by rw [h2.length_eq]; unfold entsOf; rw [List.length_map]; exact doneL_le _ _ _
      refine W.seq ?_
      refine W.region ?_
      refine O.next 2 H rfl hb e5 (Nat.le_refl _) rfl rfl rfl ?_ ?_
      · intro h0
        have := doneL_all es.toList kv seen e6 (left_none h0)
        rw [this] at h1
        simp at h1
      · intro e he w1 H hb
        obtain ⟨he1, he2⟩ := left_mem he
        obtain ⟨p, hp1, hp2, hp3, hp4⟩ := doneL_push seen e he2 es.toList kv e2 e4 he1
        have hlen2 := hp4.length_eq
        rw [List.length_cons] at hlen2
        rw [List.length_cons] at h1
        obtain ⟨⟨day, found⟩, val⟩ := p
        refine O.extract (v := .bool true) rfl rfl rfl rfl ?_
        refine WL.nil ?_
        refine W.seq ?_
        refine W.cond_true rfl ?_
        refine W.skip ?_
        refine W.block ?_
        refine W.seq ?_
        refine W.region ?_
        refine O.entry 2 H rfl hb he1 e4 rfl rfl rfl ?_
        refine O.extract (v := Flat.val (GKey.mk day found)) rfl rfl rfl (by rw [hp2]; rfl) ?_
        refine O.extract (v := .int .i64 val) rfl rfl rfl (by rw [hp3]; rfl) ?_
        refine O.alloc [.int .i64 0, .bool false] ze42 H rfl rfl rfl ?_
        intro bk w2 H hbk
        refine O.store 3 0 [.int .i64 day, .bool found] [.int .i64 day, .bool found] sz42 H rfl rfl rfl rfl rfl rfl ⟨⟨rfl, rfl⟩, rfl⟩ (one_cons rfl (one_cons rfl one_nil)) ?_
        intro w3 H
        refine O.assign (v := .int .i64 val) rfl rfl rfl ?_
        refine WL.nil ?_
        refine W.region ?_
        refine O.move (v := vz) rfl rfl rfl ?_
        refine O.fieldAddr fd42_0 rfl rfl rfl ?_
        refine O.load sc3 rfl rfl rfl (H.cell 3 rfl 0 _ rfl) ?_
        refine O.fieldAddr fd42_1 rfl rfl rfl ?_
        refine O.load sc4 rfl rfl rfl (H.cell 3 rfl 1 _ rfl) ?_
        refine O.move (v := .int .i64 val) rfl rfl rfl ?_
        refine O.build (v := (.agg (Flat.cells (GEntry.mk day found val)).toArray)) (fun w => bd36_0_1_2 _ _ _ w) rfl rfl rfl ?_
        refine O.buildSlice (α := GEntry) [(.agg (Flat.cells (GEntry.mk day found val)).toArray)] [GEntry.mk day found val] Try.underlying22 el36 H rfl rfl rfl rfl rfl rfl rfl ?_
        intro v7 w6 H hb6
        have ht3 : appI z [GEntry.mk day found val] = some (z ++ [GEntry.mk day found val]) := appI_ok (by simp; omega)
        refine O.append 1 Try.underlying22 el36 rfl H rfl (H.own 4 rfl) ht3 rfl rfl rfl rfl ?_
        intro v8 w7 H
        refine O.assign (v := v8) rfl rfl rfl ?_
        refine WL.nil ?_
        have H := H.keep [0, 1, 2] [mapX m1 es clock, ownI v8 36 (z ++ [GEntry.mk day found val]), iterX bi m1 clock (seen.push e.born) clock] rfl (by decide)
        have hpm : (entsOf (doneL es.toList kv (seen.push e.born))).Perm (entsOf (doneL es.toList kv seen) ++ [GEntry.mk day found val]) := by
          unfold entsOf
          refine (hp4.map _).trans ?_
          rw [List.map_cons]
          exact List.perm_append_comm (l₁ := [GEntry.mk day found val])
        exact ⟨seen.push e.born, _, z ++ [GEntry.mk day found val], by omega, (h2.append_right _).trans hpm.symm, rfl, rfl, H⟩
    · rintro f w ⟨seen, vz, z, h1, h2, hf12, hf4, H⟩
      obtain ⟨u1, rfl⟩ : ∃ u1, f = (upd (upd u1 12 (.pointer (some ⟨bi, 0, none⟩))) 4 vz) := ⟨f, by rw [upd_self hf12, upd_self hf4]⟩
      have hb : w.heap[m1]? = some (.map es clock) := (H.items (mapX m1 es clock) (List.mem_of_getElem? (i := 0) rfl)).1
      refine W.seq ?_
      refine W.region ?_
      refine O.next 2 H rfl hb e5 (Nat.le_refl _) rfl rfl rfl ?_ ?_
      · intro h0
        have hall := doneL_all es.toList kv seen e6 (left_none h0)
        rw [hall] at h2
        refine O.extract (v := .bool false) rfl rfl rfl rfl ?_
        refine WL.nil ?_
        refine W.seq ?_
        refine W.cond_false rfl ?_
        refine W.exit ?_
        refine xT rfl ?_
        exact ⟨_, z, h2, rfl, H.keep [1] _ rfl (by decide)⟩
      · intro e he w1 H hb
        exfalso
        obtain ⟨he1, he2⟩ := left_mem he
        obtain ⟨p, hp1, hp2, hp3, hp4⟩ := doneL_push seen e he2 es.toList kv e2 e4 he1
        have hlen2 := hp4.length_eq
        have hle := doneL_le es.toList kv (seen.push e.born)
        rw [List.length_cons] at hlen2
        simp at h1
        omega
  · rintro f w ⟨vz, z, h2, hf4, H⟩
    obtain ⟨u1, rfl⟩ : ∃ u1, f = upd u1 4 vz := ⟨f, by rw [upd_self hf4]⟩
    have hso2 := sortLast_perm h2 hso
    refine W.seq ?_
    refine W.region ?_
    refine O.move (v := vz) rfl rfl rfl ?_
    refine O.sortAt 0 H rfl (last_sorts hso2) (sortLast_some hso2).1 Try.call16 rfl rfl rfl rfl ?_
    intro w4 H
    refine WL.nil ?_
    refine W.seq ?_
    refine W.region ?_
    refine O.move (v := vz) rfl rfl rfl ?_
    refine O.assign (v := vz) rfl rfl rfl ?_
    refine O.assign (v := (.int .i64 0)) rfl rfl rfl ?_
    refine WL.nil ?_
    refine W.ret ?_
    have hq : (l, (0 : Int)) = (r0, r1) := Option.some.inj hm
    obtain ⟨he0, hq0⟩ := Prod.mk.inj hq; clear hq; subst he0
    subst hq0
    exact ends2 Try.results6 rfl rfl ⟨_, rfl, H.base, ⟨_, rfl, H.ownR 0 rfl⟩⟩

theorem c_noongunref09_day {w0 : World} (a0 : Int) {r0 : Bool} (hm : noongunref09_day a0 = some r0) :
    Calls Try.prog 46 #[(.int .i64 a0)] w0 (Ret w0 fun _ v => v = (.bool r0)) := by
  unfold noongunref09_day at hm
  refine calls_of_W Try.func46 rfl Try.ntmps46 (Nat.le_of_ble_eq_true rfl) ?_
  have H := Inv.start (w := w0)
  refine W.seq ?_
  refine W.region ?_
  refine O.assign (v := (.bool false)) rfl rfl rfl ?_
  refine WL.nil ?_
  refine W.seq ?_
  refine W.region ?_
  refine O.move (v := (.int .i64 a0)) rfl rfl rfl ?_
  refine O.geq rfl rfl rfl rfl ?_
  refine O.move (v := (.bool (decide (0 ≤ a0)))) rfl rfl rfl ?_
  refine WL.cut 3 (fun f w => f 8 = .bool ((decide (0 ≤ a0)) && (decide (a0 ≤ 182985))) ∧ Inv w0 w []) ?_ ?_
  · skip
    rcases bool_ft (decide (0 ≤ a0)) with hc1 | hc1
    · skip
      refine WL.reset (i := 5) (v := .bool false) (congrArg Value.bool hc1) ?_
      refine O.skip rfl rfl ?_
      refine O.skip rfl rfl ?_
      refine O.pick_false (v := (.bool false)) rfl rfl rfl rfl ?_
      refine WL.nil ?_
      exact ⟨congrArg Value.bool (and_f hc1), H⟩
    · skip
      refine WL.reset (i := 5) (v := .bool true) (congrArg Value.bool hc1) ?_
      refine O.move (v := (.int .i64 a0)) rfl rfl rfl ?_
      refine O.leq rfl rfl rfl rfl ?_
      refine O.pick_true (v := (.bool (decide (a0 ≤ 182985)))) rfl rfl rfl rfl ?_
      refine WL.nil ?_
      exact ⟨congrArg Value.bool (and_t hc1), H⟩
  · skip
    rintro f w ⟨hf8, H⟩
    obtain ⟨u1, rfl⟩ : ∃ u1, f = (upd u1 8 (.bool ((decide (0 ≤ a0)) && (decide (a0 ≤ 182985))))) := ⟨f, by rw [upd_self hf8]⟩
    refine O.assign (v := (.bool ((decide (0 ≤ a0)) && (decide (a0 ≤ 182985))))) rfl rfl rfl ?_
    refine WL.nil ?_
    refine W.ret ?_
    have hq : ((decide (0 ≤ a0)) && (decide (a0 ≤ 182985))) = r0 := Option.some.inj (show some ((decide (0 ≤ a0)) && (decide (a0 ≤ 182985))) = some r0 from hm)
    subst hq
    exact ends1 Try.results46 rfl ⟨_, rfl, H.base, rfl⟩

theorem c_noongunref09_valid {w0 : World} (a0 : GEntry) {r0 : Bool} (hm : noongunref09_valid a0 = some r0) :
    Calls Try.prog 32 #[(.agg (Flat.cells a0).toArray)] w0 (Ret w0 fun _ v => v = (.bool r0)) := by
  unfold noongunref09_valid at hm
  refine calls_of_W Try.func32 rfl Try.ntmps32 (Nat.le_of_ble_eq_true rfl) ?_
  have H := Inv.start (w := w0)
  refine W.seq ?_
  refine W.region ?_
  refine O.box [(.int .i64 a0.Day), (.bool a0.Found), (.int .i64 a0.Error)] H rfl rfl rfl rfl ?_
  intro b1 w1 H hb1
  refine O.assign (v := (.bool false)) rfl rfl rfl ?_
  refine WL.nil ?_
  refine W.seq ?_
  refine W.region ?_
  refine O.fieldAddr fd36_0 rfl rfl rfl ?_
  refine O.load sc3 rfl rfl rfl (H.cell 0 rfl 0 _ rfl) ?_
  obtain ⟨t1, hy1, hm⟩ := bind_some hm
  refine O.call Try.call46 rfl rfl rfl (c_noongunref09_day _ hy1) ?_
  rintro _ w2 hb2 rfl
  have H := H.ext hb2
  refine O.move (v := (.bool t1)) rfl rfl rfl ?_
  refine WL.cut 4 (fun f w => f 1 = (.pointer (some ⟨b1, 0, none⟩)) ∧ f 10 = .bool (t1 && (decide ((-86400000) ≤ a0.Error))) ∧ Inv w0 w [boxI b1 36 [(.int .i64 a0.Day), (.bool a0.Found), (.int .i64 a0.Error)]]) ?_ ?_
  · skip
    rcases bool_ft t1 with hc1 | hc1
    · skip
      refine WL.reset (i := 6) (v := .bool false) (congrArg Value.bool hc1) ?_
      refine O.skip rfl rfl ?_
      refine O.skip rfl rfl ?_
      refine O.skip rfl rfl ?_
      refine O.pick_false (v := (.bool false)) rfl rfl rfl rfl ?_
      refine WL.nil ?_
      exact ⟨rfl, congrArg Value.bool (and_f hc1), H⟩
    · skip
      refine WL.reset (i := 6) (v := .bool true) (congrArg Value.bool hc1) ?_
      refine O.fieldAddr fd36_2 rfl rfl rfl ?_
      refine O.load sc3 rfl rfl rfl (H.cell 0 rfl 2 _ rfl) ?_
      refine O.geq rfl rfl rfl rfl ?_
      refine O.pick_true (v := (.bool (decide ((-86400000) ≤ a0.Error)))) rfl rfl rfl rfl ?_
      refine WL.nil ?_
      exact ⟨rfl, congrArg Value.bool (and_t hc1), H⟩
  · skip
    rintro f w ⟨hf1, hf10, H⟩
    obtain ⟨u1, rfl⟩ : ∃ u1, f = (upd (upd u1 1 (.pointer (some ⟨b1, 0, none⟩))) 10 (.bool (t1 && (decide ((-86400000) ≤ a0.Error))))) := ⟨f, by rw [upd_self hf1, upd_self hf10]⟩
    refine O.move (v := (.bool (t1 && (decide ((-86400000) ≤ a0.Error))))) rfl rfl rfl ?_
    refine WL.cut 4 (fun f w => f 15 = .bool ((t1 && (decide ((-86400000) ≤ a0.Error))) && (decide (a0.Error ≤ 86400000))) ∧ Inv w0 w [boxI b1 36 [(.int .i64 a0.Day), (.bool a0.Found), (.int .i64 a0.Error)]]) ?_ ?_
    · skip
      rcases bool_ft (t1 && (decide ((-86400000) ≤ a0.Error))) with hc2 | hc2
      · skip
        refine WL.reset (i := 11) (v := .bool false) (congrArg Value.bool hc2) ?_
        refine O.skip rfl rfl ?_
        refine O.skip rfl rfl ?_
        refine O.skip rfl rfl ?_
        refine O.pick_false (v := (.bool false)) rfl rfl rfl rfl ?_
        refine WL.nil ?_
        exact ⟨congrArg Value.bool (and_f hc2), H⟩
      · skip
        refine WL.reset (i := 11) (v := .bool true) (congrArg Value.bool hc2) ?_
        refine O.fieldAddr fd36_2 rfl rfl rfl ?_
        refine O.load sc3 rfl rfl rfl (H.cell 0 rfl 2 _ rfl) ?_
        refine O.leq rfl rfl rfl rfl ?_
        refine O.pick_true (v := (.bool (decide (a0.Error ≤ 86400000)))) rfl rfl rfl rfl ?_
        refine WL.nil ?_
        exact ⟨congrArg Value.bool (and_t hc2), H⟩
    · skip
      rintro f w ⟨hf15, H⟩
      obtain ⟨u2, rfl⟩ : ∃ u2, f = (upd u2 15 (.bool ((t1 && (decide ((-86400000) ≤ a0.Error))) && (decide (a0.Error ≤ 86400000))))) := ⟨f, by rw [upd_self hf15]⟩
      refine O.assign (v := (.bool ((t1 && (decide ((-86400000) ≤ a0.Error))) && (decide (a0.Error ≤ 86400000))))) rfl rfl rfl ?_
      refine WL.nil ?_
      refine W.ret ?_
      have hq : ((t1 && (decide ((-86400000) ≤ a0.Error))) && (decide (a0.Error ≤ 86400000))) = r0 := Option.some.inj (show some ((t1 && (decide ((-86400000) ≤ a0.Error))) && (decide (a0.Error ≤ 86400000))) = some r0 from hm)
      subst hq
      exact ends1 Try.results32 rfl ⟨_, rfl, H.base, rfl⟩

theorem c_noongunref09_Valid {w0 : World} (va0 : Value) (a0 : (List GEntry)) (ha0 : SliceR w0 va0 a0) {r0 : Bool} (hm : noongunref09_Valid a0 = some r0) :
    Calls Try.prog 18 #[va0] w0 (Ret w0 fun _ v => v = (.bool r0)) := by
  unfold noongunref09_Valid at hm
  refine calls_of_W Try.func18 rfl Try.ntmps18 (Nat.le_of_ble_eq_true rfl) ?_
  have H := Inv.start (w := w0)
  refine W.seq ?_
  refine W.region ?_
  refine O.assign (v := (.bool false)) rfl rfl rfl ?_
  refine WL.nil ?_
  refine W.seq ?_
  refine W.seq ?_
  refine W.region ?_
  refine O.move (v := va0) rfl rfl rfl ?_
  refine O.lenS Try.underlying22 (H.arg ha0) rfl rfl rfl ?_
  refine O.move (v := (.int .i64 0)) rfl rfl rfl ?_
  refine WL.nil ?_
  obtain ⟨o1, hm1, hm⟩ := bind_some hm
  refine W.via (fun f w => o1 = .next () ∧ f 0 = va0 ∧ Inv w0 w []) ?_ ?_
  · skip
    refine W.block ?_
    refine W.rangeL (i := 0) hm1 (fun rem ik1 s f w => () = s ∧ a0.drop ik1 = rem ∧ f 7 = .int .i64 (ik1 : Int) ∧ f 6 = (.int .i64 ((a0.length : Nat) : Int)) ∧ f 0 = va0 ∧ f 5 = va0 ∧ Inv w0 w []) ?_ ?_ ?_
    · skip
      exact ⟨rfl, List.drop_zero, rfl, rfl, rfl, rfl, H⟩
    · skip
      rintro yk1 xs ik1 _ st f w ⟨rfl, hdropk1, hf7, hf6, hf0, hf5, H⟩ hm2
      have hltk1 := drop_lt hdropk1; have hixk1 := drop_idx hdropk1
      obtain ⟨u1, rfl⟩ : ∃ u1, f = (upd (upd (upd (upd u1 7 (.int .i64 (ik1 : Int))) 6 (.int .i64 ((a0.length : Nat) : Int))) 0 va0) 5 va0) := ⟨f, by rw [upd_self hf7, upd_self hf6, upd_self hf0, upd_self hf5]⟩
      have hinck1 := addI_lt hltk1 (H.arg ha0).len_le
      refine W.seq ?_
      refine W.region ?_
      refine O.lss rfl rfl rfl rfl ?_
      refine WL.nil ?_
      refine W.seq ?_
      refine W.cond_true (congrArg Value.bool (decide_eq_true hltk1)) ?_
      refine W.skip ?_
      refine W.seq ?_
      refine W.block ?_
      refine W.seq ?_
      refine W.region ?_
      obtain ⟨p1, hp1, hrp1⟩ := fix_indexAddr Try.underlying22 sz36 ha0 hixk1
      refine hrp1 rfl rfl rfl rfl ?_
      refine O.loadA [(.int .i64 yk1.Day), (.bool yk1.Found), (.int .i64 yk1.Error)] ag36 rfl rfl rfl rfl ((hp1.mono H.base).flat) ?_
      refine O.alloc [(.int .i64 0), (.bool false), (.int .i64 0)] ze36 H rfl rfl rfl ?_
      intro b1 w1 H hb1
      refine O.store 0 0 [(.int .i64 yk1.Day), (.bool yk1.Found), (.int .i64 yk1.Error)] [(.int .i64 yk1.Day), (.bool yk1.Found), (.int .i64 yk1.Error)] sz36 H rfl rfl rfl rfl rfl rfl ⟨⟨rfl, rfl⟩, rfl⟩ (one_cons rfl (one_cons rfl (one_cons rfl one_nil))) ?_
      intro w2 H
      refine WL.nil ?_
      refine W.seq ?_
      refine W.region ?_
      refine O.loadA [(.int .i64 yk1.Day), (.bool yk1.Found), (.int .i64 yk1.Error)] ag36 rfl rfl rfl rfl (H.cell 0 rfl) ?_
      obtain ⟨t1, hy1, hm2⟩ := bind_some hm2
      refine O.call Try.call32 rfl rfl rfl (c_noongunref09_valid yk1 hy1) ?_
      rintro _ w3 hb2 rfl
      have H := H.ext hb2
      refine O.not rfl rfl rfl ?_
      refine WL.nil ?_
      rcases ite_some hm2 with ⟨hc1, hm2⟩ | ⟨hc1, hm2⟩
      · refine W.cond_true (congrArg Value.bool hc1) ?_
        refine W.seq ?_
        refine W.region ?_
        refine O.assign (v := (.bool false)) rfl rfl rfl ?_
        refine WL.nil ?_
        refine W.ret ?_
        obtain rfl := Option.some.inj hm2
        refine ⟨_, rfl, ?_⟩
        rintro rfl
        have hq : false = r0 := Option.some.inj (show some false = some r0 from hm)
        subst hq
        exact ends1 Try.results18 rfl ⟨_, rfl, H.base, rfl⟩
      · refine W.cond_false (congrArg Value.bool hc1) ?_
        refine W.skip ?_
        refine W.region ?_
        refine O.add rfl rfl rfl rfl hinck1 ?_
        refine O.move (v := .int .i64 ((ik1 : Int) + 1)) rfl rfl rfl ?_
        refine WL.nil ?_
        have H := H.keep [] [] rfl (by decide)
        obtain rfl := Option.some.inj hm2
        exact ⟨_, rfl, rfl, drop_next hdropk1, rfl, rfl, rfl, rfl, H⟩
    · skip
      rintro ik1 _ f w ⟨rfl, hdropk1, hf7, hf6, hf0, hf5, H⟩ hfin
      have hltk1 := drop_end hdropk1
      obtain ⟨u2, rfl⟩ : ∃ u2, f = (upd (upd (upd (upd u2 7 (.int .i64 (ik1 : Int))) 6 (.int .i64 ((a0.length : Nat) : Int))) 0 va0) 5 va0) := ⟨f, by rw [upd_self hf7, upd_self hf6, upd_self hf0, upd_self hf5]⟩
      refine W.seq ?_
      refine W.region ?_
      refine O.lss rfl rfl rfl rfl ?_
      refine WL.nil ?_
      refine W.seq ?_
      refine W.cond_false (congrArg Value.bool (decide_eq_false hltk1)) ?_
      refine W.exit ?_
      obtain rfl : Ctl.next () = o1 := hfin
      refine xT rfl ?_
      exact ⟨rfl, rfl, H⟩
  · skip
    rintro f w ⟨rfl, hf0, H⟩
    obtain ⟨u3, rfl⟩ : ∃ u3, f = (upd u3 0 va0) := ⟨f, by rw [upd_self hf0]⟩
    refine W.seq ?_
    refine W.region ?_
    refine O.move (v := va0) rfl rfl rfl ?_
    refine O.lenS Try.underlying22 (H.arg ha0) rfl rfl rfl ?_
    refine O.leq rfl rfl rfl rfl ?_
    refine O.assign (v := (.bool (decide (((a0.length : Nat) : Int) ≤ 1000)))) rfl rfl rfl ?_
    refine WL.nil ?_
    refine W.ret ?_
    have hq : (decide (((a0.length : Nat) : Int) ≤ 1000)) = r0 := Option.some.inj (show some (decide (((a0.length : Nat) : Int) ≤ 1000)) = some r0 from hm)
    subst hq
    exact ends1 Try.results18 rfl ⟨_, rfl, H.base, rfl⟩

set_option maxRecDepth 20000 in
theorem c_noongunref09_all {w0 : World} (va0 : Value) (a0 : (List GEntry)) (ha0 : SliceR w0 va0 a0) {r0 : (List Int)} (hm : noongunref09_all a0 = some r0) :
    Calls Try.prog 19 #[va0] w0 (Ret w0 fun w v => OwnR w0 w v 3 r0) := by
  unfold noongunref09_all at hm
  refine calls_of_W Try.func19 rfl Try.ntmps19 (Nat.le_of_ble_eq_true rfl) ?_
  have H := Inv.start (w := w0)
  refine W.seq ?_
  refine W.region ?_
  have H := H.addNil (α := Int) (E := 3)
  refine O.assign (v := (.slice none 0 0)) rfl rfl rfl ?_
  refine WL.nil ?_
  refine W.seq ?_
  refine W.region ?_
  have H := H.addNil (α := Int) (E := 3)
  refine O.assign (v := (.slice none 0 0)) rfl rfl rfl ?_
  refine WL.nil ?_
  refine W.seq ?_
  refine W.region ?_
  refine O.assign (v := (.int .i64 (-1))) rfl rfl rfl ?_
  refine WL.nil ?_
  obtain ⟨o1, hm1, hm⟩ := bind_some hm
  refine W.via (fun f w => False) ?_ ?_
  · skip
    refine W.block ?_
    have H := H.keep [1] [ownI (α := Int) (.slice none 0 0) 3 ([] : List Int)] rfl (by decide)
    refine W.loopR hm1 (fun s f w => ∃ z3 : Int, ∃ z4 : (List Int), ∃ v2 : Value, (z3, z4) = s ∧ f 0 = va0 ∧ f 3 = v2 ∧ f 4 = (.int .i64 z3) ∧ Inv w0 w [ownI (α := Int) v2 3 z4]) ?_ ?_
    · skip
      exact ⟨_, _, (.slice none 0 0), rfl, rfl, rfl, rfl, H⟩
    · skip
      rintro _ st f w ⟨z3, z4, v2, rfl, hf0, hf3, hf4, H⟩ hm2
      obtain ⟨u1, rfl⟩ : ∃ u1, f = (upd (upd (upd u1 0 va0) 3 v2) 4 (.int .i64 z3)) := ⟨f, by rw [upd_self hf0, upd_self hf3, upd_self hf4]⟩
      obtain ⟨o2, hm3, hm2⟩ := bind_some hm2
      refine W.via (fun f w => ∃ s1 : Int, ∃ s2 : (List Int), ∃ v4 : Value, o2 = .next (s1, s2) ∧ f 0 = va0 ∧ f 3 = v4 ∧ f 4 = (.int .i64 s1) ∧ Inv w0 w [ownI (α := Int) v4 3 s2]) ?_ ?_
      · skip
        refine W.block ?_
        refine W.seq ?_
        refine W.region ?_
        refine O.assign (v := (.int .i64 (-1))) rfl rfl rfl ?_
        refine WL.nil ?_
        refine W.seq ?_
        refine W.seq ?_
        refine W.region ?_
        refine O.move (v := va0) rfl rfl rfl ?_
        refine O.lenS Try.underlying22 (H.arg ha0) rfl rfl rfl ?_
        refine O.move (v := (.int .i64 0)) rfl rfl rfl ?_
        refine WL.nil ?_
        obtain ⟨s3, hm4, hm3⟩ := bind_some hm3
        refine W.via (fun f w => f 0 = va0 ∧ f 3 = v2 ∧ f 5 = (.int .i64 s3) ∧ Inv w0 w [ownI (α := Int) v2 3 z4]) ?_ ?_
        · skip
          refine W.block ?_
          refine W.rangeL (i := 0) hm4 (fun rem ik1 s f w => ∃ z8 : Int, z8 = s ∧ a0.drop ik1 = rem ∧ f 10 = .int .i64 (ik1 : Int) ∧ f 9 = (.int .i64 ((a0.length : Nat) : Int)) ∧ f 0 = va0 ∧ f 3 = v2 ∧ f 4 = (.int .i64 z3) ∧ f 5 = (.int .i64 z8) ∧ f 8 = va0 ∧ Inv w0 w [ownI (α := Int) v2 3 z4]) ?_ ?_ ?_
          · skip
            exact ⟨_, rfl, List.drop_zero, rfl, rfl, rfl, rfl, rfl, rfl, rfl, H⟩
          · skip
            rintro yk1 xs ik1 _ st f w ⟨z8, rfl, hdropk1, hf10, hf9, hf0, hf3, hf4, hf5, hf8, H⟩ hm5
            have hltk1 := drop_lt hdropk1; have hixk1 := drop_idx hdropk1
            obtain ⟨u2, rfl⟩ : ∃ u2, f = (upd (upd (upd (upd (upd (upd (upd u2 10 (.int .i64 (ik1 : Int))) 9 (.int .i64 ((a0.length : Nat) : Int))) 0 va0) 3 v2) 4 (.int .i64 z3)) 5 (.int .i64 z8)) 8 va0) := ⟨f, by rw [upd_self hf10, upd_self hf9, upd_self hf0, upd_self hf3, upd_self hf4, upd_self hf5, upd_self hf8]⟩
            have hinck1 := addI_lt hltk1 (H.arg ha0).len_le
            refine W.seq ?_
            refine W.region ?_
            refine O.lss rfl rfl rfl rfl ?_
            refine WL.nil ?_
            refine W.seq ?_
            refine W.cond_true (congrArg Value.bool (decide_eq_true hltk1)) ?_
            refine W.skip ?_
            refine W.seq ?_
            obtain ⟨s4, hm6, hm5⟩ := bind_some hm5
            refine W.via (fun f w => f 0 = va0 ∧ f 3 = v2 ∧ f 4 = (.int .i64 z3) ∧ f 5 = (.int .i64 s4) ∧ f 8 = va0 ∧ f 9 = (.int .i64 ((a0.length : Nat) : Int)) ∧ f 10 = (.int .i64 (ik1 : Int)) ∧ Inv w0 w [ownI (α := Int) v2 3 z4]) ?_ ?_
            · skip
              refine W.block ?_
              refine W.seq ?_
              refine W.region ?_
              obtain ⟨p1, hp1, hrp1⟩ := fix_indexAddr Try.underlying22 sz36 ha0 hixk1
              refine hrp1 rfl rfl rfl rfl ?_
              refine O.loadA [(.int .i64 yk1.Day), (.bool yk1.Found), (.int .i64 yk1.Error)] ag36 rfl rfl rfl rfl ((hp1.mono H.base).flat) ?_
              refine O.alloc [(.int .i64 0), (.bool false), (.int .i64 0)] ze36 H rfl rfl rfl ?_
              intro b1 w1 H hb1
              refine O.store 1 0 [(.int .i64 yk1.Day), (.bool yk1.Found), (.int .i64 yk1.Error)] [(.int .i64 yk1.Day), (.bool yk1.Found), (.int .i64 yk1.Error)] sz36 H rfl rfl rfl rfl rfl rfl ⟨⟨rfl, rfl⟩, rfl⟩ (one_cons rfl (one_cons rfl (one_cons rfl one_nil))) ?_
              intro w2 H
              refine WL.nil ?_
              refine W.seq ?_
              refine W.region ?_
              refine O.fieldAddr fd36_0 rfl rfl rfl ?_
              refine O.load sc3 rfl rfl rfl (H.cell 1 rfl 0 _ rfl) ?_
              refine O.move (v := (.int .i64 z3)) rfl rfl rfl ?_
              refine O.gtr rfl rfl rfl rfl ?_
              refine O.move (v := (.bool (decide (z3 < yk1.Day)))) rfl rfl rfl ?_
              refine WL.cut 9 (fun f w => f 0 = va0 ∧ f 3 = v2 ∧ f 4 = (.int .i64 z3) ∧ f 5 = (.int .i64 z8) ∧ f 7 = (.pointer (some ⟨b1, 0, none⟩)) ∧ f 8 = va0 ∧ f 9 = (.int .i64 ((a0.length : Nat) : Int)) ∧ f 10 = (.int .i64 (ik1 : Int)) ∧ f 27 = .bool ((decide (z3 < yk1.Day)) && ((decide (z8 < 0)) || (decide (yk1.Day < z8)))) ∧ Inv w0 w [ownI (α := Int) v2 3 z4, boxI b1 36 [(.int .i64 yk1.Day), (.bool yk1.Found), (.int .i64 yk1.Error)]]) ?_ ?_
              · skip
                rcases bool_ft (decide (z3 < yk1.Day)) with hc1 | hc1
                · skip
                  refine WL.reset (i := 18) (v := .bool false) (congrArg Value.bool hc1) ?_
                  refine O.skip rfl rfl ?_
                  refine O.skip rfl rfl ?_
                  refine O.skip rfl rfl ?_
                  refine O.skip rfl rfl ?_
                  refine O.skip rfl rfl ?_
                  refine O.skip rfl rfl ?_
                  refine O.skip rfl rfl ?_
                  refine O.skip rfl rfl ?_
                  refine O.pick_false (v := (.bool false)) rfl rfl rfl rfl ?_
                  refine WL.nil ?_
                  exact ⟨rfl, rfl, rfl, rfl, rfl, rfl, rfl, rfl, congrArg Value.bool (and_f hc1), H⟩
                · skip
                  refine WL.reset (i := 18) (v := .bool true) (congrArg Value.bool hc1) ?_
                  refine O.move (v := (.int .i64 z8)) rfl rfl rfl ?_
                  refine O.lss rfl rfl rfl rfl ?_
                  refine O.move (v := (.bool (decide (z8 < 0)))) rfl rfl rfl ?_
                  refine WL.cut 5 (fun f w => f 0 = va0 ∧ f 3 = v2 ∧ f 4 = (.int .i64 z3) ∧ f 5 = (.int .i64 z8) ∧ f 7 = (.pointer (some ⟨b1, 0, none⟩)) ∧ f 8 = va0 ∧ f 9 = (.int .i64 ((a0.length : Nat) : Int)) ∧ f 10 = (.int .i64 (ik1 : Int)) ∧ f 18 = (.bool true) ∧ f 19 = (.int .i64 z8) ∧ f 20 = (.bool (decide (z8 < 0))) ∧ f 21 = (.bool (decide (z8 < 0))) ∧ f 26 = .bool ((decide (z8 < 0)) || (decide (yk1.Day < z8))) ∧ Inv w0 w [ownI (α := Int) v2 3 z4, boxI b1 36 [(.int .i64 yk1.Day), (.bool yk1.Found), (.int .i64 yk1.Error)]]) ?_ ?_
                  · skip
                    rcases bool_ft (decide (z8 < 0)) with hc2 | hc2
                    · skip
                      refine WL.reset (i := 21) (v := .bool false) (congrArg Value.bool hc2) ?_
                      refine O.fieldAddr fd36_0 rfl rfl rfl ?_
                      refine O.load sc3 rfl rfl rfl (H.cell 1 rfl 0 _ rfl) ?_
                      refine O.move (v := (.int .i64 z8)) rfl rfl rfl ?_
                      refine O.lss rfl rfl rfl rfl ?_
                      refine O.pick_false (v := (.bool (decide (yk1.Day < z8)))) rfl rfl rfl rfl ?_
                      refine WL.nil ?_
                      exact ⟨rfl, rfl, rfl, rfl, rfl, rfl, rfl, rfl, rfl, rfl, rfl, (congrArg Value.bool hc2).symm, congrArg Value.bool (or_f hc2), H⟩
                    · skip
                      refine WL.reset (i := 21) (v := .bool true) (congrArg Value.bool hc2) ?_
                      refine O.skip rfl rfl ?_
                      refine O.skip rfl rfl ?_
                      refine O.skip rfl rfl ?_
                      refine O.skip rfl rfl ?_
                      refine O.pick_true (v := (.bool true)) rfl rfl rfl rfl ?_
                      refine WL.nil ?_
                      exact ⟨rfl, rfl, rfl, rfl, rfl, rfl, rfl, rfl, rfl, rfl, rfl, (congrArg Value.bool hc2).symm, congrArg Value.bool (or_t hc2), H⟩
                  · skip
                    rintro f w ⟨hf0, hf3, hf4, hf5, hf7, hf8, hf9, hf10, hf18, hf19, hf20, hf21, hf26, H⟩
                    obtain ⟨u3, rfl⟩ : ∃ u3, f = (upd (upd (upd (upd (upd (upd (upd (upd (upd (upd (upd (upd (upd u3 0 va0) 3 v2) 4 (.int .i64 z3)) 5 (.int .i64 z8)) 7 (.pointer (some ⟨b1, 0, none⟩))) 8 va0) 9 (.int .i64 ((a0.length : Nat) : Int))) 10 (.int .i64 (ik1 : Int))) 18 (.bool true)) 19 (.int .i64 z8)) 20 (.bool (decide (z8 < 0)))) 21 (.bool (decide (z8 < 0)))) 26 (.bool ((decide (z8 < 0)) || (decide (yk1.Day < z8))))) := ⟨f, by rw [upd_self hf0, upd_self hf3, upd_self hf4, upd_self hf5, upd_self hf7, upd_self hf8, upd_self hf9, upd_self hf10, upd_self hf18, upd_self hf19, upd_self hf20, upd_self hf21, upd_self hf26]⟩
                    refine O.pick_true (v := (.bool ((decide (z8 < 0)) || (decide (yk1.Day < z8))))) rfl rfl rfl rfl ?_
                    refine WL.nil ?_
                    exact ⟨rfl, rfl, rfl, rfl, rfl, rfl, rfl, rfl, congrArg Value.bool (and_t hc1), H⟩
              · skip
                rintro f w ⟨hf0, hf3, hf4, hf5, hf7, hf8, hf9, hf10, hf27, H⟩
                obtain ⟨u4, rfl⟩ : ∃ u4, f = (upd (upd (upd (upd (upd (upd (upd (upd (upd u4 0 va0) 3 v2) 4 (.int .i64 z3)) 5 (.int .i64 z8)) 7 (.pointer (some ⟨b1, 0, none⟩))) 8 va0) 9 (.int .i64 ((a0.length : Nat) : Int))) 10 (.int .i64 (ik1 : Int))) 27 (.bool ((decide (z3 < yk1.Day)) && ((decide (z8 < 0)) || (decide (yk1.Day < z8)))))) := ⟨f, by rw [upd_self hf0, upd_self hf3, upd_self hf4, upd_self hf5, upd_self hf7, upd_self hf8, upd_self hf9, upd_self hf10, upd_self hf27]⟩
                refine WL.nil ?_
                obtain ⟨s5, hm7, hm6⟩ := bind_some hm6
                refine W.via (fun f w => f 0 = va0 ∧ f 3 = v2 ∧ f 4 = (.int .i64 z3) ∧ f 5 = (.int .i64 s5) ∧ f 8 = va0 ∧ f 9 = (.int .i64 ((a0.length : Nat) : Int)) ∧ f 10 = (.int .i64 (ik1 : Int)) ∧ Inv w0 w [ownI (α := Int) v2 3 z4]) ?_ ?_
                · skip
                  rcases ite_some hm7 with ⟨hc3, hm7⟩ | ⟨hc3, hm7⟩
                  · refine W.cond_true (congrArg Value.bool hc3) ?_
                    refine W.region ?_
                    refine O.fieldAddr fd36_0 rfl rfl rfl ?_
                    refine O.load sc3 rfl rfl rfl (H.cell 1 rfl 0 _ rfl) ?_
                    refine O.assign (v := (.int .i64 yk1.Day)) rfl rfl rfl ?_
                    refine WL.nil ?_
                    have H := H.keep [0] [ownI (α := Int) v2 3 z4] rfl (by decide)
                    have hq : yk1.Day = s5 := Option.some.inj (show some yk1.Day = some s5 from hm7)
                    subst hq
                    exact ⟨rfl, rfl, rfl, rfl, rfl, rfl, rfl, H⟩
                  · refine W.cond_false (congrArg Value.bool hc3) ?_
                    refine W.skip ?_
                    have H := H.keep [0] [ownI (α := Int) v2 3 z4] rfl (by decide)
                    have hq : z8 = s5 := Option.some.inj (show some z8 = some s5 from hm7)
                    subst hq
                    exact ⟨rfl, rfl, rfl, rfl, rfl, rfl, rfl, H⟩
                · skip
                  rintro f w ⟨hf0, hf3, hf4, hf5, hf8, hf9, hf10, H⟩
                  obtain ⟨u5, rfl⟩ : ∃ u5, f = (upd (upd (upd (upd (upd (upd (upd u5 0 va0) 3 v2) 4 (.int .i64 z3)) 5 (.int .i64 s5)) 8 va0) 9 (.int .i64 ((a0.length : Nat) : Int))) 10 (.int .i64 (ik1 : Int))) := ⟨f, by rw [upd_self hf0, upd_self hf3, upd_self hf4, upd_self hf5, upd_self hf8, upd_self hf9, upd_self hf10]⟩
                  have hq : s5 = s4 := Option.some.inj (show some s5 = some s4 from hm6)
                  subst hq
                  exact ⟨rfl, rfl, rfl, rfl, rfl, rfl, rfl, H⟩
            · skip
              rintro f w ⟨hf0, hf3, hf4, hf5, hf8, hf9, hf10, H⟩
              obtain ⟨u6, rfl⟩ : ∃ u6, f = (upd (upd (upd (upd (upd (upd (upd u6 0 va0) 3 v2) 4 (.int .i64 z3)) 5 (.int .i64 s4)) 8 va0) 9 (.int .i64 ((a0.length : Nat) : Int))) 10 (.int .i64 (ik1 : Int))) := ⟨f, by rw [upd_self hf0, upd_self hf3, upd_self hf4, upd_self hf5, upd_self hf8, upd_self hf9, upd_self hf10]⟩
              refine W.region ?_
              refine O.add rfl rfl rfl rfl hinck1 ?_
              refine O.move (v := .int .i64 ((ik1 : Int) + 1)) rfl rfl rfl ?_
              refine WL.nil ?_
              obtain rfl := Option.some.inj hm5
              exact ⟨_, rfl, _, rfl, drop_next hdropk1, rfl, rfl, rfl, rfl, rfl, rfl, rfl, H⟩
          · skip
            rintro ik1 _ f w ⟨z8, rfl, hdropk1, hf10, hf9, hf0, hf3, hf4, hf5, hf8, H⟩ hfin
            have hltk1 := drop_end hdropk1
            obtain ⟨u7, rfl⟩ : ∃ u7, f = (upd (upd (upd (upd (upd (upd (upd u7 10 (.int .i64 (ik1 : Int))) 9 (.int .i64 ((a0.length : Nat) : Int))) 0 va0) 3 v2) 4 (.int .i64 z3)) 5 (.int .i64 z8)) 8 va0) := ⟨f, by rw [upd_self hf10, upd_self hf9, upd_self hf0, upd_self hf3, upd_self hf4, upd_self hf5, upd_self hf8]⟩
            refine W.seq ?_
            refine W.region ?_
            refine O.lss rfl rfl rfl rfl ?_
            refine WL.nil ?_
            refine W.seq ?_
            refine W.cond_false (congrArg Value.bool (decide_eq_false hltk1)) ?_
            refine W.exit ?_
            have hq : z8 = s3 := hfin
            subst hq
            refine xT rfl ?_
            exact ⟨rfl, rfl, rfl, H⟩
        · skip
          rintro f w ⟨hf0, hf3, hf5, H⟩
          obtain ⟨u8, rfl⟩ : ∃ u8, f = (upd (upd (upd u8 0 va0) 3 v2) 5 (.int .i64 s3)) := ⟨f, by rw [upd_self hf0, upd_self hf3, upd_self hf5]⟩
          refine W.seq ?_
          refine W.seq ?_
          refine W.region ?_
          refine O.move (v := (.int .i64 s3)) rfl rfl rfl ?_
          refine O.lss rfl rfl rfl rfl ?_
          refine WL.nil ?_
          rcases ite_some hm3 with ⟨hc4, hm3⟩ | ⟨hc4, hm3⟩
          · refine W.cond_true (congrArg Value.bool hc4) ?_
            refine W.seq ?_
            refine W.region ?_
            refine O.move (v := v2) rfl rfl rfl ?_
            refine O.assign (v := v2) rfl rfl rfl ?_
            refine WL.nil ?_
            refine W.ret ?_
            obtain rfl := Option.some.inj hm3
            obtain rfl := Option.some.inj hm2
            refine ⟨_, rfl, ?_⟩
            rintro rfl
            have hq : z4 = r0 := Option.some.inj (show some z4 = some r0 from hm)
            subst hq
            exact ends1 Try.results19 rfl ⟨_, rfl, H.base, H.ownR 0 rfl⟩
          · refine W.cond_false (congrArg Value.bool hc4) ?_
            refine W.skip ?_
            refine W.seq ?_
            refine W.region ?_
            refine O.move (v := v2) rfl rfl rfl ?_
            refine O.move (v := (.int .i64 s3)) rfl rfl rfl ?_
            refine O.buildSlice (α := Int) [(.int .i64 s3)] [s3] Try.underlying29 el3 H rfl rfl rfl rfl rfl rfl rfl ?_
            intro v5 w3 H hb2
            obtain ⟨t1, ht1, hm3⟩ := bind_some hm3
            refine O.append 0 Try.underlying29 el3 rfl H rfl (H.own 1 rfl) ht1 rfl rfl rfl rfl ?_
            intro v6 w4 H
            refine O.assign (v := v6) rfl rfl rfl ?_
            refine WL.nil ?_
            refine W.region ?_
            refine O.move (v := (.int .i64 s3)) rfl rfl rfl ?_
            refine O.assign (v := (.int .i64 s3)) rfl rfl rfl ?_
            refine WL.nil ?_
            have H := H.keep [0] [ownI (α := Int) v6 3 t1] rfl (by decide)
            obtain rfl := Option.some.inj hm3
            exact ⟨_, _, v6, rfl, rfl, rfl, rfl, H⟩
      · skip
        rintro f w ⟨s1, s2, v4, rfl, hf0, hf3, hf4, H⟩
        obtain ⟨u9, rfl⟩ : ∃ u9, f = (upd (upd (upd u9 0 va0) 3 v4) 4 (.int .i64 s1)) := ⟨f, by rw [upd_self hf0, upd_self hf3, upd_self hf4]⟩
        obtain rfl := Option.some.inj hm2
        exact ⟨_, rfl, _, _, v4, rfl, rfl, rfl, rfl, H⟩
  · skip
    exact fun f w h => h.elim

set_option maxRecDepth 20000 in
theorem c_noongunref09_last {w0 : World} (va0 : Value) (a0 : (List GEntry)) (ha0 : SliceR w0 va0 a0) (a1 : Int) (a2 : Bool) {r0 : Int} {r1 : Bool} (hm : noongunref09_last a0 a1 a2 = some (r0, r1)) :
    Calls Try.prog 20 #[va0, (.int .i64 a1), (.bool a2)] w0 (Ret w0 fun _ v => v = .tuple #[(.int .i64 r0), (.bool r1)]) := by
  unfold noongunref09_last at hm
  refine calls_of_W Try.func20 rfl Try.ntmps20 (Nat.le_of_ble_eq_true rfl) ?_
  have H := Inv.start (w := w0)
  refine W.seq ?_
  refine W.region ?_
  refine O.assign (v := (.int .i64 0)) rfl rfl rfl ?_
  refine O.assign (v := (.bool false)) rfl rfl rfl ?_
  refine WL.nil ?_
  refine W.seq ?_
  refine W.seq ?_
  refine W.region ?_
  refine O.move (v := va0) rfl rfl rfl ?_
  refine O.lenS Try.underlying22 (H.arg ha0) rfl rfl rfl ?_
  obtain ⟨t1, ht1, hm⟩ := bind_some hm
  refine O.sub rfl rfl rfl rfl ht1 ?_
  refine O.assign (v := (.int .i64 t1)) rfl rfl rfl ?_
  refine WL.nil ?_
  obtain ⟨o1, hm1, hm⟩ := bind_some hm
  refine W.via (fun f w => o1 = .next () ∧ Inv w0 w []) ?_ ?_
  · skip
    refine W.block ?_
    refine W.loopR hm1 (fun s f w => ∃ z2 : Int, z2 = s ∧ f 0 = va0 ∧ f 1 = (.int .i64 a1) ∧ f 2 = (.bool a2) ∧ f 8 = (.int .i64 z2) ∧ Inv w0 w []) ?_ ?_
    · skip
      exact ⟨_, rfl, rfl, rfl, rfl, rfl, H⟩
    · skip
      rintro _ st f w ⟨z2, rfl, hf0, hf1, hf2, hf8, H⟩ hm2
      obtain ⟨u1, rfl⟩ : ∃ u1, f = (upd (upd (upd (upd u1 0 va0) 1 (.int .i64 a1)) 2 (.bool a2)) 8 (.int .i64 z2)) := ⟨f, by rw [upd_self hf0, upd_self hf1, upd_self hf2, upd_self hf8]⟩
      refine W.seq ?_
      refine W.seq ?_
      refine W.region ?_
      refine O.move (v := (.int .i64 z2)) rfl rfl rfl ?_
      refine O.geq rfl rfl rfl rfl ?_
      refine WL.nil ?_
      rcases ite_some hm2 with ⟨hc1, hm2⟩ | ⟨hc1, hm2⟩
      · refine W.cond_true (congrArg Value.bool hc1) ?_
        refine W.skip ?_
        refine W.seq ?_
        refine W.block ?_
        refine W.seq ?_
        refine W.region ?_
        refine O.move (v := va0) rfl rfl rfl ?_
        refine O.move (v := (.int .i64 z2)) rfl rfl rfl ?_
        obtain ⟨x1, hx1, hm2⟩ := bind_some hm2
        obtain ⟨p1, hp1, hrp1⟩ := fix_indexAddr Try.underlying22 sz36 ha0 hx1
        refine hrp1 rfl rfl rfl rfl ?_
        refine O.fieldAddr fd36_0 rfl rfl rfl ?_
        refine O.load sc3 rfl rfl rfl ((hp1.mono H.base).flat 0 _ rfl) ?_
        refine O.move (v := (.int .i64 a1)) rfl rfl rfl ?_
        refine O.eql rfl rfl rfl rfl ?_
        refine O.move (v := (.bool (x1.Day == a1))) rfl rfl rfl ?_
        obtain ⟨b1, hm3, hm2⟩ := bind_some hm2
        refine WL.cut 8 (fun f w => f 0 = va0 ∧ f 1 = (.int .i64 a1) ∧ f 2 = (.bool a2) ∧ f 8 = (.int .i64 z2) ∧ f 31 = .bool b1 ∧ Inv w0 w []) ?_ ?_
        · skip
          rcases ite_some hm3 with ⟨hc2, hm3⟩ | ⟨hc2, hm3⟩
          · skip
            refine WL.reset (i := 23) (v := .bool true) (congrArg Value.bool hc2) ?_
            refine O.move (v := va0) rfl rfl rfl ?_
            refine O.move (v := (.int .i64 z2)) rfl rfl rfl ?_
            obtain ⟨x2, hx2, hm3⟩ := bind_some hm3
            obtain ⟨p2, hp2, hrp2⟩ := fix_indexAddr Try.underlying22 sz36 ha0 hx2
            refine hrp2 rfl rfl rfl rfl ?_
            refine O.fieldAddr fd36_1 rfl rfl rfl ?_
            refine O.load sc4 rfl rfl rfl ((hp2.mono H.base).flat 1 _ rfl) ?_
            refine O.move (v := (.bool a2)) rfl rfl rfl ?_
            refine O.eqlB Try.underlying4 rfl rfl rfl rfl ?_
            refine O.pick_true (v := (.bool (x2.Found == a2))) rfl rfl rfl rfl ?_
            refine WL.nil ?_
            have hq : (x2.Found == a2) = b1 := Option.some.inj (show some (x2.Found == a2) = some b1 from hm3)
            subst hq
            exact ⟨rfl, rfl, rfl, rfl, rfl, H⟩
          · skip
            refine WL.reset (i := 23) (v := .bool false) (congrArg Value.bool hc2) ?_
            refine O.skip rfl rfl ?_
            refine O.skip rfl rfl ?_
            refine O.skip rfl rfl ?_
            refine O.skip rfl rfl ?_
            refine O.skip rfl rfl ?_
            refine O.skip rfl rfl ?_
            refine O.skip rfl rfl ?_
            refine O.pick_false (v := (.bool false)) rfl rfl rfl rfl ?_
            refine WL.nil ?_
            have hq : false = b1 := Option.some.inj (show some false = some b1 from hm3)
            subst hq
            exact ⟨rfl, rfl, rfl, rfl, rfl, H⟩
        · skip
          rintro f w ⟨hf0, hf1, hf2, hf8, hf31, H⟩
          obtain ⟨u2, rfl⟩ : ∃ u2, f = (upd (upd (upd (upd (upd u2 0 va0) 1 (.int .i64 a1)) 2 (.bool a2)) 8 (.int .i64 z2)) 31 (.bool b1)) := ⟨f, by rw [upd_self hf0, upd_self hf1, upd_self hf2, upd_self hf8, upd_self hf31]⟩
          refine WL.nil ?_
          rcases ite_some hm2 with ⟨hc3, hm2⟩ | ⟨hc3, hm2⟩
          · refine W.cond_true (congrArg Value.bool hc3) ?_
            refine W.seq ?_
            refine W.region ?_
            refine O.move (v := va0) rfl rfl rfl ?_
            refine O.move (v := (.int .i64 z2)) rfl rfl rfl ?_
            obtain ⟨x3, hx3, hm2⟩ := bind_some hm2
            obtain ⟨p3, hp3, hrp3⟩ := fix_indexAddr Try.underlying22 sz36 ha0 hx3
            refine hrp3 rfl rfl rfl rfl ?_
            refine O.fieldAddr fd36_2 rfl rfl rfl ?_
            refine O.load sc3 rfl rfl rfl ((hp3.mono H.base).flat 2 _ rfl) ?_
            refine O.assign (v := (.int .i64 x3.Error)) rfl rfl rfl ?_
            refine O.assign (v := (.bool true)) rfl rfl rfl ?_
            refine WL.nil ?_
            refine W.ret ?_
            obtain rfl := Option.some.inj hm2
            refine ⟨_, rfl, ?_⟩
            rintro rfl
            have hq : (x3.Error, true) = (r0, r1) := Option.some.inj (show some (x3.Error, true) = some (r0, r1) from hm)
            obtain ⟨he0, hq0⟩ := Prod.mk.inj hq; clear hq; subst he0
            subst hq0
            exact ends2 Try.results20 rfl rfl ⟨_, rfl, H.base, rfl⟩
          · refine W.cond_false (congrArg Value.bool hc3) ?_
            refine W.skip ?_
            refine W.region ?_
            refine O.move (v := (.int .i64 z2)) rfl rfl rfl ?_
            obtain ⟨t2, ht2, hm2⟩ := bind_some hm2
            refine O.sub rfl rfl rfl rfl ht2 ?_
            refine O.assign (v := (.int .i64 t2)) rfl rfl rfl ?_
            refine WL.nil ?_
            obtain rfl := Option.some.inj hm2
            exact ⟨_, rfl, _, rfl, rfl, rfl, rfl, rfl, H⟩
      · refine W.cond_false (congrArg Value.bool hc1) ?_
        refine W.exit ?_
        obtain rfl := Option.some.inj hm2
        refine ⟨_, rfl, ?_⟩
        rintro rfl
        refine xT rfl ?_
        exact ⟨rfl, H⟩
  · skip
    rintro f w ⟨rfl, H⟩
    refine W.seq ?_
    refine W.region ?_
    refine O.assign (v := (.int .i64 0)) rfl rfl rfl ?_
    refine O.assign (v := (.bool false)) rfl rfl rfl ?_
    refine WL.nil ?_
    refine W.ret ?_
    have hq : (0, false) = (r0, r1) := Option.some.inj (show some (0, false) = some (r0, r1) from hm)
    obtain ⟨he0, hq0⟩ := Prod.mk.inj hq; clear hq; subst he0
    subst hq0
    exact ends2 Try.results20 rfl rfl ⟨_, rfl, H.base, rfl⟩

set_option maxRecDepth 20000 in
theorem c_noongunref09_Last {w0 : World} (va0 : Value) (a0 : (List GEntry)) (ha0 : SliceR w0 va0 a0) {r0 : (List GEntry)} {r1 : Int} (hm : noongunref09_Last a0 = some (r0, r1)) :
    Calls Try.prog 7 #[va0] w0 (Ret w0 fun w v => ∃ vr0 : Value, v = .tuple #[vr0, (.int .i64 r1)] ∧ OwnR w0 w vr0 36 r0) := by
  unfold noongunref09_Last at hm
  refine calls_of_W Try.func7 rfl Try.ntmps7 (Nat.le_of_ble_eq_true rfl) ?_
  have H := Inv.start (w := w0)
  refine W.seq ?_
  refine W.region ?_
  have H := H.addNil (α := GEntry) (E := 36)
  refine O.assign (v := (.slice none 0 0)) rfl rfl rfl ?_
  refine O.assign (v := (.int .i64 0)) rfl rfl rfl ?_
  refine WL.nil ?_
  refine W.seq ?_
  refine W.seq ?_
  refine W.region ?_
  refine O.move (v := va0) rfl rfl rfl ?_
  obtain ⟨t1, hy1, hm⟩ := bind_some hm
  refine O.call Try.call18 rfl rfl rfl (c_noongunref09_Valid _ _ (H.arg ha0) hy1) ?_
  rintro _ w1 hb1 rfl
  have H := H.ext hb1
  refine O.not rfl rfl rfl ?_
  refine WL.nil ?_
  rcases ite_some hm with ⟨hc1, hm⟩ | ⟨hc1, hm⟩
  · refine W.cond_true (congrArg Value.bool hc1) ?_
    refine W.seq ?_
    refine W.region ?_
    have H := H.addNil (α := GEntry) (E := 36)
    refine O.assign (v := (.slice none 0 0)) rfl rfl rfl ?_
    refine O.assign (v := (.int .i64 1)) rfl rfl rfl ?_
    refine WL.nil ?_
    refine W.ret ?_
    have hq : (([] : List GEntry), 1) = (r0, r1) := Option.some.inj (show some (([] : List GEntry), 1) = some (r0, r1) from hm)
    obtain ⟨he0, hq0⟩ := Prod.mk.inj hq; clear hq; subst he0
    subst hq0
    exact ends2 Try.results7 rfl rfl ⟨_, rfl, H.base, ⟨_, rfl, H.ownR 1 rfl⟩⟩
  · refine W.cond_false (congrArg Value.bool hc1) ?_
    refine W.skip ?_
    refine W.seq ?_
    refine W.region ?_
    have H := H.addNil (α := GEntry) (E := 36)
    refine O.assign (v := (.slice none 0 0)) rfl rfl rfl ?_
    refine WL.nil ?_
    refine W.seq ?_
    refine W.seq ?_
    refine W.region ?_
    refine O.move (v := va0) rfl rfl rfl ?_
    obtain ⟨t2, hy2, hm⟩ := bind_some hm
    refine O.call Try.call19 rfl rfl rfl (c_noongunref09_all _ _ (H.arg ha0) hy2) ?_
    rintro v1 w2 hb2 ho1
    have H := H.addOwn hb2 ho1
    refine O.lenS Try.underlying29 (H.own 2 rfl) rfl rfl rfl ?_
    refine O.move (v := (.int .i64 0)) rfl rfl rfl ?_
    refine WL.nil ?_
    obtain ⟨s1, hm1, hm⟩ := bind_some hm
    refine W.via (fun f w => ∃ v5 : Value, f 4 = v5 ∧ Inv w0 w [ownI (α := GEntry) v5 36 s1]) ?_ ?_
    · skip
      refine W.block ?_
      have H := H.keep [1, 2] [ownI (α := GEntry) (.slice none 0 0) 36 ([] : List GEntry), ownI (α := Int) v1 3 t2] rfl (by decide)
      refine W.rangeL (i := 0) hm1 (fun rem ik1 s f w => ∃ z2 : (List GEntry), ∃ v3 : Value, z2 = s ∧ t2.drop ik1 = rem ∧ f 17 = .int .i64 (ik1 : Int) ∧ f 16 = (.int .i64 ((t2.length : Nat) : Int)) ∧ f 0 = va0 ∧ f 4 = v3 ∧ f 15 = v1 ∧ Inv w0 w [ownI (α := GEntry) v3 36 z2, ownI (α := Int) v1 3 t2]) ?_ ?_ ?_
      · skip
        exact ⟨_, (.slice none 0 0), rfl, List.drop_zero, rfl, rfl, rfl, rfl, rfl, H⟩
      · skip
        rintro yk1 xs ik1 _ st f w ⟨z2, v3, rfl, hdropk1, hf17, hf16, hf0, hf4, hf15, H⟩ hm2
        have hltk1 := drop_lt hdropk1; have hixk1 := drop_idx hdropk1
        obtain ⟨u1, rfl⟩ : ∃ u1, f = (upd (upd (upd (upd (upd u1 17 (.int .i64 (ik1 : Int))) 16 (.int .i64 ((t2.length : Nat) : Int))) 0 va0) 4 v3) 15 v1) := ⟨f, by rw [upd_self hf17, upd_self hf16, upd_self hf0, upd_self hf4, upd_self hf15]⟩
        have hinck1 := addI_lt hltk1 (H.own 1 rfl).len_le
        refine W.seq ?_
        refine W.region ?_
        refine O.lss rfl rfl rfl rfl ?_
        refine WL.nil ?_
        refine W.seq ?_
        refine W.cond_true (congrArg Value.bool (decide_eq_true hltk1)) ?_
        refine W.skip ?_
        refine W.seq ?_
        obtain ⟨s2, hm3, hm2⟩ := bind_some hm2
        refine W.via (fun f w => ∃ v6 : Value, f 0 = va0 ∧ f 4 = v6 ∧ f 15 = v1 ∧ f 16 = (.int .i64 ((t2.length : Nat) : Int)) ∧ f 17 = (.int .i64 (ik1 : Int)) ∧ Inv w0 w [ownI (α := GEntry) v6 36 s2, ownI (α := Int) v1 3 t2]) ?_ ?_
        · skip
          refine W.block ?_
          refine W.seq ?_
          refine W.region ?_
          refine O.indexAddr Try.underlying29 sz3 (H.own 1 rfl) hixk1 rfl rfl rfl rfl ?_
          intro p1 hp1
          refine O.load sc3 rfl rfl rfl (hp1.flat 0 _ rfl) ?_
          refine O.assign (v := (.int .i64 yk1)) rfl rfl rfl ?_
          refine WL.nil ?_
          refine W.seq ?_
          refine W.region ?_
          refine O.buildSlice (α := Bool) [(.bool false), (.bool true)] [false, true] Try.underlying46 el4 H rfl rfl rfl rfl rfl rfl rfl ?_
          intro v7 w3 H hb3
          have hp1 := hp1.mono hb3
          refine O.lenS Try.underlying46 (H.own 2 rfl) rfl rfl rfl ?_
          refine O.move (v := (.int .i64 0)) rfl rfl rfl ?_
          refine WL.nil ?_
          obtain ⟨s3, hm4, hm3⟩ := bind_some hm3
          refine W.via (fun f w => ∃ v11 : Value, f 0 = va0 ∧ f 4 = v11 ∧ f 15 = v1 ∧ f 16 = (.int .i64 ((t2.length : Nat) : Int)) ∧ f 17 = (.int .i64 (ik1 : Int)) ∧ Inv w0 w [ownI (α := GEntry) v11 36 s3, ownI (α := Int) v1 3 t2]) ?_ ?_
          · skip
            refine W.block ?_
            refine W.rangeL (i := 0) hm4 (fun rem ik2 s f w => ∃ z5 : (List GEntry), ∃ v9 : Value, z5 = s ∧ ([false, true] : List Bool).drop ik2 = rem ∧ f 23 = .int .i64 (ik2 : Int) ∧ f 22 = (.int .i64 ((([false, true] : List Bool).length : Nat) : Int)) ∧ f 0 = va0 ∧ f 4 = v9 ∧ f 6 = (.int .i64 yk1) ∧ f 15 = v1 ∧ f 16 = (.int .i64 ((t2.length : Nat) : Int)) ∧ f 17 = (.int .i64 (ik1 : Int)) ∧ f 21 = v7 ∧ Inv w0 w [ownI (α := GEntry) v9 36 z5, ownI (α := Int) v1 3 t2, ownI (α := Bool) v7 4 ([false, true] : List Bool)]) ?_ ?_ ?_
            · skip
              exact ⟨_, v3, rfl, List.drop_zero, rfl, rfl, rfl, rfl, rfl, rfl, rfl, rfl, rfl, H⟩
            · skip
              rintro yk2 xs ik2 _ st f w ⟨z5, v9, rfl, hdropk2, hf23, hf22, hf0, hf4, hf6, hf15, hf16, hf17, hf21, H⟩ hm5
              have hltk2 := drop_lt hdropk2; have hixk2 := drop_idx hdropk2
              obtain ⟨u2, rfl⟩ : ∃ u2, f = (upd (upd (upd (upd (upd (upd (upd (upd (upd u2 23 (.int .i64 (ik2 : Int))) 22 (.int .i64 ((([false, true] : List Bool).length : Nat) : Int))) 0 va0) 4 v9) 6 (.int .i64 yk1)) 15 v1) 16 (.int .i64 ((t2.length : Nat) : Int))) 17 (.int .i64 (ik1 : Int))) 21 v7) := ⟨f, by rw [upd_self hf23, upd_self hf22, upd_self hf0, upd_self hf4, upd_self hf6, upd_self hf15, upd_self hf16, upd_self hf17, upd_self hf21]⟩
              have hinck2 := addI_lt hltk2 (H.own 2 rfl).len_le
              refine W.seq ?_
              refine W.region ?_
              refine O.lss rfl rfl rfl rfl ?_
              refine WL.nil ?_
              refine W.seq ?_
              refine W.cond_true (congrArg Value.bool (decide_eq_true hltk2)) ?_
              refine W.skip ?_
              refine W.seq ?_
              obtain ⟨s4, hm6, hm5⟩ := bind_some hm5
              refine W.via (fun f w => ∃ v12 : Value, f 0 = va0 ∧ f 4 = v12 ∧ f 6 = (.int .i64 yk1) ∧ f 15 = v1 ∧ f 16 = (.int .i64 ((t2.length : Nat) : Int)) ∧ f 17 = (.int .i64 (ik1 : Int)) ∧ f 21 = v7 ∧ f 22 = (.int .i64 ((([false, true] : List Bool).length : Nat) : Int)) ∧ f 23 = (.int .i64 (ik2 : Int)) ∧ Inv w0 w [ownI (α := GEntry) v12 36 s4, ownI (α := Int) v1 3 t2, ownI (α := Bool) v7 4 ([false, true] : List Bool)]) ?_ ?_
              · skip
                refine W.block ?_
                refine W.seq ?_
                refine W.region ?_
                refine O.indexAddr Try.underlying46 sz4 (H.own 2 rfl) hixk2 rfl rfl rfl rfl ?_
                intro p2 hp2
                refine O.load sc4 rfl rfl rfl (hp2.flat 0 _ rfl) ?_
                refine O.assign (v := (.bool yk2)) rfl rfl rfl ?_
                refine WL.nil ?_
                refine W.seq ?_
                refine W.region ?_
                refine O.move (v := va0) rfl rfl rfl ?_
                refine O.move (v := (.int .i64 yk1)) rfl rfl rfl ?_
                refine O.move (v := (.bool yk2)) rfl rfl rfl ?_
                obtain ⟨⟨t3, t4⟩, hy3, hm6⟩ := bind_some hm6
                refine O.call Try.call20 rfl rfl rfl (c_noongunref09_last _ _ (H.arg ha0) _ _ hy3) ?_
                rintro _ w4 hb4 rfl
                have hp2 := hp2.mono hb4
                have H := H.ext hb4
                refine O.move (v := (.tuple #[(.int .i64 t3), (.bool t4)])) rfl rfl rfl ?_
                refine O.extract (v := (.int .i64 t3)) rfl rfl rfl rfl ?_
                refine O.extract (v := (.bool t4)) rfl rfl rfl rfl ?_
                refine O.assign (v := (.int .i64 t3)) rfl rfl rfl ?_
                refine O.assign (v := (.bool t4)) rfl rfl rfl ?_
                refine WL.nil ?_
                refine W.seq ?_
                refine W.region ?_
                refine O.move (v := (.bool t4)) rfl rfl rfl ?_
                refine WL.nil ?_
                obtain ⟨s5, hm7, hm6⟩ := bind_some hm6
                refine W.via (fun f w => ∃ v13 : Value, f 0 = va0 ∧ f 4 = v13 ∧ f 6 = (.int .i64 yk1) ∧ f 15 = v1 ∧ f 16 = (.int .i64 ((t2.length : Nat) : Int)) ∧ f 17 = (.int .i64 (ik1 : Int)) ∧ f 21 = v7 ∧ f 22 = (.int .i64 ((([false, true] : List Bool).length : Nat) : Int)) ∧ f 23 = (.int .i64 (ik2 : Int)) ∧ Inv w0 w [ownI (α := GEntry) v13 36 s5, ownI (α := Int) v1 3 t2, ownI (α := Bool) v7 4 ([false, true] : List Bool)]) ?_ ?_
                · skip
                  rcases ite_some hm7 with ⟨hc2, hm7⟩ | ⟨hc2, hm7⟩
                  · refine W.cond_true (congrArg Value.bool hc2) ?_
                    refine W.region ?_
                    refine O.move (v := v9) rfl rfl rfl ?_
                    refine O.move (v := (.int .i64 yk1)) rfl rfl rfl ?_
                    refine O.move (v := (.bool yk2)) rfl rfl rfl ?_
                    refine O.move (v := (.int .i64 t3)) rfl rfl rfl ?_
                    refine O.build (v := (.agg (Flat.cells (GEntry.mk yk1 yk2 t3)).toArray)) (fun w => bd36_0_1_2 _ _ _ w) rfl rfl rfl ?_
                    refine O.buildSlice (α := GEntry) [(.agg (Flat.cells (GEntry.mk yk1 yk2 t3)).toArray)] [(GEntry.mk yk1 yk2 t3)] Try.underlying22 el36 H rfl rfl rfl rfl rfl rfl rfl ?_
                    intro v14 w5 H hb5
                    have hp2 := hp2.mono hb5
                    obtain ⟨t5, ht5, hm7⟩ := bind_some hm7
                    refine O.append 0 Try.underlying22 el36 rfl H rfl (H.own 3 rfl) ht5 rfl rfl rfl rfl ?_
                    intro v15 w6 H
                    clear hp2
                    refine O.assign (v := v15) rfl rfl rfl ?_
                    refine WL.nil ?_
                    have H := H.keep [0, 1, 2] [ownI (α := GEntry) v15 36 t5, ownI (α := Int) v1 3 t2, ownI (α := Bool) v7 4 ([false, true] : List Bool)] rfl (by decide)
                    have hq : t5 = s5 := Option.some.inj (show some t5 = some s5 from hm7)
                    subst hq
                    exact ⟨v15, rfl, rfl, rfl, rfl, rfl, rfl, rfl, rfl, rfl, H⟩
                  · refine W.cond_false (congrArg Value.bool hc2) ?_
                    refine W.skip ?_
                    have hq : z5 = s5 := Option.some.inj (show some z5 = some s5 from hm7)
                    subst hq
                    exact ⟨v9, rfl, rfl, rfl, rfl, rfl, rfl, rfl, rfl, rfl, H⟩
                · skip
                  rintro f w ⟨v13, hf0, hf4, hf6, hf15, hf16, hf17, hf21, hf22, hf23, H⟩
                  obtain ⟨u3, rfl⟩ : ∃ u3, f = (upd (upd (upd (upd (upd (upd (upd (upd (upd u3 0 va0) 4 v13) 6 (.int .i64 yk1)) 15 v1) 16 (.int .i64 ((t2.length : Nat) : Int))) 17 (.int .i64 (ik1 : Int))) 21 v7) 22 (.int .i64 ((([false, true] : List Bool).length : Nat) : Int))) 23 (.int .i64 (ik2 : Int))) := ⟨f, by rw [upd_self hf0, upd_self hf4, upd_self hf6, upd_self hf15, upd_self hf16, upd_self hf17, upd_self hf21, upd_self hf22, upd_self hf23]⟩
                  have hq : s5 = s4 := Option.some.inj (show some s5 = some s4 from hm6)
                  subst hq
                  exact ⟨v13, rfl, rfl, rfl, rfl, rfl, rfl, rfl, rfl, rfl, H⟩
              · skip
                rintro f w ⟨v12, hf0, hf4, hf6, hf15, hf16, hf17, hf21, hf22, hf23, H⟩
                obtain ⟨u4, rfl⟩ : ∃ u4, f = (upd (upd (upd (upd (upd (upd (upd (upd (upd u4 0 va0) 4 v12) 6 (.int .i64 yk1)) 15 v1) 16 (.int .i64 ((t2.length : Nat) : Int))) 17 (.int .i64 (ik1 : Int))) 21 v7) 22 (.int .i64 ((([false, true] : List Bool).length : Nat) : Int))) 23 (.int .i64 (ik2 : Int))) := ⟨f, by rw [upd_self hf0, upd_self hf4, upd_self hf6, upd_self hf15, upd_self hf16, upd_self hf17, upd_self hf21, upd_self hf22, upd_self hf23]⟩
                refine W.region ?_
                refine O.add rfl rfl rfl rfl hinck2 ?_
                refine O.move (v := .int .i64 ((ik2 : Int) + 1)) rfl rfl rfl ?_
                refine WL.nil ?_
                obtain rfl := Option.some.inj hm5
                exact ⟨_, rfl, _, v12, rfl, drop_next hdropk2, rfl, rfl, rfl, rfl, rfl, rfl, rfl, rfl, rfl, H⟩
            · skip
              rintro ik2 _ f w ⟨z5, v9, rfl, hdropk2, hf23, hf22, hf0, hf4, hf6, hf15, hf16, hf17, hf21, H⟩ hfin
              have hltk2 := drop_end hdropk2
              obtain ⟨u5, rfl⟩ : ∃ u5, f = (upd (upd (upd (upd (upd (upd (upd (upd (upd u5 23 (.int .i64 (ik2 : Int))) 22 (.int .i64 ((([false, true] : List Bool).length : Nat) : Int))) 0 va0) 4 v9) 6 (.int .i64 yk1)) 15 v1) 16 (.int .i64 ((t2.length : Nat) : Int))) 17 (.int .i64 (ik1 : Int))) 21 v7) := ⟨f, by rw [upd_self hf23, upd_self hf22, upd_self hf0, upd_self hf4, upd_self hf6, upd_self hf15, upd_self hf16, upd_self hf17, upd_self hf21]⟩
              refine W.seq ?_
              refine W.region ?_
              refine O.lss rfl rfl rfl rfl ?_
              refine WL.nil ?_
              refine W.seq ?_
              refine W.cond_false (congrArg Value.bool (decide_eq_false hltk2)) ?_
              refine W.exit ?_
              have hq : z5 = s3 := hfin
              subst hq
              have H := H.keep [0, 1] [ownI (α := GEntry) v9 36 z5, ownI (α := Int) v1 3 t2] rfl (by decide)
              refine xT rfl ?_
              exact ⟨v9, rfl, rfl, rfl, rfl, rfl, H⟩
          · skip
            rintro f w ⟨v11, hf0, hf4, hf15, hf16, hf17, H⟩
            obtain ⟨u6, rfl⟩ : ∃ u6, f = (upd (upd (upd (upd (upd u6 0 va0) 4 v11) 15 v1) 16 (.int .i64 ((t2.length : Nat) : Int))) 17 (.int .i64 (ik1 : Int))) := ⟨f, by rw [upd_self hf0, upd_self hf4, upd_self hf15, upd_self hf16, upd_self hf17]⟩
            have hq : s3 = s2 := Option.some.inj (show some s3 = some s2 from hm3)
            subst hq
            exact ⟨v11, rfl, rfl, rfl, rfl, rfl, H⟩
        · skip
          rintro f w ⟨v6, hf0, hf4, hf15, hf16, hf17, H⟩
          obtain ⟨u7, rfl⟩ : ∃ u7, f = (upd (upd (upd (upd (upd u7 0 va0) 4 v6) 15 v1) 16 (.int .i64 ((t2.length : Nat) : Int))) 17 (.int .i64 (ik1 : Int))) := ⟨f, by rw [upd_self hf0, upd_self hf4, upd_self hf15, upd_self hf16, upd_self hf17]⟩
          refine W.region ?_
          refine O.add rfl rfl rfl rfl hinck1 ?_
          refine O.move (v := .int .i64 ((ik1 : Int) + 1)) rfl rfl rfl ?_
          refine WL.nil ?_
          obtain rfl := Option.some.inj hm2
          exact ⟨_, rfl, _, v6, rfl, drop_next hdropk1, rfl, rfl, rfl, rfl, rfl, H⟩
      · skip
        rintro ik1 _ f w ⟨z2, v3, rfl, hdropk1, hf17, hf16, hf0, hf4, hf15, H⟩ hfin
        have hltk1 := drop_end hdropk1
        obtain ⟨u8, rfl⟩ : ∃ u8, f = (upd (upd (upd (upd (upd u8 17 (.int .i64 (ik1 : Int))) 16 (.int .i64 ((t2.length : Nat) : Int))) 0 va0) 4 v3) 15 v1) := ⟨f, by rw [upd_self hf17, upd_self hf16, upd_self hf0, upd_self hf4, upd_self hf15]⟩
        refine W.seq ?_
        refine W.region ?_
        refine O.lss rfl rfl rfl rfl ?_
        refine WL.nil ?_
        refine W.seq ?_
        refine W.cond_false (congrArg Value.bool (decide_eq_false hltk1)) ?_
        refine W.exit ?_
        have hq : z2 = s1 := hfin
        subst hq
        have H := H.keep [0] [ownI (α := GEntry) v3 36 z2] rfl (by decide)
        refine xT rfl ?_
        exact ⟨v3, rfl, H⟩
    · skip
      rintro f w ⟨v5, hf4, H⟩
      obtain ⟨u9, rfl⟩ : ∃ u9, f = (upd u9 4 v5) := ⟨f, by rw [upd_self hf4]⟩
      refine W.seq ?_
      refine W.region ?_
      refine O.move (v := v5) rfl rfl rfl ?_
      refine O.assign (v := v5) rfl rfl rfl ?_
      refine O.assign (v := (.int .i64 0)) rfl rfl rfl ?_
      refine WL.nil ?_
      refine W.ret ?_
      have hq : (s1, 0) = (r0, r1) := Option.some.inj (show some (s1, 0) = some (r0, r1) from hm)
      obtain ⟨he0, hq0⟩ := Prod.mk.inj hq; clear hq; subst he0
      subst hq0
      exact ends2 Try.results7 rfl rfl ⟨_, rfl, H.base, ⟨_, rfl, H.ownR 0 rfl⟩⟩

set_option maxRecDepth 20000 in
theorem c_noongunref09_SameEntries {w0 : World} (va0 : Value) (a0 : (List GEntry)) (ha0 : SliceR w0 va0 a0) (va1 : Value) (a1 : (List GEntry)) (ha1 : SliceR w0 va1 a1) {r0 : Bool} (hm : noongunref09_SameEntries a0 a1 = some r0) :
    Calls Try.prog 8 #[va0, va1] w0 (Ret w0 fun _ v => v = (.bool r0)) := by
  unfold noongunref09_SameEntries at hm
  refine calls_of_W Try.func8 rfl Try.ntmps8 (Nat.le_of_ble_eq_true rfl) ?_
  have H := Inv.start (w := w0)
  refine W.seq ?_
  refine W.region ?_
  refine O.assign (v := (.bool false)) rfl rfl rfl ?_
  refine WL.nil ?_
  refine W.seq ?_
  refine W.seq ?_
  refine W.region ?_
  refine O.move (v := va0) rfl rfl rfl ?_
  refine O.lenS Try.underlying22 (H.arg ha0) rfl rfl rfl ?_
  refine O.move (v := va1) rfl rfl rfl ?_
  refine O.lenS Try.underlying22 (H.arg ha1) rfl rfl rfl ?_
  refine O.neq rfl rfl rfl rfl ?_
  refine WL.nil ?_
  rcases ite_some hm with ⟨hc1, hm⟩ | ⟨hc1, hm⟩
  · refine W.cond_true (congrArg Value.bool hc1) ?_
    refine W.seq ?_
    refine W.region ?_
    refine O.assign (v := (.bool false)) rfl rfl rfl ?_
    refine WL.nil ?_
    refine W.ret ?_
    have hq : false = r0 := Option.some.inj (show some false = some r0 from hm)
    subst hq
    exact ends1 Try.results8 rfl ⟨_, rfl, H.base, rfl⟩
  · refine W.cond_false (congrArg Value.bool hc1) ?_
    refine W.skip ?_
    refine W.seq ?_
    refine W.seq ?_
    refine W.region ?_
    refine O.move (v := va0) rfl rfl rfl ?_
    refine O.lenS Try.underlying22 (H.arg ha0) rfl rfl rfl ?_
    refine O.move (v := (.int .i64 0)) rfl rfl rfl ?_
    refine WL.nil ?_
    obtain ⟨o1, hm1, hm⟩ := bind_some hm
    refine W.via (fun f w => o1 = .next () ∧ Inv w0 w []) ?_ ?_
    · skip
      refine W.block ?_
      have hbdik1 := (H.arg ha0).len_le
      refine W.rangeN (i := 0) hm1 (fun rem ik1 s f w => () = s ∧ (ik1 : Int) + rem = max 0 ((a0.length : Nat) : Int) ∧ f 13 = .int .i64 (ik1 : Int) ∧ f 12 = (.int .i64 ((a0.length : Nat) : Int)) ∧ f 0 = va0 ∧ f 1 = va1 ∧ Inv w0 w []) ?_ ?_ ?_
      · skip
        exact ⟨rfl, rangeN_start, rfl, rfl, rfl, rfl, H⟩
      · skip
        rintro k ik1 _ st f w ⟨rfl, hdropk1, hf13, hf12, hf0, hf1, H⟩ hm2
        have hltk1 := rangeN_lt hdropk1
        obtain ⟨u1, rfl⟩ : ∃ u1, f = (upd (upd (upd (upd u1 13 (.int .i64 (ik1 : Int))) 12 (.int .i64 ((a0.length : Nat) : Int))) 0 va0) 1 va1) := ⟨f, by rw [upd_self hf13, upd_self hf12, upd_self hf0, upd_self hf1]⟩
        have hinck1 := addI_lt hltk1 hbdik1
        refine W.seq ?_
        refine W.region ?_
        refine O.lss rfl rfl rfl rfl ?_
        refine WL.nil ?_
        refine W.seq ?_
        refine W.cond_true (congrArg Value.bool (decide_eq_true hltk1)) ?_
        refine W.skip ?_
        refine W.seq ?_
        refine W.block ?_
        refine W.seq ?_
        refine W.region ?_
        refine O.move (v := (.int .i64 (ik1 : Int))) rfl rfl rfl ?_
        refine O.assign (v := (.int .i64 (ik1 : Int))) rfl rfl rfl ?_
        refine WL.nil ?_
        refine W.seq ?_
        obtain ⟨x1, hx1, hm2⟩ := bind_some hm2
        obtain ⟨p1, hp1, hrp1⟩ := fix_indexAddr Try.underlying22 sz36 (H.arg ha0) hx1
        obtain ⟨x2, hx2, hm2⟩ := bind_some hm2
        obtain ⟨p2, hp2, hrp2⟩ := fix_indexAddr Try.underlying22 sz36 (H.arg ha1) hx2
        refine W.drawN 8 (fun f => f 0 = va0 ∧ f 1 = va1 ∧ f 12 = (.int .i64 ((a0.length : Nat) : Int)) ∧ f 13 = (.int .i64 (ik1 : Int)) ∧ f 19 = (.agg (Flat.cells x1).toArray) ∧ f 23 = (.agg (Flat.cells x2).toArray)) fol (by kernel_rfl) ?_ ?_
        · skip
          refine PL.of (fun _ w8 _ hx => O.move (v := va0) rfl rfl rfl (WL.nil ⟨rfl, hx⟩)) ?_
          refine PL.of (fun _ w8 _ hx => O.move (v := (.int .i64 (ik1 : Int))) rfl rfl rfl (WL.nil ⟨rfl, hx⟩)) ?_
          refine PL.of (fun _ w8 _ hx => hrp1 rfl rfl rfl rfl (WL.nil ⟨rfl, hx⟩)) ?_
          refine PL.of (fun _ w8 _ hx => by have hp1 := hp1.mono hx; exact O.loadA [(.int .i64 x1.Day), (.bool x1.Found), (.int .i64 x1.Error)] ag36 rfl rfl rfl rfl (hp1.flat) (WL.nil ⟨rfl, hx⟩)) ?_
          refine PL.of (fun _ w8 _ hx => O.move (v := va1) rfl rfl rfl (WL.nil ⟨rfl, hx⟩)) ?_
          refine PL.of (fun _ w8 _ hx => O.move (v := (.int .i64 (ik1 : Int))) rfl rfl rfl (WL.nil ⟨rfl, hx⟩)) ?_
          refine PL.of (fun _ w8 _ hx => hrp2 rfl rfl rfl rfl (WL.nil ⟨rfl, hx⟩)) ?_
          refine PL.of (fun _ w8 _ hx => by have hp2 := hp2.mono hx; exact O.loadA [(.int .i64 x2.Day), (.bool x2.Found), (.int .i64 x2.Error)] ag36 rfl rfl rfl rfl (hp2.flat) (WL.nil ⟨rfl, hx⟩)) ?_
          refine PL.nil ?_
          exact ⟨rfl, rfl, rfl, rfl, rfl, rfl⟩
        · skip
          rintro f w ⟨hf0, hf1, hf12, hf13, hf19, hf23⟩ hmd hx
          have H := H.ext hx
          have hp1 := hp1.mono hx
          have hp2 := hp2.mono hx
          obtain ⟨u2, rfl⟩ : ∃ u2, f = (upd (upd (upd (upd (upd (upd u2 0 va0) 1 va1) 12 (.int .i64 ((a0.length : Nat) : Int))) 13 (.int .i64 (ik1 : Int))) 19 (.agg (Flat.cells x1).toArray)) 23 (.agg (Flat.cells x2).toArray)) := ⟨f, by rw [upd_self hf0, upd_self hf1, upd_self hf12, upd_self hf13, upd_self hf19, upd_self hf23]⟩
          refine O.neqSt x1 x2 eq36 rfl rfl rfl rfl ?_
          refine WL.nil ?_
          rcases ite_some hm2 with ⟨hc2, hm2⟩ | ⟨hc2, hm2⟩
          · refine W.cond_true (congrArg Value.bool hc2) ?_
            refine W.seq ?_
            refine W.region ?_
            refine O.assign (v := (.bool false)) rfl rfl rfl ?_
            refine WL.nil ?_
            refine W.ret ?_
            obtain rfl := Option.some.inj hm2
            refine ⟨_, rfl, ?_⟩
            rintro rfl
            have hq : false = r0 := Option.some.inj (show some false = some r0 from hm)
            subst hq
            exact ends1 Try.results8 rfl ⟨_, rfl, H.base, rfl⟩
          · refine W.cond_false (congrArg Value.bool hc2) ?_
            refine W.skip ?_
            refine W.region ?_
            refine O.add rfl rfl rfl rfl hinck1 ?_
            refine O.move (v := .int .i64 ((ik1 : Int) + 1)) rfl rfl rfl ?_
            refine WL.nil ?_
            obtain rfl := Option.some.inj hm2
            exact ⟨_, rfl, rfl, rangeN_next hdropk1, rfl, rfl, rfl, rfl, H⟩
      · skip
        rintro ik1 _ f w ⟨rfl, hdropk1, hf13, hf12, hf0, hf1, H⟩ hfin
        have hltk1 := rangeN_end hdropk1
        obtain ⟨u3, rfl⟩ : ∃ u3, f = (upd (upd (upd (upd u3 13 (.int .i64 (ik1 : Int))) 12 (.int .i64 ((a0.length : Nat) : Int))) 0 va0) 1 va1) := ⟨f, by rw [upd_self hf13, upd_self hf12, upd_self hf0, upd_self hf1]⟩
        refine W.seq ?_
        refine W.region ?_
        refine O.lss rfl rfl rfl rfl ?_
        refine WL.nil ?_
        refine W.seq ?_
        refine W.cond_false (congrArg Value.bool (decide_eq_false hltk1)) ?_
        refine W.exit ?_
        obtain rfl : Ctl.next () = o1 := hfin
        refine xT rfl ?_
        exact ⟨rfl, H⟩
    · skip
      rintro f w ⟨rfl, H⟩
      refine W.seq ?_
      refine W.region ?_
      refine O.assign (v := (.bool true)) rfl rfl rfl ?_
      refine WL.nil ?_
      refine W.ret ?_
      have hq : true = r0 := Option.some.inj (show some true = some r0 from hm)
      subst hq
      exact ends1 Try.results8 rfl ⟨_, rfl, H.base, rfl⟩

theorem c_ledger_Said_c1 {w0 : World} (va0 : Value) (a0 : (List (GKey × Int))) (ha0 : MapR w0 va0 a0) (pc0 : Addr) (c0 : Int) (hc0 : ∀ j c, (Flat.cells c0)[j]? = some c → w0.cell? (pc0.add j) = some c) {r0 : Int} {r1 : Bool} (hm : ledger_Said_c1 a0 c0 = some (r0, r1)) :
    Calls Try.prog 23 #[va0, (.pointer (some pc0))] w0 (Ret w0 fun _ v => v = .tuple #[(.int .i64 r0), (.bool r1)]) := by
  unfold ledger_Said_c1 at hm
  refine calls_of_W Try.func23 rfl Try.ntmps23 (Nat.le_of_ble_eq_true rfl) ?_
  have H := Inv.start (w := w0)
  refine W.seq ?_
  refine W.region ?_
  refine O.assign (v := (.int .i64 0)) rfl rfl rfl ?_
  refine O.assign (v := (.bool false)) rfl rfl rfl ?_
  refine WL.nil ?_
  refine W.seq ?_
  refine W.region ?_
  refine O.move (v := va0) rfl rfl rfl ?_
  refine O.load sc3 rfl rfl rfl (cells_mono hc0 H.base 0 _ rfl) ?_
  refine O.build (v := (.agg (Flat.cells (GKey.mk c0 false)).toArray)) (fun w => bd42_0_1 _ _ w) rfl rfl rfl ?_
  refine O.lookup2 (z := 0) (GKey.mk c0 false) Try.underlying39 key42 ze3 (H.argM ha0) rfl rfl rfl rfl ?_
  refine O.move (v := (.tuple #[(.int .i64 ((mget a0 (GKey.mk c0 false)).getD 0)), (.bool (mget a0 (GKey.mk c0 false)).isSome)])) rfl rfl rfl ?_
  refine O.extract (v := (.int .i64 ((mget a0 (GKey.mk c0 false)).getD 0))) rfl rfl rfl rfl ?_
  refine O.extract (v := (.bool (mget a0 (GKey.mk c0 false)).isSome)) rfl rfl rfl rfl ?_
  refine O.assign (v := (.int .i64 ((mget a0 (GKey.mk c0 false)).getD 0))) rfl rfl rfl ?_
  refine O.assign (v := (.bool (mget a0 (GKey.mk c0 false)).isSome)) rfl rfl rfl ?_
  refine WL.nil ?_
  refine W.seq ?_
  refine W.region ?_
  refine O.move (v := (.int .i64 ((mget a0 (GKey.mk c0 false)).getD 0))) rfl rfl rfl ?_
  refine O.move (v := (.bool (mget a0 (GKey.mk c0 false)).isSome)) rfl rfl rfl ?_
  refine O.assign (v := (.int .i64 ((mget a0 (GKey.mk c0 false)).getD 0))) rfl rfl rfl ?_
  refine O.assign (v := (.bool (mget a0 (GKey.mk c0 false)).isSome)) rfl rfl rfl ?_
  refine WL.nil ?_
  refine W.ret ?_
  have hq : (((mget a0 (GKey.mk c0 false)).getD 0), (mget a0 (GKey.mk c0 false)).isSome) = (r0, r1) := Option.some.inj (show some (((mget a0 (GKey.mk c0 false)).getD 0), (mget a0 (GKey.mk c0 false)).isSome) = some (r0, r1) from hm)
  obtain ⟨he0, hq0⟩ := Prod.mk.inj hq; clear hq; subst he0
  subst hq0
  exact ends2 Try.results23 rfl rfl ⟨_, rfl, H.base, rfl⟩

theorem c_ledger_Said {w0 : World} (va0 : Value) (a0 : (List GEntry)) (ha0 : SliceR w0 va0 a0) (a1 : Int) {r0 : Int} {r1 : Int} (hm : ledger_Said a0 a1 = some (r0, r1)) :
    Calls Try.prog 10 #[va0, (.int .i64 a1)] w0 (Ret w0 fun _ v => v = .tuple #[(.int .i64 r0), (.int .i64 r1)]) := by
  unfold ledger_Said at hm
  refine calls_of_W Try.func10 rfl Try.ntmps10 (Nat.le_of_ble_eq_true rfl) ?_
  have H := Inv.start (w := w0)
  refine W.seq ?_
  refine W.region ?_
  refine O.box [(.int .i64 a1)] H rfl rfl rfl rfl ?_
  intro b1 w1 H hb1
  refine O.assign (v := (.int .i64 0)) rfl rfl rfl ?_
  refine O.assign (v := (.int .i64 0)) rfl rfl rfl ?_
  refine WL.nil ?_
  refine W.seq ?_
  refine W.region ?_
  refine O.move (v := va0) rfl rfl rfl ?_
  refine O.load sc3 rfl rfl rfl (H.cell 0 rfl 0 _ rfl) ?_
  refine O.makeFunc rfl rfl rfl rfl ?_
  obtain ⟨⟨t1, t2⟩, hy1, hm⟩ := bind_some hm
  refine O.call Try.call22 rfl rfl rfl (c_ledger_told _ _ (H.arg ha0) _ _ (fun x0 => ledger_Said_c1 x0 a1) (fun w hw vx0 x0 hx0 _ _ hy => callsV_mk Try.call23 (c_ledger_Said_c1 vx0 x0 hx0 _ a1 (cells_mono (H.cell 0 rfl) hw) hy)) hy1) ?_
  rintro _ w2 hb2 rfl
  have H := H.ext hb2
  refine O.extract (v := (.int .i64 t1)) rfl rfl rfl rfl ?_
  refine O.extract (v := (.int .i64 t2)) rfl rfl rfl rfl ?_
  refine O.assign (v := (.int .i64 t1)) rfl rfl rfl ?_
  refine O.assign (v := (.int .i64 t2)) rfl rfl rfl ?_
  refine WL.nil ?_
  refine W.ret ?_
  have hq : (t1, t2) = (r0, r1) := Option.some.inj (show some (t1, t2) = some (r0, r1) from hm)
  obtain ⟨he0, hq0⟩ := Prod.mk.inj hq; clear hq; subst he0
  subst hq0
  exact ends2 Try.results10 rfl rfl ⟨_, rfl, H.base, rfl⟩

theorem c_ledger_Found_c1 {w0 : World} (va0 : Value) (a0 : (List (GKey × Int))) (ha0 : MapR w0 va0 a0) (pc0 : Addr) (c0 : Int) (hc0 : ∀ j c, (Flat.cells c0)[j]? = some c → w0.cell? (pc0.add j) = some c) {r0 : Int} {r1 : Bool} (hm : ledger_Found_c1 a0 c0 = some (r0, r1)) :
    Calls Try.prog 24 #[va0, (.pointer (some pc0))] w0 (Ret w0 fun _ v => v = .tuple #[(.int .i64 r0), (.bool r1)]) := by
  unfold ledger_Found_c1 at hm
  refine calls_of_W Try.func24 rfl Try.ntmps24 (Nat.le_of_ble_eq_true rfl) ?_
  have H := Inv.start (w := w0)
  refine W.seq ?_
  refine W.region ?_
  refine O.assign (v := (.int .i64 0)) rfl rfl rfl ?_
  refine O.assign (v := (.bool false)) rfl rfl rfl ?_
  refine WL.nil ?_
  refine W.seq ?_
  refine W.region ?_
  refine O.move (v := va0) rfl rfl rfl ?_
  refine O.load sc3 rfl rfl rfl (cells_mono hc0 H.base 0 _ rfl) ?_
  refine O.build (v := (.agg (Flat.cells (GKey.mk c0 true)).toArray)) (fun w => bd42_0_1 _ _ w) rfl rfl rfl ?_
  refine O.lookup2 (z := 0) (GKey.mk c0 true) Try.underlying39 key42 ze3 (H.argM ha0) rfl rfl rfl rfl ?_
  refine O.move (v := (.tuple #[(.int .i64 ((mget a0 (GKey.mk c0 true)).getD 0)), (.bool (mget a0 (GKey.mk c0 true)).isSome)])) rfl rfl rfl ?_
  refine O.extract (v := (.int .i64 ((mget a0 (GKey.mk c0 true)).getD 0))) rfl rfl rfl rfl ?_
  refine O.extract (v := (.bool (mget a0 (GKey.mk c0 true)).isSome)) rfl rfl rfl rfl ?_
  refine O.assign (v := (.int .i64 ((mget a0 (GKey.mk c0 true)).getD 0))) rfl rfl rfl ?_
  refine O.assign (v := (.bool (mget a0 (GKey.mk c0 true)).isSome)) rfl rfl rfl ?_
  refine WL.nil ?_
  refine W.seq ?_
  refine W.region ?_
  refine O.move (v := (.int .i64 ((mget a0 (GKey.mk c0 true)).getD 0))) rfl rfl rfl ?_
  refine O.move (v := (.bool (mget a0 (GKey.mk c0 true)).isSome)) rfl rfl rfl ?_
  refine O.assign (v := (.int .i64 ((mget a0 (GKey.mk c0 true)).getD 0))) rfl rfl rfl ?_
  refine O.assign (v := (.bool (mget a0 (GKey.mk c0 true)).isSome)) rfl rfl rfl ?_
  refine WL.nil ?_
  refine W.ret ?_
  have hq : (((mget a0 (GKey.mk c0 true)).getD 0), (mget a0 (GKey.mk c0 true)).isSome) = (r0, r1) := Option.some.inj (show some (((mget a0 (GKey.mk c0 true)).getD 0), (mget a0 (GKey.mk c0 true)).isSome) = some (r0, r1) from hm)
  obtain ⟨he0, hq0⟩ := Prod.mk.inj hq; clear hq; subst he0
  subst hq0
  exact ends2 Try.results24 rfl rfl ⟨_, rfl, H.base, rfl⟩

theorem c_ledger_Found {w0 : World} (va0 : Value) (a0 : (List GEntry)) (ha0 : SliceR w0 va0 a0) (a1 : Int) {r0 : Int} {r1 : Int} (hm : ledger_Found a0 a1 = some (r0, r1)) :
    Calls Try.prog 11 #[va0, (.int .i64 a1)] w0 (Ret w0 fun _ v => v = .tuple #[(.int .i64 r0), (.int .i64 r1)]) := by
  unfold ledger_Found at hm
  refine calls_of_W Try.func11 rfl Try.ntmps11 (Nat.le_of_ble_eq_true rfl) ?_
  have H := Inv.start (w := w0)
  refine W.seq ?_
  refine W.region ?_
  refine O.box [(.int .i64 a1)] H rfl rfl rfl rfl ?_
  intro b1 w1 H hb1
  refine O.assign (v := (.int .i64 0)) rfl rfl rfl ?_
  refine O.assign (v := (.int .i64 0)) rfl rfl rfl ?_
  refine WL.nil ?_
  refine W.seq ?_
  refine W.region ?_
  refine O.move (v := va0) rfl rfl rfl ?_
  refine O.load sc3 rfl rfl rfl (H.cell 0 rfl 0 _ rfl) ?_
  refine O.makeFunc rfl rfl rfl rfl ?_
  obtain ⟨⟨t1, t2⟩, hy1, hm⟩ := bind_some hm
  refine O.call Try.call22 rfl rfl rfl (c_ledger_told _ _ (H.arg ha0) _ _ (fun x0 => ledger_Found_c1 x0 a1) (fun w hw vx0 x0 hx0 _ _ hy => callsV_mk Try.call24 (c_ledger_Found_c1 vx0 x0 hx0 _ a1 (cells_mono (H.cell 0 rfl) hw) hy)) hy1) ?_
  rintro _ w2 hb2 rfl
  have H := H.ext hb2
  refine O.extract (v := (.int .i64 t1)) rfl rfl rfl rfl ?_
  refine O.extract (v := (.int .i64 t2)) rfl rfl rfl rfl ?_
  refine O.assign (v := (.int .i64 t1)) rfl rfl rfl ?_
  refine O.assign (v := (.int .i64 t2)) rfl rfl rfl ?_
  refine WL.nil ?_
  refine W.ret ?_
  have hq : (t1, t2) = (r0, r1) := Option.some.inj (show some (t1, t2) = some (r0, r1) from hm)
  obtain ⟨he0, hq0⟩ := Prod.mk.inj hq; clear hq; subst he0
  subst hq0
  exact ends2 Try.results11 rfl rfl ⟨_, rfl, H.base, rfl⟩

set_option maxRecDepth 20000 in
theorem c_noongunlaw09_LedgerLast {w0 : World} (va0 : Value) (a0 : (List GEntry)) (ha0 : SliceR w0 va0 a0) (a1 : Int) {r0 : Bool} (hm : noongunlaw09_LedgerLast a0 a1 = some r0) :
    Calls Try.prog 3 #[va0, (.int .i64 a1)] w0 (Ret w0 fun _ v => v = (.bool r0)) := by
  unfold noongunlaw09_LedgerLast at hm
  refine calls_of_W Try.func3 rfl Try.ntmps3 (Nat.le_of_ble_eq_true rfl) ?_
  have H := Inv.start (w := w0)
  refine W.seq ?_
  refine W.region ?_
  refine O.assign (v := (.bool false)) rfl rfl rfl ?_
  refine WL.nil ?_
  refine W.seq ?_
  refine W.seq ?_
  refine W.region ?_
  refine O.move (v := va0) rfl rfl rfl ?_
  obtain ⟨t1, hy1, hm⟩ := bind_some hm
  refine O.call Try.call4 rfl rfl rfl (c_noongunlaw09_small _ _ (H.arg ha0) hy1) ?_
  rintro _ w1 hb1 rfl
  have H := H.ext hb1
  refine O.not rfl rfl rfl ?_
  refine WL.nil ?_
  rcases ite_some hm with ⟨hc1, hm⟩ | ⟨hc1, hm⟩
  · refine W.cond_true (congrArg Value.bool hc1) ?_
    refine W.seq ?_
    refine W.region ?_
    obtain ⟨t2, hy2, hm⟩ := bind_some hm
    refine O.call Try.call5 rfl rfl rfl (c_noongunlaw09_awake  hy2) ?_
    rintro _ w2 hb2 rfl
    have H := H.ext hb2
    refine O.assign (v := (.bool t2)) rfl rfl rfl ?_
    refine WL.nil ?_
    refine W.ret ?_
    have hq : t2 = r0 := Option.some.inj (show some t2 = some r0 from hm)
    subst hq
    exact ends1 Try.results3 rfl ⟨_, rfl, H.base, rfl⟩
  · refine W.cond_false (congrArg Value.bool hc1) ?_
    refine W.skip ?_
    refine W.seq ?_
    refine W.region ?_
    refine O.move (v := va0) rfl rfl rfl ?_
    obtain ⟨⟨t3, t4⟩, hy3, hm⟩ := bind_some hm
    refine O.call Try.call6 rfl rfl rfl (c_ledger_Last _ _ (H.arg ha0) hy3) ?_
    rintro _ w3 hb3 ⟨v1, rfl, ho1⟩
    have H := H.addOwn hb3 ho1
    refine O.move (v := (.tuple #[v1, (.int .i64 t4)])) rfl rfl rfl ?_
    refine O.extract (v := v1) rfl rfl rfl rfl ?_
    refine O.extract (v := (.int .i64 t4)) rfl rfl rfl rfl ?_
    refine O.assign (v := v1) rfl rfl rfl ?_
    refine O.assign (v := (.int .i64 t4)) rfl rfl rfl ?_
    refine WL.nil ?_
    refine W.seq ?_
    refine W.region ?_
    refine O.move (v := va0) rfl rfl rfl ?_
    obtain ⟨⟨t5, t6⟩, hy4, hm⟩ := bind_some hm
    refine O.call Try.call7 rfl rfl rfl (c_noongunref09_Last _ _ (H.arg ha0) hy4) ?_
    rintro _ w4 hb4 ⟨v2, rfl, ho2⟩
    have H := H.addOwn hb4 ho2
    refine O.move (v := (.tuple #[v2, (.int .i64 t6)])) rfl rfl rfl ?_
    refine O.extract (v := v2) rfl rfl rfl rfl ?_
    refine O.extract (v := (.int .i64 t6)) rfl rfl rfl rfl ?_
    refine O.assign (v := v2) rfl rfl rfl ?_
    refine O.assign (v := (.int .i64 t6)) rfl rfl rfl ?_
    refine WL.nil ?_
    refine W.seq ?_
    refine W.seq ?_
    refine W.region ?_
    refine O.move (v := v1) rfl rfl rfl ?_
    refine O.move (v := v2) rfl rfl rfl ?_
    obtain ⟨t7, hy5, hm⟩ := bind_some hm
    refine O.call Try.call8 rfl rfl rfl (c_noongunref09_SameEntries _ _ (H.own 0 rfl) _ _ (H.own 1 rfl) hy5) ?_
    rintro _ w5 hb5 rfl
    have H := H.ext hb5
    refine O.not rfl rfl rfl ?_
    refine O.move (v := (.bool (!t7))) rfl rfl rfl ?_
    refine WL.cut 4 (fun f w => f 0 = va0 ∧ f 1 = (.int .i64 a1) ∧ f 5 = v1 ∧ f 6 = (.int .i64 t4) ∧ f 41 = .bool ((!t7) || (t4 != t6)) ∧ Inv w0 w [ownI (α := GEntry) v1 36 t3, ownI (α := GEntry) v2 36 t5]) ?_ ?_
    · skip
      rcases bool_ft (!t7) with hc2 | hc2
      · skip
        refine WL.reset (i := 37) (v := .bool false) (congrArg Value.bool hc2) ?_
        refine O.move (v := (.int .i64 t4)) rfl rfl rfl ?_
        refine O.move (v := (.int .i64 t6)) rfl rfl rfl ?_
        refine O.neq rfl rfl rfl rfl ?_
        refine O.pick_false (v := (.bool (t4 != t6))) rfl rfl rfl rfl ?_
        refine WL.nil ?_
        exact ⟨rfl, rfl, rfl, rfl, congrArg Value.bool (or_f hc2), H⟩
      · skip
        refine WL.reset (i := 37) (v := .bool true) (congrArg Value.bool hc2) ?_
        refine O.skip rfl rfl ?_
        refine O.skip rfl rfl ?_
        refine O.skip rfl rfl ?_
        refine O.pick_true (v := (.bool true)) rfl rfl rfl rfl ?_
        refine WL.nil ?_
        exact ⟨rfl, rfl, rfl, rfl, congrArg Value.bool (or_t hc2), H⟩
    · skip
      rintro f w ⟨hf0, hf1, hf5, hf6, hf41, H⟩
      obtain ⟨u1, rfl⟩ : ∃ u1, f = (upd (upd (upd (upd (upd u1 0 va0) 1 (.int .i64 a1)) 5 v1) 6 (.int .i64 t4)) 41 (.bool ((!t7) || (t4 != t6)))) := ⟨f, by rw [upd_self hf0, upd_self hf1, upd_self hf5, upd_self hf6, upd_self hf41]⟩
      refine WL.nil ?_
      rcases ite_some hm with ⟨hc3, hm⟩ | ⟨hc3, hm⟩
      · refine W.cond_true (congrArg Value.bool hc3) ?_
        refine W.seq ?_
        refine W.region ?_
        refine O.assign (v := (.bool false)) rfl rfl rfl ?_
        refine WL.nil ?_
        refine W.ret ?_
        have hq : false = r0 := Option.some.inj (show some false = some r0 from hm)
        subst hq
        exact ends1 Try.results3 rfl ⟨_, rfl, H.base, rfl⟩
      · refine W.cond_false (congrArg Value.bool hc3) ?_
        refine W.skip ?_
        refine W.seq ?_
        refine W.seq ?_
        refine W.region ?_
        refine O.move (v := (.int .i64 t4)) rfl rfl rfl ?_
        refine O.neq rfl rfl rfl rfl ?_
        refine WL.nil ?_
        rcases ite_some hm with ⟨hc4, hm⟩ | ⟨hc4, hm⟩
        · refine W.cond_true (congrArg Value.bool hc4) ?_
          refine W.seq ?_
          refine W.region ?_
          obtain ⟨t8, hy6, hm⟩ := bind_some hm
          refine O.call Try.call5 rfl rfl rfl (c_noongunlaw09_awake  hy6) ?_
          rintro _ w6 hb6 rfl
          have H := H.ext hb6
          refine O.assign (v := (.bool t8)) rfl rfl rfl ?_
          refine WL.nil ?_
          refine W.ret ?_
          have hq : t8 = r0 := Option.some.inj (show some t8 = some r0 from hm)
          subst hq
          exact ends1 Try.results3 rfl ⟨_, rfl, H.base, rfl⟩
        · refine W.cond_false (congrArg Value.bool hc4) ?_
          refine W.skip ?_
          refine W.seq ?_
          refine W.region ?_
          refine O.move (v := v1) rfl rfl rfl ?_
          obtain ⟨⟨t9, t10⟩, hy7, hm⟩ := bind_some hm
          refine O.call Try.call9 rfl rfl rfl (c_ledger_Corrections _ _ (H.own 0 rfl) hy7) ?_
          rintro _ w7 hb7 ⟨v3, rfl, ho3⟩
          have H := H.addOwn hb7 ho3
          refine O.move (v := (.tuple #[v3, (.int .i64 t10)])) rfl rfl rfl ?_
          refine O.extract (v := v3) rfl rfl rfl rfl ?_
          refine O.extract (v := (.int .i64 t10)) rfl rfl rfl rfl ?_
          refine O.assign (v := v3) rfl rfl rfl ?_
          refine O.assign (v := (.int .i64 t10)) rfl rfl rfl ?_
          refine WL.nil ?_
          refine W.seq ?_
          refine W.region ?_
          refine O.move (v := va0) rfl rfl rfl ?_
          refine O.move (v := (.int .i64 a1)) rfl rfl rfl ?_
          obtain ⟨⟨t11, t12⟩, hy8, hm⟩ := bind_some hm
          refine O.call Try.call10 rfl rfl rfl (c_ledger_Said _ _ (H.arg ha0) _ hy8) ?_
          rintro _ w8 hb8 rfl
          have H := H.ext hb8
          refine O.move (v := (.tuple #[(.int .i64 t11), (.int .i64 t12)])) rfl rfl rfl ?_
          refine O.extract (v := (.int .i64 t11)) rfl rfl rfl rfl ?_
          refine O.extract (v := (.int .i64 t12)) rfl rfl rfl rfl ?_
          refine O.assign (v := (.int .i64 t11)) rfl rfl rfl ?_
          refine O.assign (v := (.int .i64 t12)) rfl rfl rfl ?_
          refine WL.nil ?_
          refine W.seq ?_
          refine W.region ?_
          refine O.move (v := v1) rfl rfl rfl ?_
          refine O.move (v := (.int .i64 a1)) rfl rfl rfl ?_
          obtain ⟨⟨t13, t14⟩, hy9, hm⟩ := bind_some hm
          refine O.call Try.call10 rfl rfl rfl (c_ledger_Said _ _ (H.own 0 rfl) _ hy9) ?_
          rintro _ w9 hb9 rfl
          have H := H.ext hb9
          refine O.move (v := (.tuple #[(.int .i64 t13), (.int .i64 t14)])) rfl rfl rfl ?_
          refine O.extract (v := (.int .i64 t13)) rfl rfl rfl rfl ?_
          refine O.extract (v := (.int .i64 t14)) rfl rfl rfl rfl ?_
          refine O.assign (v := (.int .i64 t13)) rfl rfl rfl ?_
          refine O.assign (v := (.int .i64 t14)) rfl rfl rfl ?_
          refine WL.nil ?_
          refine W.seq ?_
          refine W.region ?_
          refine O.move (v := va0) rfl rfl rfl ?_
          refine O.move (v := (.int .i64 a1)) rfl rfl rfl ?_
          obtain ⟨⟨t15, t16⟩, hy10, hm⟩ := bind_some hm
          refine O.call Try.call11 rfl rfl rfl (c_ledger_Found _ _ (H.arg ha0) _ hy10) ?_
          rintro _ w10 hb10 rfl
          have H := H.ext hb10
          refine O.move (v := (.tuple #[(.int .i64 t15), (.int .i64 t16)])) rfl rfl rfl ?_
          refine O.extract (v := (.int .i64 t15)) rfl rfl rfl rfl ?_
          refine O.extract (v := (.int .i64 t16)) rfl rfl rfl rfl ?_
          refine O.assign (v := (.int .i64 t15)) rfl rfl rfl ?_
          refine O.assign (v := (.int .i64 t16)) rfl rfl rfl ?_
          refine WL.nil ?_
          refine W.seq ?_
          refine W.region ?_
          refine O.move (v := v1) rfl rfl rfl ?_
          refine O.move (v := (.int .i64 a1)) rfl rfl rfl ?_
          obtain ⟨⟨t17, t18⟩, hy11, hm⟩ := bind_some hm
          refine O.call Try.call11 rfl rfl rfl (c_ledger_Found _ _ (H.own 0 rfl) _ hy11) ?_
          rintro _ w11 hb11 rfl
          have H := H.ext hb11
          refine O.move (v := (.tuple #[(.int .i64 t17), (.int .i64 t18)])) rfl rfl rfl ?_
          refine O.extract (v := (.int .i64 t17)) rfl rfl rfl rfl ?_
          refine O.extract (v := (.int .i64 t18)) rfl rfl rfl rfl ?_
          refine O.assign (v := (.int .i64 t17)) rfl rfl rfl ?_
          refine O.assign (v := (.int .i64 t18)) rfl rfl rfl ?_
          refine WL.nil ?_
          refine W.seq ?_
          refine W.region ?_
          refine O.move (v := (.int .i64 t10)) rfl rfl rfl ?_
          refine O.eql rfl rfl rfl rfl ?_
          refine O.move (v := (.bool (t10 == 0))) rfl rfl rfl ?_
          refine WL.cut 4 (fun f w => f 11 = (.int .i64 t11) ∧ f 12 = (.int .i64 t12) ∧ f 13 = (.int .i64 t13) ∧ f 14 = (.int .i64 t14) ∧ f 15 = (.int .i64 t15) ∧ f 16 = (.int .i64 t16) ∧ f 17 = (.int .i64 t17) ∧ f 18 = (.int .i64 t18) ∧ f 80 = .bool ((t10 == 0) && (((t9.length : Nat) : Int) == 0)) ∧ Inv w0 w [ownI (α := GEntry) v1 36 t3, ownI (α := GEntry) v2 36 t5, ownI (α := Int) v3 3 t9]) ?_ ?_
          · skip
            rcases bool_ft (t10 == 0) with hc5 | hc5
            · skip
              refine WL.reset (i := 76) (v := .bool false) (congrArg Value.bool hc5) ?_
              refine O.skip rfl rfl ?_
              refine O.skip rfl rfl ?_
              refine O.skip rfl rfl ?_
              refine O.pick_false (v := (.bool false)) rfl rfl rfl rfl ?_
              refine WL.nil ?_
              exact ⟨rfl, rfl, rfl, rfl, rfl, rfl, rfl, rfl, congrArg Value.bool (and_f hc5), H⟩
            · skip
              refine WL.reset (i := 76) (v := .bool true) (congrArg Value.bool hc5) ?_
              refine O.move (v := v3) rfl rfl rfl ?_
              refine O.lenS Try.underlying29 (H.own 2 rfl) rfl rfl rfl ?_
              refine O.eql rfl rfl rfl rfl ?_
              refine O.pick_true (v := (.bool (((t9.length : Nat) : Int) == 0))) rfl rfl rfl rfl ?_
              refine WL.nil ?_
              exact ⟨rfl, rfl, rfl, rfl, rfl, rfl, rfl, rfl, congrArg Value.bool (and_t hc5), H⟩
          · skip
            rintro f w ⟨hf11, hf12, hf13, hf14, hf15, hf16, hf17, hf18, hf80, H⟩
            obtain ⟨u2, rfl⟩ : ∃ u2, f = (upd (upd (upd (upd (upd (upd (upd (upd (upd u2 11 (.int .i64 t11)) 12 (.int .i64 t12)) 13 (.int .i64 t13)) 14 (.int .i64 t14)) 15 (.int .i64 t15)) 16 (.int .i64 t16)) 17 (.int .i64 t17)) 18 (.int .i64 t18)) 80 (.bool ((t10 == 0) && (((t9.length : Nat) : Int) == 0)))) := ⟨f, by rw [upd_self hf11, upd_self hf12, upd_self hf13, upd_self hf14, upd_self hf15, upd_self hf16, upd_self hf17, upd_self hf18, upd_self hf80]⟩
            refine O.move (v := (.bool ((t10 == 0) && (((t9.length : Nat) : Int) == 0)))) rfl rfl rfl ?_
            refine WL.cut 4 (fun f w => f 12 = (.int .i64 t12) ∧ f 14 = (.int .i64 t14) ∧ f 15 = (.int .i64 t15) ∧ f 16 = (.int .i64 t16) ∧ f 17 = (.int .i64 t17) ∧ f 18 = (.int .i64 t18) ∧ f 85 = .bool (((t10 == 0) && (((t9.length : Nat) : Int) == 0)) && (t11 == t13)) ∧ Inv w0 w [ownI (α := GEntry) v1 36 t3, ownI (α := GEntry) v2 36 t5, ownI (α := Int) v3 3 t9]) ?_ ?_
            · skip
              rcases bool_ft ((t10 == 0) && (((t9.length : Nat) : Int) == 0)) with hc6 | hc6
              · skip
                refine WL.reset (i := 81) (v := .bool false) (congrArg Value.bool hc6) ?_
                refine O.skip rfl rfl ?_
                refine O.skip rfl rfl ?_
                refine O.skip rfl rfl ?_
                refine O.pick_false (v := (.bool false)) rfl rfl rfl rfl ?_
                refine WL.nil ?_
                exact ⟨rfl, rfl, rfl, rfl, rfl, rfl, congrArg Value.bool (and_f hc6), H⟩
              · skip
                refine WL.reset (i := 81) (v := .bool true) (congrArg Value.bool hc6) ?_
                refine O.move (v := (.int .i64 t11)) rfl rfl rfl ?_
                refine O.move (v := (.int .i64 t13)) rfl rfl rfl ?_
                refine O.eql rfl rfl rfl rfl ?_
                refine O.pick_true (v := (.bool (t11 == t13))) rfl rfl rfl rfl ?_
                refine WL.nil ?_
                exact ⟨rfl, rfl, rfl, rfl, rfl, rfl, congrArg Value.bool (and_t hc6), H⟩
            · skip
              rintro f w ⟨hf12, hf14, hf15, hf16, hf17, hf18, hf85, H⟩
              obtain ⟨u3, rfl⟩ : ∃ u3, f = (upd (upd (upd (upd (upd (upd (upd u3 12 (.int .i64 t12)) 14 (.int .i64 t14)) 15 (.int .i64 t15)) 16 (.int .i64 t16)) 17 (.int .i64 t17)) 18 (.int .i64 t18)) 85 (.bool (((t10 == 0) && (((t9.length : Nat) : Int) == 0)) && (t11 == t13)))) := ⟨f, by rw [upd_self hf12, upd_self hf14, upd_self hf15, upd_self hf16, upd_self hf17, upd_self hf18, upd_self hf85]⟩
              refine O.move (v := (.bool (((t10 == 0) && (((t9.length : Nat) : Int) == 0)) && (t11 == t13)))) rfl rfl rfl ?_
              refine WL.cut 4 (fun f w => f 15 = (.int .i64 t15) ∧ f 16 = (.int .i64 t16) ∧ f 17 = (.int .i64 t17) ∧ f 18 = (.int .i64 t18) ∧ f 90 = .bool ((((t10 == 0) && (((t9.length : Nat) : Int) == 0)) && (t11 == t13)) && (t12 == t14)) ∧ Inv w0 w [ownI (α := GEntry) v1 36 t3, ownI (α := GEntry) v2 36 t5, ownI (α := Int) v3 3 t9]) ?_ ?_
              · skip
                rcases bool_ft (((t10 == 0) && (((t9.length : Nat) : Int) == 0)) && (t11 == t13)) with hc7 | hc7
                · skip
                  refine WL.reset (i := 86) (v := .bool false) (congrArg Value.bool hc7) ?_
                  refine O.skip rfl rfl ?_
                  refine O.skip rfl rfl ?_
                  refine O.skip rfl rfl ?_
                  refine O.pick_false (v := (.bool false)) rfl rfl rfl rfl ?_
                  refine WL.nil ?_
                  exact ⟨rfl, rfl, rfl, rfl, congrArg Value.bool (and_f hc7), H⟩
                · skip
                  refine WL.reset (i := 86) (v := .bool true) (congrArg Value.bool hc7) ?_
                  refine O.move (v := (.int .i64 t12)) rfl rfl rfl ?_
                  refine O.move (v := (.int .i64 t14)) rfl rfl rfl ?_
                  refine O.eql rfl rfl rfl rfl ?_
                  refine O.pick_true (v := (.bool (t12 == t14))) rfl rfl rfl rfl ?_
                  refine WL.nil ?_
                  exact ⟨rfl, rfl, rfl, rfl, congrArg Value.bool (and_t hc7), H⟩
              · skip
                rintro f w ⟨hf15, hf16, hf17, hf18, hf90, H⟩
                obtain ⟨u4, rfl⟩ : ∃ u4, f = (upd (upd (upd (upd (upd u4 15 (.int .i64 t15)) 16 (.int .i64 t16)) 17 (.int .i64 t17)) 18 (.int .i64 t18)) 90 (.bool ((((t10 == 0) && (((t9.length : Nat) : Int) == 0)) && (t11 == t13)) && (t12 == t14)))) := ⟨f, by rw [upd_self hf15, upd_self hf16, upd_self hf17, upd_self hf18, upd_self hf90]⟩
                refine O.move (v := (.bool ((((t10 == 0) && (((t9.length : Nat) : Int) == 0)) && (t11 == t13)) && (t12 == t14)))) rfl rfl rfl ?_
                refine WL.cut 4 (fun f w => f 16 = (.int .i64 t16) ∧ f 18 = (.int .i64 t18) ∧ f 95 = .bool (((((t10 == 0) && (((t9.length : Nat) : Int) == 0)) && (t11 == t13)) && (t12 == t14)) && (t15 == t17)) ∧ Inv w0 w [ownI (α := GEntry) v1 36 t3, ownI (α := GEntry) v2 36 t5, ownI (α := Int) v3 3 t9]) ?_ ?_
                · skip
                  rcases bool_ft ((((t10 == 0) && (((t9.length : Nat) : Int) == 0)) && (t11 == t13)) && (t12 == t14)) with hc8 | hc8
                  · skip
                    refine WL.reset (i := 91) (v := .bool false) (congrArg Value.bool hc8) ?_
                    refine O.skip rfl rfl ?_
                    refine O.skip rfl rfl ?_
                    refine O.skip rfl rfl ?_
                    refine O.pick_false (v := (.bool false)) rfl rfl rfl rfl ?_
                    refine WL.nil ?_
                    exact ⟨rfl, rfl, congrArg Value.bool (and_f hc8), H⟩
                  · skip
                    refine WL.reset (i := 91) (v := .bool true) (congrArg Value.bool hc8) ?_
                    refine O.move (v := (.int .i64 t15)) rfl rfl rfl ?_
                    refine O.move (v := (.int .i64 t17)) rfl rfl rfl ?_
                    refine O.eql rfl rfl rfl rfl ?_
                    refine O.pick_true (v := (.bool (t15 == t17))) rfl rfl rfl rfl ?_
                    refine WL.nil ?_
                    exact ⟨rfl, rfl, congrArg Value.bool (and_t hc8), H⟩
                · skip
                  rintro f w ⟨hf16, hf18, hf95, H⟩
                  obtain ⟨u5, rfl⟩ : ∃ u5, f = (upd (upd (upd u5 16 (.int .i64 t16)) 18 (.int .i64 t18)) 95 (.bool (((((t10 == 0) && (((t9.length : Nat) : Int) == 0)) && (t11 == t13)) && (t12 == t14)) && (t15 == t17)))) := ⟨f, by rw [upd_self hf16, upd_self hf18, upd_self hf95]⟩
                  refine O.move (v := (.bool (((((t10 == 0) && (((t9.length : Nat) : Int) == 0)) && (t11 == t13)) && (t12 == t14)) && (t15 == t17)))) rfl rfl rfl ?_
                  refine WL.cut 4 (fun f w => f 100 = .bool ((((((t10 == 0) && (((t9.length : Nat) : Int) == 0)) && (t11 == t13)) && (t12 == t14)) && (t15 == t17)) && (t16 == t18)) ∧ Inv w0 w [ownI (α := GEntry) v1 36 t3, ownI (α := GEntry) v2 36 t5, ownI (α := Int) v3 3 t9]) ?_ ?_
                  · skip
                    rcases bool_ft (((((t10 == 0) && (((t9.length : Nat) : Int) == 0)) && (t11 == t13)) && (t12 == t14)) && (t15 == t17)) with hc9 | hc9
                    · skip
                      refine WL.reset (i := 96) (v := .bool false) (congrArg Value.bool hc9) ?_
                      refine O.skip rfl rfl ?_
                      refine O.skip rfl rfl ?_
                      refine O.skip rfl rfl ?_
                      refine O.pick_false (v := (.bool false)) rfl rfl rfl rfl ?_
                      refine WL.nil ?_
                      exact ⟨congrArg Value.bool (and_f hc9), H⟩
                    · skip
                      refine WL.reset (i := 96) (v := .bool true) (congrArg Value.bool hc9) ?_
                      refine O.move (v := (.int .i64 t16)) rfl rfl rfl ?_
                      refine O.move (v := (.int .i64 t18)) rfl rfl rfl ?_
                      refine O.eql rfl rfl rfl rfl ?_
                      refine O.pick_true (v := (.bool (t16 == t18))) rfl rfl rfl rfl ?_
                      refine WL.nil ?_
                      exact ⟨congrArg Value.bool (and_t hc9), H⟩
                  · skip
                    rintro f w ⟨hf100, H⟩
                    obtain ⟨u6, rfl⟩ : ∃ u6, f = (upd u6 100 (.bool ((((((t10 == 0) && (((t9.length : Nat) : Int) == 0)) && (t11 == t13)) && (t12 == t14)) && (t15 == t17)) && (t16 == t18)))) := ⟨f, by rw [upd_self hf100]⟩
                    refine O.move (v := (.bool ((((((t10 == 0) && (((t9.length : Nat) : Int) == 0)) && (t11 == t13)) && (t12 == t14)) && (t15 == t17)) && (t16 == t18)))) rfl rfl rfl ?_
                    obtain ⟨b1, hm1, hm⟩ := bind_some hm
                    refine WL.cut 2 (fun f w => f 103 = .bool b1 ∧ Inv w0 w [ownI (α := GEntry) v1 36 t3, ownI (α := GEntry) v2 36 t5, ownI (α := Int) v3 3 t9]) ?_ ?_
                    · skip
                      rcases ite_some hm1 with ⟨hc10, hm1⟩ | ⟨hc10, hm1⟩
                      · skip
                        refine WL.reset (i := 101) (v := .bool true) (congrArg Value.bool hc10) ?_
                        obtain ⟨t19, hy12, hm1⟩ := bind_some hm1
                        refine O.call Try.call5 rfl rfl rfl (c_noongunlaw09_awake  hy12) ?_
                        rintro _ w12 hb12 rfl
                        have H := H.ext hb12
                        refine O.pick_true (v := (.bool t19)) rfl rfl rfl rfl ?_
                        refine WL.nil ?_
                        have hq : t19 = b1 := Option.some.inj (show some t19 = some b1 from hm1)
                        subst hq
                        exact ⟨rfl, H⟩
                      · skip
                        refine WL.reset (i := 101) (v := .bool false) (congrArg Value.bool hc10) ?_
                        refine O.skip rfl rfl ?_
                        refine O.pick_false (v := (.bool false)) rfl rfl rfl rfl ?_
                        refine WL.nil ?_
                        have hq : false = b1 := Option.some.inj (show some false = some b1 from hm1)
                        subst hq
                        exact ⟨rfl, H⟩
                    · skip
                      rintro f w ⟨hf103, H⟩
                      obtain ⟨u7, rfl⟩ : ∃ u7, f = (upd u7 103 (.bool b1)) := ⟨f, by rw [upd_self hf103]⟩
                      refine O.assign (v := (.bool b1)) rfl rfl rfl ?_
                      refine WL.nil ?_
                      refine W.ret ?_
                      have hq : b1 = r0 := Option.some.inj (show some b1 = some r0 from hm)
                      subst hq
                      exact ends1 Try.results3 rfl ⟨_, rfl, H.base, rfl⟩

end Go.Proofs
