/-
  The walks: each function does what its model says, where the model has a value. No other condition.
-/
import Derived.Test.YtijjocfjgpibjaaRows
import Derived.Test.YtijjocfjgpibjaaM
import Derived.Test.YtijjocfjgpibjaaFwV
import Derived.Test.YtijjocfjgpibjaaShelf
namespace Go.Proofs
open Go.Fw Go.RowKit Go.Shelf Go.Maps
theorem bd60_0_1 : ∀ (v0 : Int) (v1 : Bool) (w : World), (Instr.build 60 #[(0, (.int .i64 v0)), (1, (.bool v1))]).run Try.prog w = .ok (.agg #[(.int .i64 v0), (.bool v1)]) w := by
  intro v0 v1 w
  simp [Instr.build, Try.zeroValue60, Try.runUnderlying60, Instr.fill, Try.sizeOf3, Try.sizeOf4, Value.cells]
theorem eq60 : EqT Try.prog 60 GKey := by
  refine ⟨Try.eqGuardType60, ?_⟩
  intro a b w
  obtain ⟨a0, a1⟩ := a
  obtain ⟨b0, b1⟩ := b
  have hs : Try.prog.underlying 60 = some (.struct (Try.prog.fieldsOf 60)) := by kernel_rfl
  rw [run_equalIn_agg w 9999 60 _ _ hs Try.stoodInHeld60]
  simp only [Program.fieldsOf, Try.underlying60]
  simp [Op.eqFields, Flat.cells, part, Try.isAgg3, Try.isAgg4, run_equalIn_bool' _ _ _ _ _ Try.underlying4, run_equalIn_int _ _ _ _ _ _ _ Try.underlying3]
  cases h0 : decide (a0 = b0) <;> cases h1 : decide (a1 = b1) <;> simp_all
theorem ck60 : ∀ (n : Nat) (k : GKey) (b : Bool) (w : World), (Instr.checkKey b (n + 1 + 1) 60 (.agg (Flat.cells k).toArray)).run Try.prog w = .ok () w := by
  intro n k b w
  obtain ⟨k0, k1⟩ := k
  simp only [Instr.checkKey, Sem.run_bind, run_underlying Try.underlying60, Result.andThen_ok]
  simp [Flat.cells, part, Try.isAgg3, Try.isAgg4]
theorem st60 : ∀ (n : Nat) (k : GKey), Instr.sameBits (n + 1) (.agg (Flat.cells k).toArray) (.agg (Flat.cells k).toArray) = true := by
  intro n k
  obtain ⟨k0, k1⟩ := k
  simp [Instr.sameBits, Flat.cells]
theorem key60 : KeyT Try.prog 60 GKey := KeyT.struct Try.underlying60 (fun k b w => ck60 9998 k b w) (fun a b w => eq60.2 a b w) (fun k => st60 9999 k)
theorem ze3 : ZeroT Try.prog 3 (.int .i64 (0)) := ZeroT.mk (by kernel_rfl)
theorem sc3 : ScalarT Try.prog 3 := ScalarT.mk Try.underlying3 rfl
theorem sz32 : SizeT Try.prog 32 3 := SizeT.mk (by kernel_rfl)
theorem ag32 : AggT Try.prog 32 3 := AggT.mk Try.underlying32 rfl (by kernel_rfl)
theorem fd32_0 : FieldT Try.prog 32 0 0 := FieldT.mk (k := 1) Try.underlying32 rfl rfl (by kernel_rfl) (by decide)
theorem fd32_2 : FieldT Try.prog 32 2 2 := FieldT.mk (k := 1) Try.underlying32 rfl rfl (by kernel_rfl) (by decide)
theorem ze60 : ZeroT Try.prog 60 (.agg #[(.int .i64 (0)), (.bool false)]) := ZeroT.mk (by kernel_rfl)
theorem fd32_1 : FieldT Try.prog 32 1 1 := FieldT.mk (k := 1) Try.underlying32 rfl rfl (by kernel_rfl) (by decide)
theorem sc4 : ScalarT Try.prog 4 := ScalarT.mk Try.underlying4 rfl
theorem sz60 : SizeT Try.prog 60 2 := SizeT.mk (by kernel_rfl)
theorem ag60 : AggT Try.prog 60 2 := AggT.mk Try.underlying60 rfl (by kernel_rfl)
theorem ze32 : ZeroT Try.prog 32 (.agg #[(.int .i64 (0)), (.bool false), (.int .i64 (0))]) := ZeroT.mk (by kernel_rfl)
theorem fol : Try.prog.follows .mixedOrders = true := by kernel_rfl
theorem ze4 : ZeroT Try.prog 4 (.bool false) := ZeroT.mk (by kernel_rfl)
theorem el3 : ElemT Try.prog 3 1 8 := ElemT.mk (z := (.int .i64 (0))) (by kernel_rfl) rfl
theorem sz3 : SizeT Try.prog 3 1 := SizeT.mk (by kernel_rfl)
theorem bd32_0_2 : ∀ (v0 : Int) (v2 : Int) (w : World), (Instr.build 32 #[(0, (.int .i64 v0)), (2, (.int .i64 v2))]).run Try.prog w = .ok (.agg #[(.int .i64 v0), (.bool false), (.int .i64 v2)]) w := by
  intro v0 v2 w
  simp [Instr.build, Try.zeroValue32, Try.runUnderlying32, Instr.fill, Try.sizeOf3, Try.sizeOf4, Value.cells]
theorem bd32_0_1_2 : ∀ (v0 : Int) (v1 : Bool) (v2 : Int) (w : World), (Instr.build 32 #[(0, (.int .i64 v0)), (1, (.bool v1)), (2, (.int .i64 v2))]).run Try.prog w = .ok (.agg #[(.int .i64 v0), (.bool v1), (.int .i64 v2)]) w := by
  intro v0 v1 v2 w
  simp [Instr.build, Try.zeroValue32, Try.runUnderlying32, Instr.fill, Try.sizeOf3, Try.sizeOf4, Value.cells]
theorem el32 : ElemT Try.prog 32 3 24 := ElemT.mk (z := (.agg #[(.int .i64 (0)), (.bool false), (.int .i64 (0))])) (by kernel_rfl) rfl
theorem zel32 : ZElemT Try.prog 32 ((GEntry.mk 0 false 0) : GEntry) 24 := ZElemT.mk (z := (.agg #[(.int .i64 (0)), (.bool false), (.int .i64 (0))])) (by kernel_rfl) rfl
theorem sz22 : SizeT Try.prog 22 1 := SizeT.mk (by kernel_rfl)
theorem sc22 : ScalarT Try.prog 22 := ScalarT.mk Try.underlying22 rfl
theorem el22 : ElemT Try.prog 22 1 24 := ElemT.mk (z := (.slice none 0 0)) (by kernel_rfl) rfl
theorem eq32 : EqT Try.prog 32 GEntry := by
  refine ⟨Try.eqGuardType32, ?_⟩
  intro a b w
  obtain ⟨a0, a1, a2⟩ := a
  obtain ⟨b0, b1, b2⟩ := b
  have hs : Try.prog.underlying 32 = some (.struct (Try.prog.fieldsOf 32)) := by kernel_rfl
  rw [run_equalIn_agg w 9999 32 _ _ hs Try.stoodInHeld32]
  simp only [Program.fieldsOf, Try.underlying32]
  simp [Op.eqFields, Flat.cells, part, Try.isAgg3, Try.isAgg4, run_equalIn_bool' _ _ _ _ _ Try.underlying4, run_equalIn_int _ _ _ _ _ _ _ Try.underlying3]
  cases h0 : decide (a0 = b0) <;> cases h1 : decide (a1 = b1) <;> cases h2 : decide (a2 = b2) <;> simp_all
theorem ze94 : ZeroT Try.prog 94 (.map none) := ZeroT.mk (by kernel_rfl)
theorem sz94 : SizeT Try.prog 94 1 := SizeT.mk (by kernel_rfl)
theorem sc57 : ScalarT Try.prog 57 := ScalarT.mk Try.underlying57 rfl
theorem sc94 : ScalarT Try.prog 94 := ScalarT.mk Try.underlying94 rfl
theorem fd60_0 : FieldT Try.prog 60 0 0 := FieldT.mk (k := 1) Try.underlying60 rfl rfl (by kernel_rfl) (by decide)
theorem key3 : KeyT Try.prog 3 Int := KeyT.int Try.underlying3
theorem ze39 : ZeroT Try.prog 39 (.slice none 0 0) := ZeroT.mk (by kernel_rfl)
theorem sc68 : ScalarT Try.prog 68 := ScalarT.mk Try.underlying68 rfl
theorem sc39 : ScalarT Try.prog 39 := ScalarT.mk Try.underlying39 rfl
theorem sz39 : SizeT Try.prog 39 1 := SizeT.mk (by kernel_rfl)
theorem fd60_1 : FieldT Try.prog 60 1 1 := FieldT.mk (k := 1) Try.underlying60 rfl rfl (by kernel_rfl) (by decide)
theorem fd117_0 : FieldT Try.prog 117 0 0 := FieldT.mk (k := 1) Try.underlying117 rfl rfl (by kernel_rfl) (by decide)
theorem fd117_1 : FieldT Try.prog 117 1 1 := FieldT.mk (k := 1) Try.underlying117 rfl rfl (by kernel_rfl) (by decide)
theorem fd52_1 : FieldT Try.prog 52 1 1 := FieldT.mk (k := 1) Try.underlying52 rfl rfl (by kernel_rfl) (by decide)
theorem fd52_0 : FieldT Try.prog 52 0 0 := FieldT.mk (k := 1) Try.underlying52 rfl rfl (by kernel_rfl) (by decide)
theorem ze52 : ZeroT Try.prog 52 (.agg #[(.int .i64 (0)), (.int .i64 (0))]) := ZeroT.mk (by kernel_rfl)
theorem bd117_0_1 : ∀ (v0 : Int) (v1 : Int) (w : World), (Instr.build 117 #[(0, (.int .i64 v0)), (1, (.int .i64 v1))]).run Try.prog w = .ok (.agg #[(.int .i64 v0), (.int .i64 v1)]) w := by
  intro v0 v1 w
  simp [Instr.build, Try.zeroValue117, Try.runUnderlying117, Instr.fill, Try.sizeOf3, Value.cells]
theorem ze117 : ZeroT Try.prog 117 (.agg #[(.int .i64 (0)), (.int .i64 (0))]) := ZeroT.mk (by kernel_rfl)
theorem sz117 : SizeT Try.prog 117 2 := SizeT.mk (by kernel_rfl)
theorem bd52_0_1 : ∀ (v0 : Int) (v1 : Int) (w : World), (Instr.build 52 #[(0, (.int .i64 v0)), (1, (.int .i64 v1))]).run Try.prog w = .ok (.agg #[(.int .i64 v0), (.int .i64 v1)]) w := by
  intro v0 v1 w
  simp [Instr.build, Try.zeroValue52, Try.runUnderlying52, Instr.fill, Try.sizeOf3, Value.cells]
theorem sz52 : SizeT Try.prog 52 2 := SizeT.mk (by kernel_rfl)
theorem ag52 : AggT Try.prog 52 2 := AggT.mk Try.underlying52 rfl (by kernel_rfl)
theorem bd52_ : ∀  (w : World), (Instr.build 52 #[]).run Try.prog w = .ok (.agg #[(.int .i64 0), (.int .i64 0)]) w := by
  intro  w
  simp [Instr.build, Try.zeroValue52, Try.runUnderlying52, Instr.fill, Try.sizeOf3, Value.cells]
theorem eq52 : EqT Try.prog 52 GRatio := by
  refine ⟨Try.eqGuardType52, ?_⟩
  intro a b w
  obtain ⟨a0, a1⟩ := a
  obtain ⟨b0, b1⟩ := b
  have hs : Try.prog.underlying 52 = some (.struct (Try.prog.fieldsOf 52)) := by kernel_rfl
  rw [run_equalIn_agg w 9999 52 _ _ hs Try.stoodInHeld52]
  simp only [Program.fieldsOf, Try.underlying52]
  simp [Op.eqFields, Flat.cells, part, Try.isAgg3, run_equalIn_int _ _ _ _ _ _ _ Try.underlying3]
  cases h0 : decide (a0 = b0) <;> cases h1 : decide (a1 = b1) <;> simp_all
theorem c_noongunlaw09_fit {w0 : World} (va0 : Value) (a0 : (List GEntry)) (ha0 : SliceR w0 va0 a0) {r0 : Bool} (hm : noongunlaw09_fit a0 = some r0) :
    Calls Try.prog 12 #[va0] w0 (Ret w0 fun _ v => v = (.bool r0)) := by
  unfold noongunlaw09_fit at hm
  refine calls_of_W Try.func12 rfl Try.ntmps12 (Nat.le_of_ble_eq_true rfl) ?_
  have H := Inv.start (w := w0)
  refine W.seq ?_
  refine W.region ?_
  refine O.assign (v := (.bool false)) rfl rfl rfl ?_
  refine WL.nil ?_
  refine W.seq ?_
  refine W.region ?_
  refine O.move (v := va0) rfl rfl rfl ?_
  refine O.lenS Try.underlying22 (H.arg ha0) rfl rfl rfl ?_
  refine O.leq rfl rfl rfl rfl ?_
  refine O.move (v := (.bool (decide (((a0.length : Nat) : Int) ≤ 30)))) rfl rfl rfl ?_
  refine WL.cut 9 (fun f w => f 15 = .bool ((decide (((a0.length : Nat) : Int) ≤ 30)) || ((decide (1000 ≤ ((a0.length : Nat) : Int))) && (decide (((a0.length : Nat) : Int) ≤ 1003)))) ∧ Inv w0 w []) ?_ ?_
  · skip
    rcases bool_ft (decide (((a0.length : Nat) : Int) ≤ 30)) with hc1 | hc1
    · skip
      refine WL.reset (i := 6) (v := .bool false) (congrArg Value.bool hc1) ?_
      refine O.move (v := va0) rfl rfl rfl ?_
      refine O.lenS Try.underlying22 (H.arg ha0) rfl rfl rfl ?_
      refine O.geq rfl rfl rfl rfl ?_
      refine O.move (v := (.bool (decide (1000 ≤ ((a0.length : Nat) : Int))))) rfl rfl rfl ?_
      refine WL.cut 4 (fun f w => f 6 = (.bool false) ∧ f 14 = .bool ((decide (1000 ≤ ((a0.length : Nat) : Int))) && (decide (((a0.length : Nat) : Int) ≤ 1003))) ∧ Inv w0 w []) ?_ ?_
      · skip
        rcases bool_ft (decide (1000 ≤ ((a0.length : Nat) : Int))) with hc2 | hc2
        · skip
          refine WL.reset (i := 10) (v := .bool false) (congrArg Value.bool hc2) ?_
          refine O.skip rfl rfl ?_
          refine O.skip rfl rfl ?_
          refine O.skip rfl rfl ?_
          refine O.pick_false (v := (.bool false)) rfl rfl rfl rfl ?_
          refine WL.nil ?_
          exact ⟨rfl, congrArg Value.bool (and_f hc2), H⟩
        · skip
          refine WL.reset (i := 10) (v := .bool true) (congrArg Value.bool hc2) ?_
          refine O.move (v := va0) rfl rfl rfl ?_
          refine O.lenS Try.underlying22 (H.arg ha0) rfl rfl rfl ?_
          refine O.leq rfl rfl rfl rfl ?_
          refine O.pick_true (v := (.bool (decide (((a0.length : Nat) : Int) ≤ 1003)))) rfl rfl rfl rfl ?_
          refine WL.nil ?_
          exact ⟨rfl, congrArg Value.bool (and_t hc2), H⟩
      · skip
        rintro f w ⟨hf6, hf14, H⟩
        obtain ⟨u1, rfl⟩ : ∃ u1, f = (upd (upd u1 6 (.bool false)) 14 (.bool ((decide (1000 ≤ ((a0.length : Nat) : Int))) && (decide (((a0.length : Nat) : Int) ≤ 1003))))) := ⟨f, by rw [upd_self hf6, upd_self hf14]⟩
        refine O.pick_false (v := (.bool ((decide (1000 ≤ ((a0.length : Nat) : Int))) && (decide (((a0.length : Nat) : Int) ≤ 1003))))) rfl rfl rfl rfl ?_
        refine WL.nil ?_
        exact ⟨congrArg Value.bool (or_f hc1), H⟩
    · skip
      refine WL.reset (i := 6) (v := .bool true) (congrArg Value.bool hc1) ?_
      refine O.skip rfl rfl ?_
      refine O.skip rfl rfl ?_
      refine O.skip rfl rfl ?_
      refine O.skip rfl rfl ?_
      refine O.skip rfl rfl ?_
      refine O.skip rfl rfl ?_
      refine O.skip rfl rfl ?_
      refine O.skip rfl rfl ?_
      refine O.pick_true (v := (.bool true)) rfl rfl rfl rfl ?_
      refine WL.nil ?_
      exact ⟨congrArg Value.bool (or_t hc1), H⟩
  · skip
    rintro f w ⟨hf15, H⟩
    obtain ⟨u2, rfl⟩ : ∃ u2, f = (upd u2 15 (.bool ((decide (((a0.length : Nat) : Int) ≤ 30)) || ((decide (1000 ≤ ((a0.length : Nat) : Int))) && (decide (((a0.length : Nat) : Int) ≤ 1003)))))) := ⟨f, by rw [upd_self hf15]⟩
    refine O.assign (v := (.bool ((decide (((a0.length : Nat) : Int) ≤ 30)) || ((decide (1000 ≤ ((a0.length : Nat) : Int))) && (decide (((a0.length : Nat) : Int) ≤ 1003)))))) rfl rfl rfl ?_
    refine WL.nil ?_
    refine W.ret ?_
    have hq : ((decide (((a0.length : Nat) : Int) ≤ 30)) || ((decide (1000 ≤ ((a0.length : Nat) : Int))) && (decide (((a0.length : Nat) : Int) ≤ 1003)))) = r0 := Option.some.inj (show some ((decide (((a0.length : Nat) : Int) ≤ 30)) || ((decide (1000 ≤ ((a0.length : Nat) : Int))) && (decide (((a0.length : Nat) : Int) ≤ 1003)))) = some r0 from hm)
    subst hq
    exact ends1 Try.results12 rfl ⟨_, rfl, H.base, rfl⟩

theorem c_ledger_page_off {w0 : World} (va0 : Value) (a0 : (List (GKey × Int))) (ha0 : MapR w0 va0 a0) (a1 : Int) {r0 : Int} {r1 : Bool} (hm : ledger_page_off a0 a1 = some (r0, r1)) :
    Calls Try.prog 60 #[va0, (.int .i64 a1)] w0 (Ret w0 fun _ v => v = .tuple #[(.int .i64 r0), (.bool r1)]) := by
  unfold ledger_page_off at hm
  refine calls_of_W Try.func60 rfl Try.ntmps60 (Nat.le_of_ble_eq_true rfl) ?_
  have H := Inv.start (w := w0)
  refine W.seq ?_
  refine W.region ?_
  refine O.assign (v := (.int .i64 0)) rfl rfl rfl ?_
  refine O.assign (v := (.bool false)) rfl rfl rfl ?_
  refine WL.nil ?_
  refine W.seq ?_
  refine W.region ?_
  refine O.move (v := va0) rfl rfl rfl ?_
  refine O.move (v := (.int .i64 a1)) rfl rfl rfl ?_
  refine O.build (v := (.agg (Flat.cells (GKey.mk a1 false)).toArray)) (fun w => bd60_0_1 _ _ w) rfl rfl rfl ?_
  refine O.lookup2 (z := 0) (GKey.mk a1 false) Try.underlying57 key60 ze3 (H.argM ha0) rfl rfl rfl rfl ?_
  refine O.move (v := (.tuple #[(.int .i64 ((mget a0 (GKey.mk a1 false)).getD 0)), (.bool (mget a0 (GKey.mk a1 false)).isSome)])) rfl rfl rfl ?_
  refine O.extract (v := (.int .i64 ((mget a0 (GKey.mk a1 false)).getD 0))) rfl rfl rfl rfl ?_
  refine O.extract (v := (.bool (mget a0 (GKey.mk a1 false)).isSome)) rfl rfl rfl rfl ?_
  refine O.assign (v := (.int .i64 ((mget a0 (GKey.mk a1 false)).getD 0))) rfl rfl rfl ?_
  refine O.assign (v := (.bool (mget a0 (GKey.mk a1 false)).isSome)) rfl rfl rfl ?_
  refine WL.nil ?_
  refine W.seq ?_
  refine W.region ?_
  refine O.move (v := va0) rfl rfl rfl ?_
  refine O.move (v := (.int .i64 a1)) rfl rfl rfl ?_
  refine O.build (v := (.agg (Flat.cells (GKey.mk a1 true)).toArray)) (fun w => bd60_0_1 _ _ w) rfl rfl rfl ?_
  refine O.lookup2 (z := 0) (GKey.mk a1 true) Try.underlying57 key60 ze3 (H.argM ha0) rfl rfl rfl rfl ?_
  refine O.move (v := (.tuple #[(.int .i64 ((mget a0 (GKey.mk a1 true)).getD 0)), (.bool (mget a0 (GKey.mk a1 true)).isSome)])) rfl rfl rfl ?_
  refine O.extract (v := (.int .i64 ((mget a0 (GKey.mk a1 true)).getD 0))) rfl rfl rfl rfl ?_
  refine O.extract (v := (.bool (mget a0 (GKey.mk a1 true)).isSome)) rfl rfl rfl rfl ?_
  refine O.assign (v := (.int .i64 ((mget a0 (GKey.mk a1 true)).getD 0))) rfl rfl rfl ?_
  refine O.assign (v := (.bool (mget a0 (GKey.mk a1 true)).isSome)) rfl rfl rfl ?_
  refine WL.nil ?_
  refine W.seq ?_
  refine W.region ?_
  refine O.move (v := (.int .i64 ((mget a0 (GKey.mk a1 true)).getD 0))) rfl rfl rfl ?_
  refine O.move (v := (.int .i64 ((mget a0 (GKey.mk a1 false)).getD 0))) rfl rfl rfl ?_
  obtain ⟨t1, ht1, hm⟩ := bind_some hm
  refine O.sub rfl rfl rfl rfl ht1 ?_
  refine O.move (v := (.bool (mget a0 (GKey.mk a1 false)).isSome)) rfl rfl rfl ?_
  refine O.move (v := (.bool (mget a0 (GKey.mk a1 false)).isSome)) rfl rfl rfl ?_
  refine WL.cut 2 (fun f w => f 26 = (.int .i64 t1) ∧ f 30 = .bool ((mget a0 (GKey.mk a1 false)).isSome && (mget a0 (GKey.mk a1 true)).isSome) ∧ Inv w0 w []) ?_ ?_
  · skip
    rcases bool_ft (mget a0 (GKey.mk a1 false)).isSome with hc1 | hc1
    · skip
      refine WL.reset (i := 28) (v := .bool false) (congrArg Value.bool hc1) ?_
      refine O.skip rfl rfl ?_
      refine O.pick_false (v := (.bool false)) rfl rfl rfl rfl ?_
      refine WL.nil ?_
      exact ⟨rfl, congrArg Value.bool (and_f hc1), H⟩
    · skip
      refine WL.reset (i := 28) (v := .bool true) (congrArg Value.bool hc1) ?_
      refine O.move (v := (.bool (mget a0 (GKey.mk a1 true)).isSome)) rfl rfl rfl ?_
      refine O.pick_true (v := (.bool (mget a0 (GKey.mk a1 true)).isSome)) rfl rfl rfl rfl ?_
      refine WL.nil ?_
      exact ⟨rfl, congrArg Value.bool (and_t hc1), H⟩
  · skip
    rintro f w ⟨hf26, hf30, H⟩
    obtain ⟨u1, rfl⟩ : ∃ u1, f = (upd (upd u1 26 (.int .i64 t1)) 30 (.bool ((mget a0 (GKey.mk a1 false)).isSome && (mget a0 (GKey.mk a1 true)).isSome))) := ⟨f, by rw [upd_self hf26, upd_self hf30]⟩
    refine O.assign (v := (.int .i64 t1)) rfl rfl rfl ?_
    refine O.assign (v := (.bool ((mget a0 (GKey.mk a1 false)).isSome && (mget a0 (GKey.mk a1 true)).isSome))) rfl rfl rfl ?_
    refine WL.nil ?_
    refine W.ret ?_
    have hq : (t1, ((mget a0 (GKey.mk a1 false)).isSome && (mget a0 (GKey.mk a1 true)).isSome)) = (r0, r1) := Option.some.inj (show some (t1, ((mget a0 (GKey.mk a1 false)).isSome && (mget a0 (GKey.mk a1 true)).isSome)) = some (r0, r1) from hm)
    obtain ⟨he0, hq0⟩ := Prod.mk.inj hq; clear hq; subst he0
    subst hq0
    exact ends2 Try.results60 rfl rfl ⟨_, rfl, H.base, rfl⟩

theorem c_ledger_Off_c1 {w0 : World} (va0 : Value) (a0 : (List (GKey × Int))) (ha0 : MapR w0 va0 a0) (pc0 : Addr) (c0 : Int) (hc0 : ∀ j c, (Flat.cells c0)[j]? = some c → w0.cell? (pc0.add j) = some c) {r0 : Int} {r1 : Bool} (hm : ledger_Off_c1 a0 c0 = some (r0, r1)) :
    Calls Try.prog 59 #[va0, (.pointer (some pc0))] w0 (Ret w0 fun _ v => v = .tuple #[(.int .i64 r0), (.bool r1)]) := by
  unfold ledger_Off_c1 at hm
  refine calls_of_W Try.func59 rfl Try.ntmps59 (Nat.le_of_ble_eq_true rfl) ?_
  have H := Inv.start (w := w0)
  refine W.seq ?_
  refine W.region ?_
  refine O.assign (v := (.int .i64 0)) rfl rfl rfl ?_
  refine O.assign (v := (.bool false)) rfl rfl rfl ?_
  refine WL.nil ?_
  refine W.seq ?_
  refine W.region ?_
  refine O.move (v := va0) rfl rfl rfl ?_
  refine O.load sc3 rfl rfl rfl (cells_mono hc0 H.base 0 _ rfl) ?_
  obtain ⟨⟨t1, t2⟩, hy1, hm⟩ := bind_some hm
  refine O.call Try.call60 rfl rfl rfl (c_ledger_page_off _ _ (H.argM ha0) _ hy1) ?_
  rintro _ w1 hb1 rfl
  have H := H.ext hb1
  refine O.extract (v := (.int .i64 t1)) rfl rfl rfl rfl ?_
  refine O.extract (v := (.bool t2)) rfl rfl rfl rfl ?_
  refine O.assign (v := (.int .i64 t1)) rfl rfl rfl ?_
  refine O.assign (v := (.bool t2)) rfl rfl rfl ?_
  refine WL.nil ?_
  refine W.ret ?_
  have hq : (t1, t2) = (r0, r1) := Option.some.inj (show some (t1, t2) = some (r0, r1) from hm)
  obtain ⟨he0, hq0⟩ := Prod.mk.inj hq; clear hq; subst he0
  subst hq0
  exact ends2 Try.results59 rfl rfl ⟨_, rfl, H.base, rfl⟩

theorem c_slices_IndexFunc_Entry {w0 : World} (va0 : Value) (a0 : (List GEntry)) (ha0 : SliceR w0 va0 a0) (va1 : Value) (a1 : GEntry → Option (Bool)) (ha1 : ∀ (w : World), Below w0.heap.size w0 w → ∀ (x0 : GEntry) (y0 : Bool), a1 x0 = some y0 → CallsV Try.prog va1 #[(.agg (Flat.cells x0).toArray)] w (Ret w fun _ v => v = (.bool y0))) (_   : Value.oneCell' va1 = true) {r0 : Int} (hm : slices_IndexFunc_Entry a0 a1 = some r0) :
    Calls Try.prog 89 #[va0, va1] w0 (Ret w0 fun _ v => v = (.int .i64 r0)) := by
  unfold slices_IndexFunc_Entry at hm
  refine calls_of_W Try.func89 rfl Try.ntmps89 (Nat.le_of_ble_eq_true rfl) ?_
  have H := Inv.start (w := w0)
  refine W.seq ?_
  refine W.region ?_
  refine O.assign (v := (.int .i64 0)) rfl rfl rfl ?_
  refine WL.nil ?_
  refine W.seq ?_
  refine W.seq ?_
  refine W.region ?_
  refine O.move (v := va0) rfl rfl rfl ?_
  refine O.lenS Try.underlying22 (H.arg ha0) rfl rfl rfl ?_
  refine O.move (v := (.int .i64 0)) rfl rfl rfl ?_
  refine WL.nil ?_
  obtain ⟨o1, hm1, hm⟩ := bind_some hm
  refine W.via (fun f w => o1 = .next () ∧ Inv w0 w []) ?_ ?_
  · skip
    refine W.block ?_
    have hbdik1 := (H.arg ha0).len_le
    refine W.rangeN (i := 0) hm1 (fun rem ik1 s f w => () = s ∧ (ik1 : Int) + rem = max 0 ((a0.length : Nat) : Int) ∧ f 8 = .int .i64 (ik1 : Int) ∧ f 7 = (.int .i64 ((a0.length : Nat) : Int)) ∧ f 0 = va0 ∧ f 1 = va1 ∧ Inv w0 w []) ?_ ?_ ?_
    · skip
      exact ⟨rfl, rangeN_start, rfl, rfl, rfl, rfl, H⟩
    · skip
      rintro k ik1 _ st f w ⟨rfl, hdropk1, hf8, hf7, hf0, hf1, H⟩ hm2
      have hltk1 := rangeN_lt hdropk1
      obtain ⟨u1, rfl⟩ : ∃ u1, f = (upd (upd (upd (upd u1 8 (.int .i64 (ik1 : Int))) 7 (.int .i64 ((a0.length : Nat) : Int))) 0 va0) 1 va1) := ⟨f, by rw [upd_self hf8, upd_self hf7, upd_self hf0, upd_self hf1]⟩
      have hinck1 := addI_lt hltk1 hbdik1
      refine W.seq ?_
      refine W.region ?_
      refine O.lss rfl rfl rfl rfl ?_
      refine WL.nil ?_
      refine W.seq ?_
      refine W.cond_true (congrArg Value.bool (decide_eq_true hltk1)) ?_
      refine W.skip ?_
      refine W.seq ?_
      refine W.block ?_
      refine W.seq ?_
      refine W.region ?_
      refine O.move (v := (.int .i64 (ik1 : Int))) rfl rfl rfl ?_
      refine O.assign (v := (.int .i64 (ik1 : Int))) rfl rfl rfl ?_
      refine WL.nil ?_
      refine W.seq ?_
      refine W.region ?_
      refine O.move (v := va1) rfl rfl rfl ?_
      refine O.move (v := va0) rfl rfl rfl ?_
      refine O.move (v := (.int .i64 (ik1 : Int))) rfl rfl rfl ?_
      obtain ⟨x1, hx1, hm2⟩ := bind_some hm2
      obtain ⟨p1, hp1, hrp1⟩ := fix_indexAddr Try.underlying22 sz32 ha0 hx1
      refine hrp1 rfl rfl rfl rfl ?_
      refine O.loadA [(.int .i64 x1.Day), (.bool x1.Found), (.int .i64 x1.Error)] ag32 rfl rfl rfl rfl ((hp1.mono H.base).flat) ?_
      obtain ⟨t1, hy1, hm2⟩ := bind_some hm2
      refine O.callV rfl rfl rfl rfl (ha1 _ H.base x1 _ hy1) ?_
      rintro _ w1 hb1 rfl
      have H := H.ext hb1
      refine WL.nil ?_
      rcases ite_some hm2 with ⟨hc1, hm2⟩ | ⟨hc1, hm2⟩
      · refine W.cond_true (congrArg Value.bool hc1) ?_
        refine W.seq ?_
        refine W.region ?_
        refine O.move (v := (.int .i64 (ik1 : Int))) rfl rfl rfl ?_
        refine O.assign (v := (.int .i64 (ik1 : Int))) rfl rfl rfl ?_
        refine WL.nil ?_
        refine W.ret ?_
        obtain rfl := Option.some.inj hm2
        refine ⟨_, rfl, ?_⟩
        rintro rfl
        have hq : (ik1 : Int) = r0 := Option.some.inj (show some (ik1 : Int) = some r0 from hm)
        subst hq
        exact ends1 Try.results89 rfl ⟨_, rfl, H.base, rfl⟩
      · refine W.cond_false (congrArg Value.bool hc1) ?_
        refine W.skip ?_
        refine W.region ?_
        refine O.add rfl rfl rfl rfl hinck1 ?_
        refine O.move (v := .int .i64 ((ik1 : Int) + 1)) rfl rfl rfl ?_
        refine WL.nil ?_
        obtain rfl := Option.some.inj hm2
        exact ⟨_, rfl, rfl, rangeN_next hdropk1, rfl, rfl, rfl, rfl, H⟩
    · skip
      rintro ik1 _ f w ⟨rfl, hdropk1, hf8, hf7, hf0, hf1, H⟩ hfin
      have hltk1 := rangeN_end hdropk1
      obtain ⟨u2, rfl⟩ : ∃ u2, f = (upd (upd (upd (upd u2 8 (.int .i64 (ik1 : Int))) 7 (.int .i64 ((a0.length : Nat) : Int))) 0 va0) 1 va1) := ⟨f, by rw [upd_self hf8, upd_self hf7, upd_self hf0, upd_self hf1]⟩
      refine W.seq ?_
      refine W.region ?_
      refine O.lss rfl rfl rfl rfl ?_
      refine WL.nil ?_
      refine W.seq ?_
      refine W.cond_false (congrArg Value.bool (decide_eq_false hltk1)) ?_
      refine W.exit ?_
      obtain rfl : Ctl.next () = o1 := hfin
      refine xT rfl ?_
      exact ⟨rfl, H⟩
  · skip
    rintro f w ⟨rfl, H⟩
    refine W.seq ?_
    refine W.region ?_
    refine O.assign (v := (.int .i64 (-1))) rfl rfl rfl ?_
    refine WL.nil ?_
    refine W.ret ?_
    have hq : (-1) = r0 := Option.some.inj (show some (-1) = some r0 from hm)
    subst hq
    exact ends1 Try.results89 rfl ⟨_, rfl, H.base, rfl⟩

theorem c_slices_ContainsFunc_Entry {w0 : World} (va0 : Value) (a0 : (List GEntry)) (ha0 : SliceR w0 va0 a0) (va1 : Value) (a1 : GEntry → Option (Bool)) (ha1 : ∀ (w : World), Below w0.heap.size w0 w → ∀ (x0 : GEntry) (y0 : Bool), a1 x0 = some y0 → CallsV Try.prog va1 #[(.agg (Flat.cells x0).toArray)] w (Ret w fun _ v => v = (.bool y0))) (ka1 : Value.oneCell' va1 = true) {r0 : Bool} (hm : slices_ContainsFunc_Entry a0 a1 = some r0) :
    Calls Try.prog 62 #[va0, va1] w0 (Ret w0 fun _ v => v = (.bool r0)) := by
  unfold slices_ContainsFunc_Entry at hm
  refine calls_of_W Try.func62 rfl Try.ntmps62 (Nat.le_of_ble_eq_true rfl) ?_
  have H := Inv.start (w := w0)
  refine W.seq ?_
  refine W.region ?_
  refine O.assign (v := (.bool false)) rfl rfl rfl ?_
  refine WL.nil ?_
  refine W.seq ?_
  refine W.region ?_
  refine O.move (v := va0) rfl rfl rfl ?_
  refine O.move (v := va1) rfl rfl rfl ?_
  obtain ⟨t1, hy1, hm⟩ := bind_some hm
  refine O.call Try.call89 rfl rfl rfl (c_slices_IndexFunc_Entry _ _ (H.arg ha0) va1 a1 (fun w hw => ha1 w (H.base.trans (hw.mono H.base.size))) ka1 hy1) ?_
  rintro _ w1 hb1 rfl
  have H := H.ext hb1
  refine O.geq rfl rfl rfl rfl ?_
  refine O.assign (v := (.bool (decide (0 ≤ t1)))) rfl rfl rfl ?_
  refine WL.nil ?_
  refine W.ret ?_
  have hq : (decide (0 ≤ t1)) = r0 := Option.some.inj (show some (decide (0 ≤ t1)) = some r0 from hm)
  subst hq
  exact ends1 Try.results62 rfl ⟨_, rfl, H.base, rfl⟩

theorem c_ledger_within {w0 : World} (a0 : Int) (a1 : Int) (a2 : Int) {r0 : Bool} (hm : ledger_within a0 a1 a2 = some r0) :
    Calls Try.prog 71 #[(.int .i64 a0), (.int .i64 a1), (.int .i64 a2)] w0 (Ret w0 fun _ v => v = (.bool r0)) := by
  unfold ledger_within at hm
  refine calls_of_W Try.func71 rfl Try.ntmps71 (Nat.le_of_ble_eq_true rfl) ?_
  have H := Inv.start (w := w0)
  refine W.seq ?_
  refine W.region ?_
  refine O.assign (v := (.bool false)) rfl rfl rfl ?_
  refine WL.nil ?_
  refine W.seq ?_
  refine W.region ?_
  refine O.move (v := (.int .i64 a0)) rfl rfl rfl ?_
  refine O.move (v := (.int .i64 a1)) rfl rfl rfl ?_
  refine O.geq rfl rfl rfl rfl ?_
  refine O.move (v := (.bool (decide (a1 ≤ a0)))) rfl rfl rfl ?_
  refine WL.cut 4 (fun f w => f 14 = .bool ((decide (a1 ≤ a0)) && (decide (a0 ≤ a2))) ∧ Inv w0 w []) ?_ ?_
  · skip
    rcases bool_ft (decide (a1 ≤ a0)) with hc1 | hc1
    · skip
      refine WL.reset (i := 10) (v := .bool false) (congrArg Value.bool hc1) ?_
      refine O.skip rfl rfl ?_
      refine O.skip rfl rfl ?_
      refine O.skip rfl rfl ?_
      refine O.pick_false (v := (.bool false)) rfl rfl rfl rfl ?_
      refine WL.nil ?_
      exact ⟨congrArg Value.bool (and_f hc1), H⟩
    · skip
      refine WL.reset (i := 10) (v := .bool true) (congrArg Value.bool hc1) ?_
      refine O.move (v := (.int .i64 a0)) rfl rfl rfl ?_
      refine O.move (v := (.int .i64 a2)) rfl rfl rfl ?_
      refine O.leq rfl rfl rfl rfl ?_
      refine O.pick_true (v := (.bool (decide (a0 ≤ a2)))) rfl rfl rfl rfl ?_
      refine WL.nil ?_
      exact ⟨congrArg Value.bool (and_t hc1), H⟩
  · skip
    rintro f w ⟨hf14, H⟩
    obtain ⟨u1, rfl⟩ : ∃ u1, f = (upd u1 14 (.bool ((decide (a1 ≤ a0)) && (decide (a0 ≤ a2))))) := ⟨f, by rw [upd_self hf14]⟩
    refine O.assign (v := (.bool ((decide (a1 ≤ a0)) && (decide (a0 ≤ a2))))) rfl rfl rfl ?_
    refine WL.nil ?_
    refine W.ret ?_
    have hq : ((decide (a1 ≤ a0)) && (decide (a0 ≤ a2))) = r0 := Option.some.inj (show some ((decide (a1 ≤ a0)) && (decide (a0 ≤ a2))) = some r0 from hm)
    subst hq
    exact ends1 Try.results71 rfl ⟨_, rfl, H.base, rfl⟩

theorem c_ledger_fine {w0 : World} (a0 : GEntry) {r0 : Bool} (hm : ledger_fine a0 = some r0) :
    Calls Try.prog 64 #[(.agg (Flat.cells a0).toArray)] w0 (Ret w0 fun _ v => v = (.bool r0)) := by
  unfold ledger_fine at hm
  refine calls_of_W Try.func64 rfl Try.ntmps64 (Nat.le_of_ble_eq_true rfl) ?_
  have H := Inv.start (w := w0)
  refine W.seq ?_
  refine W.region ?_
  refine O.box [(.int .i64 a0.Day), (.bool a0.Found), (.int .i64 a0.Error)] H rfl rfl rfl rfl ?_
  intro b1 w1 H hb1
  refine O.assign (v := (.bool false)) rfl rfl rfl ?_
  refine WL.nil ?_
  refine W.seq ?_
  refine W.region ?_
  refine O.fieldAddr fd32_0 rfl rfl rfl ?_
  refine O.load sc3 rfl rfl rfl (H.cell 0 rfl 0 _ rfl) ?_
  obtain ⟨t1, hy1, hm⟩ := bind_some hm
  refine O.call Try.call71 rfl rfl rfl (c_ledger_within _ _ _ hy1) ?_
  rintro _ w2 hb2 rfl
  have H := H.ext hb2
  refine O.move (v := (.bool t1)) rfl rfl rfl ?_
  obtain ⟨b2, hm1, hm⟩ := bind_some hm
  refine WL.cut 4 (fun f w => f 10 = .bool b2 ∧ Inv w0 w [boxI b1 32 [(.int .i64 a0.Day), (.bool a0.Found), (.int .i64 a0.Error)]]) ?_ ?_
  · skip
    rcases ite_some hm1 with ⟨hc1, hm1⟩ | ⟨hc1, hm1⟩
    · skip
      refine WL.reset (i := 6) (v := .bool true) (congrArg Value.bool hc1) ?_
      refine O.fieldAddr fd32_2 rfl rfl rfl ?_
      refine O.load sc3 rfl rfl rfl (H.cell 0 rfl 2 _ rfl) ?_
      obtain ⟨t2, hy2, hm1⟩ := bind_some hm1
      refine O.call Try.call71 rfl rfl rfl (c_ledger_within _ _ _ hy2) ?_
      rintro _ w3 hb3 rfl
      have H := H.ext hb3
      refine O.pick_true (v := (.bool t2)) rfl rfl rfl rfl ?_
      refine WL.nil ?_
      have hq : t2 = b2 := Option.some.inj (show some t2 = some b2 from hm1)
      subst hq
      exact ⟨rfl, H⟩
    · skip
      refine WL.reset (i := 6) (v := .bool false) (congrArg Value.bool hc1) ?_
      refine O.skip rfl rfl ?_
      refine O.skip rfl rfl ?_
      refine O.skip rfl rfl ?_
      refine O.pick_false (v := (.bool false)) rfl rfl rfl rfl ?_
      refine WL.nil ?_
      have hq : false = b2 := Option.some.inj (show some false = some b2 from hm1)
      subst hq
      exact ⟨rfl, H⟩
  · skip
    rintro f w ⟨hf10, H⟩
    obtain ⟨u1, rfl⟩ : ∃ u1, f = (upd u1 10 (.bool b2)) := ⟨f, by rw [upd_self hf10]⟩
    refine O.assign (v := (.bool b2)) rfl rfl rfl ?_
    refine WL.nil ?_
    refine W.ret ?_
    have hq : b2 = r0 := Option.some.inj (show some b2 = some r0 from hm)
    subst hq
    exact ends1 Try.results64 rfl ⟨_, rfl, H.base, rfl⟩

theorem c_ledger_Valid_c1 {w0 : World} (a0 : GEntry) {r0 : Bool} (hm : ledger_Valid_c1 a0 = some r0) :
    Calls Try.prog 63 #[(.agg (Flat.cells a0).toArray)] w0 (Ret w0 fun _ v => v = (.bool r0)) := by
  unfold ledger_Valid_c1 at hm
  refine calls_of_W Try.func63 rfl Try.ntmps63 (Nat.le_of_ble_eq_true rfl) ?_
  have H := Inv.start (w := w0)
  refine W.seq ?_
  refine W.region ?_
  refine O.box [(.int .i64 a0.Day), (.bool a0.Found), (.int .i64 a0.Error)] H rfl rfl rfl rfl ?_
  intro b1 w1 H hb1
  refine O.assign (v := (.bool false)) rfl rfl rfl ?_
  refine WL.nil ?_
  refine W.seq ?_
  refine W.region ?_
  refine O.loadA [(.int .i64 a0.Day), (.bool a0.Found), (.int .i64 a0.Error)] ag32 rfl rfl rfl rfl (H.cell 0 rfl) ?_
  obtain ⟨t1, hy1, hm⟩ := bind_some hm
  refine O.call Try.call64 rfl rfl rfl (c_ledger_fine a0 hy1) ?_
  rintro _ w2 hb2 rfl
  have H := H.ext hb2
  refine O.not rfl rfl rfl ?_
  refine O.assign (v := (.bool (!t1))) rfl rfl rfl ?_
  refine WL.nil ?_
  refine W.ret ?_
  have hq : (!t1) = r0 := Option.some.inj (show some (!t1) = some r0 from hm)
  subst hq
  exact ends1 Try.results63 rfl ⟨_, rfl, H.base, rfl⟩

theorem c_ledger_Valid {w0 : World} (va0 : Value) (a0 : (List GEntry)) (ha0 : SliceR w0 va0 a0) {r0 : Bool} (hm : ledger_Valid a0 = some r0) :
    Calls Try.prog 20 #[va0] w0 (Ret w0 fun _ v => v = (.bool r0)) := by
  unfold ledger_Valid at hm
  refine calls_of_W Try.func20 rfl Try.ntmps20 (Nat.le_of_ble_eq_true rfl) ?_
  have H := Inv.start (w := w0)
  refine W.seq ?_
  refine W.region ?_
  refine O.assign (v := (.bool false)) rfl rfl rfl ?_
  refine WL.nil ?_
  refine W.seq ?_
  refine W.region ?_
  refine O.move (v := va0) rfl rfl rfl ?_
  refine O.lenS Try.underlying22 (H.arg ha0) rfl rfl rfl ?_
  refine O.leq rfl rfl rfl rfl ?_
  refine O.move (v := (.bool (decide (((a0.length : Nat) : Int) ≤ 1000)))) rfl rfl rfl ?_
  obtain ⟨b1, hm1, hm⟩ := bind_some hm
  refine WL.cut 4 (fun f w => f 10 = .bool b1 ∧ Inv w0 w []) ?_ ?_
  · skip
    rcases ite_some hm1 with ⟨hc1, hm1⟩ | ⟨hc1, hm1⟩
    · skip
      refine WL.reset (i := 6) (v := .bool true) (congrArg Value.bool hc1) ?_
      refine O.move (v := va0) rfl rfl rfl ?_
      obtain ⟨t1, hy1, hm1⟩ := bind_some hm1
      refine O.call Try.call62 rfl rfl rfl (c_slices_ContainsFunc_Entry _ _ (H.arg ha0) _ (fun x0 => ledger_Valid_c1 x0) (fun w hw x0 _ hy => callsV_mk Try.call63 (c_ledger_Valid_c1 x0 hy)) rfl hy1) ?_
      rintro _ w1 hb1 rfl
      have H := H.ext hb1
      refine O.not rfl rfl rfl ?_
      refine O.pick_true (v := (.bool (!t1))) rfl rfl rfl rfl ?_
      refine WL.nil ?_
      have hq : (!t1) = b1 := Option.some.inj (show some (!t1) = some b1 from hm1)
      subst hq
      exact ⟨rfl, H⟩
    · skip
      refine WL.reset (i := 6) (v := .bool false) (congrArg Value.bool hc1) ?_
      refine O.skip rfl rfl ?_
      refine O.skip rfl rfl ?_
      refine O.skip rfl rfl ?_
      refine O.pick_false (v := (.bool false)) rfl rfl rfl rfl ?_
      refine WL.nil ?_
      have hq : false = b1 := Option.some.inj (show some false = some b1 from hm1)
      subst hq
      exact ⟨rfl, H⟩
  · skip
    rintro f w ⟨hf10, H⟩
    obtain ⟨u1, rfl⟩ : ∃ u1, f = (upd u1 10 (.bool b1)) := ⟨f, by rw [upd_self hf10]⟩
    refine O.assign (v := (.bool b1)) rfl rfl rfl ?_
    refine WL.nil ?_
    refine W.ret ?_
    have hq : b1 = r0 := Option.some.inj (show some b1 = some r0 from hm)
    subst hq
    exact ends1 Try.results20 rfl ⟨_, rfl, H.base, rfl⟩

theorem c_ledger_isDay {w0 : World} (a0 : Int) {r0 : Bool} (hm : ledger_isDay a0 = some r0) :
    Calls Try.prog 66 #[(.int .i64 a0)] w0 (Ret w0 fun _ v => v = (.bool r0)) := by
  unfold ledger_isDay at hm
  refine calls_of_W Try.func66 rfl Try.ntmps66 (Nat.le_of_ble_eq_true rfl) ?_
  have H := Inv.start (w := w0)
  refine W.seq ?_
  refine W.region ?_
  refine O.assign (v := (.bool false)) rfl rfl rfl ?_
  refine WL.nil ?_
  refine W.seq ?_
  refine W.region ?_
  refine O.move (v := (.int .i64 a0)) rfl rfl rfl ?_
  obtain ⟨t1, hy1, hm⟩ := bind_some hm
  refine O.call Try.call71 rfl rfl rfl (c_ledger_within _ _ _ hy1) ?_
  rintro _ w1 hb1 rfl
  have H := H.ext hb1
  refine O.assign (v := (.bool t1)) rfl rfl rfl ?_
  refine WL.nil ?_
  refine W.ret ?_
  have hq : t1 = r0 := Option.some.inj (show some t1 = some r0 from hm)
  subst hq
  exact ends1 Try.results66 rfl ⟨_, rfl, H.base, rfl⟩

theorem c_ledger_of {w0 : World} (a0 : GEntry) {r0 : GKey} (hm : ledger_of a0 = some r0) :
    Calls Try.prog 72 #[(.agg (Flat.cells a0).toArray)] w0 (Ret w0 fun _ v => v = (.agg (Flat.cells r0).toArray)) := by
  unfold ledger_of at hm
  refine calls_of_W Try.func72 rfl Try.ntmps72 (Nat.le_of_ble_eq_true rfl) ?_
  have H := Inv.start (w := w0)
  refine W.seq ?_
  refine W.region ?_
  refine O.box [(.int .i64 a0.Day), (.bool a0.Found), (.int .i64 a0.Error)] H rfl rfl rfl rfl ?_
  intro b1 w1 H hb1
  refine O.alloc [(.int .i64 0), (.bool false)] ze60 H rfl rfl rfl ?_
  intro b2 w2 H hb2
  refine WL.nil ?_
  refine W.seq ?_
  refine W.region ?_
  refine O.fieldAddr fd32_0 rfl rfl rfl ?_
  refine O.load sc3 rfl rfl rfl (H.cell 0 rfl 0 _ rfl) ?_
  refine O.fieldAddr fd32_1 rfl rfl rfl ?_
  refine O.load sc4 rfl rfl rfl (H.cell 0 rfl 1 _ rfl) ?_
  refine O.build (v := (.agg (Flat.cells (GKey.mk a0.Day a0.Found)).toArray)) (fun w => bd60_0_1 _ _ w) rfl rfl rfl ?_
  refine O.store 1 0 [(.int .i64 a0.Day), (.bool a0.Found)] [(.int .i64 a0.Day), (.bool a0.Found)] sz60 H rfl rfl rfl rfl rfl rfl ⟨⟨rfl, rfl⟩, rfl⟩ (one_cons rfl (one_cons rfl one_nil)) ?_
  intro w3 H
  refine WL.nil ?_
  refine W.ret ?_
  have hq : (GKey.mk a0.Day a0.Found) = r0 := Option.some.inj (show some (GKey.mk a0.Day a0.Found) = some r0 from hm)
  subst hq
  exact ends1 Try.results72 ⟨_, rfl, run_loadVar_agg ag60 rfl (H.cell 1 rfl)⟩ ⟨_, rfl, H.base, rfl⟩

theorem c_ledger_pageOf {w0 : World} (va0 : Value) (a0 : (List GEntry)) (ha0 : SliceR w0 va0 a0) {r0 : (List (GKey × Int))} (hm : ledger_pageOf a0 = some r0) :
    Calls Try.prog 67 #[va0] w0 (Ret w0 fun w v => OwnM w0 w v r0) := by
  unfold ledger_pageOf at hm
  refine calls_of_W Try.func67 rfl Try.ntmps67 (Nat.le_of_ble_eq_true rfl) ?_
  have H := Inv.start (w := w0)
  refine W.seq ?_
  refine W.region ?_
  refine O.assign (v := (.map none)) rfl rfl rfl ?_
  refine WL.nil ?_
  refine W.seq ?_
  refine W.region ?_
  refine O.makeMap (α := GKey) (β := Int) H rfl rfl ?_
  intro m1 w1 H hb1
  refine O.assign (v := (.map (some m1))) rfl rfl rfl ?_
  refine WL.nil ?_
  refine W.seq ?_
  refine W.seq ?_
  refine W.region ?_
  refine O.move (v := va0) rfl rfl rfl ?_
  refine O.lenS Try.underlying22 (H.arg ha0) rfl rfl rfl ?_
  refine O.move (v := (.int .i64 0)) rfl rfl rfl ?_
  refine WL.nil ?_
  obtain ⟨s1, hm1, hm⟩ := bind_some hm
  refine W.via (fun f w => f 3 = (.map (some m1)) ∧ Inv w0 w [mapI (K := GKey) (V := Int) m1 s1]) ?_ ?_
  · skip
    refine W.block ?_
    refine W.rangeL (i := 0) hm1 (fun rem ik1 s f w => ∃ z2 : (List (GKey × Int)), z2 = s ∧ a0.drop ik1 = rem ∧ f 9 = .int .i64 (ik1 : Int) ∧ f 8 = (.int .i64 ((a0.length : Nat) : Int)) ∧ f 3 = (.map (some m1)) ∧ f 7 = va0 ∧ Inv w0 w [mapI (K := GKey) (V := Int) m1 z2]) ?_ ?_ ?_
    · skip
      exact ⟨_, rfl, List.drop_zero, rfl, rfl, rfl, rfl, H⟩
    · skip
      rintro yk1 xs ik1 _ st f w ⟨z2, rfl, hdropk1, hf9, hf8, hf3, hf7, H⟩ hm2
      have hltk1 := drop_lt hdropk1; have hixk1 := drop_idx hdropk1
      obtain ⟨u1, rfl⟩ : ∃ u1, f = (upd (upd (upd (upd u1 9 (.int .i64 (ik1 : Int))) 8 (.int .i64 ((a0.length : Nat) : Int))) 3 (.map (some m1))) 7 va0) := ⟨f, by rw [upd_self hf9, upd_self hf8, upd_self hf3, upd_self hf7]⟩
      have hinck1 := addI_lt hltk1 (H.arg ha0).len_le
      refine W.seq ?_
      refine W.region ?_
      refine O.lss rfl rfl rfl rfl ?_
      refine WL.nil ?_
      refine W.seq ?_
      refine W.cond_true (congrArg Value.bool (decide_eq_true hltk1)) ?_
      refine W.skip ?_
      refine W.seq ?_
      refine W.block ?_
      refine W.seq ?_
      refine W.region ?_
      obtain ⟨p1, hp1, hrp1⟩ := fix_indexAddr Try.underlying22 sz32 ha0 hixk1
      refine hrp1 rfl rfl rfl rfl ?_
      refine O.loadA [(.int .i64 yk1.Day), (.bool yk1.Found), (.int .i64 yk1.Error)] ag32 rfl rfl rfl rfl ((hp1.mono H.base).flat) ?_
      refine O.alloc [(.int .i64 0), (.bool false), (.int .i64 0)] ze32 H rfl rfl rfl ?_
      intro b1 w2 H hb2
      refine O.store 1 0 [(.int .i64 yk1.Day), (.bool yk1.Found), (.int .i64 yk1.Error)] [(.int .i64 yk1.Day), (.bool yk1.Found), (.int .i64 yk1.Error)] sz32 H rfl rfl rfl rfl rfl rfl ⟨⟨rfl, rfl⟩, rfl⟩ (one_cons rfl (one_cons rfl (one_cons rfl one_nil))) ?_
      intro w3 H
      refine WL.nil ?_
      obtain ⟨t1, hy1, hm2⟩ := bind_some hm2
      refine W.drawN 5 (fun f => f 3 = (.map (some m1)) ∧ f 7 = va0 ∧ f 8 = (.int .i64 ((a0.length : Nat) : Int)) ∧ f 9 = (.int .i64 (ik1 : Int)) ∧ f 13 = (.map (some m1)) ∧ f 15 = (.agg (Flat.cells t1).toArray) ∧ f 17 = (.int .i64 yk1.Error)) fol (by kernel_rfl) ?_ ?_
      · skip
        refine PL.of (fun _ w8 _ hx => O.move (v := (.map (some m1))) rfl rfl rfl (WL.nil ⟨rfl, hx⟩)) ?_
        refine PL.of (fun _ w8 _ hx => by have H := H.ext hx; exact O.loadA [(.int .i64 yk1.Day), (.bool yk1.Found), (.int .i64 yk1.Error)] ag32 rfl rfl rfl rfl (H.cell 1 rfl) (WL.nil ⟨rfl, hx⟩)) ?_
        refine PL.of (fun _ w8 _ hx => O.call Try.call72 rfl rfl rfl (c_ledger_of yk1 hy1) (by rintro _ _ hb rfl; exact WL.nil ⟨rfl, hx.trans (hb.mono hx.size)⟩)) ?_
        refine PL.of (fun _ w8 _ hx => O.fieldAddr fd32_2 rfl rfl rfl (WL.nil ⟨rfl, hx⟩)) ?_
        refine PL.of (fun _ w8 _ hx => by have H := H.ext hx; exact O.load sc3 rfl rfl rfl (H.cell 1 rfl 2 _ rfl) (WL.nil ⟨rfl, hx⟩)) ?_
        refine PL.nil ?_
        exact ⟨rfl, rfl, rfl, rfl, rfl, rfl, rfl⟩
      · skip
        rintro f w ⟨hf3, hf7, hf8, hf9, hf13, hf15, hf17⟩ hmd hx
        have H := H.ext hx
        obtain ⟨u2, rfl⟩ : ∃ u2, f = (upd (upd (upd (upd (upd (upd (upd u2 3 (.map (some m1))) 7 va0) 8 (.int .i64 ((a0.length : Nat) : Int))) 9 (.int .i64 (ik1 : Int))) 13 (.map (some m1))) 15 (.agg (Flat.cells t1).toArray)) 17 (.int .i64 yk1.Error)) := ⟨f, by rw [upd_self hf3, upd_self hf7, upd_self hf8, upd_self hf9, upd_self hf13, upd_self hf15, upd_self hf17]⟩
        refine O.mapUpdate 0 t1 yk1.Error Try.underlying57 key60 H rfl rfl rfl rfl rfl ?_
        intro w4 H
        refine WL.nil ?_
        refine W.region ?_
        refine O.add rfl rfl rfl rfl hinck1 ?_
        refine O.move (v := .int .i64 ((ik1 : Int) + 1)) rfl rfl rfl ?_
        refine WL.nil ?_
        have H := H.keep [0] [mapI (K := GKey) (V := Int) m1 (mput z2 t1 yk1.Error)] rfl (by decide)
        obtain rfl := Option.some.inj hm2
        exact ⟨_, rfl, _, rfl, drop_next hdropk1, rfl, rfl, rfl, rfl, H⟩
    · skip
      rintro ik1 _ f w ⟨z2, rfl, hdropk1, hf9, hf8, hf3, hf7, H⟩ hfin
      have hltk1 := drop_end hdropk1
      obtain ⟨u3, rfl⟩ : ∃ u3, f = (upd (upd (upd (upd u3 9 (.int .i64 (ik1 : Int))) 8 (.int .i64 ((a0.length : Nat) : Int))) 3 (.map (some m1))) 7 va0) := ⟨f, by rw [upd_self hf9, upd_self hf8, upd_self hf3, upd_self hf7]⟩
      refine W.seq ?_
      refine W.region ?_
      refine O.lss rfl rfl rfl rfl ?_
      refine WL.nil ?_
      refine W.seq ?_
      refine W.cond_false (congrArg Value.bool (decide_eq_false hltk1)) ?_
      refine W.exit ?_
      have hq : z2 = s1 := hfin
      subst hq
      refine xT rfl ?_
      exact ⟨rfl, H⟩
  · skip
    rintro f w ⟨hf3, H⟩
    obtain ⟨u4, rfl⟩ : ∃ u4, f = (upd u4 3 (.map (some m1))) := ⟨f, by rw [upd_self hf3]⟩
    refine W.seq ?_
    refine W.region ?_
    refine O.move (v := (.map (some m1))) rfl rfl rfl ?_
    refine O.assign (v := (.map (some m1))) rfl rfl rfl ?_
    refine WL.nil ?_
    refine W.ret ?_
    have hq : s1 = r0 := Option.some.inj (show some s1 = some r0 from hm)
    subst hq
    exact ends1 Try.results67 rfl ⟨_, rfl, H.base, H.ownM 0 rfl⟩

theorem c_ledger_told {w0 : World} (va0 : Value) (a0 : (List GEntry)) (ha0 : SliceR w0 va0 a0) (a1 : Int) (va2 : Value) (a2 : (List (GKey × Int)) → Option (Int × Bool)) (ha2 : ∀ (w : World), Below w0.heap.size w0 w → ∀ (vx0 : Value) (x0 : (List (GKey × Int))) (_   : MapR w vx0 x0) (y0 : Int) (y1 : Bool), a2 x0 = some (y0, y1) → CallsV Try.prog va2 #[vx0] w (Ret w fun _ v => v = .tuple #[(.int .i64 y0), (.bool y1)])) (_   : Value.oneCell' va2 = true) {r0 : Int} {r1 : Int} (hm : ledger_told a0 a1 a2 = some (r0, r1)) :
    Calls Try.prog 54 #[va0, (.int .i64 a1), va2] w0 (Ret w0 fun _ v => v = .tuple #[(.int .i64 r0), (.int .i64 r1)]) := by
  unfold ledger_told at hm
  refine calls_of_W Try.func54 rfl Try.ntmps54 (Nat.le_of_ble_eq_true rfl) ?_
  have H := Inv.start (w := w0)
  refine W.seq ?_
  refine W.region ?_
  refine O.assign (v := (.int .i64 0)) rfl rfl rfl ?_
  refine O.assign (v := (.int .i64 0)) rfl rfl rfl ?_
  refine WL.nil ?_
  refine W.seq ?_
  refine W.block ?_
  refine W.seq ?_
  refine W.region ?_
  refine O.move (v := va0) rfl rfl rfl ?_
  obtain ⟨t1, hy1, hm⟩ := bind_some hm
  refine O.call Try.call20 rfl rfl rfl (c_ledger_Valid _ _ (H.arg ha0) hy1) ?_
  rintro _ w1 hb1 rfl
  have H := H.ext hb1
  refine O.not rfl rfl rfl ?_
  refine O.assign (v := (.bool (!t1))) rfl rfl rfl ?_
  refine WL.nil ?_
  rcases ite_some hm with ⟨hc1, hm⟩ | ⟨hc1, hm⟩
  · refine W.cond_true (congrArg Value.bool hc1) ?_
    refine W.seq ?_
    refine W.region ?_
    refine O.assign (v := (.int .i64 0)) rfl rfl rfl ?_
    refine O.assign (v := (.int .i64 1)) rfl rfl rfl ?_
    refine WL.nil ?_
    refine W.ret ?_
    have hq : (0, 1) = (r0, r1) := Option.some.inj (show some (0, 1) = some (r0, r1) from hm)
    obtain ⟨he0, hq0⟩ := Prod.mk.inj hq; clear hq; subst he0
    subst hq0
    exact ends2 Try.results54 rfl rfl ⟨_, rfl, H.base, rfl⟩
  · refine W.cond_false (congrArg Value.bool hc1) ?_
    refine W.seq ?_
    refine W.region ?_
    refine O.move (v := (.int .i64 a1)) rfl rfl rfl ?_
    obtain ⟨t2, hy2, hm⟩ := bind_some hm
    refine O.call Try.call66 rfl rfl rfl (c_ledger_isDay _ hy2) ?_
    rintro _ w2 hb2 rfl
    have H := H.ext hb2
    refine O.not rfl rfl rfl ?_
    refine O.assign (v := (.bool (!t2))) rfl rfl rfl ?_
    refine WL.nil ?_
    rcases ite_some hm with ⟨hc2, hm⟩ | ⟨hc2, hm⟩
    · refine W.cond_true (congrArg Value.bool hc2) ?_
      refine W.seq ?_
      refine W.region ?_
      refine O.assign (v := (.int .i64 0)) rfl rfl rfl ?_
      refine O.assign (v := (.int .i64 7)) rfl rfl rfl ?_
      refine WL.nil ?_
      refine W.ret ?_
      have hq : (0, 7) = (r0, r1) := Option.some.inj (show some (0, 7) = some (r0, r1) from hm)
      obtain ⟨he0, hq0⟩ := Prod.mk.inj hq; clear hq; subst he0
      subst hq0
      exact ends2 Try.results54 rfl rfl ⟨_, rfl, H.base, rfl⟩
    · refine W.cond_false (congrArg Value.bool hc2) ?_
      refine W.skip ?_
      refine W.seq ?_
      refine W.region ?_
      refine O.move (v := va2) rfl rfl rfl ?_
      refine O.move (v := va0) rfl rfl rfl ?_
      obtain ⟨t3, hy3, hm⟩ := bind_some hm
      refine O.call Try.call67 rfl rfl rfl (c_ledger_pageOf _ _ (H.arg ha0) hy3) ?_
      rintro _ w3 hb3 ⟨m1, rfl, ho1a, ho1b⟩
      have H := H.addMap hb3 ho1a ho1b
      obtain ⟨⟨t4, t5⟩, hy4, hm⟩ := bind_some hm
      refine O.callV rfl rfl rfl rfl (ha2 _ H.base _ _ (H.map 0 rfl) _ _ hy4) ?_
      rintro _ w4 hb4 rfl
      have H := H.ext hb4
      refine O.move (v := (.tuple #[(.int .i64 t4), (.bool t5)])) rfl rfl rfl ?_
      refine O.extract (v := (.int .i64 t4)) rfl rfl rfl rfl ?_
      refine O.extract (v := (.bool t5)) rfl rfl rfl rfl ?_
      refine O.assign (v := (.int .i64 t4)) rfl rfl rfl ?_
      refine O.assign (v := (.bool t5)) rfl rfl rfl ?_
      refine WL.nil ?_
      refine W.seq ?_
      refine W.seq ?_
      refine W.region ?_
      refine O.move (v := (.bool t5)) rfl rfl rfl ?_
      refine O.not rfl rfl rfl ?_
      refine WL.nil ?_
      rcases ite_some hm with ⟨hc3, hm⟩ | ⟨hc3, hm⟩
      · refine W.cond_true (congrArg Value.bool hc3) ?_
        refine W.seq ?_
        refine W.region ?_
        refine O.assign (v := (.int .i64 0)) rfl rfl rfl ?_
        refine O.assign (v := (.int .i64 8)) rfl rfl rfl ?_
        refine WL.nil ?_
        refine W.ret ?_
        have hq : (0, 8) = (r0, r1) := Option.some.inj (show some (0, 8) = some (r0, r1) from hm)
        obtain ⟨he0, hq0⟩ := Prod.mk.inj hq; clear hq; subst he0
        subst hq0
        exact ends2 Try.results54 rfl rfl ⟨_, rfl, H.base, rfl⟩
      · refine W.cond_false (congrArg Value.bool hc3) ?_
        refine W.skip ?_
        refine W.seq ?_
        refine W.region ?_
        refine O.move (v := (.int .i64 t4)) rfl rfl rfl ?_
        refine O.assign (v := (.int .i64 t4)) rfl rfl rfl ?_
        refine O.assign (v := (.int .i64 0)) rfl rfl rfl ?_
        refine WL.nil ?_
        refine W.ret ?_
        have hq : (t4, 0) = (r0, r1) := Option.some.inj (show some (t4, 0) = some (r0, r1) from hm)
        obtain ⟨he0, hq0⟩ := Prod.mk.inj hq; clear hq; subst he0
        subst hq0
        exact ends2 Try.results54 rfl rfl ⟨_, rfl, H.base, rfl⟩

theorem c_ledger_Off {w0 : World} (va0 : Value) (a0 : (List GEntry)) (ha0 : SliceR w0 va0 a0) (a1 : Int) {r0 : Int} {r1 : Int} (hm : ledger_Off a0 a1 = some (r0, r1)) :
    Calls Try.prog 18 #[va0, (.int .i64 a1)] w0 (Ret w0 fun _ v => v = .tuple #[(.int .i64 r0), (.int .i64 r1)]) := by
  unfold ledger_Off at hm
  refine calls_of_W Try.func18 rfl Try.ntmps18 (Nat.le_of_ble_eq_true rfl) ?_
  have H := Inv.start (w := w0)
  refine W.seq ?_
  refine W.region ?_
  refine O.box [(.int .i64 a1)] H rfl rfl rfl rfl ?_
  intro b1 w1 H hb1
  refine O.assign (v := (.int .i64 0)) rfl rfl rfl ?_
  refine O.assign (v := (.int .i64 0)) rfl rfl rfl ?_
  refine WL.nil ?_
  refine W.seq ?_
  refine W.region ?_
  refine O.move (v := va0) rfl rfl rfl ?_
  refine O.load sc3 rfl rfl rfl (H.cell 0 rfl 0 _ rfl) ?_
  refine O.makeFunc rfl rfl rfl rfl ?_
  obtain ⟨⟨t1, t2⟩, hy1, hm⟩ := bind_some hm
  refine O.call Try.call54 rfl rfl rfl (c_ledger_told _ _ (H.arg ha0) _ _ (fun x0 => ledger_Off_c1 x0 a1) (fun w hw vx0 x0 hx0 _ _ hy => callsV_mk Try.call59 (c_ledger_Off_c1 vx0 x0 hx0 _ a1 (cells_mono (H.cell 0 rfl) hw) hy)) rfl hy1) ?_
  rintro _ w2 hb2 rfl
  have H := H.ext hb2
  refine O.extract (v := (.int .i64 t1)) rfl rfl rfl rfl ?_
  refine O.extract (v := (.int .i64 t2)) rfl rfl rfl rfl ?_
  refine O.assign (v := (.int .i64 t1)) rfl rfl rfl ?_
  refine O.assign (v := (.int .i64 t2)) rfl rfl rfl ?_
  refine WL.nil ?_
  refine W.ret ?_
  have hq : (t1, t2) = (r0, r1) := Option.some.inj (show some (t1, t2) = some (r0, r1) from hm)
  obtain ⟨he0, hq0⟩ := Prod.mk.inj hq; clear hq; subst he0
  subst hq0
  exact ends2 Try.results18 rfl rfl ⟨_, rfl, H.base, rfl⟩

set_option maxRecDepth 20000 in
theorem c_ledger_Corrections {w0 : World} (va0 : Value) (a0 : (List GEntry)) (ha0 : SliceR w0 va0 a0) {r0 : (List Int)} {r1 : Int} (hm : ledger_Corrections a0 = some (r0, r1)) :
    Calls Try.prog 32 #[va0] w0 (Ret w0 fun w v => ∃ vr0 : Value, v = .tuple #[vr0, (.int .i64 r1)] ∧ OwnR w0 w vr0 3 r0) := by
  unfold ledger_Corrections at hm
  refine calls_of_W Try.func32 rfl Try.ntmps32 (Nat.le_of_ble_eq_true rfl) ?_
  have H := Inv.start (w := w0)
  refine W.seq ?_
  refine W.region ?_
  have H := H.addNil (α := Int) (E := 3)
  refine O.assign (v := (.slice none 0 0)) rfl rfl rfl ?_
  refine O.assign (v := (.int .i64 0)) rfl rfl rfl ?_
  refine WL.nil ?_
  refine W.seq ?_
  refine W.seq ?_
  refine W.region ?_
  refine O.move (v := va0) rfl rfl rfl ?_
  obtain ⟨t1, hy1, hm⟩ := bind_some hm
  refine O.call Try.call20 rfl rfl rfl (c_ledger_Valid _ _ (H.arg ha0) hy1) ?_
  rintro _ w1 hb1 rfl
  have H := H.ext hb1
  refine O.not rfl rfl rfl ?_
  refine WL.nil ?_
  rcases ite_some hm with ⟨hc1, hm⟩ | ⟨hc1, hm⟩
  · refine W.cond_true (congrArg Value.bool hc1) ?_
    refine W.seq ?_
    refine W.region ?_
    have H := H.addNil (α := Int) (E := 3)
    refine O.assign (v := (.slice none 0 0)) rfl rfl rfl ?_
    refine O.assign (v := (.int .i64 1)) rfl rfl rfl ?_
    refine WL.nil ?_
    refine W.ret ?_
    have hq : (([] : List Int), 1) = (r0, r1) := Option.some.inj (show some (([] : List Int), 1) = some (r0, r1) from hm)
    obtain ⟨he0, hq0⟩ := Prod.mk.inj hq; clear hq; subst he0
    subst hq0
    exact ends2 Try.results32 rfl rfl ⟨_, rfl, H.base, ⟨_, rfl, H.ownR 1 rfl⟩⟩
  · refine W.cond_false (congrArg Value.bool hc1) ?_
    refine W.skip ?_
    refine W.seq ?_
    refine W.region ?_
    refine O.makeMap (α := GKey) (β := Bool) H rfl rfl ?_
    intro m1 w2 H hb2
    refine O.assign (v := (.map (some m1))) rfl rfl rfl ?_
    refine WL.nil ?_
    refine W.seq ?_
    refine W.region ?_
    have H := H.addNil (α := Int) (E := 3)
    refine O.assign (v := (.slice none 0 0)) rfl rfl rfl ?_
    refine WL.nil ?_
    refine W.seq ?_
    refine W.seq ?_
    refine W.region ?_
    refine O.move (v := va0) rfl rfl rfl ?_
    refine O.lenS Try.underlying22 (H.arg ha0) rfl rfl rfl ?_
    refine O.move (v := (.int .i64 0)) rfl rfl rfl ?_
    refine WL.nil ?_
    obtain ⟨s1, hm1, hm⟩ := bind_some hm
    refine W.via (fun f w => ∃ v4 : Value, f 5 = v4 ∧ Inv w0 w [ownI (α := Int) v4 3 s1]) ?_ ?_
    · skip
      refine W.block ?_
      have hbdik1 := (H.arg ha0).len_le
      have H := H.keep [1, 2] [mapI (K := GKey) (V := Bool) m1 ([] : List (GKey × Bool)), ownI (α := Int) (.slice none 0 0) 3 ([] : List Int)] rfl (by decide)
      refine W.rangeN (i := 0) hm1 (fun rem ik1 s f w => ∃ z3 : (List (GKey × Bool)), ∃ z4 : (List Int), ∃ v2 : Value, (z3, z4) = s ∧ (ik1 : Int) + rem = max 0 ((a0.length : Nat) : Int) ∧ f 14 = .int .i64 (ik1 : Int) ∧ f 13 = (.int .i64 ((a0.length : Nat) : Int)) ∧ f 4 = (.map (some m1)) ∧ f 5 = v2 ∧ f 12 = va0 ∧ Inv w0 w [mapI (K := GKey) (V := Bool) m1 z3, ownI (α := Int) v2 3 z4]) ?_ ?_ ?_
      · skip
        exact ⟨_, _, (.slice none 0 0), rfl, rangeN_start, rfl, rfl, rfl, rfl, rfl, H⟩
      · skip
        rintro k ik1 _ st f w ⟨z3, z4, v2, rfl, hdropk1, hf14, hf13, hf4, hf5, hf12, H⟩ hm2
        have hltk1 := rangeN_lt hdropk1
        obtain ⟨u1, rfl⟩ : ∃ u1, f = (upd (upd (upd (upd (upd u1 14 (.int .i64 (ik1 : Int))) 13 (.int .i64 ((a0.length : Nat) : Int))) 4 (.map (some m1))) 5 v2) 12 va0) := ⟨f, by rw [upd_self hf14, upd_self hf13, upd_self hf4, upd_self hf5, upd_self hf12]⟩
        have hinck1 := addI_lt hltk1 hbdik1
        refine W.seq ?_
        refine W.region ?_
        refine O.lss rfl rfl rfl rfl ?_
        refine WL.nil ?_
        refine W.seq ?_
        refine W.cond_true (congrArg Value.bool (decide_eq_true hltk1)) ?_
        refine W.skip ?_
        refine W.seq ?_
        obtain ⟨⟨s2, s3⟩, hm3, hm2⟩ := bind_some hm2
        refine W.via (fun f w => ∃ v5 : Value, f 4 = (.map (some m1)) ∧ f 5 = v5 ∧ f 12 = va0 ∧ f 13 = (.int .i64 ((a0.length : Nat) : Int)) ∧ f 14 = (.int .i64 (ik1 : Int)) ∧ Inv w0 w [mapI (K := GKey) (V := Bool) m1 s2, ownI (α := Int) v5 3 s3]) ?_ ?_
        · skip
          refine W.block ?_
          refine W.seq ?_
          refine W.region ?_
          refine O.move (v := (.int .i64 (ik1 : Int))) rfl rfl rfl ?_
          obtain ⟨x1, hx1, hm3⟩ := bind_some hm3
          obtain ⟨p1, hp1, hrp1⟩ := fix_indexAddr Try.underlying22 sz32 ha0 hx1
          refine hrp1 rfl rfl rfl rfl ?_
          refine O.loadA [(.int .i64 x1.Day), (.bool x1.Found), (.int .i64 x1.Error)] ag32 rfl rfl rfl rfl ((hp1.mono H.base).flat) ?_
          refine O.alloc [(.int .i64 0), (.bool false), (.int .i64 0)] ze32 H rfl rfl rfl ?_
          intro b1 w3 H hb3
          refine O.assign (v := (.int .i64 (ik1 : Int))) rfl rfl rfl ?_
          refine O.store 2 0 [(.int .i64 x1.Day), (.bool x1.Found), (.int .i64 x1.Error)] [(.int .i64 x1.Day), (.bool x1.Found), (.int .i64 x1.Error)] sz32 H rfl rfl rfl rfl rfl rfl ⟨⟨rfl, rfl⟩, rfl⟩ (one_cons rfl (one_cons rfl (one_cons rfl one_nil))) ?_
          intro w4 H
          refine WL.nil ?_
          refine W.seq ?_
          refine W.seq ?_
          refine W.region ?_
          refine O.move (v := (.map (some m1))) rfl rfl rfl ?_
          refine O.loadA [(.int .i64 x1.Day), (.bool x1.Found), (.int .i64 x1.Error)] ag32 rfl rfl rfl rfl (H.cell 2 rfl) ?_
          obtain ⟨t2, hy2, hm3⟩ := bind_some hm3
          refine O.call Try.call72 rfl rfl rfl (c_ledger_of x1 hy2) ?_
          rintro _ w5 hb4 rfl
          have H := H.ext hb4
          refine O.lookup1 (z := false) t2 Try.underlying73 key60 ze4 (H.map 0 rfl) rfl rfl rfl rfl ?_
          refine WL.nil ?_
          obtain ⟨s4, hm4, hm3⟩ := bind_some hm3
          refine W.via (fun f w => ∃ v6 : Value, f 4 = (.map (some m1)) ∧ f 5 = v6 ∧ f 7 = (.pointer (some ⟨b1, 0, none⟩)) ∧ f 12 = va0 ∧ f 13 = (.int .i64 ((a0.length : Nat) : Int)) ∧ f 14 = (.int .i64 (ik1 : Int)) ∧ Inv w0 w [mapI (K := GKey) (V := Bool) m1 z3, ownI (α := Int) v6 3 s4, boxI b1 32 [(.int .i64 x1.Day), (.bool x1.Found), (.int .i64 x1.Error)]]) ?_ ?_
          · skip
            rcases ite_some hm4 with ⟨hc2, hm4⟩ | ⟨hc2, hm4⟩
            · refine W.cond_true (congrArg Value.bool hc2) ?_
              refine W.region ?_
              refine O.move (v := v2) rfl rfl rfl ?_
              refine O.move (v := (.int .i64 (ik1 : Int))) rfl rfl rfl ?_
              refine O.buildSlice (α := Int) [(.int .i64 (ik1 : Int))] [(ik1 : Int)] Try.underlying39 el3 H rfl rfl rfl rfl rfl rfl rfl ?_
              intro v7 w6 H hb5
              obtain ⟨t3, ht3, hm4⟩ := bind_some hm4
              refine O.append 1 Try.underlying39 el3 rfl H rfl (H.own 3 rfl) ht3 rfl rfl rfl rfl ?_
              intro v8 w7 H
              refine O.assign (v := v8) rfl rfl rfl ?_
              refine WL.nil ?_
              have H := H.keep [0, 1, 2] [mapI (K := GKey) (V := Bool) m1 z3, ownI (α := Int) v8 3 t3, boxI b1 32 [(.int .i64 x1.Day), (.bool x1.Found), (.int .i64 x1.Error)]] rfl (by decide)
              have hq : t3 = s4 := Option.some.inj (show some t3 = some s4 from hm4)
              subst hq
              exact ⟨v8, rfl, rfl, rfl, rfl, rfl, rfl, H⟩
            · refine W.cond_false (congrArg Value.bool hc2) ?_
              refine W.skip ?_
              have hq : z4 = s4 := Option.some.inj (show some z4 = some s4 from hm4)
              subst hq
              exact ⟨v2, rfl, rfl, rfl, rfl, rfl, rfl, H⟩
          · skip
            rintro f w ⟨v6, hf4, hf5, hf7, hf12, hf13, hf14, H⟩
            obtain ⟨u2, rfl⟩ : ∃ u2, f = (upd (upd (upd (upd (upd (upd u2 4 (.map (some m1))) 5 v6) 7 (.pointer (some ⟨b1, 0, none⟩))) 12 va0) 13 (.int .i64 ((a0.length : Nat) : Int))) 14 (.int .i64 (ik1 : Int))) := ⟨f, by rw [upd_self hf4, upd_self hf5, upd_self hf7, upd_self hf12, upd_self hf13, upd_self hf14]⟩
            refine W.region ?_
            refine O.move (v := (.map (some m1))) rfl rfl rfl ?_
            refine O.loadA [(.int .i64 x1.Day), (.bool x1.Found), (.int .i64 x1.Error)] ag32 rfl rfl rfl rfl (H.cell 2 rfl) ?_
            obtain ⟨t4, hy3, hm3⟩ := bind_some hm3
            refine O.call Try.call72 rfl rfl rfl (c_ledger_of x1 hy3) ?_
            rintro _ w8 hb6 rfl
            have H := H.ext hb6
            refine O.mapUpdate 0 t4 true Try.underlying73 key60 H rfl rfl rfl rfl rfl ?_
            intro w9 H
            refine WL.nil ?_
            have H := H.keep [0, 1] [mapI (K := GKey) (V := Bool) m1 (mput z3 t4 true), ownI (α := Int) v6 3 s4] rfl (by decide)
            have hq : ((mput z3 t4 true), s4) = (s2, s3) := Option.some.inj (show some ((mput z3 t4 true), s4) = some (s2, s3) from hm3)
            obtain ⟨he0, hq0⟩ := Prod.mk.inj hq; clear hq; subst he0
            subst hq0
            exact ⟨v6, rfl, rfl, rfl, rfl, rfl, H⟩
        · skip
          rintro f w ⟨v5, hf4, hf5, hf12, hf13, hf14, H⟩
          obtain ⟨u3, rfl⟩ : ∃ u3, f = (upd (upd (upd (upd (upd u3 4 (.map (some m1))) 5 v5) 12 va0) 13 (.int .i64 ((a0.length : Nat) : Int))) 14 (.int .i64 (ik1 : Int))) := ⟨f, by rw [upd_self hf4, upd_self hf5, upd_self hf12, upd_self hf13, upd_self hf14]⟩
          refine W.region ?_
          refine O.add rfl rfl rfl rfl hinck1 ?_
          refine O.move (v := .int .i64 ((ik1 : Int) + 1)) rfl rfl rfl ?_
          refine WL.nil ?_
          obtain rfl := Option.some.inj hm2
          exact ⟨_, rfl, _, _, v5, rfl, rangeN_next hdropk1, rfl, rfl, rfl, rfl, rfl, H⟩
      · skip
        rintro ik1 _ f w ⟨z3, z4, v2, rfl, hdropk1, hf14, hf13, hf4, hf5, hf12, H⟩ hfin
        have hltk1 := rangeN_end hdropk1
        obtain ⟨u4, rfl⟩ : ∃ u4, f = (upd (upd (upd (upd (upd u4 14 (.int .i64 (ik1 : Int))) 13 (.int .i64 ((a0.length : Nat) : Int))) 4 (.map (some m1))) 5 v2) 12 va0) := ⟨f, by rw [upd_self hf14, upd_self hf13, upd_self hf4, upd_self hf5, upd_self hf12]⟩
        refine W.seq ?_
        refine W.region ?_
        refine O.lss rfl rfl rfl rfl ?_
        refine WL.nil ?_
        refine W.seq ?_
        refine W.cond_false (congrArg Value.bool (decide_eq_false hltk1)) ?_
        refine W.exit ?_
        have hq : z4 = s1 := hfin
        subst hq
        have H := H.keep [1] [ownI (α := Int) v2 3 z4] rfl (by decide)
        refine xT rfl ?_
        exact ⟨v2, rfl, H⟩
    · skip
      rintro f w ⟨v4, hf5, H⟩
      obtain ⟨u5, rfl⟩ : ∃ u5, f = (upd u5 5 v4) := ⟨f, by rw [upd_self hf5]⟩
      refine W.seq ?_
      refine W.region ?_
      refine O.move (v := v4) rfl rfl rfl ?_
      refine O.assign (v := v4) rfl rfl rfl ?_
      refine O.assign (v := (.int .i64 0)) rfl rfl rfl ?_
      refine WL.nil ?_
      refine W.ret ?_
      have hq : (s1, 0) = (r0, r1) := Option.some.inj (show some (s1, 0) = some (r0, r1) from hm)
      obtain ⟨he0, hq0⟩ := Prod.mk.inj hq; clear hq; subst he0
      subst hq0
      exact ends2 Try.results32 rfl rfl ⟨_, rfl, H.base, ⟨_, rfl, H.ownR 0 rfl⟩⟩

set_option maxRecDepth 20000 in
theorem c_noongunref09_SameInts {w0 : World} (va0 : Value) (a0 : (List Int)) (ha0 : SliceR w0 va0 a0) (va1 : Value) (a1 : (List Int)) (ha1 : SliceR w0 va1 a1) {r0 : Bool} (hm : noongunref09_SameInts a0 a1 = some r0) :
    Calls Try.prog 40 #[va0, va1] w0 (Ret w0 fun _ v => v = (.bool r0)) := by
  unfold noongunref09_SameInts at hm
  refine calls_of_W Try.func40 rfl Try.ntmps40 (Nat.le_of_ble_eq_true rfl) ?_
  have H := Inv.start (w := w0)
  refine W.seq ?_
  refine W.region ?_
  refine O.assign (v := (.bool false)) rfl rfl rfl ?_
  refine WL.nil ?_
  refine W.seq ?_
  refine W.seq ?_
  refine W.region ?_
  refine O.move (v := va0) rfl rfl rfl ?_
  refine O.lenS Try.underlying39 (H.arg ha0) rfl rfl rfl ?_
  refine O.move (v := va1) rfl rfl rfl ?_
  refine O.lenS Try.underlying39 (H.arg ha1) rfl rfl rfl ?_
  refine O.neq rfl rfl rfl rfl ?_
  refine WL.nil ?_
  rcases ite_some hm with ⟨hc1, hm⟩ | ⟨hc1, hm⟩
  · refine W.cond_true (congrArg Value.bool hc1) ?_
    refine W.seq ?_
    refine W.region ?_
    refine O.assign (v := (.bool false)) rfl rfl rfl ?_
    refine WL.nil ?_
    refine W.ret ?_
    have hq : false = r0 := Option.some.inj (show some false = some r0 from hm)
    subst hq
    exact ends1 Try.results40 rfl ⟨_, rfl, H.base, rfl⟩
  · refine W.cond_false (congrArg Value.bool hc1) ?_
    refine W.skip ?_
    refine W.seq ?_
    refine W.seq ?_
    refine W.region ?_
    refine O.move (v := va0) rfl rfl rfl ?_
    refine O.lenS Try.underlying39 (H.arg ha0) rfl rfl rfl ?_
    refine O.move (v := (.int .i64 0)) rfl rfl rfl ?_
    refine WL.nil ?_
    obtain ⟨o1, hm1, hm⟩ := bind_some hm
    refine W.via (fun f w => o1 = .next () ∧ Inv w0 w []) ?_ ?_
    · skip
      refine W.block ?_
      have hbdik1 := (H.arg ha0).len_le
      refine W.rangeN (i := 0) hm1 (fun rem ik1 s f w => () = s ∧ (ik1 : Int) + rem = max 0 ((a0.length : Nat) : Int) ∧ f 13 = .int .i64 (ik1 : Int) ∧ f 12 = (.int .i64 ((a0.length : Nat) : Int)) ∧ f 0 = va0 ∧ f 1 = va1 ∧ Inv w0 w []) ?_ ?_ ?_
      · skip
        exact ⟨rfl, rangeN_start, rfl, rfl, rfl, rfl, H⟩
      · skip
        rintro k ik1 _ st f w ⟨rfl, hdropk1, hf13, hf12, hf0, hf1, H⟩ hm2
        have hltk1 := rangeN_lt hdropk1
        obtain ⟨u1, rfl⟩ : ∃ u1, f = (upd (upd (upd (upd u1 13 (.int .i64 (ik1 : Int))) 12 (.int .i64 ((a0.length : Nat) : Int))) 0 va0) 1 va1) := ⟨f, by rw [upd_self hf13, upd_self hf12, upd_self hf0, upd_self hf1]⟩
        have hinck1 := addI_lt hltk1 hbdik1
        refine W.seq ?_
        refine W.region ?_
        refine O.lss rfl rfl rfl rfl ?_
        refine WL.nil ?_
        refine W.seq ?_
        refine W.cond_true (congrArg Value.bool (decide_eq_true hltk1)) ?_
        refine W.skip ?_
        refine W.seq ?_
        refine W.block ?_
        refine W.seq ?_
        refine W.region ?_
        refine O.move (v := (.int .i64 (ik1 : Int))) rfl rfl rfl ?_
        refine O.assign (v := (.int .i64 (ik1 : Int))) rfl rfl rfl ?_
        refine WL.nil ?_
        refine W.seq ?_
        obtain ⟨x1, hx1, hm2⟩ := bind_some hm2
        obtain ⟨p1, hp1, hrp1⟩ := fix_indexAddr Try.underlying39 sz3 (H.arg ha0) hx1
        obtain ⟨x2, hx2, hm2⟩ := bind_some hm2
        obtain ⟨p2, hp2, hrp2⟩ := fix_indexAddr Try.underlying39 sz3 (H.arg ha1) hx2
        refine W.drawN 8 (fun f => f 0 = va0 ∧ f 1 = va1 ∧ f 12 = (.int .i64 ((a0.length : Nat) : Int)) ∧ f 13 = (.int .i64 (ik1 : Int)) ∧ f 19 = (.int .i64 x1) ∧ f 23 = (.int .i64 x2)) fol (by kernel_rfl) ?_ ?_
        · skip
          refine PL.of (fun _ w8 _ hx => O.move (v := va0) rfl rfl rfl (WL.nil ⟨rfl, hx⟩)) ?_
          refine PL.of (fun _ w8 _ hx => O.move (v := (.int .i64 (ik1 : Int))) rfl rfl rfl (WL.nil ⟨rfl, hx⟩)) ?_
          refine PL.of (fun _ w8 _ hx => hrp1 rfl rfl rfl rfl (WL.nil ⟨rfl, hx⟩)) ?_
          refine PL.of (fun _ w8 _ hx => by have hp1 := hp1.mono hx; exact O.load sc3 rfl rfl rfl (hp1.flat 0 _ rfl) (WL.nil ⟨rfl, hx⟩)) ?_
          refine PL.of (fun _ w8 _ hx => O.move (v := va1) rfl rfl rfl (WL.nil ⟨rfl, hx⟩)) ?_
          refine PL.of (fun _ w8 _ hx => O.move (v := (.int .i64 (ik1 : Int))) rfl rfl rfl (WL.nil ⟨rfl, hx⟩)) ?_
          refine PL.of (fun _ w8 _ hx => hrp2 rfl rfl rfl rfl (WL.nil ⟨rfl, hx⟩)) ?_
          refine PL.of (fun _ w8 _ hx => by have hp2 := hp2.mono hx; exact O.load sc3 rfl rfl rfl (hp2.flat 0 _ rfl) (WL.nil ⟨rfl, hx⟩)) ?_
          refine PL.nil ?_
          exact ⟨rfl, rfl, rfl, rfl, rfl, rfl⟩
        · skip
          rintro f w ⟨hf0, hf1, hf12, hf13, hf19, hf23⟩ hmd hx
          have H := H.ext hx
          have hp1 := hp1.mono hx
          have hp2 := hp2.mono hx
          obtain ⟨u2, rfl⟩ : ∃ u2, f = (upd (upd (upd (upd (upd (upd u2 0 va0) 1 va1) 12 (.int .i64 ((a0.length : Nat) : Int))) 13 (.int .i64 (ik1 : Int))) 19 (.int .i64 x1)) 23 (.int .i64 x2)) := ⟨f, by rw [upd_self hf0, upd_self hf1, upd_self hf12, upd_self hf13, upd_self hf19, upd_self hf23]⟩
          refine O.neq rfl rfl rfl rfl ?_
          refine WL.nil ?_
          rcases ite_some hm2 with ⟨hc2, hm2⟩ | ⟨hc2, hm2⟩
          · refine W.cond_true (congrArg Value.bool hc2) ?_
            refine W.seq ?_
            refine W.region ?_
            refine O.assign (v := (.bool false)) rfl rfl rfl ?_
            refine WL.nil ?_
            refine W.ret ?_
            obtain rfl := Option.some.inj hm2
            refine ⟨_, rfl, ?_⟩
            rintro rfl
            have hq : false = r0 := Option.some.inj (show some false = some r0 from hm)
            subst hq
            exact ends1 Try.results40 rfl ⟨_, rfl, H.base, rfl⟩
          · refine W.cond_false (congrArg Value.bool hc2) ?_
            refine W.skip ?_
            refine W.region ?_
            refine O.add rfl rfl rfl rfl hinck1 ?_
            refine O.move (v := .int .i64 ((ik1 : Int) + 1)) rfl rfl rfl ?_
            refine WL.nil ?_
            obtain rfl := Option.some.inj hm2
            exact ⟨_, rfl, rfl, rangeN_next hdropk1, rfl, rfl, rfl, rfl, H⟩
      · skip
        rintro ik1 _ f w ⟨rfl, hdropk1, hf13, hf12, hf0, hf1, H⟩ hfin
        have hltk1 := rangeN_end hdropk1
        obtain ⟨u3, rfl⟩ : ∃ u3, f = (upd (upd (upd (upd u3 13 (.int .i64 (ik1 : Int))) 12 (.int .i64 ((a0.length : Nat) : Int))) 0 va0) 1 va1) := ⟨f, by rw [upd_self hf13, upd_self hf12, upd_self hf0, upd_self hf1]⟩
        refine W.seq ?_
        refine W.region ?_
        refine O.lss rfl rfl rfl rfl ?_
        refine WL.nil ?_
        refine W.seq ?_
        refine W.cond_false (congrArg Value.bool (decide_eq_false hltk1)) ?_
        refine W.exit ?_
        obtain rfl : Ctl.next () = o1 := hfin
        refine xT rfl ?_
        exact ⟨rfl, H⟩
    · skip
      rintro f w ⟨rfl, H⟩
      refine W.seq ?_
      refine W.region ?_
      refine O.assign (v := (.bool true)) rfl rfl rfl ?_
      refine WL.nil ?_
      refine W.ret ?_
      have hq : true = r0 := Option.some.inj (show some true = some r0 from hm)
      subst hq
      exact ends1 Try.results40 rfl ⟨_, rfl, H.base, rfl⟩

set_option maxRecDepth 20000 in
theorem c_noongunlaw09_awake {w0 : World}  {r0 : Bool} (hm : noongunlaw09_awake  = some r0) :
    Calls Try.prog 13 #[] w0 (Ret w0 fun _ v => v = (.bool r0)) := by
  unfold noongunlaw09_awake at hm
  refine calls_of_W Try.func13 rfl Try.ntmps13 (Nat.le_of_ble_eq_true rfl) ?_
  have H := Inv.start (w := w0)
  refine W.seq ?_
  refine W.region ?_
  refine O.assign (v := (.bool false)) rfl rfl rfl ?_
  refine WL.nil ?_
  refine W.seq ?_
  refine W.region ?_
  refine O.build (v := (.agg (Flat.cells (GEntry.mk 5 false 100)).toArray)) (fun w => bd32_0_2 _ _ w) rfl rfl rfl ?_
  refine O.build (v := (.agg (Flat.cells (GEntry.mk 5 true 180)).toArray)) (fun w => bd32_0_1_2 _ _ _ w) rfl rfl rfl ?_
  refine O.build (v := (.agg (Flat.cells (GEntry.mk 6 false 90)).toArray)) (fun w => bd32_0_2 _ _ w) rfl rfl rfl ?_
  refine O.build (v := (.agg (Flat.cells (GEntry.mk 5 true 170)).toArray)) (fun w => bd32_0_1_2 _ _ _ w) rfl rfl rfl ?_
  refine O.buildSlice (α := GEntry) [(.agg (Flat.cells (GEntry.mk 5 false 100)).toArray), (.agg (Flat.cells (GEntry.mk 5 true 180)).toArray), (.agg (Flat.cells (GEntry.mk 6 false 90)).toArray), (.agg (Flat.cells (GEntry.mk 5 true 170)).toArray)] [(GEntry.mk 5 false 100), (GEntry.mk 5 true 180), (GEntry.mk 6 false 90), (GEntry.mk 5 true 170)] Try.underlying22 el32 H rfl rfl rfl rfl rfl rfl rfl ?_
  intro v1 w1 H hb1
  refine O.assign (v := v1) rfl rfl rfl ?_
  refine WL.nil ?_
  refine W.seq ?_
  refine W.region ?_
  refine O.move (v := v1) rfl rfl rfl ?_
  obtain ⟨⟨t1, t2⟩, hy1, hm⟩ := bind_some hm
  refine O.call Try.call18 rfl rfl rfl (c_ledger_Off _ _ (H.own 0 rfl) _ hy1) ?_
  rintro _ w2 hb2 rfl
  have H := H.ext hb2
  refine O.move (v := (.tuple #[(.int .i64 t1), (.int .i64 t2)])) rfl rfl rfl ?_
  refine O.extract (v := (.int .i64 t1)) rfl rfl rfl rfl ?_
  refine O.extract (v := (.int .i64 t2)) rfl rfl rfl rfl ?_
  refine O.assign (v := (.int .i64 t1)) rfl rfl rfl ?_
  refine O.assign (v := (.int .i64 t2)) rfl rfl rfl ?_
  refine WL.nil ?_
  refine W.seq ?_
  refine W.region ?_
  refine O.move (v := v1) rfl rfl rfl ?_
  obtain ⟨⟨t3, t4⟩, hy2, hm⟩ := bind_some hm
  refine O.call Try.call32 rfl rfl rfl (c_ledger_Corrections _ _ (H.own 0 rfl) hy2) ?_
  rintro _ w3 hb3 ⟨v2, rfl, ho1⟩
  have H := H.addOwn hb3 ho1
  refine O.move (v := (.tuple #[v2, (.int .i64 t4)])) rfl rfl rfl ?_
  refine O.extract (v := v2) rfl rfl rfl rfl ?_
  refine O.extract (v := (.int .i64 t4)) rfl rfl rfl rfl ?_
  refine O.assign (v := v2) rfl rfl rfl ?_
  refine O.assign (v := (.int .i64 t4)) rfl rfl rfl ?_
  refine WL.nil ?_
  refine W.seq ?_
  refine W.region ?_
  refine O.move (v := (.int .i64 t2)) rfl rfl rfl ?_
  refine O.eql rfl rfl rfl rfl ?_
  refine O.move (v := (.bool (t2 == 0))) rfl rfl rfl ?_
  refine WL.cut 3 (fun f w => f 4 = v2 ∧ f 5 = (.int .i64 t4) ∧ f 26 = .bool ((t2 == 0) && (t1 == 70)) ∧ Inv w0 w [ownI (α := GEntry) v1 32 ([(GEntry.mk 5 false 100), (GEntry.mk 5 true 180), (GEntry.mk 6 false 90), (GEntry.mk 5 true 170)] : List GEntry), ownI (α := Int) v2 3 t3]) ?_ ?_
  · skip
    rcases bool_ft (t2 == 0) with hc1 | hc1
    · skip
      refine WL.reset (i := 23) (v := .bool false) (congrArg Value.bool hc1) ?_
      refine O.skip rfl rfl ?_
      refine O.skip rfl rfl ?_
      refine O.pick_false (v := (.bool false)) rfl rfl rfl rfl ?_
      refine WL.nil ?_
      exact ⟨rfl, rfl, congrArg Value.bool (and_f hc1), H⟩
    · skip
      refine WL.reset (i := 23) (v := .bool true) (congrArg Value.bool hc1) ?_
      refine O.move (v := (.int .i64 t1)) rfl rfl rfl ?_
      refine O.eql rfl rfl rfl rfl ?_
      refine O.pick_true (v := (.bool (t1 == 70))) rfl rfl rfl rfl ?_
      refine WL.nil ?_
      exact ⟨rfl, rfl, congrArg Value.bool (and_t hc1), H⟩
  · skip
    rintro f w ⟨hf4, hf5, hf26, H⟩
    obtain ⟨u1, rfl⟩ : ∃ u1, f = (upd (upd (upd u1 4 v2) 5 (.int .i64 t4)) 26 (.bool ((t2 == 0) && (t1 == 70)))) := ⟨f, by rw [upd_self hf4, upd_self hf5, upd_self hf26]⟩
    refine O.move (v := (.bool ((t2 == 0) && (t1 == 70)))) rfl rfl rfl ?_
    refine WL.cut 3 (fun f w => f 4 = v2 ∧ f 30 = .bool (((t2 == 0) && (t1 == 70)) && (t4 == 0)) ∧ Inv w0 w [ownI (α := GEntry) v1 32 ([(GEntry.mk 5 false 100), (GEntry.mk 5 true 180), (GEntry.mk 6 false 90), (GEntry.mk 5 true 170)] : List GEntry), ownI (α := Int) v2 3 t3]) ?_ ?_
    · skip
      rcases bool_ft ((t2 == 0) && (t1 == 70)) with hc2 | hc2
      · skip
        refine WL.reset (i := 27) (v := .bool false) (congrArg Value.bool hc2) ?_
        refine O.skip rfl rfl ?_
        refine O.skip rfl rfl ?_
        refine O.pick_false (v := (.bool false)) rfl rfl rfl rfl ?_
        refine WL.nil ?_
        exact ⟨rfl, congrArg Value.bool (and_f hc2), H⟩
      · skip
        refine WL.reset (i := 27) (v := .bool true) (congrArg Value.bool hc2) ?_
        refine O.move (v := (.int .i64 t4)) rfl rfl rfl ?_
        refine O.eql rfl rfl rfl rfl ?_
        refine O.pick_true (v := (.bool (t4 == 0))) rfl rfl rfl rfl ?_
        refine WL.nil ?_
        exact ⟨rfl, congrArg Value.bool (and_t hc2), H⟩
    · skip
      rintro f w ⟨hf4, hf30, H⟩
      obtain ⟨u2, rfl⟩ : ∃ u2, f = (upd (upd u2 4 v2) 30 (.bool (((t2 == 0) && (t1 == 70)) && (t4 == 0)))) := ⟨f, by rw [upd_self hf4, upd_self hf30]⟩
      refine O.move (v := (.bool (((t2 == 0) && (t1 == 70)) && (t4 == 0)))) rfl rfl rfl ?_
      obtain ⟨b1, hm1, hm⟩ := bind_some hm
      refine WL.cut 4 (fun f w => f 35 = .bool b1 ∧ Inv w0 w [ownI (α := GEntry) v1 32 ([(GEntry.mk 5 false 100), (GEntry.mk 5 true 180), (GEntry.mk 6 false 90), (GEntry.mk 5 true 170)] : List GEntry), ownI (α := Int) v2 3 t3]) ?_ ?_
      · skip
        rcases ite_some hm1 with ⟨hc3, hm1⟩ | ⟨hc3, hm1⟩
        · skip
          refine WL.reset (i := 31) (v := .bool true) (congrArg Value.bool hc3) ?_
          refine O.move (v := v2) rfl rfl rfl ?_
          refine O.buildSlice (α := Int) [(.int .i64 3)] [3] Try.underlying39 el3 H rfl rfl rfl rfl rfl rfl rfl ?_
          intro v3 w4 H hb4
          obtain ⟨t5, hy3, hm1⟩ := bind_some hm1
          refine O.call Try.call40 rfl rfl rfl (c_noongunref09_SameInts _ _ (H.own 1 rfl) _ _ (H.own 2 rfl) hy3) ?_
          rintro _ w5 hb5 rfl
          have H := H.ext hb5
          refine O.pick_true (v := (.bool t5)) rfl rfl rfl rfl ?_
          refine WL.nil ?_
          have H := H.keep [0, 1] [ownI (α := GEntry) v1 32 ([(GEntry.mk 5 false 100), (GEntry.mk 5 true 180), (GEntry.mk 6 false 90), (GEntry.mk 5 true 170)] : List GEntry), ownI (α := Int) v2 3 t3] rfl (by decide)
          have hq : t5 = b1 := Option.some.inj (show some t5 = some b1 from hm1)
          subst hq
          exact ⟨rfl, H⟩
        · skip
          refine WL.reset (i := 31) (v := .bool false) (congrArg Value.bool hc3) ?_
          refine O.skip rfl rfl ?_
          refine O.skip rfl rfl ?_
          refine O.skip rfl rfl ?_
          refine O.pick_false (v := (.bool false)) rfl rfl rfl rfl ?_
          refine WL.nil ?_
          have hq : false = b1 := Option.some.inj (show some false = some b1 from hm1)
          subst hq
          exact ⟨rfl, H⟩
      · skip
        rintro f w ⟨hf35, H⟩
        obtain ⟨u3, rfl⟩ : ∃ u3, f = (upd u3 35 (.bool b1)) := ⟨f, by rw [upd_self hf35]⟩
        refine O.assign (v := (.bool b1)) rfl rfl rfl ?_
        refine WL.nil ?_
        refine W.ret ?_
        have hq : b1 = r0 := Option.some.inj (show some b1 = some r0 from hm)
        subst hq
        exact ends1 Try.results13 rfl ⟨_, rfl, H.base, rfl⟩

theorem c_ledger_Said_c1 {w0 : World} (va0 : Value) (a0 : (List (GKey × Int))) (ha0 : MapR w0 va0 a0) (pc0 : Addr) (c0 : Int) (hc0 : ∀ j c, (Flat.cells c0)[j]? = some c → w0.cell? (pc0.add j) = some c) {r0 : Int} {r1 : Bool} (hm : ledger_Said_c1 a0 c0 = some (r0, r1)) :
    Calls Try.prog 55 #[va0, (.pointer (some pc0))] w0 (Ret w0 fun _ v => v = .tuple #[(.int .i64 r0), (.bool r1)]) := by
  unfold ledger_Said_c1 at hm
  refine calls_of_W Try.func55 rfl Try.ntmps55 (Nat.le_of_ble_eq_true rfl) ?_
  have H := Inv.start (w := w0)
  refine W.seq ?_
  refine W.region ?_
  refine O.assign (v := (.int .i64 0)) rfl rfl rfl ?_
  refine O.assign (v := (.bool false)) rfl rfl rfl ?_
  refine WL.nil ?_
  refine W.seq ?_
  refine W.region ?_
  refine O.move (v := va0) rfl rfl rfl ?_
  refine O.load sc3 rfl rfl rfl (cells_mono hc0 H.base 0 _ rfl) ?_
  refine O.build (v := (.agg (Flat.cells (GKey.mk c0 false)).toArray)) (fun w => bd60_0_1 _ _ w) rfl rfl rfl ?_
  refine O.lookup2 (z := 0) (GKey.mk c0 false) Try.underlying57 key60 ze3 (H.argM ha0) rfl rfl rfl rfl ?_
  refine O.move (v := (.tuple #[(.int .i64 ((mget a0 (GKey.mk c0 false)).getD 0)), (.bool (mget a0 (GKey.mk c0 false)).isSome)])) rfl rfl rfl ?_
  refine O.extract (v := (.int .i64 ((mget a0 (GKey.mk c0 false)).getD 0))) rfl rfl rfl rfl ?_
  refine O.extract (v := (.bool (mget a0 (GKey.mk c0 false)).isSome)) rfl rfl rfl rfl ?_
  refine O.assign (v := (.int .i64 ((mget a0 (GKey.mk c0 false)).getD 0))) rfl rfl rfl ?_
  refine O.assign (v := (.bool (mget a0 (GKey.mk c0 false)).isSome)) rfl rfl rfl ?_
  refine WL.nil ?_
  refine W.seq ?_
  refine W.region ?_
  refine O.move (v := (.int .i64 ((mget a0 (GKey.mk c0 false)).getD 0))) rfl rfl rfl ?_
  refine O.move (v := (.bool (mget a0 (GKey.mk c0 false)).isSome)) rfl rfl rfl ?_
  refine O.assign (v := (.int .i64 ((mget a0 (GKey.mk c0 false)).getD 0))) rfl rfl rfl ?_
  refine O.assign (v := (.bool (mget a0 (GKey.mk c0 false)).isSome)) rfl rfl rfl ?_
  refine WL.nil ?_
  refine W.ret ?_
  have hq : (((mget a0 (GKey.mk c0 false)).getD 0), (mget a0 (GKey.mk c0 false)).isSome) = (r0, r1) := Option.some.inj (show some (((mget a0 (GKey.mk c0 false)).getD 0), (mget a0 (GKey.mk c0 false)).isSome) = some (r0, r1) from hm)
  obtain ⟨he0, hq0⟩ := Prod.mk.inj hq; clear hq; subst he0
  subst hq0
  exact ends2 Try.results55 rfl rfl ⟨_, rfl, H.base, rfl⟩

theorem c_ledger_Said {w0 : World} (va0 : Value) (a0 : (List GEntry)) (ha0 : SliceR w0 va0 a0) (a1 : Int) {r0 : Int} {r1 : Int} (hm : ledger_Said a0 a1 = some (r0, r1)) :
    Calls Try.prog 14 #[va0, (.int .i64 a1)] w0 (Ret w0 fun _ v => v = .tuple #[(.int .i64 r0), (.int .i64 r1)]) := by
  unfold ledger_Said at hm
  refine calls_of_W Try.func14 rfl Try.ntmps14 (Nat.le_of_ble_eq_true rfl) ?_
  have H := Inv.start (w := w0)
  refine W.seq ?_
  refine W.region ?_
  refine O.box [(.int .i64 a1)] H rfl rfl rfl rfl ?_
  intro b1 w1 H hb1
  refine O.assign (v := (.int .i64 0)) rfl rfl rfl ?_
  refine O.assign (v := (.int .i64 0)) rfl rfl rfl ?_
  refine WL.nil ?_
  refine W.seq ?_
  refine W.region ?_
  refine O.move (v := va0) rfl rfl rfl ?_
  refine O.load sc3 rfl rfl rfl (H.cell 0 rfl 0 _ rfl) ?_
  refine O.makeFunc rfl rfl rfl rfl ?_
  obtain ⟨⟨t1, t2⟩, hy1, hm⟩ := bind_some hm
  refine O.call Try.call54 rfl rfl rfl (c_ledger_told _ _ (H.arg ha0) _ _ (fun x0 => ledger_Said_c1 x0 a1) (fun w hw vx0 x0 hx0 _ _ hy => callsV_mk Try.call55 (c_ledger_Said_c1 vx0 x0 hx0 _ a1 (cells_mono (H.cell 0 rfl) hw) hy)) rfl hy1) ?_
  rintro _ w2 hb2 rfl
  have H := H.ext hb2
  refine O.extract (v := (.int .i64 t1)) rfl rfl rfl rfl ?_
  refine O.extract (v := (.int .i64 t2)) rfl rfl rfl rfl ?_
  refine O.assign (v := (.int .i64 t1)) rfl rfl rfl ?_
  refine O.assign (v := (.int .i64 t2)) rfl rfl rfl ?_
  refine WL.nil ?_
  refine W.ret ?_
  have hq : (t1, t2) = (r0, r1) := Option.some.inj (show some (t1, t2) = some (r0, r1) from hm)
  obtain ⟨he0, hq0⟩ := Prod.mk.inj hq; clear hq; subst he0
  subst hq0
  exact ends2 Try.results14 rfl rfl ⟨_, rfl, H.base, rfl⟩

theorem c_noongunref09_day {w0 : World} (a0 : Int) {r0 : Bool} (hm : noongunref09_day a0 = some r0) :
    Calls Try.prog 68 #[(.int .i64 a0)] w0 (Ret w0 fun _ v => v = (.bool r0)) := by
  unfold noongunref09_day at hm
  refine calls_of_W Try.func68 rfl Try.ntmps68 (Nat.le_of_ble_eq_true rfl) ?_
  have H := Inv.start (w := w0)
  refine W.seq ?_
  refine W.region ?_
  refine O.assign (v := (.bool false)) rfl rfl rfl ?_
  refine WL.nil ?_
  refine W.seq ?_
  refine W.region ?_
  refine O.move (v := (.int .i64 a0)) rfl rfl rfl ?_
  refine O.geq rfl rfl rfl rfl ?_
  refine O.move (v := (.bool (decide (0 ≤ a0)))) rfl rfl rfl ?_
  refine WL.cut 3 (fun f w => f 8 = .bool ((decide (0 ≤ a0)) && (decide (a0 ≤ 182985))) ∧ Inv w0 w []) ?_ ?_
  · skip
    rcases bool_ft (decide (0 ≤ a0)) with hc1 | hc1
    · skip
      refine WL.reset (i := 5) (v := .bool false) (congrArg Value.bool hc1) ?_
      refine O.skip rfl rfl ?_
      refine O.skip rfl rfl ?_
      refine O.pick_false (v := (.bool false)) rfl rfl rfl rfl ?_
      refine WL.nil ?_
      exact ⟨congrArg Value.bool (and_f hc1), H⟩
    · skip
      refine WL.reset (i := 5) (v := .bool true) (congrArg Value.bool hc1) ?_
      refine O.move (v := (.int .i64 a0)) rfl rfl rfl ?_
      refine O.leq rfl rfl rfl rfl ?_
      refine O.pick_true (v := (.bool (decide (a0 ≤ 182985)))) rfl rfl rfl rfl ?_
      refine WL.nil ?_
      exact ⟨congrArg Value.bool (and_t hc1), H⟩
  · skip
    rintro f w ⟨hf8, H⟩
    obtain ⟨u1, rfl⟩ : ∃ u1, f = (upd u1 8 (.bool ((decide (0 ≤ a0)) && (decide (a0 ≤ 182985))))) := ⟨f, by rw [upd_self hf8]⟩
    refine O.assign (v := (.bool ((decide (0 ≤ a0)) && (decide (a0 ≤ 182985))))) rfl rfl rfl ?_
    refine WL.nil ?_
    refine W.ret ?_
    have hq : ((decide (0 ≤ a0)) && (decide (a0 ≤ 182985))) = r0 := Option.some.inj (show some ((decide (0 ≤ a0)) && (decide (a0 ≤ 182985))) = some r0 from hm)
    subst hq
    exact ends1 Try.results68 rfl ⟨_, rfl, H.base, rfl⟩

theorem c_noongunref09_valid {w0 : World} (a0 : GEntry) {r0 : Bool} (hm : noongunref09_valid a0 = some r0) :
    Calls Try.prog 65 #[(.agg (Flat.cells a0).toArray)] w0 (Ret w0 fun _ v => v = (.bool r0)) := by
  unfold noongunref09_valid at hm
  refine calls_of_W Try.func65 rfl Try.ntmps65 (Nat.le_of_ble_eq_true rfl) ?_
  have H := Inv.start (w := w0)
  refine W.seq ?_
  refine W.region ?_
  refine O.box [(.int .i64 a0.Day), (.bool a0.Found), (.int .i64 a0.Error)] H rfl rfl rfl rfl ?_
  intro b1 w1 H hb1
  refine O.assign (v := (.bool false)) rfl rfl rfl ?_
  refine WL.nil ?_
  refine W.seq ?_
  refine W.region ?_
  refine O.fieldAddr fd32_0 rfl rfl rfl ?_
  refine O.load sc3 rfl rfl rfl (H.cell 0 rfl 0 _ rfl) ?_
  obtain ⟨t1, hy1, hm⟩ := bind_some hm
  refine O.call Try.call68 rfl rfl rfl (c_noongunref09_day _ hy1) ?_
  rintro _ w2 hb2 rfl
  have H := H.ext hb2
  refine O.move (v := (.bool t1)) rfl rfl rfl ?_
  refine WL.cut 4 (fun f w => f 1 = (.pointer (some ⟨b1, 0, none⟩)) ∧ f 10 = .bool (t1 && (decide ((-86400000) ≤ a0.Error))) ∧ Inv w0 w [boxI b1 32 [(.int .i64 a0.Day), (.bool a0.Found), (.int .i64 a0.Error)]]) ?_ ?_
  · skip
    rcases bool_ft t1 with hc1 | hc1
    · skip
      refine WL.reset (i := 6) (v := .bool false) (congrArg Value.bool hc1) ?_
      refine O.skip rfl rfl ?_
      refine O.skip rfl rfl ?_
      refine O.skip rfl rfl ?_
      refine O.pick_false (v := (.bool false)) rfl rfl rfl rfl ?_
      refine WL.nil ?_
      exact ⟨rfl, congrArg Value.bool (and_f hc1), H⟩
    · skip
      refine WL.reset (i := 6) (v := .bool true) (congrArg Value.bool hc1) ?_
      refine O.fieldAddr fd32_2 rfl rfl rfl ?_
      refine O.load sc3 rfl rfl rfl (H.cell 0 rfl 2 _ rfl) ?_
      refine O.geq rfl rfl rfl rfl ?_
      refine O.pick_true (v := (.bool (decide ((-86400000) ≤ a0.Error)))) rfl rfl rfl rfl ?_
      refine WL.nil ?_
      exact ⟨rfl, congrArg Value.bool (and_t hc1), H⟩
  · skip
    rintro f w ⟨hf1, hf10, H⟩
    obtain ⟨u1, rfl⟩ : ∃ u1, f = (upd (upd u1 1 (.pointer (some ⟨b1, 0, none⟩))) 10 (.bool (t1 && (decide ((-86400000) ≤ a0.Error))))) := ⟨f, by rw [upd_self hf1, upd_self hf10]⟩
    refine O.move (v := (.bool (t1 && (decide ((-86400000) ≤ a0.Error))))) rfl rfl rfl ?_
    refine WL.cut 4 (fun f w => f 15 = .bool ((t1 && (decide ((-86400000) ≤ a0.Error))) && (decide (a0.Error ≤ 86400000))) ∧ Inv w0 w [boxI b1 32 [(.int .i64 a0.Day), (.bool a0.Found), (.int .i64 a0.Error)]]) ?_ ?_
    · skip
      rcases bool_ft (t1 && (decide ((-86400000) ≤ a0.Error))) with hc2 | hc2
      · skip
        refine WL.reset (i := 11) (v := .bool false) (congrArg Value.bool hc2) ?_
        refine O.skip rfl rfl ?_
        refine O.skip rfl rfl ?_
        refine O.skip rfl rfl ?_
        refine O.pick_false (v := (.bool false)) rfl rfl rfl rfl ?_
        refine WL.nil ?_
        exact ⟨congrArg Value.bool (and_f hc2), H⟩
      · skip
        refine WL.reset (i := 11) (v := .bool true) (congrArg Value.bool hc2) ?_
        refine O.fieldAddr fd32_2 rfl rfl rfl ?_
        refine O.load sc3 rfl rfl rfl (H.cell 0 rfl 2 _ rfl) ?_
        refine O.leq rfl rfl rfl rfl ?_
        refine O.pick_true (v := (.bool (decide (a0.Error ≤ 86400000)))) rfl rfl rfl rfl ?_
        refine WL.nil ?_
        exact ⟨congrArg Value.bool (and_t hc2), H⟩
    · skip
      rintro f w ⟨hf15, H⟩
      obtain ⟨u2, rfl⟩ : ∃ u2, f = (upd u2 15 (.bool ((t1 && (decide ((-86400000) ≤ a0.Error))) && (decide (a0.Error ≤ 86400000))))) := ⟨f, by rw [upd_self hf15]⟩
      refine O.assign (v := (.bool ((t1 && (decide ((-86400000) ≤ a0.Error))) && (decide (a0.Error ≤ 86400000))))) rfl rfl rfl ?_
      refine WL.nil ?_
      refine W.ret ?_
      have hq : ((t1 && (decide ((-86400000) ≤ a0.Error))) && (decide (a0.Error ≤ 86400000))) = r0 := Option.some.inj (show some ((t1 && (decide ((-86400000) ≤ a0.Error))) && (decide (a0.Error ≤ 86400000))) = some r0 from hm)
      subst hq
      exact ends1 Try.results65 rfl ⟨_, rfl, H.base, rfl⟩

theorem c_noongunref09_Valid {w0 : World} (va0 : Value) (a0 : (List GEntry)) (ha0 : SliceR w0 va0 a0) {r0 : Bool} (hm : noongunref09_Valid a0 = some r0) :
    Calls Try.prog 21 #[va0] w0 (Ret w0 fun _ v => v = (.bool r0)) := by
  unfold noongunref09_Valid at hm
  refine calls_of_W Try.func21 rfl Try.ntmps21 (Nat.le_of_ble_eq_true rfl) ?_
  have H := Inv.start (w := w0)
  refine W.seq ?_
  refine W.region ?_
  refine O.assign (v := (.bool false)) rfl rfl rfl ?_
  refine WL.nil ?_
  refine W.seq ?_
  refine W.seq ?_
  refine W.region ?_
  refine O.move (v := va0) rfl rfl rfl ?_
  refine O.lenS Try.underlying22 (H.arg ha0) rfl rfl rfl ?_
  refine O.move (v := (.int .i64 0)) rfl rfl rfl ?_
  refine WL.nil ?_
  obtain ⟨o1, hm1, hm⟩ := bind_some hm
  refine W.via (fun f w => o1 = .next () ∧ f 0 = va0 ∧ Inv w0 w []) ?_ ?_
  · skip
    refine W.block ?_
    refine W.rangeL (i := 0) hm1 (fun rem ik1 s f w => () = s ∧ a0.drop ik1 = rem ∧ f 7 = .int .i64 (ik1 : Int) ∧ f 6 = (.int .i64 ((a0.length : Nat) : Int)) ∧ f 0 = va0 ∧ f 5 = va0 ∧ Inv w0 w []) ?_ ?_ ?_
    · skip
      exact ⟨rfl, List.drop_zero, rfl, rfl, rfl, rfl, H⟩
    · skip
      rintro yk1 xs ik1 _ st f w ⟨rfl, hdropk1, hf7, hf6, hf0, hf5, H⟩ hm2
      have hltk1 := drop_lt hdropk1; have hixk1 := drop_idx hdropk1
      obtain ⟨u1, rfl⟩ : ∃ u1, f = (upd (upd (upd (upd u1 7 (.int .i64 (ik1 : Int))) 6 (.int .i64 ((a0.length : Nat) : Int))) 0 va0) 5 va0) := ⟨f, by rw [upd_self hf7, upd_self hf6, upd_self hf0, upd_self hf5]⟩
      have hinck1 := addI_lt hltk1 (H.arg ha0).len_le
      refine W.seq ?_
      refine W.region ?_
      refine O.lss rfl rfl rfl rfl ?_
      refine WL.nil ?_
      refine W.seq ?_
      refine W.cond_true (congrArg Value.bool (decide_eq_true hltk1)) ?_
      refine W.skip ?_
      refine W.seq ?_
      refine W.block ?_
      refine W.seq ?_
      refine W.region ?_
      obtain ⟨p1, hp1, hrp1⟩ := fix_indexAddr Try.underlying22 sz32 ha0 hixk1
      refine hrp1 rfl rfl rfl rfl ?_
      refine O.loadA [(.int .i64 yk1.Day), (.bool yk1.Found), (.int .i64 yk1.Error)] ag32 rfl rfl rfl rfl ((hp1.mono H.base).flat) ?_
      refine O.alloc [(.int .i64 0), (.bool false), (.int .i64 0)] ze32 H rfl rfl rfl ?_
      intro b1 w1 H hb1
      refine O.store 0 0 [(.int .i64 yk1.Day), (.bool yk1.Found), (.int .i64 yk1.Error)] [(.int .i64 yk1.Day), (.bool yk1.Found), (.int .i64 yk1.Error)] sz32 H rfl rfl rfl rfl rfl rfl ⟨⟨rfl, rfl⟩, rfl⟩ (one_cons rfl (one_cons rfl (one_cons rfl one_nil))) ?_
      intro w2 H
      refine WL.nil ?_
      refine W.seq ?_
      refine W.region ?_
      refine O.loadA [(.int .i64 yk1.Day), (.bool yk1.Found), (.int .i64 yk1.Error)] ag32 rfl rfl rfl rfl (H.cell 0 rfl) ?_
      obtain ⟨t1, hy1, hm2⟩ := bind_some hm2
      refine O.call Try.call65 rfl rfl rfl (c_noongunref09_valid yk1 hy1) ?_
      rintro _ w3 hb2 rfl
      have H := H.ext hb2
      refine O.not rfl rfl rfl ?_
      refine WL.nil ?_
      rcases ite_some hm2 with ⟨hc1, hm2⟩ | ⟨hc1, hm2⟩
      · refine W.cond_true (congrArg Value.bool hc1) ?_
        refine W.seq ?_
        refine W.region ?_
        refine O.assign (v := (.bool false)) rfl rfl rfl ?_
        refine WL.nil ?_
        refine W.ret ?_
        obtain rfl := Option.some.inj hm2
        refine ⟨_, rfl, ?_⟩
        rintro rfl
        have hq : false = r0 := Option.some.inj (show some false = some r0 from hm)
        subst hq
        exact ends1 Try.results21 rfl ⟨_, rfl, H.base, rfl⟩
      · refine W.cond_false (congrArg Value.bool hc1) ?_
        refine W.skip ?_
        refine W.region ?_
        refine O.add rfl rfl rfl rfl hinck1 ?_
        refine O.move (v := .int .i64 ((ik1 : Int) + 1)) rfl rfl rfl ?_
        refine WL.nil ?_
        have H := H.keep [] [] rfl (by decide)
        obtain rfl := Option.some.inj hm2
        exact ⟨_, rfl, rfl, drop_next hdropk1, rfl, rfl, rfl, rfl, H⟩
    · skip
      rintro ik1 _ f w ⟨rfl, hdropk1, hf7, hf6, hf0, hf5, H⟩ hfin
      have hltk1 := drop_end hdropk1
      obtain ⟨u2, rfl⟩ : ∃ u2, f = (upd (upd (upd (upd u2 7 (.int .i64 (ik1 : Int))) 6 (.int .i64 ((a0.length : Nat) : Int))) 0 va0) 5 va0) := ⟨f, by rw [upd_self hf7, upd_self hf6, upd_self hf0, upd_self hf5]⟩
      refine W.seq ?_
      refine W.region ?_
      refine O.lss rfl rfl rfl rfl ?_
      refine WL.nil ?_
      refine W.seq ?_
      refine W.cond_false (congrArg Value.bool (decide_eq_false hltk1)) ?_
      refine W.exit ?_
      obtain rfl : Ctl.next () = o1 := hfin
      refine xT rfl ?_
      exact ⟨rfl, rfl, H⟩
  · skip
    rintro f w ⟨rfl, hf0, H⟩
    obtain ⟨u3, rfl⟩ : ∃ u3, f = (upd u3 0 va0) := ⟨f, by rw [upd_self hf0]⟩
    refine W.seq ?_
    refine W.region ?_
    refine O.move (v := va0) rfl rfl rfl ?_
    refine O.lenS Try.underlying22 (H.arg ha0) rfl rfl rfl ?_
    refine O.leq rfl rfl rfl rfl ?_
    refine O.assign (v := (.bool (decide (((a0.length : Nat) : Int) ≤ 1000)))) rfl rfl rfl ?_
    refine WL.nil ?_
    refine W.ret ?_
    have hq : (decide (((a0.length : Nat) : Int) ≤ 1000)) = r0 := Option.some.inj (show some (decide (((a0.length : Nat) : Int) ≤ 1000)) = some r0 from hm)
    subst hq
    exact ends1 Try.results21 rfl ⟨_, rfl, H.base, rfl⟩

theorem c_noongunref09_asked {w0 : World} (va0 : Value) (a0 : (List GEntry)) (ha0 : SliceR w0 va0 a0) (a1 : Int) {r0 : Int} (hm : noongunref09_asked a0 a1 = some r0) :
    Calls Try.prog 56 #[va0, (.int .i64 a1)] w0 (Ret w0 fun _ v => v = (.int .i64 r0)) := by
  unfold noongunref09_asked at hm
  refine calls_of_W Try.func56 rfl Try.ntmps56 (Nat.le_of_ble_eq_true rfl) ?_
  have H := Inv.start (w := w0)
  refine W.seq ?_
  refine W.region ?_
  refine O.assign (v := (.int .i64 0)) rfl rfl rfl ?_
  refine WL.nil ?_
  refine W.seq ?_
  refine W.seq ?_
  refine W.region ?_
  refine O.move (v := va0) rfl rfl rfl ?_
  obtain ⟨t1, hy1, hm⟩ := bind_some hm
  refine O.call Try.call21 rfl rfl rfl (c_noongunref09_Valid _ _ (H.arg ha0) hy1) ?_
  rintro _ w1 hb1 rfl
  have H := H.ext hb1
  refine O.not rfl rfl rfl ?_
  refine WL.nil ?_
  rcases ite_some hm with ⟨hc1, hm⟩ | ⟨hc1, hm⟩
  · refine W.cond_true (congrArg Value.bool hc1) ?_
    refine W.seq ?_
    refine W.region ?_
    refine O.assign (v := (.int .i64 1)) rfl rfl rfl ?_
    refine WL.nil ?_
    refine W.ret ?_
    have hq : 1 = r0 := Option.some.inj (show some 1 = some r0 from hm)
    subst hq
    exact ends1 Try.results56 rfl ⟨_, rfl, H.base, rfl⟩
  · refine W.cond_false (congrArg Value.bool hc1) ?_
    refine W.skip ?_
    refine W.seq ?_
    refine W.seq ?_
    refine W.region ?_
    refine O.move (v := (.int .i64 a1)) rfl rfl rfl ?_
    obtain ⟨t2, hy2, hm⟩ := bind_some hm
    refine O.call Try.call68 rfl rfl rfl (c_noongunref09_day _ hy2) ?_
    rintro _ w2 hb2 rfl
    have H := H.ext hb2
    refine O.not rfl rfl rfl ?_
    refine WL.nil ?_
    rcases ite_some hm with ⟨hc2, hm⟩ | ⟨hc2, hm⟩
    · refine W.cond_true (congrArg Value.bool hc2) ?_
      refine W.seq ?_
      refine W.region ?_
      refine O.assign (v := (.int .i64 7)) rfl rfl rfl ?_
      refine WL.nil ?_
      refine W.ret ?_
      have hq : 7 = r0 := Option.some.inj (show some 7 = some r0 from hm)
      subst hq
      exact ends1 Try.results56 rfl ⟨_, rfl, H.base, rfl⟩
    · refine W.cond_false (congrArg Value.bool hc2) ?_
      refine W.skip ?_
      refine W.seq ?_
      refine W.region ?_
      refine O.assign (v := (.int .i64 0)) rfl rfl rfl ?_
      refine WL.nil ?_
      refine W.ret ?_
      have hq : 0 = r0 := Option.some.inj (show some 0 = some r0 from hm)
      subst hq
      exact ends1 Try.results56 rfl ⟨_, rfl, H.base, rfl⟩

set_option maxRecDepth 20000 in
theorem c_noongunref09_last {w0 : World} (va0 : Value) (a0 : (List GEntry)) (ha0 : SliceR w0 va0 a0) (a1 : Int) (a2 : Bool) {r0 : Int} {r1 : Bool} (hm : noongunref09_last a0 a1 a2 = some (r0, r1)) :
    Calls Try.prog 57 #[va0, (.int .i64 a1), (.bool a2)] w0 (Ret w0 fun _ v => v = .tuple #[(.int .i64 r0), (.bool r1)]) := by
  unfold noongunref09_last at hm
  refine calls_of_W Try.func57 rfl Try.ntmps57 (Nat.le_of_ble_eq_true rfl) ?_
  have H := Inv.start (w := w0)
  refine W.seq ?_
  refine W.region ?_
  refine O.assign (v := (.int .i64 0)) rfl rfl rfl ?_
  refine O.assign (v := (.bool false)) rfl rfl rfl ?_
  refine WL.nil ?_
  refine W.seq ?_
  refine W.seq ?_
  refine W.region ?_
  refine O.move (v := va0) rfl rfl rfl ?_
  refine O.lenS Try.underlying22 (H.arg ha0) rfl rfl rfl ?_
  obtain ⟨t1, ht1, hm⟩ := bind_some hm
  refine O.sub rfl rfl rfl rfl ht1 ?_
  refine O.assign (v := (.int .i64 t1)) rfl rfl rfl ?_
  refine WL.nil ?_
  obtain ⟨o1, hm1, hm⟩ := bind_some hm
  refine W.via (fun f w => o1 = .next () ∧ Inv w0 w []) ?_ ?_
  · skip
    refine W.block ?_
    refine W.loopR hm1 (fun s f w => ∃ z2 : Int, z2 = s ∧ f 0 = va0 ∧ f 1 = (.int .i64 a1) ∧ f 2 = (.bool a2) ∧ f 8 = (.int .i64 z2) ∧ Inv w0 w []) ?_ ?_
    · skip
      exact ⟨_, rfl, rfl, rfl, rfl, rfl, H⟩
    · skip
      rintro _ st f w ⟨z2, rfl, hf0, hf1, hf2, hf8, H⟩ hm2
      obtain ⟨u1, rfl⟩ : ∃ u1, f = (upd (upd (upd (upd u1 0 va0) 1 (.int .i64 a1)) 2 (.bool a2)) 8 (.int .i64 z2)) := ⟨f, by rw [upd_self hf0, upd_self hf1, upd_self hf2, upd_self hf8]⟩
      refine W.seq ?_
      refine W.seq ?_
      refine W.region ?_
      refine O.move (v := (.int .i64 z2)) rfl rfl rfl ?_
      refine O.geq rfl rfl rfl rfl ?_
      refine WL.nil ?_
      rcases ite_some hm2 with ⟨hc1, hm2⟩ | ⟨hc1, hm2⟩
      · refine W.cond_true (congrArg Value.bool hc1) ?_
        refine W.skip ?_
        refine W.seq ?_
        refine W.block ?_
        refine W.seq ?_
        refine W.region ?_
        refine O.move (v := va0) rfl rfl rfl ?_
        refine O.move (v := (.int .i64 z2)) rfl rfl rfl ?_
        obtain ⟨x1, hx1, hm2⟩ := bind_some hm2
        obtain ⟨p1, hp1, hrp1⟩ := fix_indexAddr Try.underlying22 sz32 ha0 hx1
        refine hrp1 rfl rfl rfl rfl ?_
        refine O.fieldAddr fd32_0 rfl rfl rfl ?_
        refine O.load sc3 rfl rfl rfl ((hp1.mono H.base).flat 0 _ rfl) ?_
        refine O.move (v := (.int .i64 a1)) rfl rfl rfl ?_
        refine O.eql rfl rfl rfl rfl ?_
        refine O.move (v := (.bool (x1.Day == a1))) rfl rfl rfl ?_
        obtain ⟨b1, hm3, hm2⟩ := bind_some hm2
        refine WL.cut 8 (fun f w => f 0 = va0 ∧ f 1 = (.int .i64 a1) ∧ f 2 = (.bool a2) ∧ f 8 = (.int .i64 z2) ∧ f 31 = .bool b1 ∧ Inv w0 w []) ?_ ?_
        · skip
          rcases ite_some hm3 with ⟨hc2, hm3⟩ | ⟨hc2, hm3⟩
          · skip
            refine WL.reset (i := 23) (v := .bool true) (congrArg Value.bool hc2) ?_
            refine O.move (v := va0) rfl rfl rfl ?_
            refine O.move (v := (.int .i64 z2)) rfl rfl rfl ?_
            obtain ⟨x2, hx2, hm3⟩ := bind_some hm3
            obtain ⟨p2, hp2, hrp2⟩ := fix_indexAddr Try.underlying22 sz32 ha0 hx2
            refine hrp2 rfl rfl rfl rfl ?_
            refine O.fieldAddr fd32_1 rfl rfl rfl ?_
            refine O.load sc4 rfl rfl rfl ((hp2.mono H.base).flat 1 _ rfl) ?_
            refine O.move (v := (.bool a2)) rfl rfl rfl ?_
            refine O.eqlB Try.underlying4 rfl rfl rfl rfl ?_
            refine O.pick_true (v := (.bool (x2.Found == a2))) rfl rfl rfl rfl ?_
            refine WL.nil ?_
            have hq : (x2.Found == a2) = b1 := Option.some.inj (show some (x2.Found == a2) = some b1 from hm3)
            subst hq
            exact ⟨rfl, rfl, rfl, rfl, rfl, H⟩
          · skip
            refine WL.reset (i := 23) (v := .bool false) (congrArg Value.bool hc2) ?_
            refine O.skip rfl rfl ?_
            refine O.skip rfl rfl ?_
            refine O.skip rfl rfl ?_
            refine O.skip rfl rfl ?_
            refine O.skip rfl rfl ?_
            refine O.skip rfl rfl ?_
            refine O.skip rfl rfl ?_
            refine O.pick_false (v := (.bool false)) rfl rfl rfl rfl ?_
            refine WL.nil ?_
            have hq : false = b1 := Option.some.inj (show some false = some b1 from hm3)
            subst hq
            exact ⟨rfl, rfl, rfl, rfl, rfl, H⟩
        · skip
          rintro f w ⟨hf0, hf1, hf2, hf8, hf31, H⟩
          obtain ⟨u2, rfl⟩ : ∃ u2, f = (upd (upd (upd (upd (upd u2 0 va0) 1 (.int .i64 a1)) 2 (.bool a2)) 8 (.int .i64 z2)) 31 (.bool b1)) := ⟨f, by rw [upd_self hf0, upd_self hf1, upd_self hf2, upd_self hf8, upd_self hf31]⟩
          refine WL.nil ?_
          rcases ite_some hm2 with ⟨hc3, hm2⟩ | ⟨hc3, hm2⟩
          · refine W.cond_true (congrArg Value.bool hc3) ?_
            refine W.seq ?_
            refine W.region ?_
            refine O.move (v := va0) rfl rfl rfl ?_
            refine O.move (v := (.int .i64 z2)) rfl rfl rfl ?_
            obtain ⟨x3, hx3, hm2⟩ := bind_some hm2
            obtain ⟨p3, hp3, hrp3⟩ := fix_indexAddr Try.underlying22 sz32 ha0 hx3
            refine hrp3 rfl rfl rfl rfl ?_
            refine O.fieldAddr fd32_2 rfl rfl rfl ?_
            refine O.load sc3 rfl rfl rfl ((hp3.mono H.base).flat 2 _ rfl) ?_
            refine O.assign (v := (.int .i64 x3.Error)) rfl rfl rfl ?_
            refine O.assign (v := (.bool true)) rfl rfl rfl ?_
            refine WL.nil ?_
            refine W.ret ?_
            obtain rfl := Option.some.inj hm2
            refine ⟨_, rfl, ?_⟩
            rintro rfl
            have hq : (x3.Error, true) = (r0, r1) := Option.some.inj (show some (x3.Error, true) = some (r0, r1) from hm)
            obtain ⟨he0, hq0⟩ := Prod.mk.inj hq; clear hq; subst he0
            subst hq0
            exact ends2 Try.results57 rfl rfl ⟨_, rfl, H.base, rfl⟩
          · refine W.cond_false (congrArg Value.bool hc3) ?_
            refine W.skip ?_
            refine W.region ?_
            refine O.move (v := (.int .i64 z2)) rfl rfl rfl ?_
            obtain ⟨t2, ht2, hm2⟩ := bind_some hm2
            refine O.sub rfl rfl rfl rfl ht2 ?_
            refine O.assign (v := (.int .i64 t2)) rfl rfl rfl ?_
            refine WL.nil ?_
            obtain rfl := Option.some.inj hm2
            exact ⟨_, rfl, _, rfl, rfl, rfl, rfl, rfl, H⟩
      · refine W.cond_false (congrArg Value.bool hc1) ?_
        refine W.exit ?_
        obtain rfl := Option.some.inj hm2
        refine ⟨_, rfl, ?_⟩
        rintro rfl
        refine xT rfl ?_
        exact ⟨rfl, H⟩
  · skip
    rintro f w ⟨rfl, H⟩
    refine W.seq ?_
    refine W.region ?_
    refine O.assign (v := (.int .i64 0)) rfl rfl rfl ?_
    refine O.assign (v := (.bool false)) rfl rfl rfl ?_
    refine WL.nil ?_
    refine W.ret ?_
    have hq : (0, false) = (r0, r1) := Option.some.inj (show some (0, false) = some (r0, r1) from hm)
    obtain ⟨he0, hq0⟩ := Prod.mk.inj hq; clear hq; subst he0
    subst hq0
    exact ends2 Try.results57 rfl rfl ⟨_, rfl, H.base, rfl⟩

theorem c_noongunref09_Said {w0 : World} (va0 : Value) (a0 : (List GEntry)) (ha0 : SliceR w0 va0 a0) (a1 : Int) {r0 : Int} {r1 : Int} (hm : noongunref09_Said a0 a1 = some (r0, r1)) :
    Calls Try.prog 15 #[va0, (.int .i64 a1)] w0 (Ret w0 fun _ v => v = .tuple #[(.int .i64 r0), (.int .i64 r1)]) := by
  unfold noongunref09_Said at hm
  refine calls_of_W Try.func15 rfl Try.ntmps15 (Nat.le_of_ble_eq_true rfl) ?_
  have H := Inv.start (w := w0)
  refine W.seq ?_
  refine W.region ?_
  refine O.assign (v := (.int .i64 0)) rfl rfl rfl ?_
  refine O.assign (v := (.int .i64 0)) rfl rfl rfl ?_
  refine WL.nil ?_
  refine W.seq ?_
  refine W.seq ?_
  refine W.region ?_
  refine O.move (v := va0) rfl rfl rfl ?_
  refine O.move (v := (.int .i64 a1)) rfl rfl rfl ?_
  obtain ⟨t1, hy1, hm⟩ := bind_some hm
  refine O.call Try.call56 rfl rfl rfl (c_noongunref09_asked _ _ (H.arg ha0) _ hy1) ?_
  rintro _ w1 hb1 rfl
  have H := H.ext hb1
  refine O.assign (v := (.int .i64 t1)) rfl rfl rfl ?_
  refine WL.nil ?_
  refine W.seq ?_
  refine W.region ?_
  refine O.move (v := (.int .i64 t1)) rfl rfl rfl ?_
  refine O.neq rfl rfl rfl rfl ?_
  refine WL.nil ?_
  rcases ite_some hm with ⟨hc1, hm⟩ | ⟨hc1, hm⟩
  · refine W.cond_true (congrArg Value.bool hc1) ?_
    refine W.seq ?_
    refine W.region ?_
    refine O.move (v := (.int .i64 t1)) rfl rfl rfl ?_
    refine O.assign (v := (.int .i64 0)) rfl rfl rfl ?_
    refine O.assign (v := (.int .i64 t1)) rfl rfl rfl ?_
    refine WL.nil ?_
    refine W.ret ?_
    have hq : (0, t1) = (r0, r1) := Option.some.inj (show some (0, t1) = some (r0, r1) from hm)
    obtain ⟨he0, hq0⟩ := Prod.mk.inj hq; clear hq; subst he0
    subst hq0
    exact ends2 Try.results15 rfl rfl ⟨_, rfl, H.base, rfl⟩
  · refine W.cond_false (congrArg Value.bool hc1) ?_
    refine W.skip ?_
    refine W.seq ?_
    refine W.region ?_
    refine O.move (v := va0) rfl rfl rfl ?_
    refine O.move (v := (.int .i64 a1)) rfl rfl rfl ?_
    obtain ⟨⟨t2, t3⟩, hy2, hm⟩ := bind_some hm
    refine O.call Try.call57 rfl rfl rfl (c_noongunref09_last _ _ (H.arg ha0) _ _ hy2) ?_
    rintro _ w2 hb2 rfl
    have H := H.ext hb2
    refine O.move (v := (.tuple #[(.int .i64 t2), (.bool t3)])) rfl rfl rfl ?_
    refine O.extract (v := (.int .i64 t2)) rfl rfl rfl rfl ?_
    refine O.extract (v := (.bool t3)) rfl rfl rfl rfl ?_
    refine O.assign (v := (.int .i64 t2)) rfl rfl rfl ?_
    refine O.assign (v := (.bool t3)) rfl rfl rfl ?_
    refine WL.nil ?_
    refine W.seq ?_
    refine W.seq ?_
    refine W.region ?_
    refine O.move (v := (.bool t3)) rfl rfl rfl ?_
    refine O.not rfl rfl rfl ?_
    refine WL.nil ?_
    rcases ite_some hm with ⟨hc2, hm⟩ | ⟨hc2, hm⟩
    · refine W.cond_true (congrArg Value.bool hc2) ?_
      refine W.seq ?_
      refine W.region ?_
      refine O.assign (v := (.int .i64 0)) rfl rfl rfl ?_
      refine O.assign (v := (.int .i64 8)) rfl rfl rfl ?_
      refine WL.nil ?_
      refine W.ret ?_
      have hq : (0, 8) = (r0, r1) := Option.some.inj (show some (0, 8) = some (r0, r1) from hm)
      obtain ⟨he0, hq0⟩ := Prod.mk.inj hq; clear hq; subst he0
      subst hq0
      exact ends2 Try.results15 rfl rfl ⟨_, rfl, H.base, rfl⟩
    · refine W.cond_false (congrArg Value.bool hc2) ?_
      refine W.skip ?_
      refine W.seq ?_
      refine W.region ?_
      refine O.move (v := (.int .i64 t2)) rfl rfl rfl ?_
      refine O.assign (v := (.int .i64 t2)) rfl rfl rfl ?_
      refine O.assign (v := (.int .i64 0)) rfl rfl rfl ?_
      refine WL.nil ?_
      refine W.ret ?_
      have hq : (t2, 0) = (r0, r1) := Option.some.inj (show some (t2, 0) = some (r0, r1) from hm)
      obtain ⟨he0, hq0⟩ := Prod.mk.inj hq; clear hq; subst he0
      subst hq0
      exact ends2 Try.results15 rfl rfl ⟨_, rfl, H.base, rfl⟩

theorem c_ledger_Found_c1 {w0 : World} (va0 : Value) (a0 : (List (GKey × Int))) (ha0 : MapR w0 va0 a0) (pc0 : Addr) (c0 : Int) (hc0 : ∀ j c, (Flat.cells c0)[j]? = some c → w0.cell? (pc0.add j) = some c) {r0 : Int} {r1 : Bool} (hm : ledger_Found_c1 a0 c0 = some (r0, r1)) :
    Calls Try.prog 58 #[va0, (.pointer (some pc0))] w0 (Ret w0 fun _ v => v = .tuple #[(.int .i64 r0), (.bool r1)]) := by
  unfold ledger_Found_c1 at hm
  refine calls_of_W Try.func58 rfl Try.ntmps58 (Nat.le_of_ble_eq_true rfl) ?_
  have H := Inv.start (w := w0)
  refine W.seq ?_
  refine W.region ?_
  refine O.assign (v := (.int .i64 0)) rfl rfl rfl ?_
  refine O.assign (v := (.bool false)) rfl rfl rfl ?_
  refine WL.nil ?_
  refine W.seq ?_
  refine W.region ?_
  refine O.move (v := va0) rfl rfl rfl ?_
  refine O.load sc3 rfl rfl rfl (cells_mono hc0 H.base 0 _ rfl) ?_
  refine O.build (v := (.agg (Flat.cells (GKey.mk c0 true)).toArray)) (fun w => bd60_0_1 _ _ w) rfl rfl rfl ?_
  refine O.lookup2 (z := 0) (GKey.mk c0 true) Try.underlying57 key60 ze3 (H.argM ha0) rfl rfl rfl rfl ?_
  refine O.move (v := (.tuple #[(.int .i64 ((mget a0 (GKey.mk c0 true)).getD 0)), (.bool (mget a0 (GKey.mk c0 true)).isSome)])) rfl rfl rfl ?_
  refine O.extract (v := (.int .i64 ((mget a0 (GKey.mk c0 true)).getD 0))) rfl rfl rfl rfl ?_
  refine O.extract (v := (.bool (mget a0 (GKey.mk c0 true)).isSome)) rfl rfl rfl rfl ?_
  refine O.assign (v := (.int .i64 ((mget a0 (GKey.mk c0 true)).getD 0))) rfl rfl rfl ?_
  refine O.assign (v := (.bool (mget a0 (GKey.mk c0 true)).isSome)) rfl rfl rfl ?_
  refine WL.nil ?_
  refine W.seq ?_
  refine W.region ?_
  refine O.move (v := (.int .i64 ((mget a0 (GKey.mk c0 true)).getD 0))) rfl rfl rfl ?_
  refine O.move (v := (.bool (mget a0 (GKey.mk c0 true)).isSome)) rfl rfl rfl ?_
  refine O.assign (v := (.int .i64 ((mget a0 (GKey.mk c0 true)).getD 0))) rfl rfl rfl ?_
  refine O.assign (v := (.bool (mget a0 (GKey.mk c0 true)).isSome)) rfl rfl rfl ?_
  refine WL.nil ?_
  refine W.ret ?_
  have hq : (((mget a0 (GKey.mk c0 true)).getD 0), (mget a0 (GKey.mk c0 true)).isSome) = (r0, r1) := Option.some.inj (show some (((mget a0 (GKey.mk c0 true)).getD 0), (mget a0 (GKey.mk c0 true)).isSome) = some (r0, r1) from hm)
  obtain ⟨he0, hq0⟩ := Prod.mk.inj hq; clear hq; subst he0
  subst hq0
  exact ends2 Try.results58 rfl rfl ⟨_, rfl, H.base, rfl⟩

theorem c_ledger_Found {w0 : World} (va0 : Value) (a0 : (List GEntry)) (ha0 : SliceR w0 va0 a0) (a1 : Int) {r0 : Int} {r1 : Int} (hm : ledger_Found a0 a1 = some (r0, r1)) :
    Calls Try.prog 16 #[va0, (.int .i64 a1)] w0 (Ret w0 fun _ v => v = .tuple #[(.int .i64 r0), (.int .i64 r1)]) := by
  unfold ledger_Found at hm
  refine calls_of_W Try.func16 rfl Try.ntmps16 (Nat.le_of_ble_eq_true rfl) ?_
  have H := Inv.start (w := w0)
  refine W.seq ?_
  refine W.region ?_
  refine O.box [(.int .i64 a1)] H rfl rfl rfl rfl ?_
  intro b1 w1 H hb1
  refine O.assign (v := (.int .i64 0)) rfl rfl rfl ?_
  refine O.assign (v := (.int .i64 0)) rfl rfl rfl ?_
  refine WL.nil ?_
  refine W.seq ?_
  refine W.region ?_
  refine O.move (v := va0) rfl rfl rfl ?_
  refine O.load sc3 rfl rfl rfl (H.cell 0 rfl 0 _ rfl) ?_
  refine O.makeFunc rfl rfl rfl rfl ?_
  obtain ⟨⟨t1, t2⟩, hy1, hm⟩ := bind_some hm
  refine O.call Try.call54 rfl rfl rfl (c_ledger_told _ _ (H.arg ha0) _ _ (fun x0 => ledger_Found_c1 x0 a1) (fun w hw vx0 x0 hx0 _ _ hy => callsV_mk Try.call58 (c_ledger_Found_c1 vx0 x0 hx0 _ a1 (cells_mono (H.cell 0 rfl) hw) hy)) rfl hy1) ?_
  rintro _ w2 hb2 rfl
  have H := H.ext hb2
  refine O.extract (v := (.int .i64 t1)) rfl rfl rfl rfl ?_
  refine O.extract (v := (.int .i64 t2)) rfl rfl rfl rfl ?_
  refine O.assign (v := (.int .i64 t1)) rfl rfl rfl ?_
  refine O.assign (v := (.int .i64 t2)) rfl rfl rfl ?_
  refine WL.nil ?_
  refine W.ret ?_
  have hq : (t1, t2) = (r0, r1) := Option.some.inj (show some (t1, t2) = some (r0, r1) from hm)
  obtain ⟨he0, hq0⟩ := Prod.mk.inj hq; clear hq; subst he0
  subst hq0
  exact ends2 Try.results16 rfl rfl ⟨_, rfl, H.base, rfl⟩

theorem c_noongunref09_Found {w0 : World} (va0 : Value) (a0 : (List GEntry)) (ha0 : SliceR w0 va0 a0) (a1 : Int) {r0 : Int} {r1 : Int} (hm : noongunref09_Found a0 a1 = some (r0, r1)) :
    Calls Try.prog 17 #[va0, (.int .i64 a1)] w0 (Ret w0 fun _ v => v = .tuple #[(.int .i64 r0), (.int .i64 r1)]) := by
  unfold noongunref09_Found at hm
  refine calls_of_W Try.func17 rfl Try.ntmps17 (Nat.le_of_ble_eq_true rfl) ?_
  have H := Inv.start (w := w0)
  refine W.seq ?_
  refine W.region ?_
  refine O.assign (v := (.int .i64 0)) rfl rfl rfl ?_
  refine O.assign (v := (.int .i64 0)) rfl rfl rfl ?_
  refine WL.nil ?_
  refine W.seq ?_
  refine W.seq ?_
  refine W.region ?_
  refine O.move (v := va0) rfl rfl rfl ?_
  refine O.move (v := (.int .i64 a1)) rfl rfl rfl ?_
  obtain ⟨t1, hy1, hm⟩ := bind_some hm
  refine O.call Try.call56 rfl rfl rfl (c_noongunref09_asked _ _ (H.arg ha0) _ hy1) ?_
  rintro _ w1 hb1 rfl
  have H := H.ext hb1
  refine O.assign (v := (.int .i64 t1)) rfl rfl rfl ?_
  refine WL.nil ?_
  refine W.seq ?_
  refine W.region ?_
  refine O.move (v := (.int .i64 t1)) rfl rfl rfl ?_
  refine O.neq rfl rfl rfl rfl ?_
  refine WL.nil ?_
  rcases ite_some hm with ⟨hc1, hm⟩ | ⟨hc1, hm⟩
  · refine W.cond_true (congrArg Value.bool hc1) ?_
    refine W.seq ?_
    refine W.region ?_
    refine O.move (v := (.int .i64 t1)) rfl rfl rfl ?_
    refine O.assign (v := (.int .i64 0)) rfl rfl rfl ?_
    refine O.assign (v := (.int .i64 t1)) rfl rfl rfl ?_
    refine WL.nil ?_
    refine W.ret ?_
    have hq : (0, t1) = (r0, r1) := Option.some.inj (show some (0, t1) = some (r0, r1) from hm)
    obtain ⟨he0, hq0⟩ := Prod.mk.inj hq; clear hq; subst he0
    subst hq0
    exact ends2 Try.results17 rfl rfl ⟨_, rfl, H.base, rfl⟩
  · refine W.cond_false (congrArg Value.bool hc1) ?_
    refine W.skip ?_
    refine W.seq ?_
    refine W.region ?_
    refine O.move (v := va0) rfl rfl rfl ?_
    refine O.move (v := (.int .i64 a1)) rfl rfl rfl ?_
    obtain ⟨⟨t2, t3⟩, hy2, hm⟩ := bind_some hm
    refine O.call Try.call57 rfl rfl rfl (c_noongunref09_last _ _ (H.arg ha0) _ _ hy2) ?_
    rintro _ w2 hb2 rfl
    have H := H.ext hb2
    refine O.move (v := (.tuple #[(.int .i64 t2), (.bool t3)])) rfl rfl rfl ?_
    refine O.extract (v := (.int .i64 t2)) rfl rfl rfl rfl ?_
    refine O.extract (v := (.bool t3)) rfl rfl rfl rfl ?_
    refine O.assign (v := (.int .i64 t2)) rfl rfl rfl ?_
    refine O.assign (v := (.bool t3)) rfl rfl rfl ?_
    refine WL.nil ?_
    refine W.seq ?_
    refine W.seq ?_
    refine W.region ?_
    refine O.move (v := (.bool t3)) rfl rfl rfl ?_
    refine O.not rfl rfl rfl ?_
    refine WL.nil ?_
    rcases ite_some hm with ⟨hc2, hm⟩ | ⟨hc2, hm⟩
    · refine W.cond_true (congrArg Value.bool hc2) ?_
      refine W.seq ?_
      refine W.region ?_
      refine O.assign (v := (.int .i64 0)) rfl rfl rfl ?_
      refine O.assign (v := (.int .i64 8)) rfl rfl rfl ?_
      refine WL.nil ?_
      refine W.ret ?_
      have hq : (0, 8) = (r0, r1) := Option.some.inj (show some (0, 8) = some (r0, r1) from hm)
      obtain ⟨he0, hq0⟩ := Prod.mk.inj hq; clear hq; subst he0
      subst hq0
      exact ends2 Try.results17 rfl rfl ⟨_, rfl, H.base, rfl⟩
    · refine W.cond_false (congrArg Value.bool hc2) ?_
      refine W.skip ?_
      refine W.seq ?_
      refine W.region ?_
      refine O.move (v := (.int .i64 t2)) rfl rfl rfl ?_
      refine O.assign (v := (.int .i64 t2)) rfl rfl rfl ?_
      refine O.assign (v := (.int .i64 0)) rfl rfl rfl ?_
      refine WL.nil ?_
      refine W.ret ?_
      have hq : (t2, 0) = (r0, r1) := Option.some.inj (show some (t2, 0) = some (r0, r1) from hm)
      obtain ⟨he0, hq0⟩ := Prod.mk.inj hq; clear hq; subst he0
      subst hq0
      exact ends2 Try.results17 rfl rfl ⟨_, rfl, H.base, rfl⟩

theorem c_noongunref09_off {w0 : World} (va0 : Value) (a0 : (List GEntry)) (ha0 : SliceR w0 va0 a0) (a1 : Int) {r0 : Int} {r1 : Bool} (hm : noongunref09_off a0 a1 = some (r0, r1)) :
    Calls Try.prog 61 #[va0, (.int .i64 a1)] w0 (Ret w0 fun _ v => v = .tuple #[(.int .i64 r0), (.bool r1)]) := by
  unfold noongunref09_off at hm
  refine calls_of_W Try.func61 rfl Try.ntmps61 (Nat.le_of_ble_eq_true rfl) ?_
  have H := Inv.start (w := w0)
  refine W.seq ?_
  refine W.region ?_
  refine O.assign (v := (.int .i64 0)) rfl rfl rfl ?_
  refine O.assign (v := (.bool false)) rfl rfl rfl ?_
  refine WL.nil ?_
  refine W.seq ?_
  refine W.region ?_
  refine O.move (v := va0) rfl rfl rfl ?_
  refine O.move (v := (.int .i64 a1)) rfl rfl rfl ?_
  obtain ⟨⟨t1, t2⟩, hy1, hm⟩ := bind_some hm
  refine O.call Try.call57 rfl rfl rfl (c_noongunref09_last _ _ (H.arg ha0) _ _ hy1) ?_
  rintro _ w1 hb1 rfl
  have H := H.ext hb1
  refine O.move (v := (.tuple #[(.int .i64 t1), (.bool t2)])) rfl rfl rfl ?_
  refine O.extract (v := (.int .i64 t1)) rfl rfl rfl rfl ?_
  refine O.extract (v := (.bool t2)) rfl rfl rfl rfl ?_
  refine O.assign (v := (.int .i64 t1)) rfl rfl rfl ?_
  refine O.assign (v := (.bool t2)) rfl rfl rfl ?_
  refine WL.nil ?_
  refine W.seq ?_
  refine W.region ?_
  refine O.move (v := va0) rfl rfl rfl ?_
  refine O.move (v := (.int .i64 a1)) rfl rfl rfl ?_
  obtain ⟨⟨t3, t4⟩, hy2, hm⟩ := bind_some hm
  refine O.call Try.call57 rfl rfl rfl (c_noongunref09_last _ _ (H.arg ha0) _ _ hy2) ?_
  rintro _ w2 hb2 rfl
  have H := H.ext hb2
  refine O.move (v := (.tuple #[(.int .i64 t3), (.bool t4)])) rfl rfl rfl ?_
  refine O.extract (v := (.int .i64 t3)) rfl rfl rfl rfl ?_
  refine O.extract (v := (.bool t4)) rfl rfl rfl rfl ?_
  refine O.assign (v := (.int .i64 t3)) rfl rfl rfl ?_
  refine O.assign (v := (.bool t4)) rfl rfl rfl ?_
  refine WL.nil ?_
  refine W.seq ?_
  refine W.region ?_
  refine O.move (v := (.int .i64 t3)) rfl rfl rfl ?_
  refine O.move (v := (.int .i64 t1)) rfl rfl rfl ?_
  obtain ⟨t5, ht5, hm⟩ := bind_some hm
  refine O.sub rfl rfl rfl rfl ht5 ?_
  refine O.move (v := (.bool t2)) rfl rfl rfl ?_
  refine O.move (v := (.bool t2)) rfl rfl rfl ?_
  refine WL.cut 2 (fun f w => f 24 = (.int .i64 t5) ∧ f 28 = .bool (t2 && t4) ∧ Inv w0 w []) ?_ ?_
  · skip
    rcases bool_ft t2 with hc1 | hc1
    · skip
      refine WL.reset (i := 26) (v := .bool false) (congrArg Value.bool hc1) ?_
      refine O.skip rfl rfl ?_
      refine O.pick_false (v := (.bool false)) rfl rfl rfl rfl ?_
      refine WL.nil ?_
      exact ⟨rfl, congrArg Value.bool (and_f hc1), H⟩
    · skip
      refine WL.reset (i := 26) (v := .bool true) (congrArg Value.bool hc1) ?_
      refine O.move (v := (.bool t4)) rfl rfl rfl ?_
      refine O.pick_true (v := (.bool t4)) rfl rfl rfl rfl ?_
      refine WL.nil ?_
      exact ⟨rfl, congrArg Value.bool (and_t hc1), H⟩
  · skip
    rintro f w ⟨hf24, hf28, H⟩
    obtain ⟨u1, rfl⟩ : ∃ u1, f = (upd (upd u1 24 (.int .i64 t5)) 28 (.bool (t2 && t4))) := ⟨f, by rw [upd_self hf24, upd_self hf28]⟩
    refine O.assign (v := (.int .i64 t5)) rfl rfl rfl ?_
    refine O.assign (v := (.bool (t2 && t4))) rfl rfl rfl ?_
    refine WL.nil ?_
    refine W.ret ?_
    have hq : (t5, (t2 && t4)) = (r0, r1) := Option.some.inj (show some (t5, (t2 && t4)) = some (r0, r1) from hm)
    obtain ⟨he0, hq0⟩ := Prod.mk.inj hq; clear hq; subst he0
    subst hq0
    exact ends2 Try.results61 rfl rfl ⟨_, rfl, H.base, rfl⟩

theorem c_noongunref09_Off {w0 : World} (va0 : Value) (a0 : (List GEntry)) (ha0 : SliceR w0 va0 a0) (a1 : Int) {r0 : Int} {r1 : Int} (hm : noongunref09_Off a0 a1 = some (r0, r1)) :
    Calls Try.prog 19 #[va0, (.int .i64 a1)] w0 (Ret w0 fun _ v => v = .tuple #[(.int .i64 r0), (.int .i64 r1)]) := by
  unfold noongunref09_Off at hm
  refine calls_of_W Try.func19 rfl Try.ntmps19 (Nat.le_of_ble_eq_true rfl) ?_
  have H := Inv.start (w := w0)
  refine W.seq ?_
  refine W.region ?_
  refine O.assign (v := (.int .i64 0)) rfl rfl rfl ?_
  refine O.assign (v := (.int .i64 0)) rfl rfl rfl ?_
  refine WL.nil ?_
  refine W.seq ?_
  refine W.seq ?_
  refine W.region ?_
  refine O.move (v := va0) rfl rfl rfl ?_
  refine O.move (v := (.int .i64 a1)) rfl rfl rfl ?_
  obtain ⟨t1, hy1, hm⟩ := bind_some hm
  refine O.call Try.call56 rfl rfl rfl (c_noongunref09_asked _ _ (H.arg ha0) _ hy1) ?_
  rintro _ w1 hb1 rfl
  have H := H.ext hb1
  refine O.assign (v := (.int .i64 t1)) rfl rfl rfl ?_
  refine WL.nil ?_
  refine W.seq ?_
  refine W.region ?_
  refine O.move (v := (.int .i64 t1)) rfl rfl rfl ?_
  refine O.neq rfl rfl rfl rfl ?_
  refine WL.nil ?_
  rcases ite_some hm with ⟨hc1, hm⟩ | ⟨hc1, hm⟩
  · refine W.cond_true (congrArg Value.bool hc1) ?_
    refine W.seq ?_
    refine W.region ?_
    refine O.move (v := (.int .i64 t1)) rfl rfl rfl ?_
    refine O.assign (v := (.int .i64 0)) rfl rfl rfl ?_
    refine O.assign (v := (.int .i64 t1)) rfl rfl rfl ?_
    refine WL.nil ?_
    refine W.ret ?_
    have hq : (0, t1) = (r0, r1) := Option.some.inj (show some (0, t1) = some (r0, r1) from hm)
    obtain ⟨he0, hq0⟩ := Prod.mk.inj hq; clear hq; subst he0
    subst hq0
    exact ends2 Try.results19 rfl rfl ⟨_, rfl, H.base, rfl⟩
  · refine W.cond_false (congrArg Value.bool hc1) ?_
    refine W.skip ?_
    refine W.seq ?_
    refine W.region ?_
    refine O.move (v := va0) rfl rfl rfl ?_
    refine O.move (v := (.int .i64 a1)) rfl rfl rfl ?_
    obtain ⟨⟨t2, t3⟩, hy2, hm⟩ := bind_some hm
    refine O.call Try.call61 rfl rfl rfl (c_noongunref09_off _ _ (H.arg ha0) _ hy2) ?_
    rintro _ w2 hb2 rfl
    have H := H.ext hb2
    refine O.move (v := (.tuple #[(.int .i64 t2), (.bool t3)])) rfl rfl rfl ?_
    refine O.extract (v := (.int .i64 t2)) rfl rfl rfl rfl ?_
    refine O.extract (v := (.bool t3)) rfl rfl rfl rfl ?_
    refine O.assign (v := (.int .i64 t2)) rfl rfl rfl ?_
    refine O.assign (v := (.bool t3)) rfl rfl rfl ?_
    refine WL.nil ?_
    refine W.seq ?_
    refine W.seq ?_
    refine W.region ?_
    refine O.move (v := (.bool t3)) rfl rfl rfl ?_
    refine O.not rfl rfl rfl ?_
    refine WL.nil ?_
    rcases ite_some hm with ⟨hc2, hm⟩ | ⟨hc2, hm⟩
    · refine W.cond_true (congrArg Value.bool hc2) ?_
      refine W.seq ?_
      refine W.region ?_
      refine O.assign (v := (.int .i64 0)) rfl rfl rfl ?_
      refine O.assign (v := (.int .i64 8)) rfl rfl rfl ?_
      refine WL.nil ?_
      refine W.ret ?_
      have hq : (0, 8) = (r0, r1) := Option.some.inj (show some (0, 8) = some (r0, r1) from hm)
      obtain ⟨he0, hq0⟩ := Prod.mk.inj hq; clear hq; subst he0
      subst hq0
      exact ends2 Try.results19 rfl rfl ⟨_, rfl, H.base, rfl⟩
    · refine W.cond_false (congrArg Value.bool hc2) ?_
      refine W.skip ?_
      refine W.seq ?_
      refine W.region ?_
      refine O.move (v := (.int .i64 t2)) rfl rfl rfl ?_
      refine O.assign (v := (.int .i64 t2)) rfl rfl rfl ?_
      refine O.assign (v := (.int .i64 0)) rfl rfl rfl ?_
      refine WL.nil ?_
      refine W.ret ?_
      have hq : (t2, 0) = (r0, r1) := Option.some.inj (show some (t2, 0) = some (r0, r1) from hm)
      obtain ⟨he0, hq0⟩ := Prod.mk.inj hq; clear hq; subst he0
      subst hq0
      exact ends2 Try.results19 rfl rfl ⟨_, rfl, H.base, rfl⟩

set_option maxRecDepth 20000 in
theorem c_noongunlaw09_LedgerSays {w0 : World} (va0 : Value) (a0 : (List GEntry)) (ha0 : SliceR w0 va0 a0) (a1 : Int) {r0 : Bool} (hm : noongunlaw09_LedgerSays a0 a1 = some r0) :
    Calls Try.prog 3 #[va0, (.int .i64 a1)] w0 (Ret w0 fun _ v => v = (.bool r0)) := by
  unfold noongunlaw09_LedgerSays at hm
  refine calls_of_W Try.func3 rfl Try.ntmps3 (Nat.le_of_ble_eq_true rfl) ?_
  have H := Inv.start (w := w0)
  refine W.seq ?_
  refine W.region ?_
  refine O.assign (v := (.bool false)) rfl rfl rfl ?_
  refine WL.nil ?_
  refine W.seq ?_
  refine W.seq ?_
  refine W.region ?_
  refine O.move (v := va0) rfl rfl rfl ?_
  obtain ⟨t1, hy1, hm⟩ := bind_some hm
  refine O.call Try.call12 rfl rfl rfl (c_noongunlaw09_fit _ _ (H.arg ha0) hy1) ?_
  rintro _ w1 hb1 rfl
  have H := H.ext hb1
  refine O.not rfl rfl rfl ?_
  refine WL.nil ?_
  rcases ite_some hm with ⟨hc1, hm⟩ | ⟨hc1, hm⟩
  · refine W.cond_true (congrArg Value.bool hc1) ?_
    refine W.seq ?_
    refine W.region ?_
    obtain ⟨t2, hy2, hm⟩ := bind_some hm
    refine O.call Try.call13 rfl rfl rfl (c_noongunlaw09_awake  hy2) ?_
    rintro _ w2 hb2 rfl
    have H := H.ext hb2
    refine O.assign (v := (.bool t2)) rfl rfl rfl ?_
    refine WL.nil ?_
    refine W.ret ?_
    have hq : t2 = r0 := Option.some.inj (show some t2 = some r0 from hm)
    subst hq
    exact ends1 Try.results3 rfl ⟨_, rfl, H.base, rfl⟩
  · refine W.cond_false (congrArg Value.bool hc1) ?_
    refine W.skip ?_
    refine W.seq ?_
    refine W.region ?_
    refine O.move (v := va0) rfl rfl rfl ?_
    refine O.move (v := (.int .i64 a1)) rfl rfl rfl ?_
    obtain ⟨⟨t3, t4⟩, hy3, hm⟩ := bind_some hm
    refine O.call Try.call14 rfl rfl rfl (c_ledger_Said _ _ (H.arg ha0) _ hy3) ?_
    rintro _ w3 hb3 rfl
    have H := H.ext hb3
    refine O.move (v := (.tuple #[(.int .i64 t3), (.int .i64 t4)])) rfl rfl rfl ?_
    refine O.extract (v := (.int .i64 t3)) rfl rfl rfl rfl ?_
    refine O.extract (v := (.int .i64 t4)) rfl rfl rfl rfl ?_
    refine O.assign (v := (.int .i64 t3)) rfl rfl rfl ?_
    refine O.assign (v := (.int .i64 t4)) rfl rfl rfl ?_
    refine WL.nil ?_
    refine W.seq ?_
    refine W.region ?_
    refine O.move (v := va0) rfl rfl rfl ?_
    refine O.move (v := (.int .i64 a1)) rfl rfl rfl ?_
    obtain ⟨⟨t5, t6⟩, hy4, hm⟩ := bind_some hm
    refine O.call Try.call15 rfl rfl rfl (c_noongunref09_Said _ _ (H.arg ha0) _ hy4) ?_
    rintro _ w4 hb4 rfl
    have H := H.ext hb4
    refine O.move (v := (.tuple #[(.int .i64 t5), (.int .i64 t6)])) rfl rfl rfl ?_
    refine O.extract (v := (.int .i64 t5)) rfl rfl rfl rfl ?_
    refine O.extract (v := (.int .i64 t6)) rfl rfl rfl rfl ?_
    refine O.assign (v := (.int .i64 t5)) rfl rfl rfl ?_
    refine O.assign (v := (.int .i64 t6)) rfl rfl rfl ?_
    refine WL.nil ?_
    refine W.seq ?_
    refine W.region ?_
    refine O.move (v := va0) rfl rfl rfl ?_
    refine O.move (v := (.int .i64 a1)) rfl rfl rfl ?_
    obtain ⟨⟨t7, t8⟩, hy5, hm⟩ := bind_some hm
    refine O.call Try.call16 rfl rfl rfl (c_ledger_Found _ _ (H.arg ha0) _ hy5) ?_
    rintro _ w5 hb5 rfl
    have H := H.ext hb5
    refine O.move (v := (.tuple #[(.int .i64 t7), (.int .i64 t8)])) rfl rfl rfl ?_
    refine O.extract (v := (.int .i64 t7)) rfl rfl rfl rfl ?_
    refine O.extract (v := (.int .i64 t8)) rfl rfl rfl rfl ?_
    refine O.assign (v := (.int .i64 t7)) rfl rfl rfl ?_
    refine O.assign (v := (.int .i64 t8)) rfl rfl rfl ?_
    refine WL.nil ?_
    refine W.seq ?_
    refine W.region ?_
    refine O.move (v := va0) rfl rfl rfl ?_
    refine O.move (v := (.int .i64 a1)) rfl rfl rfl ?_
    obtain ⟨⟨t9, t10⟩, hy6, hm⟩ := bind_some hm
    refine O.call Try.call17 rfl rfl rfl (c_noongunref09_Found _ _ (H.arg ha0) _ hy6) ?_
    rintro _ w6 hb6 rfl
    have H := H.ext hb6
    refine O.move (v := (.tuple #[(.int .i64 t9), (.int .i64 t10)])) rfl rfl rfl ?_
    refine O.extract (v := (.int .i64 t9)) rfl rfl rfl rfl ?_
    refine O.extract (v := (.int .i64 t10)) rfl rfl rfl rfl ?_
    refine O.assign (v := (.int .i64 t9)) rfl rfl rfl ?_
    refine O.assign (v := (.int .i64 t10)) rfl rfl rfl ?_
    refine WL.nil ?_
    refine W.seq ?_
    refine W.region ?_
    refine O.move (v := va0) rfl rfl rfl ?_
    refine O.move (v := (.int .i64 a1)) rfl rfl rfl ?_
    obtain ⟨⟨t11, t12⟩, hy7, hm⟩ := bind_some hm
    refine O.call Try.call18 rfl rfl rfl (c_ledger_Off _ _ (H.arg ha0) _ hy7) ?_
    rintro _ w7 hb7 rfl
    have H := H.ext hb7
    refine O.move (v := (.tuple #[(.int .i64 t11), (.int .i64 t12)])) rfl rfl rfl ?_
    refine O.extract (v := (.int .i64 t11)) rfl rfl rfl rfl ?_
    refine O.extract (v := (.int .i64 t12)) rfl rfl rfl rfl ?_
    refine O.assign (v := (.int .i64 t11)) rfl rfl rfl ?_
    refine O.assign (v := (.int .i64 t12)) rfl rfl rfl ?_
    refine WL.nil ?_
    refine W.seq ?_
    refine W.region ?_
    refine O.move (v := va0) rfl rfl rfl ?_
    refine O.move (v := (.int .i64 a1)) rfl rfl rfl ?_
    obtain ⟨⟨t13, t14⟩, hy8, hm⟩ := bind_some hm
    refine O.call Try.call19 rfl rfl rfl (c_noongunref09_Off _ _ (H.arg ha0) _ hy8) ?_
    rintro _ w8 hb8 rfl
    have H := H.ext hb8
    refine O.move (v := (.tuple #[(.int .i64 t13), (.int .i64 t14)])) rfl rfl rfl ?_
    refine O.extract (v := (.int .i64 t13)) rfl rfl rfl rfl ?_
    refine O.extract (v := (.int .i64 t14)) rfl rfl rfl rfl ?_
    refine O.assign (v := (.int .i64 t13)) rfl rfl rfl ?_
    refine O.assign (v := (.int .i64 t14)) rfl rfl rfl ?_
    refine WL.nil ?_
    refine W.seq ?_
    refine W.region ?_
    refine O.move (v := va0) rfl rfl rfl ?_
    obtain ⟨t15, hy9, hm⟩ := bind_some hm
    refine O.call Try.call20 rfl rfl rfl (c_ledger_Valid _ _ (H.arg ha0) hy9) ?_
    rintro _ w9 hb9 rfl
    have H := H.ext hb9
    refine O.move (v := va0) rfl rfl rfl ?_
    obtain ⟨t16, hy10, hm⟩ := bind_some hm
    refine O.call Try.call21 rfl rfl rfl (c_noongunref09_Valid _ _ (H.arg ha0) hy10) ?_
    rintro _ w10 hb10 rfl
    have H := H.ext hb10
    refine O.eqlB Try.underlying4 rfl rfl rfl rfl ?_
    refine O.move (v := (.bool (t15 == t16))) rfl rfl rfl ?_
    refine WL.cut 4 (fun f w => f 5 = (.int .i64 t3) ∧ f 6 = (.int .i64 t4) ∧ f 8 = (.int .i64 t6) ∧ f 9 = (.int .i64 t7) ∧ f 10 = (.int .i64 t8) ∧ f 11 = (.int .i64 t9) ∧ f 12 = (.int .i64 t10) ∧ f 13 = (.int .i64 t11) ∧ f 14 = (.int .i64 t12) ∧ f 15 = (.int .i64 t13) ∧ f 16 = (.int .i64 t14) ∧ f 66 = .bool ((t15 == t16) && (t3 == t5)) ∧ Inv w0 w []) ?_ ?_
    · skip
      rcases bool_ft (t15 == t16) with hc2 | hc2
      · skip
        refine WL.reset (i := 62) (v := .bool false) (congrArg Value.bool hc2) ?_
        refine O.skip rfl rfl ?_
        refine O.skip rfl rfl ?_
        refine O.skip rfl rfl ?_
        refine O.pick_false (v := (.bool false)) rfl rfl rfl rfl ?_
        refine WL.nil ?_
        exact ⟨rfl, rfl, rfl, rfl, rfl, rfl, rfl, rfl, rfl, rfl, rfl, congrArg Value.bool (and_f hc2), H⟩
      · skip
        refine WL.reset (i := 62) (v := .bool true) (congrArg Value.bool hc2) ?_
        refine O.move (v := (.int .i64 t3)) rfl rfl rfl ?_
        refine O.move (v := (.int .i64 t5)) rfl rfl rfl ?_
        refine O.eql rfl rfl rfl rfl ?_
        refine O.pick_true (v := (.bool (t3 == t5))) rfl rfl rfl rfl ?_
        refine WL.nil ?_
        exact ⟨rfl, rfl, rfl, rfl, rfl, rfl, rfl, rfl, rfl, rfl, rfl, congrArg Value.bool (and_t hc2), H⟩
    · skip
      rintro f w ⟨hf5, hf6, hf8, hf9, hf10, hf11, hf12, hf13, hf14, hf15, hf16, hf66, H⟩
      obtain ⟨u1, rfl⟩ : ∃ u1, f = (upd (upd (upd (upd (upd (upd (upd (upd (upd (upd (upd (upd u1 5 (.int .i64 t3)) 6 (.int .i64 t4)) 8 (.int .i64 t6)) 9 (.int .i64 t7)) 10 (.int .i64 t8)) 11 (.int .i64 t9)) 12 (.int .i64 t10)) 13 (.int .i64 t11)) 14 (.int .i64 t12)) 15 (.int .i64 t13)) 16 (.int .i64 t14)) 66 (.bool ((t15 == t16) && (t3 == t5)))) := ⟨f, by rw [upd_self hf5, upd_self hf6, upd_self hf8, upd_self hf9, upd_self hf10, upd_self hf11, upd_self hf12, upd_self hf13, upd_self hf14, upd_self hf15, upd_self hf16, upd_self hf66]⟩
      refine O.move (v := (.bool ((t15 == t16) && (t3 == t5)))) rfl rfl rfl ?_
      refine WL.cut 4 (fun f w => f 5 = (.int .i64 t3) ∧ f 9 = (.int .i64 t7) ∧ f 10 = (.int .i64 t8) ∧ f 11 = (.int .i64 t9) ∧ f 12 = (.int .i64 t10) ∧ f 13 = (.int .i64 t11) ∧ f 14 = (.int .i64 t12) ∧ f 15 = (.int .i64 t13) ∧ f 16 = (.int .i64 t14) ∧ f 71 = .bool (((t15 == t16) && (t3 == t5)) && (t4 == t6)) ∧ Inv w0 w []) ?_ ?_
      · skip
        rcases bool_ft ((t15 == t16) && (t3 == t5)) with hc3 | hc3
        · skip
          refine WL.reset (i := 67) (v := .bool false) (congrArg Value.bool hc3) ?_
          refine O.skip rfl rfl ?_
          refine O.skip rfl rfl ?_
          refine O.skip rfl rfl ?_
          refine O.pick_false (v := (.bool false)) rfl rfl rfl rfl ?_
          refine WL.nil ?_
          exact ⟨rfl, rfl, rfl, rfl, rfl, rfl, rfl, rfl, rfl, congrArg Value.bool (and_f hc3), H⟩
        · skip
          refine WL.reset (i := 67) (v := .bool true) (congrArg Value.bool hc3) ?_
          refine O.move (v := (.int .i64 t4)) rfl rfl rfl ?_
          refine O.move (v := (.int .i64 t6)) rfl rfl rfl ?_
          refine O.eql rfl rfl rfl rfl ?_
          refine O.pick_true (v := (.bool (t4 == t6))) rfl rfl rfl rfl ?_
          refine WL.nil ?_
          exact ⟨rfl, rfl, rfl, rfl, rfl, rfl, rfl, rfl, rfl, congrArg Value.bool (and_t hc3), H⟩
      · skip
        rintro f w ⟨hf5, hf9, hf10, hf11, hf12, hf13, hf14, hf15, hf16, hf71, H⟩
        obtain ⟨u2, rfl⟩ : ∃ u2, f = (upd (upd (upd (upd (upd (upd (upd (upd (upd (upd u2 5 (.int .i64 t3)) 9 (.int .i64 t7)) 10 (.int .i64 t8)) 11 (.int .i64 t9)) 12 (.int .i64 t10)) 13 (.int .i64 t11)) 14 (.int .i64 t12)) 15 (.int .i64 t13)) 16 (.int .i64 t14)) 71 (.bool (((t15 == t16) && (t3 == t5)) && (t4 == t6)))) := ⟨f, by rw [upd_self hf5, upd_self hf9, upd_self hf10, upd_self hf11, upd_self hf12, upd_self hf13, upd_self hf14, upd_self hf15, upd_self hf16, upd_self hf71]⟩
        refine O.move (v := (.bool (((t15 == t16) && (t3 == t5)) && (t4 == t6)))) rfl rfl rfl ?_
        refine WL.cut 4 (fun f w => f 5 = (.int .i64 t3) ∧ f 9 = (.int .i64 t7) ∧ f 10 = (.int .i64 t8) ∧ f 12 = (.int .i64 t10) ∧ f 13 = (.int .i64 t11) ∧ f 14 = (.int .i64 t12) ∧ f 15 = (.int .i64 t13) ∧ f 16 = (.int .i64 t14) ∧ f 76 = .bool ((((t15 == t16) && (t3 == t5)) && (t4 == t6)) && (t7 == t9)) ∧ Inv w0 w []) ?_ ?_
        · skip
          rcases bool_ft (((t15 == t16) && (t3 == t5)) && (t4 == t6)) with hc4 | hc4
          · skip
            refine WL.reset (i := 72) (v := .bool false) (congrArg Value.bool hc4) ?_
            refine O.skip rfl rfl ?_
            refine O.skip rfl rfl ?_
            refine O.skip rfl rfl ?_
            refine O.pick_false (v := (.bool false)) rfl rfl rfl rfl ?_
            refine WL.nil ?_
            exact ⟨rfl, rfl, rfl, rfl, rfl, rfl, rfl, rfl, congrArg Value.bool (and_f hc4), H⟩
          · skip
            refine WL.reset (i := 72) (v := .bool true) (congrArg Value.bool hc4) ?_
            refine O.move (v := (.int .i64 t7)) rfl rfl rfl ?_
            refine O.move (v := (.int .i64 t9)) rfl rfl rfl ?_
            refine O.eql rfl rfl rfl rfl ?_
            refine O.pick_true (v := (.bool (t7 == t9))) rfl rfl rfl rfl ?_
            refine WL.nil ?_
            exact ⟨rfl, rfl, rfl, rfl, rfl, rfl, rfl, rfl, congrArg Value.bool (and_t hc4), H⟩
        · skip
          rintro f w ⟨hf5, hf9, hf10, hf12, hf13, hf14, hf15, hf16, hf76, H⟩
          obtain ⟨u3, rfl⟩ : ∃ u3, f = (upd (upd (upd (upd (upd (upd (upd (upd (upd u3 5 (.int .i64 t3)) 9 (.int .i64 t7)) 10 (.int .i64 t8)) 12 (.int .i64 t10)) 13 (.int .i64 t11)) 14 (.int .i64 t12)) 15 (.int .i64 t13)) 16 (.int .i64 t14)) 76 (.bool ((((t15 == t16) && (t3 == t5)) && (t4 == t6)) && (t7 == t9)))) := ⟨f, by rw [upd_self hf5, upd_self hf9, upd_self hf10, upd_self hf12, upd_self hf13, upd_self hf14, upd_self hf15, upd_self hf16, upd_self hf76]⟩
          refine O.move (v := (.bool ((((t15 == t16) && (t3 == t5)) && (t4 == t6)) && (t7 == t9)))) rfl rfl rfl ?_
          refine WL.cut 4 (fun f w => f 5 = (.int .i64 t3) ∧ f 9 = (.int .i64 t7) ∧ f 13 = (.int .i64 t11) ∧ f 14 = (.int .i64 t12) ∧ f 15 = (.int .i64 t13) ∧ f 16 = (.int .i64 t14) ∧ f 81 = .bool (((((t15 == t16) && (t3 == t5)) && (t4 == t6)) && (t7 == t9)) && (t8 == t10)) ∧ Inv w0 w []) ?_ ?_
          · skip
            rcases bool_ft ((((t15 == t16) && (t3 == t5)) && (t4 == t6)) && (t7 == t9)) with hc5 | hc5
            · skip
              refine WL.reset (i := 77) (v := .bool false) (congrArg Value.bool hc5) ?_
              refine O.skip rfl rfl ?_
              refine O.skip rfl rfl ?_
              refine O.skip rfl rfl ?_
              refine O.pick_false (v := (.bool false)) rfl rfl rfl rfl ?_
              refine WL.nil ?_
              exact ⟨rfl, rfl, rfl, rfl, rfl, rfl, congrArg Value.bool (and_f hc5), H⟩
            · skip
              refine WL.reset (i := 77) (v := .bool true) (congrArg Value.bool hc5) ?_
              refine O.move (v := (.int .i64 t8)) rfl rfl rfl ?_
              refine O.move (v := (.int .i64 t10)) rfl rfl rfl ?_
              refine O.eql rfl rfl rfl rfl ?_
              refine O.pick_true (v := (.bool (t8 == t10))) rfl rfl rfl rfl ?_
              refine WL.nil ?_
              exact ⟨rfl, rfl, rfl, rfl, rfl, rfl, congrArg Value.bool (and_t hc5), H⟩
          · skip
            rintro f w ⟨hf5, hf9, hf13, hf14, hf15, hf16, hf81, H⟩
            obtain ⟨u4, rfl⟩ : ∃ u4, f = (upd (upd (upd (upd (upd (upd (upd u4 5 (.int .i64 t3)) 9 (.int .i64 t7)) 13 (.int .i64 t11)) 14 (.int .i64 t12)) 15 (.int .i64 t13)) 16 (.int .i64 t14)) 81 (.bool (((((t15 == t16) && (t3 == t5)) && (t4 == t6)) && (t7 == t9)) && (t8 == t10)))) := ⟨f, by rw [upd_self hf5, upd_self hf9, upd_self hf13, upd_self hf14, upd_self hf15, upd_self hf16, upd_self hf81]⟩
            refine O.move (v := (.bool (((((t15 == t16) && (t3 == t5)) && (t4 == t6)) && (t7 == t9)) && (t8 == t10)))) rfl rfl rfl ?_
            refine WL.cut 4 (fun f w => f 5 = (.int .i64 t3) ∧ f 9 = (.int .i64 t7) ∧ f 13 = (.int .i64 t11) ∧ f 14 = (.int .i64 t12) ∧ f 16 = (.int .i64 t14) ∧ f 86 = .bool ((((((t15 == t16) && (t3 == t5)) && (t4 == t6)) && (t7 == t9)) && (t8 == t10)) && (t11 == t13)) ∧ Inv w0 w []) ?_ ?_
            · skip
              rcases bool_ft (((((t15 == t16) && (t3 == t5)) && (t4 == t6)) && (t7 == t9)) && (t8 == t10)) with hc6 | hc6
              · skip
                refine WL.reset (i := 82) (v := .bool false) (congrArg Value.bool hc6) ?_
                refine O.skip rfl rfl ?_
                refine O.skip rfl rfl ?_
                refine O.skip rfl rfl ?_
                refine O.pick_false (v := (.bool false)) rfl rfl rfl rfl ?_
                refine WL.nil ?_
                exact ⟨rfl, rfl, rfl, rfl, rfl, congrArg Value.bool (and_f hc6), H⟩
              · skip
                refine WL.reset (i := 82) (v := .bool true) (congrArg Value.bool hc6) ?_
                refine O.move (v := (.int .i64 t11)) rfl rfl rfl ?_
                refine O.move (v := (.int .i64 t13)) rfl rfl rfl ?_
                refine O.eql rfl rfl rfl rfl ?_
                refine O.pick_true (v := (.bool (t11 == t13))) rfl rfl rfl rfl ?_
                refine WL.nil ?_
                exact ⟨rfl, rfl, rfl, rfl, rfl, congrArg Value.bool (and_t hc6), H⟩
            · skip
              rintro f w ⟨hf5, hf9, hf13, hf14, hf16, hf86, H⟩
              obtain ⟨u5, rfl⟩ : ∃ u5, f = (upd (upd (upd (upd (upd (upd u5 5 (.int .i64 t3)) 9 (.int .i64 t7)) 13 (.int .i64 t11)) 14 (.int .i64 t12)) 16 (.int .i64 t14)) 86 (.bool ((((((t15 == t16) && (t3 == t5)) && (t4 == t6)) && (t7 == t9)) && (t8 == t10)) && (t11 == t13)))) := ⟨f, by rw [upd_self hf5, upd_self hf9, upd_self hf13, upd_self hf14, upd_self hf16, upd_self hf86]⟩
              refine O.move (v := (.bool ((((((t15 == t16) && (t3 == t5)) && (t4 == t6)) && (t7 == t9)) && (t8 == t10)) && (t11 == t13)))) rfl rfl rfl ?_
              refine WL.cut 4 (fun f w => f 5 = (.int .i64 t3) ∧ f 9 = (.int .i64 t7) ∧ f 13 = (.int .i64 t11) ∧ f 14 = (.int .i64 t12) ∧ f 91 = .bool (((((((t15 == t16) && (t3 == t5)) && (t4 == t6)) && (t7 == t9)) && (t8 == t10)) && (t11 == t13)) && (t12 == t14)) ∧ Inv w0 w []) ?_ ?_
              · skip
                rcases bool_ft ((((((t15 == t16) && (t3 == t5)) && (t4 == t6)) && (t7 == t9)) && (t8 == t10)) && (t11 == t13)) with hc7 | hc7
                · skip
                  refine WL.reset (i := 87) (v := .bool false) (congrArg Value.bool hc7) ?_
                  refine O.skip rfl rfl ?_
                  refine O.skip rfl rfl ?_
                  refine O.skip rfl rfl ?_
                  refine O.pick_false (v := (.bool false)) rfl rfl rfl rfl ?_
                  refine WL.nil ?_
                  exact ⟨rfl, rfl, rfl, rfl, congrArg Value.bool (and_f hc7), H⟩
                · skip
                  refine WL.reset (i := 87) (v := .bool true) (congrArg Value.bool hc7) ?_
                  refine O.move (v := (.int .i64 t12)) rfl rfl rfl ?_
                  refine O.move (v := (.int .i64 t14)) rfl rfl rfl ?_
                  refine O.eql rfl rfl rfl rfl ?_
                  refine O.pick_true (v := (.bool (t12 == t14))) rfl rfl rfl rfl ?_
                  refine WL.nil ?_
                  exact ⟨rfl, rfl, rfl, rfl, congrArg Value.bool (and_t hc7), H⟩
              · skip
                rintro f w ⟨hf5, hf9, hf13, hf14, hf91, H⟩
                obtain ⟨u6, rfl⟩ : ∃ u6, f = (upd (upd (upd (upd (upd u6 5 (.int .i64 t3)) 9 (.int .i64 t7)) 13 (.int .i64 t11)) 14 (.int .i64 t12)) 91 (.bool (((((((t15 == t16) && (t3 == t5)) && (t4 == t6)) && (t7 == t9)) && (t8 == t10)) && (t11 == t13)) && (t12 == t14)))) := ⟨f, by rw [upd_self hf5, upd_self hf9, upd_self hf13, upd_self hf14, upd_self hf91]⟩
                refine O.move (v := (.bool (((((((t15 == t16) && (t3 == t5)) && (t4 == t6)) && (t7 == t9)) && (t8 == t10)) && (t11 == t13)) && (t12 == t14)))) rfl rfl rfl ?_
                obtain ⟨b1, hm1, hm⟩ := bind_some hm
                refine WL.cut 10 (fun f w => f 102 = .bool b1 ∧ Inv w0 w []) ?_ ?_
                · skip
                  rcases ite_some hm1 with ⟨hc8, hm1⟩ | ⟨hc8, hm1⟩
                  · skip
                    refine WL.reset (i := 92) (v := .bool true) (congrArg Value.bool hc8) ?_
                    refine O.move (v := (.int .i64 t12)) rfl rfl rfl ?_
                    refine O.neq rfl rfl rfl rfl ?_
                    refine O.move (v := (.bool (t12 != 0))) rfl rfl rfl ?_
                    obtain ⟨b2, hm2, hm1⟩ := bind_some hm1
                    refine WL.cut 6 (fun f w => f 92 = (.bool true) ∧ f 101 = .bool b2 ∧ Inv w0 w []) ?_ ?_
                    · skip
                      rcases ite_some hm2 with ⟨hc9, hm2⟩ | ⟨hc9, hm2⟩
                      · skip
                        refine WL.reset (i := 95) (v := .bool true) (congrArg Value.bool hc9) ?_
                        refine O.skip rfl rfl ?_
                        refine O.skip rfl rfl ?_
                        refine O.skip rfl rfl ?_
                        refine O.skip rfl rfl ?_
                        refine O.skip rfl rfl ?_
                        refine O.pick_true (v := (.bool true)) rfl rfl rfl rfl ?_
                        refine WL.nil ?_
                        have hq : true = b2 := Option.some.inj (show some true = some b2 from hm2)
                        subst hq
                        exact ⟨rfl, rfl, H⟩
                      · skip
                        refine WL.reset (i := 95) (v := .bool false) (congrArg Value.bool hc9) ?_
                        refine O.move (v := (.int .i64 t11)) rfl rfl rfl ?_
                        refine O.move (v := (.int .i64 t7)) rfl rfl rfl ?_
                        refine O.move (v := (.int .i64 t3)) rfl rfl rfl ?_
                        obtain ⟨t17, ht17, hm2⟩ := bind_some hm2
                        refine O.sub rfl rfl rfl rfl ht17 ?_
                        refine O.eql rfl rfl rfl rfl ?_
                        refine O.pick_false (v := (.bool (t11 == t17))) rfl rfl rfl rfl ?_
                        refine WL.nil ?_
                        have hq : (t11 == t17) = b2 := Option.some.inj (show some (t11 == t17) = some b2 from hm2)
                        subst hq
                        exact ⟨rfl, rfl, H⟩
                    · skip
                      rintro f w ⟨hf92, hf101, H⟩
                      obtain ⟨u7, rfl⟩ : ∃ u7, f = (upd (upd u7 92 (.bool true)) 101 (.bool b2)) := ⟨f, by rw [upd_self hf92, upd_self hf101]⟩
                      refine O.pick_true (v := (.bool b2)) rfl rfl rfl rfl ?_
                      refine WL.nil ?_
                      have hq : b2 = b1 := Option.some.inj (show some b2 = some b1 from hm1)
                      subst hq
                      exact ⟨rfl, H⟩
                  · skip
                    refine WL.reset (i := 92) (v := .bool false) (congrArg Value.bool hc8) ?_
                    refine O.skip rfl rfl ?_
                    refine O.skip rfl rfl ?_
                    refine O.skip rfl rfl ?_
                    refine O.skip rfl rfl ?_
                    refine O.skip rfl rfl ?_
                    refine O.skip rfl rfl ?_
                    refine O.skip rfl rfl ?_
                    refine O.skip rfl rfl ?_
                    refine O.skip rfl rfl ?_
                    refine O.pick_false (v := (.bool false)) rfl rfl rfl rfl ?_
                    refine WL.nil ?_
                    have hq : false = b1 := Option.some.inj (show some false = some b1 from hm1)
                    subst hq
                    exact ⟨rfl, H⟩
                · skip
                  rintro f w ⟨hf102, H⟩
                  obtain ⟨u8, rfl⟩ : ∃ u8, f = (upd u8 102 (.bool b1)) := ⟨f, by rw [upd_self hf102]⟩
                  refine O.move (v := (.bool b1)) rfl rfl rfl ?_
                  obtain ⟨b3, hm3, hm⟩ := bind_some hm
                  refine WL.cut 2 (fun f w => f 105 = .bool b3 ∧ Inv w0 w []) ?_ ?_
                  · skip
                    rcases ite_some hm3 with ⟨hc10, hm3⟩ | ⟨hc10, hm3⟩
                    · skip
                      refine WL.reset (i := 103) (v := .bool true) (congrArg Value.bool hc10) ?_
                      obtain ⟨t18, hy11, hm3⟩ := bind_some hm3
                      refine O.call Try.call13 rfl rfl rfl (c_noongunlaw09_awake  hy11) ?_
                      rintro _ w11 hb11 rfl
                      have H := H.ext hb11
                      refine O.pick_true (v := (.bool t18)) rfl rfl rfl rfl ?_
                      refine WL.nil ?_
                      have hq : t18 = b3 := Option.some.inj (show some t18 = some b3 from hm3)
                      subst hq
                      exact ⟨rfl, H⟩
                    · skip
                      refine WL.reset (i := 103) (v := .bool false) (congrArg Value.bool hc10) ?_
                      refine O.skip rfl rfl ?_
                      refine O.pick_false (v := (.bool false)) rfl rfl rfl rfl ?_
                      refine WL.nil ?_
                      have hq : false = b3 := Option.some.inj (show some false = some b3 from hm3)
                      subst hq
                      exact ⟨rfl, H⟩
                  · skip
                    rintro f w ⟨hf105, H⟩
                    obtain ⟨u9, rfl⟩ : ∃ u9, f = (upd u9 105 (.bool b3)) := ⟨f, by rw [upd_self hf105]⟩
                    refine O.assign (v := (.bool b3)) rfl rfl rfl ?_
                    refine WL.nil ?_
                    refine W.ret ?_
                    have hq : b3 = r0 := Option.some.inj (show some b3 = some r0 from hm)
                    subst hq
                    exact ends1 Try.results3 rfl ⟨_, rfl, H.base, rfl⟩

theorem c_noongunlaw09_small {w0 : World} (va0 : Value) (a0 : (List GEntry)) (ha0 : SliceR w0 va0 a0) {r0 : Bool} (hm : noongunlaw09_small a0 = some r0) :
    Calls Try.prog 22 #[va0] w0 (Ret w0 fun _ v => v = (.bool r0)) := by
  unfold noongunlaw09_small at hm
  refine calls_of_W Try.func22 rfl Try.ntmps22 (Nat.le_of_ble_eq_true rfl) ?_
  have H := Inv.start (w := w0)
  refine W.seq ?_
  refine W.region ?_
  refine O.assign (v := (.bool false)) rfl rfl rfl ?_
  refine WL.nil ?_
  refine W.seq ?_
  refine W.region ?_
  refine O.move (v := va0) rfl rfl rfl ?_
  refine O.lenS Try.underlying22 (H.arg ha0) rfl rfl rfl ?_
  refine O.leq rfl rfl rfl rfl ?_
  refine O.assign (v := (.bool (decide (((a0.length : Nat) : Int) ≤ 30)))) rfl rfl rfl ?_
  refine WL.nil ?_
  refine W.ret ?_
  have hq : (decide (((a0.length : Nat) : Int) ≤ 30)) = r0 := Option.some.inj (show some (decide (((a0.length : Nat) : Int) ≤ 30)) = some r0 from hm)
  subst hq
  exact ends1 Try.results22 rfl ⟨_, rfl, H.base, rfl⟩

set_option maxRecDepth 20000 in
theorem c_ledger_Rated {w0 : World} (va0 : Value) (a0 : (List GEntry)) (ha0 : SliceR w0 va0 a0) (a1 : Int) (a2 : Int) {r0 : Int} {r1 : Int} (hm : ledger_Rated a0 a1 a2 = some (r0, r1)) :
    Calls Try.prog 23 #[va0, (.int .i64 a1), (.int .i64 a2)] w0 (Ret w0 fun _ v => v = .tuple #[(.int .i64 r0), (.int .i64 r1)]) := by
  unfold ledger_Rated at hm
  refine calls_of_W Try.func23 rfl Try.ntmps23 (Nat.le_of_ble_eq_true rfl) ?_
  have H := Inv.start (w := w0)
  refine W.seq ?_
  refine W.region ?_
  refine O.assign (v := (.int .i64 0)) rfl rfl rfl ?_
  refine O.assign (v := (.int .i64 0)) rfl rfl rfl ?_
  refine WL.nil ?_
  refine W.seq ?_
  refine W.block ?_
  refine W.seq ?_
  refine W.region ?_
  refine O.move (v := va0) rfl rfl rfl ?_
  obtain ⟨t1, hy1, hm⟩ := bind_some hm
  refine O.call Try.call20 rfl rfl rfl (c_ledger_Valid _ _ (H.arg ha0) hy1) ?_
  rintro _ w1 hb1 rfl
  have H := H.ext hb1
  refine O.not rfl rfl rfl ?_
  refine O.assign (v := (.bool (!t1))) rfl rfl rfl ?_
  refine WL.nil ?_
  rcases ite_some hm with ⟨hc1, hm⟩ | ⟨hc1, hm⟩
  · refine W.cond_true (congrArg Value.bool hc1) ?_
    refine W.seq ?_
    refine W.region ?_
    refine O.assign (v := (.int .i64 0)) rfl rfl rfl ?_
    refine O.assign (v := (.int .i64 1)) rfl rfl rfl ?_
    refine WL.nil ?_
    refine W.ret ?_
    have hq : (0, 1) = (r0, r1) := Option.some.inj (show some (0, 1) = some (r0, r1) from hm)
    obtain ⟨he0, hq0⟩ := Prod.mk.inj hq; clear hq; subst he0
    subst hq0
    exact ends2 Try.results23 rfl rfl ⟨_, rfl, H.base, rfl⟩
  · refine W.cond_false (congrArg Value.bool hc1) ?_
    refine W.seq ?_
    refine W.region ?_
    refine O.move (v := (.int .i64 a1)) rfl rfl rfl ?_
    obtain ⟨t2, hy2, hm⟩ := bind_some hm
    refine O.call Try.call66 rfl rfl rfl (c_ledger_isDay _ hy2) ?_
    rintro _ w2 hb2 rfl
    have H := H.ext hb2
    refine O.not rfl rfl rfl ?_
    refine O.move (v := (.bool (!t2))) rfl rfl rfl ?_
    obtain ⟨b1, hm1, hm⟩ := bind_some hm
    refine WL.cut 4 (fun f w => f 0 = va0 ∧ f 1 = (.int .i64 a1) ∧ f 2 = (.int .i64 a2) ∧ f 25 = .bool b1 ∧ Inv w0 w []) ?_ ?_
    · skip
      rcases ite_some hm1 with ⟨hc2, hm1⟩ | ⟨hc2, hm1⟩
      · skip
        refine WL.reset (i := 21) (v := .bool true) (congrArg Value.bool hc2) ?_
        refine O.skip rfl rfl ?_
        refine O.skip rfl rfl ?_
        refine O.skip rfl rfl ?_
        refine O.pick_true (v := (.bool true)) rfl rfl rfl rfl ?_
        refine WL.nil ?_
        have hq : true = b1 := Option.some.inj (show some true = some b1 from hm1)
        subst hq
        exact ⟨rfl, rfl, rfl, rfl, H⟩
      · skip
        refine WL.reset (i := 21) (v := .bool false) (congrArg Value.bool hc2) ?_
        refine O.move (v := (.int .i64 a2)) rfl rfl rfl ?_
        obtain ⟨t3, hy3, hm1⟩ := bind_some hm1
        refine O.call Try.call66 rfl rfl rfl (c_ledger_isDay _ hy3) ?_
        rintro _ w3 hb3 rfl
        have H := H.ext hb3
        refine O.not rfl rfl rfl ?_
        refine O.pick_false (v := (.bool (!t3))) rfl rfl rfl rfl ?_
        refine WL.nil ?_
        have hq : (!t3) = b1 := Option.some.inj (show some (!t3) = some b1 from hm1)
        subst hq
        exact ⟨rfl, rfl, rfl, rfl, H⟩
    · skip
      rintro f w ⟨hf0, hf1, hf2, hf25, H⟩
      obtain ⟨u1, rfl⟩ : ∃ u1, f = (upd (upd (upd (upd u1 0 va0) 1 (.int .i64 a1)) 2 (.int .i64 a2)) 25 (.bool b1)) := ⟨f, by rw [upd_self hf0, upd_self hf1, upd_self hf2, upd_self hf25]⟩
      refine O.move (v := (.bool b1)) rfl rfl rfl ?_
      refine WL.cut 4 (fun f w => f 0 = va0 ∧ f 1 = (.int .i64 a1) ∧ f 2 = (.int .i64 a2) ∧ f 30 = .bool (b1 || (decide (a2 ≤ a1))) ∧ Inv w0 w []) ?_ ?_
      · skip
        rcases bool_ft b1 with hc3 | hc3
        · skip
          refine WL.reset (i := 26) (v := .bool false) (congrArg Value.bool hc3) ?_
          refine O.move (v := (.int .i64 a1)) rfl rfl rfl ?_
          refine O.move (v := (.int .i64 a2)) rfl rfl rfl ?_
          refine O.geq rfl rfl rfl rfl ?_
          refine O.pick_false (v := (.bool (decide (a2 ≤ a1)))) rfl rfl rfl rfl ?_
          refine WL.nil ?_
          exact ⟨rfl, rfl, rfl, congrArg Value.bool (or_f hc3), H⟩
        · skip
          refine WL.reset (i := 26) (v := .bool true) (congrArg Value.bool hc3) ?_
          refine O.skip rfl rfl ?_
          refine O.skip rfl rfl ?_
          refine O.skip rfl rfl ?_
          refine O.pick_true (v := (.bool true)) rfl rfl rfl rfl ?_
          refine WL.nil ?_
          exact ⟨rfl, rfl, rfl, congrArg Value.bool (or_t hc3), H⟩
      · skip
        rintro f w ⟨hf0, hf1, hf2, hf30, H⟩
        obtain ⟨u2, rfl⟩ : ∃ u2, f = (upd (upd (upd (upd u2 0 va0) 1 (.int .i64 a1)) 2 (.int .i64 a2)) 30 (.bool (b1 || (decide (a2 ≤ a1))))) := ⟨f, by rw [upd_self hf0, upd_self hf1, upd_self hf2, upd_self hf30]⟩
        refine O.assign (v := (.bool (b1 || (decide (a2 ≤ a1))))) rfl rfl rfl ?_
        refine WL.nil ?_
        rcases ite_some hm with ⟨hc4, hm⟩ | ⟨hc4, hm⟩
        · refine W.cond_true (congrArg Value.bool hc4) ?_
          refine W.seq ?_
          refine W.region ?_
          refine O.assign (v := (.int .i64 0)) rfl rfl rfl ?_
          refine O.assign (v := (.int .i64 7)) rfl rfl rfl ?_
          refine WL.nil ?_
          refine W.ret ?_
          have hq : (0, 7) = (r0, r1) := Option.some.inj (show some (0, 7) = some (r0, r1) from hm)
          obtain ⟨he0, hq0⟩ := Prod.mk.inj hq; clear hq; subst he0
          subst hq0
          exact ends2 Try.results23 rfl rfl ⟨_, rfl, H.base, rfl⟩
        · refine W.cond_false (congrArg Value.bool hc4) ?_
          refine W.skip ?_
          refine W.seq ?_
          refine W.region ?_
          refine O.move (v := va0) rfl rfl rfl ?_
          obtain ⟨t4, hy4, hm⟩ := bind_some hm
          refine O.call Try.call67 rfl rfl rfl (c_ledger_pageOf _ _ (H.arg ha0) hy4) ?_
          rintro _ w4 hb4 ⟨m1, rfl, ho1a, ho1b⟩
          have H := H.addMap hb4 ho1a ho1b
          refine O.assign (v := (.map (some m1))) rfl rfl rfl ?_
          refine WL.nil ?_
          refine W.seq ?_
          refine W.region ?_
          refine O.move (v := (.map (some m1))) rfl rfl rfl ?_
          refine O.move (v := (.int .i64 a1)) rfl rfl rfl ?_
          obtain ⟨⟨t5, t6⟩, hy5, hm⟩ := bind_some hm
          refine O.call Try.call60 rfl rfl rfl (c_ledger_page_off _ _ (H.map 0 rfl) _ hy5) ?_
          rintro _ w5 hb5 rfl
          have H := H.ext hb5
          refine O.move (v := (.tuple #[(.int .i64 t5), (.bool t6)])) rfl rfl rfl ?_
          refine O.extract (v := (.int .i64 t5)) rfl rfl rfl rfl ?_
          refine O.extract (v := (.bool t6)) rfl rfl rfl rfl ?_
          refine O.assign (v := (.int .i64 t5)) rfl rfl rfl ?_
          refine O.assign (v := (.bool t6)) rfl rfl rfl ?_
          refine WL.nil ?_
          refine W.seq ?_
          refine W.region ?_
          refine O.move (v := (.map (some m1))) rfl rfl rfl ?_
          refine O.move (v := (.int .i64 a2)) rfl rfl rfl ?_
          obtain ⟨⟨t7, t8⟩, hy6, hm⟩ := bind_some hm
          refine O.call Try.call60 rfl rfl rfl (c_ledger_page_off _ _ (H.map 0 rfl) _ hy6) ?_
          rintro _ w6 hb6 rfl
          have H := H.ext hb6
          refine O.move (v := (.tuple #[(.int .i64 t7), (.bool t8)])) rfl rfl rfl ?_
          refine O.extract (v := (.int .i64 t7)) rfl rfl rfl rfl ?_
          refine O.extract (v := (.bool t8)) rfl rfl rfl rfl ?_
          refine O.assign (v := (.int .i64 t7)) rfl rfl rfl ?_
          refine O.assign (v := (.bool t8)) rfl rfl rfl ?_
          refine WL.nil ?_
          refine W.seq ?_
          refine W.seq ?_
          refine W.region ?_
          refine O.move (v := (.bool t6)) rfl rfl rfl ?_
          refine O.not rfl rfl rfl ?_
          refine O.move (v := (.bool (!t6))) rfl rfl rfl ?_
          refine WL.cut 3 (fun f w => f 9 = (.int .i64 t5) ∧ f 11 = (.int .i64 t7) ∧ f 50 = .bool ((!t6) || (!t8)) ∧ Inv w0 w [mapI (K := GKey) (V := Int) m1 t4]) ?_ ?_
          · skip
            rcases bool_ft (!t6) with hc5 | hc5
            · skip
              refine WL.reset (i := 47) (v := .bool false) (congrArg Value.bool hc5) ?_
              refine O.move (v := (.bool t8)) rfl rfl rfl ?_
              refine O.not rfl rfl rfl ?_
              refine O.pick_false (v := (.bool (!t8))) rfl rfl rfl rfl ?_
              refine WL.nil ?_
              exact ⟨rfl, rfl, congrArg Value.bool (or_f hc5), H⟩
            · skip
              refine WL.reset (i := 47) (v := .bool true) (congrArg Value.bool hc5) ?_
              refine O.skip rfl rfl ?_
              refine O.skip rfl rfl ?_
              refine O.pick_true (v := (.bool true)) rfl rfl rfl rfl ?_
              refine WL.nil ?_
              exact ⟨rfl, rfl, congrArg Value.bool (or_t hc5), H⟩
          · skip
            rintro f w ⟨hf9, hf11, hf50, H⟩
            obtain ⟨u3, rfl⟩ : ∃ u3, f = (upd (upd (upd u3 9 (.int .i64 t5)) 11 (.int .i64 t7)) 50 (.bool ((!t6) || (!t8)))) := ⟨f, by rw [upd_self hf9, upd_self hf11, upd_self hf50]⟩
            refine WL.nil ?_
            rcases ite_some hm with ⟨hc6, hm⟩ | ⟨hc6, hm⟩
            · refine W.cond_true (congrArg Value.bool hc6) ?_
              refine W.seq ?_
              refine W.region ?_
              refine O.assign (v := (.int .i64 0)) rfl rfl rfl ?_
              refine O.assign (v := (.int .i64 8)) rfl rfl rfl ?_
              refine WL.nil ?_
              refine W.ret ?_
              have hq : (0, 8) = (r0, r1) := Option.some.inj (show some (0, 8) = some (r0, r1) from hm)
              obtain ⟨he0, hq0⟩ := Prod.mk.inj hq; clear hq; subst he0
              subst hq0
              exact ends2 Try.results23 rfl rfl ⟨_, rfl, H.base, rfl⟩
            · refine W.cond_false (congrArg Value.bool hc6) ?_
              refine W.skip ?_
              refine W.seq ?_
              refine W.region ?_
              refine O.move (v := (.int .i64 t7)) rfl rfl rfl ?_
              refine O.move (v := (.int .i64 t5)) rfl rfl rfl ?_
              obtain ⟨t9, ht9, hm⟩ := bind_some hm
              refine O.sub rfl rfl rfl rfl ht9 ?_
              refine O.assign (v := (.int .i64 t9)) rfl rfl rfl ?_
              refine O.assign (v := (.int .i64 0)) rfl rfl rfl ?_
              refine WL.nil ?_
              refine W.ret ?_
              have hq : (t9, 0) = (r0, r1) := Option.some.inj (show some (t9, 0) = some (r0, r1) from hm)
              obtain ⟨he0, hq0⟩ := Prod.mk.inj hq; clear hq; subst he0
              subst hq0
              exact ends2 Try.results23 rfl rfl ⟨_, rfl, H.base, rfl⟩

set_option maxRecDepth 20000 in
theorem c_noongunref09_Rated {w0 : World} (va0 : Value) (a0 : (List GEntry)) (ha0 : SliceR w0 va0 a0) (a1 : Int) (a2 : Int) {r0 : Int} {r1 : Int} (hm : noongunref09_Rated a0 a1 a2 = some (r0, r1)) :
    Calls Try.prog 24 #[va0, (.int .i64 a1), (.int .i64 a2)] w0 (Ret w0 fun _ v => v = .tuple #[(.int .i64 r0), (.int .i64 r1)]) := by
  unfold noongunref09_Rated at hm
  refine calls_of_W Try.func24 rfl Try.ntmps24 (Nat.le_of_ble_eq_true rfl) ?_
  have H := Inv.start (w := w0)
  refine W.seq ?_
  refine W.region ?_
  refine O.assign (v := (.int .i64 0)) rfl rfl rfl ?_
  refine O.assign (v := (.int .i64 0)) rfl rfl rfl ?_
  refine WL.nil ?_
  refine W.seq ?_
  refine W.seq ?_
  refine W.region ?_
  refine O.move (v := va0) rfl rfl rfl ?_
  obtain ⟨t1, hy1, hm⟩ := bind_some hm
  refine O.call Try.call21 rfl rfl rfl (c_noongunref09_Valid _ _ (H.arg ha0) hy1) ?_
  rintro _ w1 hb1 rfl
  have H := H.ext hb1
  refine O.not rfl rfl rfl ?_
  refine WL.nil ?_
  rcases ite_some hm with ⟨hc1, hm⟩ | ⟨hc1, hm⟩
  · refine W.cond_true (congrArg Value.bool hc1) ?_
    refine W.seq ?_
    refine W.region ?_
    refine O.assign (v := (.int .i64 0)) rfl rfl rfl ?_
    refine O.assign (v := (.int .i64 1)) rfl rfl rfl ?_
    refine WL.nil ?_
    refine W.ret ?_
    have hq : (0, 1) = (r0, r1) := Option.some.inj (show some (0, 1) = some (r0, r1) from hm)
    obtain ⟨he0, hq0⟩ := Prod.mk.inj hq; clear hq; subst he0
    subst hq0
    exact ends2 Try.results24 rfl rfl ⟨_, rfl, H.base, rfl⟩
  · refine W.cond_false (congrArg Value.bool hc1) ?_
    refine W.skip ?_
    refine W.seq ?_
    refine W.seq ?_
    refine W.region ?_
    refine O.move (v := (.int .i64 a1)) rfl rfl rfl ?_
    obtain ⟨t2, hy2, hm⟩ := bind_some hm
    refine O.call Try.call68 rfl rfl rfl (c_noongunref09_day _ hy2) ?_
    rintro _ w2 hb2 rfl
    have H := H.ext hb2
    refine O.not rfl rfl rfl ?_
    refine O.move (v := (.bool (!t2))) rfl rfl rfl ?_
    obtain ⟨b1, hm1, hm⟩ := bind_some hm
    refine WL.cut 4 (fun f w => f 0 = va0 ∧ f 1 = (.int .i64 a1) ∧ f 2 = (.int .i64 a2) ∧ f 22 = .bool b1 ∧ Inv w0 w []) ?_ ?_
    · skip
      rcases ite_some hm1 with ⟨hc2, hm1⟩ | ⟨hc2, hm1⟩
      · skip
        refine WL.reset (i := 18) (v := .bool true) (congrArg Value.bool hc2) ?_
        refine O.skip rfl rfl ?_
        refine O.skip rfl rfl ?_
        refine O.skip rfl rfl ?_
        refine O.pick_true (v := (.bool true)) rfl rfl rfl rfl ?_
        refine WL.nil ?_
        have hq : true = b1 := Option.some.inj (show some true = some b1 from hm1)
        subst hq
        exact ⟨rfl, rfl, rfl, rfl, H⟩
      · skip
        refine WL.reset (i := 18) (v := .bool false) (congrArg Value.bool hc2) ?_
        refine O.move (v := (.int .i64 a2)) rfl rfl rfl ?_
        obtain ⟨t3, hy3, hm1⟩ := bind_some hm1
        refine O.call Try.call68 rfl rfl rfl (c_noongunref09_day _ hy3) ?_
        rintro _ w3 hb3 rfl
        have H := H.ext hb3
        refine O.not rfl rfl rfl ?_
        refine O.pick_false (v := (.bool (!t3))) rfl rfl rfl rfl ?_
        refine WL.nil ?_
        have hq : (!t3) = b1 := Option.some.inj (show some (!t3) = some b1 from hm1)
        subst hq
        exact ⟨rfl, rfl, rfl, rfl, H⟩
    · skip
      rintro f w ⟨hf0, hf1, hf2, hf22, H⟩
      obtain ⟨u1, rfl⟩ : ∃ u1, f = (upd (upd (upd (upd u1 0 va0) 1 (.int .i64 a1)) 2 (.int .i64 a2)) 22 (.bool b1)) := ⟨f, by rw [upd_self hf0, upd_self hf1, upd_self hf2, upd_self hf22]⟩
      refine O.move (v := (.bool b1)) rfl rfl rfl ?_
      refine WL.cut 4 (fun f w => f 0 = va0 ∧ f 1 = (.int .i64 a1) ∧ f 2 = (.int .i64 a2) ∧ f 27 = .bool (b1 || (decide (a2 ≤ a1))) ∧ Inv w0 w []) ?_ ?_
      · skip
        rcases bool_ft b1 with hc3 | hc3
        · skip
          refine WL.reset (i := 23) (v := .bool false) (congrArg Value.bool hc3) ?_
          refine O.move (v := (.int .i64 a1)) rfl rfl rfl ?_
          refine O.move (v := (.int .i64 a2)) rfl rfl rfl ?_
          refine O.geq rfl rfl rfl rfl ?_
          refine O.pick_false (v := (.bool (decide (a2 ≤ a1)))) rfl rfl rfl rfl ?_
          refine WL.nil ?_
          exact ⟨rfl, rfl, rfl, congrArg Value.bool (or_f hc3), H⟩
        · skip
          refine WL.reset (i := 23) (v := .bool true) (congrArg Value.bool hc3) ?_
          refine O.skip rfl rfl ?_
          refine O.skip rfl rfl ?_
          refine O.skip rfl rfl ?_
          refine O.pick_true (v := (.bool true)) rfl rfl rfl rfl ?_
          refine WL.nil ?_
          exact ⟨rfl, rfl, rfl, congrArg Value.bool (or_t hc3), H⟩
      · skip
        rintro f w ⟨hf0, hf1, hf2, hf27, H⟩
        obtain ⟨u2, rfl⟩ : ∃ u2, f = (upd (upd (upd (upd u2 0 va0) 1 (.int .i64 a1)) 2 (.int .i64 a2)) 27 (.bool (b1 || (decide (a2 ≤ a1))))) := ⟨f, by rw [upd_self hf0, upd_self hf1, upd_self hf2, upd_self hf27]⟩
        refine WL.nil ?_
        rcases ite_some hm with ⟨hc4, hm⟩ | ⟨hc4, hm⟩
        · refine W.cond_true (congrArg Value.bool hc4) ?_
          refine W.seq ?_
          refine W.region ?_
          refine O.assign (v := (.int .i64 0)) rfl rfl rfl ?_
          refine O.assign (v := (.int .i64 7)) rfl rfl rfl ?_
          refine WL.nil ?_
          refine W.ret ?_
          have hq : (0, 7) = (r0, r1) := Option.some.inj (show some (0, 7) = some (r0, r1) from hm)
          obtain ⟨he0, hq0⟩ := Prod.mk.inj hq; clear hq; subst he0
          subst hq0
          exact ends2 Try.results24 rfl rfl ⟨_, rfl, H.base, rfl⟩
        · refine W.cond_false (congrArg Value.bool hc4) ?_
          refine W.skip ?_
          refine W.seq ?_
          refine W.region ?_
          refine O.move (v := va0) rfl rfl rfl ?_
          refine O.move (v := (.int .i64 a1)) rfl rfl rfl ?_
          obtain ⟨⟨t4, t5⟩, hy4, hm⟩ := bind_some hm
          refine O.call Try.call61 rfl rfl rfl (c_noongunref09_off _ _ (H.arg ha0) _ hy4) ?_
          rintro _ w4 hb4 rfl
          have H := H.ext hb4
          refine O.move (v := (.tuple #[(.int .i64 t4), (.bool t5)])) rfl rfl rfl ?_
          refine O.extract (v := (.int .i64 t4)) rfl rfl rfl rfl ?_
          refine O.extract (v := (.bool t5)) rfl rfl rfl rfl ?_
          refine O.assign (v := (.int .i64 t4)) rfl rfl rfl ?_
          refine O.assign (v := (.bool t5)) rfl rfl rfl ?_
          refine WL.nil ?_
          refine W.seq ?_
          refine W.region ?_
          refine O.move (v := va0) rfl rfl rfl ?_
          refine O.move (v := (.int .i64 a2)) rfl rfl rfl ?_
          obtain ⟨⟨t6, t7⟩, hy5, hm⟩ := bind_some hm
          refine O.call Try.call61 rfl rfl rfl (c_noongunref09_off _ _ (H.arg ha0) _ hy5) ?_
          rintro _ w5 hb5 rfl
          have H := H.ext hb5
          refine O.move (v := (.tuple #[(.int .i64 t6), (.bool t7)])) rfl rfl rfl ?_
          refine O.extract (v := (.int .i64 t6)) rfl rfl rfl rfl ?_
          refine O.extract (v := (.bool t7)) rfl rfl rfl rfl ?_
          refine O.assign (v := (.int .i64 t6)) rfl rfl rfl ?_
          refine O.assign (v := (.bool t7)) rfl rfl rfl ?_
          refine WL.nil ?_
          refine W.seq ?_
          refine W.seq ?_
          refine W.region ?_
          refine O.move (v := (.bool t5)) rfl rfl rfl ?_
          refine O.not rfl rfl rfl ?_
          refine O.move (v := (.bool (!t5))) rfl rfl rfl ?_
          refine WL.cut 3 (fun f w => f 8 = (.int .i64 t4) ∧ f 10 = (.int .i64 t6) ∧ f 45 = .bool ((!t5) || (!t7)) ∧ Inv w0 w []) ?_ ?_
          · skip
            rcases bool_ft (!t5) with hc5 | hc5
            · skip
              refine WL.reset (i := 42) (v := .bool false) (congrArg Value.bool hc5) ?_
              refine O.move (v := (.bool t7)) rfl rfl rfl ?_
              refine O.not rfl rfl rfl ?_
              refine O.pick_false (v := (.bool (!t7))) rfl rfl rfl rfl ?_
              refine WL.nil ?_
              exact ⟨rfl, rfl, congrArg Value.bool (or_f hc5), H⟩
            · skip
              refine WL.reset (i := 42) (v := .bool true) (congrArg Value.bool hc5) ?_
              refine O.skip rfl rfl ?_
              refine O.skip rfl rfl ?_
              refine O.pick_true (v := (.bool true)) rfl rfl rfl rfl ?_
              refine WL.nil ?_
              exact ⟨rfl, rfl, congrArg Value.bool (or_t hc5), H⟩
          · skip
            rintro f w ⟨hf8, hf10, hf45, H⟩
            obtain ⟨u3, rfl⟩ : ∃ u3, f = (upd (upd (upd u3 8 (.int .i64 t4)) 10 (.int .i64 t6)) 45 (.bool ((!t5) || (!t7)))) := ⟨f, by rw [upd_self hf8, upd_self hf10, upd_self hf45]⟩
            refine WL.nil ?_
            rcases ite_some hm with ⟨hc6, hm⟩ | ⟨hc6, hm⟩
            · refine W.cond_true (congrArg Value.bool hc6) ?_
              refine W.seq ?_
              refine W.region ?_
              refine O.assign (v := (.int .i64 0)) rfl rfl rfl ?_
              refine O.assign (v := (.int .i64 8)) rfl rfl rfl ?_
              refine WL.nil ?_
              refine W.ret ?_
              have hq : (0, 8) = (r0, r1) := Option.some.inj (show some (0, 8) = some (r0, r1) from hm)
              obtain ⟨he0, hq0⟩ := Prod.mk.inj hq; clear hq; subst he0
              subst hq0
              exact ends2 Try.results24 rfl rfl ⟨_, rfl, H.base, rfl⟩
            · refine W.cond_false (congrArg Value.bool hc6) ?_
              refine W.skip ?_
              refine W.seq ?_
              refine W.region ?_
              refine O.move (v := (.int .i64 t6)) rfl rfl rfl ?_
              refine O.move (v := (.int .i64 t4)) rfl rfl rfl ?_
              obtain ⟨t8, ht8, hm⟩ := bind_some hm
              refine O.sub rfl rfl rfl rfl ht8 ?_
              refine O.assign (v := (.int .i64 t8)) rfl rfl rfl ?_
              refine O.assign (v := (.int .i64 0)) rfl rfl rfl ?_
              refine WL.nil ?_
              refine W.ret ?_
              have hq : (t8, 0) = (r0, r1) := Option.some.inj (show some (t8, 0) = some (r0, r1) from hm)
              obtain ⟨he0, hq0⟩ := Prod.mk.inj hq; clear hq; subst he0
              subst hq0
              exact ends2 Try.results24 rfl rfl ⟨_, rfl, H.base, rfl⟩

set_option maxRecDepth 20000 in
theorem c_noongunlaw09_LedgerRated {w0 : World} (va0 : Value) (a0 : (List GEntry)) (ha0 : SliceR w0 va0 a0) (a1 : Int) (a2 : Int) (a3 : Int) {r0 : Bool} (hm : noongunlaw09_LedgerRated a0 a1 a2 a3 = some r0) :
    Calls Try.prog 4 #[va0, (.int .i64 a1), (.int .i64 a2), (.int .i64 a3)] w0 (Ret w0 fun _ v => v = (.bool r0)) := by
  unfold noongunlaw09_LedgerRated at hm
  refine calls_of_W Try.func4 rfl Try.ntmps4 (Nat.le_of_ble_eq_true rfl) ?_
  have H := Inv.start (w := w0)
  refine W.seq ?_
  refine W.region ?_
  refine O.assign (v := (.bool false)) rfl rfl rfl ?_
  refine WL.nil ?_
  refine W.seq ?_
  refine W.seq ?_
  refine W.region ?_
  refine O.move (v := va0) rfl rfl rfl ?_
  obtain ⟨t1, hy1, hm⟩ := bind_some hm
  refine O.call Try.call22 rfl rfl rfl (c_noongunlaw09_small _ _ (H.arg ha0) hy1) ?_
  rintro _ w1 hb1 rfl
  have H := H.ext hb1
  refine O.not rfl rfl rfl ?_
  refine WL.nil ?_
  rcases ite_some hm with ⟨hc1, hm⟩ | ⟨hc1, hm⟩
  · refine W.cond_true (congrArg Value.bool hc1) ?_
    refine W.seq ?_
    refine W.region ?_
    obtain ⟨t2, hy2, hm⟩ := bind_some hm
    refine O.call Try.call13 rfl rfl rfl (c_noongunlaw09_awake  hy2) ?_
    rintro _ w2 hb2 rfl
    have H := H.ext hb2
    refine O.assign (v := (.bool t2)) rfl rfl rfl ?_
    refine WL.nil ?_
    refine W.ret ?_
    have hq : t2 = r0 := Option.some.inj (show some t2 = some r0 from hm)
    subst hq
    exact ends1 Try.results4 rfl ⟨_, rfl, H.base, rfl⟩
  · refine W.cond_false (congrArg Value.bool hc1) ?_
    refine W.skip ?_
    refine W.seq ?_
    refine W.region ?_
    refine O.move (v := va0) rfl rfl rfl ?_
    refine O.move (v := (.int .i64 a1)) rfl rfl rfl ?_
    refine O.move (v := (.int .i64 a2)) rfl rfl rfl ?_
    obtain ⟨⟨t3, t4⟩, hy3, hm⟩ := bind_some hm
    refine O.call Try.call23 rfl rfl rfl (c_ledger_Rated _ _ (H.arg ha0) _ _ hy3) ?_
    rintro _ w3 hb3 rfl
    have H := H.ext hb3
    refine O.move (v := (.tuple #[(.int .i64 t3), (.int .i64 t4)])) rfl rfl rfl ?_
    refine O.extract (v := (.int .i64 t3)) rfl rfl rfl rfl ?_
    refine O.extract (v := (.int .i64 t4)) rfl rfl rfl rfl ?_
    refine O.assign (v := (.int .i64 t3)) rfl rfl rfl ?_
    refine O.assign (v := (.int .i64 t4)) rfl rfl rfl ?_
    refine WL.nil ?_
    refine W.seq ?_
    refine W.region ?_
    refine O.move (v := va0) rfl rfl rfl ?_
    refine O.move (v := (.int .i64 a1)) rfl rfl rfl ?_
    refine O.move (v := (.int .i64 a2)) rfl rfl rfl ?_
    obtain ⟨⟨t5, t6⟩, hy4, hm⟩ := bind_some hm
    refine O.call Try.call24 rfl rfl rfl (c_noongunref09_Rated _ _ (H.arg ha0) _ _ hy4) ?_
    rintro _ w4 hb4 rfl
    have H := H.ext hb4
    refine O.move (v := (.tuple #[(.int .i64 t5), (.int .i64 t6)])) rfl rfl rfl ?_
    refine O.extract (v := (.int .i64 t5)) rfl rfl rfl rfl ?_
    refine O.extract (v := (.int .i64 t6)) rfl rfl rfl rfl ?_
    refine O.assign (v := (.int .i64 t5)) rfl rfl rfl ?_
    refine O.assign (v := (.int .i64 t6)) rfl rfl rfl ?_
    refine WL.nil ?_
    refine W.seq ?_
    refine W.seq ?_
    refine W.region ?_
    refine O.move (v := (.int .i64 t3)) rfl rfl rfl ?_
    refine O.move (v := (.int .i64 t5)) rfl rfl rfl ?_
    refine O.neq rfl rfl rfl rfl ?_
    refine O.move (v := (.bool (t3 != t5))) rfl rfl rfl ?_
    refine WL.cut 4 (fun f w => f 0 = va0 ∧ f 1 = (.int .i64 a1) ∧ f 2 = (.int .i64 a2) ∧ f 3 = (.int .i64 a3) ∧ f 9 = (.int .i64 t3) ∧ f 10 = (.int .i64 t4) ∧ f 42 = .bool ((t3 != t5) || (t4 != t6)) ∧ Inv w0 w []) ?_ ?_
    · skip
      rcases bool_ft (t3 != t5) with hc2 | hc2
      · skip
        refine WL.reset (i := 38) (v := .bool false) (congrArg Value.bool hc2) ?_
        refine O.move (v := (.int .i64 t4)) rfl rfl rfl ?_
        refine O.move (v := (.int .i64 t6)) rfl rfl rfl ?_
        refine O.neq rfl rfl rfl rfl ?_
        refine O.pick_false (v := (.bool (t4 != t6))) rfl rfl rfl rfl ?_
        refine WL.nil ?_
        exact ⟨rfl, rfl, rfl, rfl, rfl, rfl, congrArg Value.bool (or_f hc2), H⟩
      · skip
        refine WL.reset (i := 38) (v := .bool true) (congrArg Value.bool hc2) ?_
        refine O.skip rfl rfl ?_
        refine O.skip rfl rfl ?_
        refine O.skip rfl rfl ?_
        refine O.pick_true (v := (.bool true)) rfl rfl rfl rfl ?_
        refine WL.nil ?_
        exact ⟨rfl, rfl, rfl, rfl, rfl, rfl, congrArg Value.bool (or_t hc2), H⟩
    · skip
      rintro f w ⟨hf0, hf1, hf2, hf3, hf9, hf10, hf42, H⟩
      obtain ⟨u1, rfl⟩ : ∃ u1, f = (upd (upd (upd (upd (upd (upd (upd u1 0 va0) 1 (.int .i64 a1)) 2 (.int .i64 a2)) 3 (.int .i64 a3)) 9 (.int .i64 t3)) 10 (.int .i64 t4)) 42 (.bool ((t3 != t5) || (t4 != t6)))) := ⟨f, by rw [upd_self hf0, upd_self hf1, upd_self hf2, upd_self hf3, upd_self hf9, upd_self hf10, upd_self hf42]⟩
      refine WL.nil ?_
      rcases ite_some hm with ⟨hc3, hm⟩ | ⟨hc3, hm⟩
      · refine W.cond_true (congrArg Value.bool hc3) ?_
        refine W.seq ?_
        refine W.region ?_
        refine O.assign (v := (.bool false)) rfl rfl rfl ?_
        refine WL.nil ?_
        refine W.ret ?_
        have hq : false = r0 := Option.some.inj (show some false = some r0 from hm)
        subst hq
        exact ends1 Try.results4 rfl ⟨_, rfl, H.base, rfl⟩
      · refine W.cond_false (congrArg Value.bool hc3) ?_
        refine W.skip ?_
        refine W.seq ?_
        refine W.region ?_
        refine O.move (v := va0) rfl rfl rfl ?_
        refine O.move (v := (.int .i64 a2)) rfl rfl rfl ?_
        refine O.move (v := (.int .i64 a3)) rfl rfl rfl ?_
        obtain ⟨⟨t7, t8⟩, hy5, hm⟩ := bind_some hm
        refine O.call Try.call23 rfl rfl rfl (c_ledger_Rated _ _ (H.arg ha0) _ _ hy5) ?_
        rintro _ w5 hb5 rfl
        have H := H.ext hb5
        refine O.move (v := (.tuple #[(.int .i64 t7), (.int .i64 t8)])) rfl rfl rfl ?_
        refine O.extract (v := (.int .i64 t7)) rfl rfl rfl rfl ?_
        refine O.extract (v := (.int .i64 t8)) rfl rfl rfl rfl ?_
        refine O.assign (v := (.int .i64 t7)) rfl rfl rfl ?_
        refine O.assign (v := (.int .i64 t8)) rfl rfl rfl ?_
        refine WL.nil ?_
        refine W.seq ?_
        refine W.seq ?_
        refine W.region ?_
        refine O.move (v := (.int .i64 t4)) rfl rfl rfl ?_
        refine O.neq rfl rfl rfl rfl ?_
        refine O.move (v := (.bool (t4 != 0))) rfl rfl rfl ?_
        refine WL.cut 3 (fun f w => f 0 = va0 ∧ f 1 = (.int .i64 a1) ∧ f 3 = (.int .i64 a3) ∧ f 9 = (.int .i64 t3) ∧ f 13 = (.int .i64 t7) ∧ f 55 = .bool ((t4 != 0) || (t8 != 0)) ∧ Inv w0 w []) ?_ ?_
        · skip
          rcases bool_ft (t4 != 0) with hc4 | hc4
          · skip
            refine WL.reset (i := 52) (v := .bool false) (congrArg Value.bool hc4) ?_
            refine O.move (v := (.int .i64 t8)) rfl rfl rfl ?_
            refine O.neq rfl rfl rfl rfl ?_
            refine O.pick_false (v := (.bool (t8 != 0))) rfl rfl rfl rfl ?_
            refine WL.nil ?_
            exact ⟨rfl, rfl, rfl, rfl, rfl, congrArg Value.bool (or_f hc4), H⟩
          · skip
            refine WL.reset (i := 52) (v := .bool true) (congrArg Value.bool hc4) ?_
            refine O.skip rfl rfl ?_
            refine O.skip rfl rfl ?_
            refine O.pick_true (v := (.bool true)) rfl rfl rfl rfl ?_
            refine WL.nil ?_
            exact ⟨rfl, rfl, rfl, rfl, rfl, congrArg Value.bool (or_t hc4), H⟩
        · skip
          rintro f w ⟨hf0, hf1, hf3, hf9, hf13, hf55, H⟩
          obtain ⟨u2, rfl⟩ : ∃ u2, f = (upd (upd (upd (upd (upd (upd u2 0 va0) 1 (.int .i64 a1)) 3 (.int .i64 a3)) 9 (.int .i64 t3)) 13 (.int .i64 t7)) 55 (.bool ((t4 != 0) || (t8 != 0)))) := ⟨f, by rw [upd_self hf0, upd_self hf1, upd_self hf3, upd_self hf9, upd_self hf13, upd_self hf55]⟩
          refine WL.nil ?_
          rcases ite_some hm with ⟨hc5, hm⟩ | ⟨hc5, hm⟩
          · refine W.cond_true (congrArg Value.bool hc5) ?_
            refine W.seq ?_
            refine W.region ?_
            obtain ⟨t9, hy6, hm⟩ := bind_some hm
            refine O.call Try.call13 rfl rfl rfl (c_noongunlaw09_awake  hy6) ?_
            rintro _ w6 hb6 rfl
            have H := H.ext hb6
            refine O.assign (v := (.bool t9)) rfl rfl rfl ?_
            refine WL.nil ?_
            refine W.ret ?_
            have hq : t9 = r0 := Option.some.inj (show some t9 = some r0 from hm)
            subst hq
            exact ends1 Try.results4 rfl ⟨_, rfl, H.base, rfl⟩
          · refine W.cond_false (congrArg Value.bool hc5) ?_
            refine W.skip ?_
            refine W.seq ?_
            refine W.region ?_
            refine O.move (v := va0) rfl rfl rfl ?_
            refine O.move (v := (.int .i64 a1)) rfl rfl rfl ?_
            refine O.move (v := (.int .i64 a3)) rfl rfl rfl ?_
            obtain ⟨⟨t10, t11⟩, hy7, hm⟩ := bind_some hm
            refine O.call Try.call23 rfl rfl rfl (c_ledger_Rated _ _ (H.arg ha0) _ _ hy7) ?_
            rintro _ w7 hb7 rfl
            have H := H.ext hb7
            refine O.move (v := (.tuple #[(.int .i64 t10), (.int .i64 t11)])) rfl rfl rfl ?_
            refine O.extract (v := (.int .i64 t10)) rfl rfl rfl rfl ?_
            refine O.extract (v := (.int .i64 t11)) rfl rfl rfl rfl ?_
            refine O.assign (v := (.int .i64 t10)) rfl rfl rfl ?_
            refine O.assign (v := (.int .i64 t11)) rfl rfl rfl ?_
            refine WL.nil ?_
            refine W.seq ?_
            refine W.region ?_
            refine O.move (v := (.int .i64 t11)) rfl rfl rfl ?_
            refine O.eql rfl rfl rfl rfl ?_
            refine O.move (v := (.bool (t11 == 0))) rfl rfl rfl ?_
            obtain ⟨b1, hm1, hm⟩ := bind_some hm
            refine WL.cut 6 (fun f w => f 72 = .bool b1 ∧ Inv w0 w []) ?_ ?_
            · skip
              rcases ite_some hm1 with ⟨hc6, hm1⟩ | ⟨hc6, hm1⟩
              · skip
                refine WL.reset (i := 66) (v := .bool true) (congrArg Value.bool hc6) ?_
                refine O.move (v := (.int .i64 t10)) rfl rfl rfl ?_
                refine O.move (v := (.int .i64 t3)) rfl rfl rfl ?_
                refine O.move (v := (.int .i64 t7)) rfl rfl rfl ?_
                obtain ⟨t12, ht12, hm1⟩ := bind_some hm1
                refine O.add rfl rfl rfl rfl ht12 ?_
                refine O.eql rfl rfl rfl rfl ?_
                refine O.pick_true (v := (.bool (t10 == t12))) rfl rfl rfl rfl ?_
                refine WL.nil ?_
                have hq : (t10 == t12) = b1 := Option.some.inj (show some (t10 == t12) = some b1 from hm1)
                subst hq
                exact ⟨rfl, H⟩
              · skip
                refine WL.reset (i := 66) (v := .bool false) (congrArg Value.bool hc6) ?_
                refine O.skip rfl rfl ?_
                refine O.skip rfl rfl ?_
                refine O.skip rfl rfl ?_
                refine O.skip rfl rfl ?_
                refine O.skip rfl rfl ?_
                refine O.pick_false (v := (.bool false)) rfl rfl rfl rfl ?_
                refine WL.nil ?_
                have hq : false = b1 := Option.some.inj (show some false = some b1 from hm1)
                subst hq
                exact ⟨rfl, H⟩
            · skip
              rintro f w ⟨hf72, H⟩
              obtain ⟨u3, rfl⟩ : ∃ u3, f = (upd u3 72 (.bool b1)) := ⟨f, by rw [upd_self hf72]⟩
              refine O.move (v := (.bool b1)) rfl rfl rfl ?_
              obtain ⟨b2, hm2, hm⟩ := bind_some hm
              refine WL.cut 2 (fun f w => f 75 = .bool b2 ∧ Inv w0 w []) ?_ ?_
              · skip
                rcases ite_some hm2 with ⟨hc7, hm2⟩ | ⟨hc7, hm2⟩
                · skip
                  refine WL.reset (i := 73) (v := .bool true) (congrArg Value.bool hc7) ?_
                  obtain ⟨t13, hy8, hm2⟩ := bind_some hm2
                  refine O.call Try.call13 rfl rfl rfl (c_noongunlaw09_awake  hy8) ?_
                  rintro _ w8 hb8 rfl
                  have H := H.ext hb8
                  refine O.pick_true (v := (.bool t13)) rfl rfl rfl rfl ?_
                  refine WL.nil ?_
                  have hq : t13 = b2 := Option.some.inj (show some t13 = some b2 from hm2)
                  subst hq
                  exact ⟨rfl, H⟩
                · skip
                  refine WL.reset (i := 73) (v := .bool false) (congrArg Value.bool hc7) ?_
                  refine O.skip rfl rfl ?_
                  refine O.pick_false (v := (.bool false)) rfl rfl rfl rfl ?_
                  refine WL.nil ?_
                  have hq : false = b2 := Option.some.inj (show some false = some b2 from hm2)
                  subst hq
                  exact ⟨rfl, H⟩
              · skip
                rintro f w ⟨hf75, H⟩
                obtain ⟨u4, rfl⟩ : ∃ u4, f = (upd u4 75 (.bool b2)) := ⟨f, by rw [upd_self hf75]⟩
                refine O.assign (v := (.bool b2)) rfl rfl rfl ?_
                refine WL.nil ?_
                refine W.ret ?_
                have hq : b2 = r0 := Option.some.inj (show some b2 = some r0 from hm)
                subst hq
                exact ends1 Try.results4 rfl ⟨_, rfl, H.base, rfl⟩

theorem c_slices_Clone_Entry {w0 : World} (va0 : Value) (a0 : (List GEntry)) (ha0 : SliceR w0 va0 a0) {r0 : (List GEntry)} (hm : slices_Clone_Entry a0 = some r0) :
    Calls Try.prog 69 #[va0] w0 (Ret w0 fun w v => OwnR w0 w v 32 r0) := by
  unfold slices_Clone_Entry at hm
  refine calls_of_W Try.func69 rfl Try.ntmps69 (Nat.le_of_ble_eq_true rfl) ?_
  have H := Inv.start (w := w0)
  refine W.seq ?_
  refine W.region ?_
  have H := H.addNil (α := GEntry) (E := 32)
  refine O.assign (v := (.slice none 0 0)) rfl rfl rfl ?_
  refine WL.nil ?_
  refine W.seq ?_
  refine W.seq ?_
  refine W.region ?_
  refine O.move (v := va0) rfl rfl rfl ?_
  rcases ha0.nil_or with ⟨rfl, rfl⟩ | ⟨ad, cap, rfl⟩
  · skip
    replace hm : (some ([] : List GEntry)) = some r0 := by simpa [appI] using hm
    refine O.eqlNil Try.underlying22 rfl rfl rfl rfl ?_
    refine WL.reset (i := 4) (v := .bool true) rfl ?_
    refine WL.nil ?_
    refine W.cond_true rfl ?_
    refine W.seq ?_
    refine W.region ?_
    have H := H.addNil (α := GEntry) (E := 32)
    refine O.assign (v := (.slice none 0 0)) rfl rfl rfl ?_
    refine WL.nil ?_
    refine W.ret ?_
    have hq : ([] : List GEntry) = r0 := Option.some.inj (show some ([] : List GEntry) = some r0 from hm)
    subst hq
    exact ends1 Try.results69 rfl ⟨_, rfl, H.base, H.ownR 1 rfl⟩
  · skip
    refine O.eqlNil Try.underlying22 rfl rfl rfl rfl ?_
    refine WL.reset (i := 4) (v := .bool false) rfl ?_
    refine WL.nil ?_
    refine W.cond_false rfl ?_
    refine W.skip ?_
    refine W.seq ?_
    refine W.region ?_
    refine O.buildEmpty (α := GEntry) Try.underlying22 el32 H rfl rfl ?_
    intro b1 w1 H hb1
    refine O.move (v := (.slice (some ad) a0.length cap)) rfl rfl rfl ?_
    obtain ⟨t1, ht1, hm⟩ := bind_some hm
    refine O.append 1 Try.underlying22 el32 rfl H rfl (H.arg ha0) ht1 rfl rfl rfl rfl ?_
    intro v1 w2 H
    refine O.assign (v := v1) rfl rfl rfl ?_
    refine WL.nil ?_
    refine W.ret ?_
    have hq : t1 = r0 := Option.some.inj (show some t1 = some r0 from hm)
    subst hq
    exact ends1 Try.results69 rfl ⟨_, rfl, H.base, H.ownR 1 rfl⟩

set_option maxRecDepth 20000 in
theorem c_ledger_Added {w0 : World} (va0 : Value) (a0 : (List GEntry)) (ha0 : SliceR w0 va0 a0) (a1 : GEntry) {r0 : (List GEntry)} {r1 : Int} (hm : ledger_Added a0 a1 = some (r0, r1)) :
    Calls Try.prog 25 #[va0, (.agg (Flat.cells a1).toArray)] w0 (Ret w0 fun w v => ∃ vr0 : Value, v = .tuple #[vr0, (.int .i64 r1)] ∧ OwnR w0 w vr0 32 r0) := by
  unfold ledger_Added at hm
  refine calls_of_W Try.func25 rfl Try.ntmps25 (Nat.le_of_ble_eq_true rfl) ?_
  have H := Inv.start (w := w0)
  refine W.seq ?_
  refine W.region ?_
  refine O.box [(.int .i64 a1.Day), (.bool a1.Found), (.int .i64 a1.Error)] H rfl rfl rfl rfl ?_
  intro b1 w1 H hb1
  have H := H.addNil (α := GEntry) (E := 32)
  refine O.assign (v := (.slice none 0 0)) rfl rfl rfl ?_
  refine O.assign (v := (.int .i64 0)) rfl rfl rfl ?_
  refine WL.nil ?_
  refine W.seq ?_
  refine W.block ?_
  refine W.seq ?_
  refine W.region ?_
  refine O.move (v := va0) rfl rfl rfl ?_
  obtain ⟨t1, hy1, hm⟩ := bind_some hm
  refine O.call Try.call20 rfl rfl rfl (c_ledger_Valid _ _ (H.arg ha0) hy1) ?_
  rintro _ w2 hb2 rfl
  have H := H.ext hb2
  refine O.not rfl rfl rfl ?_
  refine O.move (v := (.bool (!t1))) rfl rfl rfl ?_
  obtain ⟨b2, hm1, hm⟩ := bind_some hm
  refine WL.cut 4 (fun f w => f 0 = va0 ∧ f 3 = (.pointer (some ⟨b1, 0, none⟩)) ∧ f 14 = .bool b2 ∧ Inv w0 w [boxI b1 32 [(.int .i64 a1.Day), (.bool a1.Found), (.int .i64 a1.Error)], ownI (α := GEntry) (.slice none 0 0) 32 ([] : List GEntry)]) ?_ ?_
  · skip
    rcases ite_some hm1 with ⟨hc1, hm1⟩ | ⟨hc1, hm1⟩
    · skip
      refine WL.reset (i := 10) (v := .bool true) (congrArg Value.bool hc1) ?_
      refine O.skip rfl rfl ?_
      refine O.skip rfl rfl ?_
      refine O.skip rfl rfl ?_
      refine O.pick_true (v := (.bool true)) rfl rfl rfl rfl ?_
      refine WL.nil ?_
      have hq : true = b2 := Option.some.inj (show some true = some b2 from hm1)
      subst hq
      exact ⟨rfl, rfl, rfl, H⟩
    · skip
      refine WL.reset (i := 10) (v := .bool false) (congrArg Value.bool hc1) ?_
      refine O.loadA [(.int .i64 a1.Day), (.bool a1.Found), (.int .i64 a1.Error)] ag32 rfl rfl rfl rfl (H.cell 0 rfl) ?_
      obtain ⟨t2, hy2, hm1⟩ := bind_some hm1
      refine O.call Try.call64 rfl rfl rfl (c_ledger_fine a1 hy2) ?_
      rintro _ w3 hb3 rfl
      have H := H.ext hb3
      refine O.not rfl rfl rfl ?_
      refine O.pick_false (v := (.bool (!t2))) rfl rfl rfl rfl ?_
      refine WL.nil ?_
      have hq : (!t2) = b2 := Option.some.inj (show some (!t2) = some b2 from hm1)
      subst hq
      exact ⟨rfl, rfl, rfl, H⟩
  · skip
    rintro f w ⟨hf0, hf3, hf14, H⟩
    obtain ⟨u1, rfl⟩ : ∃ u1, f = (upd (upd (upd u1 0 va0) 3 (.pointer (some ⟨b1, 0, none⟩))) 14 (.bool b2)) := ⟨f, by rw [upd_self hf0, upd_self hf3, upd_self hf14]⟩
    refine O.assign (v := (.bool b2)) rfl rfl rfl ?_
    refine WL.nil ?_
    rcases ite_some hm with ⟨hc2, hm⟩ | ⟨hc2, hm⟩
    · refine W.cond_true (congrArg Value.bool hc2) ?_
      refine W.seq ?_
      refine W.region ?_
      have H := H.addNil (α := GEntry) (E := 32)
      refine O.assign (v := (.slice none 0 0)) rfl rfl rfl ?_
      refine O.assign (v := (.int .i64 1)) rfl rfl rfl ?_
      refine WL.nil ?_
      refine W.ret ?_
      have hq : (([] : List GEntry), 1) = (r0, r1) := Option.some.inj (show some (([] : List GEntry), 1) = some (r0, r1) from hm)
      obtain ⟨he0, hq0⟩ := Prod.mk.inj hq; clear hq; subst he0
      subst hq0
      exact ends2 Try.results25 rfl rfl ⟨_, rfl, H.base, ⟨_, rfl, H.ownR 2 rfl⟩⟩
    · refine W.cond_false (congrArg Value.bool hc2) ?_
      refine W.seq ?_
      refine W.region ?_
      refine O.move (v := va0) rfl rfl rfl ?_
      refine O.lenS Try.underlying22 (H.arg ha0) rfl rfl rfl ?_
      refine O.eql rfl rfl rfl rfl ?_
      refine O.assign (v := (.bool (((a0.length : Nat) : Int) == 1000))) rfl rfl rfl ?_
      refine WL.nil ?_
      rcases ite_some hm with ⟨hc3, hm⟩ | ⟨hc3, hm⟩
      · refine W.cond_true (congrArg Value.bool hc3) ?_
        refine W.seq ?_
        refine W.region ?_
        have H := H.addNil (α := GEntry) (E := 32)
        refine O.assign (v := (.slice none 0 0)) rfl rfl rfl ?_
        refine O.assign (v := (.int .i64 4)) rfl rfl rfl ?_
        refine WL.nil ?_
        refine W.ret ?_
        have hq : (([] : List GEntry), 4) = (r0, r1) := Option.some.inj (show some (([] : List GEntry), 4) = some (r0, r1) from hm)
        obtain ⟨he0, hq0⟩ := Prod.mk.inj hq; clear hq; subst he0
        subst hq0
        exact ends2 Try.results25 rfl rfl ⟨_, rfl, H.base, ⟨_, rfl, H.ownR 2 rfl⟩⟩
      · refine W.cond_false (congrArg Value.bool hc3) ?_
        refine W.skip ?_
        refine W.seq ?_
        obtain ⟨t3, hy3, hm⟩ := bind_some hm
        obtain ⟨wd1, rfl⟩ : ∃ x, x = w := ⟨w, rfl⟩
        refine W.draw 4 (fun k v wk => match k with | 0 => v = va0 | 1 => OwnR wd1 wk v 32 t3 | 2 => v = (.agg (Flat.cells a1).toArray) | 3 => OwnR wd1 wk v 32 ([a1] : List GEntry) | _ => True) (by intro k v w w' h hb; match k, h with | 0, h => exact h | 1, h => exact OwnR.mono h hb | 2, h => exact h | 3, h => exact OwnR.mono h hb | _ + 4, h => exact h) fol (by kernel_rfl) ?_ ?_
        · skip
          refine ⟨⟨⟨⟨trivial, ?_⟩, ?_⟩, ?_⟩, ?_⟩
          · skip
            intro f wk hx hf hd
            have H := H.ext hx
            have hf0 : f 0 = va0 := hf 0 rfl
            obtain ⟨u2, rfl⟩ : ∃ u2, f = (upd u2 0 va0) := ⟨f, by rw [upd_self hf0]⟩
            refine O.move (v := va0) rfl rfl rfl ?_
            refine WL.nil ?_
            exact ⟨Below.refl _ _, _, rfl, rfl⟩
          · skip
            intro f wk hx hf hd
            have H := H.ext hx
            have hf19 : f 19 = va0 := hd 0 rfl
            obtain ⟨u3, rfl⟩ : ∃ u3, f = (upd u3 19 va0) := ⟨f, by rw [upd_self hf19]⟩
            refine O.call Try.call69 rfl rfl rfl (c_slices_Clone_Entry _ _ (H.arg ha0) hy3) ?_
            rintro v1 w4 hb4 ho1
            have H := H.addOwn hb4 ho1
            refine WL.nil ?_
            exact ⟨hb4, _, rfl, OwnR.base ho1 hx.size⟩
          · skip
            intro f wk hx hf hd
            have H := H.ext hx
            have hf3 : f 3 = (.pointer (some ⟨b1, 0, none⟩)) := hf 3 rfl
            obtain ⟨u4, rfl⟩ : ∃ u4, f = (upd u4 3 (.pointer (some ⟨b1, 0, none⟩))) := ⟨f, by rw [upd_self hf3]⟩
            refine O.loadA [(.int .i64 a1.Day), (.bool a1.Found), (.int .i64 a1.Error)] ag32 rfl rfl rfl rfl (H.cell 0 rfl) ?_
            refine WL.nil ?_
            exact ⟨Below.refl _ _, _, rfl, rfl⟩
          · skip
            intro f wk hx hf hd
            have H := H.ext hx
            have hf21 : f 21 = (.agg (Flat.cells a1).toArray) := hd 2 rfl
            obtain ⟨u5, rfl⟩ : ∃ u5, f = (upd u5 21 (.agg (Flat.cells a1).toArray)) := ⟨f, by rw [upd_self hf21]⟩
            refine O.buildSlice (α := GEntry) [(.agg (Flat.cells a1).toArray)] [a1] Try.underlying22 el32 (Inv.start (w := _)) rfl rfl rfl rfl rfl rfl rfl ?_
            intro v2 w5 H hb5
            refine WL.nil ?_
            exact ⟨hb5, _, rfl, (H.ownR 0 rfl).base hx.size⟩
        · skip
          intro f wk hx hf hmd hd
          have ho20 : OwnR wd1 wk (f 20) 32 t3 := hd 1 rfl
          obtain ⟨v1, hf20⟩ : ∃ v1, f 20 = v1 := ⟨_, rfl⟩
          rw [hf20] at ho20
          have ho22 : OwnR wd1 wk (f 22) 32 ([a1] : List GEntry) := hd 3 rfl
          obtain ⟨v2, hf22⟩ : ∃ v2, f 22 = v2 := ⟨_, rfl⟩
          rw [hf22] at ho22
          have H := H.addOwn hx ho20
          obtain ⟨u6, rfl⟩ : ∃ u6, f = (upd (upd u6 20 v1) 22 v2) := ⟨f, by rw [upd_self hf20, upd_self hf22]⟩
          obtain ⟨t4, ht4, hm⟩ := bind_some hm
          refine O.append 2 Try.underlying22 el32 rfl H rfl ho22.sliceR ht4 rfl rfl rfl rfl ?_
          intro v3 w6 H
          refine O.assign (v := v3) rfl rfl rfl ?_
          refine O.assign (v := (.int .i64 0)) rfl rfl rfl ?_
          refine WL.nil ?_
          refine W.ret ?_
          have hq : (t4, 0) = (r0, r1) := Option.some.inj (show some (t4, 0) = some (r0, r1) from hm)
          obtain ⟨he0, hq0⟩ := Prod.mk.inj hq; clear hq; subst he0
          subst hq0
          exact ends2 Try.results25 rfl rfl ⟨_, rfl, H.base, ⟨_, rfl, H.ownR 2 rfl⟩⟩

set_option maxRecDepth 20000 in
theorem c_noongunref09_Added {w0 : World} (va0 : Value) (a0 : (List GEntry)) (ha0 : SliceR w0 va0 a0) (a1 : GEntry) {r0 : (List GEntry)} {r1 : Int} (hm : noongunref09_Added a0 a1 = some (r0, r1)) :
    Calls Try.prog 26 #[va0, (.agg (Flat.cells a1).toArray)] w0 (Ret w0 fun w v => ∃ vr0 : Value, v = .tuple #[vr0, (.int .i64 r1)] ∧ OwnR w0 w vr0 32 r0) := by
  unfold noongunref09_Added at hm
  refine calls_of_W Try.func26 rfl Try.ntmps26 (Nat.le_of_ble_eq_true rfl) ?_
  have H := Inv.start (w := w0)
  refine W.seq ?_
  refine W.region ?_
  refine O.box [(.int .i64 a1.Day), (.bool a1.Found), (.int .i64 a1.Error)] H rfl rfl rfl rfl ?_
  intro b1 w1 H hb1
  have H := H.addNil (α := GEntry) (E := 32)
  refine O.assign (v := (.slice none 0 0)) rfl rfl rfl ?_
  refine O.assign (v := (.int .i64 0)) rfl rfl rfl ?_
  refine WL.nil ?_
  refine W.seq ?_
  refine W.seq ?_
  refine W.region ?_
  refine O.move (v := va0) rfl rfl rfl ?_
  obtain ⟨t1, hy1, hm⟩ := bind_some hm
  refine O.call Try.call21 rfl rfl rfl (c_noongunref09_Valid _ _ (H.arg ha0) hy1) ?_
  rintro _ w2 hb2 rfl
  have H := H.ext hb2
  refine O.not rfl rfl rfl ?_
  refine O.move (v := (.bool (!t1))) rfl rfl rfl ?_
  obtain ⟨b2, hm1, hm⟩ := bind_some hm
  refine WL.cut 4 (fun f w => f 0 = va0 ∧ f 3 = (.pointer (some ⟨b1, 0, none⟩)) ∧ f 13 = .bool b2 ∧ Inv w0 w [boxI b1 32 [(.int .i64 a1.Day), (.bool a1.Found), (.int .i64 a1.Error)], ownI (α := GEntry) (.slice none 0 0) 32 ([] : List GEntry)]) ?_ ?_
  · skip
    rcases ite_some hm1 with ⟨hc1, hm1⟩ | ⟨hc1, hm1⟩
    · skip
      refine WL.reset (i := 9) (v := .bool true) (congrArg Value.bool hc1) ?_
      refine O.skip rfl rfl ?_
      refine O.skip rfl rfl ?_
      refine O.skip rfl rfl ?_
      refine O.pick_true (v := (.bool true)) rfl rfl rfl rfl ?_
      refine WL.nil ?_
      have hq : true = b2 := Option.some.inj (show some true = some b2 from hm1)
      subst hq
      exact ⟨rfl, rfl, rfl, H⟩
    · skip
      refine WL.reset (i := 9) (v := .bool false) (congrArg Value.bool hc1) ?_
      refine O.loadA [(.int .i64 a1.Day), (.bool a1.Found), (.int .i64 a1.Error)] ag32 rfl rfl rfl rfl (H.cell 0 rfl) ?_
      obtain ⟨t2, hy2, hm1⟩ := bind_some hm1
      refine O.call Try.call65 rfl rfl rfl (c_noongunref09_valid a1 hy2) ?_
      rintro _ w3 hb3 rfl
      have H := H.ext hb3
      refine O.not rfl rfl rfl ?_
      refine O.pick_false (v := (.bool (!t2))) rfl rfl rfl rfl ?_
      refine WL.nil ?_
      have hq : (!t2) = b2 := Option.some.inj (show some (!t2) = some b2 from hm1)
      subst hq
      exact ⟨rfl, rfl, rfl, H⟩
  · skip
    rintro f w ⟨hf0, hf3, hf13, H⟩
    obtain ⟨u1, rfl⟩ : ∃ u1, f = (upd (upd (upd u1 0 va0) 3 (.pointer (some ⟨b1, 0, none⟩))) 13 (.bool b2)) := ⟨f, by rw [upd_self hf0, upd_self hf3, upd_self hf13]⟩
    refine WL.nil ?_
    rcases ite_some hm with ⟨hc2, hm⟩ | ⟨hc2, hm⟩
    · refine W.cond_true (congrArg Value.bool hc2) ?_
      refine W.seq ?_
      refine W.region ?_
      have H := H.addNil (α := GEntry) (E := 32)
      refine O.assign (v := (.slice none 0 0)) rfl rfl rfl ?_
      refine O.assign (v := (.int .i64 1)) rfl rfl rfl ?_
      refine WL.nil ?_
      refine W.ret ?_
      have hq : (([] : List GEntry), 1) = (r0, r1) := Option.some.inj (show some (([] : List GEntry), 1) = some (r0, r1) from hm)
      obtain ⟨he0, hq0⟩ := Prod.mk.inj hq; clear hq; subst he0
      subst hq0
      exact ends2 Try.results26 rfl rfl ⟨_, rfl, H.base, ⟨_, rfl, H.ownR 2 rfl⟩⟩
    · refine W.cond_false (congrArg Value.bool hc2) ?_
      refine W.skip ?_
      refine W.seq ?_
      refine W.seq ?_
      refine W.region ?_
      refine O.move (v := va0) rfl rfl rfl ?_
      refine O.lenS Try.underlying22 (H.arg ha0) rfl rfl rfl ?_
      refine O.eql rfl rfl rfl rfl ?_
      refine WL.nil ?_
      rcases ite_some hm with ⟨hc3, hm⟩ | ⟨hc3, hm⟩
      · refine W.cond_true (congrArg Value.bool hc3) ?_
        refine W.seq ?_
        refine W.region ?_
        have H := H.addNil (α := GEntry) (E := 32)
        refine O.assign (v := (.slice none 0 0)) rfl rfl rfl ?_
        refine O.assign (v := (.int .i64 4)) rfl rfl rfl ?_
        refine WL.nil ?_
        refine W.ret ?_
        have hq : (([] : List GEntry), 4) = (r0, r1) := Option.some.inj (show some (([] : List GEntry), 4) = some (r0, r1) from hm)
        obtain ⟨he0, hq0⟩ := Prod.mk.inj hq; clear hq; subst he0
        subst hq0
        exact ends2 Try.results26 rfl rfl ⟨_, rfl, H.base, ⟨_, rfl, H.ownR 2 rfl⟩⟩
      · refine W.cond_false (congrArg Value.bool hc3) ?_
        refine W.skip ?_
        refine W.seq ?_
        obtain ⟨t3, ht3, hm⟩ := bind_some hm
        obtain ⟨wd1, rfl⟩ : ∃ x, x = w := ⟨w, rfl⟩
        refine W.draw 5 (fun k v wk => match k with | 0 => ∃ b : Nat, v = .slice (some ⟨b, 0, none⟩) 0 0 ∧ OwnR wd1 wk v 32 ([] : List GEntry) | 1 => v = va0 | 2 => OwnR wd1 wk v 32 t3 | 3 => v = (.agg (Flat.cells a1).toArray) | 4 => OwnR wd1 wk v 32 ([a1] : List GEntry) | _ => True) (by intro k v w w' h hb; match k, h with | 0, ⟨b, e, h⟩ => exact ⟨b, e, OwnR.mono h hb⟩ | 1, h => exact h | 2, h => exact OwnR.mono h hb | 3, h => exact h | 4, h => exact OwnR.mono h hb | _ + 5, h => exact h) fol (by kernel_rfl) ?_ ?_
        · skip
          refine ⟨⟨⟨⟨⟨trivial, ?_⟩, ?_⟩, ?_⟩, ?_⟩, ?_⟩
          · skip
            intro f wk hx hf hd
            have H := H.ext hx
            refine O.buildEmpty (α := GEntry) Try.underlying22 el32 (Inv.start (w := _)) rfl rfl ?_
            intro b3 w4 H hb4
            refine WL.nil ?_
            exact ⟨hb4, _, rfl, ⟨_, rfl, (H.ownR 0 rfl).base hx.size⟩⟩
          · skip
            intro f wk hx hf hd
            have H := H.ext hx
            have hf0 : f 0 = va0 := hf 0 rfl
            obtain ⟨u2, rfl⟩ : ∃ u2, f = (upd u2 0 va0) := ⟨f, by rw [upd_self hf0]⟩
            refine O.move (v := va0) rfl rfl rfl ?_
            refine WL.nil ?_
            exact ⟨Below.refl _ _, _, rfl, rfl⟩
          · skip
            intro f wk hx hf hd
            have H := H.ext hx
            obtain ⟨b3, hf17, ho17⟩ : ∃ b : Nat, f 17 = .slice (some ⟨b, 0, none⟩) 0 0 ∧ OwnR wd1 wk (f 17) 32 ([] : List GEntry) := hd 0 rfl
            rw [hf17] at ho17
            have hf18 : f 18 = va0 := hd 1 rfl
            obtain ⟨u3, rfl⟩ : ∃ u3, f = (upd (upd u3 17 (.slice (some ⟨b3, 0, none⟩) 0 0)) 18 va0) := ⟨f, by rw [upd_self hf17, upd_self hf18]⟩
            refine O.appendEmpty Try.underlying22 el32 rfl hx ho17 (H.arg ha0) ht3 rfl rfl rfl rfl ?_
            intro v1 _ hb5 ho1
            refine WL.nil ?_
            exact ⟨hb5, _, rfl, ho1⟩
          · skip
            intro f wk hx hf hd
            have H := H.ext hx
            have hf3 : f 3 = (.pointer (some ⟨b1, 0, none⟩)) := hf 3 rfl
            obtain ⟨u4, rfl⟩ : ∃ u4, f = (upd u4 3 (.pointer (some ⟨b1, 0, none⟩))) := ⟨f, by rw [upd_self hf3]⟩
            refine O.loadA [(.int .i64 a1.Day), (.bool a1.Found), (.int .i64 a1.Error)] ag32 rfl rfl rfl rfl (H.cell 0 rfl) ?_
            refine WL.nil ?_
            exact ⟨Below.refl _ _, _, rfl, rfl⟩
          · skip
            intro f wk hx hf hd
            have H := H.ext hx
            have hf20 : f 20 = (.agg (Flat.cells a1).toArray) := hd 3 rfl
            obtain ⟨u5, rfl⟩ : ∃ u5, f = (upd u5 20 (.agg (Flat.cells a1).toArray)) := ⟨f, by rw [upd_self hf20]⟩
            refine O.buildSlice (α := GEntry) [(.agg (Flat.cells a1).toArray)] [a1] Try.underlying22 el32 (Inv.start (w := _)) rfl rfl rfl rfl rfl rfl rfl ?_
            intro v2 w5 H hb6
            refine WL.nil ?_
            exact ⟨hb6, _, rfl, (H.ownR 0 rfl).base hx.size⟩
        · skip
          intro f wk hx hf hmd hd
          have ho19 : OwnR wd1 wk (f 19) 32 t3 := hd 2 rfl
          obtain ⟨v1, hf19⟩ : ∃ v1, f 19 = v1 := ⟨_, rfl⟩
          rw [hf19] at ho19
          have ho21 : OwnR wd1 wk (f 21) 32 ([a1] : List GEntry) := hd 4 rfl
          obtain ⟨v2, hf21⟩ : ∃ v2, f 21 = v2 := ⟨_, rfl⟩
          rw [hf21] at ho21
          have H := H.addOwn hx ho19
          obtain ⟨u6, rfl⟩ : ∃ u6, f = (upd (upd u6 19 v1) 21 v2) := ⟨f, by rw [upd_self hf19, upd_self hf21]⟩
          obtain ⟨t4, ht4, hm⟩ := bind_some hm
          refine O.append 2 Try.underlying22 el32 rfl H rfl ho21.sliceR ht4 rfl rfl rfl rfl ?_
          intro v3 w6 H
          refine O.assign (v := v3) rfl rfl rfl ?_
          refine O.assign (v := (.int .i64 0)) rfl rfl rfl ?_
          refine WL.nil ?_
          refine W.ret ?_
          have hq : (t4, 0) = (r0, r1) := Option.some.inj (show some (t4, 0) = some (r0, r1) from hm)
          obtain ⟨he0, hq0⟩ := Prod.mk.inj hq; clear hq; subst he0
          subst hq0
          exact ends2 Try.results26 rfl rfl ⟨_, rfl, H.base, ⟨_, rfl, H.ownR 2 rfl⟩⟩

theorem c_slices_Grow_Entry {w0 : World} (a1 : Int) {r0 : (List GEntry)} (hm : slices_Grow_Entry a1 = some r0) :
    Calls Try.prog 90 #[(.slice none 0 0), (.int .i64 a1)] w0 (Ret w0 fun w v => OwnR w0 w v 32 r0) := by
  unfold slices_Grow_Entry at hm
  refine calls_of_W Try.func90 rfl Try.ntmps90 (Nat.le_of_ble_eq_true rfl) ?_
  have H := Inv.start (w := w0)
  refine W.seq ?_
  refine W.region ?_
  have H := H.addNil (α := GEntry) (E := 32)
  refine O.assign (v := (.slice none 0 0)) rfl rfl rfl ?_
  refine WL.nil ?_
  refine W.seq ?_
  refine W.seq ?_
  refine W.region ?_
  refine O.move (v := (.int .i64 a1)) rfl rfl rfl ?_
  refine O.lss rfl rfl rfl rfl ?_
  refine WL.nil ?_
  obtain ⟨_, hm1, hm⟩ := bind_some hm
  refine W.via (fun f w => f 0 = (.slice none 0 0) ∧ f 1 = (.int .i64 a1) ∧ Inv w0 w []) ?_ ?_
  · skip
    rcases ite_some hm1 with ⟨hc1, hm1⟩ | ⟨hc1, hm1⟩
    · refine W.cond_true (congrArg Value.bool hc1) ?_
      have hc_pos := hc1
      cases hm1
    · refine W.cond_false (congrArg Value.bool hc1) ?_
      refine W.skip ?_
      have H := H.keep [] [] rfl (by decide)
      exact ⟨rfl, rfl, H⟩
  · skip
    rintro f w ⟨hf0, hf1, H⟩
    obtain ⟨u1, rfl⟩ : ∃ u1, f = (upd (upd u1 0 (.slice none 0 0)) 1 (.int .i64 a1)) := ⟨f, by rw [upd_self hf0, upd_self hf1]⟩
    refine W.seq ?_
    refine W.seq ?_
    refine W.region ?_
    refine O.move (v := (.int .i64 a1)) rfl rfl rfl ?_
    refine O.move (v := (.slice none 0 0)) rfl rfl rfl ?_
    refine O.capNil Try.underlying22 rfl rfl rfl ?_
    refine O.move (v := (.slice none 0 0)) rfl rfl rfl ?_
    refine O.lenNil Try.underlying22 rfl rfl rfl ?_
    refine O.sub (c := 0) rfl rfl rfl rfl (by decide) ?_
    obtain ⟨t1, ht1, hm⟩ := bind_some hm
    refine O.sub rfl rfl rfl rfl ht1 ?_
    refine O.assign (v := (.int .i64 t1)) rfl rfl rfl ?_
    refine WL.nil ?_
    refine W.seq ?_
    refine W.region ?_
    refine O.move (v := (.int .i64 t1)) rfl rfl rfl ?_
    refine O.gtr rfl rfl rfl rfl ?_
    refine WL.nil ?_
    obtain ⟨s1, hm2, hm⟩ := bind_some hm
    refine W.via (fun f w => ∃ v1 : Value, f 0 = v1 ∧ Inv w0 w [ownI (α := GEntry) v1 32 s1]) ?_ ?_
    · skip
      rcases ite_some hm2 with ⟨hc2, hm2⟩ | ⟨hc2, hm2⟩
      · refine W.cond_true (congrArg Value.bool hc2) ?_
        have hc_pos := hc2
        refine W.region ?_
        refine O.move (v := (.slice none 0 0)) rfl rfl rfl ?_
        refine O.move (v := (.slice none 0 0)) rfl rfl rfl ?_
        refine O.capNil Try.underlying22 rfl rfl rfl ?_
        refine O.sliceNil Try.underlying22 sz32 rfl rfl rfl rfl ?_
        refine O.move (v := (.int .i64 t1)) rfl rfl rfl ?_
        obtain ⟨t2, ht2, hm2⟩ := bind_some hm2
        refine O.appendZeros Try.underlying22 Try.underlying3 zel32 rfl H (of_decide_eq_true hc_pos) ht2 rfl rfl rfl rfl ?_
        intro v2 w1 H hb1
        refine O.move (v := (.slice none 0 0)) rfl rfl rfl ?_
        refine O.lenNil Try.underlying22 rfl rfl rfl ?_
        obtain ⟨t3, ht3, hm2⟩ := bind_some hm2
        refine O.sliceOwn 0 Try.underlying22 sz32 H rfl ht3 rfl rfl rfl rfl ?_
        intro v3 H
        refine O.assign (v := v3) rfl rfl rfl ?_
        refine WL.nil ?_
        have hq : t3 = s1 := Option.some.inj (show some t3 = some s1 from hm2)
        subst hq
        exact ⟨v3, rfl, H⟩
      · refine W.cond_false (congrArg Value.bool hc2) ?_
        refine W.skip ?_
        have H := H.addNil (α := GEntry) (E := 32)
        have hq : ([] : List GEntry) = s1 := Option.some.inj (show some ([] : List GEntry) = some s1 from hm2)
        subst hq
        exact ⟨(.slice none 0 0), rfl, H⟩
    · skip
      rintro f w ⟨v1, hf0, H⟩
      obtain ⟨u2, rfl⟩ : ∃ u2, f = (upd u2 0 v1) := ⟨f, by rw [upd_self hf0]⟩
      refine W.seq ?_
      refine W.region ?_
      refine O.move (v := v1) rfl rfl rfl ?_
      refine O.assign (v := v1) rfl rfl rfl ?_
      refine WL.nil ?_
      refine W.ret ?_
      have hq : s1 = r0 := Option.some.inj (show some s1 = some r0 from hm)
      subst hq
      exact ends1 Try.results90 rfl ⟨_, rfl, H.base, H.ownR 0 rfl⟩

set_option maxRecDepth 20000 in
theorem c_slices_Concat_Entry {w0 : World} (va0 : Value) (a0 : (List (List GEntry))) (ha0 : SliceR w0 va0 a0) {r0 : (List GEntry)} (hm : slices_Concat_Entry a0 = some r0) :
    Calls Try.prog 70 #[va0] w0 (Ret w0 fun w v => OwnR w0 w v 32 r0) := by
  unfold slices_Concat_Entry at hm
  refine calls_of_W Try.func70 rfl Try.ntmps70 (Nat.le_of_ble_eq_true rfl) ?_
  have H := Inv.start (w := w0)
  refine W.seq ?_
  refine W.region ?_
  have H := H.addNil (α := GEntry) (E := 32)
  refine O.assign (v := (.slice none 0 0)) rfl rfl rfl ?_
  refine WL.nil ?_
  refine W.seq ?_
  refine W.region ?_
  refine O.assign (v := (.int .i64 0)) rfl rfl rfl ?_
  refine WL.nil ?_
  refine W.seq ?_
  refine W.seq ?_
  refine W.region ?_
  refine O.move (v := va0) rfl rfl rfl ?_
  refine O.lenS Try.underlying88 (H.arg ha0) rfl rfl rfl ?_
  refine O.move (v := (.int .i64 0)) rfl rfl rfl ?_
  refine WL.nil ?_
  obtain ⟨s1, hm1, hm⟩ := bind_some hm
  refine W.via (fun f w => f 0 = va0 ∧ f 3 = (.int .i64 s1) ∧ Inv w0 w []) ?_ ?_
  · skip
    refine W.block ?_
    have H := H.keep [] [] rfl (by decide)
    refine W.rangeL (i := 0) hm1 (fun rem ik1 s f w => ∃ z2 : Int, z2 = s ∧ a0.drop ik1 = rem ∧ f 11 = .int .i64 (ik1 : Int) ∧ f 10 = (.int .i64 ((a0.length : Nat) : Int)) ∧ f 0 = va0 ∧ f 3 = (.int .i64 z2) ∧ f 9 = va0 ∧ Inv w0 w []) ?_ ?_ ?_
    · skip
      exact ⟨_, rfl, List.drop_zero, rfl, rfl, rfl, rfl, rfl, H⟩
    · skip
      rintro yk1 xs ik1 _ st f w ⟨z2, rfl, hdropk1, hf11, hf10, hf0, hf3, hf9, H⟩ hm2
      have hltk1 := drop_lt hdropk1; have hixk1 := drop_idx hdropk1
      obtain ⟨u1, rfl⟩ : ∃ u1, f = (upd (upd (upd (upd (upd u1 11 (.int .i64 (ik1 : Int))) 10 (.int .i64 ((a0.length : Nat) : Int))) 0 va0) 3 (.int .i64 z2)) 9 va0) := ⟨f, by rw [upd_self hf11, upd_self hf10, upd_self hf0, upd_self hf3, upd_self hf9]⟩
      have hinck1 := addI_lt hltk1 (H.arg ha0).len_le
      refine W.seq ?_
      refine W.region ?_
      refine O.lss rfl rfl rfl rfl ?_
      refine WL.nil ?_
      refine W.seq ?_
      refine W.cond_true (congrArg Value.bool (decide_eq_true hltk1)) ?_
      refine W.skip ?_
      refine W.seq ?_
      obtain ⟨s2, hm3, hm2⟩ := bind_some hm2
      refine W.via (fun f w => f 0 = va0 ∧ f 3 = (.int .i64 s2) ∧ f 9 = va0 ∧ f 10 = (.int .i64 ((a0.length : Nat) : Int)) ∧ f 11 = (.int .i64 (ik1 : Int)) ∧ Inv w0 w []) ?_ ?_
      · skip
        refine W.block ?_
        refine W.seq ?_
        refine W.region ?_
        obtain ⟨p1, hp1, hrp1⟩ := fix_indexAddr Try.underlying88 sz22 ha0 hixk1
        obtain ⟨v1, hs1, hc1⟩ := hp1.slice
        refine hrp1 rfl rfl rfl rfl ?_
        refine O.load sc22 rfl rfl rfl ((cells_mono hc1 H.base) 0 _ rfl) ?_
        refine O.assign (v := v1) rfl rfl rfl ?_
        refine WL.nil ?_
        refine W.seq ?_
        refine W.region ?_
        refine O.move (v := (.int .i64 z2)) rfl rfl rfl ?_
        refine O.move (v := v1) rfl rfl rfl ?_
        refine O.lenS Try.underlying22 (H.arg hs1) rfl rfl rfl ?_
        obtain ⟨t1, ht1, hm3⟩ := bind_some hm3
        refine O.add rfl rfl rfl rfl ht1 ?_
        refine O.assign (v := (.int .i64 t1)) rfl rfl rfl ?_
        refine WL.nil ?_
        refine W.seq ?_
        refine W.region ?_
        refine O.move (v := (.int .i64 t1)) rfl rfl rfl ?_
        refine O.lss rfl rfl rfl rfl ?_
        refine WL.nil ?_
        obtain ⟨_, hm4, hm3⟩ := bind_some hm3
        refine W.via (fun f w => f 0 = va0 ∧ f 3 = (.int .i64 t1) ∧ f 9 = va0 ∧ f 10 = (.int .i64 ((a0.length : Nat) : Int)) ∧ f 11 = (.int .i64 (ik1 : Int)) ∧ Inv w0 w []) ?_ ?_
        · skip
          rcases ite_some hm4 with ⟨hc2, hm4⟩ | ⟨hc2, hm4⟩
          · refine W.cond_true (congrArg Value.bool hc2) ?_
            cases hm4
          · refine W.cond_false (congrArg Value.bool hc2) ?_
            refine W.skip ?_
            exact ⟨rfl, rfl, rfl, rfl, rfl, H⟩
        · skip
          rintro f w ⟨hf0, hf3, hf9, hf10, hf11, H⟩
          obtain ⟨u2, rfl⟩ : ∃ u2, f = (upd (upd (upd (upd (upd u2 0 va0) 3 (.int .i64 t1)) 9 va0) 10 (.int .i64 ((a0.length : Nat) : Int))) 11 (.int .i64 (ik1 : Int))) := ⟨f, by rw [upd_self hf0, upd_self hf3, upd_self hf9, upd_self hf10, upd_self hf11]⟩
          have hq : t1 = s2 := Option.some.inj (show some t1 = some s2 from hm3)
          subst hq
          exact ⟨rfl, rfl, rfl, rfl, rfl, H⟩
      · skip
        rintro f w ⟨hf0, hf3, hf9, hf10, hf11, H⟩
        obtain ⟨u3, rfl⟩ : ∃ u3, f = (upd (upd (upd (upd (upd u3 0 va0) 3 (.int .i64 s2)) 9 va0) 10 (.int .i64 ((a0.length : Nat) : Int))) 11 (.int .i64 (ik1 : Int))) := ⟨f, by rw [upd_self hf0, upd_self hf3, upd_self hf9, upd_self hf10, upd_self hf11]⟩
        refine W.region ?_
        refine O.add rfl rfl rfl rfl hinck1 ?_
        refine O.move (v := .int .i64 ((ik1 : Int) + 1)) rfl rfl rfl ?_
        refine WL.nil ?_
        obtain rfl := Option.some.inj hm2
        exact ⟨_, rfl, _, rfl, drop_next hdropk1, rfl, rfl, rfl, rfl, rfl, H⟩
    · skip
      rintro ik1 _ f w ⟨z2, rfl, hdropk1, hf11, hf10, hf0, hf3, hf9, H⟩ hfin
      have hltk1 := drop_end hdropk1
      obtain ⟨u4, rfl⟩ : ∃ u4, f = (upd (upd (upd (upd (upd u4 11 (.int .i64 (ik1 : Int))) 10 (.int .i64 ((a0.length : Nat) : Int))) 0 va0) 3 (.int .i64 z2)) 9 va0) := ⟨f, by rw [upd_self hf11, upd_self hf10, upd_self hf0, upd_self hf3, upd_self hf9]⟩
      refine W.seq ?_
      refine W.region ?_
      refine O.lss rfl rfl rfl rfl ?_
      refine WL.nil ?_
      refine W.seq ?_
      refine W.cond_false (congrArg Value.bool (decide_eq_false hltk1)) ?_
      refine W.exit ?_
      have hq : z2 = s1 := hfin
      subst hq
      refine xT rfl ?_
      exact ⟨rfl, rfl, H⟩
  · skip
    rintro f w ⟨hf0, hf3, H⟩
    obtain ⟨u5, rfl⟩ : ∃ u5, f = (upd (upd u5 0 va0) 3 (.int .i64 s1)) := ⟨f, by rw [upd_self hf0, upd_self hf3]⟩
    refine W.seq ?_
    refine W.region ?_
    refine O.move (v := (.int .i64 s1)) rfl rfl rfl ?_
    obtain ⟨t2, hy1, hm⟩ := bind_some hm
    refine O.call Try.call90 rfl rfl rfl (c_slices_Grow_Entry _ hy1) ?_
    rintro v2 w1 hb1 ho1
    have H := H.addOwn hb1 ho1
    refine O.assign (v := v2) rfl rfl rfl ?_
    refine WL.nil ?_
    refine W.seq ?_
    refine W.seq ?_
    refine W.region ?_
    refine O.move (v := va0) rfl rfl rfl ?_
    refine O.lenS Try.underlying88 (H.arg ha0) rfl rfl rfl ?_
    refine O.move (v := (.int .i64 0)) rfl rfl rfl ?_
    refine WL.nil ?_
    obtain ⟨s3, hm5, hm⟩ := bind_some hm
    refine W.via (fun f w => ∃ v6 : Value, f 6 = v6 ∧ Inv w0 w [ownI (α := GEntry) v6 32 s3]) ?_ ?_
    · skip
      refine W.block ?_
      refine W.rangeL (i := 0) hm5 (fun rem ik2 s f w => ∃ z5 : (List GEntry), ∃ v4 : Value, z5 = s ∧ a0.drop ik2 = rem ∧ f 27 = .int .i64 (ik2 : Int) ∧ f 26 = (.int .i64 ((a0.length : Nat) : Int)) ∧ f 6 = v4 ∧ f 25 = va0 ∧ Inv w0 w [ownI (α := GEntry) v4 32 z5]) ?_ ?_ ?_
      · skip
        exact ⟨_, v2, rfl, List.drop_zero, rfl, rfl, rfl, rfl, H⟩
      · skip
        rintro yk2 xs ik2 _ st f w ⟨z5, v4, rfl, hdropk2, hf27, hf26, hf6, hf25, H⟩ hm6
        have hltk2 := drop_lt hdropk2; have hixk2 := drop_idx hdropk2
        obtain ⟨u6, rfl⟩ : ∃ u6, f = (upd (upd (upd (upd u6 27 (.int .i64 (ik2 : Int))) 26 (.int .i64 ((a0.length : Nat) : Int))) 6 v4) 25 va0) := ⟨f, by rw [upd_self hf27, upd_self hf26, upd_self hf6, upd_self hf25]⟩
        have hinck2 := addI_lt hltk2 (H.arg ha0).len_le
        refine W.seq ?_
        refine W.region ?_
        refine O.lss rfl rfl rfl rfl ?_
        refine WL.nil ?_
        refine W.seq ?_
        refine W.cond_true (congrArg Value.bool (decide_eq_true hltk2)) ?_
        refine W.skip ?_
        refine W.seq ?_
        refine W.block ?_
        refine W.seq ?_
        refine W.region ?_
        obtain ⟨p2, hp2, hrp2⟩ := fix_indexAddr Try.underlying88 sz22 ha0 hixk2
        obtain ⟨v7, hs2, hc3⟩ := hp2.slice
        refine hrp2 rfl rfl rfl rfl ?_
        refine O.load sc22 rfl rfl rfl ((cells_mono hc3 H.base) 0 _ rfl) ?_
        refine O.assign (v := v7) rfl rfl rfl ?_
        refine WL.nil ?_
        refine W.region ?_
        refine O.move (v := v4) rfl rfl rfl ?_
        refine O.move (v := v7) rfl rfl rfl ?_
        obtain ⟨t3, ht3, hm6⟩ := bind_some hm6
        refine O.append 0 Try.underlying22 el32 rfl H rfl (H.arg hs2) ht3 rfl rfl rfl rfl ?_
        intro v8 w2 H
        refine O.assign (v := v8) rfl rfl rfl ?_
        refine WL.nil ?_
        refine W.region ?_
        refine O.add rfl rfl rfl rfl hinck2 ?_
        refine O.move (v := .int .i64 ((ik2 : Int) + 1)) rfl rfl rfl ?_
        refine WL.nil ?_
        obtain rfl := Option.some.inj hm6
        exact ⟨_, rfl, _, v8, rfl, drop_next hdropk2, rfl, rfl, rfl, rfl, H⟩
      · skip
        rintro ik2 _ f w ⟨z5, v4, rfl, hdropk2, hf27, hf26, hf6, hf25, H⟩ hfin
        have hltk2 := drop_end hdropk2
        obtain ⟨u7, rfl⟩ : ∃ u7, f = (upd (upd (upd (upd u7 27 (.int .i64 (ik2 : Int))) 26 (.int .i64 ((a0.length : Nat) : Int))) 6 v4) 25 va0) := ⟨f, by rw [upd_self hf27, upd_self hf26, upd_self hf6, upd_self hf25]⟩
        refine W.seq ?_
        refine W.region ?_
        refine O.lss rfl rfl rfl rfl ?_
        refine WL.nil ?_
        refine W.seq ?_
        refine W.cond_false (congrArg Value.bool (decide_eq_false hltk2)) ?_
        refine W.exit ?_
        have hq : z5 = s3 := hfin
        subst hq
        refine xT rfl ?_
        exact ⟨v4, rfl, H⟩
    · skip
      rintro f w ⟨v6, hf6, H⟩
      obtain ⟨u8, rfl⟩ : ∃ u8, f = (upd u8 6 v6) := ⟨f, by rw [upd_self hf6]⟩
      refine W.seq ?_
      refine W.region ?_
      refine O.move (v := v6) rfl rfl rfl ?_
      refine O.assign (v := v6) rfl rfl rfl ?_
      refine WL.nil ?_
      refine W.ret ?_
      have hq : s3 = r0 := Option.some.inj (show some s3 = some r0 from hm)
      subst hq
      exact ends1 Try.results70 rfl ⟨_, rfl, H.base, H.ownR 0 rfl⟩

theorem c_ledger_Merged {w0 : World} (va0 : Value) (a0 : (List GEntry)) (ha0 : SliceR w0 va0 a0) (va1 : Value) (a1 : (List GEntry)) (ha1 : SliceR w0 va1 a1) {r0 : (List GEntry)} {r1 : Int} (hm : ledger_Merged a0 a1 = some (r0, r1)) :
    Calls Try.prog 27 #[va0, va1] w0 (Ret w0 fun w v => ∃ vr0 : Value, v = .tuple #[vr0, (.int .i64 r1)] ∧ OwnR w0 w vr0 32 r0) := by
  unfold ledger_Merged at hm
  refine calls_of_W Try.func27 rfl Try.ntmps27 (Nat.le_of_ble_eq_true rfl) ?_
  have H := Inv.start (w := w0)
  refine W.seq ?_
  refine W.region ?_
  have H := H.addNil (α := GEntry) (E := 32)
  refine O.assign (v := (.slice none 0 0)) rfl rfl rfl ?_
  refine O.assign (v := (.int .i64 0)) rfl rfl rfl ?_
  refine WL.nil ?_
  refine W.seq ?_
  refine W.block ?_
  refine W.seq ?_
  refine W.region ?_
  refine O.move (v := va0) rfl rfl rfl ?_
  obtain ⟨t1, hy1, hm⟩ := bind_some hm
  refine O.call Try.call20 rfl rfl rfl (c_ledger_Valid _ _ (H.arg ha0) hy1) ?_
  rintro _ w1 hb1 rfl
  have H := H.ext hb1
  refine O.not rfl rfl rfl ?_
  refine O.move (v := (.bool (!t1))) rfl rfl rfl ?_
  obtain ⟨b1, hm1, hm⟩ := bind_some hm
  refine WL.cut 4 (fun f w => f 0 = va0 ∧ f 1 = va1 ∧ f 14 = .bool b1 ∧ Inv w0 w [ownI (α := GEntry) (.slice none 0 0) 32 ([] : List GEntry)]) ?_ ?_
  · skip
    rcases ite_some hm1 with ⟨hc1, hm1⟩ | ⟨hc1, hm1⟩
    · skip
      refine WL.reset (i := 10) (v := .bool true) (congrArg Value.bool hc1) ?_
      refine O.skip rfl rfl ?_
      refine O.skip rfl rfl ?_
      refine O.skip rfl rfl ?_
      refine O.pick_true (v := (.bool true)) rfl rfl rfl rfl ?_
      refine WL.nil ?_
      have hq : true = b1 := Option.some.inj (show some true = some b1 from hm1)
      subst hq
      exact ⟨rfl, rfl, rfl, H⟩
    · skip
      refine WL.reset (i := 10) (v := .bool false) (congrArg Value.bool hc1) ?_
      refine O.move (v := va1) rfl rfl rfl ?_
      obtain ⟨t2, hy2, hm1⟩ := bind_some hm1
      refine O.call Try.call20 rfl rfl rfl (c_ledger_Valid _ _ (H.arg ha1) hy2) ?_
      rintro _ w2 hb2 rfl
      have H := H.ext hb2
      refine O.not rfl rfl rfl ?_
      refine O.pick_false (v := (.bool (!t2))) rfl rfl rfl rfl ?_
      refine WL.nil ?_
      have hq : (!t2) = b1 := Option.some.inj (show some (!t2) = some b1 from hm1)
      subst hq
      exact ⟨rfl, rfl, rfl, H⟩
  · skip
    rintro f w ⟨hf0, hf1, hf14, H⟩
    obtain ⟨u1, rfl⟩ : ∃ u1, f = (upd (upd (upd u1 0 va0) 1 va1) 14 (.bool b1)) := ⟨f, by rw [upd_self hf0, upd_self hf1, upd_self hf14]⟩
    refine O.assign (v := (.bool b1)) rfl rfl rfl ?_
    refine WL.nil ?_
    rcases ite_some hm with ⟨hc2, hm⟩ | ⟨hc2, hm⟩
    · refine W.cond_true (congrArg Value.bool hc2) ?_
      refine W.seq ?_
      refine W.region ?_
      have H := H.addNil (α := GEntry) (E := 32)
      refine O.assign (v := (.slice none 0 0)) rfl rfl rfl ?_
      refine O.assign (v := (.int .i64 1)) rfl rfl rfl ?_
      refine WL.nil ?_
      refine W.ret ?_
      have hq : (([] : List GEntry), 1) = (r0, r1) := Option.some.inj (show some (([] : List GEntry), 1) = some (r0, r1) from hm)
      obtain ⟨he0, hq0⟩ := Prod.mk.inj hq; clear hq; subst he0
      subst hq0
      exact ends2 Try.results27 rfl rfl ⟨_, rfl, H.base, ⟨_, rfl, H.ownR 1 rfl⟩⟩
    · refine W.cond_false (congrArg Value.bool hc2) ?_
      refine W.seq ?_
      refine W.region ?_
      refine O.move (v := va0) rfl rfl rfl ?_
      refine O.lenS Try.underlying22 (H.arg ha0) rfl rfl rfl ?_
      refine O.move (v := va1) rfl rfl rfl ?_
      refine O.lenS Try.underlying22 (H.arg ha1) rfl rfl rfl ?_
      obtain ⟨t3, ht3, hm⟩ := bind_some hm
      refine O.add rfl rfl rfl rfl ht3 ?_
      refine O.gtr rfl rfl rfl rfl ?_
      refine O.assign (v := (.bool (decide (1000 < t3)))) rfl rfl rfl ?_
      refine WL.nil ?_
      rcases ite_some hm with ⟨hc3, hm⟩ | ⟨hc3, hm⟩
      · refine W.cond_true (congrArg Value.bool hc3) ?_
        refine W.seq ?_
        refine W.region ?_
        have H := H.addNil (α := GEntry) (E := 32)
        refine O.assign (v := (.slice none 0 0)) rfl rfl rfl ?_
        refine O.assign (v := (.int .i64 4)) rfl rfl rfl ?_
        refine WL.nil ?_
        refine W.ret ?_
        have hq : (([] : List GEntry), 4) = (r0, r1) := Option.some.inj (show some (([] : List GEntry), 4) = some (r0, r1) from hm)
        obtain ⟨he0, hq0⟩ := Prod.mk.inj hq; clear hq; subst he0
        subst hq0
        exact ends2 Try.results27 rfl rfl ⟨_, rfl, H.base, ⟨_, rfl, H.ownR 1 rfl⟩⟩
      · refine W.cond_false (congrArg Value.bool hc3) ?_
        refine W.skip ?_
        refine W.seq ?_
        refine W.region ?_
        refine O.move (v := va0) rfl rfl rfl ?_
        refine O.move (v := va1) rfl rfl rfl ?_
        refine O.buildSliceR (α := (List GEntry)) [va0, va1] [a0, a1] Try.underlying88 el22 (RepL.consS (H.arg ha0) (RepL.consS (H.arg ha1) RepL.nil)) rfl rfl rfl rfl rfl ?_
        intro v1 w3 hb3 hs1
        have H := H.ext hb3
        obtain ⟨t4, hy3, hm⟩ := bind_some hm
        refine O.call Try.call70 rfl rfl rfl (c_slices_Concat_Entry _ _ hs1 hy3) ?_
        rintro v2 w4 hb4 ho1
        have hs1 := hs1.mono hb4
        have H := H.addOwn hb4 ho1
        refine O.assign (v := v2) rfl rfl rfl ?_
        refine O.assign (v := (.int .i64 0)) rfl rfl rfl ?_
        refine WL.nil ?_
        refine W.ret ?_
        have hq : (t4, 0) = (r0, r1) := Option.some.inj (show some (t4, 0) = some (r0, r1) from hm)
        obtain ⟨he0, hq0⟩ := Prod.mk.inj hq; clear hq; subst he0
        subst hq0
        exact ends2 Try.results27 rfl rfl ⟨_, rfl, H.base, ⟨_, rfl, H.ownR 1 rfl⟩⟩

theorem c_noongunref09_Merged {w0 : World} (va0 : Value) (a0 : (List GEntry)) (ha0 : SliceR w0 va0 a0) (va1 : Value) (a1 : (List GEntry)) (ha1 : SliceR w0 va1 a1) {r0 : (List GEntry)} {r1 : Int} (hm : noongunref09_Merged a0 a1 = some (r0, r1)) :
    Calls Try.prog 28 #[va0, va1] w0 (Ret w0 fun w v => ∃ vr0 : Value, v = .tuple #[vr0, (.int .i64 r1)] ∧ OwnR w0 w vr0 32 r0) := by
  unfold noongunref09_Merged at hm
  refine calls_of_W Try.func28 rfl Try.ntmps28 (Nat.le_of_ble_eq_true rfl) ?_
  have H := Inv.start (w := w0)
  refine W.seq ?_
  refine W.region ?_
  have H := H.addNil (α := GEntry) (E := 32)
  refine O.assign (v := (.slice none 0 0)) rfl rfl rfl ?_
  refine O.assign (v := (.int .i64 0)) rfl rfl rfl ?_
  refine WL.nil ?_
  refine W.seq ?_
  refine W.seq ?_
  refine W.region ?_
  refine O.move (v := va0) rfl rfl rfl ?_
  obtain ⟨t1, hy1, hm⟩ := bind_some hm
  refine O.call Try.call21 rfl rfl rfl (c_noongunref09_Valid _ _ (H.arg ha0) hy1) ?_
  rintro _ w1 hb1 rfl
  have H := H.ext hb1
  refine O.not rfl rfl rfl ?_
  refine O.move (v := (.bool (!t1))) rfl rfl rfl ?_
  obtain ⟨b1, hm1, hm⟩ := bind_some hm
  refine WL.cut 4 (fun f w => f 0 = va0 ∧ f 1 = va1 ∧ f 13 = .bool b1 ∧ Inv w0 w [ownI (α := GEntry) (.slice none 0 0) 32 ([] : List GEntry)]) ?_ ?_
  · skip
    rcases ite_some hm1 with ⟨hc1, hm1⟩ | ⟨hc1, hm1⟩
    · skip
      refine WL.reset (i := 9) (v := .bool true) (congrArg Value.bool hc1) ?_
      refine O.skip rfl rfl ?_
      refine O.skip rfl rfl ?_
      refine O.skip rfl rfl ?_
      refine O.pick_true (v := (.bool true)) rfl rfl rfl rfl ?_
      refine WL.nil ?_
      have hq : true = b1 := Option.some.inj (show some true = some b1 from hm1)
      subst hq
      exact ⟨rfl, rfl, rfl, H⟩
    · skip
      refine WL.reset (i := 9) (v := .bool false) (congrArg Value.bool hc1) ?_
      refine O.move (v := va1) rfl rfl rfl ?_
      obtain ⟨t2, hy2, hm1⟩ := bind_some hm1
      refine O.call Try.call21 rfl rfl rfl (c_noongunref09_Valid _ _ (H.arg ha1) hy2) ?_
      rintro _ w2 hb2 rfl
      have H := H.ext hb2
      refine O.not rfl rfl rfl ?_
      refine O.pick_false (v := (.bool (!t2))) rfl rfl rfl rfl ?_
      refine WL.nil ?_
      have hq : (!t2) = b1 := Option.some.inj (show some (!t2) = some b1 from hm1)
      subst hq
      exact ⟨rfl, rfl, rfl, H⟩
  · skip
    rintro f w ⟨hf0, hf1, hf13, H⟩
    obtain ⟨u1, rfl⟩ : ∃ u1, f = (upd (upd (upd u1 0 va0) 1 va1) 13 (.bool b1)) := ⟨f, by rw [upd_self hf0, upd_self hf1, upd_self hf13]⟩
    refine WL.nil ?_
    rcases ite_some hm with ⟨hc2, hm⟩ | ⟨hc2, hm⟩
    · refine W.cond_true (congrArg Value.bool hc2) ?_
      refine W.seq ?_
      refine W.region ?_
      have H := H.addNil (α := GEntry) (E := 32)
      refine O.assign (v := (.slice none 0 0)) rfl rfl rfl ?_
      refine O.assign (v := (.int .i64 1)) rfl rfl rfl ?_
      refine WL.nil ?_
      refine W.ret ?_
      have hq : (([] : List GEntry), 1) = (r0, r1) := Option.some.inj (show some (([] : List GEntry), 1) = some (r0, r1) from hm)
      obtain ⟨he0, hq0⟩ := Prod.mk.inj hq; clear hq; subst he0
      subst hq0
      exact ends2 Try.results28 rfl rfl ⟨_, rfl, H.base, ⟨_, rfl, H.ownR 1 rfl⟩⟩
    · refine W.cond_false (congrArg Value.bool hc2) ?_
      refine W.skip ?_
      refine W.seq ?_
      refine W.seq ?_
      refine W.region ?_
      refine O.move (v := va0) rfl rfl rfl ?_
      refine O.lenS Try.underlying22 (H.arg ha0) rfl rfl rfl ?_
      refine O.move (v := va1) rfl rfl rfl ?_
      refine O.lenS Try.underlying22 (H.arg ha1) rfl rfl rfl ?_
      obtain ⟨t3, ht3, hm⟩ := bind_some hm
      refine O.add rfl rfl rfl rfl ht3 ?_
      refine O.gtr rfl rfl rfl rfl ?_
      refine WL.nil ?_
      rcases ite_some hm with ⟨hc3, hm⟩ | ⟨hc3, hm⟩
      · refine W.cond_true (congrArg Value.bool hc3) ?_
        refine W.seq ?_
        refine W.region ?_
        have H := H.addNil (α := GEntry) (E := 32)
        refine O.assign (v := (.slice none 0 0)) rfl rfl rfl ?_
        refine O.assign (v := (.int .i64 4)) rfl rfl rfl ?_
        refine WL.nil ?_
        refine W.ret ?_
        have hq : (([] : List GEntry), 4) = (r0, r1) := Option.some.inj (show some (([] : List GEntry), 4) = some (r0, r1) from hm)
        obtain ⟨he0, hq0⟩ := Prod.mk.inj hq; clear hq; subst he0
        subst hq0
        exact ends2 Try.results28 rfl rfl ⟨_, rfl, H.base, ⟨_, rfl, H.ownR 1 rfl⟩⟩
      · refine W.cond_false (congrArg Value.bool hc3) ?_
        refine W.skip ?_
        refine W.seq ?_
        refine W.region ?_
        refine O.buildEmpty (α := GEntry) Try.underlying22 el32 H rfl rfl ?_
        intro b2 w3 H hb3
        refine O.move (v := va0) rfl rfl rfl ?_
        obtain ⟨t4, ht4, hm⟩ := bind_some hm
        refine O.append 1 Try.underlying22 el32 rfl H rfl (H.arg ha0) ht4 rfl rfl rfl rfl ?_
        intro v1 w4 H
        refine O.move (v := va1) rfl rfl rfl ?_
        obtain ⟨t5, ht5, hm⟩ := bind_some hm
        refine O.append 1 Try.underlying22 el32 rfl H rfl (H.arg ha1) ht5 rfl rfl rfl rfl ?_
        intro v2 w5 H
        refine O.assign (v := v2) rfl rfl rfl ?_
        refine O.assign (v := (.int .i64 0)) rfl rfl rfl ?_
        refine WL.nil ?_
        refine W.ret ?_
        have hq : (t5, 0) = (r0, r1) := Option.some.inj (show some (t5, 0) = some (r0, r1) from hm)
        obtain ⟨he0, hq0⟩ := Prod.mk.inj hq; clear hq; subst he0
        subst hq0
        exact ends2 Try.results28 rfl rfl ⟨_, rfl, H.base, ⟨_, rfl, H.ownR 1 rfl⟩⟩

set_option maxRecDepth 20000 in
theorem c_noongunref09_SameEntries {w0 : World} (va0 : Value) (a0 : (List GEntry)) (ha0 : SliceR w0 va0 a0) (va1 : Value) (a1 : (List GEntry)) (ha1 : SliceR w0 va1 a1) {r0 : Bool} (hm : noongunref09_SameEntries a0 a1 = some r0) :
    Calls Try.prog 29 #[va0, va1] w0 (Ret w0 fun _ v => v = (.bool r0)) := by
  unfold noongunref09_SameEntries at hm
  refine calls_of_W Try.func29 rfl Try.ntmps29 (Nat.le_of_ble_eq_true rfl) ?_
  have H := Inv.start (w := w0)
  refine W.seq ?_
  refine W.region ?_
  refine O.assign (v := (.bool false)) rfl rfl rfl ?_
  refine WL.nil ?_
  refine W.seq ?_
  refine W.seq ?_
  refine W.region ?_
  refine O.move (v := va0) rfl rfl rfl ?_
  refine O.lenS Try.underlying22 (H.arg ha0) rfl rfl rfl ?_
  refine O.move (v := va1) rfl rfl rfl ?_
  refine O.lenS Try.underlying22 (H.arg ha1) rfl rfl rfl ?_
  refine O.neq rfl rfl rfl rfl ?_
  refine WL.nil ?_
  rcases ite_some hm with ⟨hc1, hm⟩ | ⟨hc1, hm⟩
  · refine W.cond_true (congrArg Value.bool hc1) ?_
    refine W.seq ?_
    refine W.region ?_
    refine O.assign (v := (.bool false)) rfl rfl rfl ?_
    refine WL.nil ?_
    refine W.ret ?_
    have hq : false = r0 := Option.some.inj (show some false = some r0 from hm)
    subst hq
    exact ends1 Try.results29 rfl ⟨_, rfl, H.base, rfl⟩
  · refine W.cond_false (congrArg Value.bool hc1) ?_
    refine W.skip ?_
    refine W.seq ?_
    refine W.seq ?_
    refine W.region ?_
    refine O.move (v := va0) rfl rfl rfl ?_
    refine O.lenS Try.underlying22 (H.arg ha0) rfl rfl rfl ?_
    refine O.move (v := (.int .i64 0)) rfl rfl rfl ?_
    refine WL.nil ?_
    obtain ⟨o1, hm1, hm⟩ := bind_some hm
    refine W.via (fun f w => o1 = .next () ∧ Inv w0 w []) ?_ ?_
    · skip
      refine W.block ?_
      have hbdik1 := (H.arg ha0).len_le
      refine W.rangeN (i := 0) hm1 (fun rem ik1 s f w => () = s ∧ (ik1 : Int) + rem = max 0 ((a0.length : Nat) : Int) ∧ f 13 = .int .i64 (ik1 : Int) ∧ f 12 = (.int .i64 ((a0.length : Nat) : Int)) ∧ f 0 = va0 ∧ f 1 = va1 ∧ Inv w0 w []) ?_ ?_ ?_
      · skip
        exact ⟨rfl, rangeN_start, rfl, rfl, rfl, rfl, H⟩
      · skip
        rintro k ik1 _ st f w ⟨rfl, hdropk1, hf13, hf12, hf0, hf1, H⟩ hm2
        have hltk1 := rangeN_lt hdropk1
        obtain ⟨u1, rfl⟩ : ∃ u1, f = (upd (upd (upd (upd u1 13 (.int .i64 (ik1 : Int))) 12 (.int .i64 ((a0.length : Nat) : Int))) 0 va0) 1 va1) := ⟨f, by rw [upd_self hf13, upd_self hf12, upd_self hf0, upd_self hf1]⟩
        have hinck1 := addI_lt hltk1 hbdik1
        refine W.seq ?_
        refine W.region ?_
        refine O.lss rfl rfl rfl rfl ?_
        refine WL.nil ?_
        refine W.seq ?_
        refine W.cond_true (congrArg Value.bool (decide_eq_true hltk1)) ?_
        refine W.skip ?_
        refine W.seq ?_
        refine W.block ?_
        refine W.seq ?_
        refine W.region ?_
        refine O.move (v := (.int .i64 (ik1 : Int))) rfl rfl rfl ?_
        refine O.assign (v := (.int .i64 (ik1 : Int))) rfl rfl rfl ?_
        refine WL.nil ?_
        refine W.seq ?_
        obtain ⟨x1, hx1, hm2⟩ := bind_some hm2
        obtain ⟨p1, hp1, hrp1⟩ := fix_indexAddr Try.underlying22 sz32 (H.arg ha0) hx1
        obtain ⟨x2, hx2, hm2⟩ := bind_some hm2
        obtain ⟨p2, hp2, hrp2⟩ := fix_indexAddr Try.underlying22 sz32 (H.arg ha1) hx2
        refine W.drawN 8 (fun f => f 0 = va0 ∧ f 1 = va1 ∧ f 12 = (.int .i64 ((a0.length : Nat) : Int)) ∧ f 13 = (.int .i64 (ik1 : Int)) ∧ f 19 = (.agg (Flat.cells x1).toArray) ∧ f 23 = (.agg (Flat.cells x2).toArray)) fol (by kernel_rfl) ?_ ?_
        · skip
          refine PL.of (fun _ w8 _ hx => O.move (v := va0) rfl rfl rfl (WL.nil ⟨rfl, hx⟩)) ?_
          refine PL.of (fun _ w8 _ hx => O.move (v := (.int .i64 (ik1 : Int))) rfl rfl rfl (WL.nil ⟨rfl, hx⟩)) ?_
          refine PL.of (fun _ w8 _ hx => hrp1 rfl rfl rfl rfl (WL.nil ⟨rfl, hx⟩)) ?_
          refine PL.of (fun _ w8 _ hx => by have hp1 := hp1.mono hx; exact O.loadA [(.int .i64 x1.Day), (.bool x1.Found), (.int .i64 x1.Error)] ag32 rfl rfl rfl rfl (hp1.flat) (WL.nil ⟨rfl, hx⟩)) ?_
          refine PL.of (fun _ w8 _ hx => O.move (v := va1) rfl rfl rfl (WL.nil ⟨rfl, hx⟩)) ?_
          refine PL.of (fun _ w8 _ hx => O.move (v := (.int .i64 (ik1 : Int))) rfl rfl rfl (WL.nil ⟨rfl, hx⟩)) ?_
          refine PL.of (fun _ w8 _ hx => hrp2 rfl rfl rfl rfl (WL.nil ⟨rfl, hx⟩)) ?_
          refine PL.of (fun _ w8 _ hx => by have hp2 := hp2.mono hx; exact O.loadA [(.int .i64 x2.Day), (.bool x2.Found), (.int .i64 x2.Error)] ag32 rfl rfl rfl rfl (hp2.flat) (WL.nil ⟨rfl, hx⟩)) ?_
          refine PL.nil ?_
          exact ⟨rfl, rfl, rfl, rfl, rfl, rfl⟩
        · skip
          rintro f w ⟨hf0, hf1, hf12, hf13, hf19, hf23⟩ hmd hx
          have H := H.ext hx
          have hp1 := hp1.mono hx
          have hp2 := hp2.mono hx
          obtain ⟨u2, rfl⟩ : ∃ u2, f = (upd (upd (upd (upd (upd (upd u2 0 va0) 1 va1) 12 (.int .i64 ((a0.length : Nat) : Int))) 13 (.int .i64 (ik1 : Int))) 19 (.agg (Flat.cells x1).toArray)) 23 (.agg (Flat.cells x2).toArray)) := ⟨f, by rw [upd_self hf0, upd_self hf1, upd_self hf12, upd_self hf13, upd_self hf19, upd_self hf23]⟩
          refine O.neqSt x1 x2 eq32 rfl rfl rfl rfl ?_
          refine WL.nil ?_
          rcases ite_some hm2 with ⟨hc2, hm2⟩ | ⟨hc2, hm2⟩
          · refine W.cond_true (congrArg Value.bool hc2) ?_
            refine W.seq ?_
            refine W.region ?_
            refine O.assign (v := (.bool false)) rfl rfl rfl ?_
            refine WL.nil ?_
            refine W.ret ?_
            obtain rfl := Option.some.inj hm2
            refine ⟨_, rfl, ?_⟩
            rintro rfl
            have hq : false = r0 := Option.some.inj (show some false = some r0 from hm)
            subst hq
            exact ends1 Try.results29 rfl ⟨_, rfl, H.base, rfl⟩
          · refine W.cond_false (congrArg Value.bool hc2) ?_
            refine W.skip ?_
            refine W.region ?_
            refine O.add rfl rfl rfl rfl hinck1 ?_
            refine O.move (v := .int .i64 ((ik1 : Int) + 1)) rfl rfl rfl ?_
            refine WL.nil ?_
            obtain rfl := Option.some.inj hm2
            exact ⟨_, rfl, rfl, rangeN_next hdropk1, rfl, rfl, rfl, rfl, H⟩
      · skip
        rintro ik1 _ f w ⟨rfl, hdropk1, hf13, hf12, hf0, hf1, H⟩ hfin
        have hltk1 := rangeN_end hdropk1
        obtain ⟨u3, rfl⟩ : ∃ u3, f = (upd (upd (upd (upd u3 13 (.int .i64 (ik1 : Int))) 12 (.int .i64 ((a0.length : Nat) : Int))) 0 va0) 1 va1) := ⟨f, by rw [upd_self hf13, upd_self hf12, upd_self hf0, upd_self hf1]⟩
        refine W.seq ?_
        refine W.region ?_
        refine O.lss rfl rfl rfl rfl ?_
        refine WL.nil ?_
        refine W.seq ?_
        refine W.cond_false (congrArg Value.bool (decide_eq_false hltk1)) ?_
        refine W.exit ?_
        obtain rfl : Ctl.next () = o1 := hfin
        refine xT rfl ?_
        exact ⟨rfl, H⟩
    · skip
      rintro f w ⟨rfl, H⟩
      refine W.seq ?_
      refine W.region ?_
      refine O.assign (v := (.bool true)) rfl rfl rfl ?_
      refine WL.nil ?_
      refine W.ret ?_
      have hq : true = r0 := Option.some.inj (show some true = some r0 from hm)
      subst hq
      exact ends1 Try.results29 rfl ⟨_, rfl, H.base, rfl⟩

set_option maxRecDepth 20000 in
theorem c_noongunlaw09_LedgerAdds {w0 : World} (va0 : Value) (a0 : (List GEntry)) (ha0 : SliceR w0 va0 a0) (va1 : Value) (a1 : (List GEntry)) (ha1 : SliceR w0 va1 a1) (a2 : GEntry) (a3 : Int) {r0 : Bool} (hm : noongunlaw09_LedgerAdds a0 a1 a2 a3 = some r0) :
    Calls Try.prog 5 #[va0, va1, (.agg (Flat.cells a2).toArray), (.int .i64 a3)] w0 (Ret w0 fun _ v => v = (.bool r0)) := by
  unfold noongunlaw09_LedgerAdds at hm
  refine calls_of_W Try.func5 rfl Try.ntmps5 (Nat.le_of_ble_eq_true rfl) ?_
  have H := Inv.start (w := w0)
  refine W.seq ?_
  refine W.region ?_
  refine O.box [(.int .i64 a2.Day), (.bool a2.Found), (.int .i64 a2.Error)] H rfl rfl rfl rfl ?_
  intro b1 w1 H hb1
  refine O.assign (v := (.bool false)) rfl rfl rfl ?_
  refine WL.nil ?_
  refine W.seq ?_
  refine W.seq ?_
  refine W.region ?_
  refine O.move (v := va0) rfl rfl rfl ?_
  obtain ⟨t1, hy1, hm⟩ := bind_some hm
  refine O.call Try.call12 rfl rfl rfl (c_noongunlaw09_fit _ _ (H.arg ha0) hy1) ?_
  rintro _ w2 hb2 rfl
  have H := H.ext hb2
  refine O.not rfl rfl rfl ?_
  refine O.move (v := (.bool (!t1))) rfl rfl rfl ?_
  obtain ⟨b2, hm1, hm⟩ := bind_some hm
  refine WL.cut 4 (fun f w => f 0 = va0 ∧ f 1 = va1 ∧ f 3 = (.int .i64 a3) ∧ f 6 = (.pointer (some ⟨b1, 0, none⟩)) ∧ f 28 = .bool b2 ∧ Inv w0 w [boxI b1 32 [(.int .i64 a2.Day), (.bool a2.Found), (.int .i64 a2.Error)]]) ?_ ?_
  · skip
    rcases ite_some hm1 with ⟨hc1, hm1⟩ | ⟨hc1, hm1⟩
    · skip
      refine WL.reset (i := 24) (v := .bool true) (congrArg Value.bool hc1) ?_
      refine O.skip rfl rfl ?_
      refine O.skip rfl rfl ?_
      refine O.skip rfl rfl ?_
      refine O.pick_true (v := (.bool true)) rfl rfl rfl rfl ?_
      refine WL.nil ?_
      have hq : true = b2 := Option.some.inj (show some true = some b2 from hm1)
      subst hq
      exact ⟨rfl, rfl, rfl, rfl, rfl, H⟩
    · skip
      refine WL.reset (i := 24) (v := .bool false) (congrArg Value.bool hc1) ?_
      refine O.move (v := va1) rfl rfl rfl ?_
      obtain ⟨t2, hy2, hm1⟩ := bind_some hm1
      refine O.call Try.call12 rfl rfl rfl (c_noongunlaw09_fit _ _ (H.arg ha1) hy2) ?_
      rintro _ w3 hb3 rfl
      have H := H.ext hb3
      refine O.not rfl rfl rfl ?_
      refine O.pick_false (v := (.bool (!t2))) rfl rfl rfl rfl ?_
      refine WL.nil ?_
      have hq : (!t2) = b2 := Option.some.inj (show some (!t2) = some b2 from hm1)
      subst hq
      exact ⟨rfl, rfl, rfl, rfl, rfl, H⟩
  · skip
    rintro f w ⟨hf0, hf1, hf3, hf6, hf28, H⟩
    obtain ⟨u1, rfl⟩ : ∃ u1, f = (upd (upd (upd (upd (upd u1 0 va0) 1 va1) 3 (.int .i64 a3)) 6 (.pointer (some ⟨b1, 0, none⟩))) 28 (.bool b2)) := ⟨f, by rw [upd_self hf0, upd_self hf1, upd_self hf3, upd_self hf6, upd_self hf28]⟩
    refine WL.nil ?_
    rcases ite_some hm with ⟨hc2, hm⟩ | ⟨hc2, hm⟩
    · refine W.cond_true (congrArg Value.bool hc2) ?_
      refine W.seq ?_
      refine W.region ?_
      obtain ⟨t3, hy3, hm⟩ := bind_some hm
      refine O.call Try.call13 rfl rfl rfl (c_noongunlaw09_awake  hy3) ?_
      rintro _ w4 hb4 rfl
      have H := H.ext hb4
      refine O.assign (v := (.bool t3)) rfl rfl rfl ?_
      refine WL.nil ?_
      refine W.ret ?_
      have hq : t3 = r0 := Option.some.inj (show some t3 = some r0 from hm)
      subst hq
      exact ends1 Try.results5 rfl ⟨_, rfl, H.base, rfl⟩
    · refine W.cond_false (congrArg Value.bool hc2) ?_
      refine W.skip ?_
      refine W.seq ?_
      refine W.region ?_
      refine O.move (v := va0) rfl rfl rfl ?_
      refine O.loadA [(.int .i64 a2.Day), (.bool a2.Found), (.int .i64 a2.Error)] ag32 rfl rfl rfl rfl (H.cell 0 rfl) ?_
      obtain ⟨⟨t4, t5⟩, hy4, hm⟩ := bind_some hm
      refine O.call Try.call25 rfl rfl rfl (c_ledger_Added _ _ (H.arg ha0) a2 hy4) ?_
      rintro _ w5 hb5 ⟨v1, rfl, ho1⟩
      have H := H.addOwn hb5 ho1
      refine O.move (v := (.tuple #[v1, (.int .i64 t5)])) rfl rfl rfl ?_
      refine O.extract (v := v1) rfl rfl rfl rfl ?_
      refine O.extract (v := (.int .i64 t5)) rfl rfl rfl rfl ?_
      refine O.assign (v := v1) rfl rfl rfl ?_
      refine O.assign (v := (.int .i64 t5)) rfl rfl rfl ?_
      refine WL.nil ?_
      refine W.seq ?_
      refine W.region ?_
      refine O.move (v := va0) rfl rfl rfl ?_
      refine O.loadA [(.int .i64 a2.Day), (.bool a2.Found), (.int .i64 a2.Error)] ag32 rfl rfl rfl rfl (H.cell 0 rfl) ?_
      obtain ⟨⟨t6, t7⟩, hy5, hm⟩ := bind_some hm
      refine O.call Try.call26 rfl rfl rfl (c_noongunref09_Added _ _ (H.arg ha0) a2 hy5) ?_
      rintro _ w6 hb6 ⟨v2, rfl, ho2⟩
      have H := H.addOwn hb6 ho2
      refine O.move (v := (.tuple #[v2, (.int .i64 t7)])) rfl rfl rfl ?_
      refine O.extract (v := v2) rfl rfl rfl rfl ?_
      refine O.extract (v := (.int .i64 t7)) rfl rfl rfl rfl ?_
      refine O.assign (v := v2) rfl rfl rfl ?_
      refine O.assign (v := (.int .i64 t7)) rfl rfl rfl ?_
      refine WL.nil ?_
      refine W.seq ?_
      refine W.region ?_
      refine O.move (v := va0) rfl rfl rfl ?_
      refine O.move (v := va1) rfl rfl rfl ?_
      obtain ⟨⟨t8, t9⟩, hy6, hm⟩ := bind_some hm
      refine O.call Try.call27 rfl rfl rfl (c_ledger_Merged _ _ (H.arg ha0) _ _ (H.arg ha1) hy6) ?_
      rintro _ w7 hb7 ⟨v3, rfl, ho3⟩
      have H := H.addOwn hb7 ho3
      refine O.move (v := (.tuple #[v3, (.int .i64 t9)])) rfl rfl rfl ?_
      refine O.extract (v := v3) rfl rfl rfl rfl ?_
      refine O.extract (v := (.int .i64 t9)) rfl rfl rfl rfl ?_
      refine O.assign (v := v3) rfl rfl rfl ?_
      refine O.assign (v := (.int .i64 t9)) rfl rfl rfl ?_
      refine WL.nil ?_
      refine W.seq ?_
      refine W.region ?_
      refine O.move (v := va0) rfl rfl rfl ?_
      refine O.move (v := va1) rfl rfl rfl ?_
      obtain ⟨⟨t10, t11⟩, hy7, hm⟩ := bind_some hm
      refine O.call Try.call28 rfl rfl rfl (c_noongunref09_Merged _ _ (H.arg ha0) _ _ (H.arg ha1) hy7) ?_
      rintro _ w8 hb8 ⟨v4, rfl, ho4⟩
      have H := H.addOwn hb8 ho4
      refine O.move (v := (.tuple #[v4, (.int .i64 t11)])) rfl rfl rfl ?_
      refine O.extract (v := v4) rfl rfl rfl rfl ?_
      refine O.extract (v := (.int .i64 t11)) rfl rfl rfl rfl ?_
      refine O.assign (v := v4) rfl rfl rfl ?_
      refine O.assign (v := (.int .i64 t11)) rfl rfl rfl ?_
      refine WL.nil ?_
      refine W.seq ?_
      refine W.seq ?_
      refine W.region ?_
      refine O.move (v := v1) rfl rfl rfl ?_
      refine O.move (v := v2) rfl rfl rfl ?_
      obtain ⟨t12, hy8, hm⟩ := bind_some hm
      refine O.call Try.call29 rfl rfl rfl (c_noongunref09_SameEntries _ _ (H.own 1 rfl) _ _ (H.own 2 rfl) hy8) ?_
      rintro _ w9 hb9 rfl
      have H := H.ext hb9
      refine O.not rfl rfl rfl ?_
      refine O.move (v := (.bool (!t12))) rfl rfl rfl ?_
      refine WL.cut 4 (fun f w => f 0 = va0 ∧ f 3 = (.int .i64 a3) ∧ f 6 = (.pointer (some ⟨b1, 0, none⟩)) ∧ f 9 = v1 ∧ f 10 = (.int .i64 t5) ∧ f 13 = v3 ∧ f 14 = (.int .i64 t9) ∧ f 15 = v4 ∧ f 16 = (.int .i64 t11) ∧ f 62 = .bool ((!t12) || (t5 != t7)) ∧ Inv w0 w [boxI b1 32 [(.int .i64 a2.Day), (.bool a2.Found), (.int .i64 a2.Error)], ownI (α := GEntry) v1 32 t4, ownI (α := GEntry) v2 32 t6, ownI (α := GEntry) v3 32 t8, ownI (α := GEntry) v4 32 t10]) ?_ ?_
      · skip
        rcases bool_ft (!t12) with hc3 | hc3
        · skip
          refine WL.reset (i := 58) (v := .bool false) (congrArg Value.bool hc3) ?_
          refine O.move (v := (.int .i64 t5)) rfl rfl rfl ?_
          refine O.move (v := (.int .i64 t7)) rfl rfl rfl ?_
          refine O.neq rfl rfl rfl rfl ?_
          refine O.pick_false (v := (.bool (t5 != t7))) rfl rfl rfl rfl ?_
          refine WL.nil ?_
          exact ⟨rfl, rfl, rfl, rfl, rfl, rfl, rfl, rfl, rfl, congrArg Value.bool (or_f hc3), H⟩
        · skip
          refine WL.reset (i := 58) (v := .bool true) (congrArg Value.bool hc3) ?_
          refine O.skip rfl rfl ?_
          refine O.skip rfl rfl ?_
          refine O.skip rfl rfl ?_
          refine O.pick_true (v := (.bool true)) rfl rfl rfl rfl ?_
          refine WL.nil ?_
          exact ⟨rfl, rfl, rfl, rfl, rfl, rfl, rfl, rfl, rfl, congrArg Value.bool (or_t hc3), H⟩
      · skip
        rintro f w ⟨hf0, hf3, hf6, hf9, hf10, hf13, hf14, hf15, hf16, hf62, H⟩
        obtain ⟨u2, rfl⟩ : ∃ u2, f = (upd (upd (upd (upd (upd (upd (upd (upd (upd (upd u2 0 va0) 3 (.int .i64 a3)) 6 (.pointer (some ⟨b1, 0, none⟩))) 9 v1) 10 (.int .i64 t5)) 13 v3) 14 (.int .i64 t9)) 15 v4) 16 (.int .i64 t11)) 62 (.bool ((!t12) || (t5 != t7)))) := ⟨f, by rw [upd_self hf0, upd_self hf3, upd_self hf6, upd_self hf9, upd_self hf10, upd_self hf13, upd_self hf14, upd_self hf15, upd_self hf16, upd_self hf62]⟩
        refine O.move (v := (.bool ((!t12) || (t5 != t7)))) rfl rfl rfl ?_
        obtain ⟨b3, hm2, hm⟩ := bind_some hm
        refine WL.cut 5 (fun f w => f 0 = va0 ∧ f 3 = (.int .i64 a3) ∧ f 6 = (.pointer (some ⟨b1, 0, none⟩)) ∧ f 9 = v1 ∧ f 10 = (.int .i64 t5) ∧ f 14 = (.int .i64 t9) ∧ f 16 = (.int .i64 t11) ∧ f 68 = .bool b3 ∧ Inv w0 w [boxI b1 32 [(.int .i64 a2.Day), (.bool a2.Found), (.int .i64 a2.Error)], ownI (α := GEntry) v1 32 t4, ownI (α := GEntry) v2 32 t6, ownI (α := GEntry) v3 32 t8, ownI (α := GEntry) v4 32 t10]) ?_ ?_
        · skip
          rcases ite_some hm2 with ⟨hc4, hm2⟩ | ⟨hc4, hm2⟩
          · skip
            refine WL.reset (i := 63) (v := .bool true) (congrArg Value.bool hc4) ?_
            refine O.skip rfl rfl ?_
            refine O.skip rfl rfl ?_
            refine O.skip rfl rfl ?_
            refine O.skip rfl rfl ?_
            refine O.pick_true (v := (.bool true)) rfl rfl rfl rfl ?_
            refine WL.nil ?_
            have hq : true = b3 := Option.some.inj (show some true = some b3 from hm2)
            subst hq
            exact ⟨rfl, rfl, rfl, rfl, rfl, rfl, rfl, rfl, H⟩
          · skip
            refine WL.reset (i := 63) (v := .bool false) (congrArg Value.bool hc4) ?_
            refine O.move (v := v3) rfl rfl rfl ?_
            refine O.move (v := v4) rfl rfl rfl ?_
            obtain ⟨t13, hy9, hm2⟩ := bind_some hm2
            refine O.call Try.call29 rfl rfl rfl (c_noongunref09_SameEntries _ _ (H.own 3 rfl) _ _ (H.own 4 rfl) hy9) ?_
            rintro _ w10 hb10 rfl
            have H := H.ext hb10
            refine O.not rfl rfl rfl ?_
            refine O.pick_false (v := (.bool (!t13))) rfl rfl rfl rfl ?_
            refine WL.nil ?_
            have hq : (!t13) = b3 := Option.some.inj (show some (!t13) = some b3 from hm2)
            subst hq
            exact ⟨rfl, rfl, rfl, rfl, rfl, rfl, rfl, rfl, H⟩
        · skip
          rintro f w ⟨hf0, hf3, hf6, hf9, hf10, hf14, hf16, hf68, H⟩
          obtain ⟨u3, rfl⟩ : ∃ u3, f = (upd (upd (upd (upd (upd (upd (upd (upd u3 0 va0) 3 (.int .i64 a3)) 6 (.pointer (some ⟨b1, 0, none⟩))) 9 v1) 10 (.int .i64 t5)) 14 (.int .i64 t9)) 16 (.int .i64 t11)) 68 (.bool b3)) := ⟨f, by rw [upd_self hf0, upd_self hf3, upd_self hf6, upd_self hf9, upd_self hf10, upd_self hf14, upd_self hf16, upd_self hf68]⟩
          refine O.move (v := (.bool b3)) rfl rfl rfl ?_
          refine WL.cut 4 (fun f w => f 0 = va0 ∧ f 3 = (.int .i64 a3) ∧ f 6 = (.pointer (some ⟨b1, 0, none⟩)) ∧ f 9 = v1 ∧ f 10 = (.int .i64 t5) ∧ f 73 = .bool (b3 || (t9 != t11)) ∧ Inv w0 w [boxI b1 32 [(.int .i64 a2.Day), (.bool a2.Found), (.int .i64 a2.Error)], ownI (α := GEntry) v1 32 t4, ownI (α := GEntry) v2 32 t6, ownI (α := GEntry) v3 32 t8, ownI (α := GEntry) v4 32 t10]) ?_ ?_
          · skip
            rcases bool_ft b3 with hc5 | hc5
            · skip
              refine WL.reset (i := 69) (v := .bool false) (congrArg Value.bool hc5) ?_
              refine O.move (v := (.int .i64 t9)) rfl rfl rfl ?_
              refine O.move (v := (.int .i64 t11)) rfl rfl rfl ?_
              refine O.neq rfl rfl rfl rfl ?_
              refine O.pick_false (v := (.bool (t9 != t11))) rfl rfl rfl rfl ?_
              refine WL.nil ?_
              exact ⟨rfl, rfl, rfl, rfl, rfl, congrArg Value.bool (or_f hc5), H⟩
            · skip
              refine WL.reset (i := 69) (v := .bool true) (congrArg Value.bool hc5) ?_
              refine O.skip rfl rfl ?_
              refine O.skip rfl rfl ?_
              refine O.skip rfl rfl ?_
              refine O.pick_true (v := (.bool true)) rfl rfl rfl rfl ?_
              refine WL.nil ?_
              exact ⟨rfl, rfl, rfl, rfl, rfl, congrArg Value.bool (or_t hc5), H⟩
          · skip
            rintro f w ⟨hf0, hf3, hf6, hf9, hf10, hf73, H⟩
            obtain ⟨u4, rfl⟩ : ∃ u4, f = (upd (upd (upd (upd (upd (upd u4 0 va0) 3 (.int .i64 a3)) 6 (.pointer (some ⟨b1, 0, none⟩))) 9 v1) 10 (.int .i64 t5)) 73 (.bool (b3 || (t9 != t11)))) := ⟨f, by rw [upd_self hf0, upd_self hf3, upd_self hf6, upd_self hf9, upd_self hf10, upd_self hf73]⟩
            refine WL.nil ?_
            rcases ite_some hm with ⟨hc6, hm⟩ | ⟨hc6, hm⟩
            · refine W.cond_true (congrArg Value.bool hc6) ?_
              refine W.seq ?_
              refine W.region ?_
              refine O.assign (v := (.bool false)) rfl rfl rfl ?_
              refine WL.nil ?_
              refine W.ret ?_
              have hq : false = r0 := Option.some.inj (show some false = some r0 from hm)
              subst hq
              exact ends1 Try.results5 rfl ⟨_, rfl, H.base, rfl⟩
            · refine W.cond_false (congrArg Value.bool hc6) ?_
              refine W.skip ?_
              refine W.seq ?_
              refine W.seq ?_
              refine W.region ?_
              refine O.move (v := (.int .i64 t5)) rfl rfl rfl ?_
              refine O.neq rfl rfl rfl rfl ?_
              refine O.move (v := (.bool (t5 != 0))) rfl rfl rfl ?_
              refine WL.cut 5 (fun f w => f 0 = va0 ∧ f 3 = (.int .i64 a3) ∧ f 9 = v1 ∧ f 81 = .bool ((t5 != 0) || (a3 == a2.Day)) ∧ Inv w0 w [boxI b1 32 [(.int .i64 a2.Day), (.bool a2.Found), (.int .i64 a2.Error)], ownI (α := GEntry) v1 32 t4, ownI (α := GEntry) v2 32 t6, ownI (α := GEntry) v3 32 t8, ownI (α := GEntry) v4 32 t10]) ?_ ?_
              · skip
                rcases bool_ft (t5 != 0) with hc7 | hc7
                · skip
                  refine WL.reset (i := 76) (v := .bool false) (congrArg Value.bool hc7) ?_
                  refine O.move (v := (.int .i64 a3)) rfl rfl rfl ?_
                  refine O.fieldAddr fd32_0 rfl rfl rfl ?_
                  refine O.load sc3 rfl rfl rfl (H.cell 0 rfl 0 _ rfl) ?_
                  refine O.eql rfl rfl rfl rfl ?_
                  refine O.pick_false (v := (.bool (a3 == a2.Day))) rfl rfl rfl rfl ?_
                  refine WL.nil ?_
                  exact ⟨rfl, rfl, rfl, congrArg Value.bool (or_f hc7), H⟩
                · skip
                  refine WL.reset (i := 76) (v := .bool true) (congrArg Value.bool hc7) ?_
                  refine O.skip rfl rfl ?_
                  refine O.skip rfl rfl ?_
                  refine O.skip rfl rfl ?_
                  refine O.skip rfl rfl ?_
                  refine O.pick_true (v := (.bool true)) rfl rfl rfl rfl ?_
                  refine WL.nil ?_
                  exact ⟨rfl, rfl, rfl, congrArg Value.bool (or_t hc7), H⟩
              · skip
                rintro f w ⟨hf0, hf3, hf9, hf81, H⟩
                obtain ⟨u5, rfl⟩ : ∃ u5, f = (upd (upd (upd (upd u5 0 va0) 3 (.int .i64 a3)) 9 v1) 81 (.bool ((t5 != 0) || (a3 == a2.Day)))) := ⟨f, by rw [upd_self hf0, upd_self hf3, upd_self hf9, upd_self hf81]⟩
                refine WL.nil ?_
                rcases ite_some hm with ⟨hc8, hm⟩ | ⟨hc8, hm⟩
                · refine W.cond_true (congrArg Value.bool hc8) ?_
                  refine W.seq ?_
                  refine W.region ?_
                  obtain ⟨t14, hy10, hm⟩ := bind_some hm
                  refine O.call Try.call13 rfl rfl rfl (c_noongunlaw09_awake  hy10) ?_
                  rintro _ w11 hb11 rfl
                  have H := H.ext hb11
                  refine O.assign (v := (.bool t14)) rfl rfl rfl ?_
                  refine WL.nil ?_
                  refine W.ret ?_
                  have hq : t14 = r0 := Option.some.inj (show some t14 = some r0 from hm)
                  subst hq
                  exact ends1 Try.results5 rfl ⟨_, rfl, H.base, rfl⟩
                · refine W.cond_false (congrArg Value.bool hc8) ?_
                  refine W.skip ?_
                  refine W.seq ?_
                  refine W.region ?_
                  refine O.move (v := va0) rfl rfl rfl ?_
                  refine O.move (v := (.int .i64 a3)) rfl rfl rfl ?_
                  obtain ⟨⟨t15, t16⟩, hy11, hm⟩ := bind_some hm
                  refine O.call Try.call18 rfl rfl rfl (c_ledger_Off _ _ (H.arg ha0) _ hy11) ?_
                  rintro _ w12 hb12 rfl
                  have H := H.ext hb12
                  refine O.move (v := (.tuple #[(.int .i64 t15), (.int .i64 t16)])) rfl rfl rfl ?_
                  refine O.extract (v := (.int .i64 t15)) rfl rfl rfl rfl ?_
                  refine O.extract (v := (.int .i64 t16)) rfl rfl rfl rfl ?_
                  refine O.assign (v := (.int .i64 t15)) rfl rfl rfl ?_
                  refine O.assign (v := (.int .i64 t16)) rfl rfl rfl ?_
                  refine WL.nil ?_
                  refine W.seq ?_
                  refine W.region ?_
                  refine O.move (v := v1) rfl rfl rfl ?_
                  refine O.move (v := (.int .i64 a3)) rfl rfl rfl ?_
                  obtain ⟨⟨t17, t18⟩, hy12, hm⟩ := bind_some hm
                  refine O.call Try.call18 rfl rfl rfl (c_ledger_Off _ _ (H.own 1 rfl) _ hy12) ?_
                  rintro _ w13 hb13 rfl
                  have H := H.ext hb13
                  refine O.move (v := (.tuple #[(.int .i64 t17), (.int .i64 t18)])) rfl rfl rfl ?_
                  refine O.extract (v := (.int .i64 t17)) rfl rfl rfl rfl ?_
                  refine O.extract (v := (.int .i64 t18)) rfl rfl rfl rfl ?_
                  refine O.assign (v := (.int .i64 t17)) rfl rfl rfl ?_
                  refine O.assign (v := (.int .i64 t18)) rfl rfl rfl ?_
                  refine WL.nil ?_
                  refine W.seq ?_
                  refine W.region ?_
                  refine O.move (v := (.int .i64 t15)) rfl rfl rfl ?_
                  refine O.move (v := (.int .i64 t17)) rfl rfl rfl ?_
                  refine O.eql rfl rfl rfl rfl ?_
                  refine O.move (v := (.bool (t15 == t17))) rfl rfl rfl ?_
                  refine WL.cut 4 (fun f w => f 102 = .bool ((t15 == t17) && (t16 == t18)) ∧ Inv w0 w [boxI b1 32 [(.int .i64 a2.Day), (.bool a2.Found), (.int .i64 a2.Error)], ownI (α := GEntry) v1 32 t4, ownI (α := GEntry) v2 32 t6, ownI (α := GEntry) v3 32 t8, ownI (α := GEntry) v4 32 t10]) ?_ ?_
                  · skip
                    rcases bool_ft (t15 == t17) with hc9 | hc9
                    · skip
                      refine WL.reset (i := 98) (v := .bool false) (congrArg Value.bool hc9) ?_
                      refine O.skip rfl rfl ?_
                      refine O.skip rfl rfl ?_
                      refine O.skip rfl rfl ?_
                      refine O.pick_false (v := (.bool false)) rfl rfl rfl rfl ?_
                      refine WL.nil ?_
                      exact ⟨congrArg Value.bool (and_f hc9), H⟩
                    · skip
                      refine WL.reset (i := 98) (v := .bool true) (congrArg Value.bool hc9) ?_
                      refine O.move (v := (.int .i64 t16)) rfl rfl rfl ?_
                      refine O.move (v := (.int .i64 t18)) rfl rfl rfl ?_
                      refine O.eql rfl rfl rfl rfl ?_
                      refine O.pick_true (v := (.bool (t16 == t18))) rfl rfl rfl rfl ?_
                      refine WL.nil ?_
                      exact ⟨congrArg Value.bool (and_t hc9), H⟩
                  · skip
                    rintro f w ⟨hf102, H⟩
                    obtain ⟨u6, rfl⟩ : ∃ u6, f = (upd u6 102 (.bool ((t15 == t17) && (t16 == t18)))) := ⟨f, by rw [upd_self hf102]⟩
                    refine O.move (v := (.bool ((t15 == t17) && (t16 == t18)))) rfl rfl rfl ?_
                    obtain ⟨b4, hm3, hm⟩ := bind_some hm
                    refine WL.cut 2 (fun f w => f 105 = .bool b4 ∧ Inv w0 w [boxI b1 32 [(.int .i64 a2.Day), (.bool a2.Found), (.int .i64 a2.Error)], ownI (α := GEntry) v1 32 t4, ownI (α := GEntry) v2 32 t6, ownI (α := GEntry) v3 32 t8, ownI (α := GEntry) v4 32 t10]) ?_ ?_
                    · skip
                      rcases ite_some hm3 with ⟨hc10, hm3⟩ | ⟨hc10, hm3⟩
                      · skip
                        refine WL.reset (i := 103) (v := .bool true) (congrArg Value.bool hc10) ?_
                        obtain ⟨t19, hy13, hm3⟩ := bind_some hm3
                        refine O.call Try.call13 rfl rfl rfl (c_noongunlaw09_awake  hy13) ?_
                        rintro _ w14 hb14 rfl
                        have H := H.ext hb14
                        refine O.pick_true (v := (.bool t19)) rfl rfl rfl rfl ?_
                        refine WL.nil ?_
                        have hq : t19 = b4 := Option.some.inj (show some t19 = some b4 from hm3)
                        subst hq
                        exact ⟨rfl, H⟩
                      · skip
                        refine WL.reset (i := 103) (v := .bool false) (congrArg Value.bool hc10) ?_
                        refine O.skip rfl rfl ?_
                        refine O.pick_false (v := (.bool false)) rfl rfl rfl rfl ?_
                        refine WL.nil ?_
                        have hq : false = b4 := Option.some.inj (show some false = some b4 from hm3)
                        subst hq
                        exact ⟨rfl, H⟩
                    · skip
                      rintro f w ⟨hf105, H⟩
                      obtain ⟨u7, rfl⟩ : ∃ u7, f = (upd u7 105 (.bool b4)) := ⟨f, by rw [upd_self hf105]⟩
                      refine O.assign (v := (.bool b4)) rfl rfl rfl ?_
                      refine WL.nil ?_
                      refine W.ret ?_
                      have hq : b4 = r0 := Option.some.inj (show some b4 = some r0 from hm)
                      subst hq
                      exact ends1 Try.results5 rfl ⟨_, rfl, H.base, rfl⟩

set_option maxRecDepth 20000 in
theorem c_ledger_Shifted {w0 : World} (va0 : Value) (a0 : (List GEntry)) (ha0 : SliceR w0 va0 a0) (a1 : Int) {r0 : (List GEntry)} {r1 : Int} (hm : ledger_Shifted a0 a1 = some (r0, r1)) :
    Calls Try.prog 30 #[va0, (.int .i64 a1)] w0 (Ret w0 fun w v => ∃ vr0 : Value, v = .tuple #[vr0, (.int .i64 r1)] ∧ OwnR w0 w vr0 32 r0) := by
  unfold ledger_Shifted at hm
  refine calls_of_W Try.func30 rfl Try.ntmps30 (Nat.le_of_ble_eq_true rfl) ?_
  have H := Inv.start (w := w0)
  refine W.seq ?_
  refine W.region ?_
  have H := H.addNil (α := GEntry) (E := 32)
  refine O.assign (v := (.slice none 0 0)) rfl rfl rfl ?_
  refine O.assign (v := (.int .i64 0)) rfl rfl rfl ?_
  refine WL.nil ?_
  refine W.seq ?_
  refine W.block ?_
  refine W.seq ?_
  refine W.region ?_
  refine O.move (v := va0) rfl rfl rfl ?_
  obtain ⟨t1, hy1, hm⟩ := bind_some hm
  refine O.call Try.call20 rfl rfl rfl (c_ledger_Valid _ _ (H.arg ha0) hy1) ?_
  rintro _ w1 hb1 rfl
  have H := H.ext hb1
  refine O.not rfl rfl rfl ?_
  refine O.assign (v := (.bool (!t1))) rfl rfl rfl ?_
  refine WL.nil ?_
  rcases ite_some hm with ⟨hc1, hm⟩ | ⟨hc1, hm⟩
  · refine W.cond_true (congrArg Value.bool hc1) ?_
    refine W.seq ?_
    refine W.region ?_
    have H := H.addNil (α := GEntry) (E := 32)
    refine O.assign (v := (.slice none 0 0)) rfl rfl rfl ?_
    refine O.assign (v := (.int .i64 1)) rfl rfl rfl ?_
    refine WL.nil ?_
    refine W.ret ?_
    have hq : (([] : List GEntry), 1) = (r0, r1) := Option.some.inj (show some (([] : List GEntry), 1) = some (r0, r1) from hm)
    obtain ⟨he0, hq0⟩ := Prod.mk.inj hq; clear hq; subst he0
    subst hq0
    exact ends2 Try.results30 rfl rfl ⟨_, rfl, H.base, ⟨_, rfl, H.ownR 1 rfl⟩⟩
  · refine W.cond_false (congrArg Value.bool hc1) ?_
    refine W.seq ?_
    refine W.region ?_
    refine O.move (v := (.int .i64 a1)) rfl rfl rfl ?_
    obtain ⟨t2, hy2, hm⟩ := bind_some hm
    refine O.call Try.call71 rfl rfl rfl (c_ledger_within _ _ _ hy2) ?_
    rintro _ w2 hb2 rfl
    have H := H.ext hb2
    refine O.not rfl rfl rfl ?_
    refine O.assign (v := (.bool (!t2))) rfl rfl rfl ?_
    refine WL.nil ?_
    rcases ite_some hm with ⟨hc2, hm⟩ | ⟨hc2, hm⟩
    · refine W.cond_true (congrArg Value.bool hc2) ?_
      refine W.seq ?_
      refine W.region ?_
      have H := H.addNil (α := GEntry) (E := 32)
      refine O.assign (v := (.slice none 0 0)) rfl rfl rfl ?_
      refine O.assign (v := (.int .i64 7)) rfl rfl rfl ?_
      refine WL.nil ?_
      refine W.ret ?_
      have hq : (([] : List GEntry), 7) = (r0, r1) := Option.some.inj (show some (([] : List GEntry), 7) = some (r0, r1) from hm)
      obtain ⟨he0, hq0⟩ := Prod.mk.inj hq; clear hq; subst he0
      subst hq0
      exact ends2 Try.results30 rfl rfl ⟨_, rfl, H.base, ⟨_, rfl, H.ownR 1 rfl⟩⟩
    · refine W.cond_false (congrArg Value.bool hc2) ?_
      refine W.skip ?_
      refine W.seq ?_
      refine W.region ?_
      refine O.move (v := va0) rfl rfl rfl ?_
      obtain ⟨t3, hy3, hm⟩ := bind_some hm
      refine O.call Try.call69 rfl rfl rfl (c_slices_Clone_Entry _ _ (H.arg ha0) hy3) ?_
      rintro v1 w3 hb3 ho1
      have H := H.addOwn hb3 ho1
      refine O.assign (v := v1) rfl rfl rfl ?_
      refine WL.nil ?_
      refine W.seq ?_
      refine W.seq ?_
      refine W.region ?_
      refine O.move (v := v1) rfl rfl rfl ?_
      refine O.lenS Try.underlying22 (H.own 1 rfl) rfl rfl rfl ?_
      refine O.move (v := (.int .i64 0)) rfl rfl rfl ?_
      refine WL.nil ?_
      obtain ⟨s1, hm1, hm⟩ := bind_some hm
      refine W.via (fun f w => ∃ v5 : Value, f 6 = v5 ∧ Inv w0 w [ownI (α := GEntry) v5 32 s1]) ?_ ?_
      · skip
        refine W.block ?_
        have hbdik1 := (H.own 1 rfl).len_le
        have H := H.keep [1] [ownI (α := GEntry) v1 32 t3] rfl (by decide)
        refine W.rangeN (i := 0) hm1 (fun rem ik1 s f w => ∃ z2 : (List GEntry), ∃ v3 : Value, z2 = s ∧ (ik1 : Int) + rem = max 0 ((t3.length : Nat) : Int) ∧ f 20 = .int .i64 (ik1 : Int) ∧ f 19 = (.int .i64 ((t3.length : Nat) : Int)) ∧ f 1 = (.int .i64 a1) ∧ f 6 = v3 ∧ Inv w0 w [ownI (α := GEntry) v3 32 z2]) ?_ ?_ ?_
        · skip
          exact ⟨_, v1, rfl, rangeN_start, rfl, rfl, rfl, rfl, H⟩
        · skip
          rintro k ik1 _ st f w ⟨z2, v3, rfl, hdropk1, hf20, hf19, hf1, hf6, H⟩ hm2
          have hltk1 := rangeN_lt hdropk1
          obtain ⟨u1, rfl⟩ : ∃ u1, f = (upd (upd (upd (upd u1 20 (.int .i64 (ik1 : Int))) 19 (.int .i64 ((t3.length : Nat) : Int))) 1 (.int .i64 a1)) 6 v3) := ⟨f, by rw [upd_self hf20, upd_self hf19, upd_self hf1, upd_self hf6]⟩
          have hinck1 := addI_lt hltk1 hbdik1
          refine W.seq ?_
          refine W.region ?_
          refine O.lss rfl rfl rfl rfl ?_
          refine WL.nil ?_
          refine W.seq ?_
          refine W.cond_true (congrArg Value.bool (decide_eq_true hltk1)) ?_
          refine W.skip ?_
          refine W.seq ?_
          refine W.block ?_
          refine W.seq ?_
          refine W.region ?_
          refine O.move (v := (.int .i64 (ik1 : Int))) rfl rfl rfl ?_
          refine O.assign (v := (.int .i64 (ik1 : Int))) rfl rfl rfl ?_
          refine WL.nil ?_
          refine W.region ?_
          refine O.move (v := v3) rfl rfl rfl ?_
          refine O.move (v := (.int .i64 (ik1 : Int))) rfl rfl rfl ?_
          obtain ⟨x1, hx1, hm2⟩ := bind_some hm2
          refine O.indexAddr Try.underlying22 sz32 (H.own 0 rfl) hx1 rfl rfl rfl rfl ?_
          intro p1 hp1
          refine O.fieldAddr fd32_0 rfl rfl rfl ?_
          refine O.load sc3 rfl rfl rfl (hp1.flat 0 _ rfl) ?_
          refine O.move (v := (.int .i64 a1)) rfl rfl rfl ?_
          obtain ⟨t4, ht4, hm2⟩ := bind_some hm2
          refine O.add rfl rfl rfl rfl ht4 ?_
          obtain ⟨x2, hx2, hm2⟩ := bind_some hm2
          refine O.indexOwn 0 Try.underlying22 sz32 H rfl hx2 rfl rfl rfl rfl ?_
          intro b1 hob1 hp2
          refine O.fieldAddr fd32_0 rfl rfl rfl ?_
          refine O.storeOwn (α := GEntry) (i0 := (ik1 : Int)) (x0 := x2) 0 0 (GEntry.mk t4 x2.Found x2.Error) [(.int .i64 t4)] sz3 H rfl hob1 hx2 rfl rfl rfl rfl rfl rfl rfl rfl (one_cons rfl one_nil) ?_
          intro w4 H
          clear hp1
          clear hp2
          refine WL.nil ?_
          refine W.region ?_
          refine O.add rfl rfl rfl rfl hinck1 ?_
          refine O.move (v := .int .i64 ((ik1 : Int) + 1)) rfl rfl rfl ?_
          refine WL.nil ?_
          obtain rfl := Option.some.inj hm2
          exact ⟨_, rfl, _, v3, rfl, rangeN_next hdropk1, rfl, rfl, rfl, rfl, H⟩
        · skip
          rintro ik1 _ f w ⟨z2, v3, rfl, hdropk1, hf20, hf19, hf1, hf6, H⟩ hfin
          have hltk1 := rangeN_end hdropk1
          obtain ⟨u2, rfl⟩ : ∃ u2, f = (upd (upd (upd (upd u2 20 (.int .i64 (ik1 : Int))) 19 (.int .i64 ((t3.length : Nat) : Int))) 1 (.int .i64 a1)) 6 v3) := ⟨f, by rw [upd_self hf20, upd_self hf19, upd_self hf1, upd_self hf6]⟩
          refine W.seq ?_
          refine W.region ?_
          refine O.lss rfl rfl rfl rfl ?_
          refine WL.nil ?_
          refine W.seq ?_
          refine W.cond_false (congrArg Value.bool (decide_eq_false hltk1)) ?_
          refine W.exit ?_
          have hq : z2 = s1 := hfin
          subst hq
          refine xT rfl ?_
          exact ⟨v3, rfl, H⟩
      · skip
        rintro f w ⟨v5, hf6, H⟩
        obtain ⟨u3, rfl⟩ : ∃ u3, f = (upd u3 6 v5) := ⟨f, by rw [upd_self hf6]⟩
        refine W.seq ?_
        refine W.seq ?_
        refine W.region ?_
        refine O.move (v := v5) rfl rfl rfl ?_
        obtain ⟨t5, hy4, hm⟩ := bind_some hm
        refine O.call Try.call20 rfl rfl rfl (c_ledger_Valid _ _ (H.own 0 rfl) hy4) ?_
        rintro _ w5 hb4 rfl
        have H := H.ext hb4
        refine O.not rfl rfl rfl ?_
        refine WL.nil ?_
        rcases ite_some hm with ⟨hc3, hm⟩ | ⟨hc3, hm⟩
        · refine W.cond_true (congrArg Value.bool hc3) ?_
          refine W.seq ?_
          refine W.region ?_
          have H := H.addNil (α := GEntry) (E := 32)
          refine O.assign (v := (.slice none 0 0)) rfl rfl rfl ?_
          refine O.assign (v := (.int .i64 4)) rfl rfl rfl ?_
          refine WL.nil ?_
          refine W.ret ?_
          have hq : (([] : List GEntry), 4) = (r0, r1) := Option.some.inj (show some (([] : List GEntry), 4) = some (r0, r1) from hm)
          obtain ⟨he0, hq0⟩ := Prod.mk.inj hq; clear hq; subst he0
          subst hq0
          exact ends2 Try.results30 rfl rfl ⟨_, rfl, H.base, ⟨_, rfl, H.ownR 1 rfl⟩⟩
        · refine W.cond_false (congrArg Value.bool hc3) ?_
          refine W.skip ?_
          refine W.seq ?_
          refine W.region ?_
          refine O.move (v := v5) rfl rfl rfl ?_
          refine O.assign (v := v5) rfl rfl rfl ?_
          refine O.assign (v := (.int .i64 0)) rfl rfl rfl ?_
          refine WL.nil ?_
          refine W.ret ?_
          have hq : (s1, 0) = (r0, r1) := Option.some.inj (show some (s1, 0) = some (r0, r1) from hm)
          obtain ⟨he0, hq0⟩ := Prod.mk.inj hq; clear hq; subst he0
          subst hq0
          exact ends2 Try.results30 rfl rfl ⟨_, rfl, H.base, ⟨_, rfl, H.ownR 0 rfl⟩⟩

end Go.Proofs
