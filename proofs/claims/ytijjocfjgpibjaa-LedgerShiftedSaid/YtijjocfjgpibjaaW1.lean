/-
  The walks: each function does what its model says, where the model has a value. No other condition.
-/
import Derived.Test.YtijjocfjgpibjaaW0
namespace Go.Proofs
open Go.Fw Go.RowKit
theorem c_noongunref09_Shifted {w0 : World} (va0 : Value) (a0 : (List GEntry)) (ha0 : SliceR w0 va0 a0) (a1 : Int) {r0 : (List GEntry)} {r1 : Int} (hm : noongunref09_Shifted a0 a1 = some (r0, r1)) :
    Calls Try.prog 31 #[va0, (.int .i64 a1)] w0 (Ret w0 fun w v => ∃ vr0 : Value, v = .tuple #[vr0, (.int .i64 r1)] ∧ OwnR w0 w vr0 32 r0) := by
  unfold noongunref09_Shifted at hm
  refine calls_of_W Try.func31 rfl Try.ntmps31 (Nat.le_of_ble_eq_true rfl) ?_
  have H := Inv.start (w := w0)
  refine W.seq ?_
  refine W.region ?_
  have H := H.addNil (α := GEntry) (E := 32)
  refine O.assign (v := (.slice none 0 0)) rfl rfl rfl ?_
  refine O.assign (v := (.int .i64 0)) rfl rfl rfl ?_
  refine WL.nil ?_
  refine W.seq ?_
  refine W.seq ?_
  refine W.region ?_
  refine O.move (v := va0) rfl rfl rfl ?_
  obtain ⟨t1, ht1, hm⟩ := bind_some hm
  refine O.call Try.call21 rfl rfl rfl (c_noongunref09_Valid _ _ (H.arg ha0) ht1) ?_
  rintro _ w1 hb1 rfl
  have H := H.ext hb1
  refine O.not rfl rfl rfl ?_
  refine WL.nil ?_
  rcases ite_some hm with ⟨hc1, hm⟩ | ⟨hc1, hm⟩
  · refine W.cond_true (congrArg Value.bool hc1) ?_
    refine W.seq ?_
    refine W.region ?_
    have H := H.addNil (α := GEntry) (E := 32)
    refine O.assign (v := (.slice none 0 0)) rfl rfl rfl ?_
    refine O.assign (v := (.int .i64 1)) rfl rfl rfl ?_
    refine WL.nil ?_
    refine W.ret ?_
    have hq : (([] : List GEntry), 1) = (r0, r1) := Option.some.inj (show some (([] : List GEntry), 1) = some (r0, r1) from hm)
    obtain ⟨he0, hq0⟩ := Prod.mk.inj hq; clear hq; subst he0
    subst hq0
    exact ends2 Try.results31 rfl rfl ⟨_, rfl, H.base, ⟨_, rfl, H.ownR 1 rfl⟩⟩
  · refine W.cond_false (congrArg Value.bool hc1) ?_
    refine W.skip ?_
    refine W.seq ?_
    refine W.seq ?_
    refine W.region ?_
    refine O.move (v := (.int .i64 a1)) rfl rfl rfl ?_
    refine O.lss rfl rfl rfl rfl ?_
    refine O.move (v := (.bool (decide (a1 < (-182985))))) rfl rfl rfl ?_
    refine WL.cut 3 (fun f w => f 0 = va0 ∧ f 1 = (.int .i64 a1) ∧ f 17 = .bool ((decide (a1 < (-182985))) || (decide (182985 < a1))) ∧ Inv w0 w [ownI (α := GEntry) (.slice none 0 0) 32 ([] : List GEntry)]) ?_ ?_
    · skip
      rcases bool_ft (decide (a1 < (-182985))) with hc2 | hc2
      · skip
        refine WL.reset (i := 14) (v := .bool false) (congrArg Value.bool hc2) ?_
        refine O.move (v := (.int .i64 a1)) rfl rfl rfl ?_
        refine O.gtr rfl rfl rfl rfl ?_
        refine O.pick_false (v := (.bool (decide (182985 < a1)))) rfl rfl rfl rfl ?_
        refine WL.nil ?_
        exact ⟨rfl, rfl, congrArg Value.bool (or_f hc2), H⟩
      · skip
        refine WL.reset (i := 14) (v := .bool true) (congrArg Value.bool hc2) ?_
        refine O.skip rfl rfl ?_
        refine O.skip rfl rfl ?_
        refine O.pick_true (v := (.bool true)) rfl rfl rfl rfl ?_
        refine WL.nil ?_
        exact ⟨rfl, rfl, congrArg Value.bool (or_t hc2), H⟩
    · skip
      rintro f w ⟨hf0, hf1, hf17, H⟩
      obtain ⟨u1, rfl⟩ : ∃ u1, f = (upd (upd (upd u1 0 va0) 1 (.int .i64 a1)) 17 (.bool ((decide (a1 < (-182985))) || (decide (182985 < a1))))) := ⟨f, by rw [upd_self hf0, upd_self hf1, upd_self hf17]⟩
      refine WL.nil ?_
      rcases ite_some hm with ⟨hc3, hm⟩ | ⟨hc3, hm⟩
      · refine W.cond_true (congrArg Value.bool hc3) ?_
        refine W.seq ?_
        refine W.region ?_
        have H := H.addNil (α := GEntry) (E := 32)
        refine O.assign (v := (.slice none 0 0)) rfl rfl rfl ?_
        refine O.assign (v := (.int .i64 7)) rfl rfl rfl ?_
        refine WL.nil ?_
        refine W.ret ?_
        have hq : (([] : List GEntry), 7) = (r0, r1) := Option.some.inj (show some (([] : List GEntry), 7) = some (r0, r1) from hm)
        obtain ⟨he0, hq0⟩ := Prod.mk.inj hq; clear hq; subst he0
        subst hq0
        exact ends2 Try.results31 rfl rfl ⟨_, rfl, H.base, ⟨_, rfl, H.ownR 1 rfl⟩⟩
      · refine W.cond_false (congrArg Value.bool hc3) ?_
        refine W.skip ?_
        refine W.seq ?_
        refine W.region ?_
        have H := H.addNil (α := GEntry) (E := 32)
        refine O.assign (v := (.slice none 0 0)) rfl rfl rfl ?_
        refine WL.nil ?_
        refine W.seq ?_
        refine W.seq ?_
        refine W.region ?_
        refine O.move (v := va0) rfl rfl rfl ?_
        refine O.lenS Try.underlying22 (H.arg ha0) rfl rfl rfl ?_
        refine O.move (v := (.int .i64 0)) rfl rfl rfl ?_
        refine WL.nil ?_
        obtain ⟨s1, hm1, hm⟩ := bind_some hm
        refine W.via (fun f w => ∃ v4 : Value, f 6 = v4 ∧ Inv w0 w [ownI (α := GEntry) v4 32 s1]) ?_ ?_
        · skip
          refine W.block ?_
          have H := H.keep [1] [ownI (α := GEntry) (.slice none 0 0) 32 ([] : List GEntry)] rfl (by decide)
          refine W.rangeL (i := 0) hm1 (fun rem ik1 s f w => ∃ z2 : (List GEntry), ∃ v2 : Value, z2 = s ∧ a0.drop ik1 = rem ∧ f 20 = .int .i64 (ik1 : Int) ∧ f 19 = (.int .i64 ((a0.length : Nat) : Int)) ∧ f 1 = (.int .i64 a1) ∧ f 6 = v2 ∧ f 18 = va0 ∧ Inv w0 w [ownI (α := GEntry) v2 32 z2]) ?_ ?_ ?_
          · skip
            exact ⟨_, (.slice none 0 0), rfl, List.drop_zero, rfl, rfl, rfl, rfl, rfl, H⟩
          · skip
            rintro yk1 xs ik1 _ st f w ⟨z2, v2, rfl, hdropk1, hf20, hf19, hf1, hf6, hf18, H⟩ hm2
            have hltk1 := drop_lt hdropk1; have hixk1 := drop_idx hdropk1
            obtain ⟨u2, rfl⟩ : ∃ u2, f = (upd (upd (upd (upd (upd u2 20 (.int .i64 (ik1 : Int))) 19 (.int .i64 ((a0.length : Nat) : Int))) 1 (.int .i64 a1)) 6 v2) 18 va0) := ⟨f, by rw [upd_self hf20, upd_self hf19, upd_self hf1, upd_self hf6, upd_self hf18]⟩
            have hinck1 := addI_lt hltk1 (H.arg ha0).len_le
            refine W.seq ?_
            refine W.region ?_
            refine O.lss rfl rfl rfl rfl ?_
            refine WL.nil ?_
            refine W.seq ?_
            refine W.cond_true (congrArg Value.bool (decide_eq_true hltk1)) ?_
            refine W.skip ?_
            refine W.seq ?_
            refine W.block ?_
            refine W.seq ?_
            refine W.region ?_
            refine O.indexAddr Try.underlying22 sz32 (H.arg ha0) hixk1 rfl rfl rfl rfl ?_
            intro p1 hp1
            refine O.loadA [(.int .i64 yk1.Day), (.bool yk1.Found), (.int .i64 yk1.Error)] ag32 rfl rfl rfl rfl (hp1.flat) ?_
            refine O.alloc [(.int .i64 0), (.bool false), (.int .i64 0)] ze32 H rfl rfl rfl ?_
            intro b1 w2 H hb2
            have hp1 := hp1.mono hb2
            refine O.store 1 0 [(.int .i64 yk1.Day), (.bool yk1.Found), (.int .i64 yk1.Error)] [(.int .i64 yk1.Day), (.bool yk1.Found), (.int .i64 yk1.Error)] sz32 H rfl rfl rfl rfl rfl rfl ⟨⟨rfl, rfl⟩, rfl⟩ (by simp [Value.oneCell']) ?_
            intro w3 H
            clear hp1
            refine WL.nil ?_
            refine W.seq ?_
            refine W.region ?_
            refine O.fieldAddr fd32_0 rfl rfl rfl ?_
            refine O.load sc3 rfl rfl rfl (H.cell 1 rfl 0 _ rfl) ?_
            refine O.move (v := (.int .i64 a1)) rfl rfl rfl ?_
            obtain ⟨t2, ht2, hm2⟩ := bind_some hm2
            refine O.add rfl rfl rfl rfl ht2 ?_
            refine O.fieldAddr fd32_0 rfl rfl rfl ?_
            refine O.store 1 0 [(.int .i64 t2)] [(.int .i64 t2), (.bool yk1.Found), (.int .i64 yk1.Error)] sz3 H rfl rfl rfl rfl rfl rfl ⟨⟨rfl, rfl⟩, rfl⟩ (by simp [Value.oneCell']) ?_
            intro w4 H
            refine WL.nil ?_
            refine W.region ?_
            refine O.move (v := v2) rfl rfl rfl ?_
            refine O.loadA [(.int .i64 t2), (.bool yk1.Found), (.int .i64 yk1.Error)] ag32 rfl rfl rfl rfl (H.cell 1 rfl) ?_
            refine O.buildSlice (α := GEntry) [(.agg (Flat.cells (GEntry.mk t2 yk1.Found yk1.Error)).toArray)] [(GEntry.mk t2 yk1.Found yk1.Error)] Try.underlying22 el32 H rfl rfl rfl rfl rfl rfl rfl ?_
            intro v5 w5 H hb3
            obtain ⟨t3, ht3, hm2⟩ := bind_some hm2
            refine O.append 0 Try.underlying22 el32 rfl H rfl (H.own 2 rfl) ht3 rfl rfl rfl rfl ?_
            intro v6 w6 H
            refine O.assign (v := v6) rfl rfl rfl ?_
            refine WL.nil ?_
            refine W.region ?_
            refine O.add rfl rfl rfl rfl hinck1 ?_
            refine O.move (v := .int .i64 ((ik1 : Int) + 1)) rfl rfl rfl ?_
            refine WL.nil ?_
            have H := H.keep [0] [ownI (α := GEntry) v6 32 t3] rfl (by decide)
            obtain rfl := Option.some.inj hm2
            exact ⟨_, rfl, _, v6, rfl, drop_next hdropk1, rfl, rfl, rfl, rfl, rfl, H⟩
          · skip
            rintro ik1 _ f w ⟨z2, v2, rfl, hdropk1, hf20, hf19, hf1, hf6, hf18, H⟩ hfin
            have hltk1 := drop_end hdropk1
            obtain ⟨u3, rfl⟩ : ∃ u3, f = (upd (upd (upd (upd (upd u3 20 (.int .i64 (ik1 : Int))) 19 (.int .i64 ((a0.length : Nat) : Int))) 1 (.int .i64 a1)) 6 v2) 18 va0) := ⟨f, by rw [upd_self hf20, upd_self hf19, upd_self hf1, upd_self hf6, upd_self hf18]⟩
            refine W.seq ?_
            refine W.region ?_
            refine O.lss rfl rfl rfl rfl ?_
            refine WL.nil ?_
            refine W.seq ?_
            refine W.cond_false (congrArg Value.bool (decide_eq_false hltk1)) ?_
            refine W.exit ?_
            have hq : z2 = s1 := hfin
            subst hq
            refine xT rfl ?_
            exact ⟨v2, rfl, H⟩
        · skip
          rintro f w ⟨v4, hf6, H⟩
          obtain ⟨u4, rfl⟩ : ∃ u4, f = (upd u4 6 v4) := ⟨f, by rw [upd_self hf6]⟩
          refine W.seq ?_
          refine W.seq ?_
          refine W.region ?_
          refine O.move (v := v4) rfl rfl rfl ?_
          obtain ⟨t4, ht2, hm⟩ := bind_some hm
          refine O.call Try.call21 rfl rfl rfl (c_noongunref09_Valid _ _ (H.own 0 rfl) ht2) ?_
          rintro _ w7 hb4 rfl
          have H := H.ext hb4
          refine O.not rfl rfl rfl ?_
          refine WL.nil ?_
          rcases ite_some hm with ⟨hc4, hm⟩ | ⟨hc4, hm⟩
          · refine W.cond_true (congrArg Value.bool hc4) ?_
            refine W.seq ?_
            refine W.region ?_
            have H := H.addNil (α := GEntry) (E := 32)
            refine O.assign (v := (.slice none 0 0)) rfl rfl rfl ?_
            refine O.assign (v := (.int .i64 4)) rfl rfl rfl ?_
            refine WL.nil ?_
            refine W.ret ?_
            have hq : (([] : List GEntry), 4) = (r0, r1) := Option.some.inj (show some (([] : List GEntry), 4) = some (r0, r1) from hm)
            obtain ⟨he0, hq0⟩ := Prod.mk.inj hq; clear hq; subst he0
            subst hq0
            exact ends2 Try.results31 rfl rfl ⟨_, rfl, H.base, ⟨_, rfl, H.ownR 1 rfl⟩⟩
          · refine W.cond_false (congrArg Value.bool hc4) ?_
            refine W.skip ?_
            refine W.seq ?_
            refine W.region ?_
            refine O.move (v := v4) rfl rfl rfl ?_
            refine O.assign (v := v4) rfl rfl rfl ?_
            refine O.assign (v := (.int .i64 0)) rfl rfl rfl ?_
            refine WL.nil ?_
            refine W.ret ?_
            have hq : (s1, 0) = (r0, r1) := Option.some.inj (show some (s1, 0) = some (r0, r1) from hm)
            obtain ⟨he0, hq0⟩ := Prod.mk.inj hq; clear hq; subst he0
            subst hq0
            exact ends2 Try.results31 rfl rfl ⟨_, rfl, H.base, ⟨_, rfl, H.ownR 0 rfl⟩⟩

theorem c_noongunlaw09_LedgerShifted {w0 : World} (va0 : Value) (a0 : (List GEntry)) (ha0 : SliceR w0 va0 a0) (va1 : Value) (a1 : (List GEntry)) (ha1 : SliceR w0 va1 a1) (a2 : Int) (a3 : Int) {r0 : Bool} (hm : noongunlaw09_LedgerShifted a0 a1 a2 a3 = some r0) :
    Calls Try.prog 6 #[va0, va1, (.int .i64 a2), (.int .i64 a3)] w0 (Ret w0 fun _ v => v = (.bool r0)) := by
  unfold noongunlaw09_LedgerShifted at hm
  refine calls_of_W Try.func6 rfl Try.ntmps6 (Nat.le_of_ble_eq_true rfl) ?_
  have H := Inv.start (w := w0)
  refine W.seq ?_
  refine W.region ?_
  refine O.assign (v := (.bool false)) rfl rfl rfl ?_
  refine WL.nil ?_
  refine W.seq ?_
  refine W.seq ?_
  refine W.region ?_
  refine O.move (v := va0) rfl rfl rfl ?_
  obtain ⟨t1, ht1, hm⟩ := bind_some hm
  refine O.call Try.call22 rfl rfl rfl (c_noongunlaw09_small _ _ (H.arg ha0) ht1) ?_
  rintro _ w1 hb1 rfl
  have H := H.ext hb1
  refine O.not rfl rfl rfl ?_
  refine O.move (v := (.bool (!t1))) rfl rfl rfl ?_
  obtain ⟨b1, hm1, hm⟩ := bind_some hm
  refine WL.cut 4 (fun f w => f 0 = va0 ∧ f 1 = va1 ∧ f 2 = (.int .i64 a2) ∧ f 3 = (.int .i64 a3) ∧ f 34 = .bool b1 ∧ Inv w0 w []) ?_ ?_
  · skip
    rcases ite_some hm1 with ⟨hc1, hm1⟩ | ⟨hc1, hm1⟩
    · skip
      refine WL.reset (i := 30) (v := .bool true) (congrArg Value.bool hc1) ?_
      refine O.skip rfl rfl ?_
      refine O.skip rfl rfl ?_
      refine O.skip rfl rfl ?_
      refine O.pick_true (v := (.bool true)) rfl rfl rfl rfl ?_
      refine WL.nil ?_
      have hq : true = b1 := Option.some.inj (show some true = some b1 from hm1)
      subst hq
      exact ⟨rfl, rfl, rfl, rfl, rfl, H⟩
    · skip
      refine WL.reset (i := 30) (v := .bool false) (congrArg Value.bool hc1) ?_
      refine O.move (v := va1) rfl rfl rfl ?_
      obtain ⟨t2, ht2, hm1⟩ := bind_some hm1
      refine O.call Try.call22 rfl rfl rfl (c_noongunlaw09_small _ _ (H.arg ha1) ht2) ?_
      rintro _ w2 hb2 rfl
      have H := H.ext hb2
      refine O.not rfl rfl rfl ?_
      refine O.pick_false (v := (.bool (!t2))) rfl rfl rfl rfl ?_
      refine WL.nil ?_
      have hq : (!t2) = b1 := Option.some.inj (show some (!t2) = some b1 from hm1)
      subst hq
      exact ⟨rfl, rfl, rfl, rfl, rfl, H⟩
  · skip
    rintro f w ⟨hf0, hf1, hf2, hf3, hf34, H⟩
    obtain ⟨u1, rfl⟩ : ∃ u1, f = (upd (upd (upd (upd (upd u1 0 va0) 1 va1) 2 (.int .i64 a2)) 3 (.int .i64 a3)) 34 (.bool b1)) := ⟨f, by rw [upd_self hf0, upd_self hf1, upd_self hf2, upd_self hf3, upd_self hf34]⟩
    refine WL.nil ?_
    rcases ite_some hm with ⟨hc2, hm⟩ | ⟨hc2, hm⟩
    · refine W.cond_true (congrArg Value.bool hc2) ?_
      refine W.seq ?_
      refine W.region ?_
      obtain ⟨t3, ht3, hm⟩ := bind_some hm
      refine O.call Try.call13 rfl rfl rfl (c_noongunlaw09_awake  ht3) ?_
      rintro _ w3 hb3 rfl
      have H := H.ext hb3
      refine O.assign (v := (.bool t3)) rfl rfl rfl ?_
      refine WL.nil ?_
      refine W.ret ?_
      have hq : t3 = r0 := Option.some.inj (show some t3 = some r0 from hm)
      subst hq
      exact ends1 Try.results6 rfl ⟨_, rfl, H.base, rfl⟩
    · refine W.cond_false (congrArg Value.bool hc2) ?_
      refine W.skip ?_
      refine W.seq ?_
      refine W.region ?_
      refine O.move (v := va0) rfl rfl rfl ?_
      refine O.move (v := (.int .i64 a2)) rfl rfl rfl ?_
      obtain ⟨⟨t4, t5⟩, ht4, hm⟩ := bind_some hm
      refine O.call Try.call30 rfl rfl rfl (c_ledger_Shifted _ _ (H.arg ha0) _ ht4) ?_
      rintro _ w4 hb4 ⟨v1, rfl, ho1⟩
      have H := H.addOwn hb4 ho1
      refine O.move (v := (.tuple #[v1, (.int .i64 t5)])) rfl rfl rfl ?_
      refine O.extract (v := v1) rfl rfl rfl rfl ?_
      refine O.extract (v := (.int .i64 t5)) rfl rfl rfl rfl ?_
      refine O.assign (v := v1) rfl rfl rfl ?_
      refine O.assign (v := (.int .i64 t5)) rfl rfl rfl ?_
      refine WL.nil ?_
      refine W.seq ?_
      refine W.region ?_
      refine O.move (v := va0) rfl rfl rfl ?_
      refine O.move (v := (.int .i64 a2)) rfl rfl rfl ?_
      obtain ⟨⟨t6, t7⟩, ht5, hm⟩ := bind_some hm
      refine O.call Try.call31 rfl rfl rfl (c_noongunref09_Shifted _ _ (H.arg ha0) _ ht5) ?_
      rintro _ w5 hb5 ⟨v2, rfl, ho2⟩
      have H := H.addOwn hb5 ho2
      refine O.move (v := (.tuple #[v2, (.int .i64 t7)])) rfl rfl rfl ?_
      refine O.extract (v := v2) rfl rfl rfl rfl ?_
      refine O.extract (v := (.int .i64 t7)) rfl rfl rfl rfl ?_
      refine O.assign (v := v2) rfl rfl rfl ?_
      refine O.assign (v := (.int .i64 t7)) rfl rfl rfl ?_
      refine WL.nil ?_
      refine W.seq ?_
      refine W.seq ?_
      refine W.region ?_
      refine O.move (v := v1) rfl rfl rfl ?_
      refine O.move (v := v2) rfl rfl rfl ?_
      obtain ⟨t8, ht6, hm⟩ := bind_some hm
      refine O.call Try.call29 rfl rfl rfl (c_noongunref09_SameEntries _ _ (H.own 0 rfl) _ _ (H.own 1 rfl) ht6) ?_
      rintro _ w6 hb6 rfl
      have H := H.ext hb6
      refine O.not rfl rfl rfl ?_
      refine O.move (v := (.bool (!t8))) rfl rfl rfl ?_
      refine WL.cut 4 (fun f w => f 0 = va0 ∧ f 1 = va1 ∧ f 2 = (.int .i64 a2) ∧ f 3 = (.int .i64 a3) ∧ f 9 = v1 ∧ f 10 = (.int .i64 t5) ∧ f 56 = .bool ((!t8) || (t5 != t7)) ∧ Inv w0 w [ownI (α := GEntry) v1 32 t4, ownI (α := GEntry) v2 32 t6]) ?_ ?_
      · skip
        rcases bool_ft (!t8) with hc3 | hc3
        · skip
          refine WL.reset (i := 52) (v := .bool false) (congrArg Value.bool hc3) ?_
          refine O.move (v := (.int .i64 t5)) rfl rfl rfl ?_
          refine O.move (v := (.int .i64 t7)) rfl rfl rfl ?_
          refine O.neq rfl rfl rfl rfl ?_
          refine O.pick_false (v := (.bool (t5 != t7))) rfl rfl rfl rfl ?_
          refine WL.nil ?_
          exact ⟨rfl, rfl, rfl, rfl, rfl, rfl, congrArg Value.bool (or_f hc3), H⟩
        · skip
          refine WL.reset (i := 52) (v := .bool true) (congrArg Value.bool hc3) ?_
          refine O.skip rfl rfl ?_
          refine O.skip rfl rfl ?_
          refine O.skip rfl rfl ?_
          refine O.pick_true (v := (.bool true)) rfl rfl rfl rfl ?_
          refine WL.nil ?_
          exact ⟨rfl, rfl, rfl, rfl, rfl, rfl, congrArg Value.bool (or_t hc3), H⟩
      · skip
        rintro f w ⟨hf0, hf1, hf2, hf3, hf9, hf10, hf56, H⟩
        obtain ⟨u2, rfl⟩ : ∃ u2, f = (upd (upd (upd (upd (upd (upd (upd u2 0 va0) 1 va1) 2 (.int .i64 a2)) 3 (.int .i64 a3)) 9 v1) 10 (.int .i64 t5)) 56 (.bool ((!t8) || (t5 != t7)))) := ⟨f, by rw [upd_self hf0, upd_self hf1, upd_self hf2, upd_self hf3, upd_self hf9, upd_self hf10, upd_self hf56]⟩
        refine WL.nil ?_
        rcases ite_some hm with ⟨hc4, hm⟩ | ⟨hc4, hm⟩
        · refine W.cond_true (congrArg Value.bool hc4) ?_
          refine W.seq ?_
          refine W.region ?_
          refine O.assign (v := (.bool false)) rfl rfl rfl ?_
          refine WL.nil ?_
          refine W.ret ?_
          have hq : false = r0 := Option.some.inj (show some false = some r0 from hm)
          subst hq
          exact ends1 Try.results6 rfl ⟨_, rfl, H.base, rfl⟩
        · refine W.cond_false (congrArg Value.bool hc4) ?_
          refine W.skip ?_
          refine W.seq ?_
          refine W.region ?_
          refine O.move (v := va0) rfl rfl rfl ?_
          refine O.move (v := va1) rfl rfl rfl ?_
          obtain ⟨⟨t9, t10⟩, ht7, hm⟩ := bind_some hm
          refine O.call Try.call27 rfl rfl rfl (c_ledger_Merged _ _ (H.arg ha0) _ _ (H.arg ha1) ht7) ?_
          rintro _ w7 hb7 ⟨v3, rfl, ho3⟩
          have H := H.addOwn hb7 ho3
          refine O.move (v := (.tuple #[v3, (.int .i64 t10)])) rfl rfl rfl ?_
          refine O.extract (v := v3) rfl rfl rfl rfl ?_
          refine O.extract (v := (.int .i64 t10)) rfl rfl rfl rfl ?_
          refine O.assign (v := v3) rfl rfl rfl ?_
          refine O.assign (v := (.int .i64 t10)) rfl rfl rfl ?_
          refine WL.nil ?_
          refine W.seq ?_
          refine W.seq ?_
          refine W.region ?_
          refine O.move (v := (.int .i64 t10)) rfl rfl rfl ?_
          refine O.eql rfl rfl rfl rfl ?_
          refine WL.nil ?_
          obtain ⟨o1, hm2, hm⟩ := bind_some hm
          refine W.via (fun f w => o1 = .next () ∧ f 0 = va0 ∧ f 2 = (.int .i64 a2) ∧ f 3 = (.int .i64 a3) ∧ f 9 = v1 ∧ f 10 = (.int .i64 t5) ∧ Inv w0 w [ownI (α := GEntry) v1 32 t4]) ?_ ?_
          · skip
            rcases ite_some hm2 with ⟨hc5, hm2⟩ | ⟨hc5, hm2⟩
            · refine W.cond_true (congrArg Value.bool hc5) ?_
              refine W.seq ?_
              refine W.region ?_
              refine O.move (v := va0) rfl rfl rfl ?_
              obtain ⟨⟨t11, t12⟩, ht8, hm2⟩ := bind_some hm2
              refine O.call Try.call32 rfl rfl rfl (c_ledger_Corrections _ _ (H.arg ha0) ht8) ?_
              rintro _ w8 hb8 ⟨v4, rfl, ho4⟩
              have H := H.addOwn hb8 ho4
              refine O.move (v := (.tuple #[v4, (.int .i64 t12)])) rfl rfl rfl ?_
              refine O.extract (v := v4) rfl rfl rfl rfl ?_
              refine O.extract (v := (.int .i64 t12)) rfl rfl rfl rfl ?_
              refine O.assign (v := v4) rfl rfl rfl ?_
              refine O.assign (v := (.int .i64 t12)) rfl rfl rfl ?_
              refine WL.nil ?_
              refine W.seq ?_
              refine W.region ?_
              refine O.move (v := va1) rfl rfl rfl ?_
              obtain ⟨⟨t13, t14⟩, ht9, hm2⟩ := bind_some hm2
              refine O.call Try.call32 rfl rfl rfl (c_ledger_Corrections _ _ (H.arg ha1) ht9) ?_
              rintro _ w9 hb9 ⟨v5, rfl, ho5⟩
              have H := H.addOwn hb9 ho5
              refine O.move (v := (.tuple #[v5, (.int .i64 t14)])) rfl rfl rfl ?_
              refine O.extract (v := v5) rfl rfl rfl rfl ?_
              refine O.extract (v := (.int .i64 t14)) rfl rfl rfl rfl ?_
              refine O.assign (v := v5) rfl rfl rfl ?_
              refine O.assign (v := (.int .i64 t14)) rfl rfl rfl ?_
              refine WL.nil ?_
              refine W.seq ?_
              refine W.region ?_
              refine O.move (v := v3) rfl rfl rfl ?_
              obtain ⟨⟨t15, t16⟩, ht10, hm2⟩ := bind_some hm2
              refine O.call Try.call32 rfl rfl rfl (c_ledger_Corrections _ _ (H.own 2 rfl) ht10) ?_
              rintro _ w10 hb10 ⟨v6, rfl, ho6⟩
              have H := H.addOwn hb10 ho6
              refine O.move (v := (.tuple #[v6, (.int .i64 t16)])) rfl rfl rfl ?_
              refine O.extract (v := v6) rfl rfl rfl rfl ?_
              refine O.extract (v := (.int .i64 t16)) rfl rfl rfl rfl ?_
              refine O.assign (v := v6) rfl rfl rfl ?_
              refine O.assign (v := (.int .i64 t16)) rfl rfl rfl ?_
              refine WL.nil ?_
              refine W.seq ?_
              refine W.region ?_
              refine O.move (v := (.int .i64 t12)) rfl rfl rfl ?_
              refine O.neq rfl rfl rfl rfl ?_
              refine O.move (v := (.bool (t12 != 0))) rfl rfl rfl ?_
              refine WL.cut 3 (fun f w => f 0 = va0 ∧ f 2 = (.int .i64 a2) ∧ f 3 = (.int .i64 a3) ∧ f 9 = v1 ∧ f 10 = (.int .i64 t5) ∧ f 15 = v4 ∧ f 17 = v5 ∧ f 19 = v6 ∧ f 20 = (.int .i64 t16) ∧ f 85 = .bool ((t12 != 0) || (t14 != 0)) ∧ Inv w0 w [ownI (α := GEntry) v1 32 t4, ownI (α := GEntry) v2 32 t6, ownI (α := GEntry) v3 32 t9, ownI (α := Int) v4 3 t11, ownI (α := Int) v5 3 t13, ownI (α := Int) v6 3 t15]) ?_ ?_
              · skip
                rcases bool_ft (t12 != 0) with hc6 | hc6
                · skip
                  refine WL.reset (i := 82) (v := .bool false) (congrArg Value.bool hc6) ?_
                  refine O.move (v := (.int .i64 t14)) rfl rfl rfl ?_
                  refine O.neq rfl rfl rfl rfl ?_
                  refine O.pick_false (v := (.bool (t14 != 0))) rfl rfl rfl rfl ?_
                  refine WL.nil ?_
                  exact ⟨rfl, rfl, rfl, rfl, rfl, rfl, rfl, rfl, rfl, congrArg Value.bool (or_f hc6), H⟩
                · skip
                  refine WL.reset (i := 82) (v := .bool true) (congrArg Value.bool hc6) ?_
                  refine O.skip rfl rfl ?_
                  refine O.skip rfl rfl ?_
                  refine O.pick_true (v := (.bool true)) rfl rfl rfl rfl ?_
                  refine WL.nil ?_
                  exact ⟨rfl, rfl, rfl, rfl, rfl, rfl, rfl, rfl, rfl, congrArg Value.bool (or_t hc6), H⟩
              · skip
                rintro f w ⟨hf0, hf2, hf3, hf9, hf10, hf15, hf17, hf19, hf20, hf85, H⟩
                obtain ⟨u3, rfl⟩ : ∃ u3, f = (upd (upd (upd (upd (upd (upd (upd (upd (upd (upd u3 0 va0) 2 (.int .i64 a2)) 3 (.int .i64 a3)) 9 v1) 10 (.int .i64 t5)) 15 v4) 17 v5) 19 v6) 20 (.int .i64 t16)) 85 (.bool ((t12 != 0) || (t14 != 0)))) := ⟨f, by rw [upd_self hf0, upd_self hf2, upd_self hf3, upd_self hf9, upd_self hf10, upd_self hf15, upd_self hf17, upd_self hf19, upd_self hf20, upd_self hf85]⟩
                refine O.move (v := (.bool ((t12 != 0) || (t14 != 0)))) rfl rfl rfl ?_
                refine WL.cut 3 (fun f w => f 0 = va0 ∧ f 2 = (.int .i64 a2) ∧ f 3 = (.int .i64 a3) ∧ f 9 = v1 ∧ f 10 = (.int .i64 t5) ∧ f 15 = v4 ∧ f 17 = v5 ∧ f 19 = v6 ∧ f 89 = .bool (((t12 != 0) || (t14 != 0)) || (t16 != 0)) ∧ Inv w0 w [ownI (α := GEntry) v1 32 t4, ownI (α := GEntry) v2 32 t6, ownI (α := GEntry) v3 32 t9, ownI (α := Int) v4 3 t11, ownI (α := Int) v5 3 t13, ownI (α := Int) v6 3 t15]) ?_ ?_
                · skip
                  rcases bool_ft ((t12 != 0) || (t14 != 0)) with hc7 | hc7
                  · skip
                    refine WL.reset (i := 86) (v := .bool false) (congrArg Value.bool hc7) ?_
                    refine O.move (v := (.int .i64 t16)) rfl rfl rfl ?_
                    refine O.neq rfl rfl rfl rfl ?_
                    refine O.pick_false (v := (.bool (t16 != 0))) rfl rfl rfl rfl ?_
                    refine WL.nil ?_
                    exact ⟨rfl, rfl, rfl, rfl, rfl, rfl, rfl, rfl, congrArg Value.bool (or_f hc7), H⟩
                  · skip
                    refine WL.reset (i := 86) (v := .bool true) (congrArg Value.bool hc7) ?_
                    refine O.skip rfl rfl ?_
                    refine O.skip rfl rfl ?_
                    refine O.pick_true (v := (.bool true)) rfl rfl rfl rfl ?_
                    refine WL.nil ?_
                    exact ⟨rfl, rfl, rfl, rfl, rfl, rfl, rfl, rfl, congrArg Value.bool (or_t hc7), H⟩
                · skip
                  rintro f w ⟨hf0, hf2, hf3, hf9, hf10, hf15, hf17, hf19, hf89, H⟩
                  obtain ⟨u4, rfl⟩ : ∃ u4, f = (upd (upd (upd (upd (upd (upd (upd (upd (upd u4 0 va0) 2 (.int .i64 a2)) 3 (.int .i64 a3)) 9 v1) 10 (.int .i64 t5)) 15 v4) 17 v5) 19 v6) 89 (.bool (((t12 != 0) || (t14 != 0)) || (t16 != 0)))) := ⟨f, by rw [upd_self hf0, upd_self hf2, upd_self hf3, upd_self hf9, upd_self hf10, upd_self hf15, upd_self hf17, upd_self hf19, upd_self hf89]⟩
                  refine O.move (v := (.bool (((t12 != 0) || (t14 != 0)) || (t16 != 0)))) rfl rfl rfl ?_
                  obtain ⟨b2, hm3, hm2⟩ := bind_some hm2
                  refine WL.cut 9 (fun f w => f 0 = va0 ∧ f 2 = (.int .i64 a2) ∧ f 3 = (.int .i64 a3) ∧ f 9 = v1 ∧ f 10 = (.int .i64 t5) ∧ f 99 = .bool b2 ∧ Inv w0 w [ownI (α := GEntry) v1 32 t4, ownI (α := GEntry) v2 32 t6, ownI (α := GEntry) v3 32 t9, ownI (α := Int) v4 3 t11, ownI (α := Int) v5 3 t13, ownI (α := Int) v6 3 t15]) ?_ ?_
                  · skip
                    rcases ite_some hm3 with ⟨hc8, hm3⟩ | ⟨hc8, hm3⟩
                    · skip
                      refine WL.reset (i := 90) (v := .bool true) (congrArg Value.bool hc8) ?_
                      refine O.skip rfl rfl ?_
                      refine O.skip rfl rfl ?_
                      refine O.skip rfl rfl ?_
                      refine O.skip rfl rfl ?_
                      refine O.skip rfl rfl ?_
                      refine O.skip rfl rfl ?_
                      refine O.skip rfl rfl ?_
                      refine O.skip rfl rfl ?_
                      refine O.pick_true (v := (.bool true)) rfl rfl rfl rfl ?_
                      refine WL.nil ?_
                      have hq : true = b2 := Option.some.inj (show some true = some b2 from hm3)
                      subst hq
                      exact ⟨rfl, rfl, rfl, rfl, rfl, rfl, H⟩
                    · skip
                      refine WL.reset (i := 90) (v := .bool false) (congrArg Value.bool hc8) ?_
                      refine O.move (v := v6) rfl rfl rfl ?_
                      refine O.lenS Try.underlying39 (H.own 5 rfl) rfl rfl rfl ?_
                      refine O.move (v := v4) rfl rfl rfl ?_
                      refine O.lenS Try.underlying39 (H.own 3 rfl) rfl rfl rfl ?_
                      refine O.move (v := v5) rfl rfl rfl ?_
                      refine O.lenS Try.underlying39 (H.own 4 rfl) rfl rfl rfl ?_
                      obtain ⟨t17, ht17, hm3⟩ := bind_some hm3
                      refine O.add rfl rfl rfl rfl ht17 ?_
                      refine O.lss rfl rfl rfl rfl ?_
                      refine O.pick_false (v := (.bool (decide (((t15.length : Nat) : Int) < t17)))) rfl rfl rfl rfl ?_
                      refine WL.nil ?_
                      have hq : (decide (((t15.length : Nat) : Int) < t17)) = b2 := Option.some.inj (show some (decide (((t15.length : Nat) : Int) < t17)) = some b2 from hm3)
                      subst hq
                      exact ⟨rfl, rfl, rfl, rfl, rfl, rfl, H⟩
                  · skip
                    rintro f w ⟨hf0, hf2, hf3, hf9, hf10, hf99, H⟩
                    obtain ⟨u5, rfl⟩ : ∃ u5, f = (upd (upd (upd (upd (upd (upd u5 0 va0) 2 (.int .i64 a2)) 3 (.int .i64 a3)) 9 v1) 10 (.int .i64 t5)) 99 (.bool b2)) := ⟨f, by rw [upd_self hf0, upd_self hf2, upd_self hf3, upd_self hf9, upd_self hf10, upd_self hf99]⟩
                    refine WL.nil ?_
                    rcases ite_some hm2 with ⟨hc9, hm2⟩ | ⟨hc9, hm2⟩
                    · refine W.cond_true (congrArg Value.bool hc9) ?_
                      refine W.seq ?_
                      refine W.region ?_
                      refine O.assign (v := (.bool false)) rfl rfl rfl ?_
                      refine WL.nil ?_
                      refine W.ret ?_
                      obtain rfl := Option.some.inj hm2
                      have hq : false = r0 := Option.some.inj (show some false = some r0 from hm)
                      subst hq
                      exact ends1 Try.results6 rfl ⟨_, rfl, H.base, rfl⟩
                    · refine W.cond_false (congrArg Value.bool hc9) ?_
                      refine W.skip ?_
                      have H := H.keep [0] [ownI (α := GEntry) v1 32 t4] rfl (by decide)
                      obtain rfl := Option.some.inj hm2
                      exact ⟨rfl, rfl, rfl, rfl, rfl, rfl, H⟩
            · refine W.cond_false (congrArg Value.bool hc5) ?_
              refine W.skip ?_
              have H := H.keep [0] [ownI (α := GEntry) v1 32 t4] rfl (by decide)
              obtain rfl := Option.some.inj hm2
              exact ⟨rfl, rfl, rfl, rfl, rfl, rfl, H⟩
          · skip
            rintro f w ⟨rfl, hf0, hf2, hf3, hf9, hf10, H⟩
            obtain ⟨u6, rfl⟩ : ∃ u6, f = (upd (upd (upd (upd (upd u6 0 va0) 2 (.int .i64 a2)) 3 (.int .i64 a3)) 9 v1) 10 (.int .i64 t5)) := ⟨f, by rw [upd_self hf0, upd_self hf2, upd_self hf3, upd_self hf9, upd_self hf10]⟩
            refine W.seq ?_
            refine W.seq ?_
            refine W.region ?_
            refine O.move (v := (.int .i64 t5)) rfl rfl rfl ?_
            refine O.neq rfl rfl rfl rfl ?_
            refine WL.nil ?_
            rcases ite_some hm with ⟨hc10, hm⟩ | ⟨hc10, hm⟩
            · refine W.cond_true (congrArg Value.bool hc10) ?_
              refine W.seq ?_
              refine W.region ?_
              obtain ⟨t18, ht11, hm⟩ := bind_some hm
              refine O.call Try.call13 rfl rfl rfl (c_noongunlaw09_awake  ht11) ?_
              rintro _ w11 hb11 rfl
              have H := H.ext hb11
              refine O.assign (v := (.bool t18)) rfl rfl rfl ?_
              refine WL.nil ?_
              refine W.ret ?_
              have hq : t18 = r0 := Option.some.inj (show some t18 = some r0 from hm)
              subst hq
              exact ends1 Try.results6 rfl ⟨_, rfl, H.base, rfl⟩
            · refine W.cond_false (congrArg Value.bool hc10) ?_
              refine W.skip ?_
              refine W.seq ?_
              refine W.region ?_
              refine O.move (v := v1) rfl rfl rfl ?_
              refine O.move (v := (.int .i64 a2)) rfl rfl rfl ?_
              obtain ⟨t19, ht19, hm⟩ := bind_some hm
              refine O.neg rfl rfl rfl ht19 ?_
              obtain ⟨⟨t20, t21⟩, ht12, hm⟩ := bind_some hm
              refine O.call Try.call30 rfl rfl rfl (c_ledger_Shifted _ _ (H.own 0 rfl) _ ht12) ?_
              rintro _ w12 hb12 ⟨v7, rfl, ho7⟩
              have H := H.addOwn hb12 ho7
              refine O.move (v := (.tuple #[v7, (.int .i64 t21)])) rfl rfl rfl ?_
              refine O.extract (v := v7) rfl rfl rfl rfl ?_
              refine O.extract (v := (.int .i64 t21)) rfl rfl rfl rfl ?_
              refine O.assign (v := v7) rfl rfl rfl ?_
              refine O.assign (v := (.int .i64 t21)) rfl rfl rfl ?_
              refine WL.nil ?_
              refine W.seq ?_
              refine W.seq ?_
              refine W.region ?_
              refine O.move (v := (.int .i64 t21)) rfl rfl rfl ?_
              refine O.neq rfl rfl rfl rfl ?_
              refine O.move (v := (.bool (t21 != 0))) rfl rfl rfl ?_
              obtain ⟨b3, hm4, hm⟩ := bind_some hm
              refine WL.cut 5 (fun f w => f 0 = va0 ∧ f 2 = (.int .i64 a2) ∧ f 3 = (.int .i64 a3) ∧ f 9 = v1 ∧ f 117 = .bool b3 ∧ Inv w0 w [ownI (α := GEntry) v1 32 t4, ownI (α := GEntry) v7 32 t20]) ?_ ?_
              · skip
                rcases ite_some hm4 with ⟨hc11, hm4⟩ | ⟨hc11, hm4⟩
                · skip
                  refine WL.reset (i := 112) (v := .bool true) (congrArg Value.bool hc11) ?_
                  refine O.skip rfl rfl ?_
                  refine O.skip rfl rfl ?_
                  refine O.skip rfl rfl ?_
                  refine O.skip rfl rfl ?_
                  refine O.pick_true (v := (.bool true)) rfl rfl rfl rfl ?_
                  refine WL.nil ?_
                  have hq : true = b3 := Option.some.inj (show some true = some b3 from hm4)
                  subst hq
                  exact ⟨rfl, rfl, rfl, rfl, rfl, H⟩
                · skip
                  refine WL.reset (i := 112) (v := .bool false) (congrArg Value.bool hc11) ?_
                  refine O.move (v := v7) rfl rfl rfl ?_
                  refine O.move (v := va0) rfl rfl rfl ?_
                  obtain ⟨t22, ht13, hm4⟩ := bind_some hm4
                  refine O.call Try.call29 rfl rfl rfl (c_noongunref09_SameEntries _ _ (H.own 1 rfl) _ _ (H.arg ha0) ht13) ?_
                  rintro _ w13 hb13 rfl
                  have H := H.ext hb13
                  refine O.not rfl rfl rfl ?_
                  refine O.pick_false (v := (.bool (!t22))) rfl rfl rfl rfl ?_
                  refine WL.nil ?_
                  have hq : (!t22) = b3 := Option.some.inj (show some (!t22) = some b3 from hm4)
                  subst hq
                  exact ⟨rfl, rfl, rfl, rfl, rfl, H⟩
              · skip
                rintro f w ⟨hf0, hf2, hf3, hf9, hf117, H⟩
                obtain ⟨u7, rfl⟩ : ∃ u7, f = (upd (upd (upd (upd (upd u7 0 va0) 2 (.int .i64 a2)) 3 (.int .i64 a3)) 9 v1) 117 (.bool b3)) := ⟨f, by rw [upd_self hf0, upd_self hf2, upd_self hf3, upd_self hf9, upd_self hf117]⟩
                refine WL.nil ?_
                rcases ite_some hm with ⟨hc12, hm⟩ | ⟨hc12, hm⟩
                · refine W.cond_true (congrArg Value.bool hc12) ?_
                  refine W.seq ?_
                  refine W.region ?_
                  refine O.assign (v := (.bool false)) rfl rfl rfl ?_
                  refine WL.nil ?_
                  refine W.ret ?_
                  have hq : false = r0 := Option.some.inj (show some false = some r0 from hm)
                  subst hq
                  exact ends1 Try.results6 rfl ⟨_, rfl, H.base, rfl⟩
                · refine W.cond_false (congrArg Value.bool hc12) ?_
                  refine W.skip ?_
                  refine W.seq ?_
                  refine W.seq ?_
                  refine W.region ?_
                  refine O.move (v := (.int .i64 a3)) rfl rfl rfl ?_
                  refine O.lss rfl rfl rfl rfl ?_
                  refine O.move (v := (.bool (decide (a3 < 0)))) rfl rfl rfl ?_
                  refine WL.cut 3 (fun f w => f 0 = va0 ∧ f 2 = (.int .i64 a2) ∧ f 3 = (.int .i64 a3) ∧ f 9 = v1 ∧ f 123 = .bool ((decide (a3 < 0)) || (decide (182985 < a3))) ∧ Inv w0 w [ownI (α := GEntry) v1 32 t4, ownI (α := GEntry) v7 32 t20]) ?_ ?_
                  · skip
                    rcases bool_ft (decide (a3 < 0)) with hc13 | hc13
                    · skip
                      refine WL.reset (i := 120) (v := .bool false) (congrArg Value.bool hc13) ?_
                      refine O.move (v := (.int .i64 a3)) rfl rfl rfl ?_
                      refine O.gtr rfl rfl rfl rfl ?_
                      refine O.pick_false (v := (.bool (decide (182985 < a3)))) rfl rfl rfl rfl ?_
                      refine WL.nil ?_
                      exact ⟨rfl, rfl, rfl, rfl, congrArg Value.bool (or_f hc13), H⟩
                    · skip
                      refine WL.reset (i := 120) (v := .bool true) (congrArg Value.bool hc13) ?_
                      refine O.skip rfl rfl ?_
                      refine O.skip rfl rfl ?_
                      refine O.pick_true (v := (.bool true)) rfl rfl rfl rfl ?_
                      refine WL.nil ?_
                      exact ⟨rfl, rfl, rfl, rfl, congrArg Value.bool (or_t hc13), H⟩
                  · skip
                    rintro f w ⟨hf0, hf2, hf3, hf9, hf123, H⟩
                    obtain ⟨u8, rfl⟩ : ∃ u8, f = (upd (upd (upd (upd (upd u8 0 va0) 2 (.int .i64 a2)) 3 (.int .i64 a3)) 9 v1) 123 (.bool ((decide (a3 < 0)) || (decide (182985 < a3))))) := ⟨f, by rw [upd_self hf0, upd_self hf2, upd_self hf3, upd_self hf9, upd_self hf123]⟩
                    refine O.move (v := (.bool ((decide (a3 < 0)) || (decide (182985 < a3))))) rfl rfl rfl ?_
                    obtain ⟨b4, hm5, hm⟩ := bind_some hm
                    refine WL.cut 5 (fun f w => f 0 = va0 ∧ f 2 = (.int .i64 a2) ∧ f 3 = (.int .i64 a3) ∧ f 9 = v1 ∧ f 129 = .bool b4 ∧ Inv w0 w [ownI (α := GEntry) v1 32 t4, ownI (α := GEntry) v7 32 t20]) ?_ ?_
                    · skip
                      rcases ite_some hm5 with ⟨hc14, hm5⟩ | ⟨hc14, hm5⟩
                      · skip
                        refine WL.reset (i := 124) (v := .bool true) (congrArg Value.bool hc14) ?_
                        refine O.skip rfl rfl ?_
                        refine O.skip rfl rfl ?_
                        refine O.skip rfl rfl ?_
                        refine O.skip rfl rfl ?_
                        refine O.pick_true (v := (.bool true)) rfl rfl rfl rfl ?_
                        refine WL.nil ?_
                        have hq : true = b4 := Option.some.inj (show some true = some b4 from hm5)
                        subst hq
                        exact ⟨rfl, rfl, rfl, rfl, rfl, H⟩
                      · skip
                        refine WL.reset (i := 124) (v := .bool false) (congrArg Value.bool hc14) ?_
                        refine O.move (v := (.int .i64 a3)) rfl rfl rfl ?_
                        refine O.move (v := (.int .i64 a2)) rfl rfl rfl ?_
                        obtain ⟨t23, ht23, hm5⟩ := bind_some hm5
                        refine O.add rfl rfl rfl rfl ht23 ?_
                        refine O.lss rfl rfl rfl rfl ?_
                        refine O.pick_false (v := (.bool (decide (t23 < 0)))) rfl rfl rfl rfl ?_
                        refine WL.nil ?_
                        have hq : (decide (t23 < 0)) = b4 := Option.some.inj (show some (decide (t23 < 0)) = some b4 from hm5)
                        subst hq
                        exact ⟨rfl, rfl, rfl, rfl, rfl, H⟩
                    · skip
                      rintro f w ⟨hf0, hf2, hf3, hf9, hf129, H⟩
                      obtain ⟨u9, rfl⟩ : ∃ u9, f = (upd (upd (upd (upd (upd u9 0 va0) 2 (.int .i64 a2)) 3 (.int .i64 a3)) 9 v1) 129 (.bool b4)) := ⟨f, by rw [upd_self hf0, upd_self hf2, upd_self hf3, upd_self hf9, upd_self hf129]⟩
                      refine O.move (v := (.bool b4)) rfl rfl rfl ?_
                      obtain ⟨b5, hm6, hm⟩ := bind_some hm
                      refine WL.cut 5 (fun f w => f 0 = va0 ∧ f 2 = (.int .i64 a2) ∧ f 3 = (.int .i64 a3) ∧ f 9 = v1 ∧ f 135 = .bool b5 ∧ Inv w0 w [ownI (α := GEntry) v1 32 t4, ownI (α := GEntry) v7 32 t20]) ?_ ?_
                      · skip
                        rcases ite_some hm6 with ⟨hc15, hm6⟩ | ⟨hc15, hm6⟩
                        · skip
                          refine WL.reset (i := 130) (v := .bool true) (congrArg Value.bool hc15) ?_
                          refine O.skip rfl rfl ?_
                          refine O.skip rfl rfl ?_
                          refine O.skip rfl rfl ?_
                          refine O.skip rfl rfl ?_
                          refine O.pick_true (v := (.bool true)) rfl rfl rfl rfl ?_
                          refine WL.nil ?_
                          have hq : true = b5 := Option.some.inj (show some true = some b5 from hm6)
                          subst hq
                          exact ⟨rfl, rfl, rfl, rfl, rfl, H⟩
                        · skip
                          refine WL.reset (i := 130) (v := .bool false) (congrArg Value.bool hc15) ?_
                          refine O.move (v := (.int .i64 a3)) rfl rfl rfl ?_
                          refine O.move (v := (.int .i64 a2)) rfl rfl rfl ?_
                          obtain ⟨t24, ht24, hm6⟩ := bind_some hm6
                          refine O.add rfl rfl rfl rfl ht24 ?_
                          refine O.gtr rfl rfl rfl rfl ?_
                          refine O.pick_false (v := (.bool (decide (182985 < t24)))) rfl rfl rfl rfl ?_
                          refine WL.nil ?_
                          have hq : (decide (182985 < t24)) = b5 := Option.some.inj (show some (decide (182985 < t24)) = some b5 from hm6)
                          subst hq
                          exact ⟨rfl, rfl, rfl, rfl, rfl, H⟩
                      · skip
                        rintro f w ⟨hf0, hf2, hf3, hf9, hf135, H⟩
                        obtain ⟨u10, rfl⟩ : ∃ u10, f = (upd (upd (upd (upd (upd u10 0 va0) 2 (.int .i64 a2)) 3 (.int .i64 a3)) 9 v1) 135 (.bool b5)) := ⟨f, by rw [upd_self hf0, upd_self hf2, upd_self hf3, upd_self hf9, upd_self hf135]⟩
                        refine WL.nil ?_
                        rcases ite_some hm with ⟨hc16, hm⟩ | ⟨hc16, hm⟩
                        · refine W.cond_true (congrArg Value.bool hc16) ?_
                          refine W.seq ?_
                          refine W.region ?_
                          obtain ⟨t25, ht14, hm⟩ := bind_some hm
                          refine O.call Try.call13 rfl rfl rfl (c_noongunlaw09_awake  ht14) ?_
                          rintro _ w14 hb14 rfl
                          have H := H.ext hb14
                          refine O.assign (v := (.bool t25)) rfl rfl rfl ?_
                          refine WL.nil ?_
                          refine W.ret ?_
                          have hq : t25 = r0 := Option.some.inj (show some t25 = some r0 from hm)
                          subst hq
                          exact ends1 Try.results6 rfl ⟨_, rfl, H.base, rfl⟩
                        · refine W.cond_false (congrArg Value.bool hc16) ?_
                          refine W.skip ?_
                          refine W.seq ?_
                          refine W.region ?_
                          refine O.move (v := va0) rfl rfl rfl ?_
                          refine O.move (v := (.int .i64 a3)) rfl rfl rfl ?_
                          obtain ⟨⟨t26, t27⟩, ht15, hm⟩ := bind_some hm
                          refine O.call Try.call18 rfl rfl rfl (c_ledger_Off _ _ (H.arg ha0) _ ht15) ?_
                          rintro _ w15 hb15 rfl
                          have H := H.ext hb15
                          refine O.move (v := (.tuple #[(.int .i64 t26), (.int .i64 t27)])) rfl rfl rfl ?_
                          refine O.extract (v := (.int .i64 t26)) rfl rfl rfl rfl ?_
                          refine O.extract (v := (.int .i64 t27)) rfl rfl rfl rfl ?_
                          refine O.assign (v := (.int .i64 t26)) rfl rfl rfl ?_
                          refine O.assign (v := (.int .i64 t27)) rfl rfl rfl ?_
                          refine WL.nil ?_
                          refine W.seq ?_
                          refine W.region ?_
                          refine O.move (v := v1) rfl rfl rfl ?_
                          refine O.move (v := (.int .i64 a3)) rfl rfl rfl ?_
                          refine O.move (v := (.int .i64 a2)) rfl rfl rfl ?_
                          obtain ⟨t28, ht28, hm⟩ := bind_some hm
                          refine O.add rfl rfl rfl rfl ht28 ?_
                          obtain ⟨⟨t29, t30⟩, ht16, hm⟩ := bind_some hm
                          refine O.call Try.call18 rfl rfl rfl (c_ledger_Off _ _ (H.own 0 rfl) _ ht16) ?_
                          rintro _ w16 hb16 rfl
                          have H := H.ext hb16
                          refine O.move (v := (.tuple #[(.int .i64 t29), (.int .i64 t30)])) rfl rfl rfl ?_
                          refine O.extract (v := (.int .i64 t29)) rfl rfl rfl rfl ?_
                          refine O.extract (v := (.int .i64 t30)) rfl rfl rfl rfl ?_
                          refine O.assign (v := (.int .i64 t29)) rfl rfl rfl ?_
                          refine O.assign (v := (.int .i64 t30)) rfl rfl rfl ?_
                          refine WL.nil ?_
                          refine W.seq ?_
                          refine W.region ?_
                          refine O.move (v := (.int .i64 t26)) rfl rfl rfl ?_
                          refine O.move (v := (.int .i64 t29)) rfl rfl rfl ?_
                          refine O.eql rfl rfl rfl rfl ?_
                          refine O.move (v := (.bool (t26 == t29))) rfl rfl rfl ?_
                          refine WL.cut 4 (fun f w => f 158 = .bool ((t26 == t29) && (t27 == t30)) ∧ Inv w0 w [ownI (α := GEntry) v1 32 t4, ownI (α := GEntry) v7 32 t20]) ?_ ?_
                          · skip
                            rcases bool_ft (t26 == t29) with hc17 | hc17
                            · skip
                              refine WL.reset (i := 154) (v := .bool false) (congrArg Value.bool hc17) ?_
                              refine O.skip rfl rfl ?_
                              refine O.skip rfl rfl ?_
                              refine O.skip rfl rfl ?_
                              refine O.pick_false (v := (.bool false)) rfl rfl rfl rfl ?_
                              refine WL.nil ?_
                              exact ⟨congrArg Value.bool (and_f hc17), H⟩
                            · skip
                              refine WL.reset (i := 154) (v := .bool true) (congrArg Value.bool hc17) ?_
                              refine O.move (v := (.int .i64 t27)) rfl rfl rfl ?_
                              refine O.move (v := (.int .i64 t30)) rfl rfl rfl ?_
                              refine O.eql rfl rfl rfl rfl ?_
                              refine O.pick_true (v := (.bool (t27 == t30))) rfl rfl rfl rfl ?_
                              refine WL.nil ?_
                              exact ⟨congrArg Value.bool (and_t hc17), H⟩
                          · skip
                            rintro f w ⟨hf158, H⟩
                            obtain ⟨u11, rfl⟩ : ∃ u11, f = (upd u11 158 (.bool ((t26 == t29) && (t27 == t30)))) := ⟨f, by rw [upd_self hf158]⟩
                            refine O.move (v := (.bool ((t26 == t29) && (t27 == t30)))) rfl rfl rfl ?_
                            obtain ⟨b6, hm7, hm⟩ := bind_some hm
                            refine WL.cut 2 (fun f w => f 161 = .bool b6 ∧ Inv w0 w [ownI (α := GEntry) v1 32 t4, ownI (α := GEntry) v7 32 t20]) ?_ ?_
                            · skip
                              rcases ite_some hm7 with ⟨hc18, hm7⟩ | ⟨hc18, hm7⟩
                              · skip
                                refine WL.reset (i := 159) (v := .bool true) (congrArg Value.bool hc18) ?_
                                obtain ⟨t31, ht17, hm7⟩ := bind_some hm7
                                refine O.call Try.call13 rfl rfl rfl (c_noongunlaw09_awake  ht17) ?_
                                rintro _ w17 hb17 rfl
                                have H := H.ext hb17
                                refine O.pick_true (v := (.bool t31)) rfl rfl rfl rfl ?_
                                refine WL.nil ?_
                                have hq : t31 = b6 := Option.some.inj (show some t31 = some b6 from hm7)
                                subst hq
                                exact ⟨rfl, H⟩
                              · skip
                                refine WL.reset (i := 159) (v := .bool false) (congrArg Value.bool hc18) ?_
                                refine O.skip rfl rfl ?_
                                refine O.pick_false (v := (.bool false)) rfl rfl rfl rfl ?_
                                refine WL.nil ?_
                                have hq : false = b6 := Option.some.inj (show some false = some b6 from hm7)
                                subst hq
                                exact ⟨rfl, H⟩
                            · skip
                              rintro f w ⟨hf161, H⟩
                              obtain ⟨u12, rfl⟩ : ∃ u12, f = (upd u12 161 (.bool b6)) := ⟨f, by rw [upd_self hf161]⟩
                              refine O.assign (v := (.bool b6)) rfl rfl rfl ?_
                              refine WL.nil ?_
                              refine W.ret ?_
                              have hq : b6 = r0 := Option.some.inj (show some b6 = some r0 from hm)
                              subst hq
                              exact ends1 Try.results6 rfl ⟨_, rfl, H.base, rfl⟩

end Go.Proofs
