/-
  The walks: each function does what its model says, where the model has a value. No other condition.
-/
import Derived.Test.YtijjocfjgpibjaaW0
namespace Go.Proofs
open Go.Fw Go.RowKit Go.Shelf Go.Maps
set_option maxRecDepth 20000 in
theorem c_noongunref09_Shifted {w0 : World} (va0 : Value) (a0 : (List GEntry)) (ha0 : SliceR w0 va0 a0) (a1 : Int) {r0 : (List GEntry)} {r1 : Int} (hm : noongunref09_Shifted a0 a1 = some (r0, r1)) :
    Calls Try.prog 31 #[va0, (.int .i64 a1)] w0 (Ret w0 fun w v => ∃ vr0 : Value, v = .tuple #[vr0, (.int .i64 r1)] ∧ OwnR w0 w vr0 32 r0) := by
  unfold noongunref09_Shifted at hm
  refine calls_of_W Try.func31 rfl Try.ntmps31 (Nat.le_of_ble_eq_true rfl) ?_
  have H := Inv.start (w := w0)
  refine W.seq ?_
  refine W.region ?_
  have H := H.addNil (α := GEntry) (E := 32)
  refine O.assign (v := (.slice none 0 0)) rfl rfl rfl ?_
  refine O.assign (v := (.int .i64 0)) rfl rfl rfl ?_
  refine WL.nil ?_
  refine W.seq ?_
  refine W.seq ?_
  refine W.region ?_
  refine O.move (v := va0) rfl rfl rfl ?_
  obtain ⟨t1, hy1, hm⟩ := bind_some hm
  refine O.call Try.call21 rfl rfl rfl (c_noongunref09_Valid _ _ (H.arg ha0) hy1) ?_
  rintro _ w1 hb1 rfl
  have H := H.ext hb1
  refine O.not rfl rfl rfl ?_
  refine WL.nil ?_
  rcases ite_some hm with ⟨hc1, hm⟩ | ⟨hc1, hm⟩
  · refine W.cond_true (congrArg Value.bool hc1) ?_
    refine W.seq ?_
    refine W.region ?_
    have H := H.addNil (α := GEntry) (E := 32)
    refine O.assign (v := (.slice none 0 0)) rfl rfl rfl ?_
    refine O.assign (v := (.int .i64 1)) rfl rfl rfl ?_
    refine WL.nil ?_
    refine W.ret ?_
    have hq : (([] : List GEntry), 1) = (r0, r1) := Option.some.inj (show some (([] : List GEntry), 1) = some (r0, r1) from hm)
    obtain ⟨he0, hq0⟩ := Prod.mk.inj hq; clear hq; subst he0
    subst hq0
    exact ends2 Try.results31 rfl rfl ⟨_, rfl, H.base, ⟨_, rfl, H.ownR 1 rfl⟩⟩
  · refine W.cond_false (congrArg Value.bool hc1) ?_
    refine W.skip ?_
    refine W.seq ?_
    refine W.seq ?_
    refine W.region ?_
    refine O.move (v := (.int .i64 a1)) rfl rfl rfl ?_
    refine O.lss rfl rfl rfl rfl ?_
    refine O.move (v := (.bool (decide (a1 < (-182985))))) rfl rfl rfl ?_
    refine WL.cut 3 (fun f w => f 0 = va0 ∧ f 1 = (.int .i64 a1) ∧ f 17 = .bool ((decide (a1 < (-182985))) || (decide (182985 < a1))) ∧ Inv w0 w [ownI (α := GEntry) (.slice none 0 0) 32 ([] : List GEntry)]) ?_ ?_
    · skip
      rcases bool_ft (decide (a1 < (-182985))) with hc2 | hc2
      · skip
        refine WL.reset (i := 14) (v := .bool false) (congrArg Value.bool hc2) ?_
        refine O.move (v := (.int .i64 a1)) rfl rfl rfl ?_
        refine O.gtr rfl rfl rfl rfl ?_
        refine O.pick_false (v := (.bool (decide (182985 < a1)))) rfl rfl rfl rfl ?_
        refine WL.nil ?_
        exact ⟨rfl, rfl, congrArg Value.bool (or_f hc2), H⟩
      · skip
        refine WL.reset (i := 14) (v := .bool true) (congrArg Value.bool hc2) ?_
        refine O.skip rfl rfl ?_
        refine O.skip rfl rfl ?_
        refine O.pick_true (v := (.bool true)) rfl rfl rfl rfl ?_
        refine WL.nil ?_
        exact ⟨rfl, rfl, congrArg Value.bool (or_t hc2), H⟩
    · skip
      rintro f w ⟨hf0, hf1, hf17, H⟩
      obtain ⟨u1, rfl⟩ : ∃ u1, f = (upd (upd (upd u1 0 va0) 1 (.int .i64 a1)) 17 (.bool ((decide (a1 < (-182985))) || (decide (182985 < a1))))) := ⟨f, by rw [upd_self hf0, upd_self hf1, upd_self hf17]⟩
      refine WL.nil ?_
      rcases ite_some hm with ⟨hc3, hm⟩ | ⟨hc3, hm⟩
      · refine W.cond_true (congrArg Value.bool hc3) ?_
        refine W.seq ?_
        refine W.region ?_
        have H := H.addNil (α := GEntry) (E := 32)
        refine O.assign (v := (.slice none 0 0)) rfl rfl rfl ?_
        refine O.assign (v := (.int .i64 7)) rfl rfl rfl ?_
        refine WL.nil ?_
        refine W.ret ?_
        have hq : (([] : List GEntry), 7) = (r0, r1) := Option.some.inj (show some (([] : List GEntry), 7) = some (r0, r1) from hm)
        obtain ⟨he0, hq0⟩ := Prod.mk.inj hq; clear hq; subst he0
        subst hq0
        exact ends2 Try.results31 rfl rfl ⟨_, rfl, H.base, ⟨_, rfl, H.ownR 1 rfl⟩⟩
      · refine W.cond_false (congrArg Value.bool hc3) ?_
        refine W.skip ?_
        refine W.seq ?_
        refine W.region ?_
        have H := H.addNil (α := GEntry) (E := 32)
        refine O.assign (v := (.slice none 0 0)) rfl rfl rfl ?_
        refine WL.nil ?_
        refine W.seq ?_
        refine W.seq ?_
        refine W.region ?_
        refine O.move (v := va0) rfl rfl rfl ?_
        refine O.lenS Try.underlying22 (H.arg ha0) rfl rfl rfl ?_
        refine O.move (v := (.int .i64 0)) rfl rfl rfl ?_
        refine WL.nil ?_
        obtain ⟨s1, hm1, hm⟩ := bind_some hm
        refine W.via (fun f w => ∃ v4 : Value, f 6 = v4 ∧ Inv w0 w [ownI (α := GEntry) v4 32 s1]) ?_ ?_
        · skip
          refine W.block ?_
          have H := H.keep [1] [ownI (α := GEntry) (.slice none 0 0) 32 ([] : List GEntry)] rfl (by decide)
          refine W.rangeL (i := 0) hm1 (fun rem ik1 s f w => ∃ z2 : (List GEntry), ∃ v2 : Value, z2 = s ∧ a0.drop ik1 = rem ∧ f 20 = .int .i64 (ik1 : Int) ∧ f 19 = (.int .i64 ((a0.length : Nat) : Int)) ∧ f 1 = (.int .i64 a1) ∧ f 6 = v2 ∧ f 18 = va0 ∧ Inv w0 w [ownI (α := GEntry) v2 32 z2]) ?_ ?_ ?_
          · skip
            exact ⟨_, (.slice none 0 0), rfl, List.drop_zero, rfl, rfl, rfl, rfl, rfl, H⟩
          · skip
            rintro yk1 xs ik1 _ st f w ⟨z2, v2, rfl, hdropk1, hf20, hf19, hf1, hf6, hf18, H⟩ hm2
            have hltk1 := drop_lt hdropk1; have hixk1 := drop_idx hdropk1
            obtain ⟨u2, rfl⟩ : ∃ u2, f = (upd (upd (upd (upd (upd u2 20 (.int .i64 (ik1 : Int))) 19 (.int .i64 ((a0.length : Nat) : Int))) 1 (.int .i64 a1)) 6 v2) 18 va0) := ⟨f, by rw [upd_self hf20, upd_self hf19, upd_self hf1, upd_self hf6, upd_self hf18]⟩
            have hinck1 := addI_lt hltk1 (H.arg ha0).len_le
            refine W.seq ?_
            refine W.region ?_
            refine O.lss rfl rfl rfl rfl ?_
            refine WL.nil ?_
            refine W.seq ?_
            refine W.cond_true (congrArg Value.bool (decide_eq_true hltk1)) ?_
            refine W.skip ?_
            refine W.seq ?_
            refine W.block ?_
            refine W.seq ?_
            refine W.region ?_
            obtain ⟨p1, hp1, hrp1⟩ := fix_indexAddr Try.underlying22 sz32 ha0 hixk1
            refine hrp1 rfl rfl rfl rfl ?_
            refine O.loadA [(.int .i64 yk1.Day), (.bool yk1.Found), (.int .i64 yk1.Error)] ag32 rfl rfl rfl rfl ((hp1.mono H.base).flat) ?_
            refine O.alloc [(.int .i64 0), (.bool false), (.int .i64 0)] ze32 H rfl rfl rfl ?_
            intro b1 w2 H hb2
            refine O.store 1 0 [(.int .i64 yk1.Day), (.bool yk1.Found), (.int .i64 yk1.Error)] [(.int .i64 yk1.Day), (.bool yk1.Found), (.int .i64 yk1.Error)] sz32 H rfl rfl rfl rfl rfl rfl ⟨⟨rfl, rfl⟩, rfl⟩ (one_cons rfl (one_cons rfl (one_cons rfl one_nil))) ?_
            intro w3 H
            refine WL.nil ?_
            refine W.seq ?_
            refine W.region ?_
            refine O.fieldAddr fd32_0 rfl rfl rfl ?_
            refine O.load sc3 rfl rfl rfl (H.cell 1 rfl 0 _ rfl) ?_
            refine O.move (v := (.int .i64 a1)) rfl rfl rfl ?_
            obtain ⟨t2, ht2, hm2⟩ := bind_some hm2
            refine O.add rfl rfl rfl rfl ht2 ?_
            refine O.fieldAddr fd32_0 rfl rfl rfl ?_
            refine O.store 1 0 [(.int .i64 t2)] [(.int .i64 t2), (.bool yk1.Found), (.int .i64 yk1.Error)] sz3 H rfl rfl rfl rfl rfl rfl ⟨⟨rfl, rfl⟩, rfl⟩ (one_cons rfl one_nil) ?_
            intro w4 H
            refine WL.nil ?_
            refine W.region ?_
            refine O.move (v := v2) rfl rfl rfl ?_
            refine O.loadA [(.int .i64 t2), (.bool yk1.Found), (.int .i64 yk1.Error)] ag32 rfl rfl rfl rfl (H.cell 1 rfl) ?_
            refine O.buildSlice (α := GEntry) [(.agg (Flat.cells (GEntry.mk t2 yk1.Found yk1.Error)).toArray)] [(GEntry.mk t2 yk1.Found yk1.Error)] Try.underlying22 el32 H rfl rfl rfl rfl rfl rfl rfl ?_
            intro v5 w5 H hb3
            obtain ⟨t3, ht3, hm2⟩ := bind_some hm2
            refine O.append 0 Try.underlying22 el32 rfl H rfl (H.own 2 rfl) ht3 rfl rfl rfl rfl ?_
            intro v6 w6 H
            refine O.assign (v := v6) rfl rfl rfl ?_
            refine WL.nil ?_
            refine W.region ?_
            refine O.add rfl rfl rfl rfl hinck1 ?_
            refine O.move (v := .int .i64 ((ik1 : Int) + 1)) rfl rfl rfl ?_
            refine WL.nil ?_
            have H := H.keep [0] [ownI (α := GEntry) v6 32 t3] rfl (by decide)
            obtain rfl := Option.some.inj hm2
            exact ⟨_, rfl, _, v6, rfl, drop_next hdropk1, rfl, rfl, rfl, rfl, rfl, H⟩
          · skip
            rintro ik1 _ f w ⟨z2, v2, rfl, hdropk1, hf20, hf19, hf1, hf6, hf18, H⟩ hfin
            have hltk1 := drop_end hdropk1
            obtain ⟨u3, rfl⟩ : ∃ u3, f = (upd (upd (upd (upd (upd u3 20 (.int .i64 (ik1 : Int))) 19 (.int .i64 ((a0.length : Nat) : Int))) 1 (.int .i64 a1)) 6 v2) 18 va0) := ⟨f, by rw [upd_self hf20, upd_self hf19, upd_self hf1, upd_self hf6, upd_self hf18]⟩
            refine W.seq ?_
            refine W.region ?_
            refine O.lss rfl rfl rfl rfl ?_
            refine WL.nil ?_
            refine W.seq ?_
            refine W.cond_false (congrArg Value.bool (decide_eq_false hltk1)) ?_
            refine W.exit ?_
            have hq : z2 = s1 := hfin
            subst hq
            refine xT rfl ?_
            exact ⟨v2, rfl, H⟩
        · skip
          rintro f w ⟨v4, hf6, H⟩
          obtain ⟨u4, rfl⟩ : ∃ u4, f = (upd u4 6 v4) := ⟨f, by rw [upd_self hf6]⟩
          refine W.seq ?_
          refine W.seq ?_
          refine W.region ?_
          refine O.move (v := v4) rfl rfl rfl ?_
          obtain ⟨t4, hy2, hm⟩ := bind_some hm
          refine O.call Try.call21 rfl rfl rfl (c_noongunref09_Valid _ _ (H.own 0 rfl) hy2) ?_
          rintro _ w7 hb4 rfl
          have H := H.ext hb4
          refine O.not rfl rfl rfl ?_
          refine WL.nil ?_
          rcases ite_some hm with ⟨hc4, hm⟩ | ⟨hc4, hm⟩
          · refine W.cond_true (congrArg Value.bool hc4) ?_
            refine W.seq ?_
            refine W.region ?_
            have H := H.addNil (α := GEntry) (E := 32)
            refine O.assign (v := (.slice none 0 0)) rfl rfl rfl ?_
            refine O.assign (v := (.int .i64 4)) rfl rfl rfl ?_
            refine WL.nil ?_
            refine W.ret ?_
            have hq : (([] : List GEntry), 4) = (r0, r1) := Option.some.inj (show some (([] : List GEntry), 4) = some (r0, r1) from hm)
            obtain ⟨he0, hq0⟩ := Prod.mk.inj hq; clear hq; subst he0
            subst hq0
            exact ends2 Try.results31 rfl rfl ⟨_, rfl, H.base, ⟨_, rfl, H.ownR 1 rfl⟩⟩
          · refine W.cond_false (congrArg Value.bool hc4) ?_
            refine W.skip ?_
            refine W.seq ?_
            refine W.region ?_
            refine O.move (v := v4) rfl rfl rfl ?_
            refine O.assign (v := v4) rfl rfl rfl ?_
            refine O.assign (v := (.int .i64 0)) rfl rfl rfl ?_
            refine WL.nil ?_
            refine W.ret ?_
            have hq : (s1, 0) = (r0, r1) := Option.some.inj (show some (s1, 0) = some (r0, r1) from hm)
            obtain ⟨he0, hq0⟩ := Prod.mk.inj hq; clear hq; subst he0
            subst hq0
            exact ends2 Try.results31 rfl rfl ⟨_, rfl, H.base, ⟨_, rfl, H.ownR 0 rfl⟩⟩

set_option maxRecDepth 20000 in
theorem c_noongunlaw09_LedgerShifted {w0 : World} (va0 : Value) (a0 : (List GEntry)) (ha0 : SliceR w0 va0 a0) (va1 : Value) (a1 : (List GEntry)) (ha1 : SliceR w0 va1 a1) (a2 : Int) (a3 : Int) {r0 : Bool} (hm : noongunlaw09_LedgerShifted a0 a1 a2 a3 = some r0) :
    Calls Try.prog 6 #[va0, va1, (.int .i64 a2), (.int .i64 a3)] w0 (Ret w0 fun _ v => v = (.bool r0)) := by
  unfold noongunlaw09_LedgerShifted at hm
  refine calls_of_W Try.func6 rfl Try.ntmps6 (Nat.le_of_ble_eq_true rfl) ?_
  have H := Inv.start (w := w0)
  refine W.seq ?_
  refine W.region ?_
  refine O.assign (v := (.bool false)) rfl rfl rfl ?_
  refine WL.nil ?_
  refine W.seq ?_
  refine W.seq ?_
  refine W.region ?_
  refine O.move (v := va0) rfl rfl rfl ?_
  obtain ⟨t1, hy1, hm⟩ := bind_some hm
  refine O.call Try.call22 rfl rfl rfl (c_noongunlaw09_small _ _ (H.arg ha0) hy1) ?_
  rintro _ w1 hb1 rfl
  have H := H.ext hb1
  refine O.not rfl rfl rfl ?_
  refine O.move (v := (.bool (!t1))) rfl rfl rfl ?_
  obtain ⟨b1, hm1, hm⟩ := bind_some hm
  refine WL.cut 4 (fun f w => f 0 = va0 ∧ f 1 = va1 ∧ f 2 = (.int .i64 a2) ∧ f 3 = (.int .i64 a3) ∧ f 34 = .bool b1 ∧ Inv w0 w []) ?_ ?_
  · skip
    rcases ite_some hm1 with ⟨hc1, hm1⟩ | ⟨hc1, hm1⟩
    · skip
      refine WL.reset (i := 30) (v := .bool true) (congrArg Value.bool hc1) ?_
      refine O.skip rfl rfl ?_
      refine O.skip rfl rfl ?_
      refine O.skip rfl rfl ?_
      refine O.pick_true (v := (.bool true)) rfl rfl rfl rfl ?_
      refine WL.nil ?_
      have hq : true = b1 := Option.some.inj (show some true = some b1 from hm1)
      subst hq
      exact ⟨rfl, rfl, rfl, rfl, rfl, H⟩
    · skip
      refine WL.reset (i := 30) (v := .bool false) (congrArg Value.bool hc1) ?_
      refine O.move (v := va1) rfl rfl rfl ?_
      obtain ⟨t2, hy2, hm1⟩ := bind_some hm1
      refine O.call Try.call22 rfl rfl rfl (c_noongunlaw09_small _ _ (H.arg ha1) hy2) ?_
      rintro _ w2 hb2 rfl
      have H := H.ext hb2
      refine O.not rfl rfl rfl ?_
      refine O.pick_false (v := (.bool (!t2))) rfl rfl rfl rfl ?_
      refine WL.nil ?_
      have hq : (!t2) = b1 := Option.some.inj (show some (!t2) = some b1 from hm1)
      subst hq
      exact ⟨rfl, rfl, rfl, rfl, rfl, H⟩
  · skip
    rintro f w ⟨hf0, hf1, hf2, hf3, hf34, H⟩
    obtain ⟨u1, rfl⟩ : ∃ u1, f = (upd (upd (upd (upd (upd u1 0 va0) 1 va1) 2 (.int .i64 a2)) 3 (.int .i64 a3)) 34 (.bool b1)) := ⟨f, by rw [upd_self hf0, upd_self hf1, upd_self hf2, upd_self hf3, upd_self hf34]⟩
    refine WL.nil ?_
    rcases ite_some hm with ⟨hc2, hm⟩ | ⟨hc2, hm⟩
    · refine W.cond_true (congrArg Value.bool hc2) ?_
      refine W.seq ?_
      refine W.region ?_
      obtain ⟨t3, hy3, hm⟩ := bind_some hm
      refine O.call Try.call13 rfl rfl rfl (c_noongunlaw09_awake  hy3) ?_
      rintro _ w3 hb3 rfl
      have H := H.ext hb3
      refine O.assign (v := (.bool t3)) rfl rfl rfl ?_
      refine WL.nil ?_
      refine W.ret ?_
      have hq : t3 = r0 := Option.some.inj (show some t3 = some r0 from hm)
      subst hq
      exact ends1 Try.results6 rfl ⟨_, rfl, H.base, rfl⟩
    · refine W.cond_false (congrArg Value.bool hc2) ?_
      refine W.skip ?_
      refine W.seq ?_
      refine W.region ?_
      refine O.move (v := va0) rfl rfl rfl ?_
      refine O.move (v := (.int .i64 a2)) rfl rfl rfl ?_
      obtain ⟨⟨t4, t5⟩, hy4, hm⟩ := bind_some hm
      refine O.call Try.call30 rfl rfl rfl (c_ledger_Shifted _ _ (H.arg ha0) _ hy4) ?_
      rintro _ w4 hb4 ⟨v1, rfl, ho1⟩
      have H := H.addOwn hb4 ho1
      refine O.move (v := (.tuple #[v1, (.int .i64 t5)])) rfl rfl rfl ?_
      refine O.extract (v := v1) rfl rfl rfl rfl ?_
      refine O.extract (v := (.int .i64 t5)) rfl rfl rfl rfl ?_
      refine O.assign (v := v1) rfl rfl rfl ?_
      refine O.assign (v := (.int .i64 t5)) rfl rfl rfl ?_
      refine WL.nil ?_
      refine W.seq ?_
      refine W.region ?_
      refine O.move (v := va0) rfl rfl rfl ?_
      refine O.move (v := (.int .i64 a2)) rfl rfl rfl ?_
      obtain ⟨⟨t6, t7⟩, hy5, hm⟩ := bind_some hm
      refine O.call Try.call31 rfl rfl rfl (c_noongunref09_Shifted _ _ (H.arg ha0) _ hy5) ?_
      rintro _ w5 hb5 ⟨v2, rfl, ho2⟩
      have H := H.addOwn hb5 ho2
      refine O.move (v := (.tuple #[v2, (.int .i64 t7)])) rfl rfl rfl ?_
      refine O.extract (v := v2) rfl rfl rfl rfl ?_
      refine O.extract (v := (.int .i64 t7)) rfl rfl rfl rfl ?_
      refine O.assign (v := v2) rfl rfl rfl ?_
      refine O.assign (v := (.int .i64 t7)) rfl rfl rfl ?_
      refine WL.nil ?_
      refine W.seq ?_
      refine W.seq ?_
      refine W.region ?_
      refine O.move (v := v1) rfl rfl rfl ?_
      refine O.move (v := v2) rfl rfl rfl ?_
      obtain ⟨t8, hy6, hm⟩ := bind_some hm
      refine O.call Try.call29 rfl rfl rfl (c_noongunref09_SameEntries _ _ (H.own 0 rfl) _ _ (H.own 1 rfl) hy6) ?_
      rintro _ w6 hb6 rfl
      have H := H.ext hb6
      refine O.not rfl rfl rfl ?_
      refine O.move (v := (.bool (!t8))) rfl rfl rfl ?_
      refine WL.cut 4 (fun f w => f 0 = va0 ∧ f 1 = va1 ∧ f 2 = (.int .i64 a2) ∧ f 3 = (.int .i64 a3) ∧ f 9 = v1 ∧ f 10 = (.int .i64 t5) ∧ f 56 = .bool ((!t8) || (t5 != t7)) ∧ Inv w0 w [ownI (α := GEntry) v1 32 t4, ownI (α := GEntry) v2 32 t6]) ?_ ?_
      · skip
        rcases bool_ft (!t8) with hc3 | hc3
        · skip
          refine WL.reset (i := 52) (v := .bool false) (congrArg Value.bool hc3) ?_
          refine O.move (v := (.int .i64 t5)) rfl rfl rfl ?_
          refine O.move (v := (.int .i64 t7)) rfl rfl rfl ?_
          refine O.neq rfl rfl rfl rfl ?_
          refine O.pick_false (v := (.bool (t5 != t7))) rfl rfl rfl rfl ?_
          refine WL.nil ?_
          exact ⟨rfl, rfl, rfl, rfl, rfl, rfl, congrArg Value.bool (or_f hc3), H⟩
        · skip
          refine WL.reset (i := 52) (v := .bool true) (congrArg Value.bool hc3) ?_
          refine O.skip rfl rfl ?_
          refine O.skip rfl rfl ?_
          refine O.skip rfl rfl ?_
          refine O.pick_true (v := (.bool true)) rfl rfl rfl rfl ?_
          refine WL.nil ?_
          exact ⟨rfl, rfl, rfl, rfl, rfl, rfl, congrArg Value.bool (or_t hc3), H⟩
      · skip
        rintro f w ⟨hf0, hf1, hf2, hf3, hf9, hf10, hf56, H⟩
        obtain ⟨u2, rfl⟩ : ∃ u2, f = (upd (upd (upd (upd (upd (upd (upd u2 0 va0) 1 va1) 2 (.int .i64 a2)) 3 (.int .i64 a3)) 9 v1) 10 (.int .i64 t5)) 56 (.bool ((!t8) || (t5 != t7)))) := ⟨f, by rw [upd_self hf0, upd_self hf1, upd_self hf2, upd_self hf3, upd_self hf9, upd_self hf10, upd_self hf56]⟩
        refine WL.nil ?_
        rcases ite_some hm with ⟨hc4, hm⟩ | ⟨hc4, hm⟩
        · refine W.cond_true (congrArg Value.bool hc4) ?_
          refine W.seq ?_
          refine W.region ?_
          refine O.assign (v := (.bool false)) rfl rfl rfl ?_
          refine WL.nil ?_
          refine W.ret ?_
          have hq : false = r0 := Option.some.inj (show some false = some r0 from hm)
          subst hq
          exact ends1 Try.results6 rfl ⟨_, rfl, H.base, rfl⟩
        · refine W.cond_false (congrArg Value.bool hc4) ?_
          refine W.skip ?_
          refine W.seq ?_
          refine W.region ?_
          refine O.move (v := va0) rfl rfl rfl ?_
          refine O.move (v := va1) rfl rfl rfl ?_
          obtain ⟨⟨t9, t10⟩, hy7, hm⟩ := bind_some hm
          refine O.call Try.call27 rfl rfl rfl (c_ledger_Merged _ _ (H.arg ha0) _ _ (H.arg ha1) hy7) ?_
          rintro _ w7 hb7 ⟨v3, rfl, ho3⟩
          have H := H.addOwn hb7 ho3
          refine O.move (v := (.tuple #[v3, (.int .i64 t10)])) rfl rfl rfl ?_
          refine O.extract (v := v3) rfl rfl rfl rfl ?_
          refine O.extract (v := (.int .i64 t10)) rfl rfl rfl rfl ?_
          refine O.assign (v := v3) rfl rfl rfl ?_
          refine O.assign (v := (.int .i64 t10)) rfl rfl rfl ?_
          refine WL.nil ?_
          refine W.seq ?_
          refine W.seq ?_
          refine W.region ?_
          refine O.move (v := (.int .i64 t10)) rfl rfl rfl ?_
          refine O.eql rfl rfl rfl rfl ?_
          refine WL.nil ?_
          obtain ⟨o1, hm2, hm⟩ := bind_some hm
          refine W.via (fun f w => o1 = .next () ∧ f 0 = va0 ∧ f 2 = (.int .i64 a2) ∧ f 3 = (.int .i64 a3) ∧ f 9 = v1 ∧ f 10 = (.int .i64 t5) ∧ Inv w0 w [ownI (α := GEntry) v1 32 t4]) ?_ ?_
          · skip
            rcases ite_some hm2 with ⟨hc5, hm2⟩ | ⟨hc5, hm2⟩
            · refine W.cond_true (congrArg Value.bool hc5) ?_
              refine W.seq ?_
              refine W.region ?_
              refine O.move (v := va0) rfl rfl rfl ?_
              obtain ⟨⟨t11, t12⟩, hy8, hm2⟩ := bind_some hm2
              refine O.call Try.call32 rfl rfl rfl (c_ledger_Corrections _ _ (H.arg ha0) hy8) ?_
              rintro _ w8 hb8 ⟨v4, rfl, ho4⟩
              have H := H.addOwn hb8 ho4
              refine O.move (v := (.tuple #[v4, (.int .i64 t12)])) rfl rfl rfl ?_
              refine O.extract (v := v4) rfl rfl rfl rfl ?_
              refine O.extract (v := (.int .i64 t12)) rfl rfl rfl rfl ?_
              refine O.assign (v := v4) rfl rfl rfl ?_
              refine O.assign (v := (.int .i64 t12)) rfl rfl rfl ?_
              refine WL.nil ?_
              refine W.seq ?_
              refine W.region ?_
              refine O.move (v := va1) rfl rfl rfl ?_
              obtain ⟨⟨t13, t14⟩, hy9, hm2⟩ := bind_some hm2
              refine O.call Try.call32 rfl rfl rfl (c_ledger_Corrections _ _ (H.arg ha1) hy9) ?_
              rintro _ w9 hb9 ⟨v5, rfl, ho5⟩
              have H := H.addOwn hb9 ho5
              refine O.move (v := (.tuple #[v5, (.int .i64 t14)])) rfl rfl rfl ?_
              refine O.extract (v := v5) rfl rfl rfl rfl ?_
              refine O.extract (v := (.int .i64 t14)) rfl rfl rfl rfl ?_
              refine O.assign (v := v5) rfl rfl rfl ?_
              refine O.assign (v := (.int .i64 t14)) rfl rfl rfl ?_
              refine WL.nil ?_
              refine W.seq ?_
              refine W.region ?_
              refine O.move (v := v3) rfl rfl rfl ?_
              obtain ⟨⟨t15, t16⟩, hy10, hm2⟩ := bind_some hm2
              refine O.call Try.call32 rfl rfl rfl (c_ledger_Corrections _ _ (H.own 2 rfl) hy10) ?_
              rintro _ w10 hb10 ⟨v6, rfl, ho6⟩
              have H := H.addOwn hb10 ho6
              refine O.move (v := (.tuple #[v6, (.int .i64 t16)])) rfl rfl rfl ?_
              refine O.extract (v := v6) rfl rfl rfl rfl ?_
              refine O.extract (v := (.int .i64 t16)) rfl rfl rfl rfl ?_
              refine O.assign (v := v6) rfl rfl rfl ?_
              refine O.assign (v := (.int .i64 t16)) rfl rfl rfl ?_
              refine WL.nil ?_
              refine W.seq ?_
              refine W.region ?_
              refine O.move (v := (.int .i64 t12)) rfl rfl rfl ?_
              refine O.neq rfl rfl rfl rfl ?_
              refine O.move (v := (.bool (t12 != 0))) rfl rfl rfl ?_
              refine WL.cut 3 (fun f w => f 0 = va0 ∧ f 2 = (.int .i64 a2) ∧ f 3 = (.int .i64 a3) ∧ f 9 = v1 ∧ f 10 = (.int .i64 t5) ∧ f 15 = v4 ∧ f 17 = v5 ∧ f 19 = v6 ∧ f 20 = (.int .i64 t16) ∧ f 85 = .bool ((t12 != 0) || (t14 != 0)) ∧ Inv w0 w [ownI (α := GEntry) v1 32 t4, ownI (α := GEntry) v2 32 t6, ownI (α := GEntry) v3 32 t9, ownI (α := Int) v4 3 t11, ownI (α := Int) v5 3 t13, ownI (α := Int) v6 3 t15]) ?_ ?_
              · skip
                rcases bool_ft (t12 != 0) with hc6 | hc6
                · skip
                  refine WL.reset (i := 82) (v := .bool false) (congrArg Value.bool hc6) ?_
                  refine O.move (v := (.int .i64 t14)) rfl rfl rfl ?_
                  refine O.neq rfl rfl rfl rfl ?_
                  refine O.pick_false (v := (.bool (t14 != 0))) rfl rfl rfl rfl ?_
                  refine WL.nil ?_
                  exact ⟨rfl, rfl, rfl, rfl, rfl, rfl, rfl, rfl, rfl, congrArg Value.bool (or_f hc6), H⟩
                · skip
                  refine WL.reset (i := 82) (v := .bool true) (congrArg Value.bool hc6) ?_
                  refine O.skip rfl rfl ?_
                  refine O.skip rfl rfl ?_
                  refine O.pick_true (v := (.bool true)) rfl rfl rfl rfl ?_
                  refine WL.nil ?_
                  exact ⟨rfl, rfl, rfl, rfl, rfl, rfl, rfl, rfl, rfl, congrArg Value.bool (or_t hc6), H⟩
              · skip
                rintro f w ⟨hf0, hf2, hf3, hf9, hf10, hf15, hf17, hf19, hf20, hf85, H⟩
                obtain ⟨u3, rfl⟩ : ∃ u3, f = (upd (upd (upd (upd (upd (upd (upd (upd (upd (upd u3 0 va0) 2 (.int .i64 a2)) 3 (.int .i64 a3)) 9 v1) 10 (.int .i64 t5)) 15 v4) 17 v5) 19 v6) 20 (.int .i64 t16)) 85 (.bool ((t12 != 0) || (t14 != 0)))) := ⟨f, by rw [upd_self hf0, upd_self hf2, upd_self hf3, upd_self hf9, upd_self hf10, upd_self hf15, upd_self hf17, upd_self hf19, upd_self hf20, upd_self hf85]⟩
                refine O.move (v := (.bool ((t12 != 0) || (t14 != 0)))) rfl rfl rfl ?_
                refine WL.cut 3 (fun f w => f 0 = va0 ∧ f 2 = (.int .i64 a2) ∧ f 3 = (.int .i64 a3) ∧ f 9 = v1 ∧ f 10 = (.int .i64 t5) ∧ f 15 = v4 ∧ f 17 = v5 ∧ f 19 = v6 ∧ f 89 = .bool (((t12 != 0) || (t14 != 0)) || (t16 != 0)) ∧ Inv w0 w [ownI (α := GEntry) v1 32 t4, ownI (α := GEntry) v2 32 t6, ownI (α := GEntry) v3 32 t9, ownI (α := Int) v4 3 t11, ownI (α := Int) v5 3 t13, ownI (α := Int) v6 3 t15]) ?_ ?_
                · skip
                  rcases bool_ft ((t12 != 0) || (t14 != 0)) with hc7 | hc7
                  · skip
                    refine WL.reset (i := 86) (v := .bool false) (congrArg Value.bool hc7) ?_
                    refine O.move (v := (.int .i64 t16)) rfl rfl rfl ?_
                    refine O.neq rfl rfl rfl rfl ?_
                    refine O.pick_false (v := (.bool (t16 != 0))) rfl rfl rfl rfl ?_
                    refine WL.nil ?_
                    exact ⟨rfl, rfl, rfl, rfl, rfl, rfl, rfl, rfl, congrArg Value.bool (or_f hc7), H⟩
                  · skip
                    refine WL.reset (i := 86) (v := .bool true) (congrArg Value.bool hc7) ?_
                    refine O.skip rfl rfl ?_
                    refine O.skip rfl rfl ?_
                    refine O.pick_true (v := (.bool true)) rfl rfl rfl rfl ?_
                    refine WL.nil ?_
                    exact ⟨rfl, rfl, rfl, rfl, rfl, rfl, rfl, rfl, congrArg Value.bool (or_t hc7), H⟩
                · skip
                  rintro f w ⟨hf0, hf2, hf3, hf9, hf10, hf15, hf17, hf19, hf89, H⟩
                  obtain ⟨u4, rfl⟩ : ∃ u4, f = (upd (upd (upd (upd (upd (upd (upd (upd (upd u4 0 va0) 2 (.int .i64 a2)) 3 (.int .i64 a3)) 9 v1) 10 (.int .i64 t5)) 15 v4) 17 v5) 19 v6) 89 (.bool (((t12 != 0) || (t14 != 0)) || (t16 != 0)))) := ⟨f, by rw [upd_self hf0, upd_self hf2, upd_self hf3, upd_self hf9, upd_self hf10, upd_self hf15, upd_self hf17, upd_self hf19, upd_self hf89]⟩
                  refine O.move (v := (.bool (((t12 != 0) || (t14 != 0)) || (t16 != 0)))) rfl rfl rfl ?_
                  obtain ⟨b2, hm3, hm2⟩ := bind_some hm2
                  refine WL.cut 9 (fun f w => f 0 = va0 ∧ f 2 = (.int .i64 a2) ∧ f 3 = (.int .i64 a3) ∧ f 9 = v1 ∧ f 10 = (.int .i64 t5) ∧ f 99 = .bool b2 ∧ Inv w0 w [ownI (α := GEntry) v1 32 t4, ownI (α := GEntry) v2 32 t6, ownI (α := GEntry) v3 32 t9, ownI (α := Int) v4 3 t11, ownI (α := Int) v5 3 t13, ownI (α := Int) v6 3 t15]) ?_ ?_
                  · skip
                    rcases ite_some hm3 with ⟨hc8, hm3⟩ | ⟨hc8, hm3⟩
                    · skip
                      refine WL.reset (i := 90) (v := .bool true) (congrArg Value.bool hc8) ?_
                      refine O.skip rfl rfl ?_
                      refine O.skip rfl rfl ?_
                      refine O.skip rfl rfl ?_
                      refine O.skip rfl rfl ?_
                      refine O.skip rfl rfl ?_
                      refine O.skip rfl rfl ?_
                      refine O.skip rfl rfl ?_
                      refine O.skip rfl rfl ?_
                      refine O.pick_true (v := (.bool true)) rfl rfl rfl rfl ?_
                      refine WL.nil ?_
                      have hq : true = b2 := Option.some.inj (show some true = some b2 from hm3)
                      subst hq
                      exact ⟨rfl, rfl, rfl, rfl, rfl, rfl, H⟩
                    · skip
                      refine WL.reset (i := 90) (v := .bool false) (congrArg Value.bool hc8) ?_
                      refine O.move (v := v6) rfl rfl rfl ?_
                      refine O.lenS Try.underlying39 (H.own 5 rfl) rfl rfl rfl ?_
                      refine O.move (v := v4) rfl rfl rfl ?_
                      refine O.lenS Try.underlying39 (H.own 3 rfl) rfl rfl rfl ?_
                      refine O.move (v := v5) rfl rfl rfl ?_
                      refine O.lenS Try.underlying39 (H.own 4 rfl) rfl rfl rfl ?_
                      obtain ⟨t17, ht17, hm3⟩ := bind_some hm3
                      refine O.add rfl rfl rfl rfl ht17 ?_
                      refine O.lss rfl rfl rfl rfl ?_
                      refine O.pick_false (v := (.bool (decide (((t15.length : Nat) : Int) < t17)))) rfl rfl rfl rfl ?_
                      refine WL.nil ?_
                      have hq : (decide (((t15.length : Nat) : Int) < t17)) = b2 := Option.some.inj (show some (decide (((t15.length : Nat) : Int) < t17)) = some b2 from hm3)
                      subst hq
                      exact ⟨rfl, rfl, rfl, rfl, rfl, rfl, H⟩
                  · skip
                    rintro f w ⟨hf0, hf2, hf3, hf9, hf10, hf99, H⟩
                    obtain ⟨u5, rfl⟩ : ∃ u5, f = (upd (upd (upd (upd (upd (upd u5 0 va0) 2 (.int .i64 a2)) 3 (.int .i64 a3)) 9 v1) 10 (.int .i64 t5)) 99 (.bool b2)) := ⟨f, by rw [upd_self hf0, upd_self hf2, upd_self hf3, upd_self hf9, upd_self hf10, upd_self hf99]⟩
                    refine WL.nil ?_
                    rcases ite_some hm2 with ⟨hc9, hm2⟩ | ⟨hc9, hm2⟩
                    · refine W.cond_true (congrArg Value.bool hc9) ?_
                      refine W.seq ?_
                      refine W.region ?_
                      refine O.assign (v := (.bool false)) rfl rfl rfl ?_
                      refine WL.nil ?_
                      refine W.ret ?_
                      obtain rfl := Option.some.inj hm2
                      have hq : false = r0 := Option.some.inj (show some false = some r0 from hm)
                      subst hq
                      exact ends1 Try.results6 rfl ⟨_, rfl, H.base, rfl⟩
                    · refine W.cond_false (congrArg Value.bool hc9) ?_
                      refine W.skip ?_
                      have H := H.keep [0] [ownI (α := GEntry) v1 32 t4] rfl (by decide)
                      obtain rfl := Option.some.inj hm2
                      exact ⟨rfl, rfl, rfl, rfl, rfl, rfl, H⟩
            · refine W.cond_false (congrArg Value.bool hc5) ?_
              refine W.skip ?_
              have H := H.keep [0] [ownI (α := GEntry) v1 32 t4] rfl (by decide)
              obtain rfl := Option.some.inj hm2
              exact ⟨rfl, rfl, rfl, rfl, rfl, rfl, H⟩
          · skip
            rintro f w ⟨rfl, hf0, hf2, hf3, hf9, hf10, H⟩
            obtain ⟨u6, rfl⟩ : ∃ u6, f = (upd (upd (upd (upd (upd u6 0 va0) 2 (.int .i64 a2)) 3 (.int .i64 a3)) 9 v1) 10 (.int .i64 t5)) := ⟨f, by rw [upd_self hf0, upd_self hf2, upd_self hf3, upd_self hf9, upd_self hf10]⟩
            refine W.seq ?_
            refine W.seq ?_
            refine W.region ?_
            refine O.move (v := (.int .i64 t5)) rfl rfl rfl ?_
            refine O.neq rfl rfl rfl rfl ?_
            refine WL.nil ?_
            rcases ite_some hm with ⟨hc10, hm⟩ | ⟨hc10, hm⟩
            · refine W.cond_true (congrArg Value.bool hc10) ?_
              refine W.seq ?_
              refine W.region ?_
              obtain ⟨t18, hy11, hm⟩ := bind_some hm
              refine O.call Try.call13 rfl rfl rfl (c_noongunlaw09_awake  hy11) ?_
              rintro _ w11 hb11 rfl
              have H := H.ext hb11
              refine O.assign (v := (.bool t18)) rfl rfl rfl ?_
              refine WL.nil ?_
              refine W.ret ?_
              have hq : t18 = r0 := Option.some.inj (show some t18 = some r0 from hm)
              subst hq
              exact ends1 Try.results6 rfl ⟨_, rfl, H.base, rfl⟩
            · refine W.cond_false (congrArg Value.bool hc10) ?_
              refine W.skip ?_
              refine W.seq ?_
              refine W.region ?_
              refine O.move (v := v1) rfl rfl rfl ?_
              refine O.move (v := (.int .i64 a2)) rfl rfl rfl ?_
              obtain ⟨t19, ht19, hm⟩ := bind_some hm
              refine O.neg rfl rfl rfl ht19 ?_
              obtain ⟨⟨t20, t21⟩, hy12, hm⟩ := bind_some hm
              refine O.call Try.call30 rfl rfl rfl (c_ledger_Shifted _ _ (H.own 0 rfl) _ hy12) ?_
              rintro _ w12 hb12 ⟨v7, rfl, ho7⟩
              have H := H.addOwn hb12 ho7
              refine O.move (v := (.tuple #[v7, (.int .i64 t21)])) rfl rfl rfl ?_
              refine O.extract (v := v7) rfl rfl rfl rfl ?_
              refine O.extract (v := (.int .i64 t21)) rfl rfl rfl rfl ?_
              refine O.assign (v := v7) rfl rfl rfl ?_
              refine O.assign (v := (.int .i64 t21)) rfl rfl rfl ?_
              refine WL.nil ?_
              refine W.seq ?_
              refine W.seq ?_
              refine W.region ?_
              refine O.move (v := (.int .i64 t21)) rfl rfl rfl ?_
              refine O.neq rfl rfl rfl rfl ?_
              refine O.move (v := (.bool (t21 != 0))) rfl rfl rfl ?_
              obtain ⟨b3, hm4, hm⟩ := bind_some hm
              refine WL.cut 5 (fun f w => f 0 = va0 ∧ f 2 = (.int .i64 a2) ∧ f 3 = (.int .i64 a3) ∧ f 9 = v1 ∧ f 117 = .bool b3 ∧ Inv w0 w [ownI (α := GEntry) v1 32 t4, ownI (α := GEntry) v7 32 t20]) ?_ ?_
              · skip
                rcases ite_some hm4 with ⟨hc11, hm4⟩ | ⟨hc11, hm4⟩
                · skip
                  refine WL.reset (i := 112) (v := .bool true) (congrArg Value.bool hc11) ?_
                  refine O.skip rfl rfl ?_
                  refine O.skip rfl rfl ?_
                  refine O.skip rfl rfl ?_
                  refine O.skip rfl rfl ?_
                  refine O.pick_true (v := (.bool true)) rfl rfl rfl rfl ?_
                  refine WL.nil ?_
                  have hq : true = b3 := Option.some.inj (show some true = some b3 from hm4)
                  subst hq
                  exact ⟨rfl, rfl, rfl, rfl, rfl, H⟩
                · skip
                  refine WL.reset (i := 112) (v := .bool false) (congrArg Value.bool hc11) ?_
                  refine O.move (v := v7) rfl rfl rfl ?_
                  refine O.move (v := va0) rfl rfl rfl ?_
                  obtain ⟨t22, hy13, hm4⟩ := bind_some hm4
                  refine O.call Try.call29 rfl rfl rfl (c_noongunref09_SameEntries _ _ (H.own 1 rfl) _ _ (H.arg ha0) hy13) ?_
                  rintro _ w13 hb13 rfl
                  have H := H.ext hb13
                  refine O.not rfl rfl rfl ?_
                  refine O.pick_false (v := (.bool (!t22))) rfl rfl rfl rfl ?_
                  refine WL.nil ?_
                  have hq : (!t22) = b3 := Option.some.inj (show some (!t22) = some b3 from hm4)
                  subst hq
                  exact ⟨rfl, rfl, rfl, rfl, rfl, H⟩
              · skip
                rintro f w ⟨hf0, hf2, hf3, hf9, hf117, H⟩
                obtain ⟨u7, rfl⟩ : ∃ u7, f = (upd (upd (upd (upd (upd u7 0 va0) 2 (.int .i64 a2)) 3 (.int .i64 a3)) 9 v1) 117 (.bool b3)) := ⟨f, by rw [upd_self hf0, upd_self hf2, upd_self hf3, upd_self hf9, upd_self hf117]⟩
                refine WL.nil ?_
                rcases ite_some hm with ⟨hc12, hm⟩ | ⟨hc12, hm⟩
                · refine W.cond_true (congrArg Value.bool hc12) ?_
                  refine W.seq ?_
                  refine W.region ?_
                  refine O.assign (v := (.bool false)) rfl rfl rfl ?_
                  refine WL.nil ?_
                  refine W.ret ?_
                  have hq : false = r0 := Option.some.inj (show some false = some r0 from hm)
                  subst hq
                  exact ends1 Try.results6 rfl ⟨_, rfl, H.base, rfl⟩
                · refine W.cond_false (congrArg Value.bool hc12) ?_
                  refine W.skip ?_
                  refine W.seq ?_
                  refine W.seq ?_
                  refine W.region ?_
                  refine O.move (v := (.int .i64 a3)) rfl rfl rfl ?_
                  refine O.lss rfl rfl rfl rfl ?_
                  refine O.move (v := (.bool (decide (a3 < 0)))) rfl rfl rfl ?_
                  refine WL.cut 3 (fun f w => f 0 = va0 ∧ f 2 = (.int .i64 a2) ∧ f 3 = (.int .i64 a3) ∧ f 9 = v1 ∧ f 123 = .bool ((decide (a3 < 0)) || (decide (182985 < a3))) ∧ Inv w0 w [ownI (α := GEntry) v1 32 t4, ownI (α := GEntry) v7 32 t20]) ?_ ?_
                  · skip
                    rcases bool_ft (decide (a3 < 0)) with hc13 | hc13
                    · skip
                      refine WL.reset (i := 120) (v := .bool false) (congrArg Value.bool hc13) ?_
                      refine O.move (v := (.int .i64 a3)) rfl rfl rfl ?_
                      refine O.gtr rfl rfl rfl rfl ?_
                      refine O.pick_false (v := (.bool (decide (182985 < a3)))) rfl rfl rfl rfl ?_
                      refine WL.nil ?_
                      exact ⟨rfl, rfl, rfl, rfl, congrArg Value.bool (or_f hc13), H⟩
                    · skip
                      refine WL.reset (i := 120) (v := .bool true) (congrArg Value.bool hc13) ?_
                      refine O.skip rfl rfl ?_
                      refine O.skip rfl rfl ?_
                      refine O.pick_true (v := (.bool true)) rfl rfl rfl rfl ?_
                      refine WL.nil ?_
                      exact ⟨rfl, rfl, rfl, rfl, congrArg Value.bool (or_t hc13), H⟩
                  · skip
                    rintro f w ⟨hf0, hf2, hf3, hf9, hf123, H⟩
                    obtain ⟨u8, rfl⟩ : ∃ u8, f = (upd (upd (upd (upd (upd u8 0 va0) 2 (.int .i64 a2)) 3 (.int .i64 a3)) 9 v1) 123 (.bool ((decide (a3 < 0)) || (decide (182985 < a3))))) := ⟨f, by rw [upd_self hf0, upd_self hf2, upd_self hf3, upd_self hf9, upd_self hf123]⟩
                    refine O.move (v := (.bool ((decide (a3 < 0)) || (decide (182985 < a3))))) rfl rfl rfl ?_
                    obtain ⟨b4, hm5, hm⟩ := bind_some hm
                    refine WL.cut 5 (fun f w => f 0 = va0 ∧ f 2 = (.int .i64 a2) ∧ f 3 = (.int .i64 a3) ∧ f 9 = v1 ∧ f 129 = .bool b4 ∧ Inv w0 w [ownI (α := GEntry) v1 32 t4, ownI (α := GEntry) v7 32 t20]) ?_ ?_
                    · skip
                      rcases ite_some hm5 with ⟨hc14, hm5⟩ | ⟨hc14, hm5⟩
                      · skip
                        refine WL.reset (i := 124) (v := .bool true) (congrArg Value.bool hc14) ?_
                        refine O.skip rfl rfl ?_
                        refine O.skip rfl rfl ?_
                        refine O.skip rfl rfl ?_
                        refine O.skip rfl rfl ?_
                        refine O.pick_true (v := (.bool true)) rfl rfl rfl rfl ?_
                        refine WL.nil ?_
                        have hq : true = b4 := Option.some.inj (show some true = some b4 from hm5)
                        subst hq
                        exact ⟨rfl, rfl, rfl, rfl, rfl, H⟩
                      · skip
                        refine WL.reset (i := 124) (v := .bool false) (congrArg Value.bool hc14) ?_
                        refine O.move (v := (.int .i64 a3)) rfl rfl rfl ?_
                        refine O.move (v := (.int .i64 a2)) rfl rfl rfl ?_
                        obtain ⟨t23, ht23, hm5⟩ := bind_some hm5
                        refine O.add rfl rfl rfl rfl ht23 ?_
                        refine O.lss rfl rfl rfl rfl ?_
                        refine O.pick_false (v := (.bool (decide (t23 < 0)))) rfl rfl rfl rfl ?_
                        refine WL.nil ?_
                        have hq : (decide (t23 < 0)) = b4 := Option.some.inj (show some (decide (t23 < 0)) = some b4 from hm5)
                        subst hq
                        exact ⟨rfl, rfl, rfl, rfl, rfl, H⟩
                    · skip
                      rintro f w ⟨hf0, hf2, hf3, hf9, hf129, H⟩
                      obtain ⟨u9, rfl⟩ : ∃ u9, f = (upd (upd (upd (upd (upd u9 0 va0) 2 (.int .i64 a2)) 3 (.int .i64 a3)) 9 v1) 129 (.bool b4)) := ⟨f, by rw [upd_self hf0, upd_self hf2, upd_self hf3, upd_self hf9, upd_self hf129]⟩
                      refine O.move (v := (.bool b4)) rfl rfl rfl ?_
                      obtain ⟨b5, hm6, hm⟩ := bind_some hm
                      refine WL.cut 5 (fun f w => f 0 = va0 ∧ f 2 = (.int .i64 a2) ∧ f 3 = (.int .i64 a3) ∧ f 9 = v1 ∧ f 135 = .bool b5 ∧ Inv w0 w [ownI (α := GEntry) v1 32 t4, ownI (α := GEntry) v7 32 t20]) ?_ ?_
                      · skip
                        rcases ite_some hm6 with ⟨hc15, hm6⟩ | ⟨hc15, hm6⟩
                        · skip
                          refine WL.reset (i := 130) (v := .bool true) (congrArg Value.bool hc15) ?_
                          refine O.skip rfl rfl ?_
                          refine O.skip rfl rfl ?_
                          refine O.skip rfl rfl ?_
                          refine O.skip rfl rfl ?_
                          refine O.pick_true (v := (.bool true)) rfl rfl rfl rfl ?_
                          refine WL.nil ?_
                          have hq : true = b5 := Option.some.inj (show some true = some b5 from hm6)
                          subst hq
                          exact ⟨rfl, rfl, rfl, rfl, rfl, H⟩
                        · skip
                          refine WL.reset (i := 130) (v := .bool false) (congrArg Value.bool hc15) ?_
                          refine O.move (v := (.int .i64 a3)) rfl rfl rfl ?_
                          refine O.move (v := (.int .i64 a2)) rfl rfl rfl ?_
                          obtain ⟨t24, ht24, hm6⟩ := bind_some hm6
                          refine O.add rfl rfl rfl rfl ht24 ?_
                          refine O.gtr rfl rfl rfl rfl ?_
                          refine O.pick_false (v := (.bool (decide (182985 < t24)))) rfl rfl rfl rfl ?_
                          refine WL.nil ?_
                          have hq : (decide (182985 < t24)) = b5 := Option.some.inj (show some (decide (182985 < t24)) = some b5 from hm6)
                          subst hq
                          exact ⟨rfl, rfl, rfl, rfl, rfl, H⟩
                      · skip
                        rintro f w ⟨hf0, hf2, hf3, hf9, hf135, H⟩
                        obtain ⟨u10, rfl⟩ : ∃ u10, f = (upd (upd (upd (upd (upd u10 0 va0) 2 (.int .i64 a2)) 3 (.int .i64 a3)) 9 v1) 135 (.bool b5)) := ⟨f, by rw [upd_self hf0, upd_self hf2, upd_self hf3, upd_self hf9, upd_self hf135]⟩
                        refine WL.nil ?_
                        rcases ite_some hm with ⟨hc16, hm⟩ | ⟨hc16, hm⟩
                        · refine W.cond_true (congrArg Value.bool hc16) ?_
                          refine W.seq ?_
                          refine W.region ?_
                          obtain ⟨t25, hy14, hm⟩ := bind_some hm
                          refine O.call Try.call13 rfl rfl rfl (c_noongunlaw09_awake  hy14) ?_
                          rintro _ w14 hb14 rfl
                          have H := H.ext hb14
                          refine O.assign (v := (.bool t25)) rfl rfl rfl ?_
                          refine WL.nil ?_
                          refine W.ret ?_
                          have hq : t25 = r0 := Option.some.inj (show some t25 = some r0 from hm)
                          subst hq
                          exact ends1 Try.results6 rfl ⟨_, rfl, H.base, rfl⟩
                        · refine W.cond_false (congrArg Value.bool hc16) ?_
                          refine W.skip ?_
                          refine W.seq ?_
                          refine W.region ?_
                          refine O.move (v := va0) rfl rfl rfl ?_
                          refine O.move (v := (.int .i64 a3)) rfl rfl rfl ?_
                          obtain ⟨⟨t26, t27⟩, hy15, hm⟩ := bind_some hm
                          refine O.call Try.call18 rfl rfl rfl (c_ledger_Off _ _ (H.arg ha0) _ hy15) ?_
                          rintro _ w15 hb15 rfl
                          have H := H.ext hb15
                          refine O.move (v := (.tuple #[(.int .i64 t26), (.int .i64 t27)])) rfl rfl rfl ?_
                          refine O.extract (v := (.int .i64 t26)) rfl rfl rfl rfl ?_
                          refine O.extract (v := (.int .i64 t27)) rfl rfl rfl rfl ?_
                          refine O.assign (v := (.int .i64 t26)) rfl rfl rfl ?_
                          refine O.assign (v := (.int .i64 t27)) rfl rfl rfl ?_
                          refine WL.nil ?_
                          refine W.seq ?_
                          refine W.region ?_
                          refine O.move (v := v1) rfl rfl rfl ?_
                          refine O.move (v := (.int .i64 a3)) rfl rfl rfl ?_
                          refine O.move (v := (.int .i64 a2)) rfl rfl rfl ?_
                          obtain ⟨t28, ht28, hm⟩ := bind_some hm
                          refine O.add rfl rfl rfl rfl ht28 ?_
                          obtain ⟨⟨t29, t30⟩, hy16, hm⟩ := bind_some hm
                          refine O.call Try.call18 rfl rfl rfl (c_ledger_Off _ _ (H.own 0 rfl) _ hy16) ?_
                          rintro _ w16 hb16 rfl
                          have H := H.ext hb16
                          refine O.move (v := (.tuple #[(.int .i64 t29), (.int .i64 t30)])) rfl rfl rfl ?_
                          refine O.extract (v := (.int .i64 t29)) rfl rfl rfl rfl ?_
                          refine O.extract (v := (.int .i64 t30)) rfl rfl rfl rfl ?_
                          refine O.assign (v := (.int .i64 t29)) rfl rfl rfl ?_
                          refine O.assign (v := (.int .i64 t30)) rfl rfl rfl ?_
                          refine WL.nil ?_
                          refine W.seq ?_
                          refine W.region ?_
                          refine O.move (v := (.int .i64 t26)) rfl rfl rfl ?_
                          refine O.move (v := (.int .i64 t29)) rfl rfl rfl ?_
                          refine O.eql rfl rfl rfl rfl ?_
                          refine O.move (v := (.bool (t26 == t29))) rfl rfl rfl ?_
                          refine WL.cut 4 (fun f w => f 158 = .bool ((t26 == t29) && (t27 == t30)) ∧ Inv w0 w [ownI (α := GEntry) v1 32 t4, ownI (α := GEntry) v7 32 t20]) ?_ ?_
                          · skip
                            rcases bool_ft (t26 == t29) with hc17 | hc17
                            · skip
                              refine WL.reset (i := 154) (v := .bool false) (congrArg Value.bool hc17) ?_
                              refine O.skip rfl rfl ?_
                              refine O.skip rfl rfl ?_
                              refine O.skip rfl rfl ?_
                              refine O.pick_false (v := (.bool false)) rfl rfl rfl rfl ?_
                              refine WL.nil ?_
                              exact ⟨congrArg Value.bool (and_f hc17), H⟩
                            · skip
                              refine WL.reset (i := 154) (v := .bool true) (congrArg Value.bool hc17) ?_
                              refine O.move (v := (.int .i64 t27)) rfl rfl rfl ?_
                              refine O.move (v := (.int .i64 t30)) rfl rfl rfl ?_
                              refine O.eql rfl rfl rfl rfl ?_
                              refine O.pick_true (v := (.bool (t27 == t30))) rfl rfl rfl rfl ?_
                              refine WL.nil ?_
                              exact ⟨congrArg Value.bool (and_t hc17), H⟩
                          · skip
                            rintro f w ⟨hf158, H⟩
                            obtain ⟨u11, rfl⟩ : ∃ u11, f = (upd u11 158 (.bool ((t26 == t29) && (t27 == t30)))) := ⟨f, by rw [upd_self hf158]⟩
                            refine O.move (v := (.bool ((t26 == t29) && (t27 == t30)))) rfl rfl rfl ?_
                            obtain ⟨b6, hm7, hm⟩ := bind_some hm
                            refine WL.cut 2 (fun f w => f 161 = .bool b6 ∧ Inv w0 w [ownI (α := GEntry) v1 32 t4, ownI (α := GEntry) v7 32 t20]) ?_ ?_
                            · skip
                              rcases ite_some hm7 with ⟨hc18, hm7⟩ | ⟨hc18, hm7⟩
                              · skip
                                refine WL.reset (i := 159) (v := .bool true) (congrArg Value.bool hc18) ?_
                                obtain ⟨t31, hy17, hm7⟩ := bind_some hm7
                                refine O.call Try.call13 rfl rfl rfl (c_noongunlaw09_awake  hy17) ?_
                                rintro _ w17 hb17 rfl
                                have H := H.ext hb17
                                refine O.pick_true (v := (.bool t31)) rfl rfl rfl rfl ?_
                                refine WL.nil ?_
                                have hq : t31 = b6 := Option.some.inj (show some t31 = some b6 from hm7)
                                subst hq
                                exact ⟨rfl, H⟩
                              · skip
                                refine WL.reset (i := 159) (v := .bool false) (congrArg Value.bool hc18) ?_
                                refine O.skip rfl rfl ?_
                                refine O.pick_false (v := (.bool false)) rfl rfl rfl rfl ?_
                                refine WL.nil ?_
                                have hq : false = b6 := Option.some.inj (show some false = some b6 from hm7)
                                subst hq
                                exact ⟨rfl, H⟩
                            · skip
                              rintro f w ⟨hf161, H⟩
                              obtain ⟨u12, rfl⟩ : ∃ u12, f = (upd u12 161 (.bool b6)) := ⟨f, by rw [upd_self hf161]⟩
                              refine O.assign (v := (.bool b6)) rfl rfl rfl ?_
                              refine WL.nil ?_
                              refine W.ret ?_
                              have hq : b6 = r0 := Option.some.inj (show some b6 = some r0 from hm)
                              subst hq
                              exact ends1 Try.results6 rfl ⟨_, rfl, H.base, rfl⟩

theorem c_ledger_Last_c1 {w0 : World} (a0 : GEntry) (a1 : GEntry) {r0 : Int} (hm : ledger_Last_c1 a0 a1 = some r0) :
    Calls Try.prog 74 #[(.agg (Flat.cells a0).toArray), (.agg (Flat.cells a1).toArray)] w0 (Ret w0 fun _ v => v = (.int .i64 r0)) := by
  unfold ledger_Last_c1 at hm
  refine calls_of_W Try.func74 rfl Try.ntmps74 (Nat.le_of_ble_eq_true rfl) ?_
  have H := Inv.start (w := w0)
  refine W.seq ?_
  refine W.region ?_
  refine O.box [(.int .i64 a0.Day), (.bool a0.Found), (.int .i64 a0.Error)] H rfl rfl rfl rfl ?_
  intro b1 w1 H hb1
  refine O.box [(.int .i64 a1.Day), (.bool a1.Found), (.int .i64 a1.Error)] H rfl rfl rfl rfl ?_
  intro b2 w2 H hb2
  refine O.assign (v := (.int .i64 0)) rfl rfl rfl ?_
  refine WL.nil ?_
  refine W.seq ?_
  refine W.seq ?_
  refine W.region ?_
  refine O.fieldAddr fd32_0 rfl rfl rfl ?_
  refine O.load sc3 rfl rfl rfl (H.cell 0 rfl 0 _ rfl) ?_
  refine O.fieldAddr fd32_0 rfl rfl rfl ?_
  refine O.load sc3 rfl rfl rfl (H.cell 1 rfl 0 _ rfl) ?_
  refine O.neq rfl rfl rfl rfl ?_
  refine WL.nil ?_
  rcases ite_some hm with ⟨hc1, hm⟩ | ⟨hc1, hm⟩
  · refine W.cond_true (congrArg Value.bool hc1) ?_
    refine W.seq ?_
    refine W.region ?_
    refine O.fieldAddr fd32_0 rfl rfl rfl ?_
    refine O.load sc3 rfl rfl rfl (H.cell 0 rfl 0 _ rfl) ?_
    refine O.fieldAddr fd32_0 rfl rfl rfl ?_
    refine O.load sc3 rfl rfl rfl (H.cell 1 rfl 0 _ rfl) ?_
    obtain ⟨t1, ht1, hm⟩ := bind_some hm
    refine O.sub rfl rfl rfl rfl ht1 ?_
    refine O.assign (v := (.int .i64 t1)) rfl rfl rfl ?_
    refine WL.nil ?_
    refine W.ret ?_
    have hq : t1 = r0 := Option.some.inj (show some t1 = some r0 from hm)
    subst hq
    exact ends1 Try.results74 rfl ⟨_, rfl, H.base, rfl⟩
  · refine W.cond_false (congrArg Value.bool hc1) ?_
    refine W.skip ?_
    refine W.seq ?_
    refine W.seq ?_
    refine W.region ?_
    refine O.fieldAddr fd32_1 rfl rfl rfl ?_
    refine O.load sc4 rfl rfl rfl (H.cell 0 rfl 1 _ rfl) ?_
    refine WL.nil ?_
    rcases ite_some hm with ⟨hc2, hm⟩ | ⟨hc2, hm⟩
    · refine W.cond_true (congrArg Value.bool hc2) ?_
      refine W.seq ?_
      refine W.region ?_
      refine O.assign (v := (.int .i64 1)) rfl rfl rfl ?_
      refine WL.nil ?_
      refine W.ret ?_
      have hq : 1 = r0 := Option.some.inj (show some 1 = some r0 from hm)
      subst hq
      exact ends1 Try.results74 rfl ⟨_, rfl, H.base, rfl⟩
    · refine W.cond_false (congrArg Value.bool hc2) ?_
      refine W.skip ?_
      refine W.seq ?_
      refine W.region ?_
      refine O.assign (v := (.int .i64 (-1))) rfl rfl rfl ?_
      refine WL.nil ?_
      refine W.ret ?_
      have hq : (-1) = r0 := Option.some.inj (show some (-1) = some r0 from hm)
      subst hq
      exact ends1 Try.results74 rfl ⟨_, rfl, H.base, rfl⟩

theorem c_ledger_page_days {w0 : World} (r : Nat) (kv : List (GKey × Int)) (hp : MapOk w0 r kv) : Calls Try.prog 83 #[.map (some r)] w0 (Ret w0 fun w v => ∃ ba bp ra : Nat,
    v = .func (.func 94) #[] #[.pointer (some ⟨ba, 0, none⟩), .pointer (some ⟨bp, 0, none⟩)] ∧ Inv w0 w [boxI ba 94 [.map (some ra)], boxI bp 57 [.map (some r)], daysI ra kv]) := by
  obtain ⟨es, clock, e1, e2, e3, e4, e5, e6⟩ := hp.open
  refine calls_of_W Try.func83 rfl Try.ntmps83 (Nat.le_of_ble_eq_true rfl) ?_
  have H := Inv.start (w := w0)
  refine W.seq ?_
  refine W.region ?_
  refine O.box [.map (some r)] H rfl rfl rfl rfl ?_
  intro bp w1 H hb1
  refine O.assign (v := .nilFunc) rfl rfl rfl ?_
  refine WL.nil ?_
  refine W.seq ?_
  refine W.region ?_
  refine O.makeMap (α := Int) (β := Bool) H rfl rfl ?_
  intro ra w2 H hb2
  refine O.alloc [.map none] ze94 H rfl rfl rfl ?_
  intro ba w3 H hb3
  refine O.store 2 0 [.map (some ra)] [.map (some ra)] sz94 H rfl rfl rfl rfl rfl rfl ⟨⟨rfl, rfl⟩, rfl⟩ (one_cons rfl one_nil) ?_
  intro w4 H
  refine WL.nil ?_
  refine W.seq ?_
  refine W.via (fun f w => f 3 = .pointer (some ⟨ba, 0, none⟩) ∧ f 1 = .pointer (some ⟨bp, 0, none⟩) ∧ ∃ kva : List (Int × Bool), kva.length ≤ kv.length ∧ (∀ d, (∃ b, (d, b) ∈ kva) ↔ ∃ p ∈ kv, p.1.day = d) ∧ Inv w0 w [boxI bp 57 [.map (some r)], mapI ra kva, boxI ba 94 [.map (some ra)]]) ?_ ?_
  · refine W.seq ?_
    refine W.region ?_
    refine O.load (q := ⟨bp, 0, none⟩) (v := .map (some r)) sc57 rfl rfl rfl (H.cell 0 rfl 0 _ rfl) ?_
    have hb : w4.heap[r]? = some (.map es clock) := (H.base.block r (heap_lt e1)).trans e1
    refine O.range Try.underlying57 hb H rfl rfl rfl ?_
    intro bi w5 H hb5
    refine WL.nil ?_
    refine W.block ?_
    refine W.loopL (l := kv) (fun rem f w => ∃ seen : Array Nat, ∃ kva : List (Int × Bool), (doneL es.toList kv seen).length + rem.length = kv.length ∧ kva.length ≤ (doneL es.toList kv seen).length ∧ (∀ d, (∃ b, (d, b) ∈ kva) ↔ ∃ p ∈ doneL es.toList kv seen, p.1.day = d) ∧
      f 7 = .pointer (some ⟨bi, 0, none⟩) ∧ f 3 = .pointer (some ⟨ba, 0, none⟩) ∧ f 1 = .pointer (some ⟨bp, 0, none⟩) ∧ Inv w0 w [boxI bp 57 [.map (some r)], mapI ra kva, boxI ba 94 [.map (some ra)], iterX bi r clock seen clock]) ?_ ?_ ?_
    · exact ⟨#[], [], by rw [doneL_nil]; simp, by simp, fun d => by rw [doneL_nil]; simp, rfl, rfl, rfl, H⟩
    · rintro _ xs f w ⟨seen, kva, h1, h2, h3, hf7, hf3, hf1, H⟩
      obtain ⟨u1, rfl⟩ : ∃ u1, f = (upd (upd (upd u1 7 (.pointer (some ⟨bi, 0, none⟩))) 3 (.pointer (some ⟨ba, 0, none⟩))) 1 (.pointer (some ⟨bp, 0, none⟩))) := ⟨f, by rw [upd_self hf7, upd_self hf3, upd_self hf1]⟩
      have hb : w.heap[r]? = some (.map es clock) := (H.base.block r (heap_lt e1)).trans e1
      refine W.seq ?_
      refine W.region ?_
      refine O.next 3 H rfl hb e5 (Nat.le_refl _) rfl rfl rfl ?_ ?_
      · intro h0
        have := doneL_all es.toList kv seen e6 (left_none h0)
        rw [this] at h1
        simp at h1
      · intro e he w1 H hb
        obtain ⟨he1, he2⟩ := left_mem he
        obtain ⟨p, hp1, hp2, hp3, hp4⟩ := doneL_push seen e he2 es.toList kv e2 e4 he1
        refine O.extract (v := .bool true) rfl rfl rfl rfl ?_
        refine WL.nil ?_
        refine W.seq ?_
        refine W.cond_true rfl ?_
        refine W.skip ?_
        refine W.block ?_
        refine W.seq ?_
        refine W.region ?_
        refine O.entry 3 H rfl hb he1 e4 rfl rfl rfl ?_
        refine O.extract (v := Flat.val p.1) rfl rfl rfl (by rw [hp2]; rfl) ?_
        refine O.alloc [.int .i64 0, .bool false] ze60 H rfl rfl rfl ?_
        intro bk w2 H hbk
        refine O.store 4 0 [.int .i64 p.1.day, .bool p.1.found] [.int .i64 p.1.day, .bool p.1.found] sz60 H rfl rfl rfl rfl rfl rfl ⟨⟨rfl, rfl⟩, rfl⟩ (one_cons rfl (one_cons rfl one_nil)) ?_
        intro w3 H
        refine WL.nil ?_
        refine W.region ?_
        refine O.load (q := ⟨ba, 0, none⟩) (v := .map (some ra)) sc94 rfl rfl rfl (H.cell 2 rfl 0 _ rfl) ?_
        refine O.fieldAddr fd60_0 rfl rfl rfl ?_
        refine O.load sc3 rfl rfl rfl (H.cell 4 rfl 0 _ rfl) ?_
        refine O.mapUpdate 1 p.1.day true Try.underlying94 key3 H rfl rfl rfl rfl rfl ?_
        intro w4 H
        refine WL.nil ?_
        have H := H.pick [0, 1, 2, 3] [boxI bp 57 [.map (some r)], mapI ra (mput kva p.1.day true), boxI ba 94 [.map (some ra)], iterX bi r clock (seen.push e.born) clock] rfl (by decide)
        have hlen := hp4.length_eq
        rw [List.length_cons] at hlen
        refine ⟨seen.push e.born, _, ?_, ?_, fun d => ?_, rfl, rfl, rfl, H⟩
        · simp at h1; omega
        · have := mput_len kva p.1.day true; omega
        · rw [mem_mput, h3]
          constructor
          · rintro (rfl | ⟨q, hq, hd⟩)
            · exact ⟨p, hp4.mem_iff.2 (by simp), rfl⟩
            · exact ⟨q, hp4.mem_iff.2 (by simp [hq]), hd⟩
          · rintro ⟨q, hq, hd⟩
            rcases List.mem_cons.1 (hp4.mem_iff.1 hq) with rfl | hq
            · exact .inl hd.symm
            · exact .inr ⟨q, hq, hd⟩
    · rintro f w ⟨seen, kva, h1, h2, h3, hf7, hf3, hf1, H⟩
      obtain ⟨u1, rfl⟩ : ∃ u1, f = (upd (upd (upd u1 7 (.pointer (some ⟨bi, 0, none⟩))) 3 (.pointer (some ⟨ba, 0, none⟩))) 1 (.pointer (some ⟨bp, 0, none⟩))) := ⟨f, by rw [upd_self hf7, upd_self hf3, upd_self hf1]⟩
      have hb : w.heap[r]? = some (.map es clock) := (H.base.block r (heap_lt e1)).trans e1
      refine W.seq ?_
      refine W.region ?_
      refine O.next 3 H rfl hb e5 (Nat.le_refl _) rfl rfl rfl ?_ ?_
      · intro h0
        have hall := doneL_all es.toList kv seen e6 (left_none h0)
        rw [hall] at h2 h3
        refine O.extract (v := .bool false) rfl rfl rfl rfl ?_
        refine WL.nil ?_
        refine W.seq ?_
        refine W.cond_false rfl ?_
        refine W.exit ?_
        refine xT rfl ?_
        exact ⟨rfl, rfl, kva, h2, h3, H.keep [0, 1, 2] _ rfl (by decide)⟩
      · intro e he w1 H hb
        exfalso
        obtain ⟨he1, he2⟩ := left_mem he
        obtain ⟨p, hp1, hp2, hp3, hp4⟩ := doneL_push seen e he2 es.toList kv e2 e4 he1
        have hlen := hp4.length_eq
        have hle := doneL_le es.toList kv (seen.push e.born)
        rw [List.length_cons] at hlen
        simp at h1
        omega
  · rintro f w ⟨hf3, hf1, kva, h2, h3, H⟩
    obtain ⟨u1, rfl⟩ : ∃ u1, f = (upd (upd u1 3 (.pointer (some ⟨ba, 0, none⟩))) 1 (.pointer (some ⟨bp, 0, none⟩))) := ⟨f, by rw [upd_self hf3, upd_self hf1]⟩
    refine W.seq ?_
    refine W.region ?_
    refine O.makeFunc rfl rfl rfl rfl ?_
    refine O.assign (v := .func (.func 94) #[] #[.pointer (some ⟨ba, 0, none⟩), .pointer (some ⟨bp, 0, none⟩)]) rfl rfl rfl ?_
    refine WL.nil ?_
    refine W.ret ?_
    have H := H.turn (it' := daysI ra kv) 1 rfl (fun b h => h) (fun h => ⟨kva, h, h2, h3⟩)
    exact ends1 Try.results83 rfl ⟨_, rfl, H.base, ⟨ba, bp, ra, rfl, H.pick [2, 0, 1] _ rfl (by decide)⟩⟩
theorem days_sorted {kva : List (Int × Bool)} {kv : List (GKey × Int)} {ss : List Int} (hn : (kva.map Prod.fst).Nodup) (hm : ∀ d, (∃ b, (d, b) ∈ kva) ↔ ∃ p ∈ kv, p.1.day = d) (hp : ss.Perm (kva.map Prod.fst)) : ss.mergeSort (fun x y => decide (x ≤ y)) = daysOf kv := by
  unfold daysOf
  refine mergeSort_of_perm_i (hp.trans ((List.perm_ext_iff_of_nodup hn (nodup_dedupI _)).2 fun d => ?_))
  rw [List.mem_map, mem_dedupI, List.mem_map]
  constructor
  · rintro ⟨q, hq, rfl⟩
    obtain ⟨p, hp, he⟩ := (hm q.1).1 ⟨q.2, hq⟩
    exact ⟨p, hp, he⟩
  · rintro ⟨p, hp, he⟩
    obtain ⟨b, hb⟩ := (hm d).2 ⟨p, hp, he⟩
    exact ⟨_, hb, rfl⟩
theorem ledger_sorts (m : Nat) : AnyZI.SortsIn Try.prog Try.sortedA_ren Fence.wide m :=
  ⟨fun blk off cap ss W hH hblk hsz => callsIn_wide.2 (AnyM.slices_Sort_int Try.sortA blk off cap ss W hH hblk hsz), fun p cap W => callsIn_wide.2 (AnyM.slices_Sort_int_none Try.sortA p cap W)⟩
theorem it_ledger_page_days_c1 {wi : World} {Kp : World → Prop} (pa : Addr) (ra : Nat) (kv : List (GKey × Int)) (pp : Addr) (rp : Nat) {xs : List (Int × Int)} (hm : ledger_page_days_c1 kv = some xs)
    (hk : ∀ w, Kp w → (∀ j c, [Value.map (some ra)][j]? = some c → w.cell? (pa.add j) = some c) ∧ DaysOk w ra kv ∧ (∀ j c, [Value.map (some rp)][j]? = some c → w.cell? (pp.add j) = some c) ∧ MapOk w rp kv) :
    IterAt Try.prog 94 #[.pointer (some pa), .pointer (some pp)] (repP (α := Int) (β := Int)) (fun ys => ys = xs) Kp wi := by
  unfold ledger_page_days_c1 at hm
  split at hm
  case isFalse => cases hm
  rename_i hc
  obtain ⟨hlen, hin⟩ := hc
  intro l J Jx hcl h0
  refine calls_of_W Try.func94 rfl Try.ntmps94 (Nat.le_of_ble_eq_true rfl) ?_
  have H := InvI.start hcl h0
  have hK := hk _ (InvI.kp H)
  refine W.seq ?_
  refine W.region ?_
  refine O.load (q := pa) (v := .map (some ra)) sc94 rfl rfl rfl (hK.1 0 _ rfl) ?_
  refine O.call (φ := fun w' v => v = .func (.func 118) #[] #[.pointer (some ⟨wi.heap.size, 0, none⟩)] ∧ w' = wi.alloc (.cells #[.map (some ra)] 94)) Try.call96 rfl rfl rfl (((callsIn_wide (n := 5)).1 (AnyZI.keys_in Try.keysA Fence.wide 5 trivial rfl (some ra) wi)).mono (by
    rintro e w' ⟨rfl, rfl⟩
    exact ⟨_, rfl, below_alloc _ _, rfl, rfl⟩)) ?_
  rintro _ w1 hb1 ⟨rfl, rfl⟩
  have H := H.ext hb1
  have hK := hk _ (InvI.kp H)
  obtain ⟨kva, hma, hla, hda⟩ := hK.2.1
  have hina : ∀ p ∈ kva, inI p.1 = true := by
    intro p hp
    obtain ⟨q, hq, he⟩ := (hda p.1).1 ⟨p.2, hp⟩
    rw [← he]
    exact List.all_eq_true.1 hin q hq
  obtain ⟨D0, hown, hperm, hsize⟩ := ownsMap_int (k := 3) Try.underlying3 hma hina (by unfold maxLen; omega)
  have hseq : SeqGives Fence.wide 2 Try.prog 118 #[.pointer (some ⟨wi.heap.size, 0, none⟩)] encZ (fun ss => ss.Perm (intKeys D0)) (Maps.size D0) (wi.alloc (.cells #[.map (some ra)] 94)) :=
    AnyZI.keys_gives (ρ := Try.keysA_ren) { Try.keysA with } Fence.wide _ trivial rfl (by omega) wi.heap.size ra kva.length D0 _ (by simp) (by simp) hown
  have cS := AnyZI.sorted_in Try.sortedA Fence.wide 5 trivial trivial trivial trivial rfl (by omega) (ledger_sorts _)
    (enters_of Try.func79 (by kernel_rfl) rfl) 118 #[.pointer (some ⟨wi.heap.size, 0, none⟩)] trivial (enters_of Try.func118 (by kernel_rfl) rfl) _ _ (by rw [hsize]; unfold maxLen; omega) (by rw [hsize]; omega) _ hseq
  change CallsIn _ _ Try.prog 95 _ _ _ at cS
  refine O.call (φ := fun w' v => OwnR (α := Int) (wi.alloc (.cells #[.map (some ra)] 94)) w' v 3 (daysOf kv)) Try.call95 rfl rfl rfl (((callsIn_wide (n := 5)).1 cS).mono (by
    rintro e w' ⟨v, ss, rfl, hS, hrow, hnil, hb⟩
    refine ⟨_, rfl, hb, ?_⟩
    obtain ⟨_, _, _, _, hn, _⟩ := hma.open
    have hds := days_sorted hn hda (hS.trans hperm)
    rw [hds] at hrow
    have hl : (daysOf kv).length = ss.length := by rw [← hds]; exact List.length_mergeSort _
    have hfm : (daysOf kv).flatMap Flat.cells = (daysOf kv).map encZ := by
      generalize daysOf kv = l
      induction l with
      | nil => rfl
      | cons a l ih => rw [List.flatMap_cons, ih]; rfl
    unfold OwnR
    rw [hfm, hl]
    exact hrow)) ?_
  rintro v w2 hb2 ho
  have H := H.addOwn hb2 ho
  refine O.lenS Try.underlying39 (H.own 1 rfl) rfl rfl rfl ?_
  refine O.move (v := (.int .i64 0)) rfl rfl rfl ?_
  refine WL.nil ?_
  have hlen2 := (H.own (α := Int) 1 rfl).len_le
  refine W.block ?_
  refine W.loopL (l := daysOf kv) (fun rem f w => ∃ ik : Nat, (daysOf kv).drop ik = rem ∧ f 12 = .int .i64 (ik : Int) ∧ f 11 = .int .i64 ((daysOf kv).length : Int) ∧ f 10 = v ∧ f 0 = .func (.yield l) #[] #[] ∧ f 2 = .pointer (some pp) ∧
    ∃ pre todo C, offsOf kv rem = some todo ∧ pre ++ todo = xs ∧ InvI wi w [consI hcl pre C, ownI v 3 (daysOf kv)]) ?_ ?_ ?_
  · exact ⟨0, List.drop_zero, rfl, rfl, rfl, rfl, rfl, [], xs, _, hm, rfl, H⟩
  · rintro y ys f w ⟨ik, hd, hf12, hf11, hf10, hf0, hf2, pre, todo, C, htodo, hxs, H⟩
    have hlt := drop_lt hd; have hix := drop_idx hd
    obtain ⟨u1, rfl⟩ : ∃ u1, f = (upd (upd (upd (upd (upd u1 12 (.int .i64 (ik : Int))) 11 (.int .i64 ((daysOf kv).length : Int))) 10 v) 0 (.func (.yield l) #[] #[])) 2 (.pointer (some pp))) := ⟨f, by rw [upd_self hf12, upd_self hf11, upd_self hf10, upd_self hf0, upd_self hf2]⟩
    have hK := hk _ (InvI.kp H)
    have hinc := addI_lt hlt hlen2
    rw [offsOf] at htodo
    obtain ⟨⟨n1, ok1⟩, hoff, htodo⟩ := bind_some htodo
    obtain ⟨todo2, htodo2, htodo⟩ := bind_some htodo
    have htodo := Option.some.inj htodo
    refine W.seq ?_
    refine W.region ?_
    refine O.lss rfl rfl rfl rfl ?_
    refine WL.nil ?_
    refine W.seq ?_
    refine W.cond_true (congrArg Value.bool (decide_eq_true hlt)) ?_
    refine W.skip ?_
    refine W.seq ?_
    refine W.via (fun f w => f 12 = .int .i64 (ik : Int) ∧ f 11 = .int .i64 ((daysOf kv).length : Int) ∧ f 10 = v ∧ f 0 = .func (.yield l) #[] #[] ∧ f 2 = .pointer (some pp) ∧ ∃ pre2 C2, pre2 ++ todo2 = xs ∧ InvI wi w [consI hcl pre2 C2, ownI v 3 (daysOf kv)]) ?_ ?_
    · refine W.block ?_
      refine W.seq ?_
      refine W.region ?_
      refine O.indexAddr Try.underlying39 sz3 (H.own 1 rfl) hix rfl rfl rfl rfl ?_
      intro p1 hp1
      refine O.load sc3 rfl rfl rfl (hp1.flat 0 _ rfl) ?_
      refine O.assign (v := .int .i64 y) rfl rfl rfl ?_
      refine WL.nil ?_
      refine W.seq ?_
      refine W.region ?_
      refine O.load (q := pp) (v := .map (some rp)) sc57 rfl rfl rfl (hK.2.2.1 0 _ rfl) ?_
      refine O.move (v := .int .i64 y) rfl rfl rfl ?_
      refine O.call Try.call60 rfl rfl rfl (c_ledger_page_off _ kv (.inr ⟨rp, rfl, hK.2.2.2⟩) y hoff) ?_
      rintro _ w3 hb3 rfl
      have H := H.ext hb3
      refine O.move (v := .tuple #[.int .i64 n1, .bool ok1]) rfl rfl rfl ?_
      refine O.extract (v := .int .i64 n1) rfl rfl rfl rfl ?_
      refine O.extract (v := .bool ok1) rfl rfl rfl rfl ?_
      refine O.assign (v := .int .i64 n1) rfl rfl rfl ?_
      refine O.assign (v := .bool ok1) rfl rfl rfl ?_
      refine WL.nil ?_
      refine W.seq ?_
      refine W.region ?_
      refine O.move (v := .bool ok1) rfl rfl rfl ?_
      refine O.move (v := .bool ok1) rfl rfl rfl ?_
      cases ok1 with
      | false =>
        refine O.skip rfl rfl ?_
        refine O.skip rfl rfl ?_
        refine O.skip rfl rfl ?_
        refine O.skip rfl rfl ?_
        refine O.skip rfl rfl ?_
        refine O.pick_false (v := .bool false) rfl rfl rfl rfl ?_
        refine WL.nil ?_
        refine W.cond_false rfl ?_
        refine W.skip ?_
        exact ⟨rfl, rfl, rfl, rfl, rfl, pre, C, by rw [← hxs, ← htodo]; rfl, H⟩
      | true =>
        have htodo : (y, n1) :: todo2 = todo := htodo
        refine O.move (v := .func (.yield l) #[] #[]) rfl rfl rfl ?_
        refine O.move (v := .int .i64 y) rfl rfl rfl ?_
        refine O.move (v := .int .i64 n1) rfl rfl rfl ?_
        refine O.yield (y, n1) [.int .i64 y, .int .i64 n1] H ⟨todo2, by rw [htodo]; exact hxs⟩ rfl rfl rfl rfl rfl ?_ ?_
        · intro w4 C4 H
          refine O.not rfl rfl rfl ?_
          refine O.pick_true (v := .bool false) rfl rfl rfl rfl ?_
          refine WL.nil ?_
          refine W.cond_false rfl ?_
          refine W.skip ?_
          exact ⟨rfl, rfl, rfl, rfl, rfl, pre ++ [(y, n1)], C4, by rw [List.append_assoc, List.singleton_append, htodo]; exact hxs, H⟩
        · intro w4 C4 H
          refine O.not rfl rfl rfl ?_
          refine O.pick_true (v := .bool true) rfl rfl rfl rfl ?_
          refine WL.nil ?_
          refine W.cond_true rfl ?_
          refine W.ret ?_
          exact ends0 Try.results94 ⟨_, _, rfl, .inr (H.items _ (List.mem_cons_self ..)).1⟩
    · rintro f w ⟨hf12, hf11, hf10, hf0, hf2, pre2, C2, hxs2, H⟩
      obtain ⟨u1, rfl⟩ : ∃ u1, f = (upd (upd (upd (upd (upd u1 12 (.int .i64 (ik : Int))) 11 (.int .i64 ((daysOf kv).length : Int))) 10 v) 0 (.func (.yield l) #[] #[])) 2 (.pointer (some pp))) := ⟨f, by rw [upd_self hf12, upd_self hf11, upd_self hf10, upd_self hf0, upd_self hf2]⟩
      refine W.region ?_
      refine O.add rfl rfl rfl rfl hinc ?_
      refine O.move (v := .int .i64 ((ik : Int) + 1)) rfl rfl rfl ?_
      refine WL.nil ?_
      exact ⟨ik + 1, drop_next hd, rfl, rfl, rfl, rfl, rfl, pre2, todo2, C2, htodo2, hxs2, H⟩
  · rintro f w ⟨ik, hd, hf12, hf11, hf10, hf0, hf2, pre, todo, C, htodo, hxs, H⟩
    have hlt := drop_end hd
    obtain ⟨u1, rfl⟩ : ∃ u1, f = (upd (upd u1 12 (.int .i64 (ik : Int))) 11 (.int .i64 ((daysOf kv).length : Int))) := ⟨f, by rw [upd_self hf12, upd_self hf11]⟩
    refine W.seq ?_
    refine W.region ?_
    refine O.lss rfl rfl rfl rfl ?_
    refine WL.nil ?_
    refine W.seq ?_
    refine W.cond_false (congrArg Value.bool (decide_eq_false hlt)) ?_
    refine W.exit ?_
    refine xT rfl ?_
    refine ends0 Try.results94 ⟨_, C, rfl, .inl ⟨_, rfl, ?_⟩⟩
    rw [offsOf] at htodo
    have htodo := Option.some.inj htodo
    rw [← htodo, List.append_nil] at hxs
    rw [hxs] at H
    exact (H.items _ (List.mem_cons_self ..)).1

set_option maxRecDepth 20000 in
theorem c_ledger_those {w0 : World} (va0 : Value) (a0 : (List GEntry)) (ha0 : SliceR w0 va0 a0) (va1 : Value) (a1 : Int → Option (Bool)) (ha1 : ∀ (w : World), Below w0.heap.size w0 w → ∀ (x0 : Int) (y0 : Bool), a1 x0 = some y0 → CallsV Try.prog va1 #[(.int .i64 x0)] w (Ret w fun _ v => v = (.bool y0))) (ka1 : Value.oneCell' va1 = true) {r0 : (List Int)} (hm : ledger_those a0 a1 = some r0) :
    Calls Try.prog 76 #[va0, va1] w0 (Ret w0 fun w v => OwnR w0 w v 3 r0) := by
  unfold ledger_those at hm
  refine calls_of_WM Try.func76 rfl Try.ntmps76 (Nat.le_of_ble_eq_true rfl) ?_
  have H := Inv.startM (w0 := w0)
  have hmk : (fr0 #[va0, va1]).marks = [] := rfl
  refine W.seq ?_
  refine W.region ?_
  refine O.box [va1] H rfl rfl rfl (cells_one ka1) ?_
  intro b1 w1 H hb1
  have H := H.addNil (α := Int) (E := 3)
  refine O.assign (v := (.slice none 0 0)) rfl rfl rfl ?_
  refine WL.nil ?_
  refine W.seq ?_
  refine W.region ?_
  refine O.alloc [(.slice none 0 0)] ze39 H rfl rfl rfl ?_
  intro b2 w2 H hb2
  have H := H.addNil (α := Int) (E := 3)
  refine WL.nil ?_
  refine W.seq ?_
  refine W.seq ?_
  refine W.region ?_
  refine O.move (v := va0) rfl rfl rfl ?_
  obtain ⟨t1, hy1, hm⟩ := bind_some hm
  refine O.call Try.call67 rfl rfl rfl (c_ledger_pageOf _ _ (H.arg ha0) hy1) ?_
  rintro _ w3 hb3 ⟨m1, rfl, ho1a, ho1b⟩
  have H := H.addMap hb3 ho1a ho1b
  refine O.call Try.call83 rfl rfl rfl (c_ledger_page_days m1 t1 (H.mapOk 5 rfl)) ?_
  rintro _ w4 hb4 ⟨b3, b4, ra1, rfl, hM1⟩
  have H := H.addAll hb4 hM1
  refine WL.nil ?_
  obtain ⟨xs1, hxs1, hm⟩ := bind_some hm
  obtain ⟨s1, hm1, hm⟩ := bind_some hm
  refine W.via (fun f w => ∃ ms1 : List Nat, ∃ v4 : Value, f 5 = (.pointer (some ⟨b2, 0, none⟩)) ∧ f.marks = ms1 ∧ Inv w0 w [marksI ms1, boxI b2 39 [v4], ownI (α := Int) v4 3 s1]) ?_ ?_
  · skip
    refine W.block ?_
    have H := H.keep [0, 1, 3, 4, 5, 6, 7, 8] [marksI [], boxI b1 68 [va1], boxI b2 39 [(.slice none 0 0)], ownI (α := Int) (.slice none 0 0) 3 ([] : List Int), mapI (K := GKey) (V := Int) m1 t1, boxI b3 94 [(.map (some ra1))], boxI b4 57 [(.map (some m1))], daysI ra1 t1] rfl (by decide)
    refine W.rangeFuncL (α := (Int × Int)) (σ := (List Int)) (X := (List Int)) (xs := xs1) (rep := (repP (α := Int) (β := Int))) hm1 (fun s L => ∃ z2 : (List Int), ∃ v2 : Value, z2 = s ∧ L = [boxI b1 68 [va1], boxI b2 39 [v2], ownI (α := Int) v2 3 z2, mapI (K := GKey) (V := Int) m1 t1, boxI b3 94 [(.map (some ra1))], boxI b4 57 [(.map (some m1))], daysI ra1 t1]) (fun y j L => match j with | some j => j = 0 ∧ (False) | none => False) rfl Try.call94 rfl (fun _ _ _ h => by rw [h]; rfl) (fun Kp W hs hk => it_ledger_page_days_c1 _ ra1 t1 _ m1 hxs1 fun w1 hw => by obtain ⟨_, _, _, _, ⟨_, _, _, rfl⟩, H⟩ := hk w1 hw; exact ⟨H.cell 7 rfl, H.days 9 rfl, H.cell 8 rfl, H.mapOk 6 rfl⟩) H ⟨_, (.slice none 0 0), rfl, rfl⟩ ?_ ?_ ?_ ?_
    · skip
      rintro _ rs lp lp2 iz x1 _ st _ w _ ⟨z2, v2, rfl, rfl⟩ rfl hm2 H
      change W _ _ _ _ _ _ _ (upd (upd _ 11 (.int .i64 x1.1)) 12 (.int .i64 x1.2)) w
      refine W.seq ?_
      refine W.region ?_
      refine O.assign (v := (.int .i64 x1.1)) rfl rfl rfl ?_
      refine WL.nil ?_
      refine W.region ?_
      refine O.assign (v := (.int .i64 x1.2)) rfl rfl rfl ?_
      refine WL.nil ?_
      refine ⟨_, H, fun w hsl H => ?_⟩
      obtain ⟨s2, hm3, hm2⟩ := bind_some hm2
      refine W.via (fun f w => ∃ v5 : Value, f 3 = (.pointer (some ⟨b1, 0, none⟩)) ∧ f 5 = (.pointer (some ⟨b2, 0, none⟩)) ∧ f 10 = (.func (.func 94) #[] #[(.pointer (some ⟨b3, 0, none⟩)), (.pointer (some ⟨b4, 0, none⟩))]) ∧ Inv w0 w [rs, lp2, marksI [], boxI b1 68 [va1], boxI b2 39 [v5], ownI (α := Int) v5 3 s2, mapI (K := GKey) (V := Int) m1 t1, boxI b3 94 [(.map (some ra1))], boxI b4 57 [(.map (some m1))], daysI ra1 t1]) ?_ ?_
      · skip
        refine W.block ?_
        refine W.seq ?_
        refine W.region ?_
        refine O.load sc68 rfl rfl rfl (H.cell 3 rfl 0 _ rfl) ?_
        refine O.move (v := (.int .i64 x1.2)) rfl rfl rfl ?_
        obtain ⟨t2, hy2, hm3⟩ := bind_some hm3
        refine O.callV rfl rfl rfl rfl (ha1 _ H.base _ _ hy2) ?_
        rintro _ w5 hb5 rfl
        have H := H.ext hb5
        refine WL.nil ?_
        obtain ⟨s3, hm4, hm3⟩ := bind_some hm3
        refine W.via (fun f w => ∃ v6 : Value, f 3 = (.pointer (some ⟨b1, 0, none⟩)) ∧ f 5 = (.pointer (some ⟨b2, 0, none⟩)) ∧ f 10 = (.func (.func 94) #[] #[(.pointer (some ⟨b3, 0, none⟩)), (.pointer (some ⟨b4, 0, none⟩))]) ∧ Inv w0 w [rs, lp2, marksI [], boxI b1 68 [va1], boxI b2 39 [v6], ownI (α := Int) v6 3 s3, mapI (K := GKey) (V := Int) m1 t1, boxI b3 94 [(.map (some ra1))], boxI b4 57 [(.map (some m1))], daysI ra1 t1]) ?_ ?_
        · skip
          rcases ite_some hm4 with ⟨hc1, hm4⟩ | ⟨hc1, hm4⟩
          · refine W.cond_true (congrArg Value.bool hc1) ?_
            refine W.region ?_
            refine O.load sc39 rfl rfl rfl (H.cell 4 rfl 0 _ rfl) ?_
            refine O.move (v := (.int .i64 x1.1)) rfl rfl rfl ?_
            refine O.buildSlice (α := Int) [(.int .i64 x1.1)] [x1.1] Try.underlying39 el3 H rfl rfl rfl rfl rfl rfl rfl ?_
            intro v7 w6 H hb6
            obtain ⟨t3, ht3, hm4⟩ := bind_some hm4
            refine O.append 5 Try.underlying39 el3 rfl H rfl (H.own 10 rfl) ht3 rfl rfl rfl rfl ?_
            intro v8 w7 H
            refine O.store 4 0 [v8] [v8] sz39 H rfl rfl rfl rfl rfl (SliceR.cells1 (H.own 5 rfl)) ⟨⟨rfl, rfl⟩, rfl⟩ (one_cons (SliceR.one (H.own 5 rfl)) one_nil) ?_
            intro w8 H
            refine WL.nil ?_
            have H := H.keep [0, 1, 2, 3, 4, 5, 6, 7, 8, 9] [rs, lp2, marksI [], boxI b1 68 [va1], boxI b2 39 [v8], ownI (α := Int) v8 3 t3, mapI (K := GKey) (V := Int) m1 t1, boxI b3 94 [(.map (some ra1))], boxI b4 57 [(.map (some m1))], daysI ra1 t1] rfl (by decide)
            have hq : t3 = s3 := Option.some.inj (show some t3 = some s3 from hm4)
            subst hq
            exact ⟨v8, rfl, rfl, rfl, H⟩
          · refine W.cond_false (congrArg Value.bool hc1) ?_
            refine W.skip ?_
            have hq : z2 = s3 := Option.some.inj (show some z2 = some s3 from hm4)
            subst hq
            exact ⟨v2, rfl, rfl, rfl, H⟩
        · skip
          rintro f w ⟨v6, hf3, hf5, hf10, H⟩
          obtain ⟨u1, rfl⟩ : ∃ u1, f = (upd (upd (upd u1 3 (.pointer (some ⟨b1, 0, none⟩))) 5 (.pointer (some ⟨b2, 0, none⟩))) 10 (.func (.func 94) #[] #[(.pointer (some ⟨b3, 0, none⟩)), (.pointer (some ⟨b4, 0, none⟩))])) := ⟨f, by rw [upd_self hf3, upd_self hf5, upd_self hf10]⟩
          have hq : s3 = s2 := Option.some.inj (show some s3 = some s2 from hm3)
          subst hq
          exact ⟨v6, rfl, rfl, rfl, H⟩
      · skip
        rintro f w ⟨v5, hf3, hf5, hf10, H⟩
        obtain ⟨u2, rfl⟩ : ∃ u2, f = (upd (upd (upd u2 3 (.pointer (some ⟨b1, 0, none⟩))) 5 (.pointer (some ⟨b2, 0, none⟩))) 10 (.func (.func 94) #[] #[(.pointer (some ⟨b3, 0, none⟩)), (.pointer (some ⟨b4, 0, none⟩))])) := ⟨f, by rw [upd_self hf3, upd_self hf5, upd_self hf10]⟩
        obtain rfl := Option.some.inj hm2
        exact ⟨_, _, rfl, ⟨_, v5, rfl, rfl⟩, H⟩
    · skip
      rintro D1 _ _ w ⟨z2, v2, rfl, rfl⟩ hfin H
      have hq : z2 = s1 := hfin
      subst hq
      have H := H.keep [0, 2, 3] [marksI (D1 :: []), boxI b2 39 [v2], ownI (α := Int) v2 3 z2] rfl (by decide)
      have hmk := congrArg (D1 :: ·) hmk
      exact ⟨_, v2, rfl, hmk, H⟩
    · skip
      rintro _ _ _ _ ⟨_, h⟩; exact h.elim
    · skip
      rintro _ _ _ h; exact h.elim
  · skip
    rintro f w ⟨ms1, v4, hf5, hmk, H⟩
    obtain ⟨u3, rfl⟩ : ∃ u3, f = (upd u3 5 (.pointer (some ⟨b2, 0, none⟩))) := ⟨f, by rw [upd_self hf5]⟩
    refine W.seq ?_
    refine W.region ?_
    refine O.load sc39 rfl rfl rfl (H.cell 1 rfl 0 _ rfl) ?_
    refine O.assign (v := v4) rfl rfl rfl ?_
    refine WL.nil ?_
    refine W.ret ?_
    refine endsM_mk H hmk ?_
    intro w H _
    have hq : s1 = r0 := Option.some.inj (show some s1 = some r0 from hm)
    subst hq
    exact ends1 Try.results76 rfl ⟨_, rfl, H.base, H.ownR 2 rfl⟩

theorem c_ledger_Days_c1 {w0 : World} (a0 : Int) {r0 : Bool} (hm : ledger_Days_c1 a0 = some r0) :
    Calls Try.prog 77 #[(.int .i64 a0)] w0 (Ret w0 fun _ v => v = (.bool r0)) := by
  unfold ledger_Days_c1 at hm
  refine calls_of_W Try.func77 rfl Try.ntmps77 (Nat.le_of_ble_eq_true rfl) ?_
  have H := Inv.start (w := w0)
  refine W.seq ?_
  refine W.region ?_
  refine O.assign (v := (.bool false)) rfl rfl rfl ?_
  refine WL.nil ?_
  refine W.seq ?_
  refine W.region ?_
  refine O.assign (v := (.bool true)) rfl rfl rfl ?_
  refine WL.nil ?_
  refine W.ret ?_
  have hq : true = r0 := Option.some.inj (show some true = some r0 from hm)
  subst hq
  exact ends1 Try.results77 rfl ⟨_, rfl, H.base, rfl⟩

theorem c_ledger_Days {w0 : World} (va0 : Value) (a0 : (List GEntry)) (ha0 : SliceR w0 va0 a0) {r0 : (List Int)} {r1 : Int} (hm : ledger_Days a0 = some (r0, r1)) :
    Calls Try.prog 35 #[va0] w0 (Ret w0 fun w v => ∃ vr0 : Value, v = .tuple #[vr0, (.int .i64 r1)] ∧ OwnR w0 w vr0 3 r0) := by
  unfold ledger_Days at hm
  refine calls_of_W Try.func35 rfl Try.ntmps35 (Nat.le_of_ble_eq_true rfl) ?_
  have H := Inv.start (w := w0)
  refine W.seq ?_
  refine W.region ?_
  have H := H.addNil (α := Int) (E := 3)
  refine O.assign (v := (.slice none 0 0)) rfl rfl rfl ?_
  refine O.assign (v := (.int .i64 0)) rfl rfl rfl ?_
  refine WL.nil ?_
  refine W.seq ?_
  refine W.seq ?_
  refine W.region ?_
  refine O.move (v := va0) rfl rfl rfl ?_
  obtain ⟨t1, hy1, hm⟩ := bind_some hm
  refine O.call Try.call20 rfl rfl rfl (c_ledger_Valid _ _ (H.arg ha0) hy1) ?_
  rintro _ w1 hb1 rfl
  have H := H.ext hb1
  refine O.not rfl rfl rfl ?_
  refine WL.nil ?_
  rcases ite_some hm with ⟨hc1, hm⟩ | ⟨hc1, hm⟩
  · refine W.cond_true (congrArg Value.bool hc1) ?_
    refine W.seq ?_
    refine W.region ?_
    have H := H.addNil (α := Int) (E := 3)
    refine O.assign (v := (.slice none 0 0)) rfl rfl rfl ?_
    refine O.assign (v := (.int .i64 1)) rfl rfl rfl ?_
    refine WL.nil ?_
    refine W.ret ?_
    have hq : (([] : List Int), 1) = (r0, r1) := Option.some.inj (show some (([] : List Int), 1) = some (r0, r1) from hm)
    obtain ⟨he0, hq0⟩ := Prod.mk.inj hq; clear hq; subst he0
    subst hq0
    exact ends2 Try.results35 rfl rfl ⟨_, rfl, H.base, ⟨_, rfl, H.ownR 1 rfl⟩⟩
  · refine W.cond_false (congrArg Value.bool hc1) ?_
    refine W.skip ?_
    refine W.seq ?_
    refine W.region ?_
    refine O.move (v := va0) rfl rfl rfl ?_
    obtain ⟨t2, hy2, hm⟩ := bind_some hm
    refine O.call Try.call76 rfl rfl rfl (c_ledger_those _ _ (H.arg ha0) _ (fun x0 => ledger_Days_c1 x0) (fun w hw x0 _ hy => callsV_mk Try.call77 (c_ledger_Days_c1 x0 hy)) rfl hy2) ?_
    rintro v1 w2 hb2 ho1
    have H := H.addOwn hb2 ho1
    refine O.assign (v := v1) rfl rfl rfl ?_
    refine O.assign (v := (.int .i64 0)) rfl rfl rfl ?_
    refine WL.nil ?_
    refine W.ret ?_
    have hq : (t2, 0) = (r0, r1) := Option.some.inj (show some (t2, 0) = some (r0, r1) from hm)
    obtain ⟨he0, hq0⟩ := Prod.mk.inj hq; clear hq; subst he0
    subst hq0
    exact ends2 Try.results35 rfl rfl ⟨_, rfl, H.base, ⟨_, rfl, H.ownR 1 rfl⟩⟩

set_option maxRecDepth 20000 in
theorem c_noongunref09_all {w0 : World} (va0 : Value) (a0 : (List GEntry)) (ha0 : SliceR w0 va0 a0) {r0 : (List Int)} (hm : noongunref09_all a0 = some r0) :
    Calls Try.prog 75 #[va0] w0 (Ret w0 fun w v => OwnR w0 w v 3 r0) := by
  unfold noongunref09_all at hm
  refine calls_of_W Try.func75 rfl Try.ntmps75 (Nat.le_of_ble_eq_true rfl) ?_
  have H := Inv.start (w := w0)
  refine W.seq ?_
  refine W.region ?_
  have H := H.addNil (α := Int) (E := 3)
  refine O.assign (v := (.slice none 0 0)) rfl rfl rfl ?_
  refine WL.nil ?_
  refine W.seq ?_
  refine W.region ?_
  have H := H.addNil (α := Int) (E := 3)
  refine O.assign (v := (.slice none 0 0)) rfl rfl rfl ?_
  refine WL.nil ?_
  refine W.seq ?_
  refine W.region ?_
  refine O.assign (v := (.int .i64 (-1))) rfl rfl rfl ?_
  refine WL.nil ?_
  obtain ⟨o1, hm1, hm⟩ := bind_some hm
  refine W.via (fun f w => False) ?_ ?_
  · skip
    refine W.block ?_
    have H := H.keep [1] [ownI (α := Int) (.slice none 0 0) 3 ([] : List Int)] rfl (by decide)
    refine W.loopR hm1 (fun s f w => ∃ z3 : Int, ∃ z4 : (List Int), ∃ v2 : Value, (z3, z4) = s ∧ f 0 = va0 ∧ f 3 = v2 ∧ f 4 = (.int .i64 z3) ∧ Inv w0 w [ownI (α := Int) v2 3 z4]) ?_ ?_
    · skip
      exact ⟨_, _, (.slice none 0 0), rfl, rfl, rfl, rfl, H⟩
    · skip
      rintro _ st f w ⟨z3, z4, v2, rfl, hf0, hf3, hf4, H⟩ hm2
      obtain ⟨u1, rfl⟩ : ∃ u1, f = (upd (upd (upd u1 0 va0) 3 v2) 4 (.int .i64 z3)) := ⟨f, by rw [upd_self hf0, upd_self hf3, upd_self hf4]⟩
      obtain ⟨o2, hm3, hm2⟩ := bind_some hm2
      refine W.via (fun f w => ∃ s1 : Int, ∃ s2 : (List Int), ∃ v4 : Value, o2 = .next (s1, s2) ∧ f 0 = va0 ∧ f 3 = v4 ∧ f 4 = (.int .i64 s1) ∧ Inv w0 w [ownI (α := Int) v4 3 s2]) ?_ ?_
      · skip
        refine W.block ?_
        refine W.seq ?_
        refine W.region ?_
        refine O.assign (v := (.int .i64 (-1))) rfl rfl rfl ?_
        refine WL.nil ?_
        refine W.seq ?_
        refine W.seq ?_
        refine W.region ?_
        refine O.move (v := va0) rfl rfl rfl ?_
        refine O.lenS Try.underlying22 (H.arg ha0) rfl rfl rfl ?_
        refine O.move (v := (.int .i64 0)) rfl rfl rfl ?_
        refine WL.nil ?_
        obtain ⟨s3, hm4, hm3⟩ := bind_some hm3
        refine W.via (fun f w => f 0 = va0 ∧ f 3 = v2 ∧ f 5 = (.int .i64 s3) ∧ Inv w0 w [ownI (α := Int) v2 3 z4]) ?_ ?_
        · skip
          refine W.block ?_
          refine W.rangeL (i := 0) hm4 (fun rem ik1 s f w => ∃ z8 : Int, z8 = s ∧ a0.drop ik1 = rem ∧ f 10 = .int .i64 (ik1 : Int) ∧ f 9 = (.int .i64 ((a0.length : Nat) : Int)) ∧ f 0 = va0 ∧ f 3 = v2 ∧ f 4 = (.int .i64 z3) ∧ f 5 = (.int .i64 z8) ∧ f 8 = va0 ∧ Inv w0 w [ownI (α := Int) v2 3 z4]) ?_ ?_ ?_
          · skip
            exact ⟨_, rfl, List.drop_zero, rfl, rfl, rfl, rfl, rfl, rfl, rfl, H⟩
          · skip
            rintro yk1 xs ik1 _ st f w ⟨z8, rfl, hdropk1, hf10, hf9, hf0, hf3, hf4, hf5, hf8, H⟩ hm5
            have hltk1 := drop_lt hdropk1; have hixk1 := drop_idx hdropk1
            obtain ⟨u2, rfl⟩ : ∃ u2, f = (upd (upd (upd (upd (upd (upd (upd u2 10 (.int .i64 (ik1 : Int))) 9 (.int .i64 ((a0.length : Nat) : Int))) 0 va0) 3 v2) 4 (.int .i64 z3)) 5 (.int .i64 z8)) 8 va0) := ⟨f, by rw [upd_self hf10, upd_self hf9, upd_self hf0, upd_self hf3, upd_self hf4, upd_self hf5, upd_self hf8]⟩
            have hinck1 := addI_lt hltk1 (H.arg ha0).len_le
            refine W.seq ?_
            refine W.region ?_
            refine O.lss rfl rfl rfl rfl ?_
            refine WL.nil ?_
            refine W.seq ?_
            refine W.cond_true (congrArg Value.bool (decide_eq_true hltk1)) ?_
            refine W.skip ?_
            refine W.seq ?_
            obtain ⟨s4, hm6, hm5⟩ := bind_some hm5
            refine W.via (fun f w => f 0 = va0 ∧ f 3 = v2 ∧ f 4 = (.int .i64 z3) ∧ f 5 = (.int .i64 s4) ∧ f 8 = va0 ∧ f 9 = (.int .i64 ((a0.length : Nat) : Int)) ∧ f 10 = (.int .i64 (ik1 : Int)) ∧ Inv w0 w [ownI (α := Int) v2 3 z4]) ?_ ?_
            · skip
              refine W.block ?_
              refine W.seq ?_
              refine W.region ?_
              obtain ⟨p1, hp1, hrp1⟩ := fix_indexAddr Try.underlying22 sz32 ha0 hixk1
              refine hrp1 rfl rfl rfl rfl ?_
              refine O.loadA [(.int .i64 yk1.Day), (.bool yk1.Found), (.int .i64 yk1.Error)] ag32 rfl rfl rfl rfl ((hp1.mono H.base).flat) ?_
              refine O.alloc [(.int .i64 0), (.bool false), (.int .i64 0)] ze32 H rfl rfl rfl ?_
              intro b1 w1 H hb1
              refine O.store 1 0 [(.int .i64 yk1.Day), (.bool yk1.Found), (.int .i64 yk1.Error)] [(.int .i64 yk1.Day), (.bool yk1.Found), (.int .i64 yk1.Error)] sz32 H rfl rfl rfl rfl rfl rfl ⟨⟨rfl, rfl⟩, rfl⟩ (one_cons rfl (one_cons rfl (one_cons rfl one_nil))) ?_
              intro w2 H
              refine WL.nil ?_
              refine W.seq ?_
              refine W.region ?_
              refine O.fieldAddr fd32_0 rfl rfl rfl ?_
              refine O.load sc3 rfl rfl rfl (H.cell 1 rfl 0 _ rfl) ?_
              refine O.move (v := (.int .i64 z3)) rfl rfl rfl ?_
              refine O.gtr rfl rfl rfl rfl ?_
              refine O.move (v := (.bool (decide (z3 < yk1.Day)))) rfl rfl rfl ?_
              refine WL.cut 9 (fun f w => f 0 = va0 ∧ f 3 = v2 ∧ f 4 = (.int .i64 z3) ∧ f 5 = (.int .i64 z8) ∧ f 7 = (.pointer (some ⟨b1, 0, none⟩)) ∧ f 8 = va0 ∧ f 9 = (.int .i64 ((a0.length : Nat) : Int)) ∧ f 10 = (.int .i64 (ik1 : Int)) ∧ f 27 = .bool ((decide (z3 < yk1.Day)) && ((decide (z8 < 0)) || (decide (yk1.Day < z8)))) ∧ Inv w0 w [ownI (α := Int) v2 3 z4, boxI b1 32 [(.int .i64 yk1.Day), (.bool yk1.Found), (.int .i64 yk1.Error)]]) ?_ ?_
              · skip
                rcases bool_ft (decide (z3 < yk1.Day)) with hc1 | hc1
                · skip
                  refine WL.reset (i := 18) (v := .bool false) (congrArg Value.bool hc1) ?_
                  refine O.skip rfl rfl ?_
                  refine O.skip rfl rfl ?_
                  refine O.skip rfl rfl ?_
                  refine O.skip rfl rfl ?_
                  refine O.skip rfl rfl ?_
                  refine O.skip rfl rfl ?_
                  refine O.skip rfl rfl ?_
                  refine O.skip rfl rfl ?_
                  refine O.pick_false (v := (.bool false)) rfl rfl rfl rfl ?_
                  refine WL.nil ?_
                  exact ⟨rfl, rfl, rfl, rfl, rfl, rfl, rfl, rfl, congrArg Value.bool (and_f hc1), H⟩
                · skip
                  refine WL.reset (i := 18) (v := .bool true) (congrArg Value.bool hc1) ?_
                  refine O.move (v := (.int .i64 z8)) rfl rfl rfl ?_
                  refine O.lss rfl rfl rfl rfl ?_
                  refine O.move (v := (.bool (decide (z8 < 0)))) rfl rfl rfl ?_
                  refine WL.cut 5 (fun f w => f 0 = va0 ∧ f 3 = v2 ∧ f 4 = (.int .i64 z3) ∧ f 5 = (.int .i64 z8) ∧ f 7 = (.pointer (some ⟨b1, 0, none⟩)) ∧ f 8 = va0 ∧ f 9 = (.int .i64 ((a0.length : Nat) : Int)) ∧ f 10 = (.int .i64 (ik1 : Int)) ∧ f 18 = (.bool true) ∧ f 19 = (.int .i64 z8) ∧ f 20 = (.bool (decide (z8 < 0))) ∧ f 21 = (.bool (decide (z8 < 0))) ∧ f 26 = .bool ((decide (z8 < 0)) || (decide (yk1.Day < z8))) ∧ Inv w0 w [ownI (α := Int) v2 3 z4, boxI b1 32 [(.int .i64 yk1.Day), (.bool yk1.Found), (.int .i64 yk1.Error)]]) ?_ ?_
                  · skip
                    rcases bool_ft (decide (z8 < 0)) with hc2 | hc2
                    · skip
                      refine WL.reset (i := 21) (v := .bool false) (congrArg Value.bool hc2) ?_
                      refine O.fieldAddr fd32_0 rfl rfl rfl ?_
                      refine O.load sc3 rfl rfl rfl (H.cell 1 rfl 0 _ rfl) ?_
                      refine O.move (v := (.int .i64 z8)) rfl rfl rfl ?_
                      refine O.lss rfl rfl rfl rfl ?_
                      refine O.pick_false (v := (.bool (decide (yk1.Day < z8)))) rfl rfl rfl rfl ?_
                      refine WL.nil ?_
                      exact ⟨rfl, rfl, rfl, rfl, rfl, rfl, rfl, rfl, rfl, rfl, rfl, (congrArg Value.bool hc2).symm, congrArg Value.bool (or_f hc2), H⟩
                    · skip
                      refine WL.reset (i := 21) (v := .bool true) (congrArg Value.bool hc2) ?_
                      refine O.skip rfl rfl ?_
                      refine O.skip rfl rfl ?_
                      refine O.skip rfl rfl ?_
                      refine O.skip rfl rfl ?_
                      refine O.pick_true (v := (.bool true)) rfl rfl rfl rfl ?_
                      refine WL.nil ?_
                      exact ⟨rfl, rfl, rfl, rfl, rfl, rfl, rfl, rfl, rfl, rfl, rfl, (congrArg Value.bool hc2).symm, congrArg Value.bool (or_t hc2), H⟩
                  · skip
                    rintro f w ⟨hf0, hf3, hf4, hf5, hf7, hf8, hf9, hf10, hf18, hf19, hf20, hf21, hf26, H⟩
                    obtain ⟨u3, rfl⟩ : ∃ u3, f = (upd (upd (upd (upd (upd (upd (upd (upd (upd (upd (upd (upd (upd u3 0 va0) 3 v2) 4 (.int .i64 z3)) 5 (.int .i64 z8)) 7 (.pointer (some ⟨b1, 0, none⟩))) 8 va0) 9 (.int .i64 ((a0.length : Nat) : Int))) 10 (.int .i64 (ik1 : Int))) 18 (.bool true)) 19 (.int .i64 z8)) 20 (.bool (decide (z8 < 0)))) 21 (.bool (decide (z8 < 0)))) 26 (.bool ((decide (z8 < 0)) || (decide (yk1.Day < z8))))) := ⟨f, by rw [upd_self hf0, upd_self hf3, upd_self hf4, upd_self hf5, upd_self hf7, upd_self hf8, upd_self hf9, upd_self hf10, upd_self hf18, upd_self hf19, upd_self hf20, upd_self hf21, upd_self hf26]⟩
                    refine O.pick_true (v := (.bool ((decide (z8 < 0)) || (decide (yk1.Day < z8))))) rfl rfl rfl rfl ?_
                    refine WL.nil ?_
                    exact ⟨rfl, rfl, rfl, rfl, rfl, rfl, rfl, rfl, congrArg Value.bool (and_t hc1), H⟩
              · skip
                rintro f w ⟨hf0, hf3, hf4, hf5, hf7, hf8, hf9, hf10, hf27, H⟩
                obtain ⟨u4, rfl⟩ : ∃ u4, f = (upd (upd (upd (upd (upd (upd (upd (upd (upd u4 0 va0) 3 v2) 4 (.int .i64 z3)) 5 (.int .i64 z8)) 7 (.pointer (some ⟨b1, 0, none⟩))) 8 va0) 9 (.int .i64 ((a0.length : Nat) : Int))) 10 (.int .i64 (ik1 : Int))) 27 (.bool ((decide (z3 < yk1.Day)) && ((decide (z8 < 0)) || (decide (yk1.Day < z8)))))) := ⟨f, by rw [upd_self hf0, upd_self hf3, upd_self hf4, upd_self hf5, upd_self hf7, upd_self hf8, upd_self hf9, upd_self hf10, upd_self hf27]⟩
                refine WL.nil ?_
                obtain ⟨s5, hm7, hm6⟩ := bind_some hm6
                refine W.via (fun f w => f 0 = va0 ∧ f 3 = v2 ∧ f 4 = (.int .i64 z3) ∧ f 5 = (.int .i64 s5) ∧ f 8 = va0 ∧ f 9 = (.int .i64 ((a0.length : Nat) : Int)) ∧ f 10 = (.int .i64 (ik1 : Int)) ∧ Inv w0 w [ownI (α := Int) v2 3 z4]) ?_ ?_
                · skip
                  rcases ite_some hm7 with ⟨hc3, hm7⟩ | ⟨hc3, hm7⟩
                  · refine W.cond_true (congrArg Value.bool hc3) ?_
                    refine W.region ?_
                    refine O.fieldAddr fd32_0 rfl rfl rfl ?_
                    refine O.load sc3 rfl rfl rfl (H.cell 1 rfl 0 _ rfl) ?_
                    refine O.assign (v := (.int .i64 yk1.Day)) rfl rfl rfl ?_
                    refine WL.nil ?_
                    have H := H.keep [0] [ownI (α := Int) v2 3 z4] rfl (by decide)
                    have hq : yk1.Day = s5 := Option.some.inj (show some yk1.Day = some s5 from hm7)
                    subst hq
                    exact ⟨rfl, rfl, rfl, rfl, rfl, rfl, rfl, H⟩
                  · refine W.cond_false (congrArg Value.bool hc3) ?_
                    refine W.skip ?_
                    have H := H.keep [0] [ownI (α := Int) v2 3 z4] rfl (by decide)
                    have hq : z8 = s5 := Option.some.inj (show some z8 = some s5 from hm7)
                    subst hq
                    exact ⟨rfl, rfl, rfl, rfl, rfl, rfl, rfl, H⟩
                · skip
                  rintro f w ⟨hf0, hf3, hf4, hf5, hf8, hf9, hf10, H⟩
                  obtain ⟨u5, rfl⟩ : ∃ u5, f = (upd (upd (upd (upd (upd (upd (upd u5 0 va0) 3 v2) 4 (.int .i64 z3)) 5 (.int .i64 s5)) 8 va0) 9 (.int .i64 ((a0.length : Nat) : Int))) 10 (.int .i64 (ik1 : Int))) := ⟨f, by rw [upd_self hf0, upd_self hf3, upd_self hf4, upd_self hf5, upd_self hf8, upd_self hf9, upd_self hf10]⟩
                  have hq : s5 = s4 := Option.some.inj (show some s5 = some s4 from hm6)
                  subst hq
                  exact ⟨rfl, rfl, rfl, rfl, rfl, rfl, rfl, H⟩
            · skip
              rintro f w ⟨hf0, hf3, hf4, hf5, hf8, hf9, hf10, H⟩
              obtain ⟨u6, rfl⟩ : ∃ u6, f = (upd (upd (upd (upd (upd (upd (upd u6 0 va0) 3 v2) 4 (.int .i64 z3)) 5 (.int .i64 s4)) 8 va0) 9 (.int .i64 ((a0.length : Nat) : Int))) 10 (.int .i64 (ik1 : Int))) := ⟨f, by rw [upd_self hf0, upd_self hf3, upd_self hf4, upd_self hf5, upd_self hf8, upd_self hf9, upd_self hf10]⟩
              refine W.region ?_
              refine O.add rfl rfl rfl rfl hinck1 ?_
              refine O.move (v := .int .i64 ((ik1 : Int) + 1)) rfl rfl rfl ?_
              refine WL.nil ?_
              obtain rfl := Option.some.inj hm5
              exact ⟨_, rfl, _, rfl, drop_next hdropk1, rfl, rfl, rfl, rfl, rfl, rfl, rfl, H⟩
          · skip
            rintro ik1 _ f w ⟨z8, rfl, hdropk1, hf10, hf9, hf0, hf3, hf4, hf5, hf8, H⟩ hfin
            have hltk1 := drop_end hdropk1
            obtain ⟨u7, rfl⟩ : ∃ u7, f = (upd (upd (upd (upd (upd (upd (upd u7 10 (.int .i64 (ik1 : Int))) 9 (.int .i64 ((a0.length : Nat) : Int))) 0 va0) 3 v2) 4 (.int .i64 z3)) 5 (.int .i64 z8)) 8 va0) := ⟨f, by rw [upd_self hf10, upd_self hf9, upd_self hf0, upd_self hf3, upd_self hf4, upd_self hf5, upd_self hf8]⟩
            refine W.seq ?_
            refine W.region ?_
            refine O.lss rfl rfl rfl rfl ?_
            refine WL.nil ?_
            refine W.seq ?_
            refine W.cond_false (congrArg Value.bool (decide_eq_false hltk1)) ?_
            refine W.exit ?_
            have hq : z8 = s3 := hfin
            subst hq
            refine xT rfl ?_
            exact ⟨rfl, rfl, rfl, H⟩
        · skip
          rintro f w ⟨hf0, hf3, hf5, H⟩
          obtain ⟨u8, rfl⟩ : ∃ u8, f = (upd (upd (upd u8 0 va0) 3 v2) 5 (.int .i64 s3)) := ⟨f, by rw [upd_self hf0, upd_self hf3, upd_self hf5]⟩
          refine W.seq ?_
          refine W.seq ?_
          refine W.region ?_
          refine O.move (v := (.int .i64 s3)) rfl rfl rfl ?_
          refine O.lss rfl rfl rfl rfl ?_
          refine WL.nil ?_
          rcases ite_some hm3 with ⟨hc4, hm3⟩ | ⟨hc4, hm3⟩
          · refine W.cond_true (congrArg Value.bool hc4) ?_
            refine W.seq ?_
            refine W.region ?_
            refine O.move (v := v2) rfl rfl rfl ?_
            refine O.assign (v := v2) rfl rfl rfl ?_
            refine WL.nil ?_
            refine W.ret ?_
            obtain rfl := Option.some.inj hm3
            obtain rfl := Option.some.inj hm2
            refine ⟨_, rfl, ?_⟩
            rintro rfl
            have hq : z4 = r0 := Option.some.inj (show some z4 = some r0 from hm)
            subst hq
            exact ends1 Try.results75 rfl ⟨_, rfl, H.base, H.ownR 0 rfl⟩
          · refine W.cond_false (congrArg Value.bool hc4) ?_
            refine W.skip ?_
            refine W.seq ?_
            refine W.region ?_
            refine O.move (v := v2) rfl rfl rfl ?_
            refine O.move (v := (.int .i64 s3)) rfl rfl rfl ?_
            refine O.buildSlice (α := Int) [(.int .i64 s3)] [s3] Try.underlying39 el3 H rfl rfl rfl rfl rfl rfl rfl ?_
            intro v5 w3 H hb2
            obtain ⟨t1, ht1, hm3⟩ := bind_some hm3
            refine O.append 0 Try.underlying39 el3 rfl H rfl (H.own 1 rfl) ht1 rfl rfl rfl rfl ?_
            intro v6 w4 H
            refine O.assign (v := v6) rfl rfl rfl ?_
            refine WL.nil ?_
            refine W.region ?_
            refine O.move (v := (.int .i64 s3)) rfl rfl rfl ?_
            refine O.assign (v := (.int .i64 s3)) rfl rfl rfl ?_
            refine WL.nil ?_
            have H := H.keep [0] [ownI (α := Int) v6 3 t1] rfl (by decide)
            obtain rfl := Option.some.inj hm3
            exact ⟨_, _, v6, rfl, rfl, rfl, rfl, H⟩
      · skip
        rintro f w ⟨s1, s2, v4, rfl, hf0, hf3, hf4, H⟩
        obtain ⟨u9, rfl⟩ : ∃ u9, f = (upd (upd (upd u9 0 va0) 3 v4) 4 (.int .i64 s1)) := ⟨f, by rw [upd_self hf0, upd_self hf3, upd_self hf4]⟩
        obtain rfl := Option.some.inj hm2
        exact ⟨_, rfl, _, _, v4, rfl, rfl, rfl, rfl, H⟩
  · skip
    exact fun f w h => h.elim

set_option maxRecDepth 20000 in
theorem c_noongunref09_days {w0 : World} (va0 : Value) (a0 : (List GEntry)) (ha0 : SliceR w0 va0 a0) {r0 : (List Int)} (hm : noongunref09_days a0 = some r0) :
    Calls Try.prog 78 #[va0] w0 (Ret w0 fun w v => OwnR w0 w v 3 r0) := by
  unfold noongunref09_days at hm
  refine calls_of_W Try.func78 rfl Try.ntmps78 (Nat.le_of_ble_eq_true rfl) ?_
  have H := Inv.start (w := w0)
  refine W.seq ?_
  refine W.region ?_
  have H := H.addNil (α := Int) (E := 3)
  refine O.assign (v := (.slice none 0 0)) rfl rfl rfl ?_
  refine WL.nil ?_
  refine W.seq ?_
  refine W.region ?_
  have H := H.addNil (α := Int) (E := 3)
  refine O.assign (v := (.slice none 0 0)) rfl rfl rfl ?_
  refine WL.nil ?_
  refine W.seq ?_
  refine W.seq ?_
  refine W.region ?_
  refine O.move (v := va0) rfl rfl rfl ?_
  obtain ⟨t1, hy1, hm⟩ := bind_some hm
  refine O.call Try.call75 rfl rfl rfl (c_noongunref09_all _ _ (H.arg ha0) hy1) ?_
  rintro v1 w1 hb1 ho1
  have H := H.addOwn hb1 ho1
  refine O.lenS Try.underlying39 (H.own 2 rfl) rfl rfl rfl ?_
  refine O.move (v := (.int .i64 0)) rfl rfl rfl ?_
  refine WL.nil ?_
  obtain ⟨s1, hm1, hm⟩ := bind_some hm
  refine W.via (fun f w => ∃ v5 : Value, f 3 = v5 ∧ Inv w0 w [ownI (α := Int) v5 3 s1]) ?_ ?_
  · skip
    refine W.block ?_
    have H := H.keep [1, 2] [ownI (α := Int) (.slice none 0 0) 3 ([] : List Int), ownI (α := Int) v1 3 t1] rfl (by decide)
    refine W.rangeL (i := 0) hm1 (fun rem ik1 s f w => ∃ z2 : (List Int), ∃ v3 : Value, z2 = s ∧ t1.drop ik1 = rem ∧ f 11 = .int .i64 (ik1 : Int) ∧ f 10 = (.int .i64 ((t1.length : Nat) : Int)) ∧ f 0 = va0 ∧ f 3 = v3 ∧ f 9 = v1 ∧ Inv w0 w [ownI (α := Int) v3 3 z2, ownI (α := Int) v1 3 t1]) ?_ ?_ ?_
    · skip
      exact ⟨_, (.slice none 0 0), rfl, List.drop_zero, rfl, rfl, rfl, rfl, rfl, H⟩
    · skip
      rintro yk1 xs ik1 _ st f w ⟨z2, v3, rfl, hdropk1, hf11, hf10, hf0, hf3, hf9, H⟩ hm2
      have hltk1 := drop_lt hdropk1; have hixk1 := drop_idx hdropk1
      obtain ⟨u1, rfl⟩ : ∃ u1, f = (upd (upd (upd (upd (upd u1 11 (.int .i64 (ik1 : Int))) 10 (.int .i64 ((t1.length : Nat) : Int))) 0 va0) 3 v3) 9 v1) := ⟨f, by rw [upd_self hf11, upd_self hf10, upd_self hf0, upd_self hf3, upd_self hf9]⟩
      have hinck1 := addI_lt hltk1 (H.own 1 rfl).len_le
      refine W.seq ?_
      refine W.region ?_
      refine O.lss rfl rfl rfl rfl ?_
      refine WL.nil ?_
      refine W.seq ?_
      refine W.cond_true (congrArg Value.bool (decide_eq_true hltk1)) ?_
      refine W.skip ?_
      refine W.seq ?_
      obtain ⟨s2, hm3, hm2⟩ := bind_some hm2
      refine W.via (fun f w => ∃ v6 : Value, f 0 = va0 ∧ f 3 = v6 ∧ f 9 = v1 ∧ f 10 = (.int .i64 ((t1.length : Nat) : Int)) ∧ f 11 = (.int .i64 (ik1 : Int)) ∧ Inv w0 w [ownI (α := Int) v6 3 s2, ownI (α := Int) v1 3 t1]) ?_ ?_
      · skip
        refine W.block ?_
        refine W.seq ?_
        refine W.region ?_
        refine O.indexAddr Try.underlying39 sz3 (H.own 1 rfl) hixk1 rfl rfl rfl rfl ?_
        intro p1 hp1
        refine O.load sc3 rfl rfl rfl (hp1.flat 0 _ rfl) ?_
        refine O.assign (v := (.int .i64 yk1)) rfl rfl rfl ?_
        refine WL.nil ?_
        refine W.seq ?_
        refine W.region ?_
        refine O.move (v := va0) rfl rfl rfl ?_
        refine O.move (v := (.int .i64 yk1)) rfl rfl rfl ?_
        obtain ⟨⟨t2, t3⟩, hy2, hm3⟩ := bind_some hm3
        refine O.call Try.call61 rfl rfl rfl (c_noongunref09_off _ _ (H.arg ha0) _ hy2) ?_
        rintro _ w2 hb2 rfl
        have hp1 := hp1.mono hb2
        have H := H.ext hb2
        refine O.move (v := (.tuple #[(.int .i64 t2), (.bool t3)])) rfl rfl rfl ?_
        refine O.extract (v := (.int .i64 t2)) rfl rfl rfl rfl ?_
        refine O.extract (v := (.bool t3)) rfl rfl rfl rfl ?_
        refine O.assign (v := (.int .i64 t2)) rfl rfl rfl ?_
        refine O.assign (v := (.bool t3)) rfl rfl rfl ?_
        refine WL.nil ?_
        refine W.seq ?_
        refine W.region ?_
        refine O.move (v := (.bool t3)) rfl rfl rfl ?_
        refine WL.nil ?_
        obtain ⟨s3, hm4, hm3⟩ := bind_some hm3
        refine W.via (fun f w => ∃ v7 : Value, f 0 = va0 ∧ f 3 = v7 ∧ f 9 = v1 ∧ f 10 = (.int .i64 ((t1.length : Nat) : Int)) ∧ f 11 = (.int .i64 (ik1 : Int)) ∧ Inv w0 w [ownI (α := Int) v7 3 s3, ownI (α := Int) v1 3 t1]) ?_ ?_
        · skip
          rcases ite_some hm4 with ⟨hc1, hm4⟩ | ⟨hc1, hm4⟩
          · refine W.cond_true (congrArg Value.bool hc1) ?_
            refine W.region ?_
            refine O.move (v := v3) rfl rfl rfl ?_
            refine O.move (v := (.int .i64 yk1)) rfl rfl rfl ?_
            refine O.buildSlice (α := Int) [(.int .i64 yk1)] [yk1] Try.underlying39 el3 H rfl rfl rfl rfl rfl rfl rfl ?_
            intro v8 w3 H hb3
            have hp1 := hp1.mono hb3
            obtain ⟨t4, ht4, hm4⟩ := bind_some hm4
            refine O.append 0 Try.underlying39 el3 rfl H rfl (H.own 2 rfl) ht4 rfl rfl rfl rfl ?_
            intro v9 w4 H
            clear hp1
            refine O.assign (v := v9) rfl rfl rfl ?_
            refine WL.nil ?_
            have H := H.keep [0, 1] [ownI (α := Int) v9 3 t4, ownI (α := Int) v1 3 t1] rfl (by decide)
            have hq : t4 = s3 := Option.some.inj (show some t4 = some s3 from hm4)
            subst hq
            exact ⟨v9, rfl, rfl, rfl, rfl, rfl, H⟩
          · refine W.cond_false (congrArg Value.bool hc1) ?_
            refine W.skip ?_
            have hq : z2 = s3 := Option.some.inj (show some z2 = some s3 from hm4)
            subst hq
            exact ⟨v3, rfl, rfl, rfl, rfl, rfl, H⟩
        · skip
          rintro f w ⟨v7, hf0, hf3, hf9, hf10, hf11, H⟩
          obtain ⟨u2, rfl⟩ : ∃ u2, f = (upd (upd (upd (upd (upd u2 0 va0) 3 v7) 9 v1) 10 (.int .i64 ((t1.length : Nat) : Int))) 11 (.int .i64 (ik1 : Int))) := ⟨f, by rw [upd_self hf0, upd_self hf3, upd_self hf9, upd_self hf10, upd_self hf11]⟩
          have hq : s3 = s2 := Option.some.inj (show some s3 = some s2 from hm3)
          subst hq
          exact ⟨v7, rfl, rfl, rfl, rfl, rfl, H⟩
      · skip
        rintro f w ⟨v6, hf0, hf3, hf9, hf10, hf11, H⟩
        obtain ⟨u3, rfl⟩ : ∃ u3, f = (upd (upd (upd (upd (upd u3 0 va0) 3 v6) 9 v1) 10 (.int .i64 ((t1.length : Nat) : Int))) 11 (.int .i64 (ik1 : Int))) := ⟨f, by rw [upd_self hf0, upd_self hf3, upd_self hf9, upd_self hf10, upd_self hf11]⟩
        refine W.region ?_
        refine O.add rfl rfl rfl rfl hinck1 ?_
        refine O.move (v := .int .i64 ((ik1 : Int) + 1)) rfl rfl rfl ?_
        refine WL.nil ?_
        obtain rfl := Option.some.inj hm2
        exact ⟨_, rfl, _, v6, rfl, drop_next hdropk1, rfl, rfl, rfl, rfl, rfl, H⟩
    · skip
      rintro ik1 _ f w ⟨z2, v3, rfl, hdropk1, hf11, hf10, hf0, hf3, hf9, H⟩ hfin
      have hltk1 := drop_end hdropk1
      obtain ⟨u4, rfl⟩ : ∃ u4, f = (upd (upd (upd (upd (upd u4 11 (.int .i64 (ik1 : Int))) 10 (.int .i64 ((t1.length : Nat) : Int))) 0 va0) 3 v3) 9 v1) := ⟨f, by rw [upd_self hf11, upd_self hf10, upd_self hf0, upd_self hf3, upd_self hf9]⟩
      refine W.seq ?_
      refine W.region ?_
      refine O.lss rfl rfl rfl rfl ?_
      refine WL.nil ?_
      refine W.seq ?_
      refine W.cond_false (congrArg Value.bool (decide_eq_false hltk1)) ?_
      refine W.exit ?_
      have hq : z2 = s1 := hfin
      subst hq
      have H := H.keep [0] [ownI (α := Int) v3 3 z2] rfl (by decide)
      refine xT rfl ?_
      exact ⟨v3, rfl, H⟩
  · skip
    rintro f w ⟨v5, hf3, H⟩
    obtain ⟨u5, rfl⟩ : ∃ u5, f = (upd u5 3 v5) := ⟨f, by rw [upd_self hf3]⟩
    refine W.seq ?_
    refine W.region ?_
    refine O.move (v := v5) rfl rfl rfl ?_
    refine O.assign (v := v5) rfl rfl rfl ?_
    refine WL.nil ?_
    refine W.ret ?_
    have hq : s1 = r0 := Option.some.inj (show some s1 = some r0 from hm)
    subst hq
    exact ends1 Try.results78 rfl ⟨_, rfl, H.base, H.ownR 0 rfl⟩

theorem c_noongunref09_Days {w0 : World} (va0 : Value) (a0 : (List GEntry)) (ha0 : SliceR w0 va0 a0) {r0 : (List Int)} {r1 : Int} (hm : noongunref09_Days a0 = some (r0, r1)) :
    Calls Try.prog 36 #[va0] w0 (Ret w0 fun w v => ∃ vr0 : Value, v = .tuple #[vr0, (.int .i64 r1)] ∧ OwnR w0 w vr0 3 r0) := by
  unfold noongunref09_Days at hm
  refine calls_of_W Try.func36 rfl Try.ntmps36 (Nat.le_of_ble_eq_true rfl) ?_
  have H := Inv.start (w := w0)
  refine W.seq ?_
  refine W.region ?_
  have H := H.addNil (α := Int) (E := 3)
  refine O.assign (v := (.slice none 0 0)) rfl rfl rfl ?_
  refine O.assign (v := (.int .i64 0)) rfl rfl rfl ?_
  refine WL.nil ?_
  refine W.seq ?_
  refine W.seq ?_
  refine W.region ?_
  refine O.move (v := va0) rfl rfl rfl ?_
  obtain ⟨t1, hy1, hm⟩ := bind_some hm
  refine O.call Try.call21 rfl rfl rfl (c_noongunref09_Valid _ _ (H.arg ha0) hy1) ?_
  rintro _ w1 hb1 rfl
  have H := H.ext hb1
  refine O.not rfl rfl rfl ?_
  refine WL.nil ?_
  rcases ite_some hm with ⟨hc1, hm⟩ | ⟨hc1, hm⟩
  · refine W.cond_true (congrArg Value.bool hc1) ?_
    refine W.seq ?_
    refine W.region ?_
    have H := H.addNil (α := Int) (E := 3)
    refine O.assign (v := (.slice none 0 0)) rfl rfl rfl ?_
    refine O.assign (v := (.int .i64 1)) rfl rfl rfl ?_
    refine WL.nil ?_
    refine W.ret ?_
    have hq : (([] : List Int), 1) = (r0, r1) := Option.some.inj (show some (([] : List Int), 1) = some (r0, r1) from hm)
    obtain ⟨he0, hq0⟩ := Prod.mk.inj hq; clear hq; subst he0
    subst hq0
    exact ends2 Try.results36 rfl rfl ⟨_, rfl, H.base, ⟨_, rfl, H.ownR 1 rfl⟩⟩
  · refine W.cond_false (congrArg Value.bool hc1) ?_
    refine W.skip ?_
    refine W.seq ?_
    refine W.region ?_
    refine O.move (v := va0) rfl rfl rfl ?_
    obtain ⟨t2, hy2, hm⟩ := bind_some hm
    refine O.call Try.call78 rfl rfl rfl (c_noongunref09_days _ _ (H.arg ha0) hy2) ?_
    rintro v1 w2 hb2 ho1
    have H := H.addOwn hb2 ho1
    refine O.assign (v := v1) rfl rfl rfl ?_
    refine O.assign (v := (.int .i64 0)) rfl rfl rfl ?_
    refine WL.nil ?_
    refine W.ret ?_
    have hq : (t2, 0) = (r0, r1) := Option.some.inj (show some (t2, 0) = some (r0, r1) from hm)
    obtain ⟨he0, hq0⟩ := Prod.mk.inj hq; clear hq; subst he0
    subst hq0
    exact ends2 Try.results36 rfl rfl ⟨_, rfl, H.base, ⟨_, rfl, H.ownR 1 rfl⟩⟩

theorem ledger_sortsI : SortsI Try.prog 79 :=
  ⟨fun blk off cap zs w hH hblk hsz => AnyM.slices_Sort_int Try.sortA blk off cap zs w hH hblk hsz, fun p cap w => AnyM.slices_Sort_int_none Try.sortA p cap w⟩
theorem c_ledger_Unfound {w0 : World} (va0 : Value) (a0 : (List GEntry)) (ha0 : SliceR w0 va0 a0) {r0 : (List Int)} {r1 : Int} (hm : ledger_Unfound a0 = some (r0, r1)) :
    Calls Try.prog 37 #[va0] w0 (Ret w0 fun w v => ∃ vr0 : Value, v = .tuple #[vr0, (.int .i64 r1)] ∧ OwnR w0 w vr0 3 r0) := by
  unfold ledger_Unfound at hm
  refine calls_of_W Try.func37 rfl Try.ntmps37 (Nat.le_of_ble_eq_true rfl) ?_
  have H := Inv.start (w := w0)
  refine W.seq ?_
  refine W.region ?_
  have H := H.addNil (α := Int) (E := 3)
  refine O.assign (v := (.slice none 0 0)) rfl rfl rfl ?_
  refine O.assign (v := (.int .i64 0)) rfl rfl rfl ?_
  refine WL.nil ?_
  refine W.seq ?_
  refine W.seq ?_
  refine W.region ?_
  refine O.move (v := va0) rfl rfl rfl ?_
  obtain ⟨t1, hy1, hm⟩ := bind_some hm
  refine O.call Try.call20 rfl rfl rfl (c_ledger_Valid _ _ (H.arg ha0) hy1) ?_
  rintro _ w2 hb2 rfl
  have H := H.ext hb2
  refine O.not rfl rfl rfl ?_
  refine WL.nil ?_
  rcases ite_some hm with ⟨hc1, hm⟩ | ⟨hc1, hm⟩
  · refine W.cond_true (congrArg Value.bool hc1) ?_
    refine W.seq ?_
    refine W.region ?_
    have H := H.addNil (α := Int) (E := 3)
    refine O.assign (v := (.slice none 0 0)) rfl rfl rfl ?_
    refine O.assign (v := (.int .i64 1)) rfl rfl rfl ?_
    refine WL.nil ?_
    refine W.ret ?_
    have hq : (([] : List Int), 1) = (r0, r1) := Option.some.inj (show some (([] : List Int), 1) = some (r0, r1) from hm)
    obtain ⟨he0, hq0⟩ := Prod.mk.inj hq; clear hq; subst he0
    subst hq0
    exact ends2 Try.results37 rfl rfl ⟨_, rfl, H.base, ⟨_, rfl, H.ownR 1 rfl⟩⟩
  · refine W.cond_false (congrArg Value.bool hc1) ?_
    refine W.skip ?_
    refine W.seq ?_
    refine W.region ?_
    refine O.move (v := va0) rfl rfl rfl ?_
    obtain ⟨kv, hy2, hm⟩ := bind_some hm
    refine O.call Try.call67 rfl rfl rfl (c_ledger_pageOf _ _ (H.arg ha0) hy2) ?_
    rintro _ w3 hb3 ⟨m1, rfl, ho1a, ho1b⟩
    have H := H.addMap hb3 ho1a ho1b
    refine O.assign (v := (.map (some m1))) rfl rfl rfl ?_
    refine WL.nil ?_
    split at hm
    case isFalse => cases hm
    rename_i hlen
    refine W.seq ?_
    refine W.region ?_
    have H := H.addNil (α := Int) (E := 3)
    refine O.assign (v := (.slice none 0 0)) rfl rfl rfl ?_
    refine WL.nil ?_
    have H := H.keep [1, 2] [mapI m1 kv, ownI (α := Int) (.slice none 0 0) 3 ([] : List Int)] rfl (by decide)
    obtain ⟨es, clock, e1, e2, e3, e4', e5⟩ := H.mapOk 0 rfl
    have e4 : (es.toList.map (·.born)).Nodup := e4'.imp (fun h => Nat.ne_of_lt h)
    have e6 : es.toList.length = kv.length := by simpa using congrArg List.length e2
    have H := H.turn (it' := mapX m1 es clock) 0 rfl (fun b h => h) (fun _ => e1)
    have hnl : ∀ l : List (GKey × Int), (notFound kv l).length ≤ l.length := by
      intro l
      unfold notFound
      rw [List.length_map]
      exact List.length_filter_le _ _
    refine W.seq ?_
    refine W.via (fun f w => ∃ (vz : Value) (z : List Int), z.Perm (notFound kv kv) ∧ f 5 = vz ∧ Inv w0 w [ownI vz 3 z]) ?_ ?_
    · refine W.seq ?_
      refine W.region ?_
      refine O.move (v := (.map (some m1))) rfl rfl rfl ?_
      refine O.range Try.underlying57 e1 H rfl rfl rfl ?_
      intro bi w5 H hb5
      refine WL.nil ?_
      refine W.block ?_
      refine W.loopL (l := kv) (fun rem f w => ∃ (seen : Array Nat) (vz : Value) (z : List Int), (doneL es.toList kv seen).length + rem.length = kv.length ∧ z.Perm (notFound kv (doneL es.toList kv seen)) ∧
        f 15 = .pointer (some ⟨bi, 0, none⟩) ∧ f 4 = .map (some m1) ∧ f 5 = vz ∧ Inv w0 w [mapX m1 es clock, ownI vz 3 z, iterX bi m1 clock seen clock]) ?_ ?_ ?_
      · exact ⟨#[], _, [], by rw [doneL_nil]; simp, by rw [doneL_nil]; exact List.Perm.refl _, rfl, rfl, rfl, H⟩
      · rintro _ xs f w ⟨seen, vz, z, h1, h2, hf15, hf4, hf5, H⟩
        obtain ⟨u1, rfl⟩ : ∃ u1, f = (upd (upd (upd u1 15 (.pointer (some ⟨bi, 0, none⟩))) 4 (.map (some m1))) 5 vz) := ⟨f, by rw [upd_self hf15, upd_self hf4, upd_self hf5]⟩
        have hb : w.heap[m1]? = some (.map es clock) := (H.items (mapX m1 es clock) (List.mem_of_getElem? (i := 0) rfl)).1
        have hzl : z.length ≤ kv.length := by rw [h2.length_eq]; exact Nat.le_trans (hnl _) (doneL_le _ _ _)
        refine W.seq ?_
        refine W.region ?_
        refine O.next 2 H rfl hb e5 (Nat.le_refl _) rfl rfl rfl ?_ ?_
        · intro h0
          have := doneL_all es.toList kv seen e6 (left_none h0)
          rw [this] at h1
          simp at h1
        · intro e he w1 H hb
          obtain ⟨he1, he2⟩ := left_mem he
          obtain ⟨p, hp1, hp2, hp3, hp4⟩ := doneL_push seen e he2 es.toList kv e2 e4 he1
          have hlen2 := hp4.length_eq
          rw [List.length_cons] at hlen2
          rw [List.length_cons] at h1
          obtain ⟨⟨day, found⟩, val⟩ := p
          refine O.extract (v := .bool true) rfl rfl rfl rfl ?_
          refine WL.nil ?_
          refine W.seq ?_
          refine W.cond_true rfl ?_
          refine W.skip ?_
          refine W.block ?_
          refine W.seq ?_
          refine W.region ?_
          refine O.entry 2 H rfl hb he1 e4 rfl rfl rfl ?_
          refine O.extract (v := Flat.val (GKey.mk day found)) rfl rfl rfl (by rw [hp2]; rfl) ?_
          refine O.alloc [.int .i64 0, .bool false] ze60 H rfl rfl rfl ?_
          intro bk w2 H hbk
          refine O.store 3 0 [.int .i64 day, .bool found] [.int .i64 day, .bool found] sz60 H rfl rfl rfl rfl rfl rfl ⟨⟨rfl, rfl⟩, rfl⟩ (one_cons rfl (one_cons rfl one_nil)) ?_
          intro w3 H
          refine WL.nil ?_
          refine W.seq ?_
          refine W.region ?_
          refine O.move (v := (.map (some m1))) rfl rfl rfl ?_
          refine O.fieldAddr fd60_0 rfl rfl rfl ?_
          refine O.load sc3 rfl rfl rfl (H.cell 3 rfl 0 _ rfl) ?_
          refine O.build (v := (.agg (Flat.cells (GKey.mk day true)).toArray)) (fun w => bd60_0_1 _ _ w) rfl rfl rfl ?_
          have hb3 : w3.heap[m1]? = some (.map es clock) := (H.items (mapX m1 es clock) (List.mem_of_getElem? (i := 0) rfl)).1
          refine O.lookup2 (z := 0) (GKey.mk day true) Try.underlying57 key60 ze3 (.inr ⟨m1, rfl, es, clock, hb3, e2, e3, e4', e5⟩) rfl rfl rfl rfl ?_
          refine O.move (v := (.tuple #[(.int .i64 ((mget kv (GKey.mk day true)).getD 0)), (.bool (mget kv (GKey.mk day true)).isSome)])) rfl rfl rfl ?_
          refine O.extract (v := (.int .i64 ((mget kv (GKey.mk day true)).getD 0))) rfl rfl rfl rfl ?_
          refine O.extract (v := (.bool (mget kv (GKey.mk day true)).isSome)) rfl rfl rfl rfl ?_
          refine O.assign (v := (.int .i64 ((mget kv (GKey.mk day true)).getD 0))) rfl rfl rfl ?_
          refine O.assign (v := (.bool (mget kv (GKey.mk day true)).isSome)) rfl rfl rfl ?_
          refine WL.nil ?_
          refine W.seq ?_
          refine W.region ?_
          refine O.fieldAddr fd60_1 rfl rfl rfl ?_
          refine O.load sc4 rfl rfl rfl (H.cell 3 rfl 1 _ rfl) ?_
          refine O.not rfl rfl rfl ?_
          refine O.move (v := (.bool (!found))) rfl rfl rfl ?_
          have hperm : ∀ q : Bool, (!found && !(mget kv (GKey.mk day true)).isSome) = q → (notFound kv (doneL es.toList kv (seen.push e.born))).Perm (if q = true then notFound kv (doneL es.toList kv seen) ++ [day] else notFound kv (doneL es.toList kv seen)) := by
            intro q hq
            have hx := (hp4.filter (fun p => !p.1.found && !(mget kv (GKey.mk p.1.day true)).isSome)).map (fun p => p.1.day)
            unfold notFound
            refine hx.trans ?_
            rw [List.filter_cons]
            simp only [hq]
            cases q with
            | false => exact List.Perm.refl _
            | true => simp only [if_true]; rw [List.map_cons]; exact List.perm_append_comm (l₁ := [day])
          cases found with
          | true =>
            refine O.skip rfl rfl ?_
            refine O.skip rfl rfl ?_
            refine O.pick_false (v := .bool false) rfl rfl rfl rfl ?_
            refine WL.nil ?_
            refine W.cond_false rfl ?_
            refine W.skip ?_
            have H := H.keep [0, 1, 2] [mapX m1 es clock, ownI vz 3 z, iterX bi m1 clock (seen.push e.born) clock] rfl (by decide)
            exact ⟨seen.push e.born, _, z, by omega, h2.trans (hperm false rfl).symm, rfl, rfl, rfl, H⟩
          | false =>
            refine O.move (v := (.bool (mget kv (GKey.mk day true)).isSome)) rfl rfl rfl ?_
            refine O.not rfl rfl rfl ?_
            refine O.pick_true (v := (.bool (!(mget kv (GKey.mk day true)).isSome))) rfl rfl rfl rfl ?_
            refine WL.nil ?_
            rcases bool_ft (!(mget kv (GKey.mk day true)).isSome) with hc | hc
            · refine W.cond_false (congrArg Value.bool hc) ?_
              refine W.skip ?_
              have H := H.keep [0, 1, 2] [mapX m1 es clock, ownI vz 3 z, iterX bi m1 clock (seen.push e.born) clock] rfl (by decide)
              exact ⟨seen.push e.born, _, z, by omega, h2.trans (hperm false (by rw [hc]; rfl)).symm, rfl, rfl, rfl, H⟩
            · refine W.cond_true (congrArg Value.bool hc) ?_
              refine W.region ?_
              refine O.move (v := vz) rfl rfl rfl ?_
              refine O.fieldAddr fd60_0 rfl rfl rfl ?_
              refine O.load sc3 rfl rfl rfl (H.cell 3 rfl 0 _ rfl) ?_
              refine O.buildSlice (α := Int) [(.int .i64 day)] [day] Try.underlying39 el3 H rfl rfl rfl rfl rfl rfl rfl ?_
              intro v7 w6 H hb6
              have ht3 : appI z [day] = some (z ++ [day]) := appI_ok (by simp; omega)
              refine O.append 1 Try.underlying39 el3 rfl H rfl (H.own 4 rfl) ht3 rfl rfl rfl rfl ?_
              intro v8 w7 H
              refine O.assign (v := v8) rfl rfl rfl ?_
              refine WL.nil ?_
              have H := H.keep [0, 1, 2] [mapX m1 es clock, ownI v8 3 (z ++ [day]), iterX bi m1 clock (seen.push e.born) clock] rfl (by decide)
              exact ⟨seen.push e.born, _, z ++ [day], by omega, (h2.append_right [day]).trans (hperm true (by rw [hc]; rfl)).symm, rfl, rfl, rfl, H⟩
      · rintro f w ⟨seen, vz, z, h1, h2, hf15, hf4, hf5, H⟩
        obtain ⟨u1, rfl⟩ : ∃ u1, f = (upd (upd (upd u1 15 (.pointer (some ⟨bi, 0, none⟩))) 4 (.map (some m1))) 5 vz) := ⟨f, by rw [upd_self hf15, upd_self hf4, upd_self hf5]⟩
        have hb : w.heap[m1]? = some (.map es clock) := (H.items (mapX m1 es clock) (List.mem_of_getElem? (i := 0) rfl)).1
        refine W.seq ?_
        refine W.region ?_
        refine O.next 2 H rfl hb e5 (Nat.le_refl _) rfl rfl rfl ?_ ?_
        · intro h0
          have hall := doneL_all es.toList kv seen e6 (left_none h0)
          rw [hall] at h2
          refine O.extract (v := .bool false) rfl rfl rfl rfl ?_
          refine WL.nil ?_
          refine W.seq ?_
          refine W.cond_false rfl ?_
          refine W.exit ?_
          refine xT rfl ?_
          exact ⟨_, z, h2, rfl, H.keep [1] _ rfl (by decide)⟩
        · intro e he w1 H hb
          exfalso
          obtain ⟨he1, he2⟩ := left_mem he
          obtain ⟨p, hp1, hp2, hp3, hp4⟩ := doneL_push seen e he2 es.toList kv e2 e4 he1
          have hlen2 := hp4.length_eq
          have hle := doneL_le es.toList kv (seen.push e.born)
          rw [List.length_cons] at hlen2
          simp at h1
          omega
    · rintro f w ⟨vz, z, h2, hf5, H⟩
      obtain ⟨u1, rfl⟩ : ∃ u1, f = upd u1 5 vz := ⟨f, by rw [upd_self hf5]⟩
      have hzl : z.length ≤ kv.length := by rw [h2.length_eq]; exact hnl _
      refine W.seq ?_
      refine W.region ?_
      refine O.move (v := vz) rfl rfl rfl ?_
      refine O.sortI 0 H rfl ledger_sortsI Try.call79 (by omega) rfl rfl rfl ?_
      intro w4 H
      refine WL.nil ?_
      refine W.seq ?_
      refine W.region ?_
      refine O.move (v := vz) rfl rfl rfl ?_
      refine O.assign (v := vz) rfl rfl rfl ?_
      refine O.assign (v := (.int .i64 0)) rfl rfl rfl ?_
      refine WL.nil ?_
      refine W.ret ?_
      have hq : ((notFound kv kv).mergeSort (fun x y => decide (x ≤ y)), (0 : Int)) = (r0, r1) := Option.some.inj hm
      obtain ⟨he0, hq0⟩ := Prod.mk.inj hq; clear hq; subst he0
      subst hq0
      have hs : z.mergeSort (fun x y => decide (x ≤ y)) = (notFound kv kv).mergeSort (fun x y => decide (x ≤ y)) := mergeSort_of_perm_i h2
      rw [hs] at H
      exact ends2 Try.results37 rfl rfl ⟨_, rfl, H.base, ⟨_, rfl, H.ownR 0 rfl⟩⟩

set_option maxRecDepth 20000 in
theorem c_noongunref09_Unfound {w0 : World} (va0 : Value) (a0 : (List GEntry)) (ha0 : SliceR w0 va0 a0) {r0 : (List Int)} {r1 : Int} (hm : noongunref09_Unfound a0 = some (r0, r1)) :
    Calls Try.prog 38 #[va0] w0 (Ret w0 fun w v => ∃ vr0 : Value, v = .tuple #[vr0, (.int .i64 r1)] ∧ OwnR w0 w vr0 3 r0) := by
  unfold noongunref09_Unfound at hm
  refine calls_of_W Try.func38 rfl Try.ntmps38 (Nat.le_of_ble_eq_true rfl) ?_
  have H := Inv.start (w := w0)
  refine W.seq ?_
  refine W.region ?_
  have H := H.addNil (α := Int) (E := 3)
  refine O.assign (v := (.slice none 0 0)) rfl rfl rfl ?_
  refine O.assign (v := (.int .i64 0)) rfl rfl rfl ?_
  refine WL.nil ?_
  refine W.seq ?_
  refine W.seq ?_
  refine W.region ?_
  refine O.move (v := va0) rfl rfl rfl ?_
  obtain ⟨t1, hy1, hm⟩ := bind_some hm
  refine O.call Try.call21 rfl rfl rfl (c_noongunref09_Valid _ _ (H.arg ha0) hy1) ?_
  rintro _ w1 hb1 rfl
  have H := H.ext hb1
  refine O.not rfl rfl rfl ?_
  refine WL.nil ?_
  rcases ite_some hm with ⟨hc1, hm⟩ | ⟨hc1, hm⟩
  · refine W.cond_true (congrArg Value.bool hc1) ?_
    refine W.seq ?_
    refine W.region ?_
    have H := H.addNil (α := Int) (E := 3)
    refine O.assign (v := (.slice none 0 0)) rfl rfl rfl ?_
    refine O.assign (v := (.int .i64 1)) rfl rfl rfl ?_
    refine WL.nil ?_
    refine W.ret ?_
    have hq : (([] : List Int), 1) = (r0, r1) := Option.some.inj (show some (([] : List Int), 1) = some (r0, r1) from hm)
    obtain ⟨he0, hq0⟩ := Prod.mk.inj hq; clear hq; subst he0
    subst hq0
    exact ends2 Try.results38 rfl rfl ⟨_, rfl, H.base, ⟨_, rfl, H.ownR 1 rfl⟩⟩
  · refine W.cond_false (congrArg Value.bool hc1) ?_
    refine W.skip ?_
    refine W.seq ?_
    refine W.region ?_
    have H := H.addNil (α := Int) (E := 3)
    refine O.assign (v := (.slice none 0 0)) rfl rfl rfl ?_
    refine WL.nil ?_
    refine W.seq ?_
    refine W.seq ?_
    refine W.region ?_
    refine O.move (v := va0) rfl rfl rfl ?_
    obtain ⟨t2, hy2, hm⟩ := bind_some hm
    refine O.call Try.call75 rfl rfl rfl (c_noongunref09_all _ _ (H.arg ha0) hy2) ?_
    rintro v1 w2 hb2 ho1
    have H := H.addOwn hb2 ho1
    refine O.lenS Try.underlying39 (H.own 2 rfl) rfl rfl rfl ?_
    refine O.move (v := (.int .i64 0)) rfl rfl rfl ?_
    refine WL.nil ?_
    obtain ⟨s1, hm1, hm⟩ := bind_some hm
    refine W.via (fun f w => ∃ v5 : Value, f 4 = v5 ∧ Inv w0 w [ownI (α := Int) v5 3 s1]) ?_ ?_
    · skip
      refine W.block ?_
      have H := H.keep [1, 2] [ownI (α := Int) (.slice none 0 0) 3 ([] : List Int), ownI (α := Int) v1 3 t2] rfl (by decide)
      refine W.rangeL (i := 0) hm1 (fun rem ik1 s f w => ∃ z2 : (List Int), ∃ v3 : Value, z2 = s ∧ t2.drop ik1 = rem ∧ f 17 = .int .i64 (ik1 : Int) ∧ f 16 = (.int .i64 ((t2.length : Nat) : Int)) ∧ f 0 = va0 ∧ f 4 = v3 ∧ f 15 = v1 ∧ Inv w0 w [ownI (α := Int) v3 3 z2, ownI (α := Int) v1 3 t2]) ?_ ?_ ?_
      · skip
        exact ⟨_, (.slice none 0 0), rfl, List.drop_zero, rfl, rfl, rfl, rfl, rfl, H⟩
      · skip
        rintro yk1 xs ik1 _ st f w ⟨z2, v3, rfl, hdropk1, hf17, hf16, hf0, hf4, hf15, H⟩ hm2
        have hltk1 := drop_lt hdropk1; have hixk1 := drop_idx hdropk1
        obtain ⟨u1, rfl⟩ : ∃ u1, f = (upd (upd (upd (upd (upd u1 17 (.int .i64 (ik1 : Int))) 16 (.int .i64 ((t2.length : Nat) : Int))) 0 va0) 4 v3) 15 v1) := ⟨f, by rw [upd_self hf17, upd_self hf16, upd_self hf0, upd_self hf4, upd_self hf15]⟩
        have hinck1 := addI_lt hltk1 (H.own 1 rfl).len_le
        refine W.seq ?_
        refine W.region ?_
        refine O.lss rfl rfl rfl rfl ?_
        refine WL.nil ?_
        refine W.seq ?_
        refine W.cond_true (congrArg Value.bool (decide_eq_true hltk1)) ?_
        refine W.skip ?_
        refine W.seq ?_
        obtain ⟨s2, hm3, hm2⟩ := bind_some hm2
        refine W.via (fun f w => ∃ v6 : Value, f 0 = va0 ∧ f 4 = v6 ∧ f 15 = v1 ∧ f 16 = (.int .i64 ((t2.length : Nat) : Int)) ∧ f 17 = (.int .i64 (ik1 : Int)) ∧ Inv w0 w [ownI (α := Int) v6 3 s2, ownI (α := Int) v1 3 t2]) ?_ ?_
        · skip
          refine W.block ?_
          refine W.seq ?_
          refine W.region ?_
          refine O.indexAddr Try.underlying39 sz3 (H.own 1 rfl) hixk1 rfl rfl rfl rfl ?_
          intro p1 hp1
          refine O.load sc3 rfl rfl rfl (hp1.flat 0 _ rfl) ?_
          refine O.assign (v := (.int .i64 yk1)) rfl rfl rfl ?_
          refine WL.nil ?_
          refine W.seq ?_
          refine W.region ?_
          refine O.move (v := va0) rfl rfl rfl ?_
          refine O.move (v := (.int .i64 yk1)) rfl rfl rfl ?_
          obtain ⟨⟨t3, t4⟩, hy3, hm3⟩ := bind_some hm3
          refine O.call Try.call57 rfl rfl rfl (c_noongunref09_last _ _ (H.arg ha0) _ _ hy3) ?_
          rintro _ w3 hb3 rfl
          have hp1 := hp1.mono hb3
          have H := H.ext hb3
          refine O.move (v := (.tuple #[(.int .i64 t3), (.bool t4)])) rfl rfl rfl ?_
          refine O.extract (v := (.int .i64 t3)) rfl rfl rfl rfl ?_
          refine O.extract (v := (.bool t4)) rfl rfl rfl rfl ?_
          refine O.assign (v := (.int .i64 t3)) rfl rfl rfl ?_
          refine O.assign (v := (.bool t4)) rfl rfl rfl ?_
          refine WL.nil ?_
          refine W.seq ?_
          refine W.region ?_
          refine O.move (v := va0) rfl rfl rfl ?_
          refine O.move (v := (.int .i64 yk1)) rfl rfl rfl ?_
          obtain ⟨⟨t5, t6⟩, hy4, hm3⟩ := bind_some hm3
          refine O.call Try.call57 rfl rfl rfl (c_noongunref09_last _ _ (H.arg ha0) _ _ hy4) ?_
          rintro _ w4 hb4 rfl
          have hp1 := hp1.mono hb4
          have H := H.ext hb4
          refine O.move (v := (.tuple #[(.int .i64 t5), (.bool t6)])) rfl rfl rfl ?_
          refine O.extract (v := (.int .i64 t5)) rfl rfl rfl rfl ?_
          refine O.extract (v := (.bool t6)) rfl rfl rfl rfl ?_
          refine O.assign (v := (.int .i64 t5)) rfl rfl rfl ?_
          refine O.assign (v := (.bool t6)) rfl rfl rfl ?_
          refine WL.nil ?_
          refine W.seq ?_
          refine W.region ?_
          refine O.move (v := (.bool t4)) rfl rfl rfl ?_
          refine O.move (v := (.bool t4)) rfl rfl rfl ?_
          refine WL.cut 3 (fun f w => f 0 = va0 ∧ f 4 = v3 ∧ f 6 = (.int .i64 yk1) ∧ f 15 = v1 ∧ f 16 = (.int .i64 ((t2.length : Nat) : Int)) ∧ f 17 = (.int .i64 (ik1 : Int)) ∧ f 37 = .bool (t4 && (!t6)) ∧ Inv w0 w [ownI (α := Int) v3 3 z2, ownI (α := Int) v1 3 t2]) ?_ ?_
          · skip
            rcases bool_ft t4 with hc2 | hc2
            · skip
              refine WL.reset (i := 34) (v := .bool false) (congrArg Value.bool hc2) ?_
              refine O.skip rfl rfl ?_
              refine O.skip rfl rfl ?_
              refine O.pick_false (v := (.bool false)) rfl rfl rfl rfl ?_
              refine WL.nil ?_
              exact ⟨rfl, rfl, rfl, rfl, rfl, rfl, congrArg Value.bool (and_f hc2), H⟩
            · skip
              refine WL.reset (i := 34) (v := .bool true) (congrArg Value.bool hc2) ?_
              refine O.move (v := (.bool t6)) rfl rfl rfl ?_
              refine O.not rfl rfl rfl ?_
              refine O.pick_true (v := (.bool (!t6))) rfl rfl rfl rfl ?_
              refine WL.nil ?_
              exact ⟨rfl, rfl, rfl, rfl, rfl, rfl, congrArg Value.bool (and_t hc2), H⟩
          · skip
            rintro f w ⟨hf0, hf4, hf6, hf15, hf16, hf17, hf37, H⟩
            obtain ⟨u2, rfl⟩ : ∃ u2, f = (upd (upd (upd (upd (upd (upd (upd u2 0 va0) 4 v3) 6 (.int .i64 yk1)) 15 v1) 16 (.int .i64 ((t2.length : Nat) : Int))) 17 (.int .i64 (ik1 : Int))) 37 (.bool (t4 && (!t6)))) := ⟨f, by rw [upd_self hf0, upd_self hf4, upd_self hf6, upd_self hf15, upd_self hf16, upd_self hf17, upd_self hf37]⟩
            refine WL.nil ?_
            obtain ⟨s3, hm4, hm3⟩ := bind_some hm3
            refine W.via (fun f w => ∃ v7 : Value, f 0 = va0 ∧ f 4 = v7 ∧ f 15 = v1 ∧ f 16 = (.int .i64 ((t2.length : Nat) : Int)) ∧ f 17 = (.int .i64 (ik1 : Int)) ∧ Inv w0 w [ownI (α := Int) v7 3 s3, ownI (α := Int) v1 3 t2]) ?_ ?_
            · skip
              rcases ite_some hm4 with ⟨hc3, hm4⟩ | ⟨hc3, hm4⟩
              · refine W.cond_true (congrArg Value.bool hc3) ?_
                refine W.region ?_
                refine O.move (v := v3) rfl rfl rfl ?_
                refine O.move (v := (.int .i64 yk1)) rfl rfl rfl ?_
                refine O.buildSlice (α := Int) [(.int .i64 yk1)] [yk1] Try.underlying39 el3 H rfl rfl rfl rfl rfl rfl rfl ?_
                intro v8 w5 H hb5
                obtain ⟨t7, ht7, hm4⟩ := bind_some hm4
                refine O.append 0 Try.underlying39 el3 rfl H rfl (H.own 2 rfl) ht7 rfl rfl rfl rfl ?_
                intro v9 w6 H
                refine O.assign (v := v9) rfl rfl rfl ?_
                refine WL.nil ?_
                have H := H.keep [0, 1] [ownI (α := Int) v9 3 t7, ownI (α := Int) v1 3 t2] rfl (by decide)
                have hq : t7 = s3 := Option.some.inj (show some t7 = some s3 from hm4)
                subst hq
                exact ⟨v9, rfl, rfl, rfl, rfl, rfl, H⟩
              · refine W.cond_false (congrArg Value.bool hc3) ?_
                refine W.skip ?_
                have hq : z2 = s3 := Option.some.inj (show some z2 = some s3 from hm4)
                subst hq
                exact ⟨v3, rfl, rfl, rfl, rfl, rfl, H⟩
            · skip
              rintro f w ⟨v7, hf0, hf4, hf15, hf16, hf17, H⟩
              obtain ⟨u3, rfl⟩ : ∃ u3, f = (upd (upd (upd (upd (upd u3 0 va0) 4 v7) 15 v1) 16 (.int .i64 ((t2.length : Nat) : Int))) 17 (.int .i64 (ik1 : Int))) := ⟨f, by rw [upd_self hf0, upd_self hf4, upd_self hf15, upd_self hf16, upd_self hf17]⟩
              have hq : s3 = s2 := Option.some.inj (show some s3 = some s2 from hm3)
              subst hq
              exact ⟨v7, rfl, rfl, rfl, rfl, rfl, H⟩
        · skip
          rintro f w ⟨v6, hf0, hf4, hf15, hf16, hf17, H⟩
          obtain ⟨u4, rfl⟩ : ∃ u4, f = (upd (upd (upd (upd (upd u4 0 va0) 4 v6) 15 v1) 16 (.int .i64 ((t2.length : Nat) : Int))) 17 (.int .i64 (ik1 : Int))) := ⟨f, by rw [upd_self hf0, upd_self hf4, upd_self hf15, upd_self hf16, upd_self hf17]⟩
          refine W.region ?_
          refine O.add rfl rfl rfl rfl hinck1 ?_
          refine O.move (v := .int .i64 ((ik1 : Int) + 1)) rfl rfl rfl ?_
          refine WL.nil ?_
          obtain rfl := Option.some.inj hm2
          exact ⟨_, rfl, _, v6, rfl, drop_next hdropk1, rfl, rfl, rfl, rfl, rfl, H⟩
      · skip
        rintro ik1 _ f w ⟨z2, v3, rfl, hdropk1, hf17, hf16, hf0, hf4, hf15, H⟩ hfin
        have hltk1 := drop_end hdropk1
        obtain ⟨u5, rfl⟩ : ∃ u5, f = (upd (upd (upd (upd (upd u5 17 (.int .i64 (ik1 : Int))) 16 (.int .i64 ((t2.length : Nat) : Int))) 0 va0) 4 v3) 15 v1) := ⟨f, by rw [upd_self hf17, upd_self hf16, upd_self hf0, upd_self hf4, upd_self hf15]⟩
        refine W.seq ?_
        refine W.region ?_
        refine O.lss rfl rfl rfl rfl ?_
        refine WL.nil ?_
        refine W.seq ?_
        refine W.cond_false (congrArg Value.bool (decide_eq_false hltk1)) ?_
        refine W.exit ?_
        have hq : z2 = s1 := hfin
        subst hq
        have H := H.keep [0] [ownI (α := Int) v3 3 z2] rfl (by decide)
        refine xT rfl ?_
        exact ⟨v3, rfl, H⟩
    · skip
      rintro f w ⟨v5, hf4, H⟩
      obtain ⟨u6, rfl⟩ : ∃ u6, f = (upd u6 4 v5) := ⟨f, by rw [upd_self hf4]⟩
      refine W.seq ?_
      refine W.region ?_
      refine O.move (v := v5) rfl rfl rfl ?_
      refine O.assign (v := v5) rfl rfl rfl ?_
      refine O.assign (v := (.int .i64 0)) rfl rfl rfl ?_
      refine WL.nil ?_
      refine W.ret ?_
      have hq : (s1, 0) = (r0, r1) := Option.some.inj (show some (s1, 0) = some (r0, r1) from hm)
      obtain ⟨he0, hq0⟩ := Prod.mk.inj hq; clear hq; subst he0
      subst hq0
      exact ends2 Try.results38 rfl rfl ⟨_, rfl, H.base, ⟨_, rfl, H.ownR 0 rfl⟩⟩

set_option maxRecDepth 20000 in
theorem c_noongunref09_Corrections {w0 : World} (va0 : Value) (a0 : (List GEntry)) (ha0 : SliceR w0 va0 a0) {r0 : (List Int)} {r1 : Int} (hm : noongunref09_Corrections a0 = some (r0, r1)) :
    Calls Try.prog 39 #[va0] w0 (Ret w0 fun w v => ∃ vr0 : Value, v = .tuple #[vr0, (.int .i64 r1)] ∧ OwnR w0 w vr0 3 r0) := by
  unfold noongunref09_Corrections at hm
  refine calls_of_W Try.func39 rfl Try.ntmps39 (Nat.le_of_ble_eq_true rfl) ?_
  have H := Inv.start (w := w0)
  refine W.seq ?_
  refine W.region ?_
  have H := H.addNil (α := Int) (E := 3)
  refine O.assign (v := (.slice none 0 0)) rfl rfl rfl ?_
  refine O.assign (v := (.int .i64 0)) rfl rfl rfl ?_
  refine WL.nil ?_
  refine W.seq ?_
  refine W.seq ?_
  refine W.region ?_
  refine O.move (v := va0) rfl rfl rfl ?_
  obtain ⟨t1, hy1, hm⟩ := bind_some hm
  refine O.call Try.call21 rfl rfl rfl (c_noongunref09_Valid _ _ (H.arg ha0) hy1) ?_
  rintro _ w1 hb1 rfl
  have H := H.ext hb1
  refine O.not rfl rfl rfl ?_
  refine WL.nil ?_
  rcases ite_some hm with ⟨hc1, hm⟩ | ⟨hc1, hm⟩
  · refine W.cond_true (congrArg Value.bool hc1) ?_
    refine W.seq ?_
    refine W.region ?_
    have H := H.addNil (α := Int) (E := 3)
    refine O.assign (v := (.slice none 0 0)) rfl rfl rfl ?_
    refine O.assign (v := (.int .i64 1)) rfl rfl rfl ?_
    refine WL.nil ?_
    refine W.ret ?_
    have hq : (([] : List Int), 1) = (r0, r1) := Option.some.inj (show some (([] : List Int), 1) = some (r0, r1) from hm)
    obtain ⟨he0, hq0⟩ := Prod.mk.inj hq; clear hq; subst he0
    subst hq0
    exact ends2 Try.results39 rfl rfl ⟨_, rfl, H.base, ⟨_, rfl, H.ownR 1 rfl⟩⟩
  · refine W.cond_false (congrArg Value.bool hc1) ?_
    refine W.skip ?_
    refine W.seq ?_
    refine W.region ?_
    have H := H.addNil (α := Int) (E := 3)
    refine O.assign (v := (.slice none 0 0)) rfl rfl rfl ?_
    refine WL.nil ?_
    refine W.seq ?_
    refine W.seq ?_
    refine W.region ?_
    refine O.move (v := va0) rfl rfl rfl ?_
    refine O.lenS Try.underlying22 (H.arg ha0) rfl rfl rfl ?_
    refine O.move (v := (.int .i64 0)) rfl rfl rfl ?_
    refine WL.nil ?_
    obtain ⟨s1, hm1, hm⟩ := bind_some hm
    refine W.via (fun f w => ∃ v4 : Value, f 4 = v4 ∧ Inv w0 w [ownI (α := Int) v4 3 s1]) ?_ ?_
    · skip
      refine W.block ?_
      have hbdik1 := (H.arg ha0).len_le
      have H := H.keep [1] [ownI (α := Int) (.slice none 0 0) 3 ([] : List Int)] rfl (by decide)
      refine W.rangeN (i := 0) hm1 (fun rem ik1 s f w => ∃ z2 : (List Int), ∃ v2 : Value, z2 = s ∧ (ik1 : Int) + rem = max 0 ((a0.length : Nat) : Int) ∧ f 14 = .int .i64 (ik1 : Int) ∧ f 13 = (.int .i64 ((a0.length : Nat) : Int)) ∧ f 0 = va0 ∧ f 4 = v2 ∧ f 12 = va0 ∧ Inv w0 w [ownI (α := Int) v2 3 z2]) ?_ ?_ ?_
      · skip
        exact ⟨_, (.slice none 0 0), rfl, rangeN_start, rfl, rfl, rfl, rfl, rfl, H⟩
      · skip
        rintro k ik1 _ st f w ⟨z2, v2, rfl, hdropk1, hf14, hf13, hf0, hf4, hf12, H⟩ hm2
        have hltk1 := rangeN_lt hdropk1
        obtain ⟨u1, rfl⟩ : ∃ u1, f = (upd (upd (upd (upd (upd u1 14 (.int .i64 (ik1 : Int))) 13 (.int .i64 ((a0.length : Nat) : Int))) 0 va0) 4 v2) 12 va0) := ⟨f, by rw [upd_self hf14, upd_self hf13, upd_self hf0, upd_self hf4, upd_self hf12]⟩
        have hinck1 := addI_lt hltk1 hbdik1
        refine W.seq ?_
        refine W.region ?_
        refine O.lss rfl rfl rfl rfl ?_
        refine WL.nil ?_
        refine W.seq ?_
        refine W.cond_true (congrArg Value.bool (decide_eq_true hltk1)) ?_
        refine W.skip ?_
        refine W.seq ?_
        obtain ⟨s2, hm3, hm2⟩ := bind_some hm2
        refine W.via (fun f w => ∃ v5 : Value, f 0 = va0 ∧ f 4 = v5 ∧ f 12 = va0 ∧ f 13 = (.int .i64 ((a0.length : Nat) : Int)) ∧ f 14 = (.int .i64 (ik1 : Int)) ∧ Inv w0 w [ownI (α := Int) v5 3 s2]) ?_ ?_
        · skip
          refine W.block ?_
          refine W.seq ?_
          refine W.region ?_
          refine O.move (v := (.int .i64 (ik1 : Int))) rfl rfl rfl ?_
          obtain ⟨x1, hx1, hm3⟩ := bind_some hm3
          obtain ⟨p1, hp1, hrp1⟩ := fix_indexAddr Try.underlying22 sz32 ha0 hx1
          refine hrp1 rfl rfl rfl rfl ?_
          refine O.loadA [(.int .i64 x1.Day), (.bool x1.Found), (.int .i64 x1.Error)] ag32 rfl rfl rfl rfl ((hp1.mono H.base).flat) ?_
          refine O.alloc [(.int .i64 0), (.bool false), (.int .i64 0)] ze32 H rfl rfl rfl ?_
          intro b1 w2 H hb2
          refine O.assign (v := (.int .i64 (ik1 : Int))) rfl rfl rfl ?_
          refine O.store 1 0 [(.int .i64 x1.Day), (.bool x1.Found), (.int .i64 x1.Error)] [(.int .i64 x1.Day), (.bool x1.Found), (.int .i64 x1.Error)] sz32 H rfl rfl rfl rfl rfl rfl ⟨⟨rfl, rfl⟩, rfl⟩ (one_cons rfl (one_cons rfl (one_cons rfl one_nil))) ?_
          intro w3 H
          refine WL.nil ?_
          refine W.seq ?_
          obtain ⟨t2, ht2, hm3⟩ := bind_some hm3
          obtain ⟨v6, hs1, hrv6⟩ := fix_sliceH Try.underlying22 sz32 (H.arg ha0) ht2
          obtain ⟨⟨t3, t4⟩, hy2, hm3⟩ := bind_some hm3
          refine W.drawN 12 (fun f => f 0 = va0 ∧ f 4 = v2 ∧ f 5 = (.int .i64 (ik1 : Int)) ∧ f 12 = va0 ∧ f 13 = (.int .i64 ((a0.length : Nat) : Int)) ∧ f 14 = (.int .i64 (ik1 : Int)) ∧ f 29 = (.bool t4)) fol (by kernel_rfl) ?_ ?_
          · skip
            refine PL.of (fun _ w8 _ hx => O.move (v := va0) rfl rfl rfl (WL.nil ⟨rfl, hx⟩)) ?_
            refine PL.of (fun _ w8 _ hx => O.move (v := (.int .i64 (ik1 : Int))) rfl rfl rfl (WL.nil ⟨rfl, hx⟩)) ?_
            refine PL.of (fun _ w8 _ hx => hrv6 rfl rfl rfl rfl (WL.nil ⟨rfl, hx⟩)) ?_
            refine PL.of (fun _ w8 _ hx => O.fieldAddr fd32_0 rfl rfl rfl (WL.nil ⟨rfl, hx⟩)) ?_
            refine PL.of (fun _ w8 _ hx => by have H := H.ext hx; exact O.load sc3 rfl rfl rfl (H.cell 1 rfl 0 _ rfl) (WL.nil ⟨rfl, hx⟩)) ?_
            refine PL.of (fun _ w8 _ hx => O.fieldAddr fd32_1 rfl rfl rfl (WL.nil ⟨rfl, hx⟩)) ?_
            refine PL.of (fun _ w8 _ hx => by have H := H.ext hx; exact O.load sc4 rfl rfl rfl (H.cell 1 rfl 1 _ rfl) (WL.nil ⟨rfl, hx⟩)) ?_
            refine PL.of (fun _ w8 _ hx => by have hs1 := hs1.mono hx; exact O.call Try.call57 rfl rfl rfl (c_noongunref09_last _ _ hs1 _ _ hy2) (by rintro _ _ hb rfl; exact WL.nil ⟨rfl, hx.trans (hb.mono hx.size)⟩)) ?_
            refine PL.of (fun _ w8 _ hx => O.move (v := (.tuple #[(.int .i64 t3), (.bool t4)])) rfl rfl rfl (WL.nil ⟨rfl, hx⟩)) ?_
            refine PL.of (fun _ w8 _ hx => O.extract (v := (.int .i64 t3)) rfl rfl rfl rfl (WL.nil ⟨rfl, hx⟩)) ?_
            refine PL.of (fun _ w8 _ hx => O.extract (v := (.bool t4)) rfl rfl rfl rfl (WL.nil ⟨rfl, hx⟩)) ?_
            refine PL.of (fun _ w8 _ hx => O.assign (v := (.int .i64 t3)) rfl rfl rfl (WL.nil ⟨rfl, hx⟩)) ?_
            refine PL.nil ?_
            exact ⟨rfl, rfl, rfl, rfl, rfl, rfl, rfl⟩
          · skip
            rintro f w ⟨hf0, hf4, hf5, hf12, hf13, hf14, hf29⟩ hmd hx
            have H := H.ext hx
            have hs1 := hs1.mono hx
            obtain ⟨u2, rfl⟩ : ∃ u2, f = (upd (upd (upd (upd (upd (upd (upd u2 0 va0) 4 v2) 5 (.int .i64 (ik1 : Int))) 12 va0) 13 (.int .i64 ((a0.length : Nat) : Int))) 14 (.int .i64 (ik1 : Int))) 29 (.bool t4)) := ⟨f, by rw [upd_self hf0, upd_self hf4, upd_self hf5, upd_self hf12, upd_self hf13, upd_self hf14, upd_self hf29]⟩
            refine O.assign (v := (.bool t4)) rfl rfl rfl ?_
            refine WL.nil ?_
            refine W.seq ?_
            refine W.region ?_
            refine O.move (v := (.bool t4)) rfl rfl rfl ?_
            refine WL.nil ?_
            obtain ⟨s3, hm4, hm3⟩ := bind_some hm3
            refine W.via (fun f w => ∃ v7 : Value, f 0 = va0 ∧ f 4 = v7 ∧ f 12 = va0 ∧ f 13 = (.int .i64 ((a0.length : Nat) : Int)) ∧ f 14 = (.int .i64 (ik1 : Int)) ∧ Inv w0 w [ownI (α := Int) v7 3 s3]) ?_ ?_
            · skip
              rcases ite_some hm4 with ⟨hc2, hm4⟩ | ⟨hc2, hm4⟩
              · refine W.cond_true (congrArg Value.bool hc2) ?_
                refine W.region ?_
                refine O.move (v := v2) rfl rfl rfl ?_
                refine O.move (v := (.int .i64 (ik1 : Int))) rfl rfl rfl ?_
                refine O.buildSlice (α := Int) [(.int .i64 (ik1 : Int))] [(ik1 : Int)] Try.underlying39 el3 H rfl rfl rfl rfl rfl rfl rfl ?_
                intro v8 w4 H hb3
                have hs1 := hs1.mono hb3
                obtain ⟨t5, ht5, hm4⟩ := bind_some hm4
                refine O.append 0 Try.underlying39 el3 rfl H rfl (H.own 2 rfl) ht5 rfl rfl rfl rfl ?_
                intro v9 w5 H
                clear hs1
                refine O.assign (v := v9) rfl rfl rfl ?_
                refine WL.nil ?_
                have H := H.keep [0] [ownI (α := Int) v9 3 t5] rfl (by decide)
                have hq : t5 = s3 := Option.some.inj (show some t5 = some s3 from hm4)
                subst hq
                exact ⟨v9, rfl, rfl, rfl, rfl, rfl, H⟩
              · refine W.cond_false (congrArg Value.bool hc2) ?_
                refine W.skip ?_
                have H := H.keep [0] [ownI (α := Int) v2 3 z2] rfl (by decide)
                have hq : z2 = s3 := Option.some.inj (show some z2 = some s3 from hm4)
                subst hq
                exact ⟨v2, rfl, rfl, rfl, rfl, rfl, H⟩
            · skip
              rintro f w ⟨v7, hf0, hf4, hf12, hf13, hf14, H⟩
              obtain ⟨u3, rfl⟩ : ∃ u3, f = (upd (upd (upd (upd (upd u3 0 va0) 4 v7) 12 va0) 13 (.int .i64 ((a0.length : Nat) : Int))) 14 (.int .i64 (ik1 : Int))) := ⟨f, by rw [upd_self hf0, upd_self hf4, upd_self hf12, upd_self hf13, upd_self hf14]⟩
              have hq : s3 = s2 := Option.some.inj (show some s3 = some s2 from hm3)
              subst hq
              exact ⟨v7, rfl, rfl, rfl, rfl, rfl, H⟩
        · skip
          rintro f w ⟨v5, hf0, hf4, hf12, hf13, hf14, H⟩
          obtain ⟨u4, rfl⟩ : ∃ u4, f = (upd (upd (upd (upd (upd u4 0 va0) 4 v5) 12 va0) 13 (.int .i64 ((a0.length : Nat) : Int))) 14 (.int .i64 (ik1 : Int))) := ⟨f, by rw [upd_self hf0, upd_self hf4, upd_self hf12, upd_self hf13, upd_self hf14]⟩
          refine W.region ?_
          refine O.add rfl rfl rfl rfl hinck1 ?_
          refine O.move (v := .int .i64 ((ik1 : Int) + 1)) rfl rfl rfl ?_
          refine WL.nil ?_
          obtain rfl := Option.some.inj hm2
          exact ⟨_, rfl, _, v5, rfl, rangeN_next hdropk1, rfl, rfl, rfl, rfl, rfl, H⟩
      · skip
        rintro ik1 _ f w ⟨z2, v2, rfl, hdropk1, hf14, hf13, hf0, hf4, hf12, H⟩ hfin
        have hltk1 := rangeN_end hdropk1
        obtain ⟨u5, rfl⟩ : ∃ u5, f = (upd (upd (upd (upd (upd u5 14 (.int .i64 (ik1 : Int))) 13 (.int .i64 ((a0.length : Nat) : Int))) 0 va0) 4 v2) 12 va0) := ⟨f, by rw [upd_self hf14, upd_self hf13, upd_self hf0, upd_self hf4, upd_self hf12]⟩
        refine W.seq ?_
        refine W.region ?_
        refine O.lss rfl rfl rfl rfl ?_
        refine WL.nil ?_
        refine W.seq ?_
        refine W.cond_false (congrArg Value.bool (decide_eq_false hltk1)) ?_
        refine W.exit ?_
        have hq : z2 = s1 := hfin
        subst hq
        refine xT rfl ?_
        exact ⟨v2, rfl, H⟩
    · skip
      rintro f w ⟨v4, hf4, H⟩
      obtain ⟨u6, rfl⟩ : ∃ u6, f = (upd u6 4 v4) := ⟨f, by rw [upd_self hf4]⟩
      refine W.seq ?_
      refine W.region ?_
      refine O.move (v := v4) rfl rfl rfl ?_
      refine O.assign (v := v4) rfl rfl rfl ?_
      refine O.assign (v := (.int .i64 0)) rfl rfl rfl ?_
      refine WL.nil ?_
      refine W.ret ?_
      have hq : (s1, 0) = (r0, r1) := Option.some.inj (show some (s1, 0) = some (r0, r1) from hm)
      obtain ⟨he0, hq0⟩ := Prod.mk.inj hq; clear hq; subst he0
      subst hq0
      exact ends2 Try.results39 rfl rfl ⟨_, rfl, H.base, ⟨_, rfl, H.ownR 0 rfl⟩⟩

set_option maxRecDepth 20000 in
theorem c_noongunlaw09_LedgerDays {w0 : World} (va0 : Value) (a0 : (List GEntry)) (ha0 : SliceR w0 va0 a0) {r0 : Bool} (hm : noongunlaw09_LedgerDays a0 = some r0) :
    Calls Try.prog 8 #[va0] w0 (Ret w0 fun _ v => v = (.bool r0)) := by
  unfold noongunlaw09_LedgerDays at hm
  refine calls_of_W Try.func8 rfl Try.ntmps8 (Nat.le_of_ble_eq_true rfl) ?_
  have H := Inv.start (w := w0)
  refine W.seq ?_
  refine W.region ?_
  refine O.assign (v := (.bool false)) rfl rfl rfl ?_
  refine WL.nil ?_
  refine W.seq ?_
  refine W.seq ?_
  refine W.region ?_
  refine O.move (v := va0) rfl rfl rfl ?_
  obtain ⟨t1, hy1, hm⟩ := bind_some hm
  refine O.call Try.call22 rfl rfl rfl (c_noongunlaw09_small _ _ (H.arg ha0) hy1) ?_
  rintro _ w1 hb1 rfl
  have H := H.ext hb1
  refine O.not rfl rfl rfl ?_
  refine WL.nil ?_
  rcases ite_some hm with ⟨hc1, hm⟩ | ⟨hc1, hm⟩
  · refine W.cond_true (congrArg Value.bool hc1) ?_
    refine W.seq ?_
    refine W.region ?_
    obtain ⟨t2, hy2, hm⟩ := bind_some hm
    refine O.call Try.call13 rfl rfl rfl (c_noongunlaw09_awake  hy2) ?_
    rintro _ w2 hb2 rfl
    have H := H.ext hb2
    refine O.assign (v := (.bool t2)) rfl rfl rfl ?_
    refine WL.nil ?_
    refine W.ret ?_
    have hq : t2 = r0 := Option.some.inj (show some t2 = some r0 from hm)
    subst hq
    exact ends1 Try.results8 rfl ⟨_, rfl, H.base, rfl⟩
  · refine W.cond_false (congrArg Value.bool hc1) ?_
    refine W.skip ?_
    refine W.seq ?_
    refine W.region ?_
    refine O.move (v := va0) rfl rfl rfl ?_
    obtain ⟨⟨t3, t4⟩, hy3, hm⟩ := bind_some hm
    refine O.call Try.call35 rfl rfl rfl (c_ledger_Days _ _ (H.arg ha0) hy3) ?_
    rintro _ w3 hb3 ⟨v1, rfl, ho1⟩
    have H := H.addOwn hb3 ho1
    refine O.move (v := (.tuple #[v1, (.int .i64 t4)])) rfl rfl rfl ?_
    refine O.extract (v := v1) rfl rfl rfl rfl ?_
    refine O.extract (v := (.int .i64 t4)) rfl rfl rfl rfl ?_
    refine O.assign (v := v1) rfl rfl rfl ?_
    refine O.assign (v := (.int .i64 t4)) rfl rfl rfl ?_
    refine WL.nil ?_
    refine W.seq ?_
    refine W.region ?_
    refine O.move (v := va0) rfl rfl rfl ?_
    obtain ⟨⟨t5, t6⟩, hy4, hm⟩ := bind_some hm
    refine O.call Try.call36 rfl rfl rfl (c_noongunref09_Days _ _ (H.arg ha0) hy4) ?_
    rintro _ w4 hb4 ⟨v2, rfl, ho2⟩
    have H := H.addOwn hb4 ho2
    refine O.move (v := (.tuple #[v2, (.int .i64 t6)])) rfl rfl rfl ?_
    refine O.extract (v := v2) rfl rfl rfl rfl ?_
    refine O.extract (v := (.int .i64 t6)) rfl rfl rfl rfl ?_
    refine O.assign (v := v2) rfl rfl rfl ?_
    refine O.assign (v := (.int .i64 t6)) rfl rfl rfl ?_
    refine WL.nil ?_
    refine W.seq ?_
    refine W.region ?_
    refine O.move (v := va0) rfl rfl rfl ?_
    obtain ⟨⟨t7, t8⟩, hy5, hm⟩ := bind_some hm
    refine O.call Try.call37 rfl rfl rfl (c_ledger_Unfound _ _ (H.arg ha0) hy5) ?_
    rintro _ w5 hb5 ⟨v3, rfl, ho3⟩
    have H := H.addOwn hb5 ho3
    refine O.move (v := (.tuple #[v3, (.int .i64 t8)])) rfl rfl rfl ?_
    refine O.extract (v := v3) rfl rfl rfl rfl ?_
    refine O.extract (v := (.int .i64 t8)) rfl rfl rfl rfl ?_
    refine O.assign (v := v3) rfl rfl rfl ?_
    refine O.assign (v := (.int .i64 t8)) rfl rfl rfl ?_
    refine WL.nil ?_
    refine W.seq ?_
    refine W.region ?_
    refine O.move (v := va0) rfl rfl rfl ?_
    obtain ⟨⟨t9, t10⟩, hy6, hm⟩ := bind_some hm
    refine O.call Try.call38 rfl rfl rfl (c_noongunref09_Unfound _ _ (H.arg ha0) hy6) ?_
    rintro _ w6 hb6 ⟨v4, rfl, ho4⟩
    have H := H.addOwn hb6 ho4
    refine O.move (v := (.tuple #[v4, (.int .i64 t10)])) rfl rfl rfl ?_
    refine O.extract (v := v4) rfl rfl rfl rfl ?_
    refine O.extract (v := (.int .i64 t10)) rfl rfl rfl rfl ?_
    refine O.assign (v := v4) rfl rfl rfl ?_
    refine O.assign (v := (.int .i64 t10)) rfl rfl rfl ?_
    refine WL.nil ?_
    refine W.seq ?_
    refine W.region ?_
    refine O.move (v := va0) rfl rfl rfl ?_
    obtain ⟨⟨t11, t12⟩, hy7, hm⟩ := bind_some hm
    refine O.call Try.call32 rfl rfl rfl (c_ledger_Corrections _ _ (H.arg ha0) hy7) ?_
    rintro _ w7 hb7 ⟨v5, rfl, ho5⟩
    have H := H.addOwn hb7 ho5
    refine O.move (v := (.tuple #[v5, (.int .i64 t12)])) rfl rfl rfl ?_
    refine O.extract (v := v5) rfl rfl rfl rfl ?_
    refine O.extract (v := (.int .i64 t12)) rfl rfl rfl rfl ?_
    refine O.assign (v := v5) rfl rfl rfl ?_
    refine O.assign (v := (.int .i64 t12)) rfl rfl rfl ?_
    refine WL.nil ?_
    refine W.seq ?_
    refine W.region ?_
    refine O.move (v := va0) rfl rfl rfl ?_
    obtain ⟨⟨t13, t14⟩, hy8, hm⟩ := bind_some hm
    refine O.call Try.call39 rfl rfl rfl (c_noongunref09_Corrections _ _ (H.arg ha0) hy8) ?_
    rintro _ w8 hb8 ⟨v6, rfl, ho6⟩
    have H := H.addOwn hb8 ho6
    refine O.move (v := (.tuple #[v6, (.int .i64 t14)])) rfl rfl rfl ?_
    refine O.extract (v := v6) rfl rfl rfl rfl ?_
    refine O.extract (v := (.int .i64 t14)) rfl rfl rfl rfl ?_
    refine O.assign (v := v6) rfl rfl rfl ?_
    refine O.assign (v := (.int .i64 t14)) rfl rfl rfl ?_
    refine WL.nil ?_
    refine W.seq ?_
    refine W.region ?_
    refine O.move (v := v1) rfl rfl rfl ?_
    refine O.move (v := v2) rfl rfl rfl ?_
    obtain ⟨t15, hy9, hm⟩ := bind_some hm
    refine O.call Try.call40 rfl rfl rfl (c_noongunref09_SameInts _ _ (H.own 0 rfl) _ _ (H.own 1 rfl) hy9) ?_
    rintro _ w9 hb9 rfl
    have H := H.ext hb9
    refine O.move (v := (.bool t15)) rfl rfl rfl ?_
    refine WL.cut 4 (fun f w => f 7 = v3 ∧ f 8 = (.int .i64 t8) ∧ f 9 = v4 ∧ f 10 = (.int .i64 t10) ∧ f 11 = v5 ∧ f 12 = (.int .i64 t12) ∧ f 13 = v6 ∧ f 14 = (.int .i64 t14) ∧ f 56 = .bool (t15 && (t4 == t6)) ∧ Inv w0 w [ownI (α := Int) v1 3 t3, ownI (α := Int) v2 3 t5, ownI (α := Int) v3 3 t7, ownI (α := Int) v4 3 t9, ownI (α := Int) v5 3 t11, ownI (α := Int) v6 3 t13]) ?_ ?_
    · skip
      rcases bool_ft t15 with hc2 | hc2
      · skip
        refine WL.reset (i := 52) (v := .bool false) (congrArg Value.bool hc2) ?_
        refine O.skip rfl rfl ?_
        refine O.skip rfl rfl ?_
        refine O.skip rfl rfl ?_
        refine O.pick_false (v := (.bool false)) rfl rfl rfl rfl ?_
        refine WL.nil ?_
        exact ⟨rfl, rfl, rfl, rfl, rfl, rfl, rfl, rfl, congrArg Value.bool (and_f hc2), H⟩
      · skip
        refine WL.reset (i := 52) (v := .bool true) (congrArg Value.bool hc2) ?_
        refine O.move (v := (.int .i64 t4)) rfl rfl rfl ?_
        refine O.move (v := (.int .i64 t6)) rfl rfl rfl ?_
        refine O.eql rfl rfl rfl rfl ?_
        refine O.pick_true (v := (.bool (t4 == t6))) rfl rfl rfl rfl ?_
        refine WL.nil ?_
        exact ⟨rfl, rfl, rfl, rfl, rfl, rfl, rfl, rfl, congrArg Value.bool (and_t hc2), H⟩
    · skip
      rintro f w ⟨hf7, hf8, hf9, hf10, hf11, hf12, hf13, hf14, hf56, H⟩
      obtain ⟨u1, rfl⟩ : ∃ u1, f = (upd (upd (upd (upd (upd (upd (upd (upd (upd u1 7 v3) 8 (.int .i64 t8)) 9 v4) 10 (.int .i64 t10)) 11 v5) 12 (.int .i64 t12)) 13 v6) 14 (.int .i64 t14)) 56 (.bool (t15 && (t4 == t6)))) := ⟨f, by rw [upd_self hf7, upd_self hf8, upd_self hf9, upd_self hf10, upd_self hf11, upd_self hf12, upd_self hf13, upd_self hf14, upd_self hf56]⟩
      refine O.move (v := (.bool (t15 && (t4 == t6)))) rfl rfl rfl ?_
      obtain ⟨b1, hm1, hm⟩ := bind_some hm
      refine WL.cut 4 (fun f w => f 8 = (.int .i64 t8) ∧ f 10 = (.int .i64 t10) ∧ f 11 = v5 ∧ f 12 = (.int .i64 t12) ∧ f 13 = v6 ∧ f 14 = (.int .i64 t14) ∧ f 61 = .bool b1 ∧ Inv w0 w [ownI (α := Int) v1 3 t3, ownI (α := Int) v2 3 t5, ownI (α := Int) v3 3 t7, ownI (α := Int) v4 3 t9, ownI (α := Int) v5 3 t11, ownI (α := Int) v6 3 t13]) ?_ ?_
      · skip
        rcases ite_some hm1 with ⟨hc3, hm1⟩ | ⟨hc3, hm1⟩
        · skip
          refine WL.reset (i := 57) (v := .bool true) (congrArg Value.bool hc3) ?_
          refine O.move (v := v3) rfl rfl rfl ?_
          refine O.move (v := v4) rfl rfl rfl ?_
          obtain ⟨t16, hy10, hm1⟩ := bind_some hm1
          refine O.call Try.call40 rfl rfl rfl (c_noongunref09_SameInts _ _ (H.own 2 rfl) _ _ (H.own 3 rfl) hy10) ?_
          rintro _ w10 hb10 rfl
          have H := H.ext hb10
          refine O.pick_true (v := (.bool t16)) rfl rfl rfl rfl ?_
          refine WL.nil ?_
          have hq : t16 = b1 := Option.some.inj (show some t16 = some b1 from hm1)
          subst hq
          exact ⟨rfl, rfl, rfl, rfl, rfl, rfl, rfl, H⟩
        · skip
          refine WL.reset (i := 57) (v := .bool false) (congrArg Value.bool hc3) ?_
          refine O.skip rfl rfl ?_
          refine O.skip rfl rfl ?_
          refine O.skip rfl rfl ?_
          refine O.pick_false (v := (.bool false)) rfl rfl rfl rfl ?_
          refine WL.nil ?_
          have hq : false = b1 := Option.some.inj (show some false = some b1 from hm1)
          subst hq
          exact ⟨rfl, rfl, rfl, rfl, rfl, rfl, rfl, H⟩
      · skip
        rintro f w ⟨hf8, hf10, hf11, hf12, hf13, hf14, hf61, H⟩
        obtain ⟨u2, rfl⟩ : ∃ u2, f = (upd (upd (upd (upd (upd (upd (upd u2 8 (.int .i64 t8)) 10 (.int .i64 t10)) 11 v5) 12 (.int .i64 t12)) 13 v6) 14 (.int .i64 t14)) 61 (.bool b1)) := ⟨f, by rw [upd_self hf8, upd_self hf10, upd_self hf11, upd_self hf12, upd_self hf13, upd_self hf14, upd_self hf61]⟩
        refine O.move (v := (.bool b1)) rfl rfl rfl ?_
        refine WL.cut 4 (fun f w => f 11 = v5 ∧ f 12 = (.int .i64 t12) ∧ f 13 = v6 ∧ f 14 = (.int .i64 t14) ∧ f 66 = .bool (b1 && (t8 == t10)) ∧ Inv w0 w [ownI (α := Int) v1 3 t3, ownI (α := Int) v2 3 t5, ownI (α := Int) v3 3 t7, ownI (α := Int) v4 3 t9, ownI (α := Int) v5 3 t11, ownI (α := Int) v6 3 t13]) ?_ ?_
        · skip
          rcases bool_ft b1 with hc4 | hc4
          · skip
            refine WL.reset (i := 62) (v := .bool false) (congrArg Value.bool hc4) ?_
            refine O.skip rfl rfl ?_
            refine O.skip rfl rfl ?_
            refine O.skip rfl rfl ?_
            refine O.pick_false (v := (.bool false)) rfl rfl rfl rfl ?_
            refine WL.nil ?_
            exact ⟨rfl, rfl, rfl, rfl, congrArg Value.bool (and_f hc4), H⟩
          · skip
            refine WL.reset (i := 62) (v := .bool true) (congrArg Value.bool hc4) ?_
            refine O.move (v := (.int .i64 t8)) rfl rfl rfl ?_
            refine O.move (v := (.int .i64 t10)) rfl rfl rfl ?_
            refine O.eql rfl rfl rfl rfl ?_
            refine O.pick_true (v := (.bool (t8 == t10))) rfl rfl rfl rfl ?_
            refine WL.nil ?_
            exact ⟨rfl, rfl, rfl, rfl, congrArg Value.bool (and_t hc4), H⟩
        · skip
          rintro f w ⟨hf11, hf12, hf13, hf14, hf66, H⟩
          obtain ⟨u3, rfl⟩ : ∃ u3, f = (upd (upd (upd (upd (upd u3 11 v5) 12 (.int .i64 t12)) 13 v6) 14 (.int .i64 t14)) 66 (.bool (b1 && (t8 == t10)))) := ⟨f, by rw [upd_self hf11, upd_self hf12, upd_self hf13, upd_self hf14, upd_self hf66]⟩
          refine O.move (v := (.bool (b1 && (t8 == t10)))) rfl rfl rfl ?_
          obtain ⟨b2, hm2, hm⟩ := bind_some hm
          refine WL.cut 4 (fun f w => f 12 = (.int .i64 t12) ∧ f 14 = (.int .i64 t14) ∧ f 71 = .bool b2 ∧ Inv w0 w [ownI (α := Int) v1 3 t3, ownI (α := Int) v2 3 t5, ownI (α := Int) v3 3 t7, ownI (α := Int) v4 3 t9, ownI (α := Int) v5 3 t11, ownI (α := Int) v6 3 t13]) ?_ ?_
          · skip
            rcases ite_some hm2 with ⟨hc5, hm2⟩ | ⟨hc5, hm2⟩
            · skip
              refine WL.reset (i := 67) (v := .bool true) (congrArg Value.bool hc5) ?_
              refine O.move (v := v5) rfl rfl rfl ?_
              refine O.move (v := v6) rfl rfl rfl ?_
              obtain ⟨t17, hy11, hm2⟩ := bind_some hm2
              refine O.call Try.call40 rfl rfl rfl (c_noongunref09_SameInts _ _ (H.own 4 rfl) _ _ (H.own 5 rfl) hy11) ?_
              rintro _ w11 hb11 rfl
              have H := H.ext hb11
              refine O.pick_true (v := (.bool t17)) rfl rfl rfl rfl ?_
              refine WL.nil ?_
              have hq : t17 = b2 := Option.some.inj (show some t17 = some b2 from hm2)
              subst hq
              exact ⟨rfl, rfl, rfl, H⟩
            · skip
              refine WL.reset (i := 67) (v := .bool false) (congrArg Value.bool hc5) ?_
              refine O.skip rfl rfl ?_
              refine O.skip rfl rfl ?_
              refine O.skip rfl rfl ?_
              refine O.pick_false (v := (.bool false)) rfl rfl rfl rfl ?_
              refine WL.nil ?_
              have hq : false = b2 := Option.some.inj (show some false = some b2 from hm2)
              subst hq
              exact ⟨rfl, rfl, rfl, H⟩
          · skip
            rintro f w ⟨hf12, hf14, hf71, H⟩
            obtain ⟨u4, rfl⟩ : ∃ u4, f = (upd (upd (upd u4 12 (.int .i64 t12)) 14 (.int .i64 t14)) 71 (.bool b2)) := ⟨f, by rw [upd_self hf12, upd_self hf14, upd_self hf71]⟩
            refine O.move (v := (.bool b2)) rfl rfl rfl ?_
            refine WL.cut 4 (fun f w => f 76 = .bool (b2 && (t12 == t14)) ∧ Inv w0 w [ownI (α := Int) v1 3 t3, ownI (α := Int) v2 3 t5, ownI (α := Int) v3 3 t7, ownI (α := Int) v4 3 t9, ownI (α := Int) v5 3 t11, ownI (α := Int) v6 3 t13]) ?_ ?_
            · skip
              rcases bool_ft b2 with hc6 | hc6
              · skip
                refine WL.reset (i := 72) (v := .bool false) (congrArg Value.bool hc6) ?_
                refine O.skip rfl rfl ?_
                refine O.skip rfl rfl ?_
                refine O.skip rfl rfl ?_
                refine O.pick_false (v := (.bool false)) rfl rfl rfl rfl ?_
                refine WL.nil ?_
                exact ⟨congrArg Value.bool (and_f hc6), H⟩
              · skip
                refine WL.reset (i := 72) (v := .bool true) (congrArg Value.bool hc6) ?_
                refine O.move (v := (.int .i64 t12)) rfl rfl rfl ?_
                refine O.move (v := (.int .i64 t14)) rfl rfl rfl ?_
                refine O.eql rfl rfl rfl rfl ?_
                refine O.pick_true (v := (.bool (t12 == t14))) rfl rfl rfl rfl ?_
                refine WL.nil ?_
                exact ⟨congrArg Value.bool (and_t hc6), H⟩
            · skip
              rintro f w ⟨hf76, H⟩
              obtain ⟨u5, rfl⟩ : ∃ u5, f = (upd u5 76 (.bool (b2 && (t12 == t14)))) := ⟨f, by rw [upd_self hf76]⟩
              refine O.move (v := (.bool (b2 && (t12 == t14)))) rfl rfl rfl ?_
              obtain ⟨b3, hm3, hm⟩ := bind_some hm
              refine WL.cut 2 (fun f w => f 79 = .bool b3 ∧ Inv w0 w [ownI (α := Int) v1 3 t3, ownI (α := Int) v2 3 t5, ownI (α := Int) v3 3 t7, ownI (α := Int) v4 3 t9, ownI (α := Int) v5 3 t11, ownI (α := Int) v6 3 t13]) ?_ ?_
              · skip
                rcases ite_some hm3 with ⟨hc7, hm3⟩ | ⟨hc7, hm3⟩
                · skip
                  refine WL.reset (i := 77) (v := .bool true) (congrArg Value.bool hc7) ?_
                  obtain ⟨t18, hy12, hm3⟩ := bind_some hm3
                  refine O.call Try.call13 rfl rfl rfl (c_noongunlaw09_awake  hy12) ?_
                  rintro _ w12 hb12 rfl
                  have H := H.ext hb12
                  refine O.pick_true (v := (.bool t18)) rfl rfl rfl rfl ?_
                  refine WL.nil ?_
                  have hq : t18 = b3 := Option.some.inj (show some t18 = some b3 from hm3)
                  subst hq
                  exact ⟨rfl, H⟩
                · skip
                  refine WL.reset (i := 77) (v := .bool false) (congrArg Value.bool hc7) ?_
                  refine O.skip rfl rfl ?_
                  refine O.pick_false (v := (.bool false)) rfl rfl rfl rfl ?_
                  refine WL.nil ?_
                  have hq : false = b3 := Option.some.inj (show some false = some b3 from hm3)
                  subst hq
                  exact ⟨rfl, H⟩
              · skip
                rintro f w ⟨hf79, H⟩
                obtain ⟨u6, rfl⟩ : ∃ u6, f = (upd u6 79 (.bool b3)) := ⟨f, by rw [upd_self hf79]⟩
                refine O.assign (v := (.bool b3)) rfl rfl rfl ?_
                refine WL.nil ?_
                refine W.ret ?_
                have hq : b3 = r0 := Option.some.inj (show some b3 = some r0 from hm)
                subst hq
                exact ends1 Try.results8 rfl ⟨_, rfl, H.base, rfl⟩

theorem c_ledger_size {w0 : World} (a0 : Int) {r0 : Int} (hm : ledger_size a0 = some r0) :
    Calls Try.prog 81 #[(.int .i64 a0)] w0 (Ret w0 fun _ v => v = (.int .i64 r0)) := by
  unfold ledger_size at hm
  refine calls_of_W Try.func81 rfl Try.ntmps81 (Nat.le_of_ble_eq_true rfl) ?_
  have H := Inv.start (w := w0)
  refine W.seq ?_
  refine W.region ?_
  refine O.assign (v := (.int .i64 0)) rfl rfl rfl ?_
  refine WL.nil ?_
  refine W.seq ?_
  refine W.region ?_
  refine O.move (v := (.int .i64 a0)) rfl rfl rfl ?_
  refine O.move (v := (.int .i64 a0)) rfl rfl rfl ?_
  obtain ⟨t1, ht1, hm⟩ := bind_some hm
  refine O.neg rfl rfl rfl ht1 ?_
  refine O.max2 rfl rfl rfl rfl ?_
  refine O.assign (v := (.int .i64 (max a0 t1))) rfl rfl rfl ?_
  refine WL.nil ?_
  refine W.ret ?_
  have hq : (max a0 t1) = r0 := Option.some.inj (show some (max a0 t1) = some r0 from hm)
  subst hq
  exact ends1 Try.results81 rfl ⟨_, rfl, H.base, rfl⟩

theorem c_ledger_Letters_c1 {w0 : World} (a0 : Int) (pc0 : Addr) (c0 : Int) (hc0 : ∀ j c, (Flat.cells c0)[j]? = some c → w0.cell? (pc0.add j) = some c) {r0 : Bool} (hm : ledger_Letters_c1 a0 c0 = some r0) :
    Calls Try.prog 80 #[(.int .i64 a0), (.pointer (some pc0))] w0 (Ret w0 fun _ v => v = (.bool r0)) := by
  unfold ledger_Letters_c1 at hm
  refine calls_of_W Try.func80 rfl Try.ntmps80 (Nat.le_of_ble_eq_true rfl) ?_
  have H := Inv.start (w := w0)
  refine W.seq ?_
  refine W.region ?_
  refine O.assign (v := (.bool false)) rfl rfl rfl ?_
  refine WL.nil ?_
  refine W.seq ?_
  obtain ⟨t1, hy1, hm⟩ := bind_some hm
  refine W.drawN 3 (fun f => f 5 = (.int .i64 t1) ∧ f 6 = (.int .i64 c0)) fol (by kernel_rfl) ?_ ?_
  · skip
    refine PL.of (fun _ w8 _ hx => O.move (v := (.int .i64 a0)) rfl rfl rfl (WL.nil ⟨rfl, hx⟩)) ?_
    refine PL.of (fun _ w8 _ hx => O.call Try.call81 rfl rfl rfl (c_ledger_size _ hy1) (by rintro _ _ hb rfl; exact WL.nil ⟨rfl, hx.trans (hb.mono hx.size)⟩)) ?_
    refine PL.of (fun _ w8 _ hx => by have H := H.ext hx; exact O.load sc3 rfl rfl rfl (cells_mono hc0 H.base 0 _ rfl) (WL.nil ⟨rfl, hx⟩)) ?_
    refine PL.nil ?_
    exact ⟨rfl, rfl⟩
  · skip
    rintro f w ⟨hf5, hf6⟩ hmd hx
    have H := H.ext hx
    obtain ⟨u1, rfl⟩ : ∃ u1, f = (upd (upd u1 5 (.int .i64 t1)) 6 (.int .i64 c0)) := ⟨f, by rw [upd_self hf5, upd_self hf6]⟩
    refine O.gtr rfl rfl rfl rfl ?_
    refine O.assign (v := (.bool (decide (c0 < t1)))) rfl rfl rfl ?_
    refine WL.nil ?_
    refine W.ret ?_
    have hq : (decide (c0 < t1)) = r0 := Option.some.inj (show some (decide (c0 < t1)) = some r0 from hm)
    subst hq
    exact ends1 Try.results80 rfl ⟨_, rfl, H.base, rfl⟩

theorem c_ledger_Letters {w0 : World} (va0 : Value) (a0 : (List GEntry)) (ha0 : SliceR w0 va0 a0) (a1 : Int) {r0 : (List Int)} {r1 : Int} (hm : ledger_Letters a0 a1 = some (r0, r1)) :
    Calls Try.prog 41 #[va0, (.int .i64 a1)] w0 (Ret w0 fun w v => ∃ vr0 : Value, v = .tuple #[vr0, (.int .i64 r1)] ∧ OwnR w0 w vr0 3 r0) := by
  unfold ledger_Letters at hm
  refine calls_of_W Try.func41 rfl Try.ntmps41 (Nat.le_of_ble_eq_true rfl) ?_
  have H := Inv.start (w := w0)
  refine W.seq ?_
  refine W.region ?_
  refine O.box [(.int .i64 a1)] H rfl rfl rfl rfl ?_
  intro b1 w1 H hb1
  have H := H.addNil (α := Int) (E := 3)
  refine O.assign (v := (.slice none 0 0)) rfl rfl rfl ?_
  refine O.assign (v := (.int .i64 0)) rfl rfl rfl ?_
  refine WL.nil ?_
  refine W.seq ?_
  refine W.block ?_
  refine W.seq ?_
  refine W.region ?_
  refine O.move (v := va0) rfl rfl rfl ?_
  obtain ⟨t1, hy1, hm⟩ := bind_some hm
  refine O.call Try.call20 rfl rfl rfl (c_ledger_Valid _ _ (H.arg ha0) hy1) ?_
  rintro _ w2 hb2 rfl
  have H := H.ext hb2
  refine O.not rfl rfl rfl ?_
  refine O.assign (v := (.bool (!t1))) rfl rfl rfl ?_
  refine WL.nil ?_
  rcases ite_some hm with ⟨hc1, hm⟩ | ⟨hc1, hm⟩
  · refine W.cond_true (congrArg Value.bool hc1) ?_
    refine W.seq ?_
    refine W.region ?_
    have H := H.addNil (α := Int) (E := 3)
    refine O.assign (v := (.slice none 0 0)) rfl rfl rfl ?_
    refine O.assign (v := (.int .i64 1)) rfl rfl rfl ?_
    refine WL.nil ?_
    refine W.ret ?_
    have hq : (([] : List Int), 1) = (r0, r1) := Option.some.inj (show some (([] : List Int), 1) = some (r0, r1) from hm)
    obtain ⟨he0, hq0⟩ := Prod.mk.inj hq; clear hq; subst he0
    subst hq0
    exact ends2 Try.results41 rfl rfl ⟨_, rfl, H.base, ⟨_, rfl, H.ownR 2 rfl⟩⟩
  · refine W.cond_false (congrArg Value.bool hc1) ?_
    refine W.seq ?_
    refine W.region ?_
    refine O.load sc3 rfl rfl rfl (H.cell 0 rfl 0 _ rfl) ?_
    obtain ⟨t2, hy2, hm⟩ := bind_some hm
    refine O.call Try.call71 rfl rfl rfl (c_ledger_within _ _ _ hy2) ?_
    rintro _ w3 hb3 rfl
    have H := H.ext hb3
    refine O.not rfl rfl rfl ?_
    refine O.assign (v := (.bool (!t2))) rfl rfl rfl ?_
    refine WL.nil ?_
    rcases ite_some hm with ⟨hc2, hm⟩ | ⟨hc2, hm⟩
    · refine W.cond_true (congrArg Value.bool hc2) ?_
      refine W.seq ?_
      refine W.region ?_
      have H := H.addNil (α := Int) (E := 3)
      refine O.assign (v := (.slice none 0 0)) rfl rfl rfl ?_
      refine O.assign (v := (.int .i64 7)) rfl rfl rfl ?_
      refine WL.nil ?_
      refine W.ret ?_
      have hq : (([] : List Int), 7) = (r0, r1) := Option.some.inj (show some (([] : List Int), 7) = some (r0, r1) from hm)
      obtain ⟨he0, hq0⟩ := Prod.mk.inj hq; clear hq; subst he0
      subst hq0
      exact ends2 Try.results41 rfl rfl ⟨_, rfl, H.base, ⟨_, rfl, H.ownR 2 rfl⟩⟩
    · refine W.cond_false (congrArg Value.bool hc2) ?_
      refine W.skip ?_
      refine W.seq ?_
      refine W.region ?_
      refine O.move (v := va0) rfl rfl rfl ?_
      refine O.makeFunc rfl rfl rfl rfl ?_
      obtain ⟨t3, hy3, hm⟩ := bind_some hm
      refine O.call Try.call76 rfl rfl rfl (c_ledger_those _ _ (H.arg ha0) _ (fun x0 => ledger_Letters_c1 x0 a1) (fun w hw x0 _ hy => callsV_mk Try.call80 (c_ledger_Letters_c1 x0 _ a1 (cells_mono (H.cell 0 rfl) hw) hy)) rfl hy3) ?_
      rintro v1 w4 hb4 ho1
      have H := H.addOwn hb4 ho1
      refine O.assign (v := v1) rfl rfl rfl ?_
      refine O.assign (v := (.int .i64 0)) rfl rfl rfl ?_
      refine WL.nil ?_
      refine W.ret ?_
      have hq : (t3, 0) = (r0, r1) := Option.some.inj (show some (t3, 0) = some (r0, r1) from hm)
      obtain ⟨he0, hq0⟩ := Prod.mk.inj hq; clear hq; subst he0
      subst hq0
      exact ends2 Try.results41 rfl rfl ⟨_, rfl, H.base, ⟨_, rfl, H.ownR 2 rfl⟩⟩

theorem c_ledger_Streak_c1 {w0 : World} (a0 : Int) (pc0 : Addr) (c0 : Int) (hc0 : ∀ j c, (Flat.cells c0)[j]? = some c → w0.cell? (pc0.add j) = some c) {r0 : Bool} (hm : ledger_Streak_c1 a0 c0 = some r0) :
    Calls Try.prog 82 #[(.int .i64 a0), (.pointer (some pc0))] w0 (Ret w0 fun _ v => v = (.bool r0)) := by
  unfold ledger_Streak_c1 at hm
  refine calls_of_W Try.func82 rfl Try.ntmps82 (Nat.le_of_ble_eq_true rfl) ?_
  have H := Inv.start (w := w0)
  refine W.seq ?_
  refine W.region ?_
  refine O.assign (v := (.bool false)) rfl rfl rfl ?_
  refine WL.nil ?_
  refine W.seq ?_
  obtain ⟨t1, hy1, hm⟩ := bind_some hm
  refine W.drawN 3 (fun f => f 5 = (.int .i64 t1) ∧ f 6 = (.int .i64 c0)) fol (by kernel_rfl) ?_ ?_
  · skip
    refine PL.of (fun _ w8 _ hx => O.move (v := (.int .i64 a0)) rfl rfl rfl (WL.nil ⟨rfl, hx⟩)) ?_
    refine PL.of (fun _ w8 _ hx => O.call Try.call81 rfl rfl rfl (c_ledger_size _ hy1) (by rintro _ _ hb rfl; exact WL.nil ⟨rfl, hx.trans (hb.mono hx.size)⟩)) ?_
    refine PL.of (fun _ w8 _ hx => by have H := H.ext hx; exact O.load sc3 rfl rfl rfl (cells_mono hc0 H.base 0 _ rfl) (WL.nil ⟨rfl, hx⟩)) ?_
    refine PL.nil ?_
    exact ⟨rfl, rfl⟩
  · skip
    rintro f w ⟨hf5, hf6⟩ hmd hx
    have H := H.ext hx
    obtain ⟨u1, rfl⟩ : ∃ u1, f = (upd (upd u1 5 (.int .i64 t1)) 6 (.int .i64 c0)) := ⟨f, by rw [upd_self hf5, upd_self hf6]⟩
    refine O.leq rfl rfl rfl rfl ?_
    refine O.assign (v := (.bool (decide (t1 ≤ c0)))) rfl rfl rfl ?_
    refine WL.nil ?_
    refine W.ret ?_
    have hq : (decide (t1 ≤ c0)) = r0 := Option.some.inj (show some (decide (t1 ≤ c0)) = some r0 from hm)
    subst hq
    exact ends1 Try.results82 rfl ⟨_, rfl, H.base, rfl⟩

set_option maxRecDepth 20000 in
theorem c_ledger_Streak {w0 : World} (va0 : Value) (a0 : (List GEntry)) (ha0 : SliceR w0 va0 a0) (a1 : Int) {r0 : Int} {r1 : Int} {r2 : Int} (hm : ledger_Streak a0 a1 = some (r0, r1, r2)) :
    Calls Try.prog 42 #[va0, (.int .i64 a1)] w0 (Ret w0 fun _ v => v = .tuple #[(.int .i64 r0), (.int .i64 r1), (.int .i64 r2)]) := by
  unfold ledger_Streak at hm
  refine calls_of_W Try.func42 rfl Try.ntmps42 (Nat.le_of_ble_eq_true rfl) ?_
  have H := Inv.start (w := w0)
  refine W.seq ?_
  refine W.region ?_
  refine O.box [(.int .i64 a1)] H rfl rfl rfl rfl ?_
  intro b1 w1 H hb1
  refine O.assign (v := (.int .i64 0)) rfl rfl rfl ?_
  refine O.assign (v := (.int .i64 0)) rfl rfl rfl ?_
  refine O.assign (v := (.int .i64 0)) rfl rfl rfl ?_
  refine WL.nil ?_
  refine W.seq ?_
  refine W.block ?_
  refine W.seq ?_
  refine W.region ?_
  refine O.move (v := va0) rfl rfl rfl ?_
  obtain ⟨t1, hy1, hm⟩ := bind_some hm
  refine O.call Try.call20 rfl rfl rfl (c_ledger_Valid _ _ (H.arg ha0) hy1) ?_
  rintro _ w2 hb2 rfl
  have H := H.ext hb2
  refine O.not rfl rfl rfl ?_
  refine O.assign (v := (.bool (!t1))) rfl rfl rfl ?_
  refine WL.nil ?_
  rcases ite_some hm with ⟨hc1, hm⟩ | ⟨hc1, hm⟩
  · refine W.cond_true (congrArg Value.bool hc1) ?_
    refine W.seq ?_
    refine W.region ?_
    refine O.assign (v := (.int .i64 0)) rfl rfl rfl ?_
    refine O.assign (v := (.int .i64 0)) rfl rfl rfl ?_
    refine O.assign (v := (.int .i64 1)) rfl rfl rfl ?_
    refine WL.nil ?_
    refine W.ret ?_
    have hq : (0, 0, 1) = (r0, r1, r2) := Option.some.inj (show some (0, 0, 1) = some (r0, r1, r2) from hm)
    obtain ⟨he0, hq0⟩ := Prod.mk.inj hq; clear hq; subst he0
    obtain ⟨he1, hq1⟩ := Prod.mk.inj hq0; clear hq0; subst he1
    subst hq1
    exact ends3 Try.results42 rfl rfl rfl ⟨_, rfl, H.base, rfl⟩
  · refine W.cond_false (congrArg Value.bool hc1) ?_
    refine W.seq ?_
    refine W.region ?_
    refine O.load sc3 rfl rfl rfl (H.cell 0 rfl 0 _ rfl) ?_
    obtain ⟨t2, hy2, hm⟩ := bind_some hm
    refine O.call Try.call71 rfl rfl rfl (c_ledger_within _ _ _ hy2) ?_
    rintro _ w3 hb3 rfl
    have H := H.ext hb3
    refine O.not rfl rfl rfl ?_
    refine O.assign (v := (.bool (!t2))) rfl rfl rfl ?_
    refine WL.nil ?_
    rcases ite_some hm with ⟨hc2, hm⟩ | ⟨hc2, hm⟩
    · refine W.cond_true (congrArg Value.bool hc2) ?_
      refine W.seq ?_
      refine W.region ?_
      refine O.assign (v := (.int .i64 0)) rfl rfl rfl ?_
      refine O.assign (v := (.int .i64 0)) rfl rfl rfl ?_
      refine O.assign (v := (.int .i64 7)) rfl rfl rfl ?_
      refine WL.nil ?_
      refine W.ret ?_
      have hq : (0, 0, 7) = (r0, r1, r2) := Option.some.inj (show some (0, 0, 7) = some (r0, r1, r2) from hm)
      obtain ⟨he0, hq0⟩ := Prod.mk.inj hq; clear hq; subst he0
      obtain ⟨he1, hq1⟩ := Prod.mk.inj hq0; clear hq0; subst he1
      subst hq1
      exact ends3 Try.results42 rfl rfl rfl ⟨_, rfl, H.base, rfl⟩
    · refine W.cond_false (congrArg Value.bool hc2) ?_
      refine W.skip ?_
      refine W.seq ?_
      refine W.region ?_
      refine O.assign (v := (.int .i64 0)) rfl rfl rfl ?_
      refine WL.nil ?_
      refine W.seq ?_
      refine W.region ?_
      refine O.assign (v := (.int .i64 (-2))) rfl rfl rfl ?_
      refine WL.nil ?_
      refine W.seq ?_
      refine W.seq ?_
      refine W.region ?_
      refine O.move (v := va0) rfl rfl rfl ?_
      refine O.makeFunc rfl rfl rfl rfl ?_
      obtain ⟨t3, hy3, hm⟩ := bind_some hm
      refine O.call Try.call76 rfl rfl rfl (c_ledger_those _ _ (H.arg ha0) _ (fun x0 => ledger_Streak_c1 x0 a1) (fun w hw x0 _ hy => callsV_mk Try.call82 (c_ledger_Streak_c1 x0 _ a1 (cells_mono (H.cell 0 rfl) hw) hy)) rfl hy3) ?_
      rintro v1 w4 hb4 ho1
      have H := H.addOwn hb4 ho1
      refine O.lenS Try.underlying39 (H.own 1 rfl) rfl rfl rfl ?_
      refine O.move (v := (.int .i64 0)) rfl rfl rfl ?_
      refine WL.nil ?_
      obtain ⟨⟨s1, s2⟩, hm1, hm⟩ := bind_some hm
      refine W.via (fun f w => f 4 = (.int .i64 s1) ∧ f 5 = (.int .i64 s2) ∧ Inv w0 w []) ?_ ?_
      · skip
        refine W.block ?_
        have H := H.keep [1] [ownI (α := Int) v1 3 t3] rfl (by decide)
        refine W.rangeL (i := 0) hm1 (fun rem ik1 s f w => ∃ z5 : Int, ∃ z6 : Int, ∃ z7 : Int, ∃ z8 : Int, (z5, z6, z7, z8) = s ∧ t3.drop ik1 = rem ∧ f 23 = .int .i64 (ik1 : Int) ∧ f 22 = (.int .i64 ((t3.length : Nat) : Int)) ∧ f 4 = (.int .i64 z5) ∧ f 5 = (.int .i64 z6) ∧ f 7 = (.int .i64 z7) ∧ f 8 = (.int .i64 z8) ∧ f 21 = v1 ∧ Inv w0 w [ownI (α := Int) v1 3 t3]) ?_ ?_ ?_
        · skip
          exact ⟨_, _, _, _, rfl, List.drop_zero, rfl, rfl, rfl, rfl, rfl, rfl, rfl, H⟩
        · skip
          rintro yk1 xs ik1 _ st f w ⟨z5, z6, z7, z8, rfl, hdropk1, hf23, hf22, hf4, hf5, hf7, hf8, hf21, H⟩ hm2
          have hltk1 := drop_lt hdropk1; have hixk1 := drop_idx hdropk1
          obtain ⟨u1, rfl⟩ : ∃ u1, f = (upd (upd (upd (upd (upd (upd (upd u1 23 (.int .i64 (ik1 : Int))) 22 (.int .i64 ((t3.length : Nat) : Int))) 4 (.int .i64 z5)) 5 (.int .i64 z6)) 7 (.int .i64 z7)) 8 (.int .i64 z8)) 21 v1) := ⟨f, by rw [upd_self hf23, upd_self hf22, upd_self hf4, upd_self hf5, upd_self hf7, upd_self hf8, upd_self hf21]⟩
          have hinck1 := addI_lt hltk1 (H.own 0 rfl).len_le
          refine W.seq ?_
          refine W.region ?_
          refine O.lss rfl rfl rfl rfl ?_
          refine WL.nil ?_
          refine W.seq ?_
          refine W.cond_true (congrArg Value.bool (decide_eq_true hltk1)) ?_
          refine W.skip ?_
          refine W.seq ?_
          obtain ⟨⟨s3, s4, s5, s6⟩, hm3, hm2⟩ := bind_some hm2
          refine W.via (fun f w => f 4 = (.int .i64 s3) ∧ f 5 = (.int .i64 s4) ∧ f 7 = (.int .i64 s5) ∧ f 8 = (.int .i64 s6) ∧ f 21 = v1 ∧ f 22 = (.int .i64 ((t3.length : Nat) : Int)) ∧ f 23 = (.int .i64 (ik1 : Int)) ∧ Inv w0 w [ownI (α := Int) v1 3 t3]) ?_ ?_
          · skip
            refine W.block ?_
            refine W.seq ?_
            refine W.region ?_
            refine O.indexAddr Try.underlying39 sz3 (H.own 0 rfl) hixk1 rfl rfl rfl rfl ?_
            intro p1 hp1
            refine O.load sc3 rfl rfl rfl (hp1.flat 0 _ rfl) ?_
            refine O.assign (v := (.int .i64 yk1)) rfl rfl rfl ?_
            refine WL.nil ?_
            refine W.seq ?_
            refine W.seq ?_
            refine W.region ?_
            refine O.move (v := (.int .i64 yk1)) rfl rfl rfl ?_
            refine O.move (v := (.int .i64 z8)) rfl rfl rfl ?_
            obtain ⟨t4, ht4, hm3⟩ := bind_some hm3
            refine O.add rfl rfl rfl rfl ht4 ?_
            refine O.neq rfl rfl rfl rfl ?_
            refine WL.nil ?_
            obtain ⟨s7, hm4, hm3⟩ := bind_some hm3
            refine W.via (fun f w => f 4 = (.int .i64 z5) ∧ f 5 = (.int .i64 z6) ∧ f 7 = (.int .i64 s7) ∧ f 10 = (.int .i64 yk1) ∧ f 21 = v1 ∧ f 22 = (.int .i64 ((t3.length : Nat) : Int)) ∧ f 23 = (.int .i64 (ik1 : Int)) ∧ Inv w0 w [ownI (α := Int) v1 3 t3]) ?_ ?_
            · skip
              rcases ite_some hm4 with ⟨hc3, hm4⟩ | ⟨hc3, hm4⟩
              · refine W.cond_true (congrArg Value.bool hc3) ?_
                refine W.region ?_
                refine O.assign (v := (.int .i64 0)) rfl rfl rfl ?_
                refine WL.nil ?_
                have hq : 0 = s7 := Option.some.inj (show some 0 = some s7 from hm4)
                subst hq
                exact ⟨rfl, rfl, rfl, rfl, rfl, rfl, rfl, H⟩
              · refine W.cond_false (congrArg Value.bool hc3) ?_
                refine W.skip ?_
                have hq : z7 = s7 := Option.some.inj (show some z7 = some s7 from hm4)
                subst hq
                exact ⟨rfl, rfl, rfl, rfl, rfl, rfl, rfl, H⟩
            · skip
              rintro f w ⟨hf4, hf5, hf7, hf10, hf21, hf22, hf23, H⟩
              obtain ⟨u2, rfl⟩ : ∃ u2, f = (upd (upd (upd (upd (upd (upd (upd u2 4 (.int .i64 z5)) 5 (.int .i64 z6)) 7 (.int .i64 s7)) 10 (.int .i64 yk1)) 21 v1) 22 (.int .i64 ((t3.length : Nat) : Int))) 23 (.int .i64 (ik1 : Int))) := ⟨f, by rw [upd_self hf4, upd_self hf5, upd_self hf7, upd_self hf10, upd_self hf21, upd_self hf22, upd_self hf23]⟩
              refine W.seq ?_
              refine W.region ?_
              refine O.move (v := (.int .i64 s7)) rfl rfl rfl ?_
              obtain ⟨t5, ht5, hm3⟩ := bind_some hm3
              refine O.add rfl rfl rfl rfl ht5 ?_
              refine O.assign (v := (.int .i64 t5)) rfl rfl rfl ?_
              refine WL.nil ?_
              refine W.seq ?_
              refine W.region ?_
              refine O.move (v := (.int .i64 yk1)) rfl rfl rfl ?_
              refine O.assign (v := (.int .i64 yk1)) rfl rfl rfl ?_
              refine WL.nil ?_
              refine W.seq ?_
              refine W.region ?_
              refine O.move (v := (.int .i64 t5)) rfl rfl rfl ?_
              refine O.move (v := (.int .i64 z6)) rfl rfl rfl ?_
              refine O.gtr rfl rfl rfl rfl ?_
              refine WL.nil ?_
              obtain ⟨⟨s8, s9⟩, hm5, hm3⟩ := bind_some hm3
              refine W.via (fun f w => f 4 = (.int .i64 s8) ∧ f 5 = (.int .i64 s9) ∧ f 7 = (.int .i64 t5) ∧ f 8 = (.int .i64 yk1) ∧ f 21 = v1 ∧ f 22 = (.int .i64 ((t3.length : Nat) : Int)) ∧ f 23 = (.int .i64 (ik1 : Int)) ∧ Inv w0 w [ownI (α := Int) v1 3 t3]) ?_ ?_
              · skip
                rcases ite_some hm5 with ⟨hc4, hm5⟩ | ⟨hc4, hm5⟩
                · refine W.cond_true (congrArg Value.bool hc4) ?_
                  refine W.region ?_
                  refine O.move (v := (.int .i64 yk1)) rfl rfl rfl ?_
                  refine O.move (v := (.int .i64 t5)) rfl rfl rfl ?_
                  obtain ⟨t6, ht6, hm5⟩ := bind_some hm5
                  refine O.sub rfl rfl rfl rfl ht6 ?_
                  obtain ⟨t7, ht7, hm5⟩ := bind_some hm5
                  refine O.add rfl rfl rfl rfl ht7 ?_
                  refine O.move (v := (.int .i64 t5)) rfl rfl rfl ?_
                  refine O.assign (v := (.int .i64 t7)) rfl rfl rfl ?_
                  refine O.assign (v := (.int .i64 t5)) rfl rfl rfl ?_
                  refine WL.nil ?_
                  have hq : (t7, t5) = (s8, s9) := Option.some.inj (show some (t7, t5) = some (s8, s9) from hm5)
                  obtain ⟨he0, hq0⟩ := Prod.mk.inj hq; clear hq; subst he0
                  subst hq0
                  exact ⟨rfl, rfl, rfl, rfl, rfl, rfl, rfl, H⟩
                · refine W.cond_false (congrArg Value.bool hc4) ?_
                  refine W.skip ?_
                  have hq : (z5, z6) = (s8, s9) := Option.some.inj (show some (z5, z6) = some (s8, s9) from hm5)
                  obtain ⟨he0, hq0⟩ := Prod.mk.inj hq; clear hq; subst he0
                  subst hq0
                  exact ⟨rfl, rfl, rfl, rfl, rfl, rfl, rfl, H⟩
              · skip
                rintro f w ⟨hf4, hf5, hf7, hf8, hf21, hf22, hf23, H⟩
                obtain ⟨u3, rfl⟩ : ∃ u3, f = (upd (upd (upd (upd (upd (upd (upd u3 4 (.int .i64 s8)) 5 (.int .i64 s9)) 7 (.int .i64 t5)) 8 (.int .i64 yk1)) 21 v1) 22 (.int .i64 ((t3.length : Nat) : Int))) 23 (.int .i64 (ik1 : Int))) := ⟨f, by rw [upd_self hf4, upd_self hf5, upd_self hf7, upd_self hf8, upd_self hf21, upd_self hf22, upd_self hf23]⟩
                have hq : (s8, s9, t5, yk1) = (s3, s4, s5, s6) := Option.some.inj (show some (s8, s9, t5, yk1) = some (s3, s4, s5, s6) from hm3)
                obtain ⟨he0, hq0⟩ := Prod.mk.inj hq; clear hq; subst he0
                obtain ⟨he1, hq1⟩ := Prod.mk.inj hq0; clear hq0; subst he1
                obtain ⟨he2, hq2⟩ := Prod.mk.inj hq1; clear hq1; subst he2
                subst hq2
                exact ⟨rfl, rfl, rfl, rfl, rfl, rfl, rfl, H⟩
          · skip
            rintro f w ⟨hf4, hf5, hf7, hf8, hf21, hf22, hf23, H⟩
            obtain ⟨u4, rfl⟩ : ∃ u4, f = (upd (upd (upd (upd (upd (upd (upd u4 4 (.int .i64 s3)) 5 (.int .i64 s4)) 7 (.int .i64 s5)) 8 (.int .i64 s6)) 21 v1) 22 (.int .i64 ((t3.length : Nat) : Int))) 23 (.int .i64 (ik1 : Int))) := ⟨f, by rw [upd_self hf4, upd_self hf5, upd_self hf7, upd_self hf8, upd_self hf21, upd_self hf22, upd_self hf23]⟩
            refine W.region ?_
            refine O.add rfl rfl rfl rfl hinck1 ?_
            refine O.move (v := .int .i64 ((ik1 : Int) + 1)) rfl rfl rfl ?_
            refine WL.nil ?_
            obtain rfl := Option.some.inj hm2
            exact ⟨_, rfl, _, _, _, _, rfl, drop_next hdropk1, rfl, rfl, rfl, rfl, rfl, rfl, rfl, H⟩
        · skip
          rintro ik1 _ f w ⟨z5, z6, z7, z8, rfl, hdropk1, hf23, hf22, hf4, hf5, hf7, hf8, hf21, H⟩ hfin
          have hltk1 := drop_end hdropk1
          obtain ⟨u5, rfl⟩ : ∃ u5, f = (upd (upd (upd (upd (upd (upd (upd u5 23 (.int .i64 (ik1 : Int))) 22 (.int .i64 ((t3.length : Nat) : Int))) 4 (.int .i64 z5)) 5 (.int .i64 z6)) 7 (.int .i64 z7)) 8 (.int .i64 z8)) 21 v1) := ⟨f, by rw [upd_self hf23, upd_self hf22, upd_self hf4, upd_self hf5, upd_self hf7, upd_self hf8, upd_self hf21]⟩
          refine W.seq ?_
          refine W.region ?_
          refine O.lss rfl rfl rfl rfl ?_
          refine WL.nil ?_
          refine W.seq ?_
          refine W.cond_false (congrArg Value.bool (decide_eq_false hltk1)) ?_
          refine W.exit ?_
          have hq : (z5, z6) = (s1, s2) := hfin
          obtain ⟨he0, hq0⟩ := Prod.mk.inj hq; clear hq; subst he0
          subst hq0
          have H := H.keep [] [] rfl (by decide)
          refine xT rfl ?_
          exact ⟨rfl, rfl, H⟩
      · skip
        rintro f w ⟨hf4, hf5, H⟩
        obtain ⟨u6, rfl⟩ : ∃ u6, f = (upd (upd u6 4 (.int .i64 s1)) 5 (.int .i64 s2)) := ⟨f, by rw [upd_self hf4, upd_self hf5]⟩
        refine W.seq ?_
        refine W.seq ?_
        refine W.region ?_
        refine O.move (v := (.int .i64 s2)) rfl rfl rfl ?_
        refine O.eql rfl rfl rfl rfl ?_
        refine WL.nil ?_
        rcases ite_some hm with ⟨hc5, hm⟩ | ⟨hc5, hm⟩
        · refine W.cond_true (congrArg Value.bool hc5) ?_
          refine W.seq ?_
          refine W.region ?_
          refine O.assign (v := (.int .i64 0)) rfl rfl rfl ?_
          refine O.assign (v := (.int .i64 0)) rfl rfl rfl ?_
          refine O.assign (v := (.int .i64 8)) rfl rfl rfl ?_
          refine WL.nil ?_
          refine W.ret ?_
          have hq : (0, 0, 8) = (r0, r1, r2) := Option.some.inj (show some (0, 0, 8) = some (r0, r1, r2) from hm)
          obtain ⟨he0, hq0⟩ := Prod.mk.inj hq; clear hq; subst he0
          obtain ⟨he1, hq1⟩ := Prod.mk.inj hq0; clear hq0; subst he1
          subst hq1
          exact ends3 Try.results42 rfl rfl rfl ⟨_, rfl, H.base, rfl⟩
        · refine W.cond_false (congrArg Value.bool hc5) ?_
          refine W.skip ?_
          refine W.seq ?_
          refine W.region ?_
          refine O.move (v := (.int .i64 s1)) rfl rfl rfl ?_
          refine O.move (v := (.int .i64 s2)) rfl rfl rfl ?_
          refine O.assign (v := (.int .i64 s1)) rfl rfl rfl ?_
          refine O.assign (v := (.int .i64 s2)) rfl rfl rfl ?_
          refine O.assign (v := (.int .i64 0)) rfl rfl rfl ?_
          refine WL.nil ?_
          refine W.ret ?_
          have hq : (s1, s2, 0) = (r0, r1, r2) := Option.some.inj (show some (s1, s2, 0) = some (r0, r1, r2) from hm)
          obtain ⟨he0, hq0⟩ := Prod.mk.inj hq; clear hq; subst he0
          obtain ⟨he1, hq1⟩ := Prod.mk.inj hq0; clear hq0; subst he1
          subst hq1
          exact ends3 Try.results42 rfl rfl rfl ⟨_, rfl, H.base, rfl⟩

set_option maxRecDepth 20000 in
theorem c_ledger_Worst {w0 : World} (va0 : Value) (a0 : (List GEntry)) (ha0 : SliceR w0 va0 a0) {r0 : Int} {r1 : Int} (hm : ledger_Worst a0 = some (r0, r1)) :
    Calls Try.prog 43 #[va0] w0 (Ret w0 fun _ v => v = .tuple #[(.int .i64 r0), (.int .i64 r1)]) := by
  unfold ledger_Worst at hm
  refine calls_of_WM Try.func43 rfl Try.ntmps43 (Nat.le_of_ble_eq_true rfl) ?_
  have H := Inv.startM (w0 := w0)
  have hmk : (fr0 #[va0]).marks = [] := rfl
  refine W.seq ?_
  refine W.region ?_
  refine O.assign (v := (.int .i64 0)) rfl rfl rfl ?_
  refine O.assign (v := (.int .i64 0)) rfl rfl rfl ?_
  refine WL.nil ?_
  refine W.seq ?_
  refine W.seq ?_
  refine W.region ?_
  refine O.move (v := va0) rfl rfl rfl ?_
  obtain ⟨t1, hy1, hm⟩ := bind_some hm
  refine O.call Try.call20 rfl rfl rfl (c_ledger_Valid _ _ (H.arg ha0) hy1) ?_
  rintro _ w1 hb1 rfl
  have H := H.ext hb1
  refine O.not rfl rfl rfl ?_
  refine WL.nil ?_
  rcases ite_some hm with ⟨hc1, hm⟩ | ⟨hc1, hm⟩
  · refine W.cond_true (congrArg Value.bool hc1) ?_
    refine W.seq ?_
    refine W.region ?_
    refine O.assign (v := (.int .i64 0)) rfl rfl rfl ?_
    refine O.assign (v := (.int .i64 1)) rfl rfl rfl ?_
    refine WL.nil ?_
    refine W.ret ?_
    refine endsM_mk H hmk ?_
    intro w H _
    have hq : (0, 1) = (r0, r1) := Option.some.inj (show some (0, 1) = some (r0, r1) from hm)
    obtain ⟨he0, hq0⟩ := Prod.mk.inj hq; clear hq; subst he0
    subst hq0
    exact ends2 Try.results43 rfl rfl ⟨_, rfl, H.base, rfl⟩
  · refine W.cond_false (congrArg Value.bool hc1) ?_
    refine W.skip ?_
    refine W.seq ?_
    refine W.region ?_
    refine O.alloc [(.int .i64 0)] ze3 H rfl rfl rfl ?_
    intro b1 w2 H hb2
    refine O.alloc [(.int .i64 0)] ze3 H rfl rfl rfl ?_
    intro b2 w3 H hb3
    refine O.store 1 0 [(.int .i64 0)] [(.int .i64 0)] sz3 H rfl rfl rfl rfl rfl rfl ⟨⟨rfl, rfl⟩, rfl⟩ (one_cons rfl one_nil) ?_
    intro w4 H
    refine O.store 2 0 [(.int .i64 (-1))] [(.int .i64 (-1))] sz3 H rfl rfl rfl rfl rfl rfl ⟨⟨rfl, rfl⟩, rfl⟩ (one_cons rfl one_nil) ?_
    intro w5 H
    refine WL.nil ?_
    refine W.seq ?_
    refine W.seq ?_
    refine W.region ?_
    refine O.move (v := va0) rfl rfl rfl ?_
    obtain ⟨t2, hy2, hm⟩ := bind_some hm
    refine O.call Try.call67 rfl rfl rfl (c_ledger_pageOf _ _ (H.arg ha0) hy2) ?_
    rintro _ w6 hb4 ⟨m1, rfl, ho1a, ho1b⟩
    have H := H.addMap hb4 ho1a ho1b
    refine O.call Try.call83 rfl rfl rfl (c_ledger_page_days m1 t2 (H.mapOk 3 rfl)) ?_
    rintro _ w7 hb5 ⟨b3, b4, ra1, rfl, hM1⟩
    have H := H.addAll hb5 hM1
    refine WL.nil ?_
    obtain ⟨xs1, hxs1, hm⟩ := bind_some hm
    obtain ⟨⟨s1, s2⟩, hm1, hm⟩ := bind_some hm
    refine W.via (fun f w => ∃ ms1 : List Nat, f 4 = (.pointer (some ⟨b1, 0, none⟩)) ∧ f 5 = (.pointer (some ⟨b2, 0, none⟩)) ∧ f.marks = ms1 ∧ Inv w0 w [marksI ms1, boxI b1 3 [(.int .i64 s1)], boxI b2 3 [(.int .i64 s2)]]) ?_ ?_
    · skip
      refine W.block ?_
      refine W.rangeFuncL (α := (Int × Int)) (σ := Int × Int) (X := Int × Int) (xs := xs1) (rep := (repP (α := Int) (β := Int))) hm1 (fun s L => ∃ z3 : Int, ∃ z4 : Int, (z3, z4) = s ∧ L = [boxI b1 3 [(.int .i64 z3)], boxI b2 3 [(.int .i64 z4)], mapI (K := GKey) (V := Int) m1 t2, boxI b3 94 [(.map (some ra1))], boxI b4 57 [(.map (some m1))], daysI ra1 t2]) (fun y j L => match j with | some j => j = 0 ∧ (False) | none => False) rfl Try.call94 rfl (fun _ _ _ h => by rw [h]; rfl) (fun Kp W hs hk => it_ledger_page_days_c1 _ ra1 t2 _ m1 hxs1 fun w1 hw => by obtain ⟨_, _, _, _, ⟨_, _, _, rfl⟩, H⟩ := hk w1 hw; exact ⟨H.cell 6 rfl, H.days 8 rfl, H.cell 7 rfl, H.mapOk 5 rfl⟩) H ⟨_, _, rfl, rfl⟩ ?_ ?_ ?_ ?_
      · skip
        rintro _ rs lp lp2 iz x1 _ st _ w _ ⟨z3, z4, rfl, rfl⟩ rfl hm2 H
        change W _ _ _ _ _ _ _ (upd (upd _ 14 (.int .i64 x1.1)) 15 (.int .i64 x1.2)) w
        refine W.seq ?_
        refine W.region ?_
        refine O.assign (v := (.int .i64 x1.1)) rfl rfl rfl ?_
        refine WL.nil ?_
        refine W.region ?_
        refine O.assign (v := (.int .i64 x1.2)) rfl rfl rfl ?_
        refine WL.nil ?_
        refine ⟨_, H, fun w hsl H => ?_⟩
        obtain ⟨⟨s3, s4⟩, hm3, hm2⟩ := bind_some hm2
        refine W.via (fun f w => f 4 = (.pointer (some ⟨b1, 0, none⟩)) ∧ f 5 = (.pointer (some ⟨b2, 0, none⟩)) ∧ f 13 = (.func (.func 94) #[] #[(.pointer (some ⟨b3, 0, none⟩)), (.pointer (some ⟨b4, 0, none⟩))]) ∧ Inv w0 w [rs, lp2, marksI [], boxI b1 3 [(.int .i64 s3)], boxI b2 3 [(.int .i64 s4)], mapI (K := GKey) (V := Int) m1 t2, boxI b3 94 [(.map (some ra1))], boxI b4 57 [(.map (some m1))], daysI ra1 t2]) ?_ ?_
        · skip
          refine W.block ?_
          refine W.seq ?_
          obtain ⟨t3, hy3, hm3⟩ := bind_some hm3
          refine W.drawN 3 (fun f => f 4 = (.pointer (some ⟨b1, 0, none⟩)) ∧ f 5 = (.pointer (some ⟨b2, 0, none⟩)) ∧ f 6 = (.int .i64 x1.1) ∧ f 7 = (.int .i64 x1.2) ∧ f 13 = (.func (.func 94) #[] #[(.pointer (some ⟨b3, 0, none⟩)), (.pointer (some ⟨b4, 0, none⟩))]) ∧ f 17 = (.int .i64 t3) ∧ f 18 = (.int .i64 z4)) fol (by kernel_rfl) ?_ ?_
          · skip
            refine PL.of (fun _ w8 _ hx => O.move (v := (.int .i64 x1.2)) rfl rfl rfl (WL.nil ⟨rfl, hx⟩)) ?_
            refine PL.of (fun _ w8 _ hx => O.call Try.call81 rfl rfl rfl (c_ledger_size _ hy3) (by rintro _ _ hb rfl; exact WL.nil ⟨rfl, hx.trans (hb.mono hx.size)⟩)) ?_
            refine PL.of (fun _ w8 _ hx => by have H := H.ext hx; exact O.load sc3 rfl rfl rfl (H.cell 4 rfl 0 _ rfl) (WL.nil ⟨rfl, hx⟩)) ?_
            refine PL.nil ?_
            exact ⟨rfl, rfl, rfl, rfl, rfl, rfl, rfl⟩
          · skip
            rintro f w ⟨hf4, hf5, hf6, hf7, hf13, hf17, hf18⟩ hmd hx
            have H := H.ext hx
            obtain ⟨u1, rfl⟩ : ∃ u1, f = (upd (upd (upd (upd (upd (upd (upd u1 4 (.pointer (some ⟨b1, 0, none⟩))) 5 (.pointer (some ⟨b2, 0, none⟩))) 6 (.int .i64 x1.1)) 7 (.int .i64 x1.2)) 13 (.func (.func 94) #[] #[(.pointer (some ⟨b3, 0, none⟩)), (.pointer (some ⟨b4, 0, none⟩))])) 17 (.int .i64 t3)) 18 (.int .i64 z4)) := ⟨f, by rw [upd_self hf4, upd_self hf5, upd_self hf6, upd_self hf7, upd_self hf13, upd_self hf17, upd_self hf18]⟩
            refine O.gtr rfl rfl rfl rfl ?_
            refine WL.nil ?_
            obtain ⟨⟨s5, s6⟩, hm4, hm3⟩ := bind_some hm3
            refine W.via (fun f w => f 4 = (.pointer (some ⟨b1, 0, none⟩)) ∧ f 5 = (.pointer (some ⟨b2, 0, none⟩)) ∧ f 13 = (.func (.func 94) #[] #[(.pointer (some ⟨b3, 0, none⟩)), (.pointer (some ⟨b4, 0, none⟩))]) ∧ Inv w0 w [rs, lp2, marksI [], boxI b1 3 [(.int .i64 s5)], boxI b2 3 [(.int .i64 s6)], mapI (K := GKey) (V := Int) m1 t2, boxI b3 94 [(.map (some ra1))], boxI b4 57 [(.map (some m1))], daysI ra1 t2]) ?_ ?_
            · skip
              rcases ite_some hm4 with ⟨hc2, hm4⟩ | ⟨hc2, hm4⟩
              · refine W.cond_true (congrArg Value.bool hc2) ?_
                refine W.region ?_
                refine O.move (v := (.int .i64 x1.1)) rfl rfl rfl ?_
                refine O.move (v := (.int .i64 x1.2)) rfl rfl rfl ?_
                obtain ⟨t4, hy4, hm4⟩ := bind_some hm4
                refine O.call Try.call81 rfl rfl rfl (c_ledger_size _ hy4) ?_
                rintro _ w8 hb6 rfl
                have H := H.ext hb6
                refine O.store 3 0 [(.int .i64 x1.1)] [(.int .i64 x1.1)] sz3 H rfl rfl rfl rfl rfl rfl ⟨⟨rfl, rfl⟩, rfl⟩ (one_cons rfl one_nil) ?_
                intro w9 H
                refine O.store 4 0 [(.int .i64 t4)] [(.int .i64 t4)] sz3 H rfl rfl rfl rfl rfl rfl ⟨⟨rfl, rfl⟩, rfl⟩ (one_cons rfl one_nil) ?_
                intro w10 H
                refine WL.nil ?_
                have hq : (x1.1, t4) = (s5, s6) := Option.some.inj (show some (x1.1, t4) = some (s5, s6) from hm4)
                obtain ⟨he0, hq0⟩ := Prod.mk.inj hq; clear hq; subst he0
                subst hq0
                exact ⟨rfl, rfl, rfl, H⟩
              · refine W.cond_false (congrArg Value.bool hc2) ?_
                refine W.skip ?_
                have hq : (z3, z4) = (s5, s6) := Option.some.inj (show some (z3, z4) = some (s5, s6) from hm4)
                obtain ⟨he0, hq0⟩ := Prod.mk.inj hq; clear hq; subst he0
                subst hq0
                exact ⟨rfl, rfl, rfl, H⟩
            · skip
              rintro f w ⟨hf4, hf5, hf13, H⟩
              obtain ⟨u2, rfl⟩ : ∃ u2, f = (upd (upd (upd u2 4 (.pointer (some ⟨b1, 0, none⟩))) 5 (.pointer (some ⟨b2, 0, none⟩))) 13 (.func (.func 94) #[] #[(.pointer (some ⟨b3, 0, none⟩)), (.pointer (some ⟨b4, 0, none⟩))])) := ⟨f, by rw [upd_self hf4, upd_self hf5, upd_self hf13]⟩
              have hq : (s5, s6) = (s3, s4) := Option.some.inj (show some (s5, s6) = some (s3, s4) from hm3)
              obtain ⟨he0, hq0⟩ := Prod.mk.inj hq; clear hq; subst he0
              subst hq0
              exact ⟨rfl, rfl, rfl, H⟩
        · skip
          rintro f w ⟨hf4, hf5, hf13, H⟩
          obtain ⟨u3, rfl⟩ : ∃ u3, f = (upd (upd (upd u3 4 (.pointer (some ⟨b1, 0, none⟩))) 5 (.pointer (some ⟨b2, 0, none⟩))) 13 (.func (.func 94) #[] #[(.pointer (some ⟨b3, 0, none⟩)), (.pointer (some ⟨b4, 0, none⟩))])) := ⟨f, by rw [upd_self hf4, upd_self hf5, upd_self hf13]⟩
          obtain rfl := Option.some.inj hm2
          exact ⟨_, _, rfl, ⟨_, _, rfl, rfl⟩, H⟩
      · skip
        rintro D1 _ _ w ⟨z3, z4, rfl, rfl⟩ hfin H
        have hq : (z3, z4) = (s1, s2) := hfin
        obtain ⟨he0, hq0⟩ := Prod.mk.inj hq; clear hq; subst he0
        subst hq0
        have H := H.keep [0, 1, 2] [marksI (D1 :: []), boxI b1 3 [(.int .i64 z3)], boxI b2 3 [(.int .i64 z4)]] rfl (by decide)
        have hmk := congrArg (D1 :: ·) hmk
        exact ⟨_, rfl, rfl, hmk, H⟩
      · skip
        rintro _ _ _ _ ⟨_, h⟩; exact h.elim
      · skip
        rintro _ _ _ h; exact h.elim
    · skip
      rintro f w ⟨ms1, hf4, hf5, hmk, H⟩
      obtain ⟨u4, rfl⟩ : ∃ u4, f = (upd (upd u4 4 (.pointer (some ⟨b1, 0, none⟩))) 5 (.pointer (some ⟨b2, 0, none⟩))) := ⟨f, by rw [upd_self hf4, upd_self hf5]⟩
      refine W.seq ?_
      refine W.seq ?_
      refine W.region ?_
      refine O.load sc3 rfl rfl rfl (H.cell 2 rfl 0 _ rfl) ?_
      refine O.lss rfl rfl rfl rfl ?_
      refine WL.nil ?_
      rcases ite_some hm with ⟨hc3, hm⟩ | ⟨hc3, hm⟩
      · refine W.cond_true (congrArg Value.bool hc3) ?_
        refine W.seq ?_
        refine W.region ?_
        refine O.assign (v := (.int .i64 0)) rfl rfl rfl ?_
        refine O.assign (v := (.int .i64 8)) rfl rfl rfl ?_
        refine WL.nil ?_
        refine W.ret ?_
        refine endsM_mk H hmk ?_
        intro w H _
        have hq : (0, 8) = (r0, r1) := Option.some.inj (show some (0, 8) = some (r0, r1) from hm)
        obtain ⟨he0, hq0⟩ := Prod.mk.inj hq; clear hq; subst he0
        subst hq0
        exact ends2 Try.results43 rfl rfl ⟨_, rfl, H.base, rfl⟩
      · refine W.cond_false (congrArg Value.bool hc3) ?_
        refine W.skip ?_
        refine W.seq ?_
        refine W.region ?_
        refine O.load sc3 rfl rfl rfl (H.cell 1 rfl 0 _ rfl) ?_
        refine O.assign (v := (.int .i64 s1)) rfl rfl rfl ?_
        refine O.assign (v := (.int .i64 0)) rfl rfl rfl ?_
        refine WL.nil ?_
        refine W.ret ?_
        refine endsM_mk H hmk ?_
        intro w H _
        have hq : (s1, 0) = (r0, r1) := Option.some.inj (show some (s1, 0) = some (r0, r1) from hm)
        obtain ⟨he0, hq0⟩ := Prod.mk.inj hq; clear hq; subst he0
        subst hq0
        exact ends2 Try.results43 rfl rfl ⟨_, rfl, H.base, rfl⟩

theorem c_noongunref09_Abs {w0 : World} (a0 : Int) {r0 : Int} (hm : noongunref09_Abs a0 = some r0) :
    Calls Try.prog 44 #[(.int .i64 a0)] w0 (Ret w0 fun _ v => v = (.int .i64 r0)) := by
  unfold noongunref09_Abs at hm
  refine calls_of_W Try.func44 rfl Try.ntmps44 (Nat.le_of_ble_eq_true rfl) ?_
  have H := Inv.start (w := w0)
  refine W.seq ?_
  refine W.region ?_
  refine O.assign (v := (.int .i64 0)) rfl rfl rfl ?_
  refine WL.nil ?_
  refine W.seq ?_
  refine W.seq ?_
  refine W.region ?_
  refine O.move (v := (.int .i64 a0)) rfl rfl rfl ?_
  refine O.lss rfl rfl rfl rfl ?_
  refine WL.nil ?_
  rcases ite_some hm with ⟨hc1, hm⟩ | ⟨hc1, hm⟩
  · refine W.cond_true (congrArg Value.bool hc1) ?_
    refine W.seq ?_
    refine W.region ?_
    refine O.move (v := (.int .i64 a0)) rfl rfl rfl ?_
    obtain ⟨t1, ht1, hm⟩ := bind_some hm
    refine O.neg rfl rfl rfl ht1 ?_
    refine O.assign (v := (.int .i64 t1)) rfl rfl rfl ?_
    refine WL.nil ?_
    refine W.ret ?_
    have hq : t1 = r0 := Option.some.inj (show some t1 = some r0 from hm)
    subst hq
    exact ends1 Try.results44 rfl ⟨_, rfl, H.base, rfl⟩
  · refine W.cond_false (congrArg Value.bool hc1) ?_
    refine W.skip ?_
    refine W.seq ?_
    refine W.region ?_
    refine O.move (v := (.int .i64 a0)) rfl rfl rfl ?_
    refine O.assign (v := (.int .i64 a0)) rfl rfl rfl ?_
    refine WL.nil ?_
    refine W.ret ?_
    have hq : a0 = r0 := Option.some.inj (show some a0 = some r0 from hm)
    subst hq
    exact ends1 Try.results44 rfl ⟨_, rfl, H.base, rfl⟩

set_option maxRecDepth 20000 in
theorem c_noongunlaw09_LedgerLetters {w0 : World} (va0 : Value) (a0 : (List GEntry)) (ha0 : SliceR w0 va0 a0) (a1 : Int) {r0 : Bool} (hm : noongunlaw09_LedgerLetters a0 a1 = some r0) :
    Calls Try.prog 9 #[va0, (.int .i64 a1)] w0 (Ret w0 fun _ v => v = (.bool r0)) := by
  unfold noongunlaw09_LedgerLetters at hm
  refine calls_of_W Try.func9 rfl Try.ntmps9 (Nat.le_of_ble_eq_true rfl) ?_
  have H := Inv.start (w := w0)
  refine W.seq ?_
  refine W.region ?_
  refine O.assign (v := (.bool false)) rfl rfl rfl ?_
  refine WL.nil ?_
  refine W.seq ?_
  refine W.seq ?_
  refine W.region ?_
  refine O.move (v := va0) rfl rfl rfl ?_
  obtain ⟨t1, hy1, hm⟩ := bind_some hm
  refine O.call Try.call22 rfl rfl rfl (c_noongunlaw09_small _ _ (H.arg ha0) hy1) ?_
  rintro _ w1 hb1 rfl
  have H := H.ext hb1
  refine O.not rfl rfl rfl ?_
  refine WL.nil ?_
  rcases ite_some hm with ⟨hc1, hm⟩ | ⟨hc1, hm⟩
  · refine W.cond_true (congrArg Value.bool hc1) ?_
    refine W.seq ?_
    refine W.region ?_
    obtain ⟨t2, hy2, hm⟩ := bind_some hm
    refine O.call Try.call13 rfl rfl rfl (c_noongunlaw09_awake  hy2) ?_
    rintro _ w2 hb2 rfl
    have H := H.ext hb2
    refine O.assign (v := (.bool t2)) rfl rfl rfl ?_
    refine WL.nil ?_
    refine W.ret ?_
    have hq : t2 = r0 := Option.some.inj (show some t2 = some r0 from hm)
    subst hq
    exact ends1 Try.results9 rfl ⟨_, rfl, H.base, rfl⟩
  · refine W.cond_false (congrArg Value.bool hc1) ?_
    refine W.skip ?_
    refine W.seq ?_
    refine W.region ?_
    refine O.move (v := va0) rfl rfl rfl ?_
    refine O.move (v := (.int .i64 a1)) rfl rfl rfl ?_
    obtain ⟨⟨t3, t4⟩, hy3, hm⟩ := bind_some hm
    refine O.call Try.call41 rfl rfl rfl (c_ledger_Letters _ _ (H.arg ha0) _ hy3) ?_
    rintro _ w3 hb3 ⟨v1, rfl, ho1⟩
    have H := H.addOwn hb3 ho1
    refine O.move (v := (.tuple #[v1, (.int .i64 t4)])) rfl rfl rfl ?_
    refine O.extract (v := v1) rfl rfl rfl rfl ?_
    refine O.extract (v := (.int .i64 t4)) rfl rfl rfl rfl ?_
    refine O.assign (v := v1) rfl rfl rfl ?_
    refine O.assign (v := (.int .i64 t4)) rfl rfl rfl ?_
    refine WL.nil ?_
    refine W.seq ?_
    refine W.seq ?_
    refine W.region ?_
    refine O.move (v := (.int .i64 t4)) rfl rfl rfl ?_
    refine O.neq rfl rfl rfl rfl ?_
    refine WL.nil ?_
    rcases ite_some hm with ⟨hc2, hm⟩ | ⟨hc2, hm⟩
    · refine W.cond_true (congrArg Value.bool hc2) ?_
      refine W.seq ?_
      refine W.region ?_
      refine O.move (v := v1) rfl rfl rfl ?_
      refine O.lenS Try.underlying39 (H.own 0 rfl) rfl rfl rfl ?_
      refine O.eql rfl rfl rfl rfl ?_
      refine O.move (v := (.bool (((t3.length : Nat) : Int) == 0))) rfl rfl rfl ?_
      obtain ⟨b1, hm1, hm⟩ := bind_some hm
      refine WL.cut 2 (fun f w => f 40 = .bool b1 ∧ Inv w0 w [ownI (α := Int) v1 3 t3]) ?_ ?_
      · skip
        rcases ite_some hm1 with ⟨hc3, hm1⟩ | ⟨hc3, hm1⟩
        · skip
          refine WL.reset (i := 38) (v := .bool true) (congrArg Value.bool hc3) ?_
          obtain ⟨t5, hy4, hm1⟩ := bind_some hm1
          refine O.call Try.call13 rfl rfl rfl (c_noongunlaw09_awake  hy4) ?_
          rintro _ w4 hb4 rfl
          have H := H.ext hb4
          refine O.pick_true (v := (.bool t5)) rfl rfl rfl rfl ?_
          refine WL.nil ?_
          have hq : t5 = b1 := Option.some.inj (show some t5 = some b1 from hm1)
          subst hq
          exact ⟨rfl, H⟩
        · skip
          refine WL.reset (i := 38) (v := .bool false) (congrArg Value.bool hc3) ?_
          refine O.skip rfl rfl ?_
          refine O.pick_false (v := (.bool false)) rfl rfl rfl rfl ?_
          refine WL.nil ?_
          have hq : false = b1 := Option.some.inj (show some false = some b1 from hm1)
          subst hq
          exact ⟨rfl, H⟩
      · skip
        rintro f w ⟨hf40, H⟩
        obtain ⟨u1, rfl⟩ : ∃ u1, f = (upd u1 40 (.bool b1)) := ⟨f, by rw [upd_self hf40]⟩
        refine O.assign (v := (.bool b1)) rfl rfl rfl ?_
        refine WL.nil ?_
        refine W.ret ?_
        have hq : b1 = r0 := Option.some.inj (show some b1 = some r0 from hm)
        subst hq
        exact ends1 Try.results9 rfl ⟨_, rfl, H.base, rfl⟩
    · refine W.cond_false (congrArg Value.bool hc2) ?_
      refine W.skip ?_
      refine W.seq ?_
      refine W.region ?_
      refine O.move (v := va0) rfl rfl rfl ?_
      obtain ⟨⟨t6, t7⟩, hy5, hm⟩ := bind_some hm
      refine O.call Try.call35 rfl rfl rfl (c_ledger_Days _ _ (H.arg ha0) hy5) ?_
      rintro _ w5 hb5 ⟨v2, rfl, ho2⟩
      have H := H.addOwn hb5 ho2
      refine O.move (v := (.tuple #[v2, (.int .i64 t7)])) rfl rfl rfl ?_
      refine O.extract (v := v2) rfl rfl rfl rfl ?_
      refine O.extract (v := (.int .i64 t7)) rfl rfl rfl rfl ?_
      refine O.assign (v := v2) rfl rfl rfl ?_
      refine O.assign (v := (.int .i64 t7)) rfl rfl rfl ?_
      refine WL.nil ?_
      refine W.seq ?_
      refine W.region ?_
      refine O.move (v := va0) rfl rfl rfl ?_
      refine O.move (v := (.int .i64 a1)) rfl rfl rfl ?_
      obtain ⟨⟨t8, t9, t10⟩, hy6, hm⟩ := bind_some hm
      refine O.call Try.call42 rfl rfl rfl (c_ledger_Streak _ _ (H.arg ha0) _ hy6) ?_
      rintro _ w6 hb6 rfl
      have H := H.ext hb6
      refine O.move (v := (.tuple #[(.int .i64 t8), (.int .i64 t9), (.int .i64 t10)])) rfl rfl rfl ?_
      refine O.extract (v := (.int .i64 t8)) rfl rfl rfl rfl ?_
      refine O.extract (v := (.int .i64 t9)) rfl rfl rfl rfl ?_
      refine O.extract (v := (.int .i64 t10)) rfl rfl rfl rfl ?_
      refine O.assign (v := (.int .i64 t8)) rfl rfl rfl ?_
      refine O.assign (v := (.int .i64 t9)) rfl rfl rfl ?_
      refine O.assign (v := (.int .i64 t10)) rfl rfl rfl ?_
      refine WL.nil ?_
      refine W.seq ?_
      refine W.region ?_
      refine O.move (v := va0) rfl rfl rfl ?_
      obtain ⟨⟨t11, t12⟩, hy7, hm⟩ := bind_some hm
      refine O.call Try.call43 rfl rfl rfl (c_ledger_Worst _ _ (H.arg ha0) hy7) ?_
      rintro _ w7 hb7 rfl
      have H := H.ext hb7
      refine O.move (v := (.tuple #[(.int .i64 t11), (.int .i64 t12)])) rfl rfl rfl ?_
      refine O.extract (v := (.int .i64 t11)) rfl rfl rfl rfl ?_
      refine O.extract (v := (.int .i64 t12)) rfl rfl rfl rfl ?_
      refine O.assign (v := (.int .i64 t11)) rfl rfl rfl ?_
      refine O.assign (v := (.int .i64 t12)) rfl rfl rfl ?_
      refine WL.nil ?_
      refine W.seq ?_
      refine W.seq ?_
      refine W.region ?_
      refine O.move (v := (.int .i64 t7)) rfl rfl rfl ?_
      refine O.neq rfl rfl rfl rfl ?_
      refine O.move (v := (.bool (t7 != 0))) rfl rfl rfl ?_
      refine WL.cut 9 (fun f w => f 0 = va0 ∧ f 1 = (.int .i64 a1) ∧ f 5 = v1 ∧ f 7 = v2 ∧ f 9 = (.int .i64 t8) ∧ f 10 = (.int .i64 t9) ∧ f 11 = (.int .i64 t10) ∧ f 12 = (.int .i64 t11) ∧ f 13 = (.int .i64 t12) ∧ f 69 = .bool ((t7 != 0) || ((t10 == 0) != (decide (((t3.length : Nat) : Int) < ((t6.length : Nat) : Int))))) ∧ Inv w0 w [ownI (α := Int) v1 3 t3, ownI (α := Int) v2 3 t6]) ?_ ?_
      · skip
        rcases bool_ft (t7 != 0) with hc4 | hc4
        · skip
          refine WL.reset (i := 60) (v := .bool false) (congrArg Value.bool hc4) ?_
          refine O.move (v := (.int .i64 t10)) rfl rfl rfl ?_
          refine O.eql rfl rfl rfl rfl ?_
          refine O.move (v := v1) rfl rfl rfl ?_
          refine O.lenS Try.underlying39 (H.own 0 rfl) rfl rfl rfl ?_
          refine O.move (v := v2) rfl rfl rfl ?_
          refine O.lenS Try.underlying39 (H.own 1 rfl) rfl rfl rfl ?_
          refine O.lss rfl rfl rfl rfl ?_
          refine O.neqB Try.underlying4 rfl rfl rfl rfl ?_
          refine O.pick_false (v := (.bool ((t10 == 0) != (decide (((t3.length : Nat) : Int) < ((t6.length : Nat) : Int)))))) rfl rfl rfl rfl ?_
          refine WL.nil ?_
          exact ⟨rfl, rfl, rfl, rfl, rfl, rfl, rfl, rfl, rfl, congrArg Value.bool (or_f hc4), H⟩
        · skip
          refine WL.reset (i := 60) (v := .bool true) (congrArg Value.bool hc4) ?_
          refine O.skip rfl rfl ?_
          refine O.skip rfl rfl ?_
          refine O.skip rfl rfl ?_
          refine O.skip rfl rfl ?_
          refine O.skip rfl rfl ?_
          refine O.skip rfl rfl ?_
          refine O.skip rfl rfl ?_
          refine O.skip rfl rfl ?_
          refine O.pick_true (v := (.bool true)) rfl rfl rfl rfl ?_
          refine WL.nil ?_
          exact ⟨rfl, rfl, rfl, rfl, rfl, rfl, rfl, rfl, rfl, congrArg Value.bool (or_t hc4), H⟩
      · skip
        rintro f w ⟨hf0, hf1, hf5, hf7, hf9, hf10, hf11, hf12, hf13, hf69, H⟩
        obtain ⟨u2, rfl⟩ : ∃ u2, f = (upd (upd (upd (upd (upd (upd (upd (upd (upd (upd u2 0 va0) 1 (.int .i64 a1)) 5 v1) 7 v2) 9 (.int .i64 t8)) 10 (.int .i64 t9)) 11 (.int .i64 t10)) 12 (.int .i64 t11)) 13 (.int .i64 t12)) 69 (.bool ((t7 != 0) || ((t10 == 0) != (decide (((t3.length : Nat) : Int) < ((t6.length : Nat) : Int))))))) := ⟨f, by rw [upd_self hf0, upd_self hf1, upd_self hf5, upd_self hf7, upd_self hf9, upd_self hf10, upd_self hf11, upd_self hf12, upd_self hf13, upd_self hf69]⟩
        refine O.move (v := (.bool ((t7 != 0) || ((t10 == 0) != (decide (((t3.length : Nat) : Int) < ((t6.length : Nat) : Int))))))) rfl rfl rfl ?_
        refine WL.cut 7 (fun f w => f 0 = va0 ∧ f 1 = (.int .i64 a1) ∧ f 5 = v1 ∧ f 7 = v2 ∧ f 9 = (.int .i64 t8) ∧ f 10 = (.int .i64 t9) ∧ f 11 = (.int .i64 t10) ∧ f 12 = (.int .i64 t11) ∧ f 77 = .bool (((t7 != 0) || ((t10 == 0) != (decide (((t3.length : Nat) : Int) < ((t6.length : Nat) : Int))))) || ((t12 == 0) != (decide (0 < ((t6.length : Nat) : Int))))) ∧ Inv w0 w [ownI (α := Int) v1 3 t3, ownI (α := Int) v2 3 t6]) ?_ ?_
        · skip
          rcases bool_ft ((t7 != 0) || ((t10 == 0) != (decide (((t3.length : Nat) : Int) < ((t6.length : Nat) : Int))))) with hc5 | hc5
          · skip
            refine WL.reset (i := 70) (v := .bool false) (congrArg Value.bool hc5) ?_
            refine O.move (v := (.int .i64 t12)) rfl rfl rfl ?_
            refine O.eql rfl rfl rfl rfl ?_
            refine O.move (v := v2) rfl rfl rfl ?_
            refine O.lenS Try.underlying39 (H.own 1 rfl) rfl rfl rfl ?_
            refine O.gtr rfl rfl rfl rfl ?_
            refine O.neqB Try.underlying4 rfl rfl rfl rfl ?_
            refine O.pick_false (v := (.bool ((t12 == 0) != (decide (0 < ((t6.length : Nat) : Int)))))) rfl rfl rfl rfl ?_
            refine WL.nil ?_
            exact ⟨rfl, rfl, rfl, rfl, rfl, rfl, rfl, rfl, congrArg Value.bool (or_f hc5), H⟩
          · skip
            refine WL.reset (i := 70) (v := .bool true) (congrArg Value.bool hc5) ?_
            refine O.skip rfl rfl ?_
            refine O.skip rfl rfl ?_
            refine O.skip rfl rfl ?_
            refine O.skip rfl rfl ?_
            refine O.skip rfl rfl ?_
            refine O.skip rfl rfl ?_
            refine O.pick_true (v := (.bool true)) rfl rfl rfl rfl ?_
            refine WL.nil ?_
            exact ⟨rfl, rfl, rfl, rfl, rfl, rfl, rfl, rfl, congrArg Value.bool (or_t hc5), H⟩
        · skip
          rintro f w ⟨hf0, hf1, hf5, hf7, hf9, hf10, hf11, hf12, hf77, H⟩
          obtain ⟨u3, rfl⟩ : ∃ u3, f = (upd (upd (upd (upd (upd (upd (upd (upd (upd u3 0 va0) 1 (.int .i64 a1)) 5 v1) 7 v2) 9 (.int .i64 t8)) 10 (.int .i64 t9)) 11 (.int .i64 t10)) 12 (.int .i64 t11)) 77 (.bool (((t7 != 0) || ((t10 == 0) != (decide (((t3.length : Nat) : Int) < ((t6.length : Nat) : Int))))) || ((t12 == 0) != (decide (0 < ((t6.length : Nat) : Int))))))) := ⟨f, by rw [upd_self hf0, upd_self hf1, upd_self hf5, upd_self hf7, upd_self hf9, upd_self hf10, upd_self hf11, upd_self hf12, upd_self hf77]⟩
          refine WL.nil ?_
          rcases ite_some hm with ⟨hc6, hm⟩ | ⟨hc6, hm⟩
          · refine W.cond_true (congrArg Value.bool hc6) ?_
            refine W.seq ?_
            refine W.region ?_
            refine O.assign (v := (.bool false)) rfl rfl rfl ?_
            refine WL.nil ?_
            refine W.ret ?_
            have hq : false = r0 := Option.some.inj (show some false = some r0 from hm)
            subst hq
            exact ends1 Try.results9 rfl ⟨_, rfl, H.base, rfl⟩
          · refine W.cond_false (congrArg Value.bool hc6) ?_
            refine W.skip ?_
            refine W.seq ?_
            refine W.region ?_
            refine O.assign (v := (.int .i64 0)) rfl rfl rfl ?_
            refine O.assign (v := (.int .i64 0)) rfl rfl rfl ?_
            refine WL.nil ?_
            refine W.seq ?_
            refine W.seq ?_
            refine W.region ?_
            refine O.move (v := v2) rfl rfl rfl ?_
            refine O.lenS Try.underlying39 (H.own 1 rfl) rfl rfl rfl ?_
            refine O.move (v := (.int .i64 0)) rfl rfl rfl ?_
            refine WL.nil ?_
            obtain ⟨o1, hm2, hm⟩ := bind_some hm
            refine W.via (fun f w => ∃ s1 : Int, ∃ s2 : Int, o1 = .next (s1, s2) ∧ f 5 = v1 ∧ f 10 = (.int .i64 t9) ∧ f 14 = (.int .i64 s1) ∧ f 15 = (.int .i64 s2) ∧ Inv w0 w [ownI (α := Int) v1 3 t3]) ?_ ?_
            · skip
              refine W.block ?_
              refine W.rangeL (i := 0) hm2 (fun rem ik1 s f w => ∃ z3 : Int, ∃ z4 : Int, (z3, z4) = s ∧ t6.drop ik1 = rem ∧ f 80 = .int .i64 (ik1 : Int) ∧ f 79 = (.int .i64 ((t6.length : Nat) : Int)) ∧ f 0 = va0 ∧ f 1 = (.int .i64 a1) ∧ f 5 = v1 ∧ f 9 = (.int .i64 t8) ∧ f 10 = (.int .i64 t9) ∧ f 11 = (.int .i64 t10) ∧ f 12 = (.int .i64 t11) ∧ f 14 = (.int .i64 z3) ∧ f 15 = (.int .i64 z4) ∧ f 78 = v2 ∧ Inv w0 w [ownI (α := Int) v1 3 t3, ownI (α := Int) v2 3 t6]) ?_ ?_ ?_
              · skip
                exact ⟨_, _, rfl, List.drop_zero, rfl, rfl, rfl, rfl, rfl, rfl, rfl, rfl, rfl, rfl, rfl, rfl, H⟩
              · skip
                rintro yk1 xs ik1 _ st f w ⟨z3, z4, rfl, hdropk1, hf80, hf79, hf0, hf1, hf5, hf9, hf10, hf11, hf12, hf14, hf15, hf78, H⟩ hm3
                have hltk1 := drop_lt hdropk1; have hixk1 := drop_idx hdropk1
                obtain ⟨u4, rfl⟩ : ∃ u4, f = (upd (upd (upd (upd (upd (upd (upd (upd (upd (upd (upd (upd u4 80 (.int .i64 (ik1 : Int))) 79 (.int .i64 ((t6.length : Nat) : Int))) 0 va0) 1 (.int .i64 a1)) 5 v1) 9 (.int .i64 t8)) 10 (.int .i64 t9)) 11 (.int .i64 t10)) 12 (.int .i64 t11)) 14 (.int .i64 z3)) 15 (.int .i64 z4)) 78 v2) := ⟨f, by rw [upd_self hf80, upd_self hf79, upd_self hf0, upd_self hf1, upd_self hf5, upd_self hf9, upd_self hf10, upd_self hf11, upd_self hf12, upd_self hf14, upd_self hf15, upd_self hf78]⟩
                have hinck1 := addI_lt hltk1 (H.own 1 rfl).len_le
                refine W.seq ?_
                refine W.region ?_
                refine O.lss rfl rfl rfl rfl ?_
                refine WL.nil ?_
                refine W.seq ?_
                refine W.cond_true (congrArg Value.bool (decide_eq_true hltk1)) ?_
                refine W.skip ?_
                refine W.seq ?_
                obtain ⟨o2, hm4, hm3⟩ := bind_some hm3
                refine W.via (fun f w => ∃ s3 : Int, ∃ s4 : Int, o2 = .next (s3, s4) ∧ f 0 = va0 ∧ f 1 = (.int .i64 a1) ∧ f 5 = v1 ∧ f 9 = (.int .i64 t8) ∧ f 10 = (.int .i64 t9) ∧ f 11 = (.int .i64 t10) ∧ f 12 = (.int .i64 t11) ∧ f 14 = (.int .i64 s3) ∧ f 15 = (.int .i64 s4) ∧ f 78 = v2 ∧ f 79 = (.int .i64 ((t6.length : Nat) : Int)) ∧ f 80 = (.int .i64 (ik1 : Int)) ∧ Inv w0 w [ownI (α := Int) v1 3 t3, ownI (α := Int) v2 3 t6]) ?_ ?_
                · skip
                  refine W.block ?_
                  refine W.seq ?_
                  refine W.region ?_
                  refine O.indexAddr Try.underlying39 sz3 (H.own 1 rfl) hixk1 rfl rfl rfl rfl ?_
                  intro p1 hp1
                  refine O.load sc3 rfl rfl rfl (hp1.flat 0 _ rfl) ?_
                  refine O.assign (v := (.int .i64 yk1)) rfl rfl rfl ?_
                  refine WL.nil ?_
                  refine W.seq ?_
                  refine W.region ?_
                  refine O.move (v := va0) rfl rfl rfl ?_
                  refine O.move (v := (.int .i64 yk1)) rfl rfl rfl ?_
                  obtain ⟨⟨t13, t14⟩, hy8, hm4⟩ := bind_some hm4
                  refine O.call Try.call18 rfl rfl rfl (c_ledger_Off _ _ (H.arg ha0) _ hy8) ?_
                  rintro _ w8 hb8 rfl
                  have hp1 := hp1.mono hb8
                  have H := H.ext hb8
                  refine O.move (v := (.tuple #[(.int .i64 t13), (.int .i64 t14)])) rfl rfl rfl ?_
                  refine O.extract (v := (.int .i64 t13)) rfl rfl rfl rfl ?_
                  refine O.extract (v := (.int .i64 t14)) rfl rfl rfl rfl ?_
                  refine O.assign (v := (.int .i64 t13)) rfl rfl rfl ?_
                  refine O.assign (v := (.int .i64 t14)) rfl rfl rfl ?_
                  refine WL.nil ?_
                  refine W.seq ?_
                  refine W.region ?_
                  refine O.move (v := va0) rfl rfl rfl ?_
                  refine O.move (v := (.int .i64 t11)) rfl rfl rfl ?_
                  obtain ⟨⟨t15, t16⟩, hy9, hm4⟩ := bind_some hm4
                  refine O.call Try.call18 rfl rfl rfl (c_ledger_Off _ _ (H.arg ha0) _ hy9) ?_
                  rintro _ w9 hb9 rfl
                  have hp1 := hp1.mono hb9
                  have H := H.ext hb9
                  refine O.move (v := (.tuple #[(.int .i64 t15), (.int .i64 t16)])) rfl rfl rfl ?_
                  refine O.extract (v := (.int .i64 t15)) rfl rfl rfl rfl ?_
                  refine O.extract (v := (.int .i64 t16)) rfl rfl rfl rfl ?_
                  refine O.assign (v := (.int .i64 t15)) rfl rfl rfl ?_
                  refine O.assign (v := (.int .i64 t16)) rfl rfl rfl ?_
                  refine WL.nil ?_
                  refine W.seq ?_
                  refine W.seq ?_
                  refine W.region ?_
                  refine O.move (v := (.int .i64 t14)) rfl rfl rfl ?_
                  refine O.neq rfl rfl rfl rfl ?_
                  refine O.move (v := (.bool (t14 != 0))) rfl rfl rfl ?_
                  refine WL.cut 3 (fun f w => f 0 = va0 ∧ f 1 = (.int .i64 a1) ∧ f 5 = v1 ∧ f 9 = (.int .i64 t8) ∧ f 10 = (.int .i64 t9) ∧ f 11 = (.int .i64 t10) ∧ f 12 = (.int .i64 t11) ∧ f 14 = (.int .i64 z3) ∧ f 15 = (.int .i64 z4) ∧ f 17 = (.int .i64 yk1) ∧ f 18 = (.int .i64 t13) ∧ f 20 = (.int .i64 t15) ∧ f 78 = v2 ∧ f 79 = (.int .i64 ((t6.length : Nat) : Int)) ∧ f 80 = (.int .i64 (ik1 : Int)) ∧ f 101 = .bool ((t14 != 0) || (t16 != 0)) ∧ Inv w0 w [ownI (α := Int) v1 3 t3, ownI (α := Int) v2 3 t6]) ?_ ?_
                  · skip
                    rcases bool_ft (t14 != 0) with hc7 | hc7
                    · skip
                      refine WL.reset (i := 98) (v := .bool false) (congrArg Value.bool hc7) ?_
                      refine O.move (v := (.int .i64 t16)) rfl rfl rfl ?_
                      refine O.neq rfl rfl rfl rfl ?_
                      refine O.pick_false (v := (.bool (t16 != 0))) rfl rfl rfl rfl ?_
                      refine WL.nil ?_
                      exact ⟨rfl, rfl, rfl, rfl, rfl, rfl, rfl, rfl, rfl, rfl, rfl, rfl, rfl, rfl, rfl, congrArg Value.bool (or_f hc7), H⟩
                    · skip
                      refine WL.reset (i := 98) (v := .bool true) (congrArg Value.bool hc7) ?_
                      refine O.skip rfl rfl ?_
                      refine O.skip rfl rfl ?_
                      refine O.pick_true (v := (.bool true)) rfl rfl rfl rfl ?_
                      refine WL.nil ?_
                      exact ⟨rfl, rfl, rfl, rfl, rfl, rfl, rfl, rfl, rfl, rfl, rfl, rfl, rfl, rfl, rfl, congrArg Value.bool (or_t hc7), H⟩
                  · skip
                    rintro f w ⟨hf0, hf1, hf5, hf9, hf10, hf11, hf12, hf14, hf15, hf17, hf18, hf20, hf78, hf79, hf80, hf101, H⟩
                    obtain ⟨u5, rfl⟩ : ∃ u5, f = (upd (upd (upd (upd (upd (upd (upd (upd (upd (upd (upd (upd (upd (upd (upd (upd u5 0 va0) 1 (.int .i64 a1)) 5 v1) 9 (.int .i64 t8)) 10 (.int .i64 t9)) 11 (.int .i64 t10)) 12 (.int .i64 t11)) 14 (.int .i64 z3)) 15 (.int .i64 z4)) 17 (.int .i64 yk1)) 18 (.int .i64 t13)) 20 (.int .i64 t15)) 78 v2) 79 (.int .i64 ((t6.length : Nat) : Int))) 80 (.int .i64 (ik1 : Int))) 101 (.bool ((t14 != 0) || (t16 != 0)))) := ⟨f, by rw [upd_self hf0, upd_self hf1, upd_self hf5, upd_self hf9, upd_self hf10, upd_self hf11, upd_self hf12, upd_self hf14, upd_self hf15, upd_self hf17, upd_self hf18, upd_self hf20, upd_self hf78, upd_self hf79, upd_self hf80, upd_self hf101]⟩
                    refine O.move (v := (.bool ((t14 != 0) || (t16 != 0)))) rfl rfl rfl ?_
                    obtain ⟨b2, hm5, hm4⟩ := bind_some hm4
                    refine WL.cut 6 (fun f w => f 0 = va0 ∧ f 1 = (.int .i64 a1) ∧ f 5 = v1 ∧ f 9 = (.int .i64 t8) ∧ f 10 = (.int .i64 t9) ∧ f 11 = (.int .i64 t10) ∧ f 12 = (.int .i64 t11) ∧ f 14 = (.int .i64 z3) ∧ f 15 = (.int .i64 z4) ∧ f 17 = (.int .i64 yk1) ∧ f 18 = (.int .i64 t13) ∧ f 78 = v2 ∧ f 79 = (.int .i64 ((t6.length : Nat) : Int)) ∧ f 80 = (.int .i64 (ik1 : Int)) ∧ f 108 = .bool b2 ∧ Inv w0 w [ownI (α := Int) v1 3 t3, ownI (α := Int) v2 3 t6]) ?_ ?_
                    · skip
                      rcases ite_some hm5 with ⟨hc8, hm5⟩ | ⟨hc8, hm5⟩
                      · skip
                        refine WL.reset (i := 102) (v := .bool true) (congrArg Value.bool hc8) ?_
                        refine O.skip rfl rfl ?_
                        refine O.skip rfl rfl ?_
                        refine O.skip rfl rfl ?_
                        refine O.skip rfl rfl ?_
                        refine O.skip rfl rfl ?_
                        refine O.pick_true (v := (.bool true)) rfl rfl rfl rfl ?_
                        refine WL.nil ?_
                        have hq : true = b2 := Option.some.inj (show some true = some b2 from hm5)
                        subst hq
                        exact ⟨rfl, rfl, rfl, rfl, rfl, rfl, rfl, rfl, rfl, rfl, rfl, rfl, rfl, rfl, rfl, H⟩
                      · skip
                        refine WL.reset (i := 102) (v := .bool false) (congrArg Value.bool hc8) ?_
                        refine O.move (v := (.int .i64 t13)) rfl rfl rfl ?_
                        obtain ⟨t17, hy10, hm5⟩ := bind_some hm5
                        refine O.call Try.call44 rfl rfl rfl (c_noongunref09_Abs _ hy10) ?_
                        rintro _ w10 hb10 rfl
                        have H := H.ext hb10
                        refine O.move (v := (.int .i64 t15)) rfl rfl rfl ?_
                        obtain ⟨t18, hy11, hm5⟩ := bind_some hm5
                        refine O.call Try.call44 rfl rfl rfl (c_noongunref09_Abs _ hy11) ?_
                        rintro _ w11 hb11 rfl
                        have H := H.ext hb11
                        refine O.gtr rfl rfl rfl rfl ?_
                        refine O.pick_false (v := (.bool (decide (t18 < t17)))) rfl rfl rfl rfl ?_
                        refine WL.nil ?_
                        have hq : (decide (t18 < t17)) = b2 := Option.some.inj (show some (decide (t18 < t17)) = some b2 from hm5)
                        subst hq
                        exact ⟨rfl, rfl, rfl, rfl, rfl, rfl, rfl, rfl, rfl, rfl, rfl, rfl, rfl, rfl, rfl, H⟩
                    · skip
                      rintro f w ⟨hf0, hf1, hf5, hf9, hf10, hf11, hf12, hf14, hf15, hf17, hf18, hf78, hf79, hf80, hf108, H⟩
                      obtain ⟨u6, rfl⟩ : ∃ u6, f = (upd (upd (upd (upd (upd (upd (upd (upd (upd (upd (upd (upd (upd (upd (upd u6 0 va0) 1 (.int .i64 a1)) 5 v1) 9 (.int .i64 t8)) 10 (.int .i64 t9)) 11 (.int .i64 t10)) 12 (.int .i64 t11)) 14 (.int .i64 z3)) 15 (.int .i64 z4)) 17 (.int .i64 yk1)) 18 (.int .i64 t13)) 78 v2) 79 (.int .i64 ((t6.length : Nat) : Int))) 80 (.int .i64 (ik1 : Int))) 108 (.bool b2)) := ⟨f, by rw [upd_self hf0, upd_self hf1, upd_self hf5, upd_self hf9, upd_self hf10, upd_self hf11, upd_self hf12, upd_self hf14, upd_self hf15, upd_self hf17, upd_self hf18, upd_self hf78, upd_self hf79, upd_self hf80, upd_self hf108]⟩
                      refine WL.nil ?_
                      rcases ite_some hm4 with ⟨hc9, hm4⟩ | ⟨hc9, hm4⟩
                      · refine W.cond_true (congrArg Value.bool hc9) ?_
                        refine W.seq ?_
                        refine W.region ?_
                        refine O.assign (v := (.bool false)) rfl rfl rfl ?_
                        refine WL.nil ?_
                        refine W.ret ?_
                        obtain rfl := Option.some.inj hm4
                        obtain rfl := Option.some.inj hm3
                        refine ⟨_, rfl, ?_⟩
                        rintro rfl
                        have hq : false = r0 := Option.some.inj (show some false = some r0 from hm)
                        subst hq
                        exact ends1 Try.results9 rfl ⟨_, rfl, H.base, rfl⟩
                      · refine W.cond_false (congrArg Value.bool hc9) ?_
                        refine W.skip ?_
                        refine W.seq ?_
                        refine W.region ?_
                        refine O.move (v := (.int .i64 z3)) rfl rfl rfl ?_
                        refine O.move (v := v1) rfl rfl rfl ?_
                        refine O.lenS Try.underlying39 (H.own 0 rfl) rfl rfl rfl ?_
                        refine O.lss rfl rfl rfl rfl ?_
                        refine O.move (v := (.bool (decide (z3 < ((t3.length : Nat) : Int))))) rfl rfl rfl ?_
                        obtain ⟨b3, hm6, hm4⟩ := bind_some hm4
                        refine WL.cut 7 (fun f w => f 0 = va0 ∧ f 1 = (.int .i64 a1) ∧ f 5 = v1 ∧ f 9 = (.int .i64 t8) ∧ f 10 = (.int .i64 t9) ∧ f 11 = (.int .i64 t10) ∧ f 12 = (.int .i64 t11) ∧ f 14 = (.int .i64 z3) ∧ f 15 = (.int .i64 z4) ∧ f 17 = (.int .i64 yk1) ∧ f 18 = (.int .i64 t13) ∧ f 78 = v2 ∧ f 79 = (.int .i64 ((t6.length : Nat) : Int)) ∧ f 80 = (.int .i64 (ik1 : Int)) ∧ f 120 = .bool b3 ∧ Inv w0 w [ownI (α := Int) v1 3 t3, ownI (α := Int) v2 3 t6]) ?_ ?_
                        · skip
                          rcases ite_some hm6 with ⟨hc10, hm6⟩ | ⟨hc10, hm6⟩
                          · skip
                            refine WL.reset (i := 113) (v := .bool true) (congrArg Value.bool hc10) ?_
                            refine O.move (v := v1) rfl rfl rfl ?_
                            refine O.move (v := (.int .i64 z3)) rfl rfl rfl ?_
                            obtain ⟨x1, hx1, hm6⟩ := bind_some hm6
                            refine O.indexAddr Try.underlying39 sz3 (H.own 0 rfl) hx1 rfl rfl rfl rfl ?_
                            intro p2 hp2
                            refine O.load sc3 rfl rfl rfl (hp2.flat 0 _ rfl) ?_
                            refine O.move (v := (.int .i64 yk1)) rfl rfl rfl ?_
                            refine O.eql rfl rfl rfl rfl ?_
                            refine O.pick_true (v := (.bool (x1 == yk1))) rfl rfl rfl rfl ?_
                            refine WL.nil ?_
                            have hq : (x1 == yk1) = b3 := Option.some.inj (show some (x1 == yk1) = some b3 from hm6)
                            subst hq
                            exact ⟨rfl, rfl, rfl, rfl, rfl, rfl, rfl, rfl, rfl, rfl, rfl, rfl, rfl, rfl, rfl, H⟩
                          · skip
                            refine WL.reset (i := 113) (v := .bool false) (congrArg Value.bool hc10) ?_
                            refine O.skip rfl rfl ?_
                            refine O.skip rfl rfl ?_
                            refine O.skip rfl rfl ?_
                            refine O.skip rfl rfl ?_
                            refine O.skip rfl rfl ?_
                            refine O.skip rfl rfl ?_
                            refine O.pick_false (v := (.bool false)) rfl rfl rfl rfl ?_
                            refine WL.nil ?_
                            have hq : false = b3 := Option.some.inj (show some false = some b3 from hm6)
                            subst hq
                            exact ⟨rfl, rfl, rfl, rfl, rfl, rfl, rfl, rfl, rfl, rfl, rfl, rfl, rfl, rfl, rfl, H⟩
                        · skip
                          rintro f w ⟨hf0, hf1, hf5, hf9, hf10, hf11, hf12, hf14, hf15, hf17, hf18, hf78, hf79, hf80, hf120, H⟩
                          obtain ⟨u7, rfl⟩ : ∃ u7, f = (upd (upd (upd (upd (upd (upd (upd (upd (upd (upd (upd (upd (upd (upd (upd u7 0 va0) 1 (.int .i64 a1)) 5 v1) 9 (.int .i64 t8)) 10 (.int .i64 t9)) 11 (.int .i64 t10)) 12 (.int .i64 t11)) 14 (.int .i64 z3)) 15 (.int .i64 z4)) 17 (.int .i64 yk1)) 18 (.int .i64 t13)) 78 v2) 79 (.int .i64 ((t6.length : Nat) : Int))) 80 (.int .i64 (ik1 : Int))) 120 (.bool b3)) := ⟨f, by rw [upd_self hf0, upd_self hf1, upd_self hf5, upd_self hf9, upd_self hf10, upd_self hf11, upd_self hf12, upd_self hf14, upd_self hf15, upd_self hf17, upd_self hf18, upd_self hf78, upd_self hf79, upd_self hf80, upd_self hf120]⟩
                          refine O.assign (v := (.bool b3)) rfl rfl rfl ?_
                          refine WL.nil ?_
                          refine W.seq ?_
                          refine W.seq ?_
                          refine W.region ?_
                          refine O.move (v := (.bool b3)) rfl rfl rfl ?_
                          refine O.move (v := (.int .i64 t13)) rfl rfl rfl ?_
                          obtain ⟨t19, hy12, hm4⟩ := bind_some hm4
                          refine O.call Try.call44 rfl rfl rfl (c_noongunref09_Abs _ hy12) ?_
                          rintro _ w12 hb12 rfl
                          have H := H.ext hb12
                          refine O.move (v := (.int .i64 a1)) rfl rfl rfl ?_
                          refine O.gtr rfl rfl rfl rfl ?_
                          refine O.neqB Try.underlying4 rfl rfl rfl rfl ?_
                          refine WL.nil ?_
                          rcases ite_some hm4 with ⟨hc11, hm4⟩ | ⟨hc11, hm4⟩
                          · refine W.cond_true (congrArg Value.bool hc11) ?_
                            refine W.seq ?_
                            refine W.region ?_
                            refine O.assign (v := (.bool false)) rfl rfl rfl ?_
                            refine WL.nil ?_
                            refine W.ret ?_
                            obtain rfl := Option.some.inj hm4
                            obtain rfl := Option.some.inj hm3
                            refine ⟨_, rfl, ?_⟩
                            rintro rfl
                            have hq : false = r0 := Option.some.inj (show some false = some r0 from hm)
                            subst hq
                            exact ends1 Try.results9 rfl ⟨_, rfl, H.base, rfl⟩
                          · refine W.cond_false (congrArg Value.bool hc11) ?_
                            refine W.skip ?_
                            refine W.seq ?_
                            refine W.seq ?_
                            refine W.region ?_
                            refine O.move (v := (.bool b3)) rfl rfl rfl ?_
                            refine WL.nil ?_
                            obtain ⟨s5, hm7, hm4⟩ := bind_some hm4
                            refine W.via (fun f w => f 0 = va0 ∧ f 1 = (.int .i64 a1) ∧ f 5 = v1 ∧ f 9 = (.int .i64 t8) ∧ f 10 = (.int .i64 t9) ∧ f 11 = (.int .i64 t10) ∧ f 12 = (.int .i64 t11) ∧ f 14 = (.int .i64 s5) ∧ f 15 = (.int .i64 z4) ∧ f 17 = (.int .i64 yk1) ∧ f 22 = (.bool b3) ∧ f 78 = v2 ∧ f 79 = (.int .i64 ((t6.length : Nat) : Int)) ∧ f 80 = (.int .i64 (ik1 : Int)) ∧ Inv w0 w [ownI (α := Int) v1 3 t3, ownI (α := Int) v2 3 t6]) ?_ ?_
                            · skip
                              rcases ite_some hm7 with ⟨hc12, hm7⟩ | ⟨hc12, hm7⟩
                              · refine W.cond_true (congrArg Value.bool hc12) ?_
                                refine W.region ?_
                                refine O.move (v := (.int .i64 z3)) rfl rfl rfl ?_
                                obtain ⟨t20, ht20, hm7⟩ := bind_some hm7
                                refine O.add rfl rfl rfl rfl ht20 ?_
                                refine O.assign (v := (.int .i64 t20)) rfl rfl rfl ?_
                                refine WL.nil ?_
                                have hq : t20 = s5 := Option.some.inj (show some t20 = some s5 from hm7)
                                subst hq
                                exact ⟨rfl, rfl, rfl, rfl, rfl, rfl, rfl, rfl, rfl, rfl, rfl, rfl, rfl, rfl, H⟩
                              · refine W.cond_false (congrArg Value.bool hc12) ?_
                                refine W.skip ?_
                                have hq : z3 = s5 := Option.some.inj (show some z3 = some s5 from hm7)
                                subst hq
                                exact ⟨rfl, rfl, rfl, rfl, rfl, rfl, rfl, rfl, rfl, rfl, rfl, rfl, rfl, rfl, H⟩
                            · skip
                              rintro f w ⟨hf0, hf1, hf5, hf9, hf10, hf11, hf12, hf14, hf15, hf17, hf22, hf78, hf79, hf80, H⟩
                              obtain ⟨u8, rfl⟩ : ∃ u8, f = (upd (upd (upd (upd (upd (upd (upd (upd (upd (upd (upd (upd (upd (upd u8 0 va0) 1 (.int .i64 a1)) 5 v1) 9 (.int .i64 t8)) 10 (.int .i64 t9)) 11 (.int .i64 t10)) 12 (.int .i64 t11)) 14 (.int .i64 s5)) 15 (.int .i64 z4)) 17 (.int .i64 yk1)) 22 (.bool b3)) 78 v2) 79 (.int .i64 ((t6.length : Nat) : Int))) 80 (.int .i64 (ik1 : Int))) := ⟨f, by rw [upd_self hf0, upd_self hf1, upd_self hf5, upd_self hf9, upd_self hf10, upd_self hf11, upd_self hf12, upd_self hf14, upd_self hf15, upd_self hf17, upd_self hf22, upd_self hf78, upd_self hf79, upd_self hf80]⟩
                              refine W.seq ?_
                              refine W.region ?_
                              refine O.move (v := (.int .i64 t10)) rfl rfl rfl ?_
                              refine O.eql rfl rfl rfl rfl ?_
                              refine O.move (v := (.bool (t10 == 0))) rfl rfl rfl ?_
                              refine WL.cut 4 (fun f w => f 0 = va0 ∧ f 1 = (.int .i64 a1) ∧ f 5 = v1 ∧ f 9 = (.int .i64 t8) ∧ f 10 = (.int .i64 t9) ∧ f 11 = (.int .i64 t10) ∧ f 12 = (.int .i64 t11) ∧ f 14 = (.int .i64 s5) ∧ f 15 = (.int .i64 z4) ∧ f 17 = (.int .i64 yk1) ∧ f 22 = (.bool b3) ∧ f 78 = v2 ∧ f 79 = (.int .i64 ((t6.length : Nat) : Int)) ∧ f 80 = (.int .i64 (ik1 : Int)) ∧ f 136 = .bool ((t10 == 0) && (decide (t8 ≤ yk1))) ∧ Inv w0 w [ownI (α := Int) v1 3 t3, ownI (α := Int) v2 3 t6]) ?_ ?_
                              · skip
                                rcases bool_ft (t10 == 0) with hc13 | hc13
                                · skip
                                  refine WL.reset (i := 132) (v := .bool false) (congrArg Value.bool hc13) ?_
                                  refine O.skip rfl rfl ?_
                                  refine O.skip rfl rfl ?_
                                  refine O.skip rfl rfl ?_
                                  refine O.pick_false (v := (.bool false)) rfl rfl rfl rfl ?_
                                  refine WL.nil ?_
                                  exact ⟨rfl, rfl, rfl, rfl, rfl, rfl, rfl, rfl, rfl, rfl, rfl, rfl, rfl, rfl, congrArg Value.bool (and_f hc13), H⟩
                                · skip
                                  refine WL.reset (i := 132) (v := .bool true) (congrArg Value.bool hc13) ?_
                                  refine O.move (v := (.int .i64 yk1)) rfl rfl rfl ?_
                                  refine O.move (v := (.int .i64 t8)) rfl rfl rfl ?_
                                  refine O.geq rfl rfl rfl rfl ?_
                                  refine O.pick_true (v := (.bool (decide (t8 ≤ yk1)))) rfl rfl rfl rfl ?_
                                  refine WL.nil ?_
                                  exact ⟨rfl, rfl, rfl, rfl, rfl, rfl, rfl, rfl, rfl, rfl, rfl, rfl, rfl, rfl, congrArg Value.bool (and_t hc13), H⟩
                              · skip
                                rintro f w ⟨hf0, hf1, hf5, hf9, hf10, hf11, hf12, hf14, hf15, hf17, hf22, hf78, hf79, hf80, hf136, H⟩
                                obtain ⟨u9, rfl⟩ : ∃ u9, f = (upd (upd (upd (upd (upd (upd (upd (upd (upd (upd (upd (upd (upd (upd (upd u9 0 va0) 1 (.int .i64 a1)) 5 v1) 9 (.int .i64 t8)) 10 (.int .i64 t9)) 11 (.int .i64 t10)) 12 (.int .i64 t11)) 14 (.int .i64 s5)) 15 (.int .i64 z4)) 17 (.int .i64 yk1)) 22 (.bool b3)) 78 v2) 79 (.int .i64 ((t6.length : Nat) : Int))) 80 (.int .i64 (ik1 : Int))) 136 (.bool ((t10 == 0) && (decide (t8 ≤ yk1))))) := ⟨f, by rw [upd_self hf0, upd_self hf1, upd_self hf5, upd_self hf9, upd_self hf10, upd_self hf11, upd_self hf12, upd_self hf14, upd_self hf15, upd_self hf17, upd_self hf22, upd_self hf78, upd_self hf79, upd_self hf80, upd_self hf136]⟩
                                refine O.move (v := (.bool ((t10 == 0) && (decide (t8 ≤ yk1))))) rfl rfl rfl ?_
                                obtain ⟨b4, hm8, hm4⟩ := bind_some hm4
                                refine WL.cut 6 (fun f w => f 0 = va0 ∧ f 1 = (.int .i64 a1) ∧ f 5 = v1 ∧ f 9 = (.int .i64 t8) ∧ f 10 = (.int .i64 t9) ∧ f 11 = (.int .i64 t10) ∧ f 12 = (.int .i64 t11) ∧ f 14 = (.int .i64 s5) ∧ f 15 = (.int .i64 z4) ∧ f 22 = (.bool b3) ∧ f 78 = v2 ∧ f 79 = (.int .i64 ((t6.length : Nat) : Int)) ∧ f 80 = (.int .i64 (ik1 : Int)) ∧ f 143 = .bool b4 ∧ Inv w0 w [ownI (α := Int) v1 3 t3, ownI (α := Int) v2 3 t6]) ?_ ?_
                                · skip
                                  rcases ite_some hm8 with ⟨hc14, hm8⟩ | ⟨hc14, hm8⟩
                                  · skip
                                    refine WL.reset (i := 137) (v := .bool true) (congrArg Value.bool hc14) ?_
                                    refine O.move (v := (.int .i64 yk1)) rfl rfl rfl ?_
                                    refine O.move (v := (.int .i64 t8)) rfl rfl rfl ?_
                                    refine O.move (v := (.int .i64 t9)) rfl rfl rfl ?_
                                    obtain ⟨t21, ht21, hm8⟩ := bind_some hm8
                                    refine O.add rfl rfl rfl rfl ht21 ?_
                                    refine O.lss rfl rfl rfl rfl ?_
                                    refine O.pick_true (v := (.bool (decide (yk1 < t21)))) rfl rfl rfl rfl ?_
                                    refine WL.nil ?_
                                    have hq : (decide (yk1 < t21)) = b4 := Option.some.inj (show some (decide (yk1 < t21)) = some b4 from hm8)
                                    subst hq
                                    exact ⟨rfl, rfl, rfl, rfl, rfl, rfl, rfl, rfl, rfl, rfl, rfl, rfl, rfl, rfl, H⟩
                                  · skip
                                    refine WL.reset (i := 137) (v := .bool false) (congrArg Value.bool hc14) ?_
                                    refine O.skip rfl rfl ?_
                                    refine O.skip rfl rfl ?_
                                    refine O.skip rfl rfl ?_
                                    refine O.skip rfl rfl ?_
                                    refine O.skip rfl rfl ?_
                                    refine O.pick_false (v := (.bool false)) rfl rfl rfl rfl ?_
                                    refine WL.nil ?_
                                    have hq : false = b4 := Option.some.inj (show some false = some b4 from hm8)
                                    subst hq
                                    exact ⟨rfl, rfl, rfl, rfl, rfl, rfl, rfl, rfl, rfl, rfl, rfl, rfl, rfl, rfl, H⟩
                                · skip
                                  rintro f w ⟨hf0, hf1, hf5, hf9, hf10, hf11, hf12, hf14, hf15, hf22, hf78, hf79, hf80, hf143, H⟩
                                  obtain ⟨u10, rfl⟩ : ∃ u10, f = (upd (upd (upd (upd (upd (upd (upd (upd (upd (upd (upd (upd (upd (upd u10 0 va0) 1 (.int .i64 a1)) 5 v1) 9 (.int .i64 t8)) 10 (.int .i64 t9)) 11 (.int .i64 t10)) 12 (.int .i64 t11)) 14 (.int .i64 s5)) 15 (.int .i64 z4)) 22 (.bool b3)) 78 v2) 79 (.int .i64 ((t6.length : Nat) : Int))) 80 (.int .i64 (ik1 : Int))) 143 (.bool b4)) := ⟨f, by rw [upd_self hf0, upd_self hf1, upd_self hf5, upd_self hf9, upd_self hf10, upd_self hf11, upd_self hf12, upd_self hf14, upd_self hf15, upd_self hf22, upd_self hf78, upd_self hf79, upd_self hf80, upd_self hf143]⟩
                                  refine WL.nil ?_
                                  obtain ⟨o4, hm9, hm4⟩ := bind_some hm4
                                  refine W.via (fun f w => ∃ s6 : Int, o4 = .next s6 ∧ f 0 = va0 ∧ f 1 = (.int .i64 a1) ∧ f 5 = v1 ∧ f 9 = (.int .i64 t8) ∧ f 10 = (.int .i64 t9) ∧ f 11 = (.int .i64 t10) ∧ f 12 = (.int .i64 t11) ∧ f 14 = (.int .i64 s5) ∧ f 15 = (.int .i64 s6) ∧ f 78 = v2 ∧ f 79 = (.int .i64 ((t6.length : Nat) : Int)) ∧ f 80 = (.int .i64 (ik1 : Int)) ∧ Inv w0 w [ownI (α := Int) v1 3 t3, ownI (α := Int) v2 3 t6]) ?_ ?_
                                  · skip
                                    rcases ite_some hm9 with ⟨hc15, hm9⟩ | ⟨hc15, hm9⟩
                                    · refine W.cond_true (congrArg Value.bool hc15) ?_
                                      refine W.seq ?_
                                      refine W.seq ?_
                                      refine W.region ?_
                                      refine O.move (v := (.bool b3)) rfl rfl rfl ?_
                                      refine WL.nil ?_
                                      rcases ite_some hm9 with ⟨hc16, hm9⟩ | ⟨hc16, hm9⟩
                                      · refine W.cond_true (congrArg Value.bool hc16) ?_
                                        refine W.seq ?_
                                        refine W.region ?_
                                        refine O.assign (v := (.bool false)) rfl rfl rfl ?_
                                        refine WL.nil ?_
                                        refine W.ret ?_
                                        obtain rfl := Option.some.inj hm9
                                        obtain rfl := Option.some.inj hm4
                                        obtain rfl := Option.some.inj hm3
                                        refine ⟨_, rfl, ?_⟩
                                        rintro rfl
                                        have hq : false = r0 := Option.some.inj (show some false = some r0 from hm)
                                        subst hq
                                        exact ends1 Try.results9 rfl ⟨_, rfl, H.base, rfl⟩
                                      · refine W.cond_false (congrArg Value.bool hc16) ?_
                                        refine W.skip ?_
                                        refine W.region ?_
                                        refine O.move (v := (.int .i64 z4)) rfl rfl rfl ?_
                                        obtain ⟨t22, ht22, hm9⟩ := bind_some hm9
                                        refine O.add rfl rfl rfl rfl ht22 ?_
                                        refine O.assign (v := (.int .i64 t22)) rfl rfl rfl ?_
                                        refine WL.nil ?_
                                        obtain rfl := Option.some.inj hm9
                                        exact ⟨_, rfl, rfl, rfl, rfl, rfl, rfl, rfl, rfl, rfl, rfl, rfl, rfl, rfl, H⟩
                                    · refine W.cond_false (congrArg Value.bool hc15) ?_
                                      refine W.skip ?_
                                      obtain rfl := Option.some.inj hm9
                                      exact ⟨_, rfl, rfl, rfl, rfl, rfl, rfl, rfl, rfl, rfl, rfl, rfl, rfl, rfl, H⟩
                                  · skip
                                    rintro f w ⟨s6, rfl, hf0, hf1, hf5, hf9, hf10, hf11, hf12, hf14, hf15, hf78, hf79, hf80, H⟩
                                    obtain ⟨u11, rfl⟩ : ∃ u11, f = (upd (upd (upd (upd (upd (upd (upd (upd (upd (upd (upd (upd u11 0 va0) 1 (.int .i64 a1)) 5 v1) 9 (.int .i64 t8)) 10 (.int .i64 t9)) 11 (.int .i64 t10)) 12 (.int .i64 t11)) 14 (.int .i64 s5)) 15 (.int .i64 s6)) 78 v2) 79 (.int .i64 ((t6.length : Nat) : Int))) 80 (.int .i64 (ik1 : Int))) := ⟨f, by rw [upd_self hf0, upd_self hf1, upd_self hf5, upd_self hf9, upd_self hf10, upd_self hf11, upd_self hf12, upd_self hf14, upd_self hf15, upd_self hf78, upd_self hf79, upd_self hf80]⟩
                                    obtain rfl := Option.some.inj hm4
                                    exact ⟨_, _, rfl, rfl, rfl, rfl, rfl, rfl, rfl, rfl, rfl, rfl, rfl, rfl, rfl, H⟩
                · skip
                  rintro f w ⟨s3, s4, rfl, hf0, hf1, hf5, hf9, hf10, hf11, hf12, hf14, hf15, hf78, hf79, hf80, H⟩
                  obtain ⟨u12, rfl⟩ : ∃ u12, f = (upd (upd (upd (upd (upd (upd (upd (upd (upd (upd (upd (upd u12 0 va0) 1 (.int .i64 a1)) 5 v1) 9 (.int .i64 t8)) 10 (.int .i64 t9)) 11 (.int .i64 t10)) 12 (.int .i64 t11)) 14 (.int .i64 s3)) 15 (.int .i64 s4)) 78 v2) 79 (.int .i64 ((t6.length : Nat) : Int))) 80 (.int .i64 (ik1 : Int))) := ⟨f, by rw [upd_self hf0, upd_self hf1, upd_self hf5, upd_self hf9, upd_self hf10, upd_self hf11, upd_self hf12, upd_self hf14, upd_self hf15, upd_self hf78, upd_self hf79, upd_self hf80]⟩
                  refine W.region ?_
                  refine O.add rfl rfl rfl rfl hinck1 ?_
                  refine O.move (v := .int .i64 ((ik1 : Int) + 1)) rfl rfl rfl ?_
                  refine WL.nil ?_
                  obtain rfl := Option.some.inj hm3
                  exact ⟨_, rfl, _, _, rfl, drop_next hdropk1, rfl, rfl, rfl, rfl, rfl, rfl, rfl, rfl, rfl, rfl, rfl, rfl, H⟩
              · skip
                rintro ik1 _ f w ⟨z3, z4, rfl, hdropk1, hf80, hf79, hf0, hf1, hf5, hf9, hf10, hf11, hf12, hf14, hf15, hf78, H⟩ hfin
                have hltk1 := drop_end hdropk1
                obtain ⟨u13, rfl⟩ : ∃ u13, f = (upd (upd (upd (upd (upd (upd (upd (upd (upd (upd (upd (upd u13 80 (.int .i64 (ik1 : Int))) 79 (.int .i64 ((t6.length : Nat) : Int))) 0 va0) 1 (.int .i64 a1)) 5 v1) 9 (.int .i64 t8)) 10 (.int .i64 t9)) 11 (.int .i64 t10)) 12 (.int .i64 t11)) 14 (.int .i64 z3)) 15 (.int .i64 z4)) 78 v2) := ⟨f, by rw [upd_self hf80, upd_self hf79, upd_self hf0, upd_self hf1, upd_self hf5, upd_self hf9, upd_self hf10, upd_self hf11, upd_self hf12, upd_self hf14, upd_self hf15, upd_self hf78]⟩
                refine W.seq ?_
                refine W.region ?_
                refine O.lss rfl rfl rfl rfl ?_
                refine WL.nil ?_
                refine W.seq ?_
                refine W.cond_false (congrArg Value.bool (decide_eq_false hltk1)) ?_
                refine W.exit ?_
                obtain rfl : Ctl.next (z3, z4) = o1 := hfin
                have H := H.keep [0] [ownI (α := Int) v1 3 t3] rfl (by decide)
                refine xT rfl ?_
                exact ⟨_, _, rfl, rfl, rfl, rfl, rfl, H⟩
            · skip
              rintro f w ⟨s1, s2, rfl, hf5, hf10, hf14, hf15, H⟩
              obtain ⟨u14, rfl⟩ : ∃ u14, f = (upd (upd (upd (upd u14 5 v1) 10 (.int .i64 t9)) 14 (.int .i64 s1)) 15 (.int .i64 s2)) := ⟨f, by rw [upd_self hf5, upd_self hf10, upd_self hf14, upd_self hf15]⟩
              refine W.seq ?_
              refine W.region ?_
              refine O.move (v := (.int .i64 s1)) rfl rfl rfl ?_
              refine O.move (v := v1) rfl rfl rfl ?_
              refine O.lenS Try.underlying39 (H.own 0 rfl) rfl rfl rfl ?_
              refine O.eql rfl rfl rfl rfl ?_
              refine O.move (v := (.bool (s1 == ((t3.length : Nat) : Int)))) rfl rfl rfl ?_
              refine WL.cut 4 (fun f w => f 156 = .bool ((s1 == ((t3.length : Nat) : Int)) && (s2 == t9)) ∧ Inv w0 w [ownI (α := Int) v1 3 t3]) ?_ ?_
              · skip
                rcases bool_ft (s1 == ((t3.length : Nat) : Int)) with hc17 | hc17
                · skip
                  refine WL.reset (i := 152) (v := .bool false) (congrArg Value.bool hc17) ?_
                  refine O.skip rfl rfl ?_
                  refine O.skip rfl rfl ?_
                  refine O.skip rfl rfl ?_
                  refine O.pick_false (v := (.bool false)) rfl rfl rfl rfl ?_
                  refine WL.nil ?_
                  exact ⟨congrArg Value.bool (and_f hc17), H⟩
                · skip
                  refine WL.reset (i := 152) (v := .bool true) (congrArg Value.bool hc17) ?_
                  refine O.move (v := (.int .i64 s2)) rfl rfl rfl ?_
                  refine O.move (v := (.int .i64 t9)) rfl rfl rfl ?_
                  refine O.eql rfl rfl rfl rfl ?_
                  refine O.pick_true (v := (.bool (s2 == t9))) rfl rfl rfl rfl ?_
                  refine WL.nil ?_
                  exact ⟨congrArg Value.bool (and_t hc17), H⟩
              · skip
                rintro f w ⟨hf156, H⟩
                obtain ⟨u15, rfl⟩ : ∃ u15, f = (upd u15 156 (.bool ((s1 == ((t3.length : Nat) : Int)) && (s2 == t9)))) := ⟨f, by rw [upd_self hf156]⟩
                refine O.move (v := (.bool ((s1 == ((t3.length : Nat) : Int)) && (s2 == t9)))) rfl rfl rfl ?_
                obtain ⟨b5, hm10, hm⟩ := bind_some hm
                refine WL.cut 2 (fun f w => f 159 = .bool b5 ∧ Inv w0 w [ownI (α := Int) v1 3 t3]) ?_ ?_
                · skip
                  rcases ite_some hm10 with ⟨hc18, hm10⟩ | ⟨hc18, hm10⟩
                  · skip
                    refine WL.reset (i := 157) (v := .bool true) (congrArg Value.bool hc18) ?_
                    obtain ⟨t23, hy13, hm10⟩ := bind_some hm10
                    refine O.call Try.call13 rfl rfl rfl (c_noongunlaw09_awake  hy13) ?_
                    rintro _ w13 hb13 rfl
                    have H := H.ext hb13
                    refine O.pick_true (v := (.bool t23)) rfl rfl rfl rfl ?_
                    refine WL.nil ?_
                    have hq : t23 = b5 := Option.some.inj (show some t23 = some b5 from hm10)
                    subst hq
                    exact ⟨rfl, H⟩
                  · skip
                    refine WL.reset (i := 157) (v := .bool false) (congrArg Value.bool hc18) ?_
                    refine O.skip rfl rfl ?_
                    refine O.pick_false (v := (.bool false)) rfl rfl rfl rfl ?_
                    refine WL.nil ?_
                    have hq : false = b5 := Option.some.inj (show some false = some b5 from hm10)
                    subst hq
                    exact ⟨rfl, H⟩
                · skip
                  rintro f w ⟨hf159, H⟩
                  obtain ⟨u16, rfl⟩ : ∃ u16, f = (upd u16 159 (.bool b5)) := ⟨f, by rw [upd_self hf159]⟩
                  refine O.assign (v := (.bool b5)) rfl rfl rfl ?_
                  refine WL.nil ?_
                  refine W.ret ?_
                  have hq : b5 = r0 := Option.some.inj (show some b5 = some r0 from hm)
                  subst hq
                  exact ends1 Try.results9 rfl ⟨_, rfl, H.base, rfl⟩

set_option maxRecDepth 20000 in
theorem c_noongunref09_Worst {w0 : World} (va0 : Value) (a0 : (List GEntry)) (ha0 : SliceR w0 va0 a0) {r0 : Int} {r1 : Int} (hm : noongunref09_Worst a0 = some (r0, r1)) :
    Calls Try.prog 45 #[va0] w0 (Ret w0 fun _ v => v = .tuple #[(.int .i64 r0), (.int .i64 r1)]) := by
  unfold noongunref09_Worst at hm
  refine calls_of_W Try.func45 rfl Try.ntmps45 (Nat.le_of_ble_eq_true rfl) ?_
  have H := Inv.start (w := w0)
  refine W.seq ?_
  refine W.region ?_
  refine O.assign (v := (.int .i64 0)) rfl rfl rfl ?_
  refine O.assign (v := (.int .i64 0)) rfl rfl rfl ?_
  refine WL.nil ?_
  refine W.seq ?_
  refine W.seq ?_
  refine W.region ?_
  refine O.move (v := va0) rfl rfl rfl ?_
  obtain ⟨t1, hy1, hm⟩ := bind_some hm
  refine O.call Try.call21 rfl rfl rfl (c_noongunref09_Valid _ _ (H.arg ha0) hy1) ?_
  rintro _ w1 hb1 rfl
  have H := H.ext hb1
  refine O.not rfl rfl rfl ?_
  refine WL.nil ?_
  rcases ite_some hm with ⟨hc1, hm⟩ | ⟨hc1, hm⟩
  · refine W.cond_true (congrArg Value.bool hc1) ?_
    refine W.seq ?_
    refine W.region ?_
    refine O.assign (v := (.int .i64 0)) rfl rfl rfl ?_
    refine O.assign (v := (.int .i64 1)) rfl rfl rfl ?_
    refine WL.nil ?_
    refine W.ret ?_
    have hq : (0, 1) = (r0, r1) := Option.some.inj (show some (0, 1) = some (r0, r1) from hm)
    obtain ⟨he0, hq0⟩ := Prod.mk.inj hq; clear hq; subst he0
    subst hq0
    exact ends2 Try.results45 rfl rfl ⟨_, rfl, H.base, rfl⟩
  · refine W.cond_false (congrArg Value.bool hc1) ?_
    refine W.skip ?_
    refine W.seq ?_
    refine W.region ?_
    refine O.assign (v := (.int .i64 (-1))) rfl rfl rfl ?_
    refine O.assign (v := (.int .i64 (-1))) rfl rfl rfl ?_
    refine WL.nil ?_
    refine W.seq ?_
    refine W.seq ?_
    refine W.region ?_
    refine O.move (v := va0) rfl rfl rfl ?_
    obtain ⟨t2, hy2, hm⟩ := bind_some hm
    refine O.call Try.call78 rfl rfl rfl (c_noongunref09_days _ _ (H.arg ha0) hy2) ?_
    rintro v1 w2 hb2 ho1
    have H := H.addOwn hb2 ho1
    refine O.lenS Try.underlying39 (H.own 0 rfl) rfl rfl rfl ?_
    refine O.move (v := (.int .i64 0)) rfl rfl rfl ?_
    refine WL.nil ?_
    obtain ⟨s1, hm1, hm⟩ := bind_some hm
    refine W.via (fun f w => f 4 = (.int .i64 s1) ∧ Inv w0 w []) ?_ ?_
    · skip
      refine W.block ?_
      refine W.rangeL (i := 0) hm1 (fun rem ik1 s f w => ∃ z3 : Int, ∃ z4 : Int, (z3, z4) = s ∧ t2.drop ik1 = rem ∧ f 16 = .int .i64 (ik1 : Int) ∧ f 15 = (.int .i64 ((t2.length : Nat) : Int)) ∧ f 0 = va0 ∧ f 4 = (.int .i64 z3) ∧ f 5 = (.int .i64 z4) ∧ f 14 = v1 ∧ Inv w0 w [ownI (α := Int) v1 3 t2]) ?_ ?_ ?_
      · skip
        exact ⟨_, _, rfl, List.drop_zero, rfl, rfl, rfl, rfl, rfl, rfl, H⟩
      · skip
        rintro yk1 xs ik1 _ st f w ⟨z3, z4, rfl, hdropk1, hf16, hf15, hf0, hf4, hf5, hf14, H⟩ hm2
        have hltk1 := drop_lt hdropk1; have hixk1 := drop_idx hdropk1
        obtain ⟨u1, rfl⟩ : ∃ u1, f = (upd (upd (upd (upd (upd (upd u1 16 (.int .i64 (ik1 : Int))) 15 (.int .i64 ((t2.length : Nat) : Int))) 0 va0) 4 (.int .i64 z3)) 5 (.int .i64 z4)) 14 v1) := ⟨f, by rw [upd_self hf16, upd_self hf15, upd_self hf0, upd_self hf4, upd_self hf5, upd_self hf14]⟩
        have hinck1 := addI_lt hltk1 (H.own 0 rfl).len_le
        refine W.seq ?_
        refine W.region ?_
        refine O.lss rfl rfl rfl rfl ?_
        refine WL.nil ?_
        refine W.seq ?_
        refine W.cond_true (congrArg Value.bool (decide_eq_true hltk1)) ?_
        refine W.skip ?_
        refine W.seq ?_
        obtain ⟨⟨s2, s3⟩, hm3, hm2⟩ := bind_some hm2
        refine W.via (fun f w => f 0 = va0 ∧ f 4 = (.int .i64 s2) ∧ f 5 = (.int .i64 s3) ∧ f 14 = v1 ∧ f 15 = (.int .i64 ((t2.length : Nat) : Int)) ∧ f 16 = (.int .i64 (ik1 : Int)) ∧ Inv w0 w [ownI (α := Int) v1 3 t2]) ?_ ?_
        · skip
          refine W.block ?_
          refine W.seq ?_
          refine W.region ?_
          refine O.indexAddr Try.underlying39 sz3 (H.own 0 rfl) hixk1 rfl rfl rfl rfl ?_
          intro p1 hp1
          refine O.load sc3 rfl rfl rfl (hp1.flat 0 _ rfl) ?_
          refine O.assign (v := (.int .i64 yk1)) rfl rfl rfl ?_
          refine WL.nil ?_
          refine W.seq ?_
          refine W.region ?_
          refine O.move (v := va0) rfl rfl rfl ?_
          refine O.move (v := (.int .i64 yk1)) rfl rfl rfl ?_
          obtain ⟨⟨t3, t4⟩, hy3, hm3⟩ := bind_some hm3
          refine O.call Try.call61 rfl rfl rfl (c_noongunref09_off _ _ (H.arg ha0) _ hy3) ?_
          rintro _ w3 hb3 rfl
          have hp1 := hp1.mono hb3
          have H := H.ext hb3
          refine O.move (v := (.tuple #[(.int .i64 t3), (.bool t4)])) rfl rfl rfl ?_
          refine O.extract (v := (.int .i64 t3)) rfl rfl rfl rfl ?_
          refine O.extract (v := (.bool t4)) rfl rfl rfl rfl ?_
          refine O.assign (v := (.int .i64 t3)) rfl rfl rfl ?_
          refine O.assign (v := (.bool t4)) rfl rfl rfl ?_
          refine WL.nil ?_
          refine W.seq ?_
          refine W.region ?_
          refine O.move (v := (.int .i64 t3)) rfl rfl rfl ?_
          obtain ⟨t5, hy4, hm3⟩ := bind_some hm3
          refine O.call Try.call44 rfl rfl rfl (c_noongunref09_Abs _ hy4) ?_
          rintro _ w4 hb4 rfl
          have hp1 := hp1.mono hb4
          have H := H.ext hb4
          refine O.move (v := (.int .i64 z4)) rfl rfl rfl ?_
          refine O.gtr rfl rfl rfl rfl ?_
          refine WL.nil ?_
          obtain ⟨⟨s4, s5⟩, hm4, hm3⟩ := bind_some hm3
          refine W.via (fun f w => f 0 = va0 ∧ f 4 = (.int .i64 s4) ∧ f 5 = (.int .i64 s5) ∧ f 14 = v1 ∧ f 15 = (.int .i64 ((t2.length : Nat) : Int)) ∧ f 16 = (.int .i64 (ik1 : Int)) ∧ Inv w0 w [ownI (α := Int) v1 3 t2]) ?_ ?_
          · skip
            rcases ite_some hm4 with ⟨hc2, hm4⟩ | ⟨hc2, hm4⟩
            · refine W.cond_true (congrArg Value.bool hc2) ?_
              refine W.region ?_
              refine O.move (v := (.int .i64 yk1)) rfl rfl rfl ?_
              refine O.move (v := (.int .i64 t3)) rfl rfl rfl ?_
              obtain ⟨t6, hy5, hm4⟩ := bind_some hm4
              refine O.call Try.call44 rfl rfl rfl (c_noongunref09_Abs _ hy5) ?_
              rintro _ w5 hb5 rfl
              have hp1 := hp1.mono hb5
              have H := H.ext hb5
              refine O.assign (v := (.int .i64 yk1)) rfl rfl rfl ?_
              refine O.assign (v := (.int .i64 t6)) rfl rfl rfl ?_
              refine WL.nil ?_
              have hq : (yk1, t6) = (s4, s5) := Option.some.inj (show some (yk1, t6) = some (s4, s5) from hm4)
              obtain ⟨he0, hq0⟩ := Prod.mk.inj hq; clear hq; subst he0
              subst hq0
              exact ⟨rfl, rfl, rfl, rfl, rfl, rfl, H⟩
            · refine W.cond_false (congrArg Value.bool hc2) ?_
              refine W.skip ?_
              have hq : (z3, z4) = (s4, s5) := Option.some.inj (show some (z3, z4) = some (s4, s5) from hm4)
              obtain ⟨he0, hq0⟩ := Prod.mk.inj hq; clear hq; subst he0
              subst hq0
              exact ⟨rfl, rfl, rfl, rfl, rfl, rfl, H⟩
          · skip
            rintro f w ⟨hf0, hf4, hf5, hf14, hf15, hf16, H⟩
            obtain ⟨u2, rfl⟩ : ∃ u2, f = (upd (upd (upd (upd (upd (upd u2 0 va0) 4 (.int .i64 s4)) 5 (.int .i64 s5)) 14 v1) 15 (.int .i64 ((t2.length : Nat) : Int))) 16 (.int .i64 (ik1 : Int))) := ⟨f, by rw [upd_self hf0, upd_self hf4, upd_self hf5, upd_self hf14, upd_self hf15, upd_self hf16]⟩
            have hq : (s4, s5) = (s2, s3) := Option.some.inj (show some (s4, s5) = some (s2, s3) from hm3)
            obtain ⟨he0, hq0⟩ := Prod.mk.inj hq; clear hq; subst he0
            subst hq0
            exact ⟨rfl, rfl, rfl, rfl, rfl, rfl, H⟩
        · skip
          rintro f w ⟨hf0, hf4, hf5, hf14, hf15, hf16, H⟩
          obtain ⟨u3, rfl⟩ : ∃ u3, f = (upd (upd (upd (upd (upd (upd u3 0 va0) 4 (.int .i64 s2)) 5 (.int .i64 s3)) 14 v1) 15 (.int .i64 ((t2.length : Nat) : Int))) 16 (.int .i64 (ik1 : Int))) := ⟨f, by rw [upd_self hf0, upd_self hf4, upd_self hf5, upd_self hf14, upd_self hf15, upd_self hf16]⟩
          refine W.region ?_
          refine O.add rfl rfl rfl rfl hinck1 ?_
          refine O.move (v := .int .i64 ((ik1 : Int) + 1)) rfl rfl rfl ?_
          refine WL.nil ?_
          obtain rfl := Option.some.inj hm2
          exact ⟨_, rfl, _, _, rfl, drop_next hdropk1, rfl, rfl, rfl, rfl, rfl, rfl, H⟩
      · skip
        rintro ik1 _ f w ⟨z3, z4, rfl, hdropk1, hf16, hf15, hf0, hf4, hf5, hf14, H⟩ hfin
        have hltk1 := drop_end hdropk1
        obtain ⟨u4, rfl⟩ : ∃ u4, f = (upd (upd (upd (upd (upd (upd u4 16 (.int .i64 (ik1 : Int))) 15 (.int .i64 ((t2.length : Nat) : Int))) 0 va0) 4 (.int .i64 z3)) 5 (.int .i64 z4)) 14 v1) := ⟨f, by rw [upd_self hf16, upd_self hf15, upd_self hf0, upd_self hf4, upd_self hf5, upd_self hf14]⟩
        refine W.seq ?_
        refine W.region ?_
        refine O.lss rfl rfl rfl rfl ?_
        refine WL.nil ?_
        refine W.seq ?_
        refine W.cond_false (congrArg Value.bool (decide_eq_false hltk1)) ?_
        refine W.exit ?_
        have hq : z3 = s1 := hfin
        subst hq
        have H := H.keep [] [] rfl (by decide)
        refine xT rfl ?_
        exact ⟨rfl, H⟩
    · skip
      rintro f w ⟨hf4, H⟩
      obtain ⟨u5, rfl⟩ : ∃ u5, f = (upd u5 4 (.int .i64 s1)) := ⟨f, by rw [upd_self hf4]⟩
      refine W.seq ?_
      refine W.seq ?_
      refine W.region ?_
      refine O.move (v := (.int .i64 s1)) rfl rfl rfl ?_
      refine O.lss rfl rfl rfl rfl ?_
      refine WL.nil ?_
      rcases ite_some hm with ⟨hc3, hm⟩ | ⟨hc3, hm⟩
      · refine W.cond_true (congrArg Value.bool hc3) ?_
        refine W.seq ?_
        refine W.region ?_
        refine O.assign (v := (.int .i64 0)) rfl rfl rfl ?_
        refine O.assign (v := (.int .i64 8)) rfl rfl rfl ?_
        refine WL.nil ?_
        refine W.ret ?_
        have hq : (0, 8) = (r0, r1) := Option.some.inj (show some (0, 8) = some (r0, r1) from hm)
        obtain ⟨he0, hq0⟩ := Prod.mk.inj hq; clear hq; subst he0
        subst hq0
        exact ends2 Try.results45 rfl rfl ⟨_, rfl, H.base, rfl⟩
      · refine W.cond_false (congrArg Value.bool hc3) ?_
        refine W.skip ?_
        refine W.seq ?_
        refine W.region ?_
        refine O.move (v := (.int .i64 s1)) rfl rfl rfl ?_
        refine O.assign (v := (.int .i64 s1)) rfl rfl rfl ?_
        refine O.assign (v := (.int .i64 0)) rfl rfl rfl ?_
        refine WL.nil ?_
        refine W.ret ?_
        have hq : (s1, 0) = (r0, r1) := Option.some.inj (show some (s1, 0) = some (r0, r1) from hm)
        obtain ⟨he0, hq0⟩ := Prod.mk.inj hq; clear hq; subst he0
        subst hq0
        exact ends2 Try.results45 rfl rfl ⟨_, rfl, H.base, rfl⟩

theorem c_noongunref09_bounded {w0 : World} (va0 : Value) (a0 : (List GEntry)) (ha0 : SliceR w0 va0 a0) (a1 : Int) {r0 : Int} (hm : noongunref09_bounded a0 a1 = some r0) :
    Calls Try.prog 84 #[va0, (.int .i64 a1)] w0 (Ret w0 fun _ v => v = (.int .i64 r0)) := by
  unfold noongunref09_bounded at hm
  refine calls_of_W Try.func84 rfl Try.ntmps84 (Nat.le_of_ble_eq_true rfl) ?_
  have H := Inv.start (w := w0)
  refine W.seq ?_
  refine W.region ?_
  refine O.assign (v := (.int .i64 0)) rfl rfl rfl ?_
  refine WL.nil ?_
  refine W.seq ?_
  refine W.seq ?_
  refine W.region ?_
  refine O.move (v := va0) rfl rfl rfl ?_
  obtain ⟨t1, hy1, hm⟩ := bind_some hm
  refine O.call Try.call21 rfl rfl rfl (c_noongunref09_Valid _ _ (H.arg ha0) hy1) ?_
  rintro _ w1 hb1 rfl
  have H := H.ext hb1
  refine O.not rfl rfl rfl ?_
  refine WL.nil ?_
  rcases ite_some hm with ⟨hc1, hm⟩ | ⟨hc1, hm⟩
  · refine W.cond_true (congrArg Value.bool hc1) ?_
    refine W.seq ?_
    refine W.region ?_
    refine O.assign (v := (.int .i64 1)) rfl rfl rfl ?_
    refine WL.nil ?_
    refine W.ret ?_
    have hq : 1 = r0 := Option.some.inj (show some 1 = some r0 from hm)
    subst hq
    exact ends1 Try.results84 rfl ⟨_, rfl, H.base, rfl⟩
  · refine W.cond_false (congrArg Value.bool hc1) ?_
    refine W.skip ?_
    refine W.seq ?_
    refine W.seq ?_
    refine W.region ?_
    refine O.move (v := (.int .i64 a1)) rfl rfl rfl ?_
    refine O.lss rfl rfl rfl rfl ?_
    refine O.move (v := (.bool (decide (a1 < 0)))) rfl rfl rfl ?_
    refine WL.cut 3 (fun f w => f 13 = .bool ((decide (a1 < 0)) || (decide (86400000 < a1))) ∧ Inv w0 w []) ?_ ?_
    · skip
      rcases bool_ft (decide (a1 < 0)) with hc2 | hc2
      · skip
        refine WL.reset (i := 10) (v := .bool false) (congrArg Value.bool hc2) ?_
        refine O.move (v := (.int .i64 a1)) rfl rfl rfl ?_
        refine O.gtr rfl rfl rfl rfl ?_
        refine O.pick_false (v := (.bool (decide (86400000 < a1)))) rfl rfl rfl rfl ?_
        refine WL.nil ?_
        exact ⟨congrArg Value.bool (or_f hc2), H⟩
      · skip
        refine WL.reset (i := 10) (v := .bool true) (congrArg Value.bool hc2) ?_
        refine O.skip rfl rfl ?_
        refine O.skip rfl rfl ?_
        refine O.pick_true (v := (.bool true)) rfl rfl rfl rfl ?_
        refine WL.nil ?_
        exact ⟨congrArg Value.bool (or_t hc2), H⟩
    · skip
      rintro f w ⟨hf13, H⟩
      obtain ⟨u1, rfl⟩ : ∃ u1, f = (upd u1 13 (.bool ((decide (a1 < 0)) || (decide (86400000 < a1))))) := ⟨f, by rw [upd_self hf13]⟩
      refine WL.nil ?_
      rcases ite_some hm with ⟨hc3, hm⟩ | ⟨hc3, hm⟩
      · refine W.cond_true (congrArg Value.bool hc3) ?_
        refine W.seq ?_
        refine W.region ?_
        refine O.assign (v := (.int .i64 7)) rfl rfl rfl ?_
        refine WL.nil ?_
        refine W.ret ?_
        have hq : 7 = r0 := Option.some.inj (show some 7 = some r0 from hm)
        subst hq
        exact ends1 Try.results84 rfl ⟨_, rfl, H.base, rfl⟩
      · refine W.cond_false (congrArg Value.bool hc3) ?_
        refine W.skip ?_
        refine W.seq ?_
        refine W.region ?_
        refine O.assign (v := (.int .i64 0)) rfl rfl rfl ?_
        refine WL.nil ?_
        refine W.ret ?_
        have hq : 0 = r0 := Option.some.inj (show some 0 = some r0 from hm)
        subst hq
        exact ends1 Try.results84 rfl ⟨_, rfl, H.base, rfl⟩

end Go.Proofs
