/-
  The walks: each function does what its model says, where the model has a value. No other condition.
-/
import Derived.Test.YtailgbhadhoedaaW1
namespace Go.Proofs
open Go.Fw Go.RowKit Go.Shelf
set_option maxRecDepth 20000 in
theorem c_sight_between {w0 : World} (va0_0 : Value) (va0_1 : Value) (a0 : GNet) (ha0_0 : SliceR w0 va0_0 a0.Rates) (ha0_1 : SliceR w0 va0_1 a0.Sights) (a1 : Int) (a2 : Int) (a3 : Int) {r0 : GSpan} {r1 : Bool} (hm : sight_between a0 a1 a2 a3 = some (r0, r1)) :
    Calls Try.prog 58 #[(.agg #[va0_0, va0_1]), (.int .i64 a1), (.int .i64 a2), (.int .i64 a3)] w0 (Ret w0 fun _ v => v = .tuple #[(.agg (Flat.cells r0).toArray), (.bool r1)]) := by
  unfold sight_between at hm
  refine calls_of_W Try.func58 rfl Try.ntmps58 (Nat.le_of_ble_eq_true rfl) ?_
  have H := Inv.start (w := w0)
  refine W.seq ?_
  refine W.region ?_
  refine O.box [va0_0, va0_1] H rfl rfl rfl rfl ?_
  intro b1 w1 H hb1
  refine O.alloc [(.int .i64 0), (.int .i64 0)] ze30 H rfl rfl rfl ?_
  intro b2 w2 H hb2
  refine O.assign (v := (.bool false)) rfl rfl rfl ?_
  refine WL.nil ?_
  refine W.seq ?_
  refine W.seq ?_
  refine W.region ?_
  refine O.move (v := (.int .i64 a1)) rfl rfl rfl ?_
  refine O.move (v := (.int .i64 a2)) rfl rfl rfl ?_
  refine O.eql rfl rfl rfl rfl ?_
  refine WL.nil ?_
  rcases ite_some hm with ⟨hc1, hm⟩ | ⟨hc1, hm⟩
  · refine W.cond_true (congrArg Value.bool hc1) ?_
    refine W.seq ?_
    refine W.region ?_
    refine O.build (v := (.agg (Flat.cells (GSpan.mk 0 0)).toArray)) (fun w => bd30_  w) rfl rfl rfl ?_
    refine O.store 1 0 [(.int .i64 0), (.int .i64 0)] [(.int .i64 0), (.int .i64 0)] sz30 H rfl rfl rfl rfl rfl rfl ⟨⟨rfl, rfl⟩, rfl⟩ (one_cons rfl (one_cons rfl one_nil)) ?_
    intro w3 H
    refine O.assign (v := (.bool true)) rfl rfl rfl ?_
    refine WL.nil ?_
    refine W.ret ?_
    have hq : ((GSpan.mk 0 0), true) = (r0, r1) := Option.some.inj (show some ((GSpan.mk 0 0), true) = some (r0, r1) from hm)
    obtain ⟨he0, hq0⟩ := Prod.mk.inj hq; clear hq; subst he0
    subst hq0
    exact ends2 Try.results58 ⟨_, rfl, run_loadVar_agg ag30 rfl (H.cell 1 rfl)⟩ rfl ⟨_, rfl, H.base, rfl⟩
  · refine W.cond_false (congrArg Value.bool hc1) ?_
    refine W.skip ?_
    refine W.seq ?_
    refine W.region ?_
    refine O.move (v := (.int .i64 a1)) rfl rfl rfl ?_
    refine O.move (v := (.int .i64 a3)) rfl rfl rfl ?_
    obtain ⟨t1, hy1, hm⟩ := bind_some hm
    refine O.call Try.call91 rfl rfl rfl (c_sight_pointOf _ _ hy1) ?_
    rintro _ w4 hb3 rfl
    have H := H.ext hb3
    refine O.move (v := (.int .i64 a2)) rfl rfl rfl ?_
    refine O.move (v := (.int .i64 a3)) rfl rfl rfl ?_
    obtain ⟨t2, hy2, hm⟩ := bind_some hm
    refine O.call Try.call91 rfl rfl rfl (c_sight_pointOf _ _ hy2) ?_
    rintro _ w5 hb4 rfl
    have H := H.ext hb4
    refine O.alloc [(.int .i64 0), (.int .i64 0)] ze87 H rfl rfl rfl ?_
    intro b3 w6 H hb5
    refine O.alloc [(.int .i64 0), (.int .i64 0)] ze87 H rfl rfl rfl ?_
    intro b4 w7 H hb6
    refine O.store 2 0 [(.int .i64 t1.clock), (.int .i64 t1.at_)] [(.int .i64 t1.clock), (.int .i64 t1.at_)] sz87 H rfl rfl rfl rfl rfl rfl ⟨⟨rfl, rfl⟩, rfl⟩ (one_cons rfl (one_cons rfl one_nil)) ?_
    intro w8 H
    refine O.store 3 0 [(.int .i64 t2.clock), (.int .i64 t2.at_)] [(.int .i64 t2.clock), (.int .i64 t2.at_)] sz87 H rfl rfl rfl rfl rfl rfl ⟨⟨rfl, rfl⟩, rfl⟩ (one_cons rfl (one_cons rfl one_nil)) ?_
    intro w9 H
    refine WL.nil ?_
    refine W.seq ?_
    refine W.region ?_
    refine O.loadA [va0_0, va0_1] ag25 rfl rfl rfl rfl (H.cell 0 rfl) ?_
    refine O.loadA [(.int .i64 t1.clock), (.int .i64 t1.at_)] ag87 rfl rfl rfl rfl (H.cell 2 rfl) ?_
    refine O.loadA [(.int .i64 t2.clock), (.int .i64 t2.at_)] ag87 rfl rfl rfl rfl (H.cell 3 rfl) ?_
    refine O.buildSlice (α := GPoint) [(.agg (Flat.cells t1).toArray), (.agg (Flat.cells t2).toArray)] [t1, t2] Try.underlying100 el87 H rfl rfl rfl rfl rfl rfl rfl ?_
    intro v1 w10 H hb7
    obtain ⟨⟨t3, t4⟩, hy3, hm⟩ := bind_some hm
    refine O.call Try.call56 rfl rfl rfl (c_sight_graphOf _ _ (GNet.mk a0.Rates a0.Sights) (H.arg ha0_0) (H.arg ha0_1) _ _ (H.own 4 rfl) hy3) ?_
    rintro _ w11 hb8 ⟨b5, m1, v2, sg1, rfl, hq1, hM1⟩
    have H := H.addAll hb8 hM1
    refine O.assign (v := (.pointer (some ⟨b5, 0, none⟩))) rfl rfl rfl ?_
    refine WL.nil ?_
    refine W.seq ?_
    refine W.region ?_
    refine O.move (v := (.pointer (some ⟨b5, 0, none⟩))) rfl rfl rfl ?_
    refine O.loadA [(.int .i64 t2.clock), (.int .i64 t2.at_)] ag87 rfl rfl rfl rfl (H.cell 3 rfl) ?_
    refine O.loadA [(.int .i64 t1.clock), (.int .i64 t1.at_)] ag87 rfl rfl rfl rfl (H.cell 2 rfl) ?_
    obtain ⟨⟨t5, t6⟩, hy4, hm⟩ := bind_some hm
    refine O.call Try.call92 rfl rfl rfl (c_sight_graph_least _ _ _ t3 sg1 (H.cell 5 rfl) (H.map 6 rfl) (H.own 7 rfl) t2 t1 (least_perm hq1 hy4)) ?_
    rintro _ w12 hb9 rfl
    have H := H.ext hb9
    refine O.move (v := (.tuple #[(.int .i64 t5), (.bool t6)])) rfl rfl rfl ?_
    refine O.extract (v := (.int .i64 t5)) rfl rfl rfl rfl ?_
    refine O.extract (v := (.bool t6)) rfl rfl rfl rfl ?_
    refine O.assign (v := (.int .i64 t5)) rfl rfl rfl ?_
    refine O.assign (v := (.bool t6)) rfl rfl rfl ?_
    refine WL.nil ?_
    refine W.seq ?_
    refine W.region ?_
    refine O.move (v := (.pointer (some ⟨b5, 0, none⟩))) rfl rfl rfl ?_
    refine O.loadA [(.int .i64 t1.clock), (.int .i64 t1.at_)] ag87 rfl rfl rfl rfl (H.cell 2 rfl) ?_
    refine O.loadA [(.int .i64 t2.clock), (.int .i64 t2.at_)] ag87 rfl rfl rfl rfl (H.cell 3 rfl) ?_
    obtain ⟨⟨t7, t8⟩, hy5, hm⟩ := bind_some hm
    refine O.call Try.call92 rfl rfl rfl (c_sight_graph_least _ _ _ t3 sg1 (H.cell 5 rfl) (H.map 6 rfl) (H.own 7 rfl) t1 t2 (least_perm hq1 hy5)) ?_
    rintro _ w13 hb10 rfl
    have H := H.ext hb10
    refine O.move (v := (.tuple #[(.int .i64 t7), (.bool t8)])) rfl rfl rfl ?_
    refine O.extract (v := (.int .i64 t7)) rfl rfl rfl rfl ?_
    refine O.extract (v := (.bool t8)) rfl rfl rfl rfl ?_
    refine O.assign (v := (.int .i64 t7)) rfl rfl rfl ?_
    refine O.assign (v := (.bool t8)) rfl rfl rfl ?_
    refine WL.nil ?_
    refine W.seq ?_
    refine W.region ?_
    refine O.move (v := (.int .i64 t7)) rfl rfl rfl ?_
    obtain ⟨t9, ht9, hm⟩ := bind_some hm
    refine O.neg rfl rfl rfl ht9 ?_
    refine O.move (v := (.int .i64 t5)) rfl rfl rfl ?_
    refine O.build (v := (.agg (Flat.cells (GSpan.mk t9 t5)).toArray)) (fun w => bd30_0_1 _ _ w) rfl rfl rfl ?_
    refine O.move (v := (.bool t6)) rfl rfl rfl ?_
    refine O.move (v := (.bool t6)) rfl rfl rfl ?_
    refine WL.cut 2 (fun f w => f 8 = (.pointer (some ⟨b2, 0, none⟩)) ∧ f 49 = (.agg (Flat.cells (GSpan.mk t9 t5)).toArray) ∧ f 53 = .bool (t6 && t8) ∧ Inv w0 w [boxI b1 25 [va0_0, va0_1], boxI b2 30 [(.int .i64 0), (.int .i64 0)], boxI b3 87 [(.int .i64 t1.clock), (.int .i64 t1.at_)], boxI b4 87 [(.int .i64 t2.clock), (.int .i64 t2.at_)], ownI (α := GPoint) v1 87 ([t1, t2] : List GPoint), boxI b5 104 [(.map (some m1)), v2], mapI (K := GPoint) (V := Int) m1 t3, ownI (α := GEdge) v2 108 sg1]) ?_ ?_
    · skip
      rcases bool_ft t6 with hc2 | hc2
      · skip
        refine WL.reset (i := 51) (v := .bool false) (congrArg Value.bool hc2) ?_
        refine O.skip rfl rfl ?_
        refine O.pick_false (v := (.bool false)) rfl rfl rfl rfl ?_
        refine WL.nil ?_
        exact ⟨rfl, rfl, congrArg Value.bool (and_f hc2), H⟩
      · skip
        refine WL.reset (i := 51) (v := .bool true) (congrArg Value.bool hc2) ?_
        refine O.move (v := (.bool t8)) rfl rfl rfl ?_
        refine O.pick_true (v := (.bool t8)) rfl rfl rfl rfl ?_
        refine WL.nil ?_
        exact ⟨rfl, rfl, congrArg Value.bool (and_t hc2), H⟩
    · skip
      rintro f w ⟨hf8, hf49, hf53, H⟩
      obtain ⟨u1, rfl⟩ : ∃ u1, f = (upd (upd (upd u1 8 (.pointer (some ⟨b2, 0, none⟩))) 49 (.agg (Flat.cells (GSpan.mk t9 t5)).toArray)) 53 (.bool (t6 && t8))) := ⟨f, by rw [upd_self hf8, upd_self hf49, upd_self hf53]⟩
      refine O.store 1 0 [(.int .i64 t9), (.int .i64 t5)] [(.int .i64 t9), (.int .i64 t5)] sz30 H rfl rfl rfl rfl rfl rfl ⟨⟨rfl, rfl⟩, rfl⟩ (one_cons rfl (one_cons rfl one_nil)) ?_
      intro w14 H
      refine O.assign (v := (.bool (t6 && t8))) rfl rfl rfl ?_
      refine WL.nil ?_
      refine W.ret ?_
      have hq : ((GSpan.mk t9 t5), (t6 && t8)) = (r0, r1) := Option.some.inj (show some ((GSpan.mk t9 t5), (t6 && t8)) = some (r0, r1) from hm)
      obtain ⟨he0, hq0⟩ := Prod.mk.inj hq; clear hq; subst he0
      subst hq0
      exact ends2 Try.results58 ⟨_, rfl, run_loadVar_agg ag30 rfl (H.cell 1 rfl)⟩ rfl ⟨_, rfl, H.base, rfl⟩

set_option maxRecDepth 20000 in
theorem c_sight_Between {w0 : World} (va0_0 : Value) (va0_1 : Value) (a0 : GNet) (ha0_0 : SliceR w0 va0_0 a0.Rates) (ha0_1 : SliceR w0 va0_1 a0.Sights) (a1 : Int) (a2 : Int) (a3 : Int) {r0 : GSpan} {r1 : Int} (hm : sight_Between a0 a1 a2 a3 = some (r0, r1)) :
    Calls Try.prog 16 #[(.agg #[va0_0, va0_1]), (.int .i64 a1), (.int .i64 a2), (.int .i64 a3)] w0 (Ret w0 fun _ v => v = .tuple #[(.agg (Flat.cells r0).toArray), (.int .i64 r1)]) := by
  unfold sight_Between at hm
  refine calls_of_W Try.func16 rfl Try.ntmps16 (Nat.le_of_ble_eq_true rfl) ?_
  have H := Inv.start (w := w0)
  refine W.seq ?_
  refine W.region ?_
  refine O.box [va0_0, va0_1] H rfl rfl rfl rfl ?_
  intro b1 w1 H hb1
  refine O.alloc [(.int .i64 0), (.int .i64 0)] ze30 H rfl rfl rfl ?_
  intro b2 w2 H hb2
  refine O.assign (v := (.int .i64 0)) rfl rfl rfl ?_
  refine WL.nil ?_
  refine W.seq ?_
  refine W.seq ?_
  refine W.region ?_
  refine O.loadA [va0_0, va0_1] ag25 rfl rfl rfl rfl (H.cell 0 rfl) ?_
  refine O.move (v := (.int .i64 a1)) rfl rfl rfl ?_
  refine O.move (v := (.int .i64 a2)) rfl rfl rfl ?_
  refine O.buildSlice (α := Int) [(.int .i64 a1), (.int .i64 a2)] [a1, a2] Try.underlying22 el3 H rfl rfl rfl rfl rfl rfl rfl ?_
  intro v1 w3 H hb3
  obtain ⟨t1, hy1, hm⟩ := bind_some hm
  refine O.call Try.call54 rfl rfl rfl (c_sight_clock _ _ (GNet.mk a0.Rates a0.Sights) (H.arg ha0_0) (H.arg ha0_1) _ _ (H.own 2 rfl) hy1) ?_
  rintro _ w4 hb4 rfl
  have H := H.ext hb4
  refine O.assign (v := (.int .i64 t1)) rfl rfl rfl ?_
  refine WL.nil ?_
  refine W.seq ?_
  refine W.region ?_
  refine O.move (v := (.int .i64 t1)) rfl rfl rfl ?_
  refine O.neq rfl rfl rfl rfl ?_
  refine WL.nil ?_
  rcases ite_some hm with ⟨hc1, hm⟩ | ⟨hc1, hm⟩
  · refine W.cond_true (congrArg Value.bool hc1) ?_
    refine W.seq ?_
    refine W.region ?_
    refine O.build (v := (.agg (Flat.cells (GSpan.mk 0 0)).toArray)) (fun w => bd30_  w) rfl rfl rfl ?_
    refine O.move (v := (.int .i64 t1)) rfl rfl rfl ?_
    refine O.store 1 0 [(.int .i64 0), (.int .i64 0)] [(.int .i64 0), (.int .i64 0)] sz30 H rfl rfl rfl rfl rfl rfl ⟨⟨rfl, rfl⟩, rfl⟩ (one_cons rfl (one_cons rfl one_nil)) ?_
    intro w5 H
    refine O.assign (v := (.int .i64 t1)) rfl rfl rfl ?_
    refine WL.nil ?_
    refine W.ret ?_
    have hq : ((GSpan.mk 0 0), t1) = (r0, r1) := Option.some.inj (show some ((GSpan.mk 0 0), t1) = some (r0, r1) from hm)
    obtain ⟨he0, hq0⟩ := Prod.mk.inj hq; clear hq; subst he0
    subst hq0
    exact ends2 Try.results16 ⟨_, rfl, run_loadVar_agg ag30 rfl (H.cell 1 rfl)⟩ rfl ⟨_, rfl, H.base, rfl⟩
  · refine W.cond_false (congrArg Value.bool hc1) ?_
    refine W.skip ?_
    refine W.seq ?_
    refine W.seq ?_
    refine W.region ?_
    refine O.move (v := (.int .i64 a3)) rfl rfl rfl ?_
    obtain ⟨t2, hy2, hm⟩ := bind_some hm
    refine O.call Try.call55 rfl rfl rfl (c_sight_within _ _ _ hy2) ?_
    rintro _ w6 hb5 rfl
    have H := H.ext hb5
    refine O.not rfl rfl rfl ?_
    refine WL.nil ?_
    rcases ite_some hm with ⟨hc2, hm⟩ | ⟨hc2, hm⟩
    · refine W.cond_true (congrArg Value.bool hc2) ?_
      refine W.seq ?_
      refine W.region ?_
      refine O.build (v := (.agg (Flat.cells (GSpan.mk 0 0)).toArray)) (fun w => bd30_  w) rfl rfl rfl ?_
      refine O.store 1 0 [(.int .i64 0), (.int .i64 0)] [(.int .i64 0), (.int .i64 0)] sz30 H rfl rfl rfl rfl rfl rfl ⟨⟨rfl, rfl⟩, rfl⟩ (one_cons rfl (one_cons rfl one_nil)) ?_
      intro w7 H
      refine O.assign (v := (.int .i64 7)) rfl rfl rfl ?_
      refine WL.nil ?_
      refine W.ret ?_
      have hq : ((GSpan.mk 0 0), 7) = (r0, r1) := Option.some.inj (show some ((GSpan.mk 0 0), 7) = some (r0, r1) from hm)
      obtain ⟨he0, hq0⟩ := Prod.mk.inj hq; clear hq; subst he0
      subst hq0
      exact ends2 Try.results16 ⟨_, rfl, run_loadVar_agg ag30 rfl (H.cell 1 rfl)⟩ rfl ⟨_, rfl, H.base, rfl⟩
    · refine W.cond_false (congrArg Value.bool hc2) ?_
      refine W.skip ?_
      refine W.seq ?_
      refine W.seq ?_
      refine W.region ?_
      refine O.loadA [va0_0, va0_1] ag25 rfl rfl rfl rfl (H.cell 0 rfl) ?_
      obtain ⟨⟨t3, t4⟩, hy3, hm⟩ := bind_some hm
      refine O.call Try.call56 rfl rfl rfl (c_sight_graphOf _ _ (GNet.mk a0.Rates a0.Sights) (H.arg ha0_0) (H.arg ha0_1) _ _ (SliceR.nil (α := GPoint)) hy3) ?_
      rintro _ w8 hb6 ⟨b3, m1, v2, sg1, rfl, hq1, hM1⟩
      have H := H.addAll hb6 hM1
      obtain ⟨⟨t5, t6⟩, hy4, hm⟩ := bind_some hm
      refine O.call Try.call57 rfl rfl rfl (c_sight_graph_circle _ _ _ t3 sg1 (H.cell 3 rfl) (H.map 4 rfl) (H.own 5 rfl) (circle_perm hq1 hy4)) ?_
      rintro v3 w9 hb7 ⟨ho1, hq2⟩
      have H := H.addOwn hb7 ho1
      refine O.neqNilB Try.underlying22 hq2 rfl rfl rfl rfl ?_
      refine WL.nil ?_
      rcases ite_some hm with ⟨hc3, hm⟩ | ⟨hc3, hm⟩
      · refine W.cond_true (congrArg Value.bool hc3) ?_
        refine W.seq ?_
        refine W.region ?_
        refine O.build (v := (.agg (Flat.cells (GSpan.mk 0 0)).toArray)) (fun w => bd30_  w) rfl rfl rfl ?_
        refine O.store 1 0 [(.int .i64 0), (.int .i64 0)] [(.int .i64 0), (.int .i64 0)] sz30 H rfl rfl rfl rfl rfl rfl ⟨⟨rfl, rfl⟩, rfl⟩ (one_cons rfl (one_cons rfl one_nil)) ?_
        intro w10 H
        refine O.assign (v := (.int .i64 9)) rfl rfl rfl ?_
        refine WL.nil ?_
        refine W.ret ?_
        have hq : ((GSpan.mk 0 0), 9) = (r0, r1) := Option.some.inj (show some ((GSpan.mk 0 0), 9) = some (r0, r1) from hm)
        obtain ⟨he0, hq0⟩ := Prod.mk.inj hq; clear hq; subst he0
        subst hq0
        exact ends2 Try.results16 ⟨_, rfl, run_loadVar_agg ag30 rfl (H.cell 1 rfl)⟩ rfl ⟨_, rfl, H.base, rfl⟩
      · refine W.cond_false (congrArg Value.bool hc3) ?_
        refine W.skip ?_
        refine W.seq ?_
        refine W.region ?_
        refine O.loadA [va0_0, va0_1] ag25 rfl rfl rfl rfl (H.cell 0 rfl) ?_
        refine O.move (v := (.int .i64 a1)) rfl rfl rfl ?_
        refine O.move (v := (.int .i64 a2)) rfl rfl rfl ?_
        refine O.move (v := (.int .i64 a3)) rfl rfl rfl ?_
        obtain ⟨⟨t7, t8⟩, hy5, hm⟩ := bind_some hm
        refine O.call Try.call58 rfl rfl rfl (c_sight_between _ _ (GNet.mk a0.Rates a0.Sights) (H.arg ha0_0) (H.arg ha0_1) _ _ _ hy5) ?_
        rintro _ w11 hb8 rfl
        have H := H.ext hb8
        refine O.move (v := (.tuple #[(.agg (Flat.cells t7).toArray), (.bool t8)])) rfl rfl rfl ?_
        refine O.extract (v := (.agg (Flat.cells t7).toArray)) rfl rfl rfl rfl ?_
        refine O.extract (v := (.bool t8)) rfl rfl rfl rfl ?_
        refine O.alloc [(.int .i64 0), (.int .i64 0)] ze30 H rfl rfl rfl ?_
        intro b4 w12 H hb9
        refine O.store 7 0 [(.int .i64 t7.Lo), (.int .i64 t7.Hi)] [(.int .i64 t7.Lo), (.int .i64 t7.Hi)] sz30 H rfl rfl rfl rfl rfl rfl ⟨⟨rfl, rfl⟩, rfl⟩ (one_cons rfl (one_cons rfl one_nil)) ?_
        intro w13 H
        refine O.assign (v := (.bool t8)) rfl rfl rfl ?_
        refine WL.nil ?_
        refine W.seq ?_
        refine W.seq ?_
        refine W.region ?_
        refine O.move (v := (.bool t8)) rfl rfl rfl ?_
        refine O.not rfl rfl rfl ?_
        refine WL.nil ?_
        rcases ite_some hm with ⟨hc4, hm⟩ | ⟨hc4, hm⟩
        · refine W.cond_true (congrArg Value.bool hc4) ?_
          refine W.seq ?_
          refine W.region ?_
          refine O.build (v := (.agg (Flat.cells (GSpan.mk 0 0)).toArray)) (fun w => bd30_  w) rfl rfl rfl ?_
          refine O.store 1 0 [(.int .i64 0), (.int .i64 0)] [(.int .i64 0), (.int .i64 0)] sz30 H rfl rfl rfl rfl rfl rfl ⟨⟨rfl, rfl⟩, rfl⟩ (one_cons rfl (one_cons rfl one_nil)) ?_
          intro w14 H
          refine O.assign (v := (.int .i64 8)) rfl rfl rfl ?_
          refine WL.nil ?_
          refine W.ret ?_
          have hq : ((GSpan.mk 0 0), 8) = (r0, r1) := Option.some.inj (show some ((GSpan.mk 0 0), 8) = some (r0, r1) from hm)
          obtain ⟨he0, hq0⟩ := Prod.mk.inj hq; clear hq; subst he0
          subst hq0
          exact ends2 Try.results16 ⟨_, rfl, run_loadVar_agg ag30 rfl (H.cell 1 rfl)⟩ rfl ⟨_, rfl, H.base, rfl⟩
        · refine W.cond_false (congrArg Value.bool hc4) ?_
          refine W.skip ?_
          refine W.seq ?_
          refine W.region ?_
          refine O.loadA [(.int .i64 t7.Lo), (.int .i64 t7.Hi)] ag30 rfl rfl rfl rfl (H.cell 7 rfl) ?_
          refine O.store 1 0 [(.int .i64 t7.Lo), (.int .i64 t7.Hi)] [(.int .i64 t7.Lo), (.int .i64 t7.Hi)] sz30 H rfl rfl rfl rfl rfl rfl ⟨⟨rfl, rfl⟩, rfl⟩ (one_cons rfl (one_cons rfl one_nil)) ?_
          intro w15 H
          refine O.assign (v := (.int .i64 0)) rfl rfl rfl ?_
          refine WL.nil ?_
          refine W.ret ?_
          have hq : (t7, 0) = (r0, r1) := Option.some.inj (show some (t7, 0) = some (r0, r1) from hm)
          obtain ⟨he0, hq0⟩ := Prod.mk.inj hq; clear hq; subst he0
          subst hq0
          exact ends2 Try.results16 ⟨_, rfl, run_loadVar_agg ag30 rfl (H.cell 1 rfl)⟩ rfl ⟨_, rfl, H.base, rfl⟩

theorem c_sight_Error {w0 : World} (va0_0 : Value) (va0_1 : Value) (a0 : GNet) (ha0_0 : SliceR w0 va0_0 a0.Rates) (ha0_1 : SliceR w0 va0_1 a0.Sights) (a1 : Int) (a2 : Int) {r0 : GSpan} {r1 : Int} (hm : sight_Error a0 a1 a2 = some (r0, r1)) :
    Calls Try.prog 21 #[(.agg #[va0_0, va0_1]), (.int .i64 a1), (.int .i64 a2)] w0 (Ret w0 fun _ v => v = .tuple #[(.agg (Flat.cells r0).toArray), (.int .i64 r1)]) := by
  unfold sight_Error at hm
  refine calls_of_W Try.func21 rfl Try.ntmps21 (Nat.le_of_ble_eq_true rfl) ?_
  have H := Inv.start (w := w0)
  refine W.seq ?_
  refine W.region ?_
  refine O.box [va0_0, va0_1] H rfl rfl rfl rfl ?_
  intro b1 w1 H hb1
  refine O.alloc [(.int .i64 0), (.int .i64 0)] ze30 H rfl rfl rfl ?_
  intro b2 w2 H hb2
  refine O.assign (v := (.int .i64 0)) rfl rfl rfl ?_
  refine WL.nil ?_
  refine W.seq ?_
  refine W.region ?_
  refine O.loadA [va0_0, va0_1] ag25 rfl rfl rfl rfl (H.cell 0 rfl) ?_
  refine O.move (v := (.int .i64 a1)) rfl rfl rfl ?_
  refine O.move (v := (.int .i64 a2)) rfl rfl rfl ?_
  obtain ⟨⟨t1, t2⟩, hy1, hm⟩ := bind_some hm
  refine O.call Try.call16 rfl rfl rfl (c_sight_Between _ _ (GNet.mk a0.Rates a0.Sights) (H.arg ha0_0) (H.arg ha0_1) _ _ _ hy1) ?_
  rintro _ w3 hb3 rfl
  have H := H.ext hb3
  refine O.extract (v := (.agg (Flat.cells t1).toArray)) rfl rfl rfl rfl ?_
  refine O.extract (v := (.int .i64 t2)) rfl rfl rfl rfl ?_
  refine O.store 1 0 [(.int .i64 t1.Lo), (.int .i64 t1.Hi)] [(.int .i64 t1.Lo), (.int .i64 t1.Hi)] sz30 H rfl rfl rfl rfl rfl rfl ⟨⟨rfl, rfl⟩, rfl⟩ (one_cons rfl (one_cons rfl one_nil)) ?_
  intro w4 H
  refine O.assign (v := (.int .i64 t2)) rfl rfl rfl ?_
  refine WL.nil ?_
  refine W.ret ?_
  have hq : (t1, t2) = (r0, r1) := Option.some.inj (show some (t1, t2) = some (r0, r1) from hm)
  obtain ⟨he0, hq0⟩ := Prod.mk.inj hq; clear hq; subst he0
  subst hq0
  exact ends2 Try.results21 ⟨_, rfl, run_loadVar_agg ag30 rfl (H.cell 1 rfl)⟩ rfl ⟨_, rfl, H.base, rfl⟩

theorem c_sight_Proves_c1 {w0 : World} (a0 : Int) (pc0 : Addr) (vc0_0 : Value) (vc0_1 : Value) (c0 : GNet) (hc0 : ∀ j c, ([vc0_0, vc0_1] : List Value)[j]? = some c → w0.cell? (pc0.add j) = some c) (_     : SliceR w0 vc0_0 c0.Rates) (rc0_1 : SliceR w0 vc0_1 c0.Sights) {r0 : Bool} (hm : sight_Proves_c1 a0 c0 = some r0) :
    Calls Try.prog 70 #[(.int .i64 a0), (.pointer (some pc0))] w0 (Ret w0 fun _ v => v = (.bool r0)) := by
  unfold sight_Proves_c1 at hm
  refine calls_of_W Try.func70 rfl Try.ntmps70 (Nat.le_of_ble_eq_true rfl) ?_
  have H := Inv.start (w := w0)
  refine W.seq ?_
  refine W.region ?_
  refine O.assign (v := (.bool false)) rfl rfl rfl ?_
  refine WL.nil ?_
  refine W.seq ?_
  refine W.region ?_
  refine O.move (v := (.int .i64 a0)) rfl rfl rfl ?_
  refine O.fieldAddr fd25_1 rfl rfl rfl ?_
  refine O.load sc23 rfl rfl rfl (cells_mono hc0 H.base 1 _ rfl) ?_
  refine O.lenS Try.underlying23 (H.arg rc0_1) rfl rfl rfl ?_
  obtain ⟨t1, ht1, hm⟩ := bind_some hm
  refine O.mul rfl rfl rfl rfl ht1 ?_
  obtain ⟨t2, ht2, hm⟩ := bind_some hm
  refine O.sub rfl rfl rfl rfl ht2 ?_
  obtain ⟨t3, hy1, hm⟩ := bind_some hm
  refine O.call Try.call55 rfl rfl rfl (c_sight_within _ _ _ hy1) ?_
  rintro _ w1 hb1 rfl
  have H := H.ext hb1
  refine O.not rfl rfl rfl ?_
  refine O.assign (v := (.bool (!t3))) rfl rfl rfl ?_
  refine WL.nil ?_
  refine W.ret ?_
  have hq : (!t3) = r0 := Option.some.inj (show some (!t3) = some r0 from hm)
  subst hq
  exact ends1 Try.results70 rfl ⟨_, rfl, H.base, rfl⟩

set_option maxRecDepth 20000 in
theorem c_sight_Proves {w0 : World} (va0_0 : Value) (va0_1 : Value) (a0 : GNet) (ha0_0 : SliceR w0 va0_0 a0.Rates) (ha0_1 : SliceR w0 va0_1 a0.Sights) (va1 : Value) (a1 : (List Int)) (ha1 : SliceR w0 va1 a1) {r0 : Bool} (hm : sight_Proves a0 a1 = some r0) :
    Calls Try.prog 28 #[(.agg #[va0_0, va0_1]), va1] w0 (Ret w0 fun _ v => v = (.bool r0)) := by
  unfold sight_Proves at hm
  refine calls_of_W Try.func28 rfl Try.ntmps28 (Nat.le_of_ble_eq_true rfl) ?_
  have H := Inv.start (w := w0)
  refine W.seq ?_
  refine W.region ?_
  refine O.box [va0_0, va0_1] H rfl rfl rfl rfl ?_
  intro b1 w1 H hb1
  refine O.assign (v := (.bool false)) rfl rfl rfl ?_
  refine WL.nil ?_
  refine W.seq ?_
  refine W.seq ?_
  refine W.region ?_
  refine O.loadA [va0_0, va0_1] ag25 rfl rfl rfl rfl (H.cell 0 rfl) ?_
  obtain ⟨t1, hy1, hm⟩ := bind_some hm
  refine O.call Try.call33 rfl rfl rfl (c_sight_Valid _ _ (GNet.mk a0.Rates a0.Sights) (H.arg ha0_0) (H.arg ha0_1) hy1) ?_
  rintro _ w2 hb2 rfl
  have H := H.ext hb2
  refine O.not rfl rfl rfl ?_
  refine O.move (v := (.bool (!t1))) rfl rfl rfl ?_
  refine WL.cut 4 (fun f w => f 1 = va1 ∧ f 2 = (.pointer (some ⟨b1, 0, none⟩)) ∧ f 21 = .bool ((!t1) || (((a1.length : Nat) : Int) == 0)) ∧ Inv w0 w [boxI b1 25 [va0_0, va0_1]]) ?_ ?_
  · skip
    rcases bool_ft (!t1) with hc1 | hc1
    · skip
      refine WL.reset (i := 17) (v := .bool false) (congrArg Value.bool hc1) ?_
      refine O.move (v := va1) rfl rfl rfl ?_
      refine O.lenS Try.underlying22 (H.arg ha1) rfl rfl rfl ?_
      refine O.eql rfl rfl rfl rfl ?_
      refine O.pick_false (v := (.bool (((a1.length : Nat) : Int) == 0))) rfl rfl rfl rfl ?_
      refine WL.nil ?_
      exact ⟨rfl, rfl, congrArg Value.bool (or_f hc1), H⟩
    · skip
      refine WL.reset (i := 17) (v := .bool true) (congrArg Value.bool hc1) ?_
      refine O.skip rfl rfl ?_
      refine O.skip rfl rfl ?_
      refine O.skip rfl rfl ?_
      refine O.pick_true (v := (.bool true)) rfl rfl rfl rfl ?_
      refine WL.nil ?_
      exact ⟨rfl, rfl, congrArg Value.bool (or_t hc1), H⟩
  · skip
    rintro f w ⟨hf1, hf2, hf21, H⟩
    obtain ⟨u1, rfl⟩ : ∃ u1, f = (upd (upd (upd u1 1 va1) 2 (.pointer (some ⟨b1, 0, none⟩))) 21 (.bool ((!t1) || (((a1.length : Nat) : Int) == 0)))) := ⟨f, by rw [upd_self hf1, upd_self hf2, upd_self hf21]⟩
    refine O.move (v := (.bool ((!t1) || (((a1.length : Nat) : Int) == 0)))) rfl rfl rfl ?_
    obtain ⟨b2, hm1, hm⟩ := bind_some hm
    refine WL.cut 4 (fun f w => f 1 = va1 ∧ f 2 = (.pointer (some ⟨b1, 0, none⟩)) ∧ f 26 = .bool b2 ∧ Inv w0 w [boxI b1 25 [va0_0, va0_1]]) ?_ ?_
    · skip
      rcases ite_some hm1 with ⟨hc2, hm1⟩ | ⟨hc2, hm1⟩
      · skip
        refine WL.reset (i := 22) (v := .bool true) (congrArg Value.bool hc2) ?_
        refine O.skip rfl rfl ?_
        refine O.skip rfl rfl ?_
        refine O.skip rfl rfl ?_
        refine O.pick_true (v := (.bool true)) rfl rfl rfl rfl ?_
        refine WL.nil ?_
        have hq : true = b2 := Option.some.inj (show some true = some b2 from hm1)
        subst hq
        exact ⟨rfl, rfl, rfl, H⟩
      · skip
        refine WL.reset (i := 22) (v := .bool false) (congrArg Value.bool hc2) ?_
        refine O.move (v := va1) rfl rfl rfl ?_
        refine O.makeFunc rfl rfl rfl rfl ?_
        obtain ⟨t2, hy2, hm1⟩ := bind_some hm1
        refine O.call Try.call69 rfl rfl rfl (c_slices_ContainsFunc_int _ _ (H.arg ha1) _ (fun x0 => sight_Proves_c1 x0 (GNet.mk a0.Rates a0.Sights)) (fun w hw x0 _ hy => callsV_mk Try.call70 (c_sight_Proves_c1 x0 _ _ _ (GNet.mk a0.Rates a0.Sights) (cells_mono (H.cell 0 rfl) hw) ((H.arg ha0_0).mono hw) ((H.arg ha0_1).mono hw) hy)) hy2) ?_
        rintro _ w3 hb3 rfl
        have H := H.ext hb3
        refine O.pick_false (v := (.bool t2)) rfl rfl rfl rfl ?_
        refine WL.nil ?_
        have hq : t2 = b2 := Option.some.inj (show some t2 = some b2 from hm1)
        subst hq
        exact ⟨rfl, rfl, rfl, H⟩
    · skip
      rintro f w ⟨hf1, hf2, hf26, H⟩
      obtain ⟨u2, rfl⟩ : ∃ u2, f = (upd (upd (upd u2 1 va1) 2 (.pointer (some ⟨b1, 0, none⟩))) 26 (.bool b2)) := ⟨f, by rw [upd_self hf1, upd_self hf2, upd_self hf26]⟩
      refine WL.nil ?_
      rcases ite_some hm with ⟨hc3, hm⟩ | ⟨hc3, hm⟩
      · refine W.cond_true (congrArg Value.bool hc3) ?_
        refine W.seq ?_
        refine W.region ?_
        refine O.assign (v := (.bool false)) rfl rfl rfl ?_
        refine WL.nil ?_
        refine W.ret ?_
        have hq : false = r0 := Option.some.inj (show some false = some r0 from hm)
        subst hq
        exact ends1 Try.results28 rfl ⟨_, rfl, H.base, rfl⟩
      · refine W.cond_false (congrArg Value.bool hc3) ?_
        refine W.skip ?_
        refine W.seq ?_
        refine W.region ?_
        refine O.assign (v := (.int .i64 0)) rfl rfl rfl ?_
        refine WL.nil ?_
        refine W.seq ?_
        refine W.seq ?_
        refine W.region ?_
        refine O.move (v := va1) rfl rfl rfl ?_
        refine O.lenS Try.underlying22 (H.arg ha1) rfl rfl rfl ?_
        refine O.move (v := (.int .i64 0)) rfl rfl rfl ?_
        refine WL.nil ?_
        obtain ⟨o1, hm2, hm⟩ := bind_some hm
        refine W.via (fun f w => ∃ s1 : Int, o1 = .next s1 ∧ f 5 = (.int .i64 s1) ∧ Inv w0 w []) ?_ ?_
        · skip
          refine W.block ?_
          have hbdik1 := (H.arg ha1).len_le
          refine W.rangeN (i := 0) hm2 (fun rem ik1 s f w => ∃ z2 : Int, z2 = s ∧ (ik1 : Int) + rem = max 0 ((a1.length : Nat) : Int) ∧ f 29 = .int .i64 (ik1 : Int) ∧ f 28 = (.int .i64 ((a1.length : Nat) : Int)) ∧ f 1 = va1 ∧ f 2 = (.pointer (some ⟨b1, 0, none⟩)) ∧ f 5 = (.int .i64 z2) ∧ f 27 = va1 ∧ Inv w0 w [boxI b1 25 [va0_0, va0_1]]) ?_ ?_ ?_
          · skip
            exact ⟨_, rfl, rangeN_start, rfl, rfl, rfl, rfl, rfl, rfl, H⟩
          · skip
            rintro k ik1 _ st f w ⟨z2, rfl, hdropk1, hf29, hf28, hf1, hf2, hf5, hf27, H⟩ hm3
            have hltk1 := rangeN_lt hdropk1
            obtain ⟨u3, rfl⟩ : ∃ u3, f = (upd (upd (upd (upd (upd (upd u3 29 (.int .i64 (ik1 : Int))) 28 (.int .i64 ((a1.length : Nat) : Int))) 1 va1) 2 (.pointer (some ⟨b1, 0, none⟩))) 5 (.int .i64 z2)) 27 va1) := ⟨f, by rw [upd_self hf29, upd_self hf28, upd_self hf1, upd_self hf2, upd_self hf5, upd_self hf27]⟩
            have hinck1 := addI_lt hltk1 hbdik1
            refine W.seq ?_
            refine W.region ?_
            refine O.lss rfl rfl rfl rfl ?_
            refine WL.nil ?_
            refine W.seq ?_
            refine W.cond_true (congrArg Value.bool (decide_eq_true hltk1)) ?_
            refine W.skip ?_
            refine W.seq ?_
            refine W.block ?_
            refine W.seq ?_
            refine W.region ?_
            refine O.move (v := (.int .i64 (ik1 : Int))) rfl rfl rfl ?_
            obtain ⟨x1, hx1, hm3⟩ := bind_some hm3
            obtain ⟨p1, hp1, hrp1⟩ := fix_indexAddr Try.underlying22 sz3 ha1 hx1
            refine hrp1 rfl rfl rfl rfl ?_
            refine O.load sc3 rfl rfl rfl ((hp1.mono H.base).flat 0 _ rfl) ?_
            refine O.assign (v := (.int .i64 (ik1 : Int))) rfl rfl rfl ?_
            refine O.assign (v := (.int .i64 x1)) rfl rfl rfl ?_
            refine WL.nil ?_
            refine W.seq ?_
            refine W.region ?_
            refine O.loadA [va0_0, va0_1] ag25 rfl rfl rfl rfl (H.cell 0 rfl) ?_
            refine O.move (v := (.int .i64 x1)) rfl rfl rfl ?_
            obtain ⟨⟨t3, t4, t5⟩, hy3, hm3⟩ := bind_some hm3
            refine O.call Try.call71 rfl rfl rfl (c_sight_taken _ _ (GNet.mk a0.Rates a0.Sights) (H.arg ha0_0) (H.arg ha0_1) _ hy3) ?_
            rintro _ w4 hb4 rfl
            have H := H.ext hb4
            refine O.move (v := (.tuple #[(.agg (Flat.cells t3).toArray), (.agg (Flat.cells t4).toArray), (.int .i64 t5)])) rfl rfl rfl ?_
            refine O.extract (v := (.agg (Flat.cells t3).toArray)) rfl rfl rfl rfl ?_
            refine O.extract (v := (.agg (Flat.cells t4).toArray)) rfl rfl rfl rfl ?_
            refine O.extract (v := (.int .i64 t5)) rfl rfl rfl rfl ?_
            refine O.alloc [(.int .i64 0), (.int .i64 0)] ze87 H rfl rfl rfl ?_
            intro b3 w5 H hb5
            refine O.alloc [(.int .i64 0), (.int .i64 0)] ze87 H rfl rfl rfl ?_
            intro b4 w6 H hb6
            refine O.store 1 0 [(.int .i64 t3.clock), (.int .i64 t3.at_)] [(.int .i64 t3.clock), (.int .i64 t3.at_)] sz87 H rfl rfl rfl rfl rfl rfl ⟨⟨rfl, rfl⟩, rfl⟩ (one_cons rfl (one_cons rfl one_nil)) ?_
            intro w7 H
            refine O.store 2 0 [(.int .i64 t4.clock), (.int .i64 t4.at_)] [(.int .i64 t4.clock), (.int .i64 t4.at_)] sz87 H rfl rfl rfl rfl rfl rfl ⟨⟨rfl, rfl⟩, rfl⟩ (one_cons rfl (one_cons rfl one_nil)) ?_
            intro w8 H
            refine O.assign (v := (.int .i64 t5)) rfl rfl rfl ?_
            refine WL.nil ?_
            refine W.seq ?_
            obtain ⟨t6, ht6, hm3⟩ := bind_some hm3
            obtain ⟨t7, ht7, hm3⟩ := bind_some hm3
            obtain ⟨x2, hx2, hm3⟩ := bind_some hm3
            obtain ⟨p2, hp2, hrp2⟩ := fix_indexAddr Try.underlying22 sz3 ha1 hx2
            obtain ⟨⟨t8, t9, t10⟩, hy4, hm3⟩ := bind_some hm3
            have H := H.addGone
            have H := H.addGone
            refine W.drawD 18 [[], [], [], [2], [], [4], [2, 3, 4, 5], [1, 2, 3, 4, 5, 6], [1, 2, 3, 4, 5, 6, 7], [0, 1, 2, 3, 4, 5, 6, 7, 8], [0, 1, 2, 3, 4, 5, 6, 7, 8, 9], [0, 1, 2, 3, 4, 5, 6, 7, 8, 9, 10], [0, 1, 2, 3, 4, 5, 6, 7, 8, 9, 10], [0, 1, 2, 3, 4, 5, 6, 7, 8, 9, 10], [], [], [0, 1, 2, 3, 4, 5, 6, 7, 8, 9, 10, 11, 14, 15], [0, 1, 2, 3, 4, 5, 6, 7, 8, 9, 10, 11, 12, 14, 15, 16]] [[9, 10, 11, 12, 13, 16, 17], [7, 8, 9, 10, 11, 12, 13, 16, 17], [3, 6, 7, 8, 9, 10, 11, 12, 13, 16, 17], [6, 7, 8, 9, 10, 11, 12, 13, 16, 17], [5, 6, 7, 8, 9, 10, 11, 12, 13, 16, 17], [6, 7, 8, 9, 10, 11, 12, 13, 16, 17], [7, 8, 9, 10, 11, 12, 13, 16, 17], [8, 9, 10, 11, 12, 13, 16, 17], [9, 10, 11, 12, 13, 16, 17], [10, 11, 12, 13, 16, 17], [11, 12, 13, 16, 17], [16, 17], [17], [], [16, 17], [16, 17], [17], []] (fun S f w => ∃ b5 : Nat, ∃ b6 : Nat, f 1 = va1 ∧ f 2 = (.pointer (some ⟨b1, 0, none⟩)) ∧ f 5 = (.int .i64 z2) ∧ f 6 = (.int .i64 (ik1 : Int)) ∧ f 9 = (.pointer (some ⟨b4, 0, none⟩)) ∧ f 10 = (.int .i64 t5) ∧ f 27 = va1 ∧ f 28 = (.int .i64 ((a1.length : Nat) : Int)) ∧ f 29 = (.int .i64 (ik1 : Int)) ∧ (S 0 = true → f 42 = (.agg #[va0_0, va0_1])) ∧ (S 1 = true → f 43 = va1) ∧ (S 2 = true → f 44 = (.int .i64 (ik1 : Int))) ∧ (S 3 = true → f 45 = (.int .i64 t6)) ∧ (S 4 = true → f 46 = va1) ∧ (S 5 = true → f 47 = (.int .i64 ((a1.length : Nat) : Int))) ∧ (S 6 = true → f 48 = (.int .i64 t7)) ∧ (S 7 = true → f 49 = (.pointer (some p2))) ∧ (S 8 = true → f 50 = (.int .i64 x2)) ∧ (S 9 = true → f 51 = (.tuple #[(.agg (Flat.cells t8).toArray), (.agg (Flat.cells t9).toArray), (.int .i64 t10)])) ∧ (S 10 = true → f 41 = (.tuple #[(.agg (Flat.cells t8).toArray), (.agg (Flat.cells t9).toArray), (.int .i64 t10)])) ∧ (S 11 = true → f 52 = (.agg (Flat.cells t8).toArray)) ∧ (S 12 = true → f 53 = (.agg (Flat.cells t9).toArray)) ∧ (S 13 = true → f 54 = (.int .i64 t10)) ∧ (S 14 = true → f 11 = (.pointer (some ⟨b5, 0, none⟩))) ∧ (S 15 = true → f 12 = (.pointer (some ⟨b6, 0, none⟩))) ∧ (S 16 = true → S 14 = true) ∧ (S 16 = true → S 15 = true) ∧ (S 17 = true → S 14 = true) ∧ (S 17 = true → S 15 = true) ∧ (S 17 = true → S 16 = true) ∧ (S 14 = false → S 15 = false → S 16 = false → S 17 = false → Inv w0 w [boxI b1 25 [va0_0, va0_1], boxI b3 87 [(.int .i64 t3.clock), (.int .i64 t3.at_)], boxI b4 87 [(.int .i64 t4.clock), (.int .i64 t4.at_)], goneI, goneI]) ∧ (S 14 = true → S 15 = false → S 16 = false → S 17 = false → Inv w0 w [boxI b1 25 [va0_0, va0_1], boxI b3 87 [(.int .i64 t3.clock), (.int .i64 t3.at_)], boxI b4 87 [(.int .i64 t4.clock), (.int .i64 t4.at_)], boxI b5 87 [(.int .i64 0), (.int .i64 0)], goneI]) ∧ (S 14 = false → S 15 = true → S 16 = false → S 17 = false → Inv w0 w [boxI b1 25 [va0_0, va0_1], boxI b3 87 [(.int .i64 t3.clock), (.int .i64 t3.at_)], boxI b4 87 [(.int .i64 t4.clock), (.int .i64 t4.at_)], goneI, boxI b6 87 [(.int .i64 0), (.int .i64 0)]]) ∧ (S 14 = true → S 15 = true → S 16 = false → S 17 = false → Inv w0 w [boxI b1 25 [va0_0, va0_1], boxI b3 87 [(.int .i64 t3.clock), (.int .i64 t3.at_)], boxI b4 87 [(.int .i64 t4.clock), (.int .i64 t4.at_)], boxI b5 87 [(.int .i64 0), (.int .i64 0)], boxI b6 87 [(.int .i64 0), (.int .i64 0)]]) ∧ (S 14 = true → S 15 = true → S 16 = true → S 17 = false → Inv w0 w [boxI b1 25 [va0_0, va0_1], boxI b3 87 [(.int .i64 t3.clock), (.int .i64 t3.at_)], boxI b4 87 [(.int .i64 t4.clock), (.int .i64 t4.at_)], boxI b5 87 [(.int .i64 t8.clock), (.int .i64 t8.at_)], boxI b6 87 [(.int .i64 0), (.int .i64 0)]]) ∧ (S 14 = true → S 15 = true → S 16 = true → S 17 = true → Inv w0 w [boxI b1 25 [va0_0, va0_1], boxI b3 87 [(.int .i64 t3.clock), (.int .i64 t3.at_)], boxI b4 87 [(.int .i64 t4.clock), (.int .i64 t4.at_)], boxI b5 87 [(.int .i64 t8.clock), (.int .i64 t8.at_)], boxI b6 87 [(.int .i64 t9.clock), (.int .i64 t9.at_)]])) fol (by kernel_rfl) ?_ ?_ ?_
            · skip
              exact fun d _ => ⟨0, 0, rfl, rfl, rfl, rfl, rfl, rfl, rfl, rfl, rfl, (fun a => nomatch (show false = true from a)), (fun a => nomatch (show false = true from a)), (fun a => nomatch (show false = true from a)), (fun a => nomatch (show false = true from a)), (fun a => nomatch (show false = true from a)), (fun a => nomatch (show false = true from a)), (fun a => nomatch (show false = true from a)), (fun a => nomatch (show false = true from a)), (fun a => nomatch (show false = true from a)), (fun a => nomatch (show false = true from a)), (fun a => nomatch (show false = true from a)), (fun a => nomatch (show false = true from a)), (fun a => nomatch (show false = true from a)), (fun a => nomatch (show false = true from a)), (fun a => nomatch (show false = true from a)), (fun a => nomatch (show false = true from a)), (fun a => nomatch (show false = true from a)), (fun a => nomatch (show false = true from a)), (fun a => nomatch (show false = true from a)), (fun a => nomatch (show false = true from a)), (fun a => nomatch (show false = true from a)), (fun _ _ _ _ => H.ext (below_drawn d)), (fun a _ _ _ => nomatch (show false = true from a)), (fun _ a _ _ => nomatch (show false = true from a)), (fun a _ _ _ => nomatch (show false = true from a)), (fun a _ _ _ => nomatch (show false = true from a)), (fun a _ _ _ => nomatch (show false = true from a))⟩
            · skip
              refine ⟨?_, ⟨?_, ⟨?_, ⟨?_, ⟨?_, ⟨?_, ⟨?_, ⟨?_, ⟨?_, ⟨?_, ⟨?_, ⟨?_, ⟨?_, ⟨?_, ⟨?_, ⟨?_, ⟨?_, ⟨?_, trivial⟩⟩⟩⟩⟩⟩⟩⟩⟩⟩⟩⟩⟩⟩⟩⟩⟩⟩
              · skip
                rintro S f w hS - ⟨e9, e10, e11, e12, e13, e16, e17, -⟩ ⟨b5, b6, hf1, hf2, hf5, hf6, hf9, hf10, hf27, hf28, hf29, hd0, hd1, hd2, hd3, hd4, hd5, hd6, hd7, hd8, hd9, hd10, hd11, hd12, hd13, hd14, hd15, C16_14, C16_15, C17_14, C17_15, C17_16, W0, W1, W2, W3, W4, W5⟩
                obtain ⟨u4, rfl⟩ : ∃ u4, f = (upd u4 2 (.pointer (some ⟨b1, 0, none⟩))) := ⟨f, by rw [upd_self hf2]⟩
                rcases bool_ft (S 14) with e14 | e14
                · skip
                  rcases bool_ft (S 15) with e15 | e15
                  · skip
                    have H := W0 e14 e15 e16 e17
                    refine O.loadA [va0_0, va0_1] ag25 rfl rfl rfl rfl (H.cell 0 rfl) ?_
                    refine WL.nil ?_
                    exact ⟨b5, b6, hf1, rfl, hf5, hf6, hf9, hf10, hf27, hf28, hf29, (fun _ => rfl), hd1, hd2, hd3, hd4, hd5, hd6, hd7, hd8, hd9, hd10, hd11, hd12, hd13, hd14, hd15, C16_14, C16_15, C17_14, C17_15, C17_16, (fun _ _ _ _ => H), (fun a _ _ _ => nomatch (show false = true from e14.symm.trans a)), (fun _ a _ _ => nomatch (show false = true from e15.symm.trans a)), (fun a _ _ _ => nomatch (show false = true from e14.symm.trans a)), (fun a _ _ _ => nomatch (show false = true from e14.symm.trans a)), (fun a _ _ _ => nomatch (show false = true from e14.symm.trans a))⟩
                  · skip
                    have H := W2 e14 e15 e16 e17
                    refine O.loadA [va0_0, va0_1] ag25 rfl rfl rfl rfl (H.cell 0 rfl) ?_
                    refine WL.nil ?_
                    exact ⟨b5, b6, hf1, rfl, hf5, hf6, hf9, hf10, hf27, hf28, hf29, (fun _ => rfl), hd1, hd2, hd3, hd4, hd5, hd6, hd7, hd8, hd9, hd10, hd11, hd12, hd13, hd14, hd15, C16_14, C16_15, C17_14, C17_15, C17_16, (fun _ a _ _ => nomatch (show true = false from e15.symm.trans a)), (fun a _ _ _ => nomatch (show false = true from e14.symm.trans a)), (fun _ _ _ _ => H), (fun a _ _ _ => nomatch (show false = true from e14.symm.trans a)), (fun a _ _ _ => nomatch (show false = true from e14.symm.trans a)), (fun a _ _ _ => nomatch (show false = true from e14.symm.trans a))⟩
                · skip
                  rcases bool_ft (S 15) with e15 | e15
                  · skip
                    have H := W1 e14 e15 e16 e17
                    refine O.loadA [va0_0, va0_1] ag25 rfl rfl rfl rfl (H.cell 0 rfl) ?_
                    refine WL.nil ?_
                    exact ⟨b5, b6, hf1, rfl, hf5, hf6, hf9, hf10, hf27, hf28, hf29, (fun _ => rfl), hd1, hd2, hd3, hd4, hd5, hd6, hd7, hd8, hd9, hd10, hd11, hd12, hd13, hd14, hd15, C16_14, C16_15, C17_14, C17_15, C17_16, (fun a _ _ _ => nomatch (show true = false from e14.symm.trans a)), (fun _ _ _ _ => H), (fun a _ _ _ => nomatch (show true = false from e14.symm.trans a)), (fun _ a _ _ => nomatch (show false = true from e15.symm.trans a)), (fun _ a _ _ => nomatch (show false = true from e15.symm.trans a)), (fun _ a _ _ => nomatch (show false = true from e15.symm.trans a))⟩
                  · skip
                    have H := W3 e14 e15 e16 e17
                    refine O.loadA [va0_0, va0_1] ag25 rfl rfl rfl rfl (H.cell 0 rfl) ?_
                    refine WL.nil ?_
                    exact ⟨b5, b6, hf1, rfl, hf5, hf6, hf9, hf10, hf27, hf28, hf29, (fun _ => rfl), hd1, hd2, hd3, hd4, hd5, hd6, hd7, hd8, hd9, hd10, hd11, hd12, hd13, hd14, hd15, C16_14, C16_15, C17_14, C17_15, C17_16, (fun a _ _ _ => nomatch (show true = false from e14.symm.trans a)), (fun _ a _ _ => nomatch (show true = false from e15.symm.trans a)), (fun a _ _ _ => nomatch (show true = false from e14.symm.trans a)), (fun _ _ _ _ => H), (fun _ _ a _ => nomatch (show false = true from e16.symm.trans a)), (fun _ _ a _ => nomatch (show false = true from e16.symm.trans a))⟩
              · skip
                rintro S f w hS - ⟨e7, e8, e9, e10, e11, e12, e13, e16, e17, -⟩ ⟨b5, b6, hf1, hf2, hf5, hf6, hf9, hf10, hf27, hf28, hf29, hd0, hd1, hd2, hd3, hd4, hd5, hd6, hd7, hd8, hd9, hd10, hd11, hd12, hd13, hd14, hd15, C16_14, C16_15, C17_14, C17_15, C17_16, W0, W1, W2, W3, W4, W5⟩
                obtain ⟨u5, rfl⟩ : ∃ u5, f = (upd u5 1 va1) := ⟨f, by rw [upd_self hf1]⟩
                rcases bool_ft (S 14) with e14 | e14
                · skip
                  rcases bool_ft (S 15) with e15 | e15
                  · skip
                    have H := W0 e14 e15 e16 e17
                    refine O.move (v := va1) rfl rfl rfl ?_
                    refine WL.nil ?_
                    exact ⟨b5, b6, rfl, hf2, hf5, hf6, hf9, hf10, hf27, hf28, hf29, hd0, (fun _ => rfl), hd2, hd3, hd4, hd5, hd6, hd7, hd8, hd9, hd10, hd11, hd12, hd13, hd14, hd15, C16_14, C16_15, C17_14, C17_15, C17_16, (fun _ _ _ _ => H), (fun a _ _ _ => nomatch (show false = true from e14.symm.trans a)), (fun _ a _ _ => nomatch (show false = true from e15.symm.trans a)), (fun a _ _ _ => nomatch (show false = true from e14.symm.trans a)), (fun a _ _ _ => nomatch (show false = true from e14.symm.trans a)), (fun a _ _ _ => nomatch (show false = true from e14.symm.trans a))⟩
                  · skip
                    have H := W2 e14 e15 e16 e17
                    refine O.move (v := va1) rfl rfl rfl ?_
                    refine WL.nil ?_
                    exact ⟨b5, b6, rfl, hf2, hf5, hf6, hf9, hf10, hf27, hf28, hf29, hd0, (fun _ => rfl), hd2, hd3, hd4, hd5, hd6, hd7, hd8, hd9, hd10, hd11, hd12, hd13, hd14, hd15, C16_14, C16_15, C17_14, C17_15, C17_16, (fun _ a _ _ => nomatch (show true = false from e15.symm.trans a)), (fun a _ _ _ => nomatch (show false = true from e14.symm.trans a)), (fun _ _ _ _ => H), (fun a _ _ _ => nomatch (show false = true from e14.symm.trans a)), (fun a _ _ _ => nomatch (show false = true from e14.symm.trans a)), (fun a _ _ _ => nomatch (show false = true from e14.symm.trans a))⟩
                · skip
                  rcases bool_ft (S 15) with e15 | e15
                  · skip
                    have H := W1 e14 e15 e16 e17
                    refine O.move (v := va1) rfl rfl rfl ?_
                    refine WL.nil ?_
                    exact ⟨b5, b6, rfl, hf2, hf5, hf6, hf9, hf10, hf27, hf28, hf29, hd0, (fun _ => rfl), hd2, hd3, hd4, hd5, hd6, hd7, hd8, hd9, hd10, hd11, hd12, hd13, hd14, hd15, C16_14, C16_15, C17_14, C17_15, C17_16, (fun a _ _ _ => nomatch (show true = false from e14.symm.trans a)), (fun _ _ _ _ => H), (fun a _ _ _ => nomatch (show true = false from e14.symm.trans a)), (fun _ a _ _ => nomatch (show false = true from e15.symm.trans a)), (fun _ a _ _ => nomatch (show false = true from e15.symm.trans a)), (fun _ a _ _ => nomatch (show false = true from e15.symm.trans a))⟩
                  · skip
                    have H := W3 e14 e15 e16 e17
                    refine O.move (v := va1) rfl rfl rfl ?_
                    refine WL.nil ?_
                    exact ⟨b5, b6, rfl, hf2, hf5, hf6, hf9, hf10, hf27, hf28, hf29, hd0, (fun _ => rfl), hd2, hd3, hd4, hd5, hd6, hd7, hd8, hd9, hd10, hd11, hd12, hd13, hd14, hd15, C16_14, C16_15, C17_14, C17_15, C17_16, (fun a _ _ _ => nomatch (show true = false from e14.symm.trans a)), (fun _ a _ _ => nomatch (show true = false from e15.symm.trans a)), (fun a _ _ _ => nomatch (show true = false from e14.symm.trans a)), (fun _ _ _ _ => H), (fun _ _ a _ => nomatch (show false = true from e16.symm.trans a)), (fun _ _ a _ => nomatch (show false = true from e16.symm.trans a))⟩
              · skip
                rintro S f w hS - ⟨e3, e6, e7, e8, e9, e10, e11, e12, e13, e16, e17, -⟩ ⟨b5, b6, hf1, hf2, hf5, hf6, hf9, hf10, hf27, hf28, hf29, hd0, hd1, hd2, hd3, hd4, hd5, hd6, hd7, hd8, hd9, hd10, hd11, hd12, hd13, hd14, hd15, C16_14, C16_15, C17_14, C17_15, C17_16, W0, W1, W2, W3, W4, W5⟩
                obtain ⟨u6, rfl⟩ : ∃ u6, f = (upd u6 6 (.int .i64 (ik1 : Int))) := ⟨f, by rw [upd_self hf6]⟩
                rcases bool_ft (S 14) with e14 | e14
                · skip
                  rcases bool_ft (S 15) with e15 | e15
                  · skip
                    have H := W0 e14 e15 e16 e17
                    refine O.move (v := (.int .i64 (ik1 : Int))) rfl rfl rfl ?_
                    refine WL.nil ?_
                    exact ⟨b5, b6, hf1, hf2, hf5, rfl, hf9, hf10, hf27, hf28, hf29, hd0, hd1, (fun _ => rfl), hd3, hd4, hd5, hd6, hd7, hd8, hd9, hd10, hd11, hd12, hd13, hd14, hd15, C16_14, C16_15, C17_14, C17_15, C17_16, (fun _ _ _ _ => H), (fun a _ _ _ => nomatch (show false = true from e14.symm.trans a)), (fun _ a _ _ => nomatch (show false = true from e15.symm.trans a)), (fun a _ _ _ => nomatch (show false = true from e14.symm.trans a)), (fun a _ _ _ => nomatch (show false = true from e14.symm.trans a)), (fun a _ _ _ => nomatch (show false = true from e14.symm.trans a))⟩
                  · skip
                    have H := W2 e14 e15 e16 e17
                    refine O.move (v := (.int .i64 (ik1 : Int))) rfl rfl rfl ?_
                    refine WL.nil ?_
                    exact ⟨b5, b6, hf1, hf2, hf5, rfl, hf9, hf10, hf27, hf28, hf29, hd0, hd1, (fun _ => rfl), hd3, hd4, hd5, hd6, hd7, hd8, hd9, hd10, hd11, hd12, hd13, hd14, hd15, C16_14, C16_15, C17_14, C17_15, C17_16, (fun _ a _ _ => nomatch (show true = false from e15.symm.trans a)), (fun a _ _ _ => nomatch (show false = true from e14.symm.trans a)), (fun _ _ _ _ => H), (fun a _ _ _ => nomatch (show false = true from e14.symm.trans a)), (fun a _ _ _ => nomatch (show false = true from e14.symm.trans a)), (fun a _ _ _ => nomatch (show false = true from e14.symm.trans a))⟩
                · skip
                  rcases bool_ft (S 15) with e15 | e15
                  · skip
                    have H := W1 e14 e15 e16 e17
                    refine O.move (v := (.int .i64 (ik1 : Int))) rfl rfl rfl ?_
                    refine WL.nil ?_
                    exact ⟨b5, b6, hf1, hf2, hf5, rfl, hf9, hf10, hf27, hf28, hf29, hd0, hd1, (fun _ => rfl), hd3, hd4, hd5, hd6, hd7, hd8, hd9, hd10, hd11, hd12, hd13, hd14, hd15, C16_14, C16_15, C17_14, C17_15, C17_16, (fun a _ _ _ => nomatch (show true = false from e14.symm.trans a)), (fun _ _ _ _ => H), (fun a _ _ _ => nomatch (show true = false from e14.symm.trans a)), (fun _ a _ _ => nomatch (show false = true from e15.symm.trans a)), (fun _ a _ _ => nomatch (show false = true from e15.symm.trans a)), (fun _ a _ _ => nomatch (show false = true from e15.symm.trans a))⟩
                  · skip
                    have H := W3 e14 e15 e16 e17
                    refine O.move (v := (.int .i64 (ik1 : Int))) rfl rfl rfl ?_
                    refine WL.nil ?_
                    exact ⟨b5, b6, hf1, hf2, hf5, rfl, hf9, hf10, hf27, hf28, hf29, hd0, hd1, (fun _ => rfl), hd3, hd4, hd5, hd6, hd7, hd8, hd9, hd10, hd11, hd12, hd13, hd14, hd15, C16_14, C16_15, C17_14, C17_15, C17_16, (fun a _ _ _ => nomatch (show true = false from e14.symm.trans a)), (fun _ a _ _ => nomatch (show true = false from e15.symm.trans a)), (fun a _ _ _ => nomatch (show true = false from e14.symm.trans a)), (fun _ _ _ _ => H), (fun _ _ a _ => nomatch (show false = true from e16.symm.trans a)), (fun _ _ a _ => nomatch (show false = true from e16.symm.trans a))⟩
              · skip
                rintro S f w hS ⟨e2, -⟩ ⟨e6, e7, e8, e9, e10, e11, e12, e13, e16, e17, -⟩ ⟨b5, b6, hf1, hf2, hf5, hf6, hf9, hf10, hf27, hf28, hf29, hd0, hd1, hd2, hd3, hd4, hd5, hd6, hd7, hd8, hd9, hd10, hd11, hd12, hd13, hd14, hd15, C16_14, C16_15, C17_14, C17_15, C17_16, W0, W1, W2, W3, W4, W5⟩
                have hf44 := hd2 e2
                obtain ⟨u7, rfl⟩ : ∃ u7, f = (upd u7 44 (.int .i64 (ik1 : Int))) := ⟨f, by rw [upd_self hf44]⟩
                rcases bool_ft (S 14) with e14 | e14
                · skip
                  rcases bool_ft (S 15) with e15 | e15
                  · skip
                    have H := W0 e14 e15 e16 e17
                    refine O.add rfl rfl rfl rfl ht6 ?_
                    refine WL.nil ?_
                    exact ⟨b5, b6, hf1, hf2, hf5, hf6, hf9, hf10, hf27, hf28, hf29, hd0, hd1, hd2, (fun _ => rfl), hd4, hd5, hd6, hd7, hd8, hd9, hd10, hd11, hd12, hd13, hd14, hd15, C16_14, C16_15, C17_14, C17_15, C17_16, (fun _ _ _ _ => H), (fun a _ _ _ => nomatch (show false = true from e14.symm.trans a)), (fun _ a _ _ => nomatch (show false = true from e15.symm.trans a)), (fun a _ _ _ => nomatch (show false = true from e14.symm.trans a)), (fun a _ _ _ => nomatch (show false = true from e14.symm.trans a)), (fun a _ _ _ => nomatch (show false = true from e14.symm.trans a))⟩
                  · skip
                    have H := W2 e14 e15 e16 e17
                    refine O.add rfl rfl rfl rfl ht6 ?_
                    refine WL.nil ?_
                    exact ⟨b5, b6, hf1, hf2, hf5, hf6, hf9, hf10, hf27, hf28, hf29, hd0, hd1, hd2, (fun _ => rfl), hd4, hd5, hd6, hd7, hd8, hd9, hd10, hd11, hd12, hd13, hd14, hd15, C16_14, C16_15, C17_14, C17_15, C17_16, (fun _ a _ _ => nomatch (show true = false from e15.symm.trans a)), (fun a _ _ _ => nomatch (show false = true from e14.symm.trans a)), (fun _ _ _ _ => H), (fun a _ _ _ => nomatch (show false = true from e14.symm.trans a)), (fun a _ _ _ => nomatch (show false = true from e14.symm.trans a)), (fun a _ _ _ => nomatch (show false = true from e14.symm.trans a))⟩
                · skip
                  rcases bool_ft (S 15) with e15 | e15
                  · skip
                    have H := W1 e14 e15 e16 e17
                    refine O.add rfl rfl rfl rfl ht6 ?_
                    refine WL.nil ?_
                    exact ⟨b5, b6, hf1, hf2, hf5, hf6, hf9, hf10, hf27, hf28, hf29, hd0, hd1, hd2, (fun _ => rfl), hd4, hd5, hd6, hd7, hd8, hd9, hd10, hd11, hd12, hd13, hd14, hd15, C16_14, C16_15, C17_14, C17_15, C17_16, (fun a _ _ _ => nomatch (show true = false from e14.symm.trans a)), (fun _ _ _ _ => H), (fun a _ _ _ => nomatch (show true = false from e14.symm.trans a)), (fun _ a _ _ => nomatch (show false = true from e15.symm.trans a)), (fun _ a _ _ => nomatch (show false = true from e15.symm.trans a)), (fun _ a _ _ => nomatch (show false = true from e15.symm.trans a))⟩
                  · skip
                    have H := W3 e14 e15 e16 e17
                    refine O.add rfl rfl rfl rfl ht6 ?_
                    refine WL.nil ?_
                    exact ⟨b5, b6, hf1, hf2, hf5, hf6, hf9, hf10, hf27, hf28, hf29, hd0, hd1, hd2, (fun _ => rfl), hd4, hd5, hd6, hd7, hd8, hd9, hd10, hd11, hd12, hd13, hd14, hd15, C16_14, C16_15, C17_14, C17_15, C17_16, (fun a _ _ _ => nomatch (show true = false from e14.symm.trans a)), (fun _ a _ _ => nomatch (show true = false from e15.symm.trans a)), (fun a _ _ _ => nomatch (show true = false from e14.symm.trans a)), (fun _ _ _ _ => H), (fun _ _ a _ => nomatch (show false = true from e16.symm.trans a)), (fun _ _ a _ => nomatch (show false = true from e16.symm.trans a))⟩
              · skip
                rintro S f w hS - ⟨e5, e6, e7, e8, e9, e10, e11, e12, e13, e16, e17, -⟩ ⟨b5, b6, hf1, hf2, hf5, hf6, hf9, hf10, hf27, hf28, hf29, hd0, hd1, hd2, hd3, hd4, hd5, hd6, hd7, hd8, hd9, hd10, hd11, hd12, hd13, hd14, hd15, C16_14, C16_15, C17_14, C17_15, C17_16, W0, W1, W2, W3, W4, W5⟩
                obtain ⟨u8, rfl⟩ : ∃ u8, f = (upd u8 1 va1) := ⟨f, by rw [upd_self hf1]⟩
                rcases bool_ft (S 14) with e14 | e14
                · skip
                  rcases bool_ft (S 15) with e15 | e15
                  · skip
                    have H := W0 e14 e15 e16 e17
                    refine O.move (v := va1) rfl rfl rfl ?_
                    refine WL.nil ?_
                    exact ⟨b5, b6, rfl, hf2, hf5, hf6, hf9, hf10, hf27, hf28, hf29, hd0, hd1, hd2, hd3, (fun _ => rfl), hd5, hd6, hd7, hd8, hd9, hd10, hd11, hd12, hd13, hd14, hd15, C16_14, C16_15, C17_14, C17_15, C17_16, (fun _ _ _ _ => H), (fun a _ _ _ => nomatch (show false = true from e14.symm.trans a)), (fun _ a _ _ => nomatch (show false = true from e15.symm.trans a)), (fun a _ _ _ => nomatch (show false = true from e14.symm.trans a)), (fun a _ _ _ => nomatch (show false = true from e14.symm.trans a)), (fun a _ _ _ => nomatch (show false = true from e14.symm.trans a))⟩
                  · skip
                    have H := W2 e14 e15 e16 e17
                    refine O.move (v := va1) rfl rfl rfl ?_
                    refine WL.nil ?_
                    exact ⟨b5, b6, rfl, hf2, hf5, hf6, hf9, hf10, hf27, hf28, hf29, hd0, hd1, hd2, hd3, (fun _ => rfl), hd5, hd6, hd7, hd8, hd9, hd10, hd11, hd12, hd13, hd14, hd15, C16_14, C16_15, C17_14, C17_15, C17_16, (fun _ a _ _ => nomatch (show true = false from e15.symm.trans a)), (fun a _ _ _ => nomatch (show false = true from e14.symm.trans a)), (fun _ _ _ _ => H), (fun a _ _ _ => nomatch (show false = true from e14.symm.trans a)), (fun a _ _ _ => nomatch (show false = true from e14.symm.trans a)), (fun a _ _ _ => nomatch (show false = true from e14.symm.trans a))⟩
                · skip
                  rcases bool_ft (S 15) with e15 | e15
                  · skip
                    have H := W1 e14 e15 e16 e17
                    refine O.move (v := va1) rfl rfl rfl ?_
                    refine WL.nil ?_
                    exact ⟨b5, b6, rfl, hf2, hf5, hf6, hf9, hf10, hf27, hf28, hf29, hd0, hd1, hd2, hd3, (fun _ => rfl), hd5, hd6, hd7, hd8, hd9, hd10, hd11, hd12, hd13, hd14, hd15, C16_14, C16_15, C17_14, C17_15, C17_16, (fun a _ _ _ => nomatch (show true = false from e14.symm.trans a)), (fun _ _ _ _ => H), (fun a _ _ _ => nomatch (show true = false from e14.symm.trans a)), (fun _ a _ _ => nomatch (show false = true from e15.symm.trans a)), (fun _ a _ _ => nomatch (show false = true from e15.symm.trans a)), (fun _ a _ _ => nomatch (show false = true from e15.symm.trans a))⟩
                  · skip
                    have H := W3 e14 e15 e16 e17
                    refine O.move (v := va1) rfl rfl rfl ?_
                    refine WL.nil ?_
                    exact ⟨b5, b6, rfl, hf2, hf5, hf6, hf9, hf10, hf27, hf28, hf29, hd0, hd1, hd2, hd3, (fun _ => rfl), hd5, hd6, hd7, hd8, hd9, hd10, hd11, hd12, hd13, hd14, hd15, C16_14, C16_15, C17_14, C17_15, C17_16, (fun a _ _ _ => nomatch (show true = false from e14.symm.trans a)), (fun _ a _ _ => nomatch (show true = false from e15.symm.trans a)), (fun a _ _ _ => nomatch (show true = false from e14.symm.trans a)), (fun _ _ _ _ => H), (fun _ _ a _ => nomatch (show false = true from e16.symm.trans a)), (fun _ _ a _ => nomatch (show false = true from e16.symm.trans a))⟩
              · skip
                rintro S f w hS ⟨e4, -⟩ ⟨e6, e7, e8, e9, e10, e11, e12, e13, e16, e17, -⟩ ⟨b5, b6, hf1, hf2, hf5, hf6, hf9, hf10, hf27, hf28, hf29, hd0, hd1, hd2, hd3, hd4, hd5, hd6, hd7, hd8, hd9, hd10, hd11, hd12, hd13, hd14, hd15, C16_14, C16_15, C17_14, C17_15, C17_16, W0, W1, W2, W3, W4, W5⟩
                have hf46 := hd4 e4
                obtain ⟨u9, rfl⟩ : ∃ u9, f = (upd u9 46 va1) := ⟨f, by rw [upd_self hf46]⟩
                rcases bool_ft (S 14) with e14 | e14
                · skip
                  rcases bool_ft (S 15) with e15 | e15
                  · skip
                    have H := W0 e14 e15 e16 e17
                    refine O.lenS Try.underlying22 (H.arg ha1) rfl rfl rfl ?_
                    refine WL.nil ?_
                    exact ⟨b5, b6, hf1, hf2, hf5, hf6, hf9, hf10, hf27, hf28, hf29, hd0, hd1, hd2, hd3, hd4, (fun _ => rfl), hd6, hd7, hd8, hd9, hd10, hd11, hd12, hd13, hd14, hd15, C16_14, C16_15, C17_14, C17_15, C17_16, (fun _ _ _ _ => H), (fun a _ _ _ => nomatch (show false = true from e14.symm.trans a)), (fun _ a _ _ => nomatch (show false = true from e15.symm.trans a)), (fun a _ _ _ => nomatch (show false = true from e14.symm.trans a)), (fun a _ _ _ => nomatch (show false = true from e14.symm.trans a)), (fun a _ _ _ => nomatch (show false = true from e14.symm.trans a))⟩
                  · skip
                    have H := W2 e14 e15 e16 e17
                    refine O.lenS Try.underlying22 (H.arg ha1) rfl rfl rfl ?_
                    refine WL.nil ?_
                    exact ⟨b5, b6, hf1, hf2, hf5, hf6, hf9, hf10, hf27, hf28, hf29, hd0, hd1, hd2, hd3, hd4, (fun _ => rfl), hd6, hd7, hd8, hd9, hd10, hd11, hd12, hd13, hd14, hd15, C16_14, C16_15, C17_14, C17_15, C17_16, (fun _ a _ _ => nomatch (show true = false from e15.symm.trans a)), (fun a _ _ _ => nomatch (show false = true from e14.symm.trans a)), (fun _ _ _ _ => H), (fun a _ _ _ => nomatch (show false = true from e14.symm.trans a)), (fun a _ _ _ => nomatch (show false = true from e14.symm.trans a)), (fun a _ _ _ => nomatch (show false = true from e14.symm.trans a))⟩
                · skip
                  rcases bool_ft (S 15) with e15 | e15
                  · skip
                    have H := W1 e14 e15 e16 e17
                    refine O.lenS Try.underlying22 (H.arg ha1) rfl rfl rfl ?_
                    refine WL.nil ?_
                    exact ⟨b5, b6, hf1, hf2, hf5, hf6, hf9, hf10, hf27, hf28, hf29, hd0, hd1, hd2, hd3, hd4, (fun _ => rfl), hd6, hd7, hd8, hd9, hd10, hd11, hd12, hd13, hd14, hd15, C16_14, C16_15, C17_14, C17_15, C17_16, (fun a _ _ _ => nomatch (show true = false from e14.symm.trans a)), (fun _ _ _ _ => H), (fun a _ _ _ => nomatch (show true = false from e14.symm.trans a)), (fun _ a _ _ => nomatch (show false = true from e15.symm.trans a)), (fun _ a _ _ => nomatch (show false = true from e15.symm.trans a)), (fun _ a _ _ => nomatch (show false = true from e15.symm.trans a))⟩
                  · skip
                    have H := W3 e14 e15 e16 e17
                    refine O.lenS Try.underlying22 (H.arg ha1) rfl rfl rfl ?_
                    refine WL.nil ?_
                    exact ⟨b5, b6, hf1, hf2, hf5, hf6, hf9, hf10, hf27, hf28, hf29, hd0, hd1, hd2, hd3, hd4, (fun _ => rfl), hd6, hd7, hd8, hd9, hd10, hd11, hd12, hd13, hd14, hd15, C16_14, C16_15, C17_14, C17_15, C17_16, (fun a _ _ _ => nomatch (show true = false from e14.symm.trans a)), (fun _ a _ _ => nomatch (show true = false from e15.symm.trans a)), (fun a _ _ _ => nomatch (show true = false from e14.symm.trans a)), (fun _ _ _ _ => H), (fun _ _ a _ => nomatch (show false = true from e16.symm.trans a)), (fun _ _ a _ => nomatch (show false = true from e16.symm.trans a))⟩
              · skip
                rintro S f w hS ⟨e2, e3, e4, e5, -⟩ ⟨e7, e8, e9, e10, e11, e12, e13, e16, e17, -⟩ ⟨b5, b6, hf1, hf2, hf5, hf6, hf9, hf10, hf27, hf28, hf29, hd0, hd1, hd2, hd3, hd4, hd5, hd6, hd7, hd8, hd9, hd10, hd11, hd12, hd13, hd14, hd15, C16_14, C16_15, C17_14, C17_15, C17_16, W0, W1, W2, W3, W4, W5⟩
                have hf45 := hd3 e3
                have hf47 := hd5 e5
                obtain ⟨u10, rfl⟩ : ∃ u10, f = (upd (upd u10 45 (.int .i64 t6)) 47 (.int .i64 ((a1.length : Nat) : Int))) := ⟨f, by rw [upd_self hf45, upd_self hf47]⟩
                rcases bool_ft (S 14) with e14 | e14
                · skip
                  rcases bool_ft (S 15) with e15 | e15
                  · skip
                    have H := W0 e14 e15 e16 e17
                    refine O.rem rfl rfl rfl rfl ht7 ?_
                    refine WL.nil ?_
                    exact ⟨b5, b6, hf1, hf2, hf5, hf6, hf9, hf10, hf27, hf28, hf29, hd0, hd1, hd2, hd3, hd4, hd5, (fun _ => rfl), hd7, hd8, hd9, hd10, hd11, hd12, hd13, hd14, hd15, C16_14, C16_15, C17_14, C17_15, C17_16, (fun _ _ _ _ => H), (fun a _ _ _ => nomatch (show false = true from e14.symm.trans a)), (fun _ a _ _ => nomatch (show false = true from e15.symm.trans a)), (fun a _ _ _ => nomatch (show false = true from e14.symm.trans a)), (fun a _ _ _ => nomatch (show false = true from e14.symm.trans a)), (fun a _ _ _ => nomatch (show false = true from e14.symm.trans a))⟩
                  · skip
                    have H := W2 e14 e15 e16 e17
                    refine O.rem rfl rfl rfl rfl ht7 ?_
                    refine WL.nil ?_
                    exact ⟨b5, b6, hf1, hf2, hf5, hf6, hf9, hf10, hf27, hf28, hf29, hd0, hd1, hd2, hd3, hd4, hd5, (fun _ => rfl), hd7, hd8, hd9, hd10, hd11, hd12, hd13, hd14, hd15, C16_14, C16_15, C17_14, C17_15, C17_16, (fun _ a _ _ => nomatch (show true = false from e15.symm.trans a)), (fun a _ _ _ => nomatch (show false = true from e14.symm.trans a)), (fun _ _ _ _ => H), (fun a _ _ _ => nomatch (show false = true from e14.symm.trans a)), (fun a _ _ _ => nomatch (show false = true from e14.symm.trans a)), (fun a _ _ _ => nomatch (show false = true from e14.symm.trans a))⟩
                · skip
                  rcases bool_ft (S 15) with e15 | e15
                  · skip
                    have H := W1 e14 e15 e16 e17
                    refine O.rem rfl rfl rfl rfl ht7 ?_
                    refine WL.nil ?_
                    exact ⟨b5, b6, hf1, hf2, hf5, hf6, hf9, hf10, hf27, hf28, hf29, hd0, hd1, hd2, hd3, hd4, hd5, (fun _ => rfl), hd7, hd8, hd9, hd10, hd11, hd12, hd13, hd14, hd15, C16_14, C16_15, C17_14, C17_15, C17_16, (fun a _ _ _ => nomatch (show true = false from e14.symm.trans a)), (fun _ _ _ _ => H), (fun a _ _ _ => nomatch (show true = false from e14.symm.trans a)), (fun _ a _ _ => nomatch (show false = true from e15.symm.trans a)), (fun _ a _ _ => nomatch (show false = true from e15.symm.trans a)), (fun _ a _ _ => nomatch (show false = true from e15.symm.trans a))⟩
                  · skip
                    have H := W3 e14 e15 e16 e17
                    refine O.rem rfl rfl rfl rfl ht7 ?_
                    refine WL.nil ?_
                    exact ⟨b5, b6, hf1, hf2, hf5, hf6, hf9, hf10, hf27, hf28, hf29, hd0, hd1, hd2, hd3, hd4, hd5, (fun _ => rfl), hd7, hd8, hd9, hd10, hd11, hd12, hd13, hd14, hd15, C16_14, C16_15, C17_14, C17_15, C17_16, (fun a _ _ _ => nomatch (show true = false from e14.symm.trans a)), (fun _ a _ _ => nomatch (show true = false from e15.symm.trans a)), (fun a _ _ _ => nomatch (show true = false from e14.symm.trans a)), (fun _ _ _ _ => H), (fun _ _ a _ => nomatch (show false = true from e16.symm.trans a)), (fun _ _ a _ => nomatch (show false = true from e16.symm.trans a))⟩
              · skip
                rintro S f w hS ⟨e1, e2, e3, e4, e5, e6, -⟩ ⟨e8, e9, e10, e11, e12, e13, e16, e17, -⟩ ⟨b5, b6, hf1, hf2, hf5, hf6, hf9, hf10, hf27, hf28, hf29, hd0, hd1, hd2, hd3, hd4, hd5, hd6, hd7, hd8, hd9, hd10, hd11, hd12, hd13, hd14, hd15, C16_14, C16_15, C17_14, C17_15, C17_16, W0, W1, W2, W3, W4, W5⟩
                have hf43 := hd1 e1
                have hf48 := hd6 e6
                obtain ⟨u11, rfl⟩ : ∃ u11, f = (upd (upd u11 43 va1) 48 (.int .i64 t7)) := ⟨f, by rw [upd_self hf43, upd_self hf48]⟩
                rcases bool_ft (S 14) with e14 | e14
                · skip
                  rcases bool_ft (S 15) with e15 | e15
                  · skip
                    have H := W0 e14 e15 e16 e17
                    refine hrp2 rfl rfl rfl rfl ?_
                    refine WL.nil ?_
                    exact ⟨b5, b6, hf1, hf2, hf5, hf6, hf9, hf10, hf27, hf28, hf29, hd0, hd1, hd2, hd3, hd4, hd5, hd6, (fun _ => rfl), hd8, hd9, hd10, hd11, hd12, hd13, hd14, hd15, C16_14, C16_15, C17_14, C17_15, C17_16, (fun _ _ _ _ => H), (fun a _ _ _ => nomatch (show false = true from e14.symm.trans a)), (fun _ a _ _ => nomatch (show false = true from e15.symm.trans a)), (fun a _ _ _ => nomatch (show false = true from e14.symm.trans a)), (fun a _ _ _ => nomatch (show false = true from e14.symm.trans a)), (fun a _ _ _ => nomatch (show false = true from e14.symm.trans a))⟩
                  · skip
                    have H := W2 e14 e15 e16 e17
                    refine hrp2 rfl rfl rfl rfl ?_
                    refine WL.nil ?_
                    exact ⟨b5, b6, hf1, hf2, hf5, hf6, hf9, hf10, hf27, hf28, hf29, hd0, hd1, hd2, hd3, hd4, hd5, hd6, (fun _ => rfl), hd8, hd9, hd10, hd11, hd12, hd13, hd14, hd15, C16_14, C16_15, C17_14, C17_15, C17_16, (fun _ a _ _ => nomatch (show true = false from e15.symm.trans a)), (fun a _ _ _ => nomatch (show false = true from e14.symm.trans a)), (fun _ _ _ _ => H), (fun a _ _ _ => nomatch (show false = true from e14.symm.trans a)), (fun a _ _ _ => nomatch (show false = true from e14.symm.trans a)), (fun a _ _ _ => nomatch (show false = true from e14.symm.trans a))⟩
                · skip
                  rcases bool_ft (S 15) with e15 | e15
                  · skip
                    have H := W1 e14 e15 e16 e17
                    refine hrp2 rfl rfl rfl rfl ?_
                    refine WL.nil ?_
                    exact ⟨b5, b6, hf1, hf2, hf5, hf6, hf9, hf10, hf27, hf28, hf29, hd0, hd1, hd2, hd3, hd4, hd5, hd6, (fun _ => rfl), hd8, hd9, hd10, hd11, hd12, hd13, hd14, hd15, C16_14, C16_15, C17_14, C17_15, C17_16, (fun a _ _ _ => nomatch (show true = false from e14.symm.trans a)), (fun _ _ _ _ => H), (fun a _ _ _ => nomatch (show true = false from e14.symm.trans a)), (fun _ a _ _ => nomatch (show false = true from e15.symm.trans a)), (fun _ a _ _ => nomatch (show false = true from e15.symm.trans a)), (fun _ a _ _ => nomatch (show false = true from e15.symm.trans a))⟩
                  · skip
                    have H := W3 e14 e15 e16 e17
                    refine hrp2 rfl rfl rfl rfl ?_
                    refine WL.nil ?_
                    exact ⟨b5, b6, hf1, hf2, hf5, hf6, hf9, hf10, hf27, hf28, hf29, hd0, hd1, hd2, hd3, hd4, hd5, hd6, (fun _ => rfl), hd8, hd9, hd10, hd11, hd12, hd13, hd14, hd15, C16_14, C16_15, C17_14, C17_15, C17_16, (fun a _ _ _ => nomatch (show true = false from e14.symm.trans a)), (fun _ a _ _ => nomatch (show true = false from e15.symm.trans a)), (fun a _ _ _ => nomatch (show true = false from e14.symm.trans a)), (fun _ _ _ _ => H), (fun _ _ a _ => nomatch (show false = true from e16.symm.trans a)), (fun _ _ a _ => nomatch (show false = true from e16.symm.trans a))⟩
              · skip
                rintro S f w hS ⟨e1, e2, e3, e4, e5, e6, e7, -⟩ ⟨e9, e10, e11, e12, e13, e16, e17, -⟩ ⟨b5, b6, hf1, hf2, hf5, hf6, hf9, hf10, hf27, hf28, hf29, hd0, hd1, hd2, hd3, hd4, hd5, hd6, hd7, hd8, hd9, hd10, hd11, hd12, hd13, hd14, hd15, C16_14, C16_15, C17_14, C17_15, C17_16, W0, W1, W2, W3, W4, W5⟩
                have hf49 := hd7 e7
                obtain ⟨u12, rfl⟩ : ∃ u12, f = (upd u12 49 (.pointer (some p2))) := ⟨f, by rw [upd_self hf49]⟩
                rcases bool_ft (S 14) with e14 | e14
                · skip
                  rcases bool_ft (S 15) with e15 | e15
                  · skip
                    have H := W0 e14 e15 e16 e17
                    refine O.load sc3 rfl rfl rfl ((hp2.mono H.base).flat 0 _ rfl) ?_
                    refine WL.nil ?_
                    exact ⟨b5, b6, hf1, hf2, hf5, hf6, hf9, hf10, hf27, hf28, hf29, hd0, hd1, hd2, hd3, hd4, hd5, hd6, hd7, (fun _ => rfl), hd9, hd10, hd11, hd12, hd13, hd14, hd15, C16_14, C16_15, C17_14, C17_15, C17_16, (fun _ _ _ _ => H), (fun a _ _ _ => nomatch (show false = true from e14.symm.trans a)), (fun _ a _ _ => nomatch (show false = true from e15.symm.trans a)), (fun a _ _ _ => nomatch (show false = true from e14.symm.trans a)), (fun a _ _ _ => nomatch (show false = true from e14.symm.trans a)), (fun a _ _ _ => nomatch (show false = true from e14.symm.trans a))⟩
                  · skip
                    have H := W2 e14 e15 e16 e17
                    refine O.load sc3 rfl rfl rfl ((hp2.mono H.base).flat 0 _ rfl) ?_
                    refine WL.nil ?_
                    exact ⟨b5, b6, hf1, hf2, hf5, hf6, hf9, hf10, hf27, hf28, hf29, hd0, hd1, hd2, hd3, hd4, hd5, hd6, hd7, (fun _ => rfl), hd9, hd10, hd11, hd12, hd13, hd14, hd15, C16_14, C16_15, C17_14, C17_15, C17_16, (fun _ a _ _ => nomatch (show true = false from e15.symm.trans a)), (fun a _ _ _ => nomatch (show false = true from e14.symm.trans a)), (fun _ _ _ _ => H), (fun a _ _ _ => nomatch (show false = true from e14.symm.trans a)), (fun a _ _ _ => nomatch (show false = true from e14.symm.trans a)), (fun a _ _ _ => nomatch (show false = true from e14.symm.trans a))⟩
                · skip
                  rcases bool_ft (S 15) with e15 | e15
                  · skip
                    have H := W1 e14 e15 e16 e17
                    refine O.load sc3 rfl rfl rfl ((hp2.mono H.base).flat 0 _ rfl) ?_
                    refine WL.nil ?_
                    exact ⟨b5, b6, hf1, hf2, hf5, hf6, hf9, hf10, hf27, hf28, hf29, hd0, hd1, hd2, hd3, hd4, hd5, hd6, hd7, (fun _ => rfl), hd9, hd10, hd11, hd12, hd13, hd14, hd15, C16_14, C16_15, C17_14, C17_15, C17_16, (fun a _ _ _ => nomatch (show true = false from e14.symm.trans a)), (fun _ _ _ _ => H), (fun a _ _ _ => nomatch (show true = false from e14.symm.trans a)), (fun _ a _ _ => nomatch (show false = true from e15.symm.trans a)), (fun _ a _ _ => nomatch (show false = true from e15.symm.trans a)), (fun _ a _ _ => nomatch (show false = true from e15.symm.trans a))⟩
                  · skip
                    have H := W3 e14 e15 e16 e17
                    refine O.load sc3 rfl rfl rfl ((hp2.mono H.base).flat 0 _ rfl) ?_
                    refine WL.nil ?_
                    exact ⟨b5, b6, hf1, hf2, hf5, hf6, hf9, hf10, hf27, hf28, hf29, hd0, hd1, hd2, hd3, hd4, hd5, hd6, hd7, (fun _ => rfl), hd9, hd10, hd11, hd12, hd13, hd14, hd15, C16_14, C16_15, C17_14, C17_15, C17_16, (fun a _ _ _ => nomatch (show true = false from e14.symm.trans a)), (fun _ a _ _ => nomatch (show true = false from e15.symm.trans a)), (fun a _ _ _ => nomatch (show true = false from e14.symm.trans a)), (fun _ _ _ _ => H), (fun _ _ a _ => nomatch (show false = true from e16.symm.trans a)), (fun _ _ a _ => nomatch (show false = true from e16.symm.trans a))⟩
              · skip
                rintro S f w hS ⟨e0, e1, e2, e3, e4, e5, e6, e7, e8, -⟩ ⟨e10, e11, e12, e13, e16, e17, -⟩ ⟨b5, b6, hf1, hf2, hf5, hf6, hf9, hf10, hf27, hf28, hf29, hd0, hd1, hd2, hd3, hd4, hd5, hd6, hd7, hd8, hd9, hd10, hd11, hd12, hd13, hd14, hd15, C16_14, C16_15, C17_14, C17_15, C17_16, W0, W1, W2, W3, W4, W5⟩
                have hf42 := hd0 e0
                have hf50 := hd8 e8
                obtain ⟨u13, rfl⟩ : ∃ u13, f = (upd (upd u13 42 (.agg #[va0_0, va0_1])) 50 (.int .i64 x2)) := ⟨f, by rw [upd_self hf42, upd_self hf50]⟩
                rcases bool_ft (S 14) with e14 | e14
                · skip
                  rcases bool_ft (S 15) with e15 | e15
                  · skip
                    have H := W0 e14 e15 e16 e17
                    refine O.call Try.call71 rfl rfl rfl (c_sight_taken _ _ (GNet.mk a0.Rates a0.Sights) (H.arg ha0_0) (H.arg ha0_1) _ hy4) ?_
                    rintro _ w9 hb7 rfl
                    have H := H.ext hb7
                    refine WL.nil ?_
                    exact ⟨b5, b6, hf1, hf2, hf5, hf6, hf9, hf10, hf27, hf28, hf29, hd0, hd1, hd2, hd3, hd4, hd5, hd6, hd7, hd8, (fun _ => rfl), hd10, hd11, hd12, hd13, hd14, hd15, C16_14, C16_15, C17_14, C17_15, C17_16, (fun _ _ _ _ => H), (fun a _ _ _ => nomatch (show false = true from e14.symm.trans a)), (fun _ a _ _ => nomatch (show false = true from e15.symm.trans a)), (fun a _ _ _ => nomatch (show false = true from e14.symm.trans a)), (fun a _ _ _ => nomatch (show false = true from e14.symm.trans a)), (fun a _ _ _ => nomatch (show false = true from e14.symm.trans a))⟩
                  · skip
                    have H := W2 e14 e15 e16 e17
                    refine O.call Try.call71 rfl rfl rfl (c_sight_taken _ _ (GNet.mk a0.Rates a0.Sights) (H.arg ha0_0) (H.arg ha0_1) _ hy4) ?_
                    rintro _ w9 hb7 rfl
                    have H := H.ext hb7
                    refine WL.nil ?_
                    exact ⟨b5, b6, hf1, hf2, hf5, hf6, hf9, hf10, hf27, hf28, hf29, hd0, hd1, hd2, hd3, hd4, hd5, hd6, hd7, hd8, (fun _ => rfl), hd10, hd11, hd12, hd13, hd14, hd15, C16_14, C16_15, C17_14, C17_15, C17_16, (fun _ a _ _ => nomatch (show true = false from e15.symm.trans a)), (fun a _ _ _ => nomatch (show false = true from e14.symm.trans a)), (fun _ _ _ _ => H), (fun a _ _ _ => nomatch (show false = true from e14.symm.trans a)), (fun a _ _ _ => nomatch (show false = true from e14.symm.trans a)), (fun a _ _ _ => nomatch (show false = true from e14.symm.trans a))⟩
                · skip
                  rcases bool_ft (S 15) with e15 | e15
                  · skip
                    have H := W1 e14 e15 e16 e17
                    refine O.call Try.call71 rfl rfl rfl (c_sight_taken _ _ (GNet.mk a0.Rates a0.Sights) (H.arg ha0_0) (H.arg ha0_1) _ hy4) ?_
                    rintro _ w9 hb7 rfl
                    have H := H.ext hb7
                    refine WL.nil ?_
                    exact ⟨b5, b6, hf1, hf2, hf5, hf6, hf9, hf10, hf27, hf28, hf29, hd0, hd1, hd2, hd3, hd4, hd5, hd6, hd7, hd8, (fun _ => rfl), hd10, hd11, hd12, hd13, hd14, hd15, C16_14, C16_15, C17_14, C17_15, C17_16, (fun a _ _ _ => nomatch (show true = false from e14.symm.trans a)), (fun _ _ _ _ => H), (fun a _ _ _ => nomatch (show true = false from e14.symm.trans a)), (fun _ a _ _ => nomatch (show false = true from e15.symm.trans a)), (fun _ a _ _ => nomatch (show false = true from e15.symm.trans a)), (fun _ a _ _ => nomatch (show false = true from e15.symm.trans a))⟩
                  · skip
                    have H := W3 e14 e15 e16 e17
                    refine O.call Try.call71 rfl rfl rfl (c_sight_taken _ _ (GNet.mk a0.Rates a0.Sights) (H.arg ha0_0) (H.arg ha0_1) _ hy4) ?_
                    rintro _ w9 hb7 rfl
                    have H := H.ext hb7
                    refine WL.nil ?_
                    exact ⟨b5, b6, hf1, hf2, hf5, hf6, hf9, hf10, hf27, hf28, hf29, hd0, hd1, hd2, hd3, hd4, hd5, hd6, hd7, hd8, (fun _ => rfl), hd10, hd11, hd12, hd13, hd14, hd15, C16_14, C16_15, C17_14, C17_15, C17_16, (fun a _ _ _ => nomatch (show true = false from e14.symm.trans a)), (fun _ a _ _ => nomatch (show true = false from e15.symm.trans a)), (fun a _ _ _ => nomatch (show true = false from e14.symm.trans a)), (fun _ _ _ _ => H), (fun _ _ a _ => nomatch (show false = true from e16.symm.trans a)), (fun _ _ a _ => nomatch (show false = true from e16.symm.trans a))⟩
              · skip
                rintro S f w hS ⟨e0, e1, e2, e3, e4, e5, e6, e7, e8, e9, -⟩ ⟨e11, e12, e13, e16, e17, -⟩ ⟨b5, b6, hf1, hf2, hf5, hf6, hf9, hf10, hf27, hf28, hf29, hd0, hd1, hd2, hd3, hd4, hd5, hd6, hd7, hd8, hd9, hd10, hd11, hd12, hd13, hd14, hd15, C16_14, C16_15, C17_14, C17_15, C17_16, W0, W1, W2, W3, W4, W5⟩
                have hf51 := hd9 e9
                obtain ⟨u14, rfl⟩ : ∃ u14, f = (upd u14 51 (.tuple #[(.agg (Flat.cells t8).toArray), (.agg (Flat.cells t9).toArray), (.int .i64 t10)])) := ⟨f, by rw [upd_self hf51]⟩
                rcases bool_ft (S 14) with e14 | e14
                · skip
                  rcases bool_ft (S 15) with e15 | e15
                  · skip
                    have H := W0 e14 e15 e16 e17
                    refine O.move (v := (.tuple #[(.agg (Flat.cells t8).toArray), (.agg (Flat.cells t9).toArray), (.int .i64 t10)])) rfl rfl rfl ?_
                    refine WL.nil ?_
                    exact ⟨b5, b6, hf1, hf2, hf5, hf6, hf9, hf10, hf27, hf28, hf29, hd0, hd1, hd2, hd3, hd4, hd5, hd6, hd7, hd8, hd9, (fun _ => rfl), hd11, hd12, hd13, hd14, hd15, C16_14, C16_15, C17_14, C17_15, C17_16, (fun _ _ _ _ => H), (fun a _ _ _ => nomatch (show false = true from e14.symm.trans a)), (fun _ a _ _ => nomatch (show false = true from e15.symm.trans a)), (fun a _ _ _ => nomatch (show false = true from e14.symm.trans a)), (fun a _ _ _ => nomatch (show false = true from e14.symm.trans a)), (fun a _ _ _ => nomatch (show false = true from e14.symm.trans a))⟩
                  · skip
                    have H := W2 e14 e15 e16 e17
                    refine O.move (v := (.tuple #[(.agg (Flat.cells t8).toArray), (.agg (Flat.cells t9).toArray), (.int .i64 t10)])) rfl rfl rfl ?_
                    refine WL.nil ?_
                    exact ⟨b5, b6, hf1, hf2, hf5, hf6, hf9, hf10, hf27, hf28, hf29, hd0, hd1, hd2, hd3, hd4, hd5, hd6, hd7, hd8, hd9, (fun _ => rfl), hd11, hd12, hd13, hd14, hd15, C16_14, C16_15, C17_14, C17_15, C17_16, (fun _ a _ _ => nomatch (show true = false from e15.symm.trans a)), (fun a _ _ _ => nomatch (show false = true from e14.symm.trans a)), (fun _ _ _ _ => H), (fun a _ _ _ => nomatch (show false = true from e14.symm.trans a)), (fun a _ _ _ => nomatch (show false = true from e14.symm.trans a)), (fun a _ _ _ => nomatch (show false = true from e14.symm.trans a))⟩
                · skip
                  rcases bool_ft (S 15) with e15 | e15
                  · skip
                    have H := W1 e14 e15 e16 e17
                    refine O.move (v := (.tuple #[(.agg (Flat.cells t8).toArray), (.agg (Flat.cells t9).toArray), (.int .i64 t10)])) rfl rfl rfl ?_
                    refine WL.nil ?_
                    exact ⟨b5, b6, hf1, hf2, hf5, hf6, hf9, hf10, hf27, hf28, hf29, hd0, hd1, hd2, hd3, hd4, hd5, hd6, hd7, hd8, hd9, (fun _ => rfl), hd11, hd12, hd13, hd14, hd15, C16_14, C16_15, C17_14, C17_15, C17_16, (fun a _ _ _ => nomatch (show true = false from e14.symm.trans a)), (fun _ _ _ _ => H), (fun a _ _ _ => nomatch (show true = false from e14.symm.trans a)), (fun _ a _ _ => nomatch (show false = true from e15.symm.trans a)), (fun _ a _ _ => nomatch (show false = true from e15.symm.trans a)), (fun _ a _ _ => nomatch (show false = true from e15.symm.trans a))⟩
                  · skip
                    have H := W3 e14 e15 e16 e17
                    refine O.move (v := (.tuple #[(.agg (Flat.cells t8).toArray), (.agg (Flat.cells t9).toArray), (.int .i64 t10)])) rfl rfl rfl ?_
                    refine WL.nil ?_
                    exact ⟨b5, b6, hf1, hf2, hf5, hf6, hf9, hf10, hf27, hf28, hf29, hd0, hd1, hd2, hd3, hd4, hd5, hd6, hd7, hd8, hd9, (fun _ => rfl), hd11, hd12, hd13, hd14, hd15, C16_14, C16_15, C17_14, C17_15, C17_16, (fun a _ _ _ => nomatch (show true = false from e14.symm.trans a)), (fun _ a _ _ => nomatch (show true = false from e15.symm.trans a)), (fun a _ _ _ => nomatch (show true = false from e14.symm.trans a)), (fun _ _ _ _ => H), (fun _ _ a _ => nomatch (show false = true from e16.symm.trans a)), (fun _ _ a _ => nomatch (show false = true from e16.symm.trans a))⟩
              · skip
                rintro S f w hS ⟨e0, e1, e2, e3, e4, e5, e6, e7, e8, e9, e10, -⟩ ⟨e16, e17, -⟩ ⟨b5, b6, hf1, hf2, hf5, hf6, hf9, hf10, hf27, hf28, hf29, hd0, hd1, hd2, hd3, hd4, hd5, hd6, hd7, hd8, hd9, hd10, hd11, hd12, hd13, hd14, hd15, C16_14, C16_15, C17_14, C17_15, C17_16, W0, W1, W2, W3, W4, W5⟩
                have hf41 := hd10 e10
                obtain ⟨u15, rfl⟩ : ∃ u15, f = (upd u15 41 (.tuple #[(.agg (Flat.cells t8).toArray), (.agg (Flat.cells t9).toArray), (.int .i64 t10)])) := ⟨f, by rw [upd_self hf41]⟩
                rcases bool_ft (S 14) with e14 | e14
                · skip
                  rcases bool_ft (S 15) with e15 | e15
                  · skip
                    have H := W0 e14 e15 e16 e17
                    refine O.extract (v := (.agg (Flat.cells t8).toArray)) rfl rfl rfl rfl ?_
                    refine WL.nil ?_
                    exact ⟨b5, b6, hf1, hf2, hf5, hf6, hf9, hf10, hf27, hf28, hf29, hd0, hd1, hd2, hd3, hd4, hd5, hd6, hd7, hd8, hd9, hd10, (fun _ => rfl), hd12, hd13, hd14, hd15, C16_14, C16_15, C17_14, C17_15, C17_16, (fun _ _ _ _ => H), (fun a _ _ _ => nomatch (show false = true from e14.symm.trans a)), (fun _ a _ _ => nomatch (show false = true from e15.symm.trans a)), (fun a _ _ _ => nomatch (show false = true from e14.symm.trans a)), (fun a _ _ _ => nomatch (show false = true from e14.symm.trans a)), (fun a _ _ _ => nomatch (show false = true from e14.symm.trans a))⟩
                  · skip
                    have H := W2 e14 e15 e16 e17
                    refine O.extract (v := (.agg (Flat.cells t8).toArray)) rfl rfl rfl rfl ?_
                    refine WL.nil ?_
                    exact ⟨b5, b6, hf1, hf2, hf5, hf6, hf9, hf10, hf27, hf28, hf29, hd0, hd1, hd2, hd3, hd4, hd5, hd6, hd7, hd8, hd9, hd10, (fun _ => rfl), hd12, hd13, hd14, hd15, C16_14, C16_15, C17_14, C17_15, C17_16, (fun _ a _ _ => nomatch (show true = false from e15.symm.trans a)), (fun a _ _ _ => nomatch (show false = true from e14.symm.trans a)), (fun _ _ _ _ => H), (fun a _ _ _ => nomatch (show false = true from e14.symm.trans a)), (fun a _ _ _ => nomatch (show false = true from e14.symm.trans a)), (fun a _ _ _ => nomatch (show false = true from e14.symm.trans a))⟩
                · skip
                  rcases bool_ft (S 15) with e15 | e15
                  · skip
                    have H := W1 e14 e15 e16 e17
                    refine O.extract (v := (.agg (Flat.cells t8).toArray)) rfl rfl rfl rfl ?_
                    refine WL.nil ?_
                    exact ⟨b5, b6, hf1, hf2, hf5, hf6, hf9, hf10, hf27, hf28, hf29, hd0, hd1, hd2, hd3, hd4, hd5, hd6, hd7, hd8, hd9, hd10, (fun _ => rfl), hd12, hd13, hd14, hd15, C16_14, C16_15, C17_14, C17_15, C17_16, (fun a _ _ _ => nomatch (show true = false from e14.symm.trans a)), (fun _ _ _ _ => H), (fun a _ _ _ => nomatch (show true = false from e14.symm.trans a)), (fun _ a _ _ => nomatch (show false = true from e15.symm.trans a)), (fun _ a _ _ => nomatch (show false = true from e15.symm.trans a)), (fun _ a _ _ => nomatch (show false = true from e15.symm.trans a))⟩
                  · skip
                    have H := W3 e14 e15 e16 e17
                    refine O.extract (v := (.agg (Flat.cells t8).toArray)) rfl rfl rfl rfl ?_
                    refine WL.nil ?_
                    exact ⟨b5, b6, hf1, hf2, hf5, hf6, hf9, hf10, hf27, hf28, hf29, hd0, hd1, hd2, hd3, hd4, hd5, hd6, hd7, hd8, hd9, hd10, (fun _ => rfl), hd12, hd13, hd14, hd15, C16_14, C16_15, C17_14, C17_15, C17_16, (fun a _ _ _ => nomatch (show true = false from e14.symm.trans a)), (fun _ a _ _ => nomatch (show true = false from e15.symm.trans a)), (fun a _ _ _ => nomatch (show true = false from e14.symm.trans a)), (fun _ _ _ _ => H), (fun _ _ a _ => nomatch (show false = true from e16.symm.trans a)), (fun _ _ a _ => nomatch (show false = true from e16.symm.trans a))⟩
              · skip
                rintro S f w hS ⟨e0, e1, e2, e3, e4, e5, e6, e7, e8, e9, e10, -⟩ ⟨e17, -⟩ ⟨b5, b6, hf1, hf2, hf5, hf6, hf9, hf10, hf27, hf28, hf29, hd0, hd1, hd2, hd3, hd4, hd5, hd6, hd7, hd8, hd9, hd10, hd11, hd12, hd13, hd14, hd15, C16_14, C16_15, C17_14, C17_15, C17_16, W0, W1, W2, W3, W4, W5⟩
                have hf41 := hd10 e10
                obtain ⟨u16, rfl⟩ : ∃ u16, f = (upd u16 41 (.tuple #[(.agg (Flat.cells t8).toArray), (.agg (Flat.cells t9).toArray), (.int .i64 t10)])) := ⟨f, by rw [upd_self hf41]⟩
                rcases bool_ft (S 14) with e14 | e14
                · skip
                  rcases bool_ft (S 15) with e15 | e15
                  · skip
                    rcases bool_ft (S 16) with e16 | e16
                    · skip
                      have H := W0 e14 e15 e16 e17
                      refine O.extract (v := (.agg (Flat.cells t9).toArray)) rfl rfl rfl rfl ?_
                      refine WL.nil ?_
                      exact ⟨b5, b6, hf1, hf2, hf5, hf6, hf9, hf10, hf27, hf28, hf29, hd0, hd1, hd2, hd3, hd4, hd5, hd6, hd7, hd8, hd9, hd10, hd11, (fun _ => rfl), hd13, hd14, hd15, C16_14, C16_15, C17_14, C17_15, C17_16, (fun _ _ _ _ => H), (fun a _ _ _ => nomatch (show false = true from e14.symm.trans a)), (fun _ a _ _ => nomatch (show false = true from e15.symm.trans a)), (fun a _ _ _ => nomatch (show false = true from e14.symm.trans a)), (fun a _ _ _ => nomatch (show false = true from e14.symm.trans a)), (fun a _ _ _ => nomatch (show false = true from e14.symm.trans a))⟩
                    · skip
                      exact nomatch (show true = false from (C16_14 e16).symm.trans e14)
                  · skip
                    rcases bool_ft (S 16) with e16 | e16
                    · skip
                      have H := W2 e14 e15 e16 e17
                      refine O.extract (v := (.agg (Flat.cells t9).toArray)) rfl rfl rfl rfl ?_
                      refine WL.nil ?_
                      exact ⟨b5, b6, hf1, hf2, hf5, hf6, hf9, hf10, hf27, hf28, hf29, hd0, hd1, hd2, hd3, hd4, hd5, hd6, hd7, hd8, hd9, hd10, hd11, (fun _ => rfl), hd13, hd14, hd15, C16_14, C16_15, C17_14, C17_15, C17_16, (fun _ a _ _ => nomatch (show true = false from e15.symm.trans a)), (fun a _ _ _ => nomatch (show false = true from e14.symm.trans a)), (fun _ _ _ _ => H), (fun a _ _ _ => nomatch (show false = true from e14.symm.trans a)), (fun a _ _ _ => nomatch (show false = true from e14.symm.trans a)), (fun a _ _ _ => nomatch (show false = true from e14.symm.trans a))⟩
                    · skip
                      exact nomatch (show true = false from (C16_14 e16).symm.trans e14)
                · skip
                  rcases bool_ft (S 15) with e15 | e15
                  · skip
                    rcases bool_ft (S 16) with e16 | e16
                    · skip
                      have H := W1 e14 e15 e16 e17
                      refine O.extract (v := (.agg (Flat.cells t9).toArray)) rfl rfl rfl rfl ?_
                      refine WL.nil ?_
                      exact ⟨b5, b6, hf1, hf2, hf5, hf6, hf9, hf10, hf27, hf28, hf29, hd0, hd1, hd2, hd3, hd4, hd5, hd6, hd7, hd8, hd9, hd10, hd11, (fun _ => rfl), hd13, hd14, hd15, C16_14, C16_15, C17_14, C17_15, C17_16, (fun a _ _ _ => nomatch (show true = false from e14.symm.trans a)), (fun _ _ _ _ => H), (fun a _ _ _ => nomatch (show true = false from e14.symm.trans a)), (fun _ a _ _ => nomatch (show false = true from e15.symm.trans a)), (fun _ a _ _ => nomatch (show false = true from e15.symm.trans a)), (fun _ a _ _ => nomatch (show false = true from e15.symm.trans a))⟩
                    · skip
                      exact nomatch (show true = false from (C16_15 e16).symm.trans e15)
                  · skip
                    rcases bool_ft (S 16) with e16 | e16
                    · skip
                      have H := W3 e14 e15 e16 e17
                      refine O.extract (v := (.agg (Flat.cells t9).toArray)) rfl rfl rfl rfl ?_
                      refine WL.nil ?_
                      exact ⟨b5, b6, hf1, hf2, hf5, hf6, hf9, hf10, hf27, hf28, hf29, hd0, hd1, hd2, hd3, hd4, hd5, hd6, hd7, hd8, hd9, hd10, hd11, (fun _ => rfl), hd13, hd14, hd15, C16_14, C16_15, C17_14, C17_15, C17_16, (fun a _ _ _ => nomatch (show true = false from e14.symm.trans a)), (fun _ a _ _ => nomatch (show true = false from e15.symm.trans a)), (fun a _ _ _ => nomatch (show true = false from e14.symm.trans a)), (fun _ _ _ _ => H), (fun _ _ a _ => nomatch (show false = true from e16.symm.trans a)), (fun _ _ a _ => nomatch (show false = true from e16.symm.trans a))⟩
                    · skip
                      have H := W4 e14 e15 e16 e17
                      refine O.extract (v := (.agg (Flat.cells t9).toArray)) rfl rfl rfl rfl ?_
                      refine WL.nil ?_
                      exact ⟨b5, b6, hf1, hf2, hf5, hf6, hf9, hf10, hf27, hf28, hf29, hd0, hd1, hd2, hd3, hd4, hd5, hd6, hd7, hd8, hd9, hd10, hd11, (fun _ => rfl), hd13, hd14, hd15, C16_14, C16_15, C17_14, C17_15, C17_16, (fun a _ _ _ => nomatch (show true = false from e14.symm.trans a)), (fun _ a _ _ => nomatch (show true = false from e15.symm.trans a)), (fun a _ _ _ => nomatch (show true = false from e14.symm.trans a)), (fun _ _ a _ => nomatch (show true = false from e16.symm.trans a)), (fun _ _ _ _ => H), (fun _ _ _ a => nomatch (show false = true from e17.symm.trans a))⟩
              · skip
                rintro S f w hS ⟨e0, e1, e2, e3, e4, e5, e6, e7, e8, e9, e10, -⟩ - ⟨b5, b6, hf1, hf2, hf5, hf6, hf9, hf10, hf27, hf28, hf29, hd0, hd1, hd2, hd3, hd4, hd5, hd6, hd7, hd8, hd9, hd10, hd11, hd12, hd13, hd14, hd15, C16_14, C16_15, C17_14, C17_15, C17_16, W0, W1, W2, W3, W4, W5⟩
                have hf41 := hd10 e10
                obtain ⟨u17, rfl⟩ : ∃ u17, f = (upd u17 41 (.tuple #[(.agg (Flat.cells t8).toArray), (.agg (Flat.cells t9).toArray), (.int .i64 t10)])) := ⟨f, by rw [upd_self hf41]⟩
                rcases bool_ft (S 14) with e14 | e14
                · skip
                  rcases bool_ft (S 15) with e15 | e15
                  · skip
                    rcases bool_ft (S 16) with e16 | e16
                    · skip
                      rcases bool_ft (S 17) with e17 | e17
                      · skip
                        have H := W0 e14 e15 e16 e17
                        refine O.extract (v := (.int .i64 t10)) rfl rfl rfl rfl ?_
                        refine WL.nil ?_
                        exact ⟨b5, b6, hf1, hf2, hf5, hf6, hf9, hf10, hf27, hf28, hf29, hd0, hd1, hd2, hd3, hd4, hd5, hd6, hd7, hd8, hd9, hd10, hd11, hd12, (fun _ => rfl), hd14, hd15, C16_14, C16_15, C17_14, C17_15, C17_16, (fun _ _ _ _ => H), (fun a _ _ _ => nomatch (show false = true from e14.symm.trans a)), (fun _ a _ _ => nomatch (show false = true from e15.symm.trans a)), (fun a _ _ _ => nomatch (show false = true from e14.symm.trans a)), (fun a _ _ _ => nomatch (show false = true from e14.symm.trans a)), (fun a _ _ _ => nomatch (show false = true from e14.symm.trans a))⟩
                      · skip
                        exact nomatch (show true = false from (C17_14 e17).symm.trans e14)
                    · skip
                      rcases bool_ft (S 17) with e17 | e17
                      · skip
                        exact nomatch (show true = false from (C16_14 e16).symm.trans e14)
                      · skip
                        exact nomatch (show true = false from (C16_14 e16).symm.trans e14)
                  · skip
                    rcases bool_ft (S 16) with e16 | e16
                    · skip
                      rcases bool_ft (S 17) with e17 | e17
                      · skip
                        have H := W2 e14 e15 e16 e17
                        refine O.extract (v := (.int .i64 t10)) rfl rfl rfl rfl ?_
                        refine WL.nil ?_
                        exact ⟨b5, b6, hf1, hf2, hf5, hf6, hf9, hf10, hf27, hf28, hf29, hd0, hd1, hd2, hd3, hd4, hd5, hd6, hd7, hd8, hd9, hd10, hd11, hd12, (fun _ => rfl), hd14, hd15, C16_14, C16_15, C17_14, C17_15, C17_16, (fun _ a _ _ => nomatch (show true = false from e15.symm.trans a)), (fun a _ _ _ => nomatch (show false = true from e14.symm.trans a)), (fun _ _ _ _ => H), (fun a _ _ _ => nomatch (show false = true from e14.symm.trans a)), (fun a _ _ _ => nomatch (show false = true from e14.symm.trans a)), (fun a _ _ _ => nomatch (show false = true from e14.symm.trans a))⟩
                      · skip
                        exact nomatch (show true = false from (C17_14 e17).symm.trans e14)
                    · skip
                      rcases bool_ft (S 17) with e17 | e17
                      · skip
                        exact nomatch (show true = false from (C16_14 e16).symm.trans e14)
                      · skip
                        exact nomatch (show true = false from (C16_14 e16).symm.trans e14)
                · skip
                  rcases bool_ft (S 15) with e15 | e15
                  · skip
                    rcases bool_ft (S 16) with e16 | e16
                    · skip
                      rcases bool_ft (S 17) with e17 | e17
                      · skip
                        have H := W1 e14 e15 e16 e17
                        refine O.extract (v := (.int .i64 t10)) rfl rfl rfl rfl ?_
                        refine WL.nil ?_
                        exact ⟨b5, b6, hf1, hf2, hf5, hf6, hf9, hf10, hf27, hf28, hf29, hd0, hd1, hd2, hd3, hd4, hd5, hd6, hd7, hd8, hd9, hd10, hd11, hd12, (fun _ => rfl), hd14, hd15, C16_14, C16_15, C17_14, C17_15, C17_16, (fun a _ _ _ => nomatch (show true = false from e14.symm.trans a)), (fun _ _ _ _ => H), (fun a _ _ _ => nomatch (show true = false from e14.symm.trans a)), (fun _ a _ _ => nomatch (show false = true from e15.symm.trans a)), (fun _ a _ _ => nomatch (show false = true from e15.symm.trans a)), (fun _ a _ _ => nomatch (show false = true from e15.symm.trans a))⟩
                      · skip
                        exact nomatch (show true = false from (C17_15 e17).symm.trans e15)
                    · skip
                      rcases bool_ft (S 17) with e17 | e17
                      · skip
                        exact nomatch (show true = false from (C16_15 e16).symm.trans e15)
                      · skip
                        exact nomatch (show true = false from (C16_15 e16).symm.trans e15)
                  · skip
                    rcases bool_ft (S 16) with e16 | e16
                    · skip
                      rcases bool_ft (S 17) with e17 | e17
                      · skip
                        have H := W3 e14 e15 e16 e17
                        refine O.extract (v := (.int .i64 t10)) rfl rfl rfl rfl ?_
                        refine WL.nil ?_
                        exact ⟨b5, b6, hf1, hf2, hf5, hf6, hf9, hf10, hf27, hf28, hf29, hd0, hd1, hd2, hd3, hd4, hd5, hd6, hd7, hd8, hd9, hd10, hd11, hd12, (fun _ => rfl), hd14, hd15, C16_14, C16_15, C17_14, C17_15, C17_16, (fun a _ _ _ => nomatch (show true = false from e14.symm.trans a)), (fun _ a _ _ => nomatch (show true = false from e15.symm.trans a)), (fun a _ _ _ => nomatch (show true = false from e14.symm.trans a)), (fun _ _ _ _ => H), (fun _ _ a _ => nomatch (show false = true from e16.symm.trans a)), (fun _ _ a _ => nomatch (show false = true from e16.symm.trans a))⟩
                      · skip
                        exact nomatch (show true = false from (C17_16 e17).symm.trans e16)
                    · skip
                      rcases bool_ft (S 17) with e17 | e17
                      · skip
                        have H := W4 e14 e15 e16 e17
                        refine O.extract (v := (.int .i64 t10)) rfl rfl rfl rfl ?_
                        refine WL.nil ?_
                        exact ⟨b5, b6, hf1, hf2, hf5, hf6, hf9, hf10, hf27, hf28, hf29, hd0, hd1, hd2, hd3, hd4, hd5, hd6, hd7, hd8, hd9, hd10, hd11, hd12, (fun _ => rfl), hd14, hd15, C16_14, C16_15, C17_14, C17_15, C17_16, (fun a _ _ _ => nomatch (show true = false from e14.symm.trans a)), (fun _ a _ _ => nomatch (show true = false from e15.symm.trans a)), (fun a _ _ _ => nomatch (show true = false from e14.symm.trans a)), (fun _ _ a _ => nomatch (show true = false from e16.symm.trans a)), (fun _ _ _ _ => H), (fun _ _ _ a => nomatch (show false = true from e17.symm.trans a))⟩
                      · skip
                        have H := W5 e14 e15 e16 e17
                        refine O.extract (v := (.int .i64 t10)) rfl rfl rfl rfl ?_
                        refine WL.nil ?_
                        exact ⟨b5, b6, hf1, hf2, hf5, hf6, hf9, hf10, hf27, hf28, hf29, hd0, hd1, hd2, hd3, hd4, hd5, hd6, hd7, hd8, hd9, hd10, hd11, hd12, (fun _ => rfl), hd14, hd15, C16_14, C16_15, C17_14, C17_15, C17_16, (fun a _ _ _ => nomatch (show true = false from e14.symm.trans a)), (fun _ a _ _ => nomatch (show true = false from e15.symm.trans a)), (fun a _ _ _ => nomatch (show true = false from e14.symm.trans a)), (fun _ _ a _ => nomatch (show true = false from e16.symm.trans a)), (fun _ _ _ a => nomatch (show true = false from e17.symm.trans a)), (fun _ _ _ _ => H)⟩
              · skip
                rintro S f w hS - ⟨e16, e17, -⟩ ⟨_, b6, hf1, hf2, hf5, hf6, hf9, hf10, hf27, hf28, hf29, hd0, hd1, hd2, hd3, hd4, hd5, hd6, hd7, hd8, hd9, hd10, hd11, hd12, hd13, hd14, hd15, C16_14, C16_15, C17_14, C17_15, C17_16, W0, W1, W2, W3, W4, W5⟩
                rcases bool_ft (S 15) with e15 | e15
                · skip
                  have H := W0 hS e15 e16 e17
                  refine O.alloc [(.int .i64 0), (.int .i64 0)] ze87 H rfl rfl rfl ?_
                  intro b5 w10 H hb8
                  refine WL.nil ?_
                  have H := H.pick [0, 1, 2, 5, 4] [boxI b1 25 [va0_0, va0_1], boxI b3 87 [(.int .i64 t3.clock), (.int .i64 t3.at_)], boxI b4 87 [(.int .i64 t4.clock), (.int .i64 t4.at_)], boxI b5 87 [(.int .i64 0), (.int .i64 0)], goneI] rfl (by decide)
                  exact ⟨b5, b6, hf1, hf2, hf5, hf6, hf9, hf10, hf27, hf28, hf29, hd0, hd1, hd2, hd3, hd4, hd5, hd6, hd7, hd8, hd9, hd10, hd11, hd12, hd13, (fun _ => rfl), hd15, (fun _ => rfl), C16_15, (fun _ => rfl), C17_15, C17_16, (fun a _ _ _ => nomatch (show true = false from a)), (fun _ _ _ _ => H), (fun a _ _ _ => nomatch (show true = false from a)), (fun _ a _ _ => nomatch (show false = true from e15.symm.trans a)), (fun _ a _ _ => nomatch (show false = true from e15.symm.trans a)), (fun _ a _ _ => nomatch (show false = true from e15.symm.trans a))⟩
                · skip
                  have H := W2 hS e15 e16 e17
                  refine O.alloc [(.int .i64 0), (.int .i64 0)] ze87 H rfl rfl rfl ?_
                  intro b5 w10 H hb8
                  refine WL.nil ?_
                  have H := H.pick [0, 1, 2, 5, 4] [boxI b1 25 [va0_0, va0_1], boxI b3 87 [(.int .i64 t3.clock), (.int .i64 t3.at_)], boxI b4 87 [(.int .i64 t4.clock), (.int .i64 t4.at_)], boxI b5 87 [(.int .i64 0), (.int .i64 0)], boxI b6 87 [(.int .i64 0), (.int .i64 0)]] rfl (by decide)
                  exact ⟨b5, b6, hf1, hf2, hf5, hf6, hf9, hf10, hf27, hf28, hf29, hd0, hd1, hd2, hd3, hd4, hd5, hd6, hd7, hd8, hd9, hd10, hd11, hd12, hd13, (fun _ => rfl), hd15, (fun _ => rfl), C16_15, (fun _ => rfl), C17_15, C17_16, (fun a _ _ _ => nomatch (show true = false from a)), (fun _ a _ _ => nomatch (show true = false from e15.symm.trans a)), (fun a _ _ _ => nomatch (show true = false from a)), (fun _ _ _ _ => H), (fun _ _ a _ => nomatch (show false = true from e16.symm.trans a)), (fun _ _ a _ => nomatch (show false = true from e16.symm.trans a))⟩
              · skip
                rintro S f w hS - ⟨e16, e17, -⟩ ⟨b5, _, hf1, hf2, hf5, hf6, hf9, hf10, hf27, hf28, hf29, hd0, hd1, hd2, hd3, hd4, hd5, hd6, hd7, hd8, hd9, hd10, hd11, hd12, hd13, hd14, hd15, C16_14, C16_15, C17_14, C17_15, C17_16, W0, W1, W2, W3, W4, W5⟩
                rcases bool_ft (S 14) with e14 | e14
                · skip
                  have H := W0 e14 hS e16 e17
                  refine O.alloc [(.int .i64 0), (.int .i64 0)] ze87 H rfl rfl rfl ?_
                  intro b6 w11 H hb9
                  refine WL.nil ?_
                  have H := H.pick [0, 1, 2, 3, 5] [boxI b1 25 [va0_0, va0_1], boxI b3 87 [(.int .i64 t3.clock), (.int .i64 t3.at_)], boxI b4 87 [(.int .i64 t4.clock), (.int .i64 t4.at_)], goneI, boxI b6 87 [(.int .i64 0), (.int .i64 0)]] rfl (by decide)
                  exact ⟨b5, b6, hf1, hf2, hf5, hf6, hf9, hf10, hf27, hf28, hf29, hd0, hd1, hd2, hd3, hd4, hd5, hd6, hd7, hd8, hd9, hd10, hd11, hd12, hd13, hd14, (fun _ => rfl), C16_14, (fun _ => rfl), C17_14, (fun _ => rfl), C17_16, (fun _ a _ _ => nomatch (show true = false from a)), (fun a _ _ _ => nomatch (show false = true from e14.symm.trans a)), (fun _ _ _ _ => H), (fun a _ _ _ => nomatch (show false = true from e14.symm.trans a)), (fun a _ _ _ => nomatch (show false = true from e14.symm.trans a)), (fun a _ _ _ => nomatch (show false = true from e14.symm.trans a))⟩
                · skip
                  have H := W1 e14 hS e16 e17
                  refine O.alloc [(.int .i64 0), (.int .i64 0)] ze87 H rfl rfl rfl ?_
                  intro b6 w11 H hb9
                  refine WL.nil ?_
                  have H := H.pick [0, 1, 2, 3, 5] [boxI b1 25 [va0_0, va0_1], boxI b3 87 [(.int .i64 t3.clock), (.int .i64 t3.at_)], boxI b4 87 [(.int .i64 t4.clock), (.int .i64 t4.at_)], boxI b5 87 [(.int .i64 0), (.int .i64 0)], boxI b6 87 [(.int .i64 0), (.int .i64 0)]] rfl (by decide)
                  exact ⟨b5, b6, hf1, hf2, hf5, hf6, hf9, hf10, hf27, hf28, hf29, hd0, hd1, hd2, hd3, hd4, hd5, hd6, hd7, hd8, hd9, hd10, hd11, hd12, hd13, hd14, (fun _ => rfl), C16_14, (fun _ => rfl), C17_14, (fun _ => rfl), C17_16, (fun a _ _ _ => nomatch (show true = false from e14.symm.trans a)), (fun _ a _ _ => nomatch (show true = false from a)), (fun a _ _ _ => nomatch (show true = false from e14.symm.trans a)), (fun _ _ _ _ => H), (fun _ _ a _ => nomatch (show false = true from e16.symm.trans a)), (fun _ _ a _ => nomatch (show false = true from e16.symm.trans a))⟩
              · skip
                rintro S f w hS ⟨e0, e1, e2, e3, e4, e5, e6, e7, e8, e9, e10, e11, e14, e15, -⟩ ⟨e17, -⟩ ⟨b5, b6, hf1, hf2, hf5, hf6, hf9, hf10, hf27, hf28, hf29, hd0, hd1, hd2, hd3, hd4, hd5, hd6, hd7, hd8, hd9, hd10, hd11, hd12, hd13, hd14, hd15, C16_14, C16_15, C17_14, C17_15, C17_16, W0, W1, W2, W3, W4, W5⟩
                have hf11 := hd14 e14
                have hf52 := hd11 e11
                obtain ⟨u18, rfl⟩ : ∃ u18, f = (upd (upd u18 11 (.pointer (some ⟨b5, 0, none⟩))) 52 (.agg (Flat.cells t8).toArray)) := ⟨f, by rw [upd_self hf11, upd_self hf52]⟩
                have H := W3 e14 e15 hS e17
                refine O.store 3 0 [(.int .i64 t8.clock), (.int .i64 t8.at_)] [(.int .i64 t8.clock), (.int .i64 t8.at_)] sz87 H rfl rfl rfl rfl rfl rfl ⟨⟨rfl, rfl⟩, rfl⟩ (one_cons rfl (one_cons rfl one_nil)) ?_
                intro w12 H
                refine WL.nil ?_
                exact ⟨b5, b6, hf1, hf2, hf5, hf6, hf9, hf10, hf27, hf28, hf29, hd0, hd1, hd2, hd3, hd4, hd5, hd6, hd7, hd8, hd9, hd10, hd11, hd12, hd13, hd14, hd15, (fun _ => e14), (fun _ => e15), C17_14, C17_15, (fun _ => rfl), (fun a _ _ _ => nomatch (show true = false from e14.symm.trans a)), (fun _ a _ _ => nomatch (show true = false from e15.symm.trans a)), (fun a _ _ _ => nomatch (show true = false from e14.symm.trans a)), (fun _ _ a _ => nomatch (show true = false from a)), (fun _ _ _ _ => H), (fun _ _ _ a => nomatch (show false = true from e17.symm.trans a))⟩
              · skip
                rintro S f w hS ⟨e0, e1, e2, e3, e4, e5, e6, e7, e8, e9, e10, e11, e12, e14, e15, e16, -⟩ - ⟨b5, b6, hf1, hf2, hf5, hf6, hf9, hf10, hf27, hf28, hf29, hd0, hd1, hd2, hd3, hd4, hd5, hd6, hd7, hd8, hd9, hd10, hd11, hd12, hd13, hd14, hd15, C16_14, C16_15, C17_14, C17_15, C17_16, W0, W1, W2, W3, W4, W5⟩
                have hf12 := hd15 e15
                have hf53 := hd12 e12
                obtain ⟨u19, rfl⟩ : ∃ u19, f = (upd (upd u19 12 (.pointer (some ⟨b6, 0, none⟩))) 53 (.agg (Flat.cells t9).toArray)) := ⟨f, by rw [upd_self hf12, upd_self hf53]⟩
                have H := W4 e14 e15 e16 hS
                refine O.store 4 0 [(.int .i64 t9.clock), (.int .i64 t9.at_)] [(.int .i64 t9.clock), (.int .i64 t9.at_)] sz87 H rfl rfl rfl rfl rfl rfl ⟨⟨rfl, rfl⟩, rfl⟩ (one_cons rfl (one_cons rfl one_nil)) ?_
                intro w13 H
                refine WL.nil ?_
                exact ⟨b5, b6, hf1, hf2, hf5, hf6, hf9, hf10, hf27, hf28, hf29, hd0, hd1, hd2, hd3, hd4, hd5, hd6, hd7, hd8, hd9, hd10, hd11, hd12, hd13, hd14, hd15, C16_14, C16_15, (fun _ => e14), (fun _ => e15), (fun _ => e16), (fun a _ _ _ => nomatch (show true = false from e14.symm.trans a)), (fun _ a _ _ => nomatch (show true = false from e15.symm.trans a)), (fun a _ _ _ => nomatch (show true = false from e14.symm.trans a)), (fun _ _ a _ => nomatch (show true = false from e16.symm.trans a)), (fun _ _ _ a => nomatch (show true = false from a)), (fun _ _ _ _ => H)⟩
            · skip
              rintro S f w ⟨e0, e1, e2, e3, e4, e5, e6, e7, e8, e9, e10, e11, e12, e13, e14, e15, e16, e17, -⟩ ⟨b5, b6, hf1, hf2, hf5, hf6, hf9, hf10, hf27, hf28, hf29, hd0, hd1, hd2, hd3, hd4, hd5, hd6, hd7, hd8, hd9, hd10, hd11, hd12, hd13, hd14, hd15, C16_14, C16_15, C17_14, C17_15, C17_16, W0, W1, W2, W3, W4, W5⟩
              have hf11 := hd14 e14
              have hf54 := hd13 e13
              have H := W5 e14 e15 e16 e17
              obtain ⟨u20, rfl⟩ : ∃ u20, f = (upd (upd (upd (upd (upd (upd (upd (upd (upd (upd u20 1 va1) 2 (.pointer (some ⟨b1, 0, none⟩))) 5 (.int .i64 z2)) 9 (.pointer (some ⟨b4, 0, none⟩))) 10 (.int .i64 t5)) 11 (.pointer (some ⟨b5, 0, none⟩))) 27 va1) 28 (.int .i64 ((a1.length : Nat) : Int))) 29 (.int .i64 (ik1 : Int))) 54 (.int .i64 t10)) := ⟨f, by rw [upd_self hf1, upd_self hf2, upd_self hf5, upd_self hf9, upd_self hf10, upd_self hf11, upd_self hf27, upd_self hf28, upd_self hf29, upd_self hf54]⟩
              refine O.assign (v := (.int .i64 t10)) rfl rfl rfl ?_
              refine WL.nil ?_
              refine W.seq ?_
              refine W.seq ?_
              refine W.region ?_
              refine O.fieldAddr fd87_0 rfl rfl rfl ?_
              refine O.load sc3 rfl rfl rfl (H.cell 2 rfl 0 _ rfl) ?_
              refine O.fieldAddr fd87_0 rfl rfl rfl ?_
              refine O.load sc3 rfl rfl rfl (H.cell 3 rfl 0 _ rfl) ?_
              refine O.neq rfl rfl rfl rfl ?_
              refine WL.nil ?_
              rcases ite_some hm3 with ⟨hc4, hm3⟩ | ⟨hc4, hm3⟩
              · refine W.cond_true (congrArg Value.bool hc4) ?_
                refine W.seq ?_
                refine W.region ?_
                refine O.assign (v := (.bool false)) rfl rfl rfl ?_
                refine WL.nil ?_
                refine W.ret ?_
                obtain rfl := Option.some.inj hm3
                refine ⟨_, rfl, ?_⟩
                rintro rfl
                have hq : false = r0 := Option.some.inj (show some false = some r0 from hm)
                subst hq
                exact ends1 Try.results28 rfl ⟨_, rfl, H.base, rfl⟩
              · refine W.cond_false (congrArg Value.bool hc4) ?_
                refine W.skip ?_
                refine W.region ?_
                refine O.move (v := (.int .i64 z2)) rfl rfl rfl ?_
                refine O.move (v := (.int .i64 t5)) rfl rfl rfl ?_
                refine O.loadA [va0_0, va0_1] ag25 rfl rfl rfl rfl (H.cell 0 rfl) ?_
                refine O.fieldAddr fd87_0 rfl rfl rfl ?_
                refine O.load sc3 rfl rfl rfl (H.cell 2 rfl 0 _ rfl) ?_
                refine O.fieldAddr fd87_1 rfl rfl rfl ?_
                refine O.load sc3 rfl rfl rfl (H.cell 2 rfl 1 _ rfl) ?_
                refine O.fieldAddr fd87_1 rfl rfl rfl ?_
                refine O.load sc3 rfl rfl rfl (H.cell 3 rfl 1 _ rfl) ?_
                obtain ⟨t11, ht11, hm3⟩ := bind_some hm3
                refine O.sub rfl rfl rfl rfl ht11 ?_
                obtain ⟨t12, hy5, hm3⟩ := bind_some hm3
                refine O.call Try.call72 rfl rfl rfl (c_sight_carry _ _ (GNet.mk a0.Rates a0.Sights) (H.arg ha0_0) (H.arg ha0_1) _ _ hy5) ?_
                rintro _ w14 hb10 rfl
                have H := H.ext hb10
                obtain ⟨t13, ht13, hm3⟩ := bind_some hm3
                refine O.add rfl rfl rfl rfl ht13 ?_
                obtain ⟨t14, ht14, hm3⟩ := bind_some hm3
                refine O.add rfl rfl rfl rfl ht14 ?_
                refine O.assign (v := (.int .i64 t14)) rfl rfl rfl ?_
                refine WL.nil ?_
                refine W.region ?_
                refine O.add rfl rfl rfl rfl hinck1 ?_
                refine O.move (v := .int .i64 ((ik1 : Int) + 1)) rfl rfl rfl ?_
                refine WL.nil ?_
                have H := H.keep [0] [boxI b1 25 [va0_0, va0_1]] rfl (by decide)
                obtain rfl := Option.some.inj hm3
                exact ⟨_, rfl, _, rfl, rangeN_next hdropk1, rfl, rfl, rfl, rfl, rfl, rfl, H⟩
          · skip
            rintro ik1 _ f w ⟨z2, rfl, hdropk1, hf29, hf28, hf1, hf2, hf5, hf27, H⟩ hfin
            have hltk1 := rangeN_end hdropk1
            obtain ⟨u21, rfl⟩ : ∃ u21, f = (upd (upd (upd (upd (upd (upd u21 29 (.int .i64 (ik1 : Int))) 28 (.int .i64 ((a1.length : Nat) : Int))) 1 va1) 2 (.pointer (some ⟨b1, 0, none⟩))) 5 (.int .i64 z2)) 27 va1) := ⟨f, by rw [upd_self hf29, upd_self hf28, upd_self hf1, upd_self hf2, upd_self hf5, upd_self hf27]⟩
            refine W.seq ?_
            refine W.region ?_
            refine O.lss rfl rfl rfl rfl ?_
            refine WL.nil ?_
            refine W.seq ?_
            refine W.cond_false (congrArg Value.bool (decide_eq_false hltk1)) ?_
            refine W.exit ?_
            obtain rfl : Ctl.next z2 = o1 := hfin
            have H := H.keep [] [] rfl (by decide)
            refine xT rfl ?_
            exact ⟨_, rfl, rfl, H⟩
        · skip
          rintro f w ⟨s1, rfl, hf5, H⟩
          obtain ⟨u22, rfl⟩ : ∃ u22, f = (upd u22 5 (.int .i64 s1)) := ⟨f, by rw [upd_self hf5]⟩
          refine W.seq ?_
          refine W.region ?_
          refine O.move (v := (.int .i64 s1)) rfl rfl rfl ?_
          refine O.lss rfl rfl rfl rfl ?_
          refine O.assign (v := (.bool (decide (s1 < 0)))) rfl rfl rfl ?_
          refine WL.nil ?_
          refine W.ret ?_
          have hq : (decide (s1 < 0)) = r0 := Option.some.inj (show some (decide (s1 < 0)) = some r0 from hm)
          subst hq
          exact ends1 Try.results28 rfl ⟨_, rfl, H.base, rfl⟩

set_option maxRecDepth 20000 in
theorem c_noongunlaw02_awake {w0 : World}  {r0 : Bool} (hm : noongunlaw02_awake  = some r0) :
    Calls Try.prog 15 #[] w0 (Ret w0 fun _ v => v = (.bool r0)) := by
  unfold noongunlaw02_awake at hm
  refine calls_of_W Try.func15 rfl Try.ntmps15 (Nat.le_of_ble_eq_true rfl) ?_
  have H := Inv.start (w := w0)
  refine W.seq ?_
  refine W.region ?_
  refine O.assign (v := (.bool false)) rfl rfl rfl ?_
  refine WL.nil ?_
  refine W.seq ?_
  refine W.region ?_
  obtain ⟨t1, hy1, hm⟩ := bind_some hm
  refine O.call Try.call53 rfl rfl rfl (c_noongunlaw02_two  hy1) ?_
  rintro _ w1 hb1 ⟨v1, v2, rfl, ho1⟩
  have H := H.addAll hb1 ho1
  refine O.alloc [(.slice none 0 0), (.slice none 0 0)] ze25 H rfl rfl rfl ?_
  intro b1 w2 H hb2
  have H := H.addNil (α := Int) (E := 3)
  have H := H.addNil (α := GSight) (E := 39)
  refine O.store 2 0 [v1, v2] [v1, v2] sz25 H rfl rfl rfl rfl rfl rfl ⟨⟨rfl, rfl⟩, rfl⟩ (one_cons (SliceR.one (H.own 0 rfl)) (one_cons (SliceR.one (H.own 1 rfl)) one_nil)) ?_
  intro w3 H
  refine WL.nil ?_
  refine W.seq ?_
  refine W.region ?_
  refine O.loadA [v1, v2] ag25 rfl rfl rfl rfl (H.cell 2 rfl) ?_
  obtain ⟨⟨t2, t3⟩, hy2, hm⟩ := bind_some hm
  refine O.call Try.call20 rfl rfl rfl (c_sight_Consistent _ _ (GNet.mk t1.Rates t1.Sights) (H.own 0 rfl) (H.own 1 rfl) hy2) ?_
  rintro _ w4 hb3 rfl
  have H := H.ext hb3
  refine O.move (v := (.tuple #[(.bool t2), (.int .i64 t3)])) rfl rfl rfl ?_
  refine O.extract (v := (.bool t2)) rfl rfl rfl rfl ?_
  refine O.extract (v := (.int .i64 t3)) rfl rfl rfl rfl ?_
  refine O.assign (v := (.bool t2)) rfl rfl rfl ?_
  refine O.assign (v := (.int .i64 t3)) rfl rfl rfl ?_
  refine WL.nil ?_
  refine W.seq ?_
  refine W.region ?_
  refine O.fieldAddr fd25_1 rfl rfl rfl ?_
  refine O.load sc23 rfl rfl rfl (H.cell 2 rfl 1 _ rfl) ?_
  obtain ⟨t4, ht4, hm⟩ := bind_some hm
  refine O.sliceHs Try.underlying23 sz39 (H.own 1 rfl) ht4 rfl rfl rfl rfl ?_
  intro v3 hs1
  refine O.fieldAddr fd25_1 rfl rfl rfl ?_
  refine O.store 2 1 [v3] [v1, v3] sz23 H rfl rfl rfl rfl rfl (SliceR.cells1 (hs1 _ (H.own 1 rfl))) ⟨⟨rfl, rfl⟩, rfl⟩ (one_cons (SliceR.one (hs1 _ (H.own 1 rfl))) one_nil) ?_
  intro w5 H
  refine WL.nil ?_
  refine W.seq ?_
  refine W.region ?_
  refine O.loadA [v1, v3] ag25 rfl rfl rfl rfl (H.cell 2 rfl) ?_
  obtain ⟨⟨t5, t6⟩, hy3, hm⟩ := bind_some hm
  refine O.call Try.call21 rfl rfl rfl (c_sight_Error _ _ (GNet.mk t1.Rates t4) (H.own 0 rfl) (hs1 _ (H.own 1 rfl)) _ _ hy3) ?_
  rintro _ w6 hb4 rfl
  have H := H.ext hb4
  refine O.move (v := (.tuple #[(.agg (Flat.cells t5).toArray), (.int .i64 t6)])) rfl rfl rfl ?_
  refine O.extract (v := (.agg (Flat.cells t5).toArray)) rfl rfl rfl rfl ?_
  refine O.extract (v := (.int .i64 t6)) rfl rfl rfl rfl ?_
  refine O.alloc [(.int .i64 0), (.int .i64 0)] ze30 H rfl rfl rfl ?_
  intro b2 w7 H hb5
  refine O.store 5 0 [(.int .i64 t5.Lo), (.int .i64 t5.Hi)] [(.int .i64 t5.Lo), (.int .i64 t5.Hi)] sz30 H rfl rfl rfl rfl rfl rfl ⟨⟨rfl, rfl⟩, rfl⟩ (one_cons rfl (one_cons rfl one_nil)) ?_
  intro w8 H
  refine O.assign (v := (.int .i64 t6)) rfl rfl rfl ?_
  refine WL.nil ?_
  refine W.seq ?_
  refine W.region ?_
  refine O.move (v := (.int .i64 t3)) rfl rfl rfl ?_
  refine O.eql rfl rfl rfl rfl ?_
  refine O.move (v := (.bool (t3 == 0))) rfl rfl rfl ?_
  refine WL.cut 3 (fun f w => f 4 = (.pointer (some ⟨b2, 0, none⟩)) ∧ f 5 = (.int .i64 t6) ∧ f 26 = .bool ((t3 == 0) && (!t2)) ∧ Inv w0 w [ownI (α := Int) v1 3 t1.Rates, ownI (α := GSight) v2 39 t1.Sights, boxI b1 25 [v1, v3], ownI (α := Int) (.slice none 0 0) 3 ([] : List Int), ownI (α := GSight) (.slice none 0 0) 39 ([] : List GSight), boxI b2 30 [(.int .i64 t5.Lo), (.int .i64 t5.Hi)]]) ?_ ?_
  · skip
    rcases bool_ft (t3 == 0) with hc1 | hc1
    · skip
      refine WL.reset (i := 23) (v := .bool false) (congrArg Value.bool hc1) ?_
      refine O.skip rfl rfl ?_
      refine O.skip rfl rfl ?_
      refine O.pick_false (v := (.bool false)) rfl rfl rfl rfl ?_
      refine WL.nil ?_
      exact ⟨rfl, rfl, congrArg Value.bool (and_f hc1), H⟩
    · skip
      refine WL.reset (i := 23) (v := .bool true) (congrArg Value.bool hc1) ?_
      refine O.move (v := (.bool t2)) rfl rfl rfl ?_
      refine O.not rfl rfl rfl ?_
      refine O.pick_true (v := (.bool (!t2))) rfl rfl rfl rfl ?_
      refine WL.nil ?_
      exact ⟨rfl, rfl, congrArg Value.bool (and_t hc1), H⟩
  · skip
    rintro f w ⟨hf4, hf5, hf26, H⟩
    obtain ⟨u1, rfl⟩ : ∃ u1, f = (upd (upd (upd u1 4 (.pointer (some ⟨b2, 0, none⟩))) 5 (.int .i64 t6)) 26 (.bool ((t3 == 0) && (!t2)))) := ⟨f, by rw [upd_self hf4, upd_self hf5, upd_self hf26]⟩
    refine O.move (v := (.bool ((t3 == 0) && (!t2)))) rfl rfl rfl ?_
    obtain ⟨b3, hm1, hm⟩ := bind_some hm
    refine WL.cut 4 (fun f w => f 4 = (.pointer (some ⟨b2, 0, none⟩)) ∧ f 5 = (.int .i64 t6) ∧ f 31 = .bool b3 ∧ Inv w0 w [ownI (α := Int) v1 3 t1.Rates, ownI (α := GSight) v2 39 t1.Sights, boxI b1 25 [v1, v3], ownI (α := Int) (.slice none 0 0) 3 ([] : List Int), ownI (α := GSight) (.slice none 0 0) 39 ([] : List GSight), boxI b2 30 [(.int .i64 t5.Lo), (.int .i64 t5.Hi)]]) ?_ ?_
    · skip
      rcases ite_some hm1 with ⟨hc2, hm1⟩ | ⟨hc2, hm1⟩
      · skip
        refine WL.reset (i := 27) (v := .bool true) (congrArg Value.bool hc2) ?_
        obtain ⟨t7, hy4, hm1⟩ := bind_some hm1
        refine O.call Try.call53 rfl rfl rfl (c_noongunlaw02_two  hy4) ?_
        rintro _ w9 hb6 ⟨v4, v5, rfl, ho2⟩
        have H := H.addAll hb6 ho2
        refine O.buildSlice (α := Int) [(.int .i64 0), (.int .i64 3)] [0, 3] Try.underlying22 el3 H rfl rfl rfl rfl rfl rfl rfl ?_
        intro v6 w10 H hb7
        obtain ⟨t8, hy5, hm1⟩ := bind_some hm1
        refine O.call Try.call28 rfl rfl rfl (c_sight_Proves _ _ t7 (H.own 6 rfl) (H.own 7 rfl) _ _ (H.own 8 rfl) hy5) ?_
        rintro _ w11 hb8 rfl
        have H := H.ext hb8
        refine O.pick_true (v := (.bool t8)) rfl rfl rfl rfl ?_
        refine WL.nil ?_
        have H := H.keep [0, 1, 2, 3, 4, 5] [ownI (α := Int) v1 3 t1.Rates, ownI (α := GSight) v2 39 t1.Sights, boxI b1 25 [v1, v3], ownI (α := Int) (.slice none 0 0) 3 ([] : List Int), ownI (α := GSight) (.slice none 0 0) 39 ([] : List GSight), boxI b2 30 [(.int .i64 t5.Lo), (.int .i64 t5.Hi)]] rfl (by decide)
        have hq : t8 = b3 := Option.some.inj (show some t8 = some b3 from hm1)
        subst hq
        exact ⟨rfl, rfl, rfl, H⟩
      · skip
        refine WL.reset (i := 27) (v := .bool false) (congrArg Value.bool hc2) ?_
        refine O.skip rfl rfl ?_
        refine O.skip rfl rfl ?_
        refine O.skip rfl rfl ?_
        refine O.pick_false (v := (.bool false)) rfl rfl rfl rfl ?_
        refine WL.nil ?_
        have hq : false = b3 := Option.some.inj (show some false = some b3 from hm1)
        subst hq
        exact ⟨rfl, rfl, rfl, H⟩
    · skip
      rintro f w ⟨hf4, hf5, hf31, H⟩
      obtain ⟨u2, rfl⟩ : ∃ u2, f = (upd (upd (upd u2 4 (.pointer (some ⟨b2, 0, none⟩))) 5 (.int .i64 t6)) 31 (.bool b3)) := ⟨f, by rw [upd_self hf4, upd_self hf5, upd_self hf31]⟩
      refine O.move (v := (.bool b3)) rfl rfl rfl ?_
      refine WL.cut 3 (fun f w => f 4 = (.pointer (some ⟨b2, 0, none⟩)) ∧ f 35 = .bool (b3 && (t6 == 0)) ∧ Inv w0 w [ownI (α := Int) v1 3 t1.Rates, ownI (α := GSight) v2 39 t1.Sights, boxI b1 25 [v1, v3], ownI (α := Int) (.slice none 0 0) 3 ([] : List Int), ownI (α := GSight) (.slice none 0 0) 39 ([] : List GSight), boxI b2 30 [(.int .i64 t5.Lo), (.int .i64 t5.Hi)]]) ?_ ?_
      · skip
        rcases bool_ft b3 with hc3 | hc3
        · skip
          refine WL.reset (i := 32) (v := .bool false) (congrArg Value.bool hc3) ?_
          refine O.skip rfl rfl ?_
          refine O.skip rfl rfl ?_
          refine O.pick_false (v := (.bool false)) rfl rfl rfl rfl ?_
          refine WL.nil ?_
          exact ⟨rfl, congrArg Value.bool (and_f hc3), H⟩
        · skip
          refine WL.reset (i := 32) (v := .bool true) (congrArg Value.bool hc3) ?_
          refine O.move (v := (.int .i64 t6)) rfl rfl rfl ?_
          refine O.eql rfl rfl rfl rfl ?_
          refine O.pick_true (v := (.bool (t6 == 0))) rfl rfl rfl rfl ?_
          refine WL.nil ?_
          exact ⟨rfl, congrArg Value.bool (and_t hc3), H⟩
      · skip
        rintro f w ⟨hf4, hf35, H⟩
        obtain ⟨u3, rfl⟩ : ∃ u3, f = (upd (upd u3 4 (.pointer (some ⟨b2, 0, none⟩))) 35 (.bool (b3 && (t6 == 0)))) := ⟨f, by rw [upd_self hf4, upd_self hf35]⟩
        refine O.move (v := (.bool (b3 && (t6 == 0)))) rfl rfl rfl ?_
        refine WL.cut 4 (fun f w => f 40 = .bool ((b3 && (t6 == 0)) && (t5 == (GSpan.mk 90 110))) ∧ Inv w0 w [ownI (α := Int) v1 3 t1.Rates, ownI (α := GSight) v2 39 t1.Sights, boxI b1 25 [v1, v3], ownI (α := Int) (.slice none 0 0) 3 ([] : List Int), ownI (α := GSight) (.slice none 0 0) 39 ([] : List GSight), boxI b2 30 [(.int .i64 t5.Lo), (.int .i64 t5.Hi)]]) ?_ ?_
        · skip
          rcases bool_ft (b3 && (t6 == 0)) with hc4 | hc4
          · skip
            refine WL.reset (i := 36) (v := .bool false) (congrArg Value.bool hc4) ?_
            refine O.skip rfl rfl ?_
            refine O.skip rfl rfl ?_
            refine O.skip rfl rfl ?_
            refine O.pick_false (v := (.bool false)) rfl rfl rfl rfl ?_
            refine WL.nil ?_
            exact ⟨congrArg Value.bool (and_f hc4), H⟩
          · skip
            refine WL.reset (i := 36) (v := .bool true) (congrArg Value.bool hc4) ?_
            refine O.loadA [(.int .i64 t5.Lo), (.int .i64 t5.Hi)] ag30 rfl rfl rfl rfl (H.cell 5 rfl) ?_
            refine O.build (v := (.agg (Flat.cells (GSpan.mk 90 110)).toArray)) (fun w => bd30_0_1 _ _ w) rfl rfl rfl ?_
            refine O.eqlSt t5 (GSpan.mk 90 110) eq30 rfl rfl rfl rfl ?_
            refine O.pick_true (v := (.bool (t5 == (GSpan.mk 90 110)))) rfl rfl rfl rfl ?_
            refine WL.nil ?_
            exact ⟨congrArg Value.bool (and_t hc4), H⟩
        · skip
          rintro f w ⟨hf40, H⟩
          obtain ⟨u4, rfl⟩ : ∃ u4, f = (upd u4 40 (.bool ((b3 && (t6 == 0)) && (t5 == (GSpan.mk 90 110))))) := ⟨f, by rw [upd_self hf40]⟩
          refine O.assign (v := (.bool ((b3 && (t6 == 0)) && (t5 == (GSpan.mk 90 110))))) rfl rfl rfl ?_
          refine WL.nil ?_
          refine W.ret ?_
          have hq : ((b3 && (t6 == 0)) && (t5 == (GSpan.mk 90 110))) = r0 := Option.some.inj (show some ((b3 && (t6 == 0)) && (t5 == (GSpan.mk 90 110))) = some r0 from hm)
          subst hq
          exact ends1 Try.results15 rfl ⟨_, rfl, H.base, rfl⟩

theorem c_noongunlaw02_is {w0 : World} (va0_0 : Value) (va0_1 : Value) (a0 : GTrue) (ha0_0 : SliceR w0 va0_0 a0.Errors) (ha0_1 : SliceR w0 va0_1 a0.Rates) (a1 : Int) (a2 : Int) {r0 : Int} (hm : noongunlaw02_is a0 a1 a2 = some r0) :
    Calls Try.prog 19 #[(.agg #[va0_0, va0_1]), (.int .i64 a1), (.int .i64 a2)] w0 (Ret w0 fun _ v => v = (.int .i64 r0)) := by
  unfold noongunlaw02_is at hm
  refine calls_of_W Try.func19 rfl Try.ntmps19 (Nat.le_of_ble_eq_true rfl) ?_
  have H := Inv.start (w := w0)
  refine W.seq ?_
  refine W.region ?_
  refine O.box [va0_0, va0_1] H rfl rfl rfl rfl ?_
  intro b1 w1 H hb1
  refine O.assign (v := (.int .i64 0)) rfl rfl rfl ?_
  refine WL.nil ?_
  refine W.seq ?_
  refine W.region ?_
  refine O.fieldAddr fd37_1 rfl rfl rfl ?_
  refine O.load sc22 rfl rfl rfl (H.cell 0 rfl 1 _ rfl) ?_
  refine O.move (v := (.int .i64 a1)) rfl rfl rfl ?_
  obtain ⟨x1, hx1, hm⟩ := bind_some hm
  obtain ⟨p1, hp1, hrp1⟩ := fix_indexAddr Try.underlying22 sz3 ha0_1 hx1
  refine hrp1 rfl rfl rfl rfl ?_
  refine O.load sc3 rfl rfl rfl ((hp1.mono H.base).flat 0 _ rfl) ?_
  refine O.move (v := (.int .i64 a2)) rfl rfl rfl ?_
  obtain ⟨t1, ht1, hm⟩ := bind_some hm
  refine O.mul rfl rfl rfl rfl ht1 ?_
  refine O.assign (v := (.int .i64 t1)) rfl rfl rfl ?_
  refine WL.nil ?_
  refine W.seq ?_
  refine W.region ?_
  refine O.move (v := (.int .i64 t1)) rfl rfl rfl ?_
  obtain ⟨t2, ht2, hm⟩ := bind_some hm
  refine O.quo rfl rfl rfl rfl ht2 ?_
  refine O.assign (v := (.int .i64 t2)) rfl rfl rfl ?_
  refine WL.nil ?_
  refine W.seq ?_
  refine W.seq ?_
  refine W.region ?_
  refine O.move (v := (.int .i64 t1)) rfl rfl rfl ?_
  obtain ⟨t3, ht3, hm⟩ := bind_some hm
  refine O.rem rfl rfl rfl rfl ht3 ?_
  refine O.lss rfl rfl rfl rfl ?_
  refine WL.nil ?_
  obtain ⟨s1, hm1, hm⟩ := bind_some hm
  refine W.via (fun f w => f 1 = (.int .i64 a1) ∧ f 3 = (.pointer (some ⟨b1, 0, none⟩)) ∧ f 8 = (.int .i64 s1) ∧ Inv w0 w [boxI b1 37 [va0_0, va0_1]]) ?_ ?_
  · skip
    rcases ite_some hm1 with ⟨hc1, hm1⟩ | ⟨hc1, hm1⟩
    · refine W.cond_true (congrArg Value.bool hc1) ?_
      refine W.region ?_
      refine O.move (v := (.int .i64 t2)) rfl rfl rfl ?_
      obtain ⟨t4, ht4, hm1⟩ := bind_some hm1
      refine O.sub rfl rfl rfl rfl ht4 ?_
      refine O.assign (v := (.int .i64 t4)) rfl rfl rfl ?_
      refine WL.nil ?_
      have hq : t4 = s1 := Option.some.inj (show some t4 = some s1 from hm1)
      subst hq
      exact ⟨rfl, rfl, rfl, H⟩
    · refine W.cond_false (congrArg Value.bool hc1) ?_
      refine W.skip ?_
      have hq : t2 = s1 := Option.some.inj (show some t2 = some s1 from hm1)
      subst hq
      exact ⟨rfl, rfl, rfl, H⟩
  · skip
    rintro f w ⟨hf1, hf3, hf8, H⟩
    obtain ⟨u1, rfl⟩ : ∃ u1, f = (upd (upd (upd u1 1 (.int .i64 a1)) 3 (.pointer (some ⟨b1, 0, none⟩))) 8 (.int .i64 s1)) := ⟨f, by rw [upd_self hf1, upd_self hf3, upd_self hf8]⟩
    refine W.seq ?_
    refine W.region ?_
    refine O.fieldAddr fd37_0 rfl rfl rfl ?_
    refine O.load sc22 rfl rfl rfl (H.cell 0 rfl 0 _ rfl) ?_
    refine O.move (v := (.int .i64 a1)) rfl rfl rfl ?_
    obtain ⟨x2, hx2, hm⟩ := bind_some hm
    obtain ⟨p2, hp2, hrp2⟩ := fix_indexAddr Try.underlying22 sz3 ha0_0 hx2
    refine hrp2 rfl rfl rfl rfl ?_
    refine O.load sc3 rfl rfl rfl ((hp2.mono H.base).flat 0 _ rfl) ?_
    refine O.move (v := (.int .i64 s1)) rfl rfl rfl ?_
    obtain ⟨t5, ht5, hm⟩ := bind_some hm
    refine O.add rfl rfl rfl rfl ht5 ?_
    refine O.assign (v := (.int .i64 t5)) rfl rfl rfl ?_
    refine WL.nil ?_
    refine W.ret ?_
    have hq : t5 = r0 := Option.some.inj (show some t5 = some r0 from hm)
    subst hq
    exact ends1 Try.results19 rfl ⟨_, rfl, H.base, rfl⟩

set_option maxRecDepth 20000 in
theorem c_noongunlaw02_SightTrue {w0 : World} (va0_0 : Value) (va0_1 : Value) (a0 : GNet) (ha0_0 : SliceR w0 va0_0 a0.Rates) (ha0_1 : SliceR w0 va0_1 a0.Sights) (va1_0 : Value) (va1_1 : Value) (a1 : GTrue) (ha1_0 : SliceR w0 va1_0 a1.Errors) (ha1_1 : SliceR w0 va1_1 a1.Rates) (a2 : Int) {r0 : Bool} (hm : noongunlaw02_SightTrue a0 a1 a2 = some r0) :
    Calls Try.prog 4 #[(.agg #[va0_0, va0_1]), (.agg #[va1_0, va1_1]), (.int .i64 a2)] w0 (Ret w0 fun _ v => v = (.bool r0)) := by
  unfold noongunlaw02_SightTrue at hm
  refine calls_of_W Try.func4 rfl Try.ntmps4 (Nat.le_of_ble_eq_true rfl) ?_
  have H := Inv.start (w := w0)
  refine W.seq ?_
  refine W.region ?_
  refine O.box [va0_0, va0_1] H rfl rfl rfl rfl ?_
  intro b1 w1 H hb1
  refine O.box [va1_0, va1_1] H rfl rfl rfl rfl ?_
  intro b2 w2 H hb2
  refine O.assign (v := (.bool false)) rfl rfl rfl ?_
  refine WL.nil ?_
  refine W.seq ?_
  refine W.seq ?_
  refine W.region ?_
  refine O.loadA [va0_0, va0_1] ag25 rfl rfl rfl rfl (H.cell 0 rfl) ?_
  obtain ⟨t1, hy1, hm⟩ := bind_some hm
  refine O.call Try.call14 rfl rfl rfl (c_noongunlaw02_Light _ _ (GNet.mk a0.Rates a0.Sights) (H.arg ha0_0) (H.arg ha0_1) hy1) ?_
  rintro _ w3 hb3 rfl
  have H := H.ext hb3
  refine O.not rfl rfl rfl ?_
  refine O.move (v := (.bool (!t1))) rfl rfl rfl ?_
  obtain ⟨b3, hm1, hm⟩ := bind_some hm
  refine WL.cut 4 (fun f w => f 2 = (.int .i64 a2) ∧ f 3 = (.pointer (some ⟨b1, 0, none⟩)) ∧ f 4 = (.pointer (some ⟨b2, 0, none⟩)) ∧ f 24 = .bool b3 ∧ Inv w0 w [boxI b1 25 [va0_0, va0_1], boxI b2 37 [va1_0, va1_1]]) ?_ ?_
  · skip
    rcases ite_some hm1 with ⟨hc1, hm1⟩ | ⟨hc1, hm1⟩
    · skip
      refine WL.reset (i := 20) (v := .bool true) (congrArg Value.bool hc1) ?_
      refine O.skip rfl rfl ?_
      refine O.skip rfl rfl ?_
      refine O.skip rfl rfl ?_
      refine O.pick_true (v := (.bool true)) rfl rfl rfl rfl ?_
      refine WL.nil ?_
      have hq : true = b3 := Option.some.inj (show some true = some b3 from hm1)
      subst hq
      exact ⟨rfl, rfl, rfl, rfl, H⟩
    · skip
      refine WL.reset (i := 20) (v := .bool false) (congrArg Value.bool hc1) ?_
      refine O.loadA [va0_0, va0_1] ag25 rfl rfl rfl rfl (H.cell 0 rfl) ?_
      obtain ⟨t2, hy2, hm1⟩ := bind_some hm1
      refine O.call Try.call18 rfl rfl rfl (c_noongunref02_Valid _ _ (GNet.mk a0.Rates a0.Sights) (H.arg ha0_0) (H.arg ha0_1) hy2) ?_
      rintro _ w4 hb4 rfl
      have H := H.ext hb4
      refine O.not rfl rfl rfl ?_
      refine O.pick_false (v := (.bool (!t2))) rfl rfl rfl rfl ?_
      refine WL.nil ?_
      have hq : (!t2) = b3 := Option.some.inj (show some (!t2) = some b3 from hm1)
      subst hq
      exact ⟨rfl, rfl, rfl, rfl, H⟩
  · skip
    rintro f w ⟨hf2, hf3, hf4, hf24, H⟩
    obtain ⟨u1, rfl⟩ : ∃ u1, f = (upd (upd (upd (upd u1 2 (.int .i64 a2)) 3 (.pointer (some ⟨b1, 0, none⟩))) 4 (.pointer (some ⟨b2, 0, none⟩))) 24 (.bool b3)) := ⟨f, by rw [upd_self hf2, upd_self hf3, upd_self hf4, upd_self hf24]⟩
    refine O.move (v := (.bool b3)) rfl rfl rfl ?_
    refine WL.cut 3 (fun f w => f 2 = (.int .i64 a2) ∧ f 3 = (.pointer (some ⟨b1, 0, none⟩)) ∧ f 4 = (.pointer (some ⟨b2, 0, none⟩)) ∧ f 28 = .bool (b3 || (decide (a2 < 0))) ∧ Inv w0 w [boxI b1 25 [va0_0, va0_1], boxI b2 37 [va1_0, va1_1]]) ?_ ?_
    · skip
      rcases bool_ft b3 with hc2 | hc2
      · skip
        refine WL.reset (i := 25) (v := .bool false) (congrArg Value.bool hc2) ?_
        refine O.move (v := (.int .i64 a2)) rfl rfl rfl ?_
        refine O.lss rfl rfl rfl rfl ?_
        refine O.pick_false (v := (.bool (decide (a2 < 0)))) rfl rfl rfl rfl ?_
        refine WL.nil ?_
        exact ⟨rfl, rfl, rfl, congrArg Value.bool (or_f hc2), H⟩
      · skip
        refine WL.reset (i := 25) (v := .bool true) (congrArg Value.bool hc2) ?_
        refine O.skip rfl rfl ?_
        refine O.skip rfl rfl ?_
        refine O.pick_true (v := (.bool true)) rfl rfl rfl rfl ?_
        refine WL.nil ?_
        exact ⟨rfl, rfl, rfl, congrArg Value.bool (or_t hc2), H⟩
    · skip
      rintro f w ⟨hf2, hf3, hf4, hf28, H⟩
      obtain ⟨u2, rfl⟩ : ∃ u2, f = (upd (upd (upd (upd u2 2 (.int .i64 a2)) 3 (.pointer (some ⟨b1, 0, none⟩))) 4 (.pointer (some ⟨b2, 0, none⟩))) 28 (.bool (b3 || (decide (a2 < 0))))) := ⟨f, by rw [upd_self hf2, upd_self hf3, upd_self hf4, upd_self hf28]⟩
      refine O.move (v := (.bool (b3 || (decide (a2 < 0))))) rfl rfl rfl ?_
      refine WL.cut 3 (fun f w => f 2 = (.int .i64 a2) ∧ f 3 = (.pointer (some ⟨b1, 0, none⟩)) ∧ f 4 = (.pointer (some ⟨b2, 0, none⟩)) ∧ f 32 = .bool ((b3 || (decide (a2 < 0))) || (decide (1000000000000 < a2))) ∧ Inv w0 w [boxI b1 25 [va0_0, va0_1], boxI b2 37 [va1_0, va1_1]]) ?_ ?_
      · skip
        rcases bool_ft (b3 || (decide (a2 < 0))) with hc3 | hc3
        · skip
          refine WL.reset (i := 29) (v := .bool false) (congrArg Value.bool hc3) ?_
          refine O.move (v := (.int .i64 a2)) rfl rfl rfl ?_
          refine O.gtr rfl rfl rfl rfl ?_
          refine O.pick_false (v := (.bool (decide (1000000000000 < a2)))) rfl rfl rfl rfl ?_
          refine WL.nil ?_
          exact ⟨rfl, rfl, rfl, congrArg Value.bool (or_f hc3), H⟩
        · skip
          refine WL.reset (i := 29) (v := .bool true) (congrArg Value.bool hc3) ?_
          refine O.skip rfl rfl ?_
          refine O.skip rfl rfl ?_
          refine O.pick_true (v := (.bool true)) rfl rfl rfl rfl ?_
          refine WL.nil ?_
          exact ⟨rfl, rfl, rfl, congrArg Value.bool (or_t hc3), H⟩
      · skip
        rintro f w ⟨hf2, hf3, hf4, hf32, H⟩
        obtain ⟨u3, rfl⟩ : ∃ u3, f = (upd (upd (upd (upd u3 2 (.int .i64 a2)) 3 (.pointer (some ⟨b1, 0, none⟩))) 4 (.pointer (some ⟨b2, 0, none⟩))) 32 (.bool ((b3 || (decide (a2 < 0))) || (decide (1000000000000 < a2))))) := ⟨f, by rw [upd_self hf2, upd_self hf3, upd_self hf4, upd_self hf32]⟩
        refine O.move (v := (.bool ((b3 || (decide (a2 < 0))) || (decide (1000000000000 < a2))))) rfl rfl rfl ?_
        refine WL.cut 8 (fun f w => f 2 = (.int .i64 a2) ∧ f 3 = (.pointer (some ⟨b1, 0, none⟩)) ∧ f 4 = (.pointer (some ⟨b2, 0, none⟩)) ∧ f 41 = .bool (((b3 || (decide (a2 < 0))) || (decide (1000000000000 < a2))) || (((a1.Errors.length : Nat) : Int) != ((a0.Rates.length : Nat) : Int))) ∧ Inv w0 w [boxI b1 25 [va0_0, va0_1], boxI b2 37 [va1_0, va1_1]]) ?_ ?_
        · skip
          rcases bool_ft ((b3 || (decide (a2 < 0))) || (decide (1000000000000 < a2))) with hc4 | hc4
          · skip
            refine WL.reset (i := 33) (v := .bool false) (congrArg Value.bool hc4) ?_
            refine O.fieldAddr fd37_0 rfl rfl rfl ?_
            refine O.load sc22 rfl rfl rfl (H.cell 1 rfl 0 _ rfl) ?_
            refine O.lenS Try.underlying22 (H.arg ha1_0) rfl rfl rfl ?_
            refine O.fieldAddr fd25_0 rfl rfl rfl ?_
            refine O.load sc22 rfl rfl rfl (H.cell 0 rfl 0 _ rfl) ?_
            refine O.lenS Try.underlying22 (H.arg ha0_0) rfl rfl rfl ?_
            refine O.neq rfl rfl rfl rfl ?_
            refine O.pick_false (v := (.bool (((a1.Errors.length : Nat) : Int) != ((a0.Rates.length : Nat) : Int)))) rfl rfl rfl rfl ?_
            refine WL.nil ?_
            exact ⟨rfl, rfl, rfl, congrArg Value.bool (or_f hc4), H⟩
          · skip
            refine WL.reset (i := 33) (v := .bool true) (congrArg Value.bool hc4) ?_
            refine O.skip rfl rfl ?_
            refine O.skip rfl rfl ?_
            refine O.skip rfl rfl ?_
            refine O.skip rfl rfl ?_
            refine O.skip rfl rfl ?_
            refine O.skip rfl rfl ?_
            refine O.skip rfl rfl ?_
            refine O.pick_true (v := (.bool true)) rfl rfl rfl rfl ?_
            refine WL.nil ?_
            exact ⟨rfl, rfl, rfl, congrArg Value.bool (or_t hc4), H⟩
        · skip
          rintro f w ⟨hf2, hf3, hf4, hf41, H⟩
          obtain ⟨u4, rfl⟩ : ∃ u4, f = (upd (upd (upd (upd u4 2 (.int .i64 a2)) 3 (.pointer (some ⟨b1, 0, none⟩))) 4 (.pointer (some ⟨b2, 0, none⟩))) 41 (.bool (((b3 || (decide (a2 < 0))) || (decide (1000000000000 < a2))) || (((a1.Errors.length : Nat) : Int) != ((a0.Rates.length : Nat) : Int))))) := ⟨f, by rw [upd_self hf2, upd_self hf3, upd_self hf4, upd_self hf41]⟩
          refine O.move (v := (.bool (((b3 || (decide (a2 < 0))) || (decide (1000000000000 < a2))) || (((a1.Errors.length : Nat) : Int) != ((a0.Rates.length : Nat) : Int))))) rfl rfl rfl ?_
          refine WL.cut 8 (fun f w => f 2 = (.int .i64 a2) ∧ f 3 = (.pointer (some ⟨b1, 0, none⟩)) ∧ f 4 = (.pointer (some ⟨b2, 0, none⟩)) ∧ f 50 = .bool ((((b3 || (decide (a2 < 0))) || (decide (1000000000000 < a2))) || (((a1.Errors.length : Nat) : Int) != ((a0.Rates.length : Nat) : Int))) || (((a1.Rates.length : Nat) : Int) != ((a0.Rates.length : Nat) : Int))) ∧ Inv w0 w [boxI b1 25 [va0_0, va0_1], boxI b2 37 [va1_0, va1_1]]) ?_ ?_
          · skip
            rcases bool_ft (((b3 || (decide (a2 < 0))) || (decide (1000000000000 < a2))) || (((a1.Errors.length : Nat) : Int) != ((a0.Rates.length : Nat) : Int))) with hc5 | hc5
            · skip
              refine WL.reset (i := 42) (v := .bool false) (congrArg Value.bool hc5) ?_
              refine O.fieldAddr fd37_1 rfl rfl rfl ?_
              refine O.load sc22 rfl rfl rfl (H.cell 1 rfl 1 _ rfl) ?_
              refine O.lenS Try.underlying22 (H.arg ha1_1) rfl rfl rfl ?_
              refine O.fieldAddr fd25_0 rfl rfl rfl ?_
              refine O.load sc22 rfl rfl rfl (H.cell 0 rfl 0 _ rfl) ?_
              refine O.lenS Try.underlying22 (H.arg ha0_0) rfl rfl rfl ?_
              refine O.neq rfl rfl rfl rfl ?_
              refine O.pick_false (v := (.bool (((a1.Rates.length : Nat) : Int) != ((a0.Rates.length : Nat) : Int)))) rfl rfl rfl rfl ?_
              refine WL.nil ?_
              exact ⟨rfl, rfl, rfl, congrArg Value.bool (or_f hc5), H⟩
            · skip
              refine WL.reset (i := 42) (v := .bool true) (congrArg Value.bool hc5) ?_
              refine O.skip rfl rfl ?_
              refine O.skip rfl rfl ?_
              refine O.skip rfl rfl ?_
              refine O.skip rfl rfl ?_
              refine O.skip rfl rfl ?_
              refine O.skip rfl rfl ?_
              refine O.skip rfl rfl ?_
              refine O.pick_true (v := (.bool true)) rfl rfl rfl rfl ?_
              refine WL.nil ?_
              exact ⟨rfl, rfl, rfl, congrArg Value.bool (or_t hc5), H⟩
          · skip
            rintro f w ⟨hf2, hf3, hf4, hf50, H⟩
            obtain ⟨u5, rfl⟩ : ∃ u5, f = (upd (upd (upd (upd u5 2 (.int .i64 a2)) 3 (.pointer (some ⟨b1, 0, none⟩))) 4 (.pointer (some ⟨b2, 0, none⟩))) 50 (.bool ((((b3 || (decide (a2 < 0))) || (decide (1000000000000 < a2))) || (((a1.Errors.length : Nat) : Int) != ((a0.Rates.length : Nat) : Int))) || (((a1.Rates.length : Nat) : Int) != ((a0.Rates.length : Nat) : Int))))) := ⟨f, by rw [upd_self hf2, upd_self hf3, upd_self hf4, upd_self hf50]⟩
            refine WL.nil ?_
            rcases ite_some hm with ⟨hc6, hm⟩ | ⟨hc6, hm⟩
            · refine W.cond_true (congrArg Value.bool hc6) ?_
              refine W.seq ?_
              refine W.region ?_
              obtain ⟨t3, hy3, hm⟩ := bind_some hm
              refine O.call Try.call15 rfl rfl rfl (c_noongunlaw02_awake  hy3) ?_
              rintro _ w5 hb5 rfl
              have H := H.ext hb5
              refine O.assign (v := (.bool t3)) rfl rfl rfl ?_
              refine WL.nil ?_
              refine W.ret ?_
              have hq : t3 = r0 := Option.some.inj (show some t3 = some r0 from hm)
              subst hq
              exact ends1 Try.results4 rfl ⟨_, rfl, H.base, rfl⟩
            · refine W.cond_false (congrArg Value.bool hc6) ?_
              refine W.skip ?_
              refine W.seq ?_
              refine W.seq ?_
              refine W.region ?_
              refine O.fieldAddr fd37_1 rfl rfl rfl ?_
              refine O.load sc22 rfl rfl rfl (H.cell 1 rfl 1 _ rfl) ?_
              refine O.lenS Try.underlying22 (H.arg ha1_1) rfl rfl rfl ?_
              refine O.move (v := (.int .i64 0)) rfl rfl rfl ?_
              refine WL.nil ?_
              obtain ⟨o1, hm2, hm⟩ := bind_some hm
              refine W.via (fun f w => o1 = .next () ∧ f 2 = (.int .i64 a2) ∧ f 3 = (.pointer (some ⟨b1, 0, none⟩)) ∧ f 4 = (.pointer (some ⟨b2, 0, none⟩)) ∧ Inv w0 w [boxI b1 25 [va0_0, va0_1], boxI b2 37 [va1_0, va1_1]]) ?_ ?_
              · skip
                refine W.block ?_
                have hbdik1 := (H.arg ha1_1).len_le
                refine W.rangeN (i := 0) hm2 (fun rem ik1 s f w => () = s ∧ (ik1 : Int) + rem = max 0 ((a1.Rates.length : Nat) : Int) ∧ f 55 = .int .i64 (ik1 : Int) ∧ f 54 = (.int .i64 ((a1.Rates.length : Nat) : Int)) ∧ f 2 = (.int .i64 a2) ∧ f 3 = (.pointer (some ⟨b1, 0, none⟩)) ∧ f 4 = (.pointer (some ⟨b2, 0, none⟩)) ∧ f 53 = va1_1 ∧ Inv w0 w [boxI b1 25 [va0_0, va0_1], boxI b2 37 [va1_0, va1_1]]) ?_ ?_ ?_
                · skip
                  exact ⟨rfl, rangeN_start, rfl, rfl, rfl, rfl, rfl, rfl, H⟩
                · skip
                  rintro k ik1 _ st f w ⟨rfl, hdropk1, hf55, hf54, hf2, hf3, hf4, hf53, H⟩ hm3
                  have hltk1 := rangeN_lt hdropk1
                  obtain ⟨u6, rfl⟩ : ∃ u6, f = (upd (upd (upd (upd (upd (upd u6 55 (.int .i64 (ik1 : Int))) 54 (.int .i64 ((a1.Rates.length : Nat) : Int))) 2 (.int .i64 a2)) 3 (.pointer (some ⟨b1, 0, none⟩))) 4 (.pointer (some ⟨b2, 0, none⟩))) 53 va1_1) := ⟨f, by rw [upd_self hf55, upd_self hf54, upd_self hf2, upd_self hf3, upd_self hf4, upd_self hf53]⟩
                  have hinck1 := addI_lt hltk1 hbdik1
                  refine W.seq ?_
                  refine W.region ?_
                  refine O.lss rfl rfl rfl rfl ?_
                  refine WL.nil ?_
                  refine W.seq ?_
                  refine W.cond_true (congrArg Value.bool (decide_eq_true hltk1)) ?_
                  refine W.skip ?_
                  refine W.seq ?_
                  refine W.block ?_
                  refine W.seq ?_
                  refine W.region ?_
                  refine O.move (v := (.int .i64 (ik1 : Int))) rfl rfl rfl ?_
                  obtain ⟨x1, hx1, hm3⟩ := bind_some hm3
                  obtain ⟨p1, hp1, hrp1⟩ := fix_indexAddr Try.underlying22 sz3 ha1_1 hx1
                  refine hrp1 rfl rfl rfl rfl ?_
                  refine O.load sc3 rfl rfl rfl ((hp1.mono H.base).flat 0 _ rfl) ?_
                  refine O.assign (v := (.int .i64 (ik1 : Int))) rfl rfl rfl ?_
                  refine O.assign (v := (.int .i64 x1)) rfl rfl rfl ?_
                  refine WL.nil ?_
                  refine W.seq ?_
                  refine W.region ?_
                  refine O.move (v := (.int .i64 (ik1 : Int))) rfl rfl rfl ?_
                  refine O.eql rfl rfl rfl rfl ?_
                  refine O.move (v := (.bool ((ik1 : Int) == 0))) rfl rfl rfl ?_
                  obtain ⟨b4, hm4, hm3⟩ := bind_some hm3
                  refine WL.cut 11 (fun f w => f 2 = (.int .i64 a2) ∧ f 3 = (.pointer (some ⟨b1, 0, none⟩)) ∧ f 4 = (.pointer (some ⟨b2, 0, none⟩)) ∧ f 7 = (.int .i64 (ik1 : Int)) ∧ f 8 = (.int .i64 x1) ∧ f 53 = va1_1 ∧ f 54 = (.int .i64 ((a1.Rates.length : Nat) : Int)) ∧ f 55 = (.int .i64 (ik1 : Int)) ∧ f 73 = .bool b4 ∧ Inv w0 w [boxI b1 25 [va0_0, va0_1], boxI b2 37 [va1_0, va1_1]]) ?_ ?_
                  · skip
                    rcases ite_some hm4 with ⟨hc7, hm4⟩ | ⟨hc7, hm4⟩
                    · skip
                      refine WL.reset (i := 62) (v := .bool true) (congrArg Value.bool hc7) ?_
                      refine O.move (v := (.int .i64 x1)) rfl rfl rfl ?_
                      refine O.neq rfl rfl rfl rfl ?_
                      refine O.move (v := (.bool (x1 != 0))) rfl rfl rfl ?_
                      obtain ⟨b5, hm5, hm4⟩ := bind_some hm4
                      refine WL.cut 7 (fun f w => f 2 = (.int .i64 a2) ∧ f 3 = (.pointer (some ⟨b1, 0, none⟩)) ∧ f 4 = (.pointer (some ⟨b2, 0, none⟩)) ∧ f 7 = (.int .i64 (ik1 : Int)) ∧ f 8 = (.int .i64 x1) ∧ f 53 = va1_1 ∧ f 54 = (.int .i64 ((a1.Rates.length : Nat) : Int)) ∧ f 55 = (.int .i64 (ik1 : Int)) ∧ f 62 = (.bool true) ∧ f 63 = (.int .i64 x1) ∧ f 64 = (.bool (x1 != 0)) ∧ f 65 = (.bool (x1 != 0)) ∧ f 72 = .bool b5 ∧ Inv w0 w [boxI b1 25 [va0_0, va0_1], boxI b2 37 [va1_0, va1_1]]) ?_ ?_
                      · skip
                        rcases ite_some hm5 with ⟨hc8, hm5⟩ | ⟨hc8, hm5⟩
                        · skip
                          refine WL.reset (i := 65) (v := .bool true) (congrArg Value.bool hc8) ?_
                          refine O.skip rfl rfl ?_
                          refine O.skip rfl rfl ?_
                          refine O.skip rfl rfl ?_
                          refine O.skip rfl rfl ?_
                          refine O.skip rfl rfl ?_
                          refine O.skip rfl rfl ?_
                          refine O.pick_true (v := (.bool true)) rfl rfl rfl rfl ?_
                          refine WL.nil ?_
                          have hq : true = b5 := Option.some.inj (show some true = some b5 from hm5)
                          subst hq
                          exact ⟨rfl, rfl, rfl, rfl, rfl, rfl, rfl, rfl, rfl, rfl, rfl, (congrArg Value.bool hc8).symm, rfl, H⟩
                        · skip
                          refine WL.reset (i := 65) (v := .bool false) (congrArg Value.bool hc8) ?_
                          refine O.fieldAddr fd37_0 rfl rfl rfl ?_
                          refine O.load sc22 rfl rfl rfl (H.cell 1 rfl 0 _ rfl) ?_
                          refine O.move (v := (.int .i64 (ik1 : Int))) rfl rfl rfl ?_
                          obtain ⟨x2, hx2, hm5⟩ := bind_some hm5
                          obtain ⟨p2, hp2, hrp2⟩ := fix_indexAddr Try.underlying22 sz3 ha1_0 hx2
                          refine hrp2 rfl rfl rfl rfl ?_
                          refine O.load sc3 rfl rfl rfl ((hp2.mono H.base).flat 0 _ rfl) ?_
                          refine O.neq rfl rfl rfl rfl ?_
                          refine O.pick_false (v := (.bool (x2 != 0))) rfl rfl rfl rfl ?_
                          refine WL.nil ?_
                          have hq : (x2 != 0) = b5 := Option.some.inj (show some (x2 != 0) = some b5 from hm5)
                          subst hq
                          exact ⟨rfl, rfl, rfl, rfl, rfl, rfl, rfl, rfl, rfl, rfl, rfl, (congrArg Value.bool hc8).symm, rfl, H⟩
                      · skip
                        rintro f w ⟨hf2, hf3, hf4, hf7, hf8, hf53, hf54, hf55, hf62, hf63, hf64, hf65, hf72, H⟩
                        obtain ⟨u7, rfl⟩ : ∃ u7, f = (upd (upd (upd (upd (upd (upd (upd (upd (upd (upd (upd (upd (upd u7 2 (.int .i64 a2)) 3 (.pointer (some ⟨b1, 0, none⟩))) 4 (.pointer (some ⟨b2, 0, none⟩))) 7 (.int .i64 (ik1 : Int))) 8 (.int .i64 x1)) 53 va1_1) 54 (.int .i64 ((a1.Rates.length : Nat) : Int))) 55 (.int .i64 (ik1 : Int))) 62 (.bool true)) 63 (.int .i64 x1)) 64 (.bool (x1 != 0))) 65 (.bool (x1 != 0))) 72 (.bool b5)) := ⟨f, by rw [upd_self hf2, upd_self hf3, upd_self hf4, upd_self hf7, upd_self hf8, upd_self hf53, upd_self hf54, upd_self hf55, upd_self hf62, upd_self hf63, upd_self hf64, upd_self hf65, upd_self hf72]⟩
                        refine O.pick_true (v := (.bool b5)) rfl rfl rfl rfl ?_
                        refine WL.nil ?_
                        have hq : b5 = b4 := Option.some.inj (show some b5 = some b4 from hm4)
                        subst hq
                        exact ⟨rfl, rfl, rfl, rfl, rfl, rfl, rfl, rfl, rfl, H⟩
                    · skip
                      refine WL.reset (i := 62) (v := .bool false) (congrArg Value.bool hc7) ?_
                      refine O.skip rfl rfl ?_
                      refine O.skip rfl rfl ?_
                      refine O.skip rfl rfl ?_
                      refine O.skip rfl rfl ?_
                      refine O.skip rfl rfl ?_
                      refine O.skip rfl rfl ?_
                      refine O.skip rfl rfl ?_
                      refine O.skip rfl rfl ?_
                      refine O.skip rfl rfl ?_
                      refine O.skip rfl rfl ?_
                      refine O.pick_false (v := (.bool false)) rfl rfl rfl rfl ?_
                      refine WL.nil ?_
                      have hq : false = b4 := Option.some.inj (show some false = some b4 from hm4)
                      subst hq
                      exact ⟨rfl, rfl, rfl, rfl, rfl, rfl, rfl, rfl, rfl, H⟩
                  · skip
                    rintro f w ⟨hf2, hf3, hf4, hf7, hf8, hf53, hf54, hf55, hf73, H⟩
                    obtain ⟨u8, rfl⟩ : ∃ u8, f = (upd (upd (upd (upd (upd (upd (upd (upd (upd u8 2 (.int .i64 a2)) 3 (.pointer (some ⟨b1, 0, none⟩))) 4 (.pointer (some ⟨b2, 0, none⟩))) 7 (.int .i64 (ik1 : Int))) 8 (.int .i64 x1)) 53 va1_1) 54 (.int .i64 ((a1.Rates.length : Nat) : Int))) 55 (.int .i64 (ik1 : Int))) 73 (.bool b4)) := ⟨f, by rw [upd_self hf2, upd_self hf3, upd_self hf4, upd_self hf7, upd_self hf8, upd_self hf53, upd_self hf54, upd_self hf55, upd_self hf73]⟩
                    refine O.move (v := (.bool b4)) rfl rfl rfl ?_
                    obtain ⟨b6, hm6, hm3⟩ := bind_some hm3
                    refine WL.cut 9 (fun f w => f 2 = (.int .i64 a2) ∧ f 3 = (.pointer (some ⟨b1, 0, none⟩)) ∧ f 4 = (.pointer (some ⟨b2, 0, none⟩)) ∧ f 7 = (.int .i64 (ik1 : Int)) ∧ f 8 = (.int .i64 x1) ∧ f 53 = va1_1 ∧ f 54 = (.int .i64 ((a1.Rates.length : Nat) : Int)) ∧ f 55 = (.int .i64 (ik1 : Int)) ∧ f 83 = .bool b6 ∧ Inv w0 w [boxI b1 25 [va0_0, va0_1], boxI b2 37 [va1_0, va1_1]]) ?_ ?_
                    · skip
                      rcases ite_some hm6 with ⟨hc9, hm6⟩ | ⟨hc9, hm6⟩
                      · skip
                        refine WL.reset (i := 74) (v := .bool true) (congrArg Value.bool hc9) ?_
                        refine O.skip rfl rfl ?_
                        refine O.skip rfl rfl ?_
                        refine O.skip rfl rfl ?_
                        refine O.skip rfl rfl ?_
                        refine O.skip rfl rfl ?_
                        refine O.skip rfl rfl ?_
                        refine O.skip rfl rfl ?_
                        refine O.skip rfl rfl ?_
                        refine O.pick_true (v := (.bool true)) rfl rfl rfl rfl ?_
                        refine WL.nil ?_
                        have hq : true = b6 := Option.some.inj (show some true = some b6 from hm6)
                        subst hq
                        exact ⟨rfl, rfl, rfl, rfl, rfl, rfl, rfl, rfl, rfl, H⟩
                      · skip
                        refine WL.reset (i := 74) (v := .bool false) (congrArg Value.bool hc9) ?_
                        refine O.move (v := (.int .i64 x1)) rfl rfl rfl ?_
                        refine O.fieldAddr fd25_0 rfl rfl rfl ?_
                        refine O.load sc22 rfl rfl rfl (H.cell 0 rfl 0 _ rfl) ?_
                        refine O.move (v := (.int .i64 (ik1 : Int))) rfl rfl rfl ?_
                        obtain ⟨x3, hx3, hm6⟩ := bind_some hm6
                        obtain ⟨p3, hp3, hrp3⟩ := fix_indexAddr Try.underlying22 sz3 ha0_0 hx3
                        refine hrp3 rfl rfl rfl rfl ?_
                        refine O.load sc3 rfl rfl rfl ((hp3.mono H.base).flat 0 _ rfl) ?_
                        obtain ⟨t4, ht4, hm6⟩ := bind_some hm6
                        refine O.neg rfl rfl rfl ht4 ?_
                        refine O.lss rfl rfl rfl rfl ?_
                        refine O.pick_false (v := (.bool (decide (x1 < t4)))) rfl rfl rfl rfl ?_
                        refine WL.nil ?_
                        have hq : (decide (x1 < t4)) = b6 := Option.some.inj (show some (decide (x1 < t4)) = some b6 from hm6)
                        subst hq
                        exact ⟨rfl, rfl, rfl, rfl, rfl, rfl, rfl, rfl, rfl, H⟩
                    · skip
                      rintro f w ⟨hf2, hf3, hf4, hf7, hf8, hf53, hf54, hf55, hf83, H⟩
                      obtain ⟨u9, rfl⟩ : ∃ u9, f = (upd (upd (upd (upd (upd (upd (upd (upd (upd u9 2 (.int .i64 a2)) 3 (.pointer (some ⟨b1, 0, none⟩))) 4 (.pointer (some ⟨b2, 0, none⟩))) 7 (.int .i64 (ik1 : Int))) 8 (.int .i64 x1)) 53 va1_1) 54 (.int .i64 ((a1.Rates.length : Nat) : Int))) 55 (.int .i64 (ik1 : Int))) 83 (.bool b6)) := ⟨f, by rw [upd_self hf2, upd_self hf3, upd_self hf4, upd_self hf7, upd_self hf8, upd_self hf53, upd_self hf54, upd_self hf55, upd_self hf83]⟩
                      refine O.move (v := (.bool b6)) rfl rfl rfl ?_
                      obtain ⟨b7, hm7, hm3⟩ := bind_some hm3
                      refine WL.cut 8 (fun f w => f 2 = (.int .i64 a2) ∧ f 3 = (.pointer (some ⟨b1, 0, none⟩)) ∧ f 4 = (.pointer (some ⟨b2, 0, none⟩)) ∧ f 7 = (.int .i64 (ik1 : Int)) ∧ f 53 = va1_1 ∧ f 54 = (.int .i64 ((a1.Rates.length : Nat) : Int)) ∧ f 55 = (.int .i64 (ik1 : Int)) ∧ f 92 = .bool b7 ∧ Inv w0 w [boxI b1 25 [va0_0, va0_1], boxI b2 37 [va1_0, va1_1]]) ?_ ?_
                      · skip
                        rcases ite_some hm7 with ⟨hc10, hm7⟩ | ⟨hc10, hm7⟩
                        · skip
                          refine WL.reset (i := 84) (v := .bool true) (congrArg Value.bool hc10) ?_
                          refine O.skip rfl rfl ?_
                          refine O.skip rfl rfl ?_
                          refine O.skip rfl rfl ?_
                          refine O.skip rfl rfl ?_
                          refine O.skip rfl rfl ?_
                          refine O.skip rfl rfl ?_
                          refine O.skip rfl rfl ?_
                          refine O.pick_true (v := (.bool true)) rfl rfl rfl rfl ?_
                          refine WL.nil ?_
                          have hq : true = b7 := Option.some.inj (show some true = some b7 from hm7)
                          subst hq
                          exact ⟨rfl, rfl, rfl, rfl, rfl, rfl, rfl, rfl, H⟩
                        · skip
                          refine WL.reset (i := 84) (v := .bool false) (congrArg Value.bool hc10) ?_
                          refine O.move (v := (.int .i64 x1)) rfl rfl rfl ?_
                          refine O.fieldAddr fd25_0 rfl rfl rfl ?_
                          refine O.load sc22 rfl rfl rfl (H.cell 0 rfl 0 _ rfl) ?_
                          refine O.move (v := (.int .i64 (ik1 : Int))) rfl rfl rfl ?_
                          obtain ⟨x4, hx4, hm7⟩ := bind_some hm7
                          obtain ⟨p4, hp4, hrp4⟩ := fix_indexAddr Try.underlying22 sz3 ha0_0 hx4
                          refine hrp4 rfl rfl rfl rfl ?_
                          refine O.load sc3 rfl rfl rfl ((hp4.mono H.base).flat 0 _ rfl) ?_
                          refine O.gtr rfl rfl rfl rfl ?_
                          refine O.pick_false (v := (.bool (decide (x4 < x1)))) rfl rfl rfl rfl ?_
                          refine WL.nil ?_
                          have hq : (decide (x4 < x1)) = b7 := Option.some.inj (show some (decide (x4 < x1)) = some b7 from hm7)
                          subst hq
                          exact ⟨rfl, rfl, rfl, rfl, rfl, rfl, rfl, rfl, H⟩
                      · skip
                        rintro f w ⟨hf2, hf3, hf4, hf7, hf53, hf54, hf55, hf92, H⟩
                        obtain ⟨u10, rfl⟩ : ∃ u10, f = (upd (upd (upd (upd (upd (upd (upd (upd u10 2 (.int .i64 a2)) 3 (.pointer (some ⟨b1, 0, none⟩))) 4 (.pointer (some ⟨b2, 0, none⟩))) 7 (.int .i64 (ik1 : Int))) 53 va1_1) 54 (.int .i64 ((a1.Rates.length : Nat) : Int))) 55 (.int .i64 (ik1 : Int))) 92 (.bool b7)) := ⟨f, by rw [upd_self hf2, upd_self hf3, upd_self hf4, upd_self hf7, upd_self hf53, upd_self hf54, upd_self hf55, upd_self hf92]⟩
                        refine O.move (v := (.bool b7)) rfl rfl rfl ?_
                        obtain ⟨b8, hm8, hm3⟩ := bind_some hm3
                        refine WL.cut 7 (fun f w => f 2 = (.int .i64 a2) ∧ f 3 = (.pointer (some ⟨b1, 0, none⟩)) ∧ f 4 = (.pointer (some ⟨b2, 0, none⟩)) ∧ f 7 = (.int .i64 (ik1 : Int)) ∧ f 53 = va1_1 ∧ f 54 = (.int .i64 ((a1.Rates.length : Nat) : Int)) ∧ f 55 = (.int .i64 (ik1 : Int)) ∧ f 100 = .bool b8 ∧ Inv w0 w [boxI b1 25 [va0_0, va0_1], boxI b2 37 [va1_0, va1_1]]) ?_ ?_
                        · skip
                          rcases ite_some hm8 with ⟨hc11, hm8⟩ | ⟨hc11, hm8⟩
                          · skip
                            refine WL.reset (i := 93) (v := .bool true) (congrArg Value.bool hc11) ?_
                            refine O.skip rfl rfl ?_
                            refine O.skip rfl rfl ?_
                            refine O.skip rfl rfl ?_
                            refine O.skip rfl rfl ?_
                            refine O.skip rfl rfl ?_
                            refine O.skip rfl rfl ?_
                            refine O.pick_true (v := (.bool true)) rfl rfl rfl rfl ?_
                            refine WL.nil ?_
                            have hq : true = b8 := Option.some.inj (show some true = some b8 from hm8)
                            subst hq
                            exact ⟨rfl, rfl, rfl, rfl, rfl, rfl, rfl, rfl, H⟩
                          · skip
                            refine WL.reset (i := 93) (v := .bool false) (congrArg Value.bool hc11) ?_
                            refine O.fieldAddr fd37_0 rfl rfl rfl ?_
                            refine O.load sc22 rfl rfl rfl (H.cell 1 rfl 0 _ rfl) ?_
                            refine O.move (v := (.int .i64 (ik1 : Int))) rfl rfl rfl ?_
                            obtain ⟨x5, hx5, hm8⟩ := bind_some hm8
                            obtain ⟨p5, hp5, hrp5⟩ := fix_indexAddr Try.underlying22 sz3 ha1_0 hx5
                            refine hrp5 rfl rfl rfl rfl ?_
                            refine O.load sc3 rfl rfl rfl ((hp5.mono H.base).flat 0 _ rfl) ?_
                            refine O.lss rfl rfl rfl rfl ?_
                            refine O.pick_false (v := (.bool (decide (x5 < (-86400000))))) rfl rfl rfl rfl ?_
                            refine WL.nil ?_
                            have hq : (decide (x5 < (-86400000))) = b8 := Option.some.inj (show some (decide (x5 < (-86400000))) = some b8 from hm8)
                            subst hq
                            exact ⟨rfl, rfl, rfl, rfl, rfl, rfl, rfl, rfl, H⟩
                        · skip
                          rintro f w ⟨hf2, hf3, hf4, hf7, hf53, hf54, hf55, hf100, H⟩
                          obtain ⟨u11, rfl⟩ : ∃ u11, f = (upd (upd (upd (upd (upd (upd (upd (upd u11 2 (.int .i64 a2)) 3 (.pointer (some ⟨b1, 0, none⟩))) 4 (.pointer (some ⟨b2, 0, none⟩))) 7 (.int .i64 (ik1 : Int))) 53 va1_1) 54 (.int .i64 ((a1.Rates.length : Nat) : Int))) 55 (.int .i64 (ik1 : Int))) 100 (.bool b8)) := ⟨f, by rw [upd_self hf2, upd_self hf3, upd_self hf4, upd_self hf7, upd_self hf53, upd_self hf54, upd_self hf55, upd_self hf100]⟩
                          refine O.move (v := (.bool b8)) rfl rfl rfl ?_
                          obtain ⟨b9, hm9, hm3⟩ := bind_some hm3
                          refine WL.cut 7 (fun f w => f 2 = (.int .i64 a2) ∧ f 3 = (.pointer (some ⟨b1, 0, none⟩)) ∧ f 4 = (.pointer (some ⟨b2, 0, none⟩)) ∧ f 53 = va1_1 ∧ f 54 = (.int .i64 ((a1.Rates.length : Nat) : Int)) ∧ f 55 = (.int .i64 (ik1 : Int)) ∧ f 108 = .bool b9 ∧ Inv w0 w [boxI b1 25 [va0_0, va0_1], boxI b2 37 [va1_0, va1_1]]) ?_ ?_
                          · skip
                            rcases ite_some hm9 with ⟨hc12, hm9⟩ | ⟨hc12, hm9⟩
                            · skip
                              refine WL.reset (i := 101) (v := .bool true) (congrArg Value.bool hc12) ?_
                              refine O.skip rfl rfl ?_
                              refine O.skip rfl rfl ?_
                              refine O.skip rfl rfl ?_
                              refine O.skip rfl rfl ?_
                              refine O.skip rfl rfl ?_
                              refine O.skip rfl rfl ?_
                              refine O.pick_true (v := (.bool true)) rfl rfl rfl rfl ?_
                              refine WL.nil ?_
                              have hq : true = b9 := Option.some.inj (show some true = some b9 from hm9)
                              subst hq
                              exact ⟨rfl, rfl, rfl, rfl, rfl, rfl, rfl, H⟩
                            · skip
                              refine WL.reset (i := 101) (v := .bool false) (congrArg Value.bool hc12) ?_
                              refine O.fieldAddr fd37_0 rfl rfl rfl ?_
                              refine O.load sc22 rfl rfl rfl (H.cell 1 rfl 0 _ rfl) ?_
                              refine O.move (v := (.int .i64 (ik1 : Int))) rfl rfl rfl ?_
                              obtain ⟨x6, hx6, hm9⟩ := bind_some hm9
                              obtain ⟨p6, hp6, hrp6⟩ := fix_indexAddr Try.underlying22 sz3 ha1_0 hx6
                              refine hrp6 rfl rfl rfl rfl ?_
                              refine O.load sc3 rfl rfl rfl ((hp6.mono H.base).flat 0 _ rfl) ?_
                              refine O.gtr rfl rfl rfl rfl ?_
                              refine O.pick_false (v := (.bool (decide (86400000 < x6)))) rfl rfl rfl rfl ?_
                              refine WL.nil ?_
                              have hq : (decide (86400000 < x6)) = b9 := Option.some.inj (show some (decide (86400000 < x6)) = some b9 from hm9)
                              subst hq
                              exact ⟨rfl, rfl, rfl, rfl, rfl, rfl, rfl, H⟩
                          · skip
                            rintro f w ⟨hf2, hf3, hf4, hf53, hf54, hf55, hf108, H⟩
                            obtain ⟨u12, rfl⟩ : ∃ u12, f = (upd (upd (upd (upd (upd (upd (upd u12 2 (.int .i64 a2)) 3 (.pointer (some ⟨b1, 0, none⟩))) 4 (.pointer (some ⟨b2, 0, none⟩))) 53 va1_1) 54 (.int .i64 ((a1.Rates.length : Nat) : Int))) 55 (.int .i64 (ik1 : Int))) 108 (.bool b9)) := ⟨f, by rw [upd_self hf2, upd_self hf3, upd_self hf4, upd_self hf53, upd_self hf54, upd_self hf55, upd_self hf108]⟩
                            refine WL.nil ?_
                            rcases ite_some hm3 with ⟨hc13, hm3⟩ | ⟨hc13, hm3⟩
                            · refine W.cond_true (congrArg Value.bool hc13) ?_
                              refine W.seq ?_
                              refine W.region ?_
                              obtain ⟨t5, hy4, hm3⟩ := bind_some hm3
                              refine O.call Try.call15 rfl rfl rfl (c_noongunlaw02_awake  hy4) ?_
                              rintro _ w6 hb6 rfl
                              have H := H.ext hb6
                              refine O.assign (v := (.bool t5)) rfl rfl rfl ?_
                              refine WL.nil ?_
                              refine W.ret ?_
                              obtain rfl := Option.some.inj hm3
                              refine ⟨_, rfl, ?_⟩
                              rintro rfl
                              have hq : t5 = r0 := Option.some.inj (show some t5 = some r0 from hm)
                              subst hq
                              exact ends1 Try.results4 rfl ⟨_, rfl, H.base, rfl⟩
                            · refine W.cond_false (congrArg Value.bool hc13) ?_
                              refine W.skip ?_
                              refine W.region ?_
                              refine O.add rfl rfl rfl rfl hinck1 ?_
                              refine O.move (v := .int .i64 ((ik1 : Int) + 1)) rfl rfl rfl ?_
                              refine WL.nil ?_
                              obtain rfl := Option.some.inj hm3
                              exact ⟨_, rfl, rfl, rangeN_next hdropk1, rfl, rfl, rfl, rfl, rfl, rfl, H⟩
                · skip
                  rintro ik1 _ f w ⟨rfl, hdropk1, hf55, hf54, hf2, hf3, hf4, hf53, H⟩ hfin
                  have hltk1 := rangeN_end hdropk1
                  obtain ⟨u13, rfl⟩ : ∃ u13, f = (upd (upd (upd (upd (upd (upd u13 55 (.int .i64 (ik1 : Int))) 54 (.int .i64 ((a1.Rates.length : Nat) : Int))) 2 (.int .i64 a2)) 3 (.pointer (some ⟨b1, 0, none⟩))) 4 (.pointer (some ⟨b2, 0, none⟩))) 53 va1_1) := ⟨f, by rw [upd_self hf55, upd_self hf54, upd_self hf2, upd_self hf3, upd_self hf4, upd_self hf53]⟩
                  refine W.seq ?_
                  refine W.region ?_
                  refine O.lss rfl rfl rfl rfl ?_
                  refine WL.nil ?_
                  refine W.seq ?_
                  refine W.cond_false (congrArg Value.bool (decide_eq_false hltk1)) ?_
                  refine W.exit ?_
                  obtain rfl : Ctl.next () = o1 := hfin
                  refine xT rfl ?_
                  exact ⟨rfl, rfl, rfl, rfl, H⟩
              · skip
                rintro f w ⟨rfl, hf2, hf3, hf4, H⟩
                obtain ⟨u14, rfl⟩ : ∃ u14, f = (upd (upd (upd u14 2 (.int .i64 a2)) 3 (.pointer (some ⟨b1, 0, none⟩))) 4 (.pointer (some ⟨b2, 0, none⟩))) := ⟨f, by rw [upd_self hf2, upd_self hf3, upd_self hf4]⟩
                refine W.seq ?_
                refine W.seq ?_
                refine W.region ?_
                refine O.fieldAddr fd25_1 rfl rfl rfl ?_
                refine O.load sc23 rfl rfl rfl (H.cell 0 rfl 1 _ rfl) ?_
                refine O.lenS Try.underlying23 (H.arg ha0_1) rfl rfl rfl ?_
                refine O.move (v := (.int .i64 0)) rfl rfl rfl ?_
                refine WL.nil ?_
                obtain ⟨o2, hm10, hm⟩ := bind_some hm
                refine W.via (fun f w => o2 = .next () ∧ f 2 = (.int .i64 a2) ∧ f 3 = (.pointer (some ⟨b1, 0, none⟩)) ∧ f 4 = (.pointer (some ⟨b2, 0, none⟩)) ∧ Inv w0 w [boxI b1 25 [va0_0, va0_1], boxI b2 37 [va1_0, va1_1]]) ?_ ?_
                · skip
                  refine W.block ?_
                  refine W.rangeL (i := 0) hm10 (fun rem ik2 s f w => () = s ∧ a0.Sights.drop ik2 = rem ∧ f 114 = .int .i64 (ik2 : Int) ∧ f 113 = (.int .i64 ((a0.Sights.length : Nat) : Int)) ∧ f 2 = (.int .i64 a2) ∧ f 3 = (.pointer (some ⟨b1, 0, none⟩)) ∧ f 4 = (.pointer (some ⟨b2, 0, none⟩)) ∧ f 112 = va0_1 ∧ Inv w0 w [boxI b1 25 [va0_0, va0_1], boxI b2 37 [va1_0, va1_1]]) ?_ ?_ ?_
                  · skip
                    exact ⟨rfl, List.drop_zero, rfl, rfl, rfl, rfl, rfl, rfl, H⟩
                  · skip
                    rintro yk2 xs ik2 _ st f w ⟨rfl, hdropk2, hf114, hf113, hf2, hf3, hf4, hf112, H⟩ hm11
                    have hltk2 := drop_lt hdropk2; have hixk2 := drop_idx hdropk2
                    obtain ⟨u15, rfl⟩ : ∃ u15, f = (upd (upd (upd (upd (upd (upd u15 114 (.int .i64 (ik2 : Int))) 113 (.int .i64 ((a0.Sights.length : Nat) : Int))) 2 (.int .i64 a2)) 3 (.pointer (some ⟨b1, 0, none⟩))) 4 (.pointer (some ⟨b2, 0, none⟩))) 112 va0_1) := ⟨f, by rw [upd_self hf114, upd_self hf113, upd_self hf2, upd_self hf3, upd_self hf4, upd_self hf112]⟩
                    have hinck2 := addI_lt hltk2 (H.arg ha0_1).len_le
                    refine W.seq ?_
                    refine W.region ?_
                    refine O.lss rfl rfl rfl rfl ?_
                    refine WL.nil ?_
                    refine W.seq ?_
                    refine W.cond_true (congrArg Value.bool (decide_eq_true hltk2)) ?_
                    refine W.skip ?_
                    refine W.seq ?_
                    refine W.block ?_
                    refine W.seq ?_
                    refine W.region ?_
                    obtain ⟨p7, hp7, hrp7⟩ := fix_indexAddr Try.underlying23 sz39 ha0_1 hixk2
                    refine hrp7 rfl rfl rfl rfl ?_
                    refine O.loadA [(.int .i64 yk2.At), (.int .i64 yk2.A), (.int .i64 yk2.B), (.int .i64 yk2.Lo), (.int .i64 yk2.Hi)] ag39 rfl rfl rfl rfl ((hp7.mono H.base).flat) ?_
                    refine O.alloc [(.int .i64 0), (.int .i64 0), (.int .i64 0), (.int .i64 0), (.int .i64 0)] ze39 H rfl rfl rfl ?_
                    intro b10 w7 H hb7
                    refine O.store 2 0 [(.int .i64 yk2.At), (.int .i64 yk2.A), (.int .i64 yk2.B), (.int .i64 yk2.Lo), (.int .i64 yk2.Hi)] [(.int .i64 yk2.At), (.int .i64 yk2.A), (.int .i64 yk2.B), (.int .i64 yk2.Lo), (.int .i64 yk2.Hi)] sz39 H rfl rfl rfl rfl rfl rfl ⟨⟨rfl, rfl⟩, rfl⟩ (one_cons rfl (one_cons rfl (one_cons rfl (one_cons rfl (one_cons rfl one_nil))))) ?_
                    intro w8 H
                    refine WL.nil ?_
                    refine W.seq ?_
                    obtain ⟨t6, hy5, hm11⟩ := bind_some hm11
                    refine W.drawN 11 (fun f => f 2 = (.int .i64 a2) ∧ f 3 = (.pointer (some ⟨b1, 0, none⟩)) ∧ f 4 = (.pointer (some ⟨b2, 0, none⟩)) ∧ f 10 = (.pointer (some ⟨b10, 0, none⟩)) ∧ f 112 = va0_1 ∧ f 113 = (.int .i64 ((a0.Sights.length : Nat) : Int)) ∧ f 114 = (.int .i64 (ik2 : Int)) ∧ f 123 = (.int .i64 t6) ∧ f 124 = (.agg #[va1_0, va1_1]) ∧ f 126 = (.int .i64 yk2.B) ∧ f 128 = (.int .i64 yk2.At)) fol (by kernel_rfl) ?_ ?_
                    · skip
                      refine PL.of (fun _ w8 _ hx => by have H := H.ext hx; exact O.loadA [va1_0, va1_1] ag37 rfl rfl rfl rfl (H.cell 1 rfl) (WL.nil ⟨rfl, hx⟩)) ?_
                      refine PL.of (fun _ w8 _ hx => O.fieldAddr fd39_1 rfl rfl rfl (WL.nil ⟨rfl, hx⟩)) ?_
                      refine PL.of (fun _ w8 _ hx => by have H := H.ext hx; exact O.load sc3 rfl rfl rfl (H.cell 2 rfl 1 _ rfl) (WL.nil ⟨rfl, hx⟩)) ?_
                      refine PL.of (fun _ w8 _ hx => O.fieldAddr fd39_0 rfl rfl rfl (WL.nil ⟨rfl, hx⟩)) ?_
                      refine PL.of (fun _ w8 _ hx => by have H := H.ext hx; exact O.load sc3 rfl rfl rfl (H.cell 2 rfl 0 _ rfl) (WL.nil ⟨rfl, hx⟩)) ?_
                      refine PL.of (fun _ w8 _ hx => by have H := H.ext hx; exact O.call Try.call19 rfl rfl rfl (c_noongunlaw02_is _ _ (GTrue.mk a1.Errors a1.Rates) (H.arg ha1_0) (H.arg ha1_1) _ _ hy5) (by rintro _ _ hb rfl; exact WL.nil ⟨rfl, hx.trans (hb.mono hx.size)⟩)) ?_
                      refine PL.of (fun _ w8 _ hx => by have H := H.ext hx; exact O.loadA [va1_0, va1_1] ag37 rfl rfl rfl rfl (H.cell 1 rfl) (WL.nil ⟨rfl, hx⟩)) ?_
                      refine PL.of (fun _ w8 _ hx => O.fieldAddr fd39_2 rfl rfl rfl (WL.nil ⟨rfl, hx⟩)) ?_
                      refine PL.of (fun _ w8 _ hx => by have H := H.ext hx; exact O.load sc3 rfl rfl rfl (H.cell 2 rfl 2 _ rfl) (WL.nil ⟨rfl, hx⟩)) ?_
                      refine PL.of (fun _ w8 _ hx => O.fieldAddr fd39_0 rfl rfl rfl (WL.nil ⟨rfl, hx⟩)) ?_
                      refine PL.of (fun _ w8 _ hx => by have H := H.ext hx; exact O.load sc3 rfl rfl rfl (H.cell 2 rfl 0 _ rfl) (WL.nil ⟨rfl, hx⟩)) ?_
                      refine PL.nil ?_
                      exact ⟨rfl, rfl, rfl, rfl, rfl, rfl, rfl, rfl, rfl, rfl, rfl⟩
                    · skip
                      rintro f w ⟨hf2, hf3, hf4, hf10, hf112, hf113, hf114, hf123, hf124, hf126, hf128⟩ hmd hx
                      have H := H.ext hx
                      obtain ⟨u16, rfl⟩ : ∃ u16, f = (upd (upd (upd (upd (upd (upd (upd (upd (upd (upd (upd u16 2 (.int .i64 a2)) 3 (.pointer (some ⟨b1, 0, none⟩))) 4 (.pointer (some ⟨b2, 0, none⟩))) 10 (.pointer (some ⟨b10, 0, none⟩))) 112 va0_1) 113 (.int .i64 ((a0.Sights.length : Nat) : Int))) 114 (.int .i64 (ik2 : Int))) 123 (.int .i64 t6)) 124 (.agg #[va1_0, va1_1])) 126 (.int .i64 yk2.B)) 128 (.int .i64 yk2.At)) := ⟨f, by rw [upd_self hf2, upd_self hf3, upd_self hf4, upd_self hf10, upd_self hf112, upd_self hf113, upd_self hf114, upd_self hf123, upd_self hf124, upd_self hf126, upd_self hf128]⟩
                      obtain ⟨t7, hy6, hm11⟩ := bind_some hm11
                      refine O.call Try.call19 rfl rfl rfl (c_noongunlaw02_is _ _ (GTrue.mk a1.Errors a1.Rates) (H.arg ha1_0) (H.arg ha1_1) _ _ hy6) ?_
                      rintro _ w9 hb8 rfl
                      have H := H.ext hb8
                      obtain ⟨t8, ht8, hm11⟩ := bind_some hm11
                      refine O.sub rfl rfl rfl rfl ht8 ?_
                      refine O.assign (v := (.int .i64 t8)) rfl rfl rfl ?_
                      refine WL.nil ?_
                      refine W.seq ?_
                      refine W.region ?_
                      refine O.move (v := (.int .i64 t8)) rfl rfl rfl ?_
                      refine O.fieldAddr fd39_3 rfl rfl rfl ?_
                      refine O.load sc3 rfl rfl rfl (H.cell 2 rfl 3 _ rfl) ?_
                      refine O.lss rfl rfl rfl rfl ?_
                      refine O.move (v := (.bool (decide (t8 < yk2.Lo)))) rfl rfl rfl ?_
                      refine WL.cut 5 (fun f w => f 2 = (.int .i64 a2) ∧ f 3 = (.pointer (some ⟨b1, 0, none⟩)) ∧ f 4 = (.pointer (some ⟨b2, 0, none⟩)) ∧ f 112 = va0_1 ∧ f 113 = (.int .i64 ((a0.Sights.length : Nat) : Int)) ∧ f 114 = (.int .i64 (ik2 : Int)) ∧ f 140 = .bool ((decide (t8 < yk2.Lo)) || (decide (yk2.Hi < t8))) ∧ Inv w0 w [boxI b1 25 [va0_0, va0_1], boxI b2 37 [va1_0, va1_1], boxI b10 39 [(.int .i64 yk2.At), (.int .i64 yk2.A), (.int .i64 yk2.B), (.int .i64 yk2.Lo), (.int .i64 yk2.Hi)]]) ?_ ?_
                      · skip
                        rcases bool_ft (decide (t8 < yk2.Lo)) with hc14 | hc14
                        · skip
                          refine WL.reset (i := 135) (v := .bool false) (congrArg Value.bool hc14) ?_
                          refine O.move (v := (.int .i64 t8)) rfl rfl rfl ?_
                          refine O.fieldAddr fd39_4 rfl rfl rfl ?_
                          refine O.load sc3 rfl rfl rfl (H.cell 2 rfl 4 _ rfl) ?_
                          refine O.gtr rfl rfl rfl rfl ?_
                          refine O.pick_false (v := (.bool (decide (yk2.Hi < t8)))) rfl rfl rfl rfl ?_
                          refine WL.nil ?_
                          exact ⟨rfl, rfl, rfl, rfl, rfl, rfl, congrArg Value.bool (or_f hc14), H⟩
                        · skip
                          refine WL.reset (i := 135) (v := .bool true) (congrArg Value.bool hc14) ?_
                          refine O.skip rfl rfl ?_
                          refine O.skip rfl rfl ?_
                          refine O.skip rfl rfl ?_
                          refine O.skip rfl rfl ?_
                          refine O.pick_true (v := (.bool true)) rfl rfl rfl rfl ?_
                          refine WL.nil ?_
                          exact ⟨rfl, rfl, rfl, rfl, rfl, rfl, congrArg Value.bool (or_t hc14), H⟩
                      · skip
                        rintro f w ⟨hf2, hf3, hf4, hf112, hf113, hf114, hf140, H⟩
                        obtain ⟨u17, rfl⟩ : ∃ u17, f = (upd (upd (upd (upd (upd (upd (upd u17 2 (.int .i64 a2)) 3 (.pointer (some ⟨b1, 0, none⟩))) 4 (.pointer (some ⟨b2, 0, none⟩))) 112 va0_1) 113 (.int .i64 ((a0.Sights.length : Nat) : Int))) 114 (.int .i64 (ik2 : Int))) 140 (.bool ((decide (t8 < yk2.Lo)) || (decide (yk2.Hi < t8))))) := ⟨f, by rw [upd_self hf2, upd_self hf3, upd_self hf4, upd_self hf112, upd_self hf113, upd_self hf114, upd_self hf140]⟩
                        refine WL.nil ?_
                        rcases ite_some hm11 with ⟨hc15, hm11⟩ | ⟨hc15, hm11⟩
                        · refine W.cond_true (congrArg Value.bool hc15) ?_
                          refine W.seq ?_
                          refine W.region ?_
                          obtain ⟨t9, hy7, hm11⟩ := bind_some hm11
                          refine O.call Try.call15 rfl rfl rfl (c_noongunlaw02_awake  hy7) ?_
                          rintro _ w10 hb9 rfl
                          have H := H.ext hb9
                          refine O.assign (v := (.bool t9)) rfl rfl rfl ?_
                          refine WL.nil ?_
                          refine W.ret ?_
                          obtain rfl := Option.some.inj hm11
                          refine ⟨_, rfl, ?_⟩
                          rintro rfl
                          have hq : t9 = r0 := Option.some.inj (show some t9 = some r0 from hm)
                          subst hq
                          exact ends1 Try.results4 rfl ⟨_, rfl, H.base, rfl⟩
                        · refine W.cond_false (congrArg Value.bool hc15) ?_
                          refine W.skip ?_
                          refine W.region ?_
                          refine O.add rfl rfl rfl rfl hinck2 ?_
                          refine O.move (v := .int .i64 ((ik2 : Int) + 1)) rfl rfl rfl ?_
                          refine WL.nil ?_
                          have H := H.keep [0, 1] [boxI b1 25 [va0_0, va0_1], boxI b2 37 [va1_0, va1_1]] rfl (by decide)
                          obtain rfl := Option.some.inj hm11
                          exact ⟨_, rfl, rfl, drop_next hdropk2, rfl, rfl, rfl, rfl, rfl, rfl, H⟩
                  · skip
                    rintro ik2 _ f w ⟨rfl, hdropk2, hf114, hf113, hf2, hf3, hf4, hf112, H⟩ hfin
                    have hltk2 := drop_end hdropk2
                    obtain ⟨u18, rfl⟩ : ∃ u18, f = (upd (upd (upd (upd (upd (upd u18 114 (.int .i64 (ik2 : Int))) 113 (.int .i64 ((a0.Sights.length : Nat) : Int))) 2 (.int .i64 a2)) 3 (.pointer (some ⟨b1, 0, none⟩))) 4 (.pointer (some ⟨b2, 0, none⟩))) 112 va0_1) := ⟨f, by rw [upd_self hf114, upd_self hf113, upd_self hf2, upd_self hf3, upd_self hf4, upd_self hf112]⟩
                    refine W.seq ?_
                    refine W.region ?_
                    refine O.lss rfl rfl rfl rfl ?_
                    refine WL.nil ?_
                    refine W.seq ?_
                    refine W.cond_false (congrArg Value.bool (decide_eq_false hltk2)) ?_
                    refine W.exit ?_
                    obtain rfl : Ctl.next () = o2 := hfin
                    refine xT rfl ?_
                    exact ⟨rfl, rfl, rfl, rfl, H⟩
                · skip
                  rintro f w ⟨rfl, hf2, hf3, hf4, H⟩
                  obtain ⟨u19, rfl⟩ : ∃ u19, f = (upd (upd (upd u19 2 (.int .i64 a2)) 3 (.pointer (some ⟨b1, 0, none⟩))) 4 (.pointer (some ⟨b2, 0, none⟩))) := ⟨f, by rw [upd_self hf2, upd_self hf3, upd_self hf4]⟩
                  refine W.seq ?_
                  refine W.region ?_
                  refine O.loadA [va0_0, va0_1] ag25 rfl rfl rfl rfl (H.cell 0 rfl) ?_
                  obtain ⟨⟨t10, t11⟩, hy8, hm⟩ := bind_some hm
                  refine O.call Try.call20 rfl rfl rfl (c_sight_Consistent _ _ (GNet.mk a0.Rates a0.Sights) (H.arg ha0_0) (H.arg ha0_1) hy8) ?_
                  rintro _ w11 hb10 rfl
                  have H := H.ext hb10
                  refine O.move (v := (.tuple #[(.bool t10), (.int .i64 t11)])) rfl rfl rfl ?_
                  refine O.extract (v := (.bool t10)) rfl rfl rfl rfl ?_
                  refine O.extract (v := (.int .i64 t11)) rfl rfl rfl rfl ?_
                  refine O.assign (v := (.bool t10)) rfl rfl rfl ?_
                  refine O.assign (v := (.int .i64 t11)) rfl rfl rfl ?_
                  refine WL.nil ?_
                  refine W.seq ?_
                  refine W.seq ?_
                  refine W.region ?_
                  refine O.move (v := (.int .i64 t11)) rfl rfl rfl ?_
                  refine O.neq rfl rfl rfl rfl ?_
                  refine O.move (v := (.bool (t11 != 0))) rfl rfl rfl ?_
                  refine WL.cut 3 (fun f w => f 2 = (.int .i64 a2) ∧ f 3 = (.pointer (some ⟨b1, 0, none⟩)) ∧ f 4 = (.pointer (some ⟨b2, 0, none⟩)) ∧ f 153 = .bool ((t11 != 0) || (!t10)) ∧ Inv w0 w [boxI b1 25 [va0_0, va0_1], boxI b2 37 [va1_0, va1_1]]) ?_ ?_
                  · skip
                    rcases bool_ft (t11 != 0) with hc16 | hc16
                    · skip
                      refine WL.reset (i := 150) (v := .bool false) (congrArg Value.bool hc16) ?_
                      refine O.move (v := (.bool t10)) rfl rfl rfl ?_
                      refine O.not rfl rfl rfl ?_
                      refine O.pick_false (v := (.bool (!t10))) rfl rfl rfl rfl ?_
                      refine WL.nil ?_
                      exact ⟨rfl, rfl, rfl, congrArg Value.bool (or_f hc16), H⟩
                    · skip
                      refine WL.reset (i := 150) (v := .bool true) (congrArg Value.bool hc16) ?_
                      refine O.skip rfl rfl ?_
                      refine O.skip rfl rfl ?_
                      refine O.pick_true (v := (.bool true)) rfl rfl rfl rfl ?_
                      refine WL.nil ?_
                      exact ⟨rfl, rfl, rfl, congrArg Value.bool (or_t hc16), H⟩
                  · skip
                    rintro f w ⟨hf2, hf3, hf4, hf153, H⟩
                    obtain ⟨u20, rfl⟩ : ∃ u20, f = (upd (upd (upd (upd u20 2 (.int .i64 a2)) 3 (.pointer (some ⟨b1, 0, none⟩))) 4 (.pointer (some ⟨b2, 0, none⟩))) 153 (.bool ((t11 != 0) || (!t10)))) := ⟨f, by rw [upd_self hf2, upd_self hf3, upd_self hf4, upd_self hf153]⟩
                    refine WL.nil ?_
                    rcases ite_some hm with ⟨hc17, hm⟩ | ⟨hc17, hm⟩
                    · refine W.cond_true (congrArg Value.bool hc17) ?_
                      refine W.seq ?_
                      refine W.region ?_
                      refine O.assign (v := (.bool false)) rfl rfl rfl ?_
                      refine WL.nil ?_
                      refine W.ret ?_
                      have hq : false = r0 := Option.some.inj (show some false = some r0 from hm)
                      subst hq
                      exact ends1 Try.results4 rfl ⟨_, rfl, H.base, rfl⟩
                    · refine W.cond_false (congrArg Value.bool hc17) ?_
                      refine W.skip ?_
                      refine W.seq ?_
                      refine W.seq ?_
                      refine W.region ?_
                      refine O.fieldAddr fd25_0 rfl rfl rfl ?_
                      refine O.load sc22 rfl rfl rfl (H.cell 0 rfl 0 _ rfl) ?_
                      refine O.lenS Try.underlying22 (H.arg ha0_0) rfl rfl rfl ?_
                      refine O.move (v := (.int .i64 0)) rfl rfl rfl ?_
                      refine WL.nil ?_
                      obtain ⟨o3, hm12, hm⟩ := bind_some hm
                      refine W.via (fun f w => o3 = .next () ∧ Inv w0 w []) ?_ ?_
                      · skip
                        refine W.block ?_
                        have hbdik3 := (H.arg ha0_0).len_le
                        refine W.rangeN (i := 0) hm12 (fun rem ik3 s f w => () = s ∧ (ik3 : Int) + rem = max 0 ((a0.Rates.length : Nat) : Int) ∧ f 157 = .int .i64 (ik3 : Int) ∧ f 156 = (.int .i64 ((a0.Rates.length : Nat) : Int)) ∧ f 2 = (.int .i64 a2) ∧ f 3 = (.pointer (some ⟨b1, 0, none⟩)) ∧ f 4 = (.pointer (some ⟨b2, 0, none⟩)) ∧ Inv w0 w [boxI b1 25 [va0_0, va0_1], boxI b2 37 [va1_0, va1_1]]) ?_ ?_ ?_
                        · skip
                          exact ⟨rfl, rangeN_start, rfl, rfl, rfl, rfl, rfl, H⟩
                        · skip
                          rintro k ik3 _ st f w ⟨rfl, hdropk3, hf157, hf156, hf2, hf3, hf4, H⟩ hm13
                          have hltk3 := rangeN_lt hdropk3
                          obtain ⟨u21, rfl⟩ : ∃ u21, f = (upd (upd (upd (upd (upd u21 157 (.int .i64 (ik3 : Int))) 156 (.int .i64 ((a0.Rates.length : Nat) : Int))) 2 (.int .i64 a2)) 3 (.pointer (some ⟨b1, 0, none⟩))) 4 (.pointer (some ⟨b2, 0, none⟩))) := ⟨f, by rw [upd_self hf157, upd_self hf156, upd_self hf2, upd_self hf3, upd_self hf4]⟩
                          have hinck3 := addI_lt hltk3 hbdik3
                          refine W.seq ?_
                          refine W.region ?_
                          refine O.lss rfl rfl rfl rfl ?_
                          refine WL.nil ?_
                          refine W.seq ?_
                          refine W.cond_true (congrArg Value.bool (decide_eq_true hltk3)) ?_
                          refine W.skip ?_
                          refine W.seq ?_
                          refine W.block ?_
                          refine W.seq ?_
                          refine W.region ?_
                          refine O.move (v := (.int .i64 (ik3 : Int))) rfl rfl rfl ?_
                          refine O.assign (v := (.int .i64 (ik3 : Int))) rfl rfl rfl ?_
                          refine WL.nil ?_
                          refine W.seq ?_
                          refine W.region ?_
                          refine O.loadA [va0_0, va0_1] ag25 rfl rfl rfl rfl (H.cell 0 rfl) ?_
                          refine O.move (v := (.int .i64 (ik3 : Int))) rfl rfl rfl ?_
                          refine O.move (v := (.int .i64 a2)) rfl rfl rfl ?_
                          obtain ⟨⟨t12, t13⟩, hy9, hm13⟩ := bind_some hm13
                          refine O.call Try.call21 rfl rfl rfl (c_sight_Error _ _ (GNet.mk a0.Rates a0.Sights) (H.arg ha0_0) (H.arg ha0_1) _ _ hy9) ?_
                          rintro _ w12 hb11 rfl
                          have H := H.ext hb11
                          refine O.move (v := (.tuple #[(.agg (Flat.cells t12).toArray), (.int .i64 t13)])) rfl rfl rfl ?_
                          refine O.extract (v := (.agg (Flat.cells t12).toArray)) rfl rfl rfl rfl ?_
                          refine O.extract (v := (.int .i64 t13)) rfl rfl rfl rfl ?_
                          refine O.alloc [(.int .i64 0), (.int .i64 0)] ze30 H rfl rfl rfl ?_
                          intro b11 w13 H hb12
                          refine O.store 2 0 [(.int .i64 t12.Lo), (.int .i64 t12.Hi)] [(.int .i64 t12.Lo), (.int .i64 t12.Hi)] sz30 H rfl rfl rfl rfl rfl rfl ⟨⟨rfl, rfl⟩, rfl⟩ (one_cons rfl (one_cons rfl one_nil)) ?_
                          intro w14 H
                          refine O.assign (v := (.int .i64 t13)) rfl rfl rfl ?_
                          refine WL.nil ?_
                          refine W.seq ?_
                          obtain ⟨b12, hm14, hm13⟩ := bind_some hm13
                          refine W.drawN 28 (fun f => f 2 = (.int .i64 a2) ∧ f 3 = (.pointer (some ⟨b1, 0, none⟩)) ∧ f 4 = (.pointer (some ⟨b2, 0, none⟩)) ∧ f 156 = (.int .i64 ((a0.Rates.length : Nat) : Int)) ∧ f 157 = (.int .i64 (ik3 : Int)) ∧ f 194 = (.bool b12)) fol (by kernel_rfl) ?_ ?_
                          · skip
                            refine PL.of (fun _ w8 _ hx => O.move (v := (.int .i64 t13)) rfl rfl rfl (WL.nil ⟨rfl, hx⟩)) ?_
                            refine PL.of (fun _ w8 _ hx => O.neq rfl rfl rfl rfl (WL.nil ⟨rfl, hx⟩)) ?_
                            refine PL.of (fun _ w8 _ hx => O.move (v := (.bool (t13 != 0))) rfl rfl rfl (WL.nil ⟨rfl, hx⟩)) ?_
                            refine PL.cut 3 (fun f => f 2 = (.int .i64 a2) ∧ f 3 = (.pointer (some ⟨b1, 0, none⟩)) ∧ f 4 = (.pointer (some ⟨b2, 0, none⟩)) ∧ f 14 = (.int .i64 (ik3 : Int)) ∧ f 15 = (.pointer (some ⟨b11, 0, none⟩)) ∧ f 16 = (.int .i64 t13) ∧ f 156 = (.int .i64 ((a0.Rates.length : Nat) : Int)) ∧ f 157 = (.int .i64 (ik3 : Int)) ∧ f 172 = .bool ((t13 != 0) && (t13 != 8))) ?_ ?_
                            · skip
                              rcases bool_ft (t13 != 0) with hc18 | hc18
                              · skip
                                refine PL.reset (i := 169) (v := .bool false) (congrArg Value.bool hc18) ?_
                                refine PL.of (fun _ w8 _ hx => O.skip rfl rfl (WL.nil ⟨rfl, hx⟩)) ?_
                                refine PL.of (fun _ w8 _ hx => O.skip rfl rfl (WL.nil ⟨rfl, hx⟩)) ?_
                                refine PL.of (fun _ w8 _ hx => O.pick_false (v := (.bool false)) rfl rfl rfl rfl (WL.nil ⟨rfl, hx⟩)) ?_
                                refine PL.nil ?_
                                exact ⟨rfl, rfl, rfl, rfl, rfl, rfl, rfl, rfl, congrArg Value.bool (and_f hc18)⟩
                              · skip
                                refine PL.reset (i := 169) (v := .bool true) (congrArg Value.bool hc18) ?_
                                refine PL.of (fun _ w8 _ hx => O.move (v := (.int .i64 t13)) rfl rfl rfl (WL.nil ⟨rfl, hx⟩)) ?_
                                refine PL.of (fun _ w8 _ hx => O.neq rfl rfl rfl rfl (WL.nil ⟨rfl, hx⟩)) ?_
                                refine PL.of (fun _ w8 _ hx => O.pick_true (v := (.bool (t13 != 8))) rfl rfl rfl rfl (WL.nil ⟨rfl, hx⟩)) ?_
                                refine PL.nil ?_
                                exact ⟨rfl, rfl, rfl, rfl, rfl, rfl, rfl, rfl, congrArg Value.bool (and_t hc18)⟩
                            · skip
                              rintro f ⟨hf2, hf3, hf4, hf14, hf15, hf16, hf156, hf157, hf172⟩
                              obtain ⟨u22, rfl⟩ : ∃ u22, f = (upd (upd (upd (upd (upd (upd (upd (upd (upd u22 2 (.int .i64 a2)) 3 (.pointer (some ⟨b1, 0, none⟩))) 4 (.pointer (some ⟨b2, 0, none⟩))) 14 (.int .i64 (ik3 : Int))) 15 (.pointer (some ⟨b11, 0, none⟩))) 16 (.int .i64 t13)) 156 (.int .i64 ((a0.Rates.length : Nat) : Int))) 157 (.int .i64 (ik3 : Int))) 172 (.bool ((t13 != 0) && (t13 != 8)))) := ⟨f, by rw [upd_self hf2, upd_self hf3, upd_self hf4, upd_self hf14, upd_self hf15, upd_self hf16, upd_self hf156, upd_self hf157, upd_self hf172]⟩
                              refine PL.of (fun _ w8 _ hx => O.move (v := (.bool ((t13 != 0) && (t13 != 8)))) rfl rfl rfl (WL.nil ⟨rfl, hx⟩)) ?_
                              refine PL.cut 21 (fun f => f 2 = (.int .i64 a2) ∧ f 3 = (.pointer (some ⟨b1, 0, none⟩)) ∧ f 4 = (.pointer (some ⟨b2, 0, none⟩)) ∧ f 156 = (.int .i64 ((a0.Rates.length : Nat) : Int)) ∧ f 157 = (.int .i64 (ik3 : Int)) ∧ f 194 = .bool b12) ?_ ?_
                              · skip
                                rcases ite_some hm14 with ⟨hc19, hm14⟩ | ⟨hc19, hm14⟩
                                · skip
                                  refine PL.reset (i := 173) (v := .bool true) (congrArg Value.bool hc19) ?_
                                  refine PL.of (fun _ w8 _ hx => O.skip rfl rfl (WL.nil ⟨rfl, hx⟩)) ?_
                                  refine PL.of (fun _ w8 _ hx => O.skip rfl rfl (WL.nil ⟨rfl, hx⟩)) ?_
                                  refine PL.of (fun _ w8 _ hx => O.skip rfl rfl (WL.nil ⟨rfl, hx⟩)) ?_
                                  refine PL.of (fun _ w8 _ hx => O.skip rfl rfl (WL.nil ⟨rfl, hx⟩)) ?_
                                  refine PL.of (fun _ w8 _ hx => O.skip rfl rfl (WL.nil ⟨rfl, hx⟩)) ?_
                                  refine PL.of (fun _ w8 _ hx => O.skip rfl rfl (WL.nil ⟨rfl, hx⟩)) ?_
                                  refine PL.of (fun _ w8 _ hx => O.skip rfl rfl (WL.nil ⟨rfl, hx⟩)) ?_
                                  refine PL.of (fun _ w8 _ hx => O.skip rfl rfl (WL.nil ⟨rfl, hx⟩)) ?_
                                  refine PL.of (fun _ w8 _ hx => O.skip rfl rfl (WL.nil ⟨rfl, hx⟩)) ?_
                                  refine PL.of (fun _ w8 _ hx => O.skip rfl rfl (WL.nil ⟨rfl, hx⟩)) ?_
                                  refine PL.of (fun _ w8 _ hx => O.skip rfl rfl (WL.nil ⟨rfl, hx⟩)) ?_
                                  refine PL.of (fun _ w8 _ hx => O.skip rfl rfl (WL.nil ⟨rfl, hx⟩)) ?_
                                  refine PL.of (fun _ w8 _ hx => O.skip rfl rfl (WL.nil ⟨rfl, hx⟩)) ?_
                                  refine PL.of (fun _ w8 _ hx => O.skip rfl rfl (WL.nil ⟨rfl, hx⟩)) ?_
                                  refine PL.of (fun _ w8 _ hx => O.skip rfl rfl (WL.nil ⟨rfl, hx⟩)) ?_
                                  refine PL.of (fun _ w8 _ hx => O.skip rfl rfl (WL.nil ⟨rfl, hx⟩)) ?_
                                  refine PL.of (fun _ w8 _ hx => O.skip rfl rfl (WL.nil ⟨rfl, hx⟩)) ?_
                                  refine PL.of (fun _ w8 _ hx => O.skip rfl rfl (WL.nil ⟨rfl, hx⟩)) ?_
                                  refine PL.of (fun _ w8 _ hx => O.skip rfl rfl (WL.nil ⟨rfl, hx⟩)) ?_
                                  refine PL.of (fun _ w8 _ hx => O.skip rfl rfl (WL.nil ⟨rfl, hx⟩)) ?_
                                  refine PL.of (fun _ w8 _ hx => O.pick_true (v := (.bool true)) rfl rfl rfl rfl (WL.nil ⟨rfl, hx⟩)) ?_
                                  refine PL.nil ?_
                                  have hq : true = b12 := Option.some.inj (show some true = some b12 from hm14)
                                  subst hq
                                  exact ⟨rfl, rfl, rfl, rfl, rfl, rfl⟩
                                · skip
                                  refine PL.reset (i := 173) (v := .bool false) (congrArg Value.bool hc19) ?_
                                  refine PL.of (fun _ w8 _ hx => O.move (v := (.int .i64 t13)) rfl rfl rfl (WL.nil ⟨rfl, hx⟩)) ?_
                                  refine PL.of (fun _ w8 _ hx => O.eql rfl rfl rfl rfl (WL.nil ⟨rfl, hx⟩)) ?_
                                  refine PL.of (fun _ w8 _ hx => O.move (v := (.bool (t13 == 0))) rfl rfl rfl (WL.nil ⟨rfl, hx⟩)) ?_
                                  obtain ⟨b13, hm15, hm14⟩ := bind_some hm14
                                  refine PL.cut 17 (fun f => f 2 = (.int .i64 a2) ∧ f 3 = (.pointer (some ⟨b1, 0, none⟩)) ∧ f 4 = (.pointer (some ⟨b2, 0, none⟩)) ∧ f 156 = (.int .i64 ((a0.Rates.length : Nat) : Int)) ∧ f 157 = (.int .i64 (ik3 : Int)) ∧ f 173 = (.bool false) ∧ f 174 = (.int .i64 t13) ∧ f 175 = (.bool (t13 == 0)) ∧ f 176 = (.bool (t13 == 0)) ∧ f 193 = .bool b13) ?_ ?_
                                  · skip
                                    rcases ite_some hm15 with ⟨hc20, hm15⟩ | ⟨hc20, hm15⟩
                                    · skip
                                      refine PL.reset (i := 176) (v := .bool true) (congrArg Value.bool hc20) ?_
                                      refine PL.of (fun _ w8 _ hx => by have H := H.ext hx; exact O.loadA [va1_0, va1_1] ag37 rfl rfl rfl rfl (H.cell 1 rfl) (WL.nil ⟨rfl, hx⟩)) ?_
                                      refine PL.of (fun _ w8 _ hx => O.move (v := (.int .i64 (ik3 : Int))) rfl rfl rfl (WL.nil ⟨rfl, hx⟩)) ?_
                                      refine PL.of (fun _ w8 _ hx => O.move (v := (.int .i64 a2)) rfl rfl rfl (WL.nil ⟨rfl, hx⟩)) ?_
                                      obtain ⟨t14, hy10, hm15⟩ := bind_some hm15
                                      refine PL.of (fun _ w8 _ hx => by have H := H.ext hx; exact O.call Try.call19 rfl rfl rfl (c_noongunlaw02_is _ _ (GTrue.mk a1.Errors a1.Rates) (H.arg ha1_0) (H.arg ha1_1) _ _ hy10) (by rintro _ _ hb rfl; exact WL.nil ⟨rfl, hx.trans (hb.mono hx.size)⟩)) ?_
                                      refine PL.of (fun _ w8 _ hx => O.fieldAddr fd30_0 rfl rfl rfl (WL.nil ⟨rfl, hx⟩)) ?_
                                      refine PL.of (fun _ w8 _ hx => by have H := H.ext hx; exact O.load sc3 rfl rfl rfl (H.cell 2 rfl 0 _ rfl) (WL.nil ⟨rfl, hx⟩)) ?_
                                      refine PL.of (fun _ w8 _ hx => O.lss rfl rfl rfl rfl (WL.nil ⟨rfl, hx⟩)) ?_
                                      refine PL.of (fun _ w8 _ hx => O.move (v := (.bool (decide (t14 < t12.Lo)))) rfl rfl rfl (WL.nil ⟨rfl, hx⟩)) ?_
                                      obtain ⟨b14, hm16, hm15⟩ := bind_some hm15
                                      refine PL.cut 8 (fun f => f 2 = (.int .i64 a2) ∧ f 3 = (.pointer (some ⟨b1, 0, none⟩)) ∧ f 4 = (.pointer (some ⟨b2, 0, none⟩)) ∧ f 156 = (.int .i64 ((a0.Rates.length : Nat) : Int)) ∧ f 157 = (.int .i64 (ik3 : Int)) ∧ f 173 = (.bool false) ∧ f 174 = (.int .i64 t13) ∧ f 175 = (.bool (t13 == 0)) ∧ f 176 = (.bool true) ∧ f 177 = (.agg #[va1_0, va1_1]) ∧ f 178 = (.int .i64 (ik3 : Int)) ∧ f 179 = (.int .i64 a2) ∧ f 180 = (.int .i64 t14) ∧ f 181 = (.pointer (some (Addr.add (Addr.mk b11 0 none) 0))) ∧ f 182 = (.int .i64 t12.Lo) ∧ f 183 = (.bool (decide (t14 < t12.Lo))) ∧ f 184 = (.bool (decide (t14 < t12.Lo))) ∧ f 192 = .bool b14) ?_ ?_
                                      · skip
                                        rcases ite_some hm16 with ⟨hc21, hm16⟩ | ⟨hc21, hm16⟩
                                        · skip
                                          refine PL.reset (i := 184) (v := .bool true) (congrArg Value.bool hc21) ?_
                                          refine PL.of (fun _ w8 _ hx => O.skip rfl rfl (WL.nil ⟨rfl, hx⟩)) ?_
                                          refine PL.of (fun _ w8 _ hx => O.skip rfl rfl (WL.nil ⟨rfl, hx⟩)) ?_
                                          refine PL.of (fun _ w8 _ hx => O.skip rfl rfl (WL.nil ⟨rfl, hx⟩)) ?_
                                          refine PL.of (fun _ w8 _ hx => O.skip rfl rfl (WL.nil ⟨rfl, hx⟩)) ?_
                                          refine PL.of (fun _ w8 _ hx => O.skip rfl rfl (WL.nil ⟨rfl, hx⟩)) ?_
                                          refine PL.of (fun _ w8 _ hx => O.skip rfl rfl (WL.nil ⟨rfl, hx⟩)) ?_
                                          refine PL.of (fun _ w8 _ hx => O.skip rfl rfl (WL.nil ⟨rfl, hx⟩)) ?_
                                          refine PL.of (fun _ w8 _ hx => O.pick_true (v := (.bool true)) rfl rfl rfl rfl (WL.nil ⟨rfl, hx⟩)) ?_
                                          refine PL.nil ?_
                                          have hq : true = b14 := Option.some.inj (show some true = some b14 from hm16)
                                          subst hq
                                          exact ⟨rfl, rfl, rfl, rfl, rfl, rfl, rfl, rfl, rfl, rfl, rfl, rfl, rfl, rfl, rfl, rfl, (congrArg Value.bool hc21).symm, rfl⟩
                                        · skip
                                          refine PL.reset (i := 184) (v := .bool false) (congrArg Value.bool hc21) ?_
                                          refine PL.of (fun _ w8 _ hx => by have H := H.ext hx; exact O.loadA [va1_0, va1_1] ag37 rfl rfl rfl rfl (H.cell 1 rfl) (WL.nil ⟨rfl, hx⟩)) ?_
                                          refine PL.of (fun _ w8 _ hx => O.move (v := (.int .i64 (ik3 : Int))) rfl rfl rfl (WL.nil ⟨rfl, hx⟩)) ?_
                                          refine PL.of (fun _ w8 _ hx => O.move (v := (.int .i64 a2)) rfl rfl rfl (WL.nil ⟨rfl, hx⟩)) ?_
                                          obtain ⟨t15, hy11, hm16⟩ := bind_some hm16
                                          refine PL.of (fun _ w8 _ hx => by have H := H.ext hx; exact O.call Try.call19 rfl rfl rfl (c_noongunlaw02_is _ _ (GTrue.mk a1.Errors a1.Rates) (H.arg ha1_0) (H.arg ha1_1) _ _ hy11) (by rintro _ _ hb rfl; exact WL.nil ⟨rfl, hx.trans (hb.mono hx.size)⟩)) ?_
                                          refine PL.of (fun _ w8 _ hx => O.fieldAddr fd30_1 rfl rfl rfl (WL.nil ⟨rfl, hx⟩)) ?_
                                          refine PL.of (fun _ w8 _ hx => by have H := H.ext hx; exact O.load sc3 rfl rfl rfl (H.cell 2 rfl 1 _ rfl) (WL.nil ⟨rfl, hx⟩)) ?_
                                          refine PL.of (fun _ w8 _ hx => O.gtr rfl rfl rfl rfl (WL.nil ⟨rfl, hx⟩)) ?_
                                          refine PL.of (fun _ w8 _ hx => O.pick_false (v := (.bool (decide (t12.Hi < t15)))) rfl rfl rfl rfl (WL.nil ⟨rfl, hx⟩)) ?_
                                          refine PL.nil ?_
                                          have hq : (decide (t12.Hi < t15)) = b14 := Option.some.inj (show some (decide (t12.Hi < t15)) = some b14 from hm16)
                                          subst hq
                                          exact ⟨rfl, rfl, rfl, rfl, rfl, rfl, rfl, rfl, rfl, rfl, rfl, rfl, rfl, rfl, rfl, rfl, (congrArg Value.bool hc21).symm, rfl⟩
                                      · skip
                                        rintro f ⟨hf2, hf3, hf4, hf156, hf157, hf173, hf174, hf175, hf176, hf177, hf178, hf179, hf180, hf181, hf182, hf183, hf184, hf192⟩
                                        obtain ⟨u23, rfl⟩ : ∃ u23, f = (upd (upd (upd (upd (upd (upd (upd (upd (upd (upd (upd (upd (upd (upd (upd (upd (upd (upd u23 2 (.int .i64 a2)) 3 (.pointer (some ⟨b1, 0, none⟩))) 4 (.pointer (some ⟨b2, 0, none⟩))) 156 (.int .i64 ((a0.Rates.length : Nat) : Int))) 157 (.int .i64 (ik3 : Int))) 173 (.bool false)) 174 (.int .i64 t13)) 175 (.bool (t13 == 0))) 176 (.bool true)) 177 (.agg #[va1_0, va1_1])) 178 (.int .i64 (ik3 : Int))) 179 (.int .i64 a2)) 180 (.int .i64 t14)) 181 (.pointer (some (Addr.add (Addr.mk b11 0 none) 0)))) 182 (.int .i64 t12.Lo)) 183 (.bool (decide (t14 < t12.Lo)))) 184 (.bool (decide (t14 < t12.Lo)))) 192 (.bool b14)) := ⟨f, by rw [upd_self hf2, upd_self hf3, upd_self hf4, upd_self hf156, upd_self hf157, upd_self hf173, upd_self hf174, upd_self hf175, upd_self hf176, upd_self hf177, upd_self hf178, upd_self hf179, upd_self hf180, upd_self hf181, upd_self hf182, upd_self hf183, upd_self hf184, upd_self hf192]⟩
                                        refine PL.of (fun _ w8 _ hx => O.pick_true (v := (.bool b14)) rfl rfl rfl rfl (WL.nil ⟨rfl, hx⟩)) ?_
                                        refine PL.nil ?_
                                        have hq : b14 = b13 := Option.some.inj (show some b14 = some b13 from hm15)
                                        subst hq
                                        exact ⟨rfl, rfl, rfl, rfl, rfl, rfl, rfl, rfl, (congrArg Value.bool hc20).symm, rfl⟩
                                    · skip
                                      refine PL.reset (i := 176) (v := .bool false) (congrArg Value.bool hc20) ?_
                                      refine PL.of (fun _ w8 _ hx => O.skip rfl rfl (WL.nil ⟨rfl, hx⟩)) ?_
                                      refine PL.of (fun _ w8 _ hx => O.skip rfl rfl (WL.nil ⟨rfl, hx⟩)) ?_
                                      refine PL.of (fun _ w8 _ hx => O.skip rfl rfl (WL.nil ⟨rfl, hx⟩)) ?_
                                      refine PL.of (fun _ w8 _ hx => O.skip rfl rfl (WL.nil ⟨rfl, hx⟩)) ?_
                                      refine PL.of (fun _ w8 _ hx => O.skip rfl rfl (WL.nil ⟨rfl, hx⟩)) ?_
                                      refine PL.of (fun _ w8 _ hx => O.skip rfl rfl (WL.nil ⟨rfl, hx⟩)) ?_
                                      refine PL.of (fun _ w8 _ hx => O.skip rfl rfl (WL.nil ⟨rfl, hx⟩)) ?_
                                      refine PL.of (fun _ w8 _ hx => O.skip rfl rfl (WL.nil ⟨rfl, hx⟩)) ?_
                                      refine PL.of (fun _ w8 _ hx => O.skip rfl rfl (WL.nil ⟨rfl, hx⟩)) ?_
                                      refine PL.of (fun _ w8 _ hx => O.skip rfl rfl (WL.nil ⟨rfl, hx⟩)) ?_
                                      refine PL.of (fun _ w8 _ hx => O.skip rfl rfl (WL.nil ⟨rfl, hx⟩)) ?_
                                      refine PL.of (fun _ w8 _ hx => O.skip rfl rfl (WL.nil ⟨rfl, hx⟩)) ?_
                                      refine PL.of (fun _ w8 _ hx => O.skip rfl rfl (WL.nil ⟨rfl, hx⟩)) ?_
                                      refine PL.of (fun _ w8 _ hx => O.skip rfl rfl (WL.nil ⟨rfl, hx⟩)) ?_
                                      refine PL.of (fun _ w8 _ hx => O.skip rfl rfl (WL.nil ⟨rfl, hx⟩)) ?_
                                      refine PL.of (fun _ w8 _ hx => O.skip rfl rfl (WL.nil ⟨rfl, hx⟩)) ?_
                                      refine PL.of (fun _ w8 _ hx => O.pick_false (v := (.bool false)) rfl rfl rfl rfl (WL.nil ⟨rfl, hx⟩)) ?_
                                      refine PL.nil ?_
                                      have hq : false = b13 := Option.some.inj (show some false = some b13 from hm15)
                                      subst hq
                                      exact ⟨rfl, rfl, rfl, rfl, rfl, rfl, rfl, rfl, (congrArg Value.bool hc20).symm, rfl⟩
                                  · skip
                                    rintro f ⟨hf2, hf3, hf4, hf156, hf157, hf173, hf174, hf175, hf176, hf193⟩
                                    obtain ⟨u24, rfl⟩ : ∃ u24, f = (upd (upd (upd (upd (upd (upd (upd (upd (upd (upd u24 2 (.int .i64 a2)) 3 (.pointer (some ⟨b1, 0, none⟩))) 4 (.pointer (some ⟨b2, 0, none⟩))) 156 (.int .i64 ((a0.Rates.length : Nat) : Int))) 157 (.int .i64 (ik3 : Int))) 173 (.bool false)) 174 (.int .i64 t13)) 175 (.bool (t13 == 0))) 176 (.bool (t13 == 0))) 193 (.bool b13)) := ⟨f, by rw [upd_self hf2, upd_self hf3, upd_self hf4, upd_self hf156, upd_self hf157, upd_self hf173, upd_self hf174, upd_self hf175, upd_self hf176, upd_self hf193]⟩
                                    refine PL.of (fun _ w8 _ hx => O.pick_false (v := (.bool b13)) rfl rfl rfl rfl (WL.nil ⟨rfl, hx⟩)) ?_
                                    refine PL.nil ?_
                                    have hq : b13 = b12 := Option.some.inj (show some b13 = some b12 from hm14)
                                    subst hq
                                    exact ⟨rfl, rfl, rfl, rfl, rfl, rfl⟩
                              · skip
                                rintro f ⟨hf2, hf3, hf4, hf156, hf157, hf194⟩
                                obtain ⟨u25, rfl⟩ : ∃ u25, f = (upd (upd (upd (upd (upd (upd u25 2 (.int .i64 a2)) 3 (.pointer (some ⟨b1, 0, none⟩))) 4 (.pointer (some ⟨b2, 0, none⟩))) 156 (.int .i64 ((a0.Rates.length : Nat) : Int))) 157 (.int .i64 (ik3 : Int))) 194 (.bool b12)) := ⟨f, by rw [upd_self hf2, upd_self hf3, upd_self hf4, upd_self hf156, upd_self hf157, upd_self hf194]⟩
                                refine PL.nil ?_
                                exact ⟨rfl, rfl, rfl, rfl, rfl, rfl⟩
                          · skip
                            rintro f w ⟨hf2, hf3, hf4, hf156, hf157, hf194⟩ hmd hx
                            have H := H.ext hx
                            obtain ⟨u26, rfl⟩ : ∃ u26, f = (upd (upd (upd (upd (upd (upd u26 2 (.int .i64 a2)) 3 (.pointer (some ⟨b1, 0, none⟩))) 4 (.pointer (some ⟨b2, 0, none⟩))) 156 (.int .i64 ((a0.Rates.length : Nat) : Int))) 157 (.int .i64 (ik3 : Int))) 194 (.bool b12)) := ⟨f, by rw [upd_self hf2, upd_self hf3, upd_self hf4, upd_self hf156, upd_self hf157, upd_self hf194]⟩
                            refine WL.nil ?_
                            rcases ite_some hm13 with ⟨hc22, hm13⟩ | ⟨hc22, hm13⟩
                            · refine W.cond_true (congrArg Value.bool hc22) ?_
                              refine W.seq ?_
                              refine W.region ?_
                              refine O.assign (v := (.bool false)) rfl rfl rfl ?_
                              refine WL.nil ?_
                              refine W.ret ?_
                              obtain rfl := Option.some.inj hm13
                              refine ⟨_, rfl, ?_⟩
                              rintro rfl
                              have hq : false = r0 := Option.some.inj (show some false = some r0 from hm)
                              subst hq
                              exact ends1 Try.results4 rfl ⟨_, rfl, H.base, rfl⟩
                            · refine W.cond_false (congrArg Value.bool hc22) ?_
                              refine W.skip ?_
                              refine W.region ?_
                              refine O.add rfl rfl rfl rfl hinck3 ?_
                              refine O.move (v := .int .i64 ((ik3 : Int) + 1)) rfl rfl rfl ?_
                              refine WL.nil ?_
                              have H := H.keep [0, 1] [boxI b1 25 [va0_0, va0_1], boxI b2 37 [va1_0, va1_1]] rfl (by decide)
                              obtain rfl := Option.some.inj hm13
                              exact ⟨_, rfl, rfl, rangeN_next hdropk3, rfl, rfl, rfl, rfl, rfl, H⟩
                        · skip
                          rintro ik3 _ f w ⟨rfl, hdropk3, hf157, hf156, hf2, hf3, hf4, H⟩ hfin
                          have hltk3 := rangeN_end hdropk3
                          obtain ⟨u27, rfl⟩ : ∃ u27, f = (upd (upd (upd (upd (upd u27 157 (.int .i64 (ik3 : Int))) 156 (.int .i64 ((a0.Rates.length : Nat) : Int))) 2 (.int .i64 a2)) 3 (.pointer (some ⟨b1, 0, none⟩))) 4 (.pointer (some ⟨b2, 0, none⟩))) := ⟨f, by rw [upd_self hf157, upd_self hf156, upd_self hf2, upd_self hf3, upd_self hf4]⟩
                          refine W.seq ?_
                          refine W.region ?_
                          refine O.lss rfl rfl rfl rfl ?_
                          refine WL.nil ?_
                          refine W.seq ?_
                          refine W.cond_false (congrArg Value.bool (decide_eq_false hltk3)) ?_
                          refine W.exit ?_
                          obtain rfl : Ctl.next () = o3 := hfin
                          have H := H.keep [] [] rfl (by decide)
                          refine xT rfl ?_
                          exact ⟨rfl, H⟩
                      · skip
                        rintro f w ⟨rfl, H⟩
                        refine W.seq ?_
                        refine W.region ?_
                        obtain ⟨t16, hy12, hm⟩ := bind_some hm
                        refine O.call Try.call15 rfl rfl rfl (c_noongunlaw02_awake  hy12) ?_
                        rintro _ w15 hb13 rfl
                        have H := H.ext hb13
                        refine O.assign (v := (.bool t16)) rfl rfl rfl ?_
                        refine WL.nil ?_
                        refine W.ret ?_
                        have hq : t16 = r0 := Option.some.inj (show some t16 = some r0 from hm)
                        subst hq
                        exact ends1 Try.results4 rfl ⟨_, rfl, H.base, rfl⟩

end Go.Proofs
