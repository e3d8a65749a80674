/-
  The walks: each function does what its model says, where the model has a value. No other condition.
-/
import Derived.Test.YtijjocfjgpibjaaW1
namespace Go.Proofs
open Go.Fw Go.RowKit Go.Shelf Go.Maps
set_option maxRecDepth 20000 in
theorem c_noongunref09_Streak {w0 : World} (va0 : Value) (a0 : (List GEntry)) (ha0 : SliceR w0 va0 a0) (a1 : Int) {r0 : Int} {r1 : Int} {r2 : Int} (hm : noongunref09_Streak a0 a1 = some (r0, r1, r2)) :
    Calls Try.prog 46 #[va0, (.int .i64 a1)] w0 (Ret w0 fun _ v => v = .tuple #[(.int .i64 r0), (.int .i64 r1), (.int .i64 r2)]) := by
  unfold noongunref09_Streak at hm
  refine calls_of_W Try.func46 rfl Try.ntmps46 (Nat.le_of_ble_eq_true rfl) ?_
  have H := Inv.start (w := w0)
  refine W.seq ?_
  refine W.region ?_
  refine O.assign (v := (.int .i64 0)) rfl rfl rfl ?_
  refine O.assign (v := (.int .i64 0)) rfl rfl rfl ?_
  refine O.assign (v := (.int .i64 0)) rfl rfl rfl ?_
  refine WL.nil ?_
  refine W.seq ?_
  refine W.seq ?_
  refine W.region ?_
  refine O.move (v := va0) rfl rfl rfl ?_
  refine O.move (v := (.int .i64 a1)) rfl rfl rfl ?_
  obtain ⟨t1, hy1, hm⟩ := bind_some hm
  refine O.call Try.call84 rfl rfl rfl (c_noongunref09_bounded _ _ (H.arg ha0) _ hy1) ?_
  rintro _ w1 hb1 rfl
  have H := H.ext hb1
  refine O.assign (v := (.int .i64 t1)) rfl rfl rfl ?_
  refine WL.nil ?_
  refine W.seq ?_
  refine W.region ?_
  refine O.move (v := (.int .i64 t1)) rfl rfl rfl ?_
  refine O.neq rfl rfl rfl rfl ?_
  refine WL.nil ?_
  rcases ite_some hm with ⟨hc1, hm⟩ | ⟨hc1, hm⟩
  · refine W.cond_true (congrArg Value.bool hc1) ?_
    refine W.seq ?_
    refine W.region ?_
    refine O.move (v := (.int .i64 t1)) rfl rfl rfl ?_
    refine O.assign (v := (.int .i64 0)) rfl rfl rfl ?_
    refine O.assign (v := (.int .i64 0)) rfl rfl rfl ?_
    refine O.assign (v := (.int .i64 t1)) rfl rfl rfl ?_
    refine WL.nil ?_
    refine W.ret ?_
    have hq : (0, 0, t1) = (r0, r1, r2) := Option.some.inj (show some (0, 0, t1) = some (r0, r1, r2) from hm)
    obtain ⟨he0, hq0⟩ := Prod.mk.inj hq; clear hq; subst he0
    obtain ⟨he1, hq1⟩ := Prod.mk.inj hq0; clear hq0; subst he1
    subst hq1
    exact ends3 Try.results46 rfl rfl rfl ⟨_, rfl, H.base, rfl⟩
  · refine W.cond_false (congrArg Value.bool hc1) ?_
    refine W.skip ?_
    refine W.seq ?_
    refine W.region ?_
    refine O.assign (v := (.int .i64 0)) rfl rfl rfl ?_
    refine O.assign (v := (.int .i64 (-1))) rfl rfl rfl ?_
    refine WL.nil ?_
    refine W.seq ?_
    refine W.seq ?_
    refine W.region ?_
    refine O.move (v := va0) rfl rfl rfl ?_
    obtain ⟨t2, hy2, hm⟩ := bind_some hm
    refine O.call Try.call78 rfl rfl rfl (c_noongunref09_days _ _ (H.arg ha0) hy2) ?_
    rintro v1 w2 hb2 ho1
    have H := H.addOwn hb2 ho1
    refine O.lenS Try.underlying39 (H.own 0 rfl) rfl rfl rfl ?_
    refine O.move (v := (.int .i64 0)) rfl rfl rfl ?_
    refine WL.nil ?_
    obtain ⟨⟨s1, s2⟩, hm1, hm⟩ := bind_some hm
    refine W.via (fun f w => f 4 = (.int .i64 s1) ∧ f 5 = (.int .i64 s2) ∧ Inv w0 w []) ?_ ?_
    · skip
      refine W.block ?_
      refine W.rangeL (i := 0) hm1 (fun rem ik1 s f w => ∃ z5 : Int, ∃ z6 : Int, ∃ z7 : Int, ∃ z8 : Int, (z5, z6, z7, z8) = s ∧ t2.drop ik1 = rem ∧ f 23 = .int .i64 (ik1 : Int) ∧ f 22 = (.int .i64 ((t2.length : Nat) : Int)) ∧ f 0 = va0 ∧ f 1 = (.int .i64 a1) ∧ f 4 = (.int .i64 z5) ∧ f 5 = (.int .i64 z6) ∧ f 8 = (.int .i64 z7) ∧ f 9 = (.int .i64 z8) ∧ f 21 = v1 ∧ Inv w0 w [ownI (α := Int) v1 3 t2]) ?_ ?_ ?_
      · skip
        exact ⟨_, _, _, _, rfl, List.drop_zero, rfl, rfl, rfl, rfl, rfl, rfl, rfl, rfl, rfl, H⟩
      · skip
        rintro yk1 xs ik1 _ st f w ⟨z5, z6, z7, z8, rfl, hdropk1, hf23, hf22, hf0, hf1, hf4, hf5, hf8, hf9, hf21, H⟩ hm2
        have hltk1 := drop_lt hdropk1; have hixk1 := drop_idx hdropk1
        obtain ⟨u1, rfl⟩ : ∃ u1, f = (upd (upd (upd (upd (upd (upd (upd (upd (upd u1 23 (.int .i64 (ik1 : Int))) 22 (.int .i64 ((t2.length : Nat) : Int))) 0 va0) 1 (.int .i64 a1)) 4 (.int .i64 z5)) 5 (.int .i64 z6)) 8 (.int .i64 z7)) 9 (.int .i64 z8)) 21 v1) := ⟨f, by rw [upd_self hf23, upd_self hf22, upd_self hf0, upd_self hf1, upd_self hf4, upd_self hf5, upd_self hf8, upd_self hf9, upd_self hf21]⟩
        have hinck1 := addI_lt hltk1 (H.own 0 rfl).len_le
        refine W.seq ?_
        refine W.region ?_
        refine O.lss rfl rfl rfl rfl ?_
        refine WL.nil ?_
        refine W.seq ?_
        refine W.cond_true (congrArg Value.bool (decide_eq_true hltk1)) ?_
        refine W.skip ?_
        refine W.seq ?_
        obtain ⟨⟨s3, s4, s5, s6⟩, hm3, hm2⟩ := bind_some hm2
        refine W.via (fun f w => f 0 = va0 ∧ f 1 = (.int .i64 a1) ∧ f 4 = (.int .i64 s3) ∧ f 5 = (.int .i64 s4) ∧ f 8 = (.int .i64 s5) ∧ f 9 = (.int .i64 s6) ∧ f 21 = v1 ∧ f 22 = (.int .i64 ((t2.length : Nat) : Int)) ∧ f 23 = (.int .i64 (ik1 : Int)) ∧ Inv w0 w [ownI (α := Int) v1 3 t2]) ?_ ?_
        · skip
          refine W.block ?_
          refine W.seq ?_
          refine W.region ?_
          refine O.indexAddr Try.underlying39 sz3 (H.own 0 rfl) hixk1 rfl rfl rfl rfl ?_
          intro p1 hp1
          refine O.load sc3 rfl rfl rfl (hp1.flat 0 _ rfl) ?_
          refine O.assign (v := (.int .i64 yk1)) rfl rfl rfl ?_
          refine WL.nil ?_
          refine W.seq ?_
          refine W.seq ?_
          refine W.region ?_
          refine O.move (v := va0) rfl rfl rfl ?_
          refine O.move (v := (.int .i64 yk1)) rfl rfl rfl ?_
          obtain ⟨⟨t3, t4⟩, hy3, hm3⟩ := bind_some hm3
          refine O.call Try.call61 rfl rfl rfl (c_noongunref09_off _ _ (H.arg ha0) _ hy3) ?_
          rintro _ w3 hb3 rfl
          have hp1 := hp1.mono hb3
          have H := H.ext hb3
          refine O.move (v := (.tuple #[(.int .i64 t3), (.bool t4)])) rfl rfl rfl ?_
          refine O.extract (v := (.int .i64 t3)) rfl rfl rfl rfl ?_
          refine O.extract (v := (.bool t4)) rfl rfl rfl rfl ?_
          refine O.assign (v := (.int .i64 t3)) rfl rfl rfl ?_
          refine O.assign (v := (.bool t4)) rfl rfl rfl ?_
          refine WL.nil ?_
          refine W.seq ?_
          refine W.region ?_
          refine O.move (v := (.int .i64 t3)) rfl rfl rfl ?_
          obtain ⟨t5, hy4, hm3⟩ := bind_some hm3
          refine O.call Try.call44 rfl rfl rfl (c_noongunref09_Abs _ hy4) ?_
          rintro _ w4 hb4 rfl
          have hp1 := hp1.mono hb4
          have H := H.ext hb4
          refine O.move (v := (.int .i64 a1)) rfl rfl rfl ?_
          refine O.gtr rfl rfl rfl rfl ?_
          refine WL.nil ?_
          rcases ite_some hm3 with ⟨hc2, hm3⟩ | ⟨hc2, hm3⟩
          · refine W.cond_true (congrArg Value.bool hc2) ?_
            refine W.exit ?_
            refine xT rfl ?_
            have hq : (z5, z6, z7, z8) = (s3, s4, s5, s6) := Option.some.inj (show some (z5, z6, z7, z8) = some (s3, s4, s5, s6) from hm3)
            obtain ⟨he0, hq0⟩ := Prod.mk.inj hq; clear hq; subst he0
            obtain ⟨he1, hq1⟩ := Prod.mk.inj hq0; clear hq0; subst he1
            obtain ⟨he2, hq2⟩ := Prod.mk.inj hq1; clear hq1; subst he2
            subst hq2
            exact ⟨rfl, rfl, rfl, rfl, rfl, rfl, rfl, rfl, rfl, H⟩
          · refine W.cond_false (congrArg Value.bool hc2) ?_
            refine W.skip ?_
            refine W.seq ?_
            refine W.seq ?_
            refine W.region ?_
            refine O.move (v := (.int .i64 yk1)) rfl rfl rfl ?_
            refine O.move (v := (.int .i64 z8)) rfl rfl rfl ?_
            refine O.neq rfl rfl rfl rfl ?_
            refine WL.nil ?_
            obtain ⟨s7, hm4, hm3⟩ := bind_some hm3
            refine W.via (fun f w => f 0 = va0 ∧ f 1 = (.int .i64 a1) ∧ f 4 = (.int .i64 z5) ∧ f 5 = (.int .i64 z6) ∧ f 8 = (.int .i64 s7) ∧ f 11 = (.int .i64 yk1) ∧ f 21 = v1 ∧ f 22 = (.int .i64 ((t2.length : Nat) : Int)) ∧ f 23 = (.int .i64 (ik1 : Int)) ∧ Inv w0 w [ownI (α := Int) v1 3 t2]) ?_ ?_
            · skip
              rcases ite_some hm4 with ⟨hc3, hm4⟩ | ⟨hc3, hm4⟩
              · refine W.cond_true (congrArg Value.bool hc3) ?_
                refine W.region ?_
                refine O.move (v := (.int .i64 yk1)) rfl rfl rfl ?_
                refine O.assign (v := (.int .i64 yk1)) rfl rfl rfl ?_
                refine WL.nil ?_
                have hq : yk1 = s7 := Option.some.inj (show some yk1 = some s7 from hm4)
                subst hq
                exact ⟨rfl, rfl, rfl, rfl, rfl, rfl, rfl, rfl, rfl, H⟩
              · refine W.cond_false (congrArg Value.bool hc3) ?_
                refine W.skip ?_
                have hq : z7 = s7 := Option.some.inj (show some z7 = some s7 from hm4)
                subst hq
                exact ⟨rfl, rfl, rfl, rfl, rfl, rfl, rfl, rfl, rfl, H⟩
            · skip
              rintro f w ⟨hf0, hf1, hf4, hf5, hf8, hf11, hf21, hf22, hf23, H⟩
              obtain ⟨u2, rfl⟩ : ∃ u2, f = (upd (upd (upd (upd (upd (upd (upd (upd (upd u2 0 va0) 1 (.int .i64 a1)) 4 (.int .i64 z5)) 5 (.int .i64 z6)) 8 (.int .i64 s7)) 11 (.int .i64 yk1)) 21 v1) 22 (.int .i64 ((t2.length : Nat) : Int))) 23 (.int .i64 (ik1 : Int))) := ⟨f, by rw [upd_self hf0, upd_self hf1, upd_self hf4, upd_self hf5, upd_self hf8, upd_self hf11, upd_self hf21, upd_self hf22, upd_self hf23]⟩
              refine W.seq ?_
              refine W.region ?_
              refine O.move (v := (.int .i64 yk1)) rfl rfl rfl ?_
              obtain ⟨t6, ht6, hm3⟩ := bind_some hm3
              refine O.add rfl rfl rfl rfl ht6 ?_
              refine O.assign (v := (.int .i64 t6)) rfl rfl rfl ?_
              refine WL.nil ?_
              refine W.seq ?_
              refine W.region ?_
              refine O.move (v := (.int .i64 t6)) rfl rfl rfl ?_
              refine O.move (v := (.int .i64 s7)) rfl rfl rfl ?_
              obtain ⟨t7, ht7, hm3⟩ := bind_some hm3
              refine O.sub rfl rfl rfl rfl ht7 ?_
              refine O.move (v := (.int .i64 z6)) rfl rfl rfl ?_
              refine O.gtr rfl rfl rfl rfl ?_
              refine WL.nil ?_
              obtain ⟨⟨s8, s9⟩, hm5, hm3⟩ := bind_some hm3
              refine W.via (fun f w => f 0 = va0 ∧ f 1 = (.int .i64 a1) ∧ f 4 = (.int .i64 s8) ∧ f 5 = (.int .i64 s9) ∧ f 8 = (.int .i64 s7) ∧ f 9 = (.int .i64 t6) ∧ f 21 = v1 ∧ f 22 = (.int .i64 ((t2.length : Nat) : Int)) ∧ f 23 = (.int .i64 (ik1 : Int)) ∧ Inv w0 w [ownI (α := Int) v1 3 t2]) ?_ ?_
              · skip
                rcases ite_some hm5 with ⟨hc4, hm5⟩ | ⟨hc4, hm5⟩
                · refine W.cond_true (congrArg Value.bool hc4) ?_
                  refine W.region ?_
                  refine O.move (v := (.int .i64 s7)) rfl rfl rfl ?_
                  refine O.move (v := (.int .i64 t6)) rfl rfl rfl ?_
                  refine O.move (v := (.int .i64 s7)) rfl rfl rfl ?_
                  obtain ⟨t8, ht8, hm5⟩ := bind_some hm5
                  refine O.sub rfl rfl rfl rfl ht8 ?_
                  refine O.assign (v := (.int .i64 s7)) rfl rfl rfl ?_
                  refine O.assign (v := (.int .i64 t8)) rfl rfl rfl ?_
                  refine WL.nil ?_
                  have hq : (s7, t8) = (s8, s9) := Option.some.inj (show some (s7, t8) = some (s8, s9) from hm5)
                  obtain ⟨he0, hq0⟩ := Prod.mk.inj hq; clear hq; subst he0
                  subst hq0
                  exact ⟨rfl, rfl, rfl, rfl, rfl, rfl, rfl, rfl, rfl, H⟩
                · refine W.cond_false (congrArg Value.bool hc4) ?_
                  refine W.skip ?_
                  have hq : (z5, z6) = (s8, s9) := Option.some.inj (show some (z5, z6) = some (s8, s9) from hm5)
                  obtain ⟨he0, hq0⟩ := Prod.mk.inj hq; clear hq; subst he0
                  subst hq0
                  exact ⟨rfl, rfl, rfl, rfl, rfl, rfl, rfl, rfl, rfl, H⟩
              · skip
                rintro f w ⟨hf0, hf1, hf4, hf5, hf8, hf9, hf21, hf22, hf23, H⟩
                obtain ⟨u3, rfl⟩ : ∃ u3, f = (upd (upd (upd (upd (upd (upd (upd (upd (upd u3 0 va0) 1 (.int .i64 a1)) 4 (.int .i64 s8)) 5 (.int .i64 s9)) 8 (.int .i64 s7)) 9 (.int .i64 t6)) 21 v1) 22 (.int .i64 ((t2.length : Nat) : Int))) 23 (.int .i64 (ik1 : Int))) := ⟨f, by rw [upd_self hf0, upd_self hf1, upd_self hf4, upd_self hf5, upd_self hf8, upd_self hf9, upd_self hf21, upd_self hf22, upd_self hf23]⟩
                have hq : (s8, s9, s7, t6) = (s3, s4, s5, s6) := Option.some.inj (show some (s8, s9, s7, t6) = some (s3, s4, s5, s6) from hm3)
                obtain ⟨he0, hq0⟩ := Prod.mk.inj hq; clear hq; subst he0
                obtain ⟨he1, hq1⟩ := Prod.mk.inj hq0; clear hq0; subst he1
                obtain ⟨he2, hq2⟩ := Prod.mk.inj hq1; clear hq1; subst he2
                subst hq2
                exact ⟨rfl, rfl, rfl, rfl, rfl, rfl, rfl, rfl, rfl, H⟩
        · skip
          rintro f w ⟨hf0, hf1, hf4, hf5, hf8, hf9, hf21, hf22, hf23, H⟩
          obtain ⟨u4, rfl⟩ : ∃ u4, f = (upd (upd (upd (upd (upd (upd (upd (upd (upd u4 0 va0) 1 (.int .i64 a1)) 4 (.int .i64 s3)) 5 (.int .i64 s4)) 8 (.int .i64 s5)) 9 (.int .i64 s6)) 21 v1) 22 (.int .i64 ((t2.length : Nat) : Int))) 23 (.int .i64 (ik1 : Int))) := ⟨f, by rw [upd_self hf0, upd_self hf1, upd_self hf4, upd_self hf5, upd_self hf8, upd_self hf9, upd_self hf21, upd_self hf22, upd_self hf23]⟩
          refine W.region ?_
          refine O.add rfl rfl rfl rfl hinck1 ?_
          refine O.move (v := .int .i64 ((ik1 : Int) + 1)) rfl rfl rfl ?_
          refine WL.nil ?_
          obtain rfl := Option.some.inj hm2
          exact ⟨_, rfl, _, _, _, _, rfl, drop_next hdropk1, rfl, rfl, rfl, rfl, rfl, rfl, rfl, rfl, rfl, H⟩
      · skip
        rintro ik1 _ f w ⟨z5, z6, z7, z8, rfl, hdropk1, hf23, hf22, hf0, hf1, hf4, hf5, hf8, hf9, hf21, H⟩ hfin
        have hltk1 := drop_end hdropk1
        obtain ⟨u5, rfl⟩ : ∃ u5, f = (upd (upd (upd (upd (upd (upd (upd (upd (upd u5 23 (.int .i64 (ik1 : Int))) 22 (.int .i64 ((t2.length : Nat) : Int))) 0 va0) 1 (.int .i64 a1)) 4 (.int .i64 z5)) 5 (.int .i64 z6)) 8 (.int .i64 z7)) 9 (.int .i64 z8)) 21 v1) := ⟨f, by rw [upd_self hf23, upd_self hf22, upd_self hf0, upd_self hf1, upd_self hf4, upd_self hf5, upd_self hf8, upd_self hf9, upd_self hf21]⟩
        refine W.seq ?_
        refine W.region ?_
        refine O.lss rfl rfl rfl rfl ?_
        refine WL.nil ?_
        refine W.seq ?_
        refine W.cond_false (congrArg Value.bool (decide_eq_false hltk1)) ?_
        refine W.exit ?_
        have hq : (z5, z6) = (s1, s2) := hfin
        obtain ⟨he0, hq0⟩ := Prod.mk.inj hq; clear hq; subst he0
        subst hq0
        have H := H.keep [] [] rfl (by decide)
        refine xT rfl ?_
        exact ⟨rfl, rfl, H⟩
    · skip
      rintro f w ⟨hf4, hf5, H⟩
      obtain ⟨u6, rfl⟩ : ∃ u6, f = (upd (upd u6 4 (.int .i64 s1)) 5 (.int .i64 s2)) := ⟨f, by rw [upd_self hf4, upd_self hf5]⟩
      refine W.seq ?_
      refine W.seq ?_
      refine W.region ?_
      refine O.move (v := (.int .i64 s2)) rfl rfl rfl ?_
      refine O.eql rfl rfl rfl rfl ?_
      refine WL.nil ?_
      rcases ite_some hm with ⟨hc5, hm⟩ | ⟨hc5, hm⟩
      · refine W.cond_true (congrArg Value.bool hc5) ?_
        refine W.seq ?_
        refine W.region ?_
        refine O.assign (v := (.int .i64 0)) rfl rfl rfl ?_
        refine O.assign (v := (.int .i64 0)) rfl rfl rfl ?_
        refine O.assign (v := (.int .i64 8)) rfl rfl rfl ?_
        refine WL.nil ?_
        refine W.ret ?_
        have hq : (0, 0, 8) = (r0, r1, r2) := Option.some.inj (show some (0, 0, 8) = some (r0, r1, r2) from hm)
        obtain ⟨he0, hq0⟩ := Prod.mk.inj hq; clear hq; subst he0
        obtain ⟨he1, hq1⟩ := Prod.mk.inj hq0; clear hq0; subst he1
        subst hq1
        exact ends3 Try.results46 rfl rfl rfl ⟨_, rfl, H.base, rfl⟩
      · refine W.cond_false (congrArg Value.bool hc5) ?_
        refine W.skip ?_
        refine W.seq ?_
        refine W.region ?_
        refine O.move (v := (.int .i64 s1)) rfl rfl rfl ?_
        refine O.move (v := (.int .i64 s2)) rfl rfl rfl ?_
        refine O.assign (v := (.int .i64 s1)) rfl rfl rfl ?_
        refine O.assign (v := (.int .i64 s2)) rfl rfl rfl ?_
        refine O.assign (v := (.int .i64 0)) rfl rfl rfl ?_
        refine WL.nil ?_
        refine W.ret ?_
        have hq : (s1, s2, 0) = (r0, r1, r2) := Option.some.inj (show some (s1, s2, 0) = some (r0, r1, r2) from hm)
        obtain ⟨he0, hq0⟩ := Prod.mk.inj hq; clear hq; subst he0
        obtain ⟨he1, hq1⟩ := Prod.mk.inj hq0; clear hq0; subst he1
        subst hq1
        exact ends3 Try.results46 rfl rfl rfl ⟨_, rfl, H.base, rfl⟩

set_option maxRecDepth 20000 in
theorem c_noongunref09_Letters {w0 : World} (va0 : Value) (a0 : (List GEntry)) (ha0 : SliceR w0 va0 a0) (a1 : Int) {r0 : (List Int)} {r1 : Int} (hm : noongunref09_Letters a0 a1 = some (r0, r1)) :
    Calls Try.prog 47 #[va0, (.int .i64 a1)] w0 (Ret w0 fun w v => ∃ vr0 : Value, v = .tuple #[vr0, (.int .i64 r1)] ∧ OwnR w0 w vr0 3 r0) := by
  unfold noongunref09_Letters at hm
  refine calls_of_W Try.func47 rfl Try.ntmps47 (Nat.le_of_ble_eq_true rfl) ?_
  have H := Inv.start (w := w0)
  refine W.seq ?_
  refine W.region ?_
  have H := H.addNil (α := Int) (E := 3)
  refine O.assign (v := (.slice none 0 0)) rfl rfl rfl ?_
  refine O.assign (v := (.int .i64 0)) rfl rfl rfl ?_
  refine WL.nil ?_
  refine W.seq ?_
  refine W.seq ?_
  refine W.region ?_
  refine O.move (v := va0) rfl rfl rfl ?_
  refine O.move (v := (.int .i64 a1)) rfl rfl rfl ?_
  obtain ⟨t1, hy1, hm⟩ := bind_some hm
  refine O.call Try.call84 rfl rfl rfl (c_noongunref09_bounded _ _ (H.arg ha0) _ hy1) ?_
  rintro _ w1 hb1 rfl
  have H := H.ext hb1
  refine O.assign (v := (.int .i64 t1)) rfl rfl rfl ?_
  refine WL.nil ?_
  refine W.seq ?_
  refine W.region ?_
  refine O.move (v := (.int .i64 t1)) rfl rfl rfl ?_
  refine O.neq rfl rfl rfl rfl ?_
  refine WL.nil ?_
  rcases ite_some hm with ⟨hc1, hm⟩ | ⟨hc1, hm⟩
  · refine W.cond_true (congrArg Value.bool hc1) ?_
    refine W.seq ?_
    refine W.region ?_
    refine O.move (v := (.int .i64 t1)) rfl rfl rfl ?_
    have H := H.addNil (α := Int) (E := 3)
    refine O.assign (v := (.slice none 0 0)) rfl rfl rfl ?_
    refine O.assign (v := (.int .i64 t1)) rfl rfl rfl ?_
    refine WL.nil ?_
    refine W.ret ?_
    have hq : (([] : List Int), t1) = (r0, r1) := Option.some.inj (show some (([] : List Int), t1) = some (r0, r1) from hm)
    obtain ⟨he0, hq0⟩ := Prod.mk.inj hq; clear hq; subst he0
    subst hq0
    exact ends2 Try.results47 rfl rfl ⟨_, rfl, H.base, ⟨_, rfl, H.ownR 1 rfl⟩⟩
  · refine W.cond_false (congrArg Value.bool hc1) ?_
    refine W.skip ?_
    refine W.seq ?_
    refine W.region ?_
    have H := H.addNil (α := Int) (E := 3)
    refine O.assign (v := (.slice none 0 0)) rfl rfl rfl ?_
    refine WL.nil ?_
    refine W.seq ?_
    refine W.seq ?_
    refine W.region ?_
    refine O.move (v := va0) rfl rfl rfl ?_
    obtain ⟨t2, hy2, hm⟩ := bind_some hm
    refine O.call Try.call78 rfl rfl rfl (c_noongunref09_days _ _ (H.arg ha0) hy2) ?_
    rintro v1 w2 hb2 ho1
    have H := H.addOwn hb2 ho1
    refine O.lenS Try.underlying39 (H.own 2 rfl) rfl rfl rfl ?_
    refine O.move (v := (.int .i64 0)) rfl rfl rfl ?_
    refine WL.nil ?_
    obtain ⟨s1, hm1, hm⟩ := bind_some hm
    refine W.via (fun f w => ∃ v5 : Value, f 7 = v5 ∧ Inv w0 w [ownI (α := Int) v5 3 s1]) ?_ ?_
    · skip
      refine W.block ?_
      have H := H.keep [1, 2] [ownI (α := Int) (.slice none 0 0) 3 ([] : List Int), ownI (α := Int) v1 3 t2] rfl (by decide)
      refine W.rangeL (i := 0) hm1 (fun rem ik1 s f w => ∃ z2 : (List Int), ∃ v3 : Value, z2 = s ∧ t2.drop ik1 = rem ∧ f 21 = .int .i64 (ik1 : Int) ∧ f 20 = (.int .i64 ((t2.length : Nat) : Int)) ∧ f 0 = va0 ∧ f 1 = (.int .i64 a1) ∧ f 7 = v3 ∧ f 19 = v1 ∧ Inv w0 w [ownI (α := Int) v3 3 z2, ownI (α := Int) v1 3 t2]) ?_ ?_ ?_
      · skip
        exact ⟨_, (.slice none 0 0), rfl, List.drop_zero, rfl, rfl, rfl, rfl, rfl, rfl, H⟩
      · skip
        rintro yk1 xs ik1 _ st f w ⟨z2, v3, rfl, hdropk1, hf21, hf20, hf0, hf1, hf7, hf19, H⟩ hm2
        have hltk1 := drop_lt hdropk1; have hixk1 := drop_idx hdropk1
        obtain ⟨u1, rfl⟩ : ∃ u1, f = (upd (upd (upd (upd (upd (upd u1 21 (.int .i64 (ik1 : Int))) 20 (.int .i64 ((t2.length : Nat) : Int))) 0 va0) 1 (.int .i64 a1)) 7 v3) 19 v1) := ⟨f, by rw [upd_self hf21, upd_self hf20, upd_self hf0, upd_self hf1, upd_self hf7, upd_self hf19]⟩
        have hinck1 := addI_lt hltk1 (H.own 1 rfl).len_le
        refine W.seq ?_
        refine W.region ?_
        refine O.lss rfl rfl rfl rfl ?_
        refine WL.nil ?_
        refine W.seq ?_
        refine W.cond_true (congrArg Value.bool (decide_eq_true hltk1)) ?_
        refine W.skip ?_
        refine W.seq ?_
        obtain ⟨s2, hm3, hm2⟩ := bind_some hm2
        refine W.via (fun f w => ∃ v6 : Value, f 0 = va0 ∧ f 1 = (.int .i64 a1) ∧ f 7 = v6 ∧ f 19 = v1 ∧ f 20 = (.int .i64 ((t2.length : Nat) : Int)) ∧ f 21 = (.int .i64 (ik1 : Int)) ∧ Inv w0 w [ownI (α := Int) v6 3 s2, ownI (α := Int) v1 3 t2]) ?_ ?_
        · skip
          refine W.block ?_
          refine W.seq ?_
          refine W.region ?_
          refine O.indexAddr Try.underlying39 sz3 (H.own 1 rfl) hixk1 rfl rfl rfl rfl ?_
          intro p1 hp1
          refine O.load sc3 rfl rfl rfl (hp1.flat 0 _ rfl) ?_
          refine O.assign (v := (.int .i64 yk1)) rfl rfl rfl ?_
          refine WL.nil ?_
          refine W.seq ?_
          refine W.region ?_
          refine O.move (v := va0) rfl rfl rfl ?_
          refine O.move (v := (.int .i64 yk1)) rfl rfl rfl ?_
          obtain ⟨⟨t3, t4⟩, hy3, hm3⟩ := bind_some hm3
          refine O.call Try.call61 rfl rfl rfl (c_noongunref09_off _ _ (H.arg ha0) _ hy3) ?_
          rintro _ w3 hb3 rfl
          have hp1 := hp1.mono hb3
          have H := H.ext hb3
          refine O.move (v := (.tuple #[(.int .i64 t3), (.bool t4)])) rfl rfl rfl ?_
          refine O.extract (v := (.int .i64 t3)) rfl rfl rfl rfl ?_
          refine O.extract (v := (.bool t4)) rfl rfl rfl rfl ?_
          refine O.assign (v := (.int .i64 t3)) rfl rfl rfl ?_
          refine O.assign (v := (.bool t4)) rfl rfl rfl ?_
          refine WL.nil ?_
          refine W.seq ?_
          refine W.region ?_
          refine O.move (v := (.int .i64 t3)) rfl rfl rfl ?_
          obtain ⟨t5, hy4, hm3⟩ := bind_some hm3
          refine O.call Try.call44 rfl rfl rfl (c_noongunref09_Abs _ hy4) ?_
          rintro _ w4 hb4 rfl
          have hp1 := hp1.mono hb4
          have H := H.ext hb4
          refine O.move (v := (.int .i64 a1)) rfl rfl rfl ?_
          refine O.gtr rfl rfl rfl rfl ?_
          refine WL.nil ?_
          obtain ⟨s3, hm4, hm3⟩ := bind_some hm3
          refine W.via (fun f w => ∃ v7 : Value, f 0 = va0 ∧ f 1 = (.int .i64 a1) ∧ f 7 = v7 ∧ f 19 = v1 ∧ f 20 = (.int .i64 ((t2.length : Nat) : Int)) ∧ f 21 = (.int .i64 (ik1 : Int)) ∧ Inv w0 w [ownI (α := Int) v7 3 s3, ownI (α := Int) v1 3 t2]) ?_ ?_
          · skip
            rcases ite_some hm4 with ⟨hc2, hm4⟩ | ⟨hc2, hm4⟩
            · refine W.cond_true (congrArg Value.bool hc2) ?_
              refine W.region ?_
              refine O.move (v := v3) rfl rfl rfl ?_
              refine O.move (v := (.int .i64 yk1)) rfl rfl rfl ?_
              refine O.buildSlice (α := Int) [(.int .i64 yk1)] [yk1] Try.underlying39 el3 H rfl rfl rfl rfl rfl rfl rfl ?_
              intro v8 w5 H hb5
              have hp1 := hp1.mono hb5
              obtain ⟨t6, ht6, hm4⟩ := bind_some hm4
              refine O.append 0 Try.underlying39 el3 rfl H rfl (H.own 2 rfl) ht6 rfl rfl rfl rfl ?_
              intro v9 w6 H
              clear hp1
              refine O.assign (v := v9) rfl rfl rfl ?_
              refine WL.nil ?_
              have H := H.keep [0, 1] [ownI (α := Int) v9 3 t6, ownI (α := Int) v1 3 t2] rfl (by decide)
              have hq : t6 = s3 := Option.some.inj (show some t6 = some s3 from hm4)
              subst hq
              exact ⟨v9, rfl, rfl, rfl, rfl, rfl, rfl, H⟩
            · refine W.cond_false (congrArg Value.bool hc2) ?_
              refine W.skip ?_
              have hq : z2 = s3 := Option.some.inj (show some z2 = some s3 from hm4)
              subst hq
              exact ⟨v3, rfl, rfl, rfl, rfl, rfl, rfl, H⟩
          · skip
            rintro f w ⟨v7, hf0, hf1, hf7, hf19, hf20, hf21, H⟩
            obtain ⟨u2, rfl⟩ : ∃ u2, f = (upd (upd (upd (upd (upd (upd u2 0 va0) 1 (.int .i64 a1)) 7 v7) 19 v1) 20 (.int .i64 ((t2.length : Nat) : Int))) 21 (.int .i64 (ik1 : Int))) := ⟨f, by rw [upd_self hf0, upd_self hf1, upd_self hf7, upd_self hf19, upd_self hf20, upd_self hf21]⟩
            have hq : s3 = s2 := Option.some.inj (show some s3 = some s2 from hm3)
            subst hq
            exact ⟨v7, rfl, rfl, rfl, rfl, rfl, rfl, H⟩
        · skip
          rintro f w ⟨v6, hf0, hf1, hf7, hf19, hf20, hf21, H⟩
          obtain ⟨u3, rfl⟩ : ∃ u3, f = (upd (upd (upd (upd (upd (upd u3 0 va0) 1 (.int .i64 a1)) 7 v6) 19 v1) 20 (.int .i64 ((t2.length : Nat) : Int))) 21 (.int .i64 (ik1 : Int))) := ⟨f, by rw [upd_self hf0, upd_self hf1, upd_self hf7, upd_self hf19, upd_self hf20, upd_self hf21]⟩
          refine W.region ?_
          refine O.add rfl rfl rfl rfl hinck1 ?_
          refine O.move (v := .int .i64 ((ik1 : Int) + 1)) rfl rfl rfl ?_
          refine WL.nil ?_
          obtain rfl := Option.some.inj hm2
          exact ⟨_, rfl, _, v6, rfl, drop_next hdropk1, rfl, rfl, rfl, rfl, rfl, rfl, H⟩
      · skip
        rintro ik1 _ f w ⟨z2, v3, rfl, hdropk1, hf21, hf20, hf0, hf1, hf7, hf19, H⟩ hfin
        have hltk1 := drop_end hdropk1
        obtain ⟨u4, rfl⟩ : ∃ u4, f = (upd (upd (upd (upd (upd (upd u4 21 (.int .i64 (ik1 : Int))) 20 (.int .i64 ((t2.length : Nat) : Int))) 0 va0) 1 (.int .i64 a1)) 7 v3) 19 v1) := ⟨f, by rw [upd_self hf21, upd_self hf20, upd_self hf0, upd_self hf1, upd_self hf7, upd_self hf19]⟩
        refine W.seq ?_
        refine W.region ?_
        refine O.lss rfl rfl rfl rfl ?_
        refine WL.nil ?_
        refine W.seq ?_
        refine W.cond_false (congrArg Value.bool (decide_eq_false hltk1)) ?_
        refine W.exit ?_
        have hq : z2 = s1 := hfin
        subst hq
        have H := H.keep [0] [ownI (α := Int) v3 3 z2] rfl (by decide)
        refine xT rfl ?_
        exact ⟨v3, rfl, H⟩
    · skip
      rintro f w ⟨v5, hf7, H⟩
      obtain ⟨u5, rfl⟩ : ∃ u5, f = (upd u5 7 v5) := ⟨f, by rw [upd_self hf7]⟩
      refine W.seq ?_
      refine W.region ?_
      refine O.move (v := v5) rfl rfl rfl ?_
      refine O.assign (v := v5) rfl rfl rfl ?_
      refine O.assign (v := (.int .i64 0)) rfl rfl rfl ?_
      refine WL.nil ?_
      refine W.ret ?_
      have hq : (s1, 0) = (r0, r1) := Option.some.inj (show some (s1, 0) = some (r0, r1) from hm)
      obtain ⟨he0, hq0⟩ := Prod.mk.inj hq; clear hq; subst he0
      subst hq0
      exact ends2 Try.results47 rfl rfl ⟨_, rfl, H.base, ⟨_, rfl, H.ownR 0 rfl⟩⟩

theorem c_ledger_Fine {w0 : World} (va0 : Value) (a0 : (List GEntry)) (ha0 : SliceR w0 va0 a0) (a1 : Int) (a2 : Int) {r0 : Int} {r1 : Int} (hm : ledger_Fine a0 a1 a2 = some (r0, r1)) :
    Calls Try.prog 48 #[va0, (.int .i64 a1), (.int .i64 a2)] w0 (Ret w0 fun _ v => v = .tuple #[(.int .i64 r0), (.int .i64 r1)]) := by
  unfold ledger_Fine at hm
  refine calls_of_W Try.func48 rfl Try.ntmps48 (Nat.le_of_ble_eq_true rfl) ?_
  have H := Inv.start (w := w0)
  refine W.seq ?_
  refine W.region ?_
  refine O.assign (v := (.int .i64 0)) rfl rfl rfl ?_
  refine O.assign (v := (.int .i64 0)) rfl rfl rfl ?_
  refine WL.nil ?_
  refine W.seq ?_
  refine W.region ?_
  refine O.move (v := va0) rfl rfl rfl ?_
  refine O.move (v := (.int .i64 a1)) rfl rfl rfl ?_
  obtain ⟨⟨t1, t2⟩, hy1, hm⟩ := bind_some hm
  refine O.call Try.call41 rfl rfl rfl (c_ledger_Letters _ _ (H.arg ha0) _ hy1) ?_
  rintro _ w1 hb1 ⟨v1, rfl, ho1⟩
  have H := H.addOwn hb1 ho1
  refine O.move (v := (.tuple #[v1, (.int .i64 t2)])) rfl rfl rfl ?_
  refine O.extract (v := v1) rfl rfl rfl rfl ?_
  refine O.extract (v := (.int .i64 t2)) rfl rfl rfl rfl ?_
  refine O.assign (v := v1) rfl rfl rfl ?_
  refine O.assign (v := (.int .i64 t2)) rfl rfl rfl ?_
  refine WL.nil ?_
  refine W.seq ?_
  refine W.block ?_
  refine W.seq ?_
  refine W.region ?_
  refine O.move (v := (.int .i64 t2)) rfl rfl rfl ?_
  refine O.neq rfl rfl rfl rfl ?_
  refine O.assign (v := (.bool (t2 != 0))) rfl rfl rfl ?_
  refine WL.nil ?_
  rcases ite_some hm with ⟨hc1, hm⟩ | ⟨hc1, hm⟩
  · refine W.cond_true (congrArg Value.bool hc1) ?_
    refine W.seq ?_
    refine W.region ?_
    refine O.move (v := (.int .i64 t2)) rfl rfl rfl ?_
    refine O.assign (v := (.int .i64 0)) rfl rfl rfl ?_
    refine O.assign (v := (.int .i64 t2)) rfl rfl rfl ?_
    refine WL.nil ?_
    refine W.ret ?_
    have hq : (0, t2) = (r0, r1) := Option.some.inj (show some (0, t2) = some (r0, r1) from hm)
    obtain ⟨he0, hq0⟩ := Prod.mk.inj hq; clear hq; subst he0
    subst hq0
    exact ends2 Try.results48 rfl rfl ⟨_, rfl, H.base, rfl⟩
  · refine W.cond_false (congrArg Value.bool hc1) ?_
    refine W.seq ?_
    refine W.region ?_
    refine O.move (v := (.int .i64 a2)) rfl rfl rfl ?_
    obtain ⟨t3, hy2, hm⟩ := bind_some hm
    refine O.call Try.call71 rfl rfl rfl (c_ledger_within _ _ _ hy2) ?_
    rintro _ w2 hb2 rfl
    have H := H.ext hb2
    refine O.not rfl rfl rfl ?_
    refine O.assign (v := (.bool (!t3))) rfl rfl rfl ?_
    refine WL.nil ?_
    rcases ite_some hm with ⟨hc2, hm⟩ | ⟨hc2, hm⟩
    · refine W.cond_true (congrArg Value.bool hc2) ?_
      refine W.seq ?_
      refine W.region ?_
      refine O.assign (v := (.int .i64 0)) rfl rfl rfl ?_
      refine O.assign (v := (.int .i64 7)) rfl rfl rfl ?_
      refine WL.nil ?_
      refine W.ret ?_
      have hq : (0, 7) = (r0, r1) := Option.some.inj (show some (0, 7) = some (r0, r1) from hm)
      obtain ⟨he0, hq0⟩ := Prod.mk.inj hq; clear hq; subst he0
      subst hq0
      exact ends2 Try.results48 rfl rfl ⟨_, rfl, H.base, rfl⟩
    · refine W.cond_false (congrArg Value.bool hc2) ?_
      refine W.skip ?_
      refine W.seq ?_
      refine W.region ?_
      refine O.move (v := (.int .i64 a2)) rfl rfl rfl ?_
      refine O.move (v := v1) rfl rfl rfl ?_
      refine O.lenS Try.underlying39 (H.own 0 rfl) rfl rfl rfl ?_
      obtain ⟨t4, ht4, hm⟩ := bind_some hm
      refine O.mul rfl rfl rfl rfl ht4 ?_
      refine O.assign (v := (.int .i64 t4)) rfl rfl rfl ?_
      refine O.assign (v := (.int .i64 0)) rfl rfl rfl ?_
      refine WL.nil ?_
      refine W.ret ?_
      have hq : (t4, 0) = (r0, r1) := Option.some.inj (show some (t4, 0) = some (r0, r1) from hm)
      obtain ⟨he0, hq0⟩ := Prod.mk.inj hq; clear hq; subst he0
      subst hq0
      exact ends2 Try.results48 rfl rfl ⟨_, rfl, H.base, rfl⟩

theorem c_noongunref09_Fine {w0 : World} (va0 : Value) (a0 : (List GEntry)) (ha0 : SliceR w0 va0 a0) (a1 : Int) (a2 : Int) {r0 : Int} {r1 : Int} (hm : noongunref09_Fine a0 a1 a2 = some (r0, r1)) :
    Calls Try.prog 49 #[va0, (.int .i64 a1), (.int .i64 a2)] w0 (Ret w0 fun _ v => v = .tuple #[(.int .i64 r0), (.int .i64 r1)]) := by
  unfold noongunref09_Fine at hm
  refine calls_of_W Try.func49 rfl Try.ntmps49 (Nat.le_of_ble_eq_true rfl) ?_
  have H := Inv.start (w := w0)
  refine W.seq ?_
  refine W.region ?_
  refine O.assign (v := (.int .i64 0)) rfl rfl rfl ?_
  refine O.assign (v := (.int .i64 0)) rfl rfl rfl ?_
  refine WL.nil ?_
  refine W.seq ?_
  refine W.region ?_
  refine O.move (v := va0) rfl rfl rfl ?_
  refine O.move (v := (.int .i64 a1)) rfl rfl rfl ?_
  obtain ⟨⟨t1, t2⟩, hy1, hm⟩ := bind_some hm
  refine O.call Try.call47 rfl rfl rfl (c_noongunref09_Letters _ _ (H.arg ha0) _ hy1) ?_
  rintro _ w1 hb1 ⟨v1, rfl, ho1⟩
  have H := H.addOwn hb1 ho1
  refine O.move (v := (.tuple #[v1, (.int .i64 t2)])) rfl rfl rfl ?_
  refine O.extract (v := v1) rfl rfl rfl rfl ?_
  refine O.extract (v := (.int .i64 t2)) rfl rfl rfl rfl ?_
  refine O.assign (v := v1) rfl rfl rfl ?_
  refine O.assign (v := (.int .i64 t2)) rfl rfl rfl ?_
  refine WL.nil ?_
  refine W.seq ?_
  refine W.seq ?_
  refine W.region ?_
  refine O.move (v := (.int .i64 t2)) rfl rfl rfl ?_
  refine O.neq rfl rfl rfl rfl ?_
  refine WL.nil ?_
  rcases ite_some hm with ⟨hc1, hm⟩ | ⟨hc1, hm⟩
  · refine W.cond_true (congrArg Value.bool hc1) ?_
    refine W.seq ?_
    refine W.region ?_
    refine O.move (v := (.int .i64 t2)) rfl rfl rfl ?_
    refine O.assign (v := (.int .i64 0)) rfl rfl rfl ?_
    refine O.assign (v := (.int .i64 t2)) rfl rfl rfl ?_
    refine WL.nil ?_
    refine W.ret ?_
    have hq : (0, t2) = (r0, r1) := Option.some.inj (show some (0, t2) = some (r0, r1) from hm)
    obtain ⟨he0, hq0⟩ := Prod.mk.inj hq; clear hq; subst he0
    subst hq0
    exact ends2 Try.results49 rfl rfl ⟨_, rfl, H.base, rfl⟩
  · refine W.cond_false (congrArg Value.bool hc1) ?_
    refine W.skip ?_
    refine W.seq ?_
    refine W.seq ?_
    refine W.region ?_
    refine O.move (v := (.int .i64 a2)) rfl rfl rfl ?_
    refine O.lss rfl rfl rfl rfl ?_
    refine O.move (v := (.bool (decide (a2 < 0)))) rfl rfl rfl ?_
    refine WL.cut 3 (fun f w => f 2 = (.int .i64 a2) ∧ f 8 = v1 ∧ f 24 = .bool ((decide (a2 < 0)) || (decide (1000000 < a2))) ∧ Inv w0 w [ownI (α := Int) v1 3 t1]) ?_ ?_
    · skip
      rcases bool_ft (decide (a2 < 0)) with hc2 | hc2
      · skip
        refine WL.reset (i := 21) (v := .bool false) (congrArg Value.bool hc2) ?_
        refine O.move (v := (.int .i64 a2)) rfl rfl rfl ?_
        refine O.gtr rfl rfl rfl rfl ?_
        refine O.pick_false (v := (.bool (decide (1000000 < a2)))) rfl rfl rfl rfl ?_
        refine WL.nil ?_
        exact ⟨rfl, rfl, congrArg Value.bool (or_f hc2), H⟩
      · skip
        refine WL.reset (i := 21) (v := .bool true) (congrArg Value.bool hc2) ?_
        refine O.skip rfl rfl ?_
        refine O.skip rfl rfl ?_
        refine O.pick_true (v := (.bool true)) rfl rfl rfl rfl ?_
        refine WL.nil ?_
        exact ⟨rfl, rfl, congrArg Value.bool (or_t hc2), H⟩
    · skip
      rintro f w ⟨hf2, hf8, hf24, H⟩
      obtain ⟨u1, rfl⟩ : ∃ u1, f = (upd (upd (upd u1 2 (.int .i64 a2)) 8 v1) 24 (.bool ((decide (a2 < 0)) || (decide (1000000 < a2))))) := ⟨f, by rw [upd_self hf2, upd_self hf8, upd_self hf24]⟩
      refine WL.nil ?_
      rcases ite_some hm with ⟨hc3, hm⟩ | ⟨hc3, hm⟩
      · refine W.cond_true (congrArg Value.bool hc3) ?_
        refine W.seq ?_
        refine W.region ?_
        refine O.assign (v := (.int .i64 0)) rfl rfl rfl ?_
        refine O.assign (v := (.int .i64 7)) rfl rfl rfl ?_
        refine WL.nil ?_
        refine W.ret ?_
        have hq : (0, 7) = (r0, r1) := Option.some.inj (show some (0, 7) = some (r0, r1) from hm)
        obtain ⟨he0, hq0⟩ := Prod.mk.inj hq; clear hq; subst he0
        subst hq0
        exact ends2 Try.results49 rfl rfl ⟨_, rfl, H.base, rfl⟩
      · refine W.cond_false (congrArg Value.bool hc3) ?_
        refine W.skip ?_
        refine W.seq ?_
        refine W.region ?_
        refine O.move (v := (.int .i64 a2)) rfl rfl rfl ?_
        refine O.move (v := v1) rfl rfl rfl ?_
        refine O.lenS Try.underlying39 (H.own 0 rfl) rfl rfl rfl ?_
        obtain ⟨t3, ht3, hm⟩ := bind_some hm
        refine O.mul rfl rfl rfl rfl ht3 ?_
        refine O.assign (v := (.int .i64 t3)) rfl rfl rfl ?_
        refine O.assign (v := (.int .i64 0)) rfl rfl rfl ?_
        refine WL.nil ?_
        refine W.ret ?_
        have hq : (t3, 0) = (r0, r1) := Option.some.inj (show some (t3, 0) = some (r0, r1) from hm)
        obtain ⟨he0, hq0⟩ := Prod.mk.inj hq; clear hq; subst he0
        subst hq0
        exact ends2 Try.results49 rfl rfl ⟨_, rfl, H.base, rfl⟩

set_option maxRecDepth 20000 in
theorem c_noongunlaw09_LedgerWorst {w0 : World} (va0 : Value) (a0 : (List GEntry)) (ha0 : SliceR w0 va0 a0) (a1 : Int) (a2 : Int) {r0 : Bool} (hm : noongunlaw09_LedgerWorst a0 a1 a2 = some r0) :
    Calls Try.prog 10 #[va0, (.int .i64 a1), (.int .i64 a2)] w0 (Ret w0 fun _ v => v = (.bool r0)) := by
  unfold noongunlaw09_LedgerWorst at hm
  refine calls_of_W Try.func10 rfl Try.ntmps10 (Nat.le_of_ble_eq_true rfl) ?_
  have H := Inv.start (w := w0)
  refine W.seq ?_
  refine W.region ?_
  refine O.assign (v := (.bool false)) rfl rfl rfl ?_
  refine WL.nil ?_
  refine W.seq ?_
  refine W.seq ?_
  refine W.region ?_
  refine O.move (v := va0) rfl rfl rfl ?_
  obtain ⟨t1, hy1, hm⟩ := bind_some hm
  refine O.call Try.call22 rfl rfl rfl (c_noongunlaw09_small _ _ (H.arg ha0) hy1) ?_
  rintro _ w1 hb1 rfl
  have H := H.ext hb1
  refine O.not rfl rfl rfl ?_
  refine WL.nil ?_
  rcases ite_some hm with ⟨hc1, hm⟩ | ⟨hc1, hm⟩
  · refine W.cond_true (congrArg Value.bool hc1) ?_
    refine W.seq ?_
    refine W.region ?_
    obtain ⟨t2, hy2, hm⟩ := bind_some hm
    refine O.call Try.call13 rfl rfl rfl (c_noongunlaw09_awake  hy2) ?_
    rintro _ w2 hb2 rfl
    have H := H.ext hb2
    refine O.assign (v := (.bool t2)) rfl rfl rfl ?_
    refine WL.nil ?_
    refine W.ret ?_
    have hq : t2 = r0 := Option.some.inj (show some t2 = some r0 from hm)
    subst hq
    exact ends1 Try.results10 rfl ⟨_, rfl, H.base, rfl⟩
  · refine W.cond_false (congrArg Value.bool hc1) ?_
    refine W.skip ?_
    refine W.seq ?_
    refine W.region ?_
    refine O.move (v := va0) rfl rfl rfl ?_
    obtain ⟨⟨t3, t4⟩, hy3, hm⟩ := bind_some hm
    refine O.call Try.call43 rfl rfl rfl (c_ledger_Worst _ _ (H.arg ha0) hy3) ?_
    rintro _ w3 hb3 rfl
    have H := H.ext hb3
    refine O.move (v := (.tuple #[(.int .i64 t3), (.int .i64 t4)])) rfl rfl rfl ?_
    refine O.extract (v := (.int .i64 t3)) rfl rfl rfl rfl ?_
    refine O.extract (v := (.int .i64 t4)) rfl rfl rfl rfl ?_
    refine O.assign (v := (.int .i64 t3)) rfl rfl rfl ?_
    refine O.assign (v := (.int .i64 t4)) rfl rfl rfl ?_
    refine WL.nil ?_
    refine W.seq ?_
    refine W.region ?_
    refine O.move (v := va0) rfl rfl rfl ?_
    obtain ⟨⟨t5, t6⟩, hy4, hm⟩ := bind_some hm
    refine O.call Try.call45 rfl rfl rfl (c_noongunref09_Worst _ _ (H.arg ha0) hy4) ?_
    rintro _ w4 hb4 rfl
    have H := H.ext hb4
    refine O.move (v := (.tuple #[(.int .i64 t5), (.int .i64 t6)])) rfl rfl rfl ?_
    refine O.extract (v := (.int .i64 t5)) rfl rfl rfl rfl ?_
    refine O.extract (v := (.int .i64 t6)) rfl rfl rfl rfl ?_
    refine O.assign (v := (.int .i64 t5)) rfl rfl rfl ?_
    refine O.assign (v := (.int .i64 t6)) rfl rfl rfl ?_
    refine WL.nil ?_
    refine W.seq ?_
    refine W.region ?_
    refine O.move (v := va0) rfl rfl rfl ?_
    refine O.move (v := (.int .i64 a1)) rfl rfl rfl ?_
    obtain ⟨⟨t7, t8, t9⟩, hy5, hm⟩ := bind_some hm
    refine O.call Try.call42 rfl rfl rfl (c_ledger_Streak _ _ (H.arg ha0) _ hy5) ?_
    rintro _ w5 hb5 rfl
    have H := H.ext hb5
    refine O.move (v := (.tuple #[(.int .i64 t7), (.int .i64 t8), (.int .i64 t9)])) rfl rfl rfl ?_
    refine O.extract (v := (.int .i64 t7)) rfl rfl rfl rfl ?_
    refine O.extract (v := (.int .i64 t8)) rfl rfl rfl rfl ?_
    refine O.extract (v := (.int .i64 t9)) rfl rfl rfl rfl ?_
    refine O.assign (v := (.int .i64 t7)) rfl rfl rfl ?_
    refine O.assign (v := (.int .i64 t8)) rfl rfl rfl ?_
    refine O.assign (v := (.int .i64 t9)) rfl rfl rfl ?_
    refine WL.nil ?_
    refine W.seq ?_
    refine W.region ?_
    refine O.move (v := va0) rfl rfl rfl ?_
    refine O.move (v := (.int .i64 a1)) rfl rfl rfl ?_
    obtain ⟨⟨t10, t11, t12⟩, hy6, hm⟩ := bind_some hm
    refine O.call Try.call46 rfl rfl rfl (c_noongunref09_Streak _ _ (H.arg ha0) _ hy6) ?_
    rintro _ w6 hb6 rfl
    have H := H.ext hb6
    refine O.move (v := (.tuple #[(.int .i64 t10), (.int .i64 t11), (.int .i64 t12)])) rfl rfl rfl ?_
    refine O.extract (v := (.int .i64 t10)) rfl rfl rfl rfl ?_
    refine O.extract (v := (.int .i64 t11)) rfl rfl rfl rfl ?_
    refine O.extract (v := (.int .i64 t12)) rfl rfl rfl rfl ?_
    refine O.assign (v := (.int .i64 t10)) rfl rfl rfl ?_
    refine O.assign (v := (.int .i64 t11)) rfl rfl rfl ?_
    refine O.assign (v := (.int .i64 t12)) rfl rfl rfl ?_
    refine WL.nil ?_
    refine W.seq ?_
    refine W.region ?_
    refine O.move (v := va0) rfl rfl rfl ?_
    refine O.move (v := (.int .i64 a1)) rfl rfl rfl ?_
    obtain ⟨⟨t13, t14⟩, hy7, hm⟩ := bind_some hm
    refine O.call Try.call41 rfl rfl rfl (c_ledger_Letters _ _ (H.arg ha0) _ hy7) ?_
    rintro _ w7 hb7 ⟨v1, rfl, ho1⟩
    have H := H.addOwn hb7 ho1
    refine O.move (v := (.tuple #[v1, (.int .i64 t14)])) rfl rfl rfl ?_
    refine O.extract (v := v1) rfl rfl rfl rfl ?_
    refine O.extract (v := (.int .i64 t14)) rfl rfl rfl rfl ?_
    refine O.assign (v := v1) rfl rfl rfl ?_
    refine O.assign (v := (.int .i64 t14)) rfl rfl rfl ?_
    refine WL.nil ?_
    refine W.seq ?_
    refine W.region ?_
    refine O.move (v := va0) rfl rfl rfl ?_
    refine O.move (v := (.int .i64 a1)) rfl rfl rfl ?_
    obtain ⟨⟨t15, t16⟩, hy8, hm⟩ := bind_some hm
    refine O.call Try.call47 rfl rfl rfl (c_noongunref09_Letters _ _ (H.arg ha0) _ hy8) ?_
    rintro _ w8 hb8 ⟨v2, rfl, ho2⟩
    have H := H.addOwn hb8 ho2
    refine O.move (v := (.tuple #[v2, (.int .i64 t16)])) rfl rfl rfl ?_
    refine O.extract (v := v2) rfl rfl rfl rfl ?_
    refine O.extract (v := (.int .i64 t16)) rfl rfl rfl rfl ?_
    refine O.assign (v := v2) rfl rfl rfl ?_
    refine O.assign (v := (.int .i64 t16)) rfl rfl rfl ?_
    refine WL.nil ?_
    refine W.seq ?_
    refine W.region ?_
    refine O.move (v := va0) rfl rfl rfl ?_
    refine O.move (v := (.int .i64 a1)) rfl rfl rfl ?_
    refine O.move (v := (.int .i64 a2)) rfl rfl rfl ?_
    obtain ⟨⟨t17, t18⟩, hy9, hm⟩ := bind_some hm
    refine O.call Try.call48 rfl rfl rfl (c_ledger_Fine _ _ (H.arg ha0) _ _ hy9) ?_
    rintro _ w9 hb9 rfl
    have H := H.ext hb9
    refine O.move (v := (.tuple #[(.int .i64 t17), (.int .i64 t18)])) rfl rfl rfl ?_
    refine O.extract (v := (.int .i64 t17)) rfl rfl rfl rfl ?_
    refine O.extract (v := (.int .i64 t18)) rfl rfl rfl rfl ?_
    refine O.assign (v := (.int .i64 t17)) rfl rfl rfl ?_
    refine O.assign (v := (.int .i64 t18)) rfl rfl rfl ?_
    refine WL.nil ?_
    refine W.seq ?_
    refine W.region ?_
    refine O.move (v := va0) rfl rfl rfl ?_
    refine O.move (v := (.int .i64 a1)) rfl rfl rfl ?_
    refine O.move (v := (.int .i64 a2)) rfl rfl rfl ?_
    obtain ⟨⟨t19, t20⟩, hy10, hm⟩ := bind_some hm
    refine O.call Try.call49 rfl rfl rfl (c_noongunref09_Fine _ _ (H.arg ha0) _ _ hy10) ?_
    rintro _ w10 hb10 rfl
    have H := H.ext hb10
    refine O.move (v := (.tuple #[(.int .i64 t19), (.int .i64 t20)])) rfl rfl rfl ?_
    refine O.extract (v := (.int .i64 t19)) rfl rfl rfl rfl ?_
    refine O.extract (v := (.int .i64 t20)) rfl rfl rfl rfl ?_
    refine O.assign (v := (.int .i64 t19)) rfl rfl rfl ?_
    refine O.assign (v := (.int .i64 t20)) rfl rfl rfl ?_
    refine WL.nil ?_
    refine W.seq ?_
    refine W.region ?_
    refine O.move (v := (.int .i64 t3)) rfl rfl rfl ?_
    refine O.move (v := (.int .i64 t5)) rfl rfl rfl ?_
    refine O.eql rfl rfl rfl rfl ?_
    refine O.move (v := (.bool (t3 == t5))) rfl rfl rfl ?_
    refine WL.cut 4 (fun f w => f 11 = (.int .i64 t7) ∧ f 12 = (.int .i64 t8) ∧ f 13 = (.int .i64 t9) ∧ f 14 = (.int .i64 t10) ∧ f 15 = (.int .i64 t11) ∧ f 16 = (.int .i64 t12) ∧ f 17 = v1 ∧ f 18 = (.int .i64 t14) ∧ f 19 = v2 ∧ f 20 = (.int .i64 t16) ∧ f 21 = (.int .i64 t17) ∧ f 22 = (.int .i64 t18) ∧ f 23 = (.int .i64 t19) ∧ f 24 = (.int .i64 t20) ∧ f 86 = .bool ((t3 == t5) && (t4 == t6)) ∧ Inv w0 w [ownI (α := Int) v1 3 t13, ownI (α := Int) v2 3 t15]) ?_ ?_
    · skip
      rcases bool_ft (t3 == t5) with hc2 | hc2
      · skip
        refine WL.reset (i := 82) (v := .bool false) (congrArg Value.bool hc2) ?_
        refine O.skip rfl rfl ?_
        refine O.skip rfl rfl ?_
        refine O.skip rfl rfl ?_
        refine O.pick_false (v := (.bool false)) rfl rfl rfl rfl ?_
        refine WL.nil ?_
        exact ⟨rfl, rfl, rfl, rfl, rfl, rfl, rfl, rfl, rfl, rfl, rfl, rfl, rfl, rfl, congrArg Value.bool (and_f hc2), H⟩
      · skip
        refine WL.reset (i := 82) (v := .bool true) (congrArg Value.bool hc2) ?_
        refine O.move (v := (.int .i64 t4)) rfl rfl rfl ?_
        refine O.move (v := (.int .i64 t6)) rfl rfl rfl ?_
        refine O.eql rfl rfl rfl rfl ?_
        refine O.pick_true (v := (.bool (t4 == t6))) rfl rfl rfl rfl ?_
        refine WL.nil ?_
        exact ⟨rfl, rfl, rfl, rfl, rfl, rfl, rfl, rfl, rfl, rfl, rfl, rfl, rfl, rfl, congrArg Value.bool (and_t hc2), H⟩
    · skip
      rintro f w ⟨hf11, hf12, hf13, hf14, hf15, hf16, hf17, hf18, hf19, hf20, hf21, hf22, hf23, hf24, hf86, H⟩
      obtain ⟨u1, rfl⟩ : ∃ u1, f = (upd (upd (upd (upd (upd (upd (upd (upd (upd (upd (upd (upd (upd (upd (upd u1 11 (.int .i64 t7)) 12 (.int .i64 t8)) 13 (.int .i64 t9)) 14 (.int .i64 t10)) 15 (.int .i64 t11)) 16 (.int .i64 t12)) 17 v1) 18 (.int .i64 t14)) 19 v2) 20 (.int .i64 t16)) 21 (.int .i64 t17)) 22 (.int .i64 t18)) 23 (.int .i64 t19)) 24 (.int .i64 t20)) 86 (.bool ((t3 == t5) && (t4 == t6)))) := ⟨f, by rw [upd_self hf11, upd_self hf12, upd_self hf13, upd_self hf14, upd_self hf15, upd_self hf16, upd_self hf17, upd_self hf18, upd_self hf19, upd_self hf20, upd_self hf21, upd_self hf22, upd_self hf23, upd_self hf24, upd_self hf86]⟩
      refine O.move (v := (.bool ((t3 == t5) && (t4 == t6)))) rfl rfl rfl ?_
      refine WL.cut 4 (fun f w => f 12 = (.int .i64 t8) ∧ f 13 = (.int .i64 t9) ∧ f 15 = (.int .i64 t11) ∧ f 16 = (.int .i64 t12) ∧ f 17 = v1 ∧ f 18 = (.int .i64 t14) ∧ f 19 = v2 ∧ f 20 = (.int .i64 t16) ∧ f 21 = (.int .i64 t17) ∧ f 22 = (.int .i64 t18) ∧ f 23 = (.int .i64 t19) ∧ f 24 = (.int .i64 t20) ∧ f 91 = .bool (((t3 == t5) && (t4 == t6)) && (t7 == t10)) ∧ Inv w0 w [ownI (α := Int) v1 3 t13, ownI (α := Int) v2 3 t15]) ?_ ?_
      · skip
        rcases bool_ft ((t3 == t5) && (t4 == t6)) with hc3 | hc3
        · skip
          refine WL.reset (i := 87) (v := .bool false) (congrArg Value.bool hc3) ?_
          refine O.skip rfl rfl ?_
          refine O.skip rfl rfl ?_
          refine O.skip rfl rfl ?_
          refine O.pick_false (v := (.bool false)) rfl rfl rfl rfl ?_
          refine WL.nil ?_
          exact ⟨rfl, rfl, rfl, rfl, rfl, rfl, rfl, rfl, rfl, rfl, rfl, rfl, congrArg Value.bool (and_f hc3), H⟩
        · skip
          refine WL.reset (i := 87) (v := .bool true) (congrArg Value.bool hc3) ?_
          refine O.move (v := (.int .i64 t7)) rfl rfl rfl ?_
          refine O.move (v := (.int .i64 t10)) rfl rfl rfl ?_
          refine O.eql rfl rfl rfl rfl ?_
          refine O.pick_true (v := (.bool (t7 == t10))) rfl rfl rfl rfl ?_
          refine WL.nil ?_
          exact ⟨rfl, rfl, rfl, rfl, rfl, rfl, rfl, rfl, rfl, rfl, rfl, rfl, congrArg Value.bool (and_t hc3), H⟩
      · skip
        rintro f w ⟨hf12, hf13, hf15, hf16, hf17, hf18, hf19, hf20, hf21, hf22, hf23, hf24, hf91, H⟩
        obtain ⟨u2, rfl⟩ : ∃ u2, f = (upd (upd (upd (upd (upd (upd (upd (upd (upd (upd (upd (upd (upd u2 12 (.int .i64 t8)) 13 (.int .i64 t9)) 15 (.int .i64 t11)) 16 (.int .i64 t12)) 17 v1) 18 (.int .i64 t14)) 19 v2) 20 (.int .i64 t16)) 21 (.int .i64 t17)) 22 (.int .i64 t18)) 23 (.int .i64 t19)) 24 (.int .i64 t20)) 91 (.bool (((t3 == t5) && (t4 == t6)) && (t7 == t10)))) := ⟨f, by rw [upd_self hf12, upd_self hf13, upd_self hf15, upd_self hf16, upd_self hf17, upd_self hf18, upd_self hf19, upd_self hf20, upd_self hf21, upd_self hf22, upd_self hf23, upd_self hf24, upd_self hf91]⟩
        refine O.move (v := (.bool (((t3 == t5) && (t4 == t6)) && (t7 == t10)))) rfl rfl rfl ?_
        refine WL.cut 4 (fun f w => f 13 = (.int .i64 t9) ∧ f 16 = (.int .i64 t12) ∧ f 17 = v1 ∧ f 18 = (.int .i64 t14) ∧ f 19 = v2 ∧ f 20 = (.int .i64 t16) ∧ f 21 = (.int .i64 t17) ∧ f 22 = (.int .i64 t18) ∧ f 23 = (.int .i64 t19) ∧ f 24 = (.int .i64 t20) ∧ f 96 = .bool ((((t3 == t5) && (t4 == t6)) && (t7 == t10)) && (t8 == t11)) ∧ Inv w0 w [ownI (α := Int) v1 3 t13, ownI (α := Int) v2 3 t15]) ?_ ?_
        · skip
          rcases bool_ft (((t3 == t5) && (t4 == t6)) && (t7 == t10)) with hc4 | hc4
          · skip
            refine WL.reset (i := 92) (v := .bool false) (congrArg Value.bool hc4) ?_
            refine O.skip rfl rfl ?_
            refine O.skip rfl rfl ?_
            refine O.skip rfl rfl ?_
            refine O.pick_false (v := (.bool false)) rfl rfl rfl rfl ?_
            refine WL.nil ?_
            exact ⟨rfl, rfl, rfl, rfl, rfl, rfl, rfl, rfl, rfl, rfl, congrArg Value.bool (and_f hc4), H⟩
          · skip
            refine WL.reset (i := 92) (v := .bool true) (congrArg Value.bool hc4) ?_
            refine O.move (v := (.int .i64 t8)) rfl rfl rfl ?_
            refine O.move (v := (.int .i64 t11)) rfl rfl rfl ?_
            refine O.eql rfl rfl rfl rfl ?_
            refine O.pick_true (v := (.bool (t8 == t11))) rfl rfl rfl rfl ?_
            refine WL.nil ?_
            exact ⟨rfl, rfl, rfl, rfl, rfl, rfl, rfl, rfl, rfl, rfl, congrArg Value.bool (and_t hc4), H⟩
        · skip
          rintro f w ⟨hf13, hf16, hf17, hf18, hf19, hf20, hf21, hf22, hf23, hf24, hf96, H⟩
          obtain ⟨u3, rfl⟩ : ∃ u3, f = (upd (upd (upd (upd (upd (upd (upd (upd (upd (upd (upd u3 13 (.int .i64 t9)) 16 (.int .i64 t12)) 17 v1) 18 (.int .i64 t14)) 19 v2) 20 (.int .i64 t16)) 21 (.int .i64 t17)) 22 (.int .i64 t18)) 23 (.int .i64 t19)) 24 (.int .i64 t20)) 96 (.bool ((((t3 == t5) && (t4 == t6)) && (t7 == t10)) && (t8 == t11)))) := ⟨f, by rw [upd_self hf13, upd_self hf16, upd_self hf17, upd_self hf18, upd_self hf19, upd_self hf20, upd_self hf21, upd_self hf22, upd_self hf23, upd_self hf24, upd_self hf96]⟩
          refine O.move (v := (.bool ((((t3 == t5) && (t4 == t6)) && (t7 == t10)) && (t8 == t11)))) rfl rfl rfl ?_
          refine WL.cut 4 (fun f w => f 17 = v1 ∧ f 18 = (.int .i64 t14) ∧ f 19 = v2 ∧ f 20 = (.int .i64 t16) ∧ f 21 = (.int .i64 t17) ∧ f 22 = (.int .i64 t18) ∧ f 23 = (.int .i64 t19) ∧ f 24 = (.int .i64 t20) ∧ f 101 = .bool (((((t3 == t5) && (t4 == t6)) && (t7 == t10)) && (t8 == t11)) && (t9 == t12)) ∧ Inv w0 w [ownI (α := Int) v1 3 t13, ownI (α := Int) v2 3 t15]) ?_ ?_
          · skip
            rcases bool_ft ((((t3 == t5) && (t4 == t6)) && (t7 == t10)) && (t8 == t11)) with hc5 | hc5
            · skip
              refine WL.reset (i := 97) (v := .bool false) (congrArg Value.bool hc5) ?_
              refine O.skip rfl rfl ?_
              refine O.skip rfl rfl ?_
              refine O.skip rfl rfl ?_
              refine O.pick_false (v := (.bool false)) rfl rfl rfl rfl ?_
              refine WL.nil ?_
              exact ⟨rfl, rfl, rfl, rfl, rfl, rfl, rfl, rfl, congrArg Value.bool (and_f hc5), H⟩
            · skip
              refine WL.reset (i := 97) (v := .bool true) (congrArg Value.bool hc5) ?_
              refine O.move (v := (.int .i64 t9)) rfl rfl rfl ?_
              refine O.move (v := (.int .i64 t12)) rfl rfl rfl ?_
              refine O.eql rfl rfl rfl rfl ?_
              refine O.pick_true (v := (.bool (t9 == t12))) rfl rfl rfl rfl ?_
              refine WL.nil ?_
              exact ⟨rfl, rfl, rfl, rfl, rfl, rfl, rfl, rfl, congrArg Value.bool (and_t hc5), H⟩
          · skip
            rintro f w ⟨hf17, hf18, hf19, hf20, hf21, hf22, hf23, hf24, hf101, H⟩
            obtain ⟨u4, rfl⟩ : ∃ u4, f = (upd (upd (upd (upd (upd (upd (upd (upd (upd u4 17 v1) 18 (.int .i64 t14)) 19 v2) 20 (.int .i64 t16)) 21 (.int .i64 t17)) 22 (.int .i64 t18)) 23 (.int .i64 t19)) 24 (.int .i64 t20)) 101 (.bool (((((t3 == t5) && (t4 == t6)) && (t7 == t10)) && (t8 == t11)) && (t9 == t12)))) := ⟨f, by rw [upd_self hf17, upd_self hf18, upd_self hf19, upd_self hf20, upd_self hf21, upd_self hf22, upd_self hf23, upd_self hf24, upd_self hf101]⟩
            refine O.move (v := (.bool (((((t3 == t5) && (t4 == t6)) && (t7 == t10)) && (t8 == t11)) && (t9 == t12)))) rfl rfl rfl ?_
            obtain ⟨b1, hm1, hm⟩ := bind_some hm
            refine WL.cut 4 (fun f w => f 18 = (.int .i64 t14) ∧ f 20 = (.int .i64 t16) ∧ f 21 = (.int .i64 t17) ∧ f 22 = (.int .i64 t18) ∧ f 23 = (.int .i64 t19) ∧ f 24 = (.int .i64 t20) ∧ f 106 = .bool b1 ∧ Inv w0 w [ownI (α := Int) v1 3 t13, ownI (α := Int) v2 3 t15]) ?_ ?_
            · skip
              rcases ite_some hm1 with ⟨hc6, hm1⟩ | ⟨hc6, hm1⟩
              · skip
                refine WL.reset (i := 102) (v := .bool true) (congrArg Value.bool hc6) ?_
                refine O.move (v := v1) rfl rfl rfl ?_
                refine O.move (v := v2) rfl rfl rfl ?_
                obtain ⟨t21, hy11, hm1⟩ := bind_some hm1
                refine O.call Try.call40 rfl rfl rfl (c_noongunref09_SameInts _ _ (H.own 0 rfl) _ _ (H.own 1 rfl) hy11) ?_
                rintro _ w11 hb11 rfl
                have H := H.ext hb11
                refine O.pick_true (v := (.bool t21)) rfl rfl rfl rfl ?_
                refine WL.nil ?_
                have hq : t21 = b1 := Option.some.inj (show some t21 = some b1 from hm1)
                subst hq
                exact ⟨rfl, rfl, rfl, rfl, rfl, rfl, rfl, H⟩
              · skip
                refine WL.reset (i := 102) (v := .bool false) (congrArg Value.bool hc6) ?_
                refine O.skip rfl rfl ?_
                refine O.skip rfl rfl ?_
                refine O.skip rfl rfl ?_
                refine O.pick_false (v := (.bool false)) rfl rfl rfl rfl ?_
                refine WL.nil ?_
                have hq : false = b1 := Option.some.inj (show some false = some b1 from hm1)
                subst hq
                exact ⟨rfl, rfl, rfl, rfl, rfl, rfl, rfl, H⟩
            · skip
              rintro f w ⟨hf18, hf20, hf21, hf22, hf23, hf24, hf106, H⟩
              obtain ⟨u5, rfl⟩ : ∃ u5, f = (upd (upd (upd (upd (upd (upd (upd u5 18 (.int .i64 t14)) 20 (.int .i64 t16)) 21 (.int .i64 t17)) 22 (.int .i64 t18)) 23 (.int .i64 t19)) 24 (.int .i64 t20)) 106 (.bool b1)) := ⟨f, by rw [upd_self hf18, upd_self hf20, upd_self hf21, upd_self hf22, upd_self hf23, upd_self hf24, upd_self hf106]⟩
              refine O.move (v := (.bool b1)) rfl rfl rfl ?_
              refine WL.cut 4 (fun f w => f 21 = (.int .i64 t17) ∧ f 22 = (.int .i64 t18) ∧ f 23 = (.int .i64 t19) ∧ f 24 = (.int .i64 t20) ∧ f 111 = .bool (b1 && (t14 == t16)) ∧ Inv w0 w [ownI (α := Int) v1 3 t13, ownI (α := Int) v2 3 t15]) ?_ ?_
              · skip
                rcases bool_ft b1 with hc7 | hc7
                · skip
                  refine WL.reset (i := 107) (v := .bool false) (congrArg Value.bool hc7) ?_
                  refine O.skip rfl rfl ?_
                  refine O.skip rfl rfl ?_
                  refine O.skip rfl rfl ?_
                  refine O.pick_false (v := (.bool false)) rfl rfl rfl rfl ?_
                  refine WL.nil ?_
                  exact ⟨rfl, rfl, rfl, rfl, congrArg Value.bool (and_f hc7), H⟩
                · skip
                  refine WL.reset (i := 107) (v := .bool true) (congrArg Value.bool hc7) ?_
                  refine O.move (v := (.int .i64 t14)) rfl rfl rfl ?_
                  refine O.move (v := (.int .i64 t16)) rfl rfl rfl ?_
                  refine O.eql rfl rfl rfl rfl ?_
                  refine O.pick_true (v := (.bool (t14 == t16))) rfl rfl rfl rfl ?_
                  refine WL.nil ?_
                  exact ⟨rfl, rfl, rfl, rfl, congrArg Value.bool (and_t hc7), H⟩
              · skip
                rintro f w ⟨hf21, hf22, hf23, hf24, hf111, H⟩
                obtain ⟨u6, rfl⟩ : ∃ u6, f = (upd (upd (upd (upd (upd u6 21 (.int .i64 t17)) 22 (.int .i64 t18)) 23 (.int .i64 t19)) 24 (.int .i64 t20)) 111 (.bool (b1 && (t14 == t16)))) := ⟨f, by rw [upd_self hf21, upd_self hf22, upd_self hf23, upd_self hf24, upd_self hf111]⟩
                refine O.move (v := (.bool (b1 && (t14 == t16)))) rfl rfl rfl ?_
                refine WL.cut 4 (fun f w => f 22 = (.int .i64 t18) ∧ f 24 = (.int .i64 t20) ∧ f 116 = .bool ((b1 && (t14 == t16)) && (t17 == t19)) ∧ Inv w0 w [ownI (α := Int) v1 3 t13, ownI (α := Int) v2 3 t15]) ?_ ?_
                · skip
                  rcases bool_ft (b1 && (t14 == t16)) with hc8 | hc8
                  · skip
                    refine WL.reset (i := 112) (v := .bool false) (congrArg Value.bool hc8) ?_
                    refine O.skip rfl rfl ?_
                    refine O.skip rfl rfl ?_
                    refine O.skip rfl rfl ?_
                    refine O.pick_false (v := (.bool false)) rfl rfl rfl rfl ?_
                    refine WL.nil ?_
                    exact ⟨rfl, rfl, congrArg Value.bool (and_f hc8), H⟩
                  · skip
                    refine WL.reset (i := 112) (v := .bool true) (congrArg Value.bool hc8) ?_
                    refine O.move (v := (.int .i64 t17)) rfl rfl rfl ?_
                    refine O.move (v := (.int .i64 t19)) rfl rfl rfl ?_
                    refine O.eql rfl rfl rfl rfl ?_
                    refine O.pick_true (v := (.bool (t17 == t19))) rfl rfl rfl rfl ?_
                    refine WL.nil ?_
                    exact ⟨rfl, rfl, congrArg Value.bool (and_t hc8), H⟩
                · skip
                  rintro f w ⟨hf22, hf24, hf116, H⟩
                  obtain ⟨u7, rfl⟩ : ∃ u7, f = (upd (upd (upd u7 22 (.int .i64 t18)) 24 (.int .i64 t20)) 116 (.bool ((b1 && (t14 == t16)) && (t17 == t19)))) := ⟨f, by rw [upd_self hf22, upd_self hf24, upd_self hf116]⟩
                  refine O.move (v := (.bool ((b1 && (t14 == t16)) && (t17 == t19)))) rfl rfl rfl ?_
                  refine WL.cut 4 (fun f w => f 121 = .bool (((b1 && (t14 == t16)) && (t17 == t19)) && (t18 == t20)) ∧ Inv w0 w [ownI (α := Int) v1 3 t13, ownI (α := Int) v2 3 t15]) ?_ ?_
                  · skip
                    rcases bool_ft ((b1 && (t14 == t16)) && (t17 == t19)) with hc9 | hc9
                    · skip
                      refine WL.reset (i := 117) (v := .bool false) (congrArg Value.bool hc9) ?_
                      refine O.skip rfl rfl ?_
                      refine O.skip rfl rfl ?_
                      refine O.skip rfl rfl ?_
                      refine O.pick_false (v := (.bool false)) rfl rfl rfl rfl ?_
                      refine WL.nil ?_
                      exact ⟨congrArg Value.bool (and_f hc9), H⟩
                    · skip
                      refine WL.reset (i := 117) (v := .bool true) (congrArg Value.bool hc9) ?_
                      refine O.move (v := (.int .i64 t18)) rfl rfl rfl ?_
                      refine O.move (v := (.int .i64 t20)) rfl rfl rfl ?_
                      refine O.eql rfl rfl rfl rfl ?_
                      refine O.pick_true (v := (.bool (t18 == t20))) rfl rfl rfl rfl ?_
                      refine WL.nil ?_
                      exact ⟨congrArg Value.bool (and_t hc9), H⟩
                  · skip
                    rintro f w ⟨hf121, H⟩
                    obtain ⟨u8, rfl⟩ : ∃ u8, f = (upd u8 121 (.bool (((b1 && (t14 == t16)) && (t17 == t19)) && (t18 == t20)))) := ⟨f, by rw [upd_self hf121]⟩
                    refine O.move (v := (.bool (((b1 && (t14 == t16)) && (t17 == t19)) && (t18 == t20)))) rfl rfl rfl ?_
                    obtain ⟨b2, hm2, hm⟩ := bind_some hm
                    refine WL.cut 2 (fun f w => f 124 = .bool b2 ∧ Inv w0 w [ownI (α := Int) v1 3 t13, ownI (α := Int) v2 3 t15]) ?_ ?_
                    · skip
                      rcases ite_some hm2 with ⟨hc10, hm2⟩ | ⟨hc10, hm2⟩
                      · skip
                        refine WL.reset (i := 122) (v := .bool true) (congrArg Value.bool hc10) ?_
                        obtain ⟨t22, hy12, hm2⟩ := bind_some hm2
                        refine O.call Try.call13 rfl rfl rfl (c_noongunlaw09_awake  hy12) ?_
                        rintro _ w12 hb12 rfl
                        have H := H.ext hb12
                        refine O.pick_true (v := (.bool t22)) rfl rfl rfl rfl ?_
                        refine WL.nil ?_
                        have hq : t22 = b2 := Option.some.inj (show some t22 = some b2 from hm2)
                        subst hq
                        exact ⟨rfl, H⟩
                      · skip
                        refine WL.reset (i := 122) (v := .bool false) (congrArg Value.bool hc10) ?_
                        refine O.skip rfl rfl ?_
                        refine O.pick_false (v := (.bool false)) rfl rfl rfl rfl ?_
                        refine WL.nil ?_
                        have hq : false = b2 := Option.some.inj (show some false = some b2 from hm2)
                        subst hq
                        exact ⟨rfl, H⟩
                    · skip
                      rintro f w ⟨hf124, H⟩
                      obtain ⟨u9, rfl⟩ : ∃ u9, f = (upd u9 124 (.bool b2)) := ⟨f, by rw [upd_self hf124]⟩
                      refine O.assign (v := (.bool b2)) rfl rfl rfl ?_
                      refine WL.nil ?_
                      refine W.ret ?_
                      have hq : b2 = r0 := Option.some.inj (show some b2 = some r0 from hm)
                      subst hq
                      exact ends1 Try.results10 rfl ⟨_, rfl, H.base, rfl⟩

set_option maxRecDepth 20000 in
theorem c_ledger_stretch {w0 : World} (va0 : Value) (a0 : (List GEntry)) (ha0 : SliceR w0 va0 a0) (a1 : Int) (a2 : Int) {r0 : (List Int)} {r1 : Int} (hm : ledger_stretch a0 a1 a2 = some (r0, r1)) :
    Calls Try.prog 85 #[va0, (.int .i64 a1), (.int .i64 a2)] w0 (Ret w0 fun w v => ∃ vr0 : Value, v = .tuple #[vr0, (.int .i64 r1)] ∧ OwnR w0 w vr0 3 r0) := by
  unfold ledger_stretch at hm
  refine calls_of_WM Try.func85 rfl Try.ntmps85 (Nat.le_of_ble_eq_true rfl) ?_
  have H := Inv.startM (w0 := w0)
  have hmk : (fr0 #[va0, (.int .i64 a1), (.int .i64 a2)]).marks = [] := rfl
  refine W.seq ?_
  refine W.region ?_
  refine O.box [(.int .i64 a1)] H rfl rfl rfl rfl ?_
  intro b1 w1 H hb1
  refine O.box [(.int .i64 a2)] H rfl rfl rfl rfl ?_
  intro b2 w2 H hb2
  have H := H.addNil (α := Int) (E := 3)
  refine O.assign (v := (.slice none 0 0)) rfl rfl rfl ?_
  refine O.assign (v := (.int .i64 0)) rfl rfl rfl ?_
  refine WL.nil ?_
  refine W.seq ?_
  refine W.block ?_
  refine W.seq ?_
  refine W.region ?_
  refine O.move (v := va0) rfl rfl rfl ?_
  obtain ⟨t1, hy1, hm⟩ := bind_some hm
  refine O.call Try.call20 rfl rfl rfl (c_ledger_Valid _ _ (H.arg ha0) hy1) ?_
  rintro _ w3 hb3 rfl
  have H := H.ext hb3
  refine O.not rfl rfl rfl ?_
  refine O.assign (v := (.bool (!t1))) rfl rfl rfl ?_
  refine WL.nil ?_
  rcases ite_some hm with ⟨hc1, hm⟩ | ⟨hc1, hm⟩
  · refine W.cond_true (congrArg Value.bool hc1) ?_
    refine W.seq ?_
    refine W.region ?_
    have H := H.addNil (α := Int) (E := 3)
    refine O.assign (v := (.slice none 0 0)) rfl rfl rfl ?_
    refine O.assign (v := (.int .i64 1)) rfl rfl rfl ?_
    refine WL.nil ?_
    refine W.ret ?_
    refine endsM_mk H hmk ?_
    intro w H _
    have hq : (([] : List Int), 1) = (r0, r1) := Option.some.inj (show some (([] : List Int), 1) = some (r0, r1) from hm)
    obtain ⟨he0, hq0⟩ := Prod.mk.inj hq; clear hq; subst he0
    subst hq0
    exact ends2 Try.results85 rfl rfl ⟨_, rfl, H.base, ⟨_, rfl, H.ownR 4 rfl⟩⟩
  · refine W.cond_false (congrArg Value.bool hc1) ?_
    refine W.seq ?_
    refine W.region ?_
    refine O.load sc3 rfl rfl rfl (H.cell 1 rfl 0 _ rfl) ?_
    obtain ⟨t2, hy2, hm⟩ := bind_some hm
    refine O.call Try.call66 rfl rfl rfl (c_ledger_isDay _ hy2) ?_
    rintro _ w4 hb4 rfl
    have H := H.ext hb4
    refine O.not rfl rfl rfl ?_
    refine O.move (v := (.bool (!t2))) rfl rfl rfl ?_
    obtain ⟨b3, hm1, hm⟩ := bind_some hm
    refine WL.cut 4 (fun f w => f 0 = va0 ∧ f 4 = (.pointer (some ⟨b1, 0, none⟩)) ∧ f 5 = (.pointer (some ⟨b2, 0, none⟩)) ∧ f 23 = .bool b3 ∧ f.marks = [] ∧ Inv w0 w [marksI [], boxI b1 3 [(.int .i64 a1)], boxI b2 3 [(.int .i64 a2)], ownI (α := Int) (.slice none 0 0) 3 ([] : List Int)]) ?_ ?_
    · skip
      rcases ite_some hm1 with ⟨hc2, hm1⟩ | ⟨hc2, hm1⟩
      · skip
        refine WL.reset (i := 19) (v := .bool true) (congrArg Value.bool hc2) ?_
        refine O.skip rfl rfl ?_
        refine O.skip rfl rfl ?_
        refine O.skip rfl rfl ?_
        refine O.pick_true (v := (.bool true)) rfl rfl rfl rfl ?_
        refine WL.nil ?_
        have hq : true = b3 := Option.some.inj (show some true = some b3 from hm1)
        subst hq
        exact ⟨rfl, rfl, rfl, rfl, hmk, H⟩
      · skip
        refine WL.reset (i := 19) (v := .bool false) (congrArg Value.bool hc2) ?_
        refine O.load sc3 rfl rfl rfl (H.cell 2 rfl 0 _ rfl) ?_
        obtain ⟨t3, hy3, hm1⟩ := bind_some hm1
        refine O.call Try.call66 rfl rfl rfl (c_ledger_isDay _ hy3) ?_
        rintro _ w5 hb5 rfl
        have H := H.ext hb5
        refine O.not rfl rfl rfl ?_
        refine O.pick_false (v := (.bool (!t3))) rfl rfl rfl rfl ?_
        refine WL.nil ?_
        have hq : (!t3) = b3 := Option.some.inj (show some (!t3) = some b3 from hm1)
        subst hq
        exact ⟨rfl, rfl, rfl, rfl, hmk, H⟩
    · skip
      rintro f w ⟨hf0, hf4, hf5, hf23, hmk, H⟩
      obtain ⟨u1, rfl⟩ : ∃ u1, f = (upd (upd (upd (upd u1 0 va0) 4 (.pointer (some ⟨b1, 0, none⟩))) 5 (.pointer (some ⟨b2, 0, none⟩))) 23 (.bool b3)) := ⟨f, by rw [upd_self hf0, upd_self hf4, upd_self hf5, upd_self hf23]⟩
      refine O.move (v := (.bool b3)) rfl rfl rfl ?_
      refine WL.cut 4 (fun f w => f 0 = va0 ∧ f 4 = (.pointer (some ⟨b1, 0, none⟩)) ∧ f 5 = (.pointer (some ⟨b2, 0, none⟩)) ∧ f 28 = .bool (b3 || (decide (a2 < a1))) ∧ f.marks = [] ∧ Inv w0 w [marksI [], boxI b1 3 [(.int .i64 a1)], boxI b2 3 [(.int .i64 a2)], ownI (α := Int) (.slice none 0 0) 3 ([] : List Int)]) ?_ ?_
      · skip
        rcases bool_ft b3 with hc3 | hc3
        · skip
          refine WL.reset (i := 24) (v := .bool false) (congrArg Value.bool hc3) ?_
          refine O.load sc3 rfl rfl rfl (H.cell 1 rfl 0 _ rfl) ?_
          refine O.load sc3 rfl rfl rfl (H.cell 2 rfl 0 _ rfl) ?_
          refine O.gtr rfl rfl rfl rfl ?_
          refine O.pick_false (v := (.bool (decide (a2 < a1)))) rfl rfl rfl rfl ?_
          refine WL.nil ?_
          exact ⟨rfl, rfl, rfl, congrArg Value.bool (or_f hc3), hmk, H⟩
        · skip
          refine WL.reset (i := 24) (v := .bool true) (congrArg Value.bool hc3) ?_
          refine O.skip rfl rfl ?_
          refine O.skip rfl rfl ?_
          refine O.skip rfl rfl ?_
          refine O.pick_true (v := (.bool true)) rfl rfl rfl rfl ?_
          refine WL.nil ?_
          exact ⟨rfl, rfl, rfl, congrArg Value.bool (or_t hc3), hmk, H⟩
      · skip
        rintro f w ⟨hf0, hf4, hf5, hf28, hmk, H⟩
        obtain ⟨u2, rfl⟩ : ∃ u2, f = (upd (upd (upd (upd u2 0 va0) 4 (.pointer (some ⟨b1, 0, none⟩))) 5 (.pointer (some ⟨b2, 0, none⟩))) 28 (.bool (b3 || (decide (a2 < a1))))) := ⟨f, by rw [upd_self hf0, upd_self hf4, upd_self hf5, upd_self hf28]⟩
        refine O.assign (v := (.bool (b3 || (decide (a2 < a1))))) rfl rfl rfl ?_
        refine WL.nil ?_
        rcases ite_some hm with ⟨hc4, hm⟩ | ⟨hc4, hm⟩
        · refine W.cond_true (congrArg Value.bool hc4) ?_
          refine W.seq ?_
          refine W.region ?_
          have H := H.addNil (α := Int) (E := 3)
          refine O.assign (v := (.slice none 0 0)) rfl rfl rfl ?_
          refine O.assign (v := (.int .i64 7)) rfl rfl rfl ?_
          refine WL.nil ?_
          refine W.ret ?_
          refine endsM_mk H hmk ?_
          intro w H _
          have hq : (([] : List Int), 7) = (r0, r1) := Option.some.inj (show some (([] : List Int), 7) = some (r0, r1) from hm)
          obtain ⟨he0, hq0⟩ := Prod.mk.inj hq; clear hq; subst he0
          subst hq0
          exact ends2 Try.results85 rfl rfl ⟨_, rfl, H.base, ⟨_, rfl, H.ownR 4 rfl⟩⟩
        · refine W.cond_false (congrArg Value.bool hc4) ?_
          refine W.skip ?_
          refine W.seq ?_
          refine W.region ?_
          refine O.alloc [(.slice none 0 0)] ze39 H rfl rfl rfl ?_
          intro b4 w6 H hb6
          have H := H.addNil (α := Int) (E := 3)
          refine WL.nil ?_
          refine W.seq ?_
          refine W.seq ?_
          refine W.region ?_
          refine O.move (v := va0) rfl rfl rfl ?_
          obtain ⟨t4, hy4, hm⟩ := bind_some hm
          refine O.call Try.call67 rfl rfl rfl (c_ledger_pageOf _ _ (H.arg ha0) hy4) ?_
          rintro _ w7 hb7 ⟨m1, rfl, ho1a, ho1b⟩
          have H := H.addMap hb7 ho1a ho1b
          refine O.call Try.call83 rfl rfl rfl (c_ledger_page_days m1 t4 (H.mapOk 6 rfl)) ?_
          rintro _ w8 hb8 ⟨b5, b6, ra1, rfl, hM1⟩
          have H := H.addAll hb8 hM1
          refine WL.nil ?_
          obtain ⟨xs1, hxs1, hm⟩ := bind_some hm
          obtain ⟨s1, hm2, hm⟩ := bind_some hm
          refine W.via (fun f w => ∃ ms1 : List Nat, ∃ v4 : Value, f 8 = (.pointer (some ⟨b4, 0, none⟩)) ∧ f.marks = ms1 ∧ Inv w0 w [marksI ms1, boxI b4 39 [v4], ownI (α := Int) v4 3 s1]) ?_ ?_
          · skip
            refine W.block ?_
            have H := H.keep [0, 1, 2, 4, 5, 6, 7, 8, 9] [marksI [], boxI b1 3 [(.int .i64 a1)], boxI b2 3 [(.int .i64 a2)], boxI b4 39 [(.slice none 0 0)], ownI (α := Int) (.slice none 0 0) 3 ([] : List Int), mapI (K := GKey) (V := Int) m1 t4, boxI b5 94 [(.map (some ra1))], boxI b6 57 [(.map (some m1))], daysI ra1 t4] rfl (by decide)
            refine W.rangeFuncL (α := (Int × Int)) (σ := (List Int)) (X := (List Int)) (xs := xs1) (rep := (repP (α := Int) (β := Int))) hm2 (fun s L => ∃ z2 : (List Int), ∃ v2 : Value, z2 = s ∧ L = [boxI b1 3 [(.int .i64 a1)], boxI b2 3 [(.int .i64 a2)], boxI b4 39 [v2], ownI (α := Int) v2 3 z2, mapI (K := GKey) (V := Int) m1 t4, boxI b5 94 [(.map (some ra1))], boxI b6 57 [(.map (some m1))], daysI ra1 t4]) (fun y j L => match j with | some j => j = 1 ∧ (False) | none => False) rfl Try.call94 rfl (fun _ _ _ h => by rw [h]; rfl) (fun Kp W hs hk => it_ledger_page_days_c1 _ ra1 t4 _ m1 hxs1 fun w1 hw => by obtain ⟨_, _, _, _, ⟨_, _, _, rfl⟩, H⟩ := hk w1 hw; exact ⟨H.cell 8 rfl, H.days 10 rfl, H.cell 9 rfl, H.mapOk 7 rfl⟩) H ⟨_, (.slice none 0 0), rfl, rfl⟩ ?_ ?_ ?_ ?_
            · skip
              rintro _ rs lp lp2 iz x1 _ st _ w _ ⟨z2, v2, rfl, rfl⟩ rfl hm3 H
              change W _ _ _ _ _ _ _ (upd (upd _ 32 (.int .i64 x1.1)) 33 (.int .i64 x1.2)) w
              refine W.seq ?_
              refine W.region ?_
              refine O.assign (v := (.int .i64 x1.1)) rfl rfl rfl ?_
              refine WL.nil ?_
              refine W.region ?_
              refine O.assign (v := (.int .i64 x1.2)) rfl rfl rfl ?_
              refine WL.nil ?_
              refine ⟨_, H, fun w hsl H => ?_⟩
              obtain ⟨s2, hm4, hm3⟩ := bind_some hm3
              refine W.via (fun f w => ∃ v5 : Value, f 4 = (.pointer (some ⟨b1, 0, none⟩)) ∧ f 5 = (.pointer (some ⟨b2, 0, none⟩)) ∧ f 8 = (.pointer (some ⟨b4, 0, none⟩)) ∧ f 31 = (.func (.func 94) #[] #[(.pointer (some ⟨b5, 0, none⟩)), (.pointer (some ⟨b6, 0, none⟩))]) ∧ Inv w0 w [rs, lp2, marksI [], boxI b1 3 [(.int .i64 a1)], boxI b2 3 [(.int .i64 a2)], boxI b4 39 [v5], ownI (α := Int) v5 3 s2, mapI (K := GKey) (V := Int) m1 t4, boxI b5 94 [(.map (some ra1))], boxI b6 57 [(.map (some m1))], daysI ra1 t4]) ?_ ?_
              · skip
                refine W.block ?_
                refine W.seq ?_
                refine W.region ?_
                refine O.move (v := (.int .i64 x1.1)) rfl rfl rfl ?_
                refine O.load sc3 rfl rfl rfl (H.cell 3 rfl 0 _ rfl) ?_
                refine O.load sc3 rfl rfl rfl (H.cell 4 rfl 0 _ rfl) ?_
                obtain ⟨t5, hy5, hm4⟩ := bind_some hm4
                refine O.call Try.call71 rfl rfl rfl (c_ledger_within _ _ _ hy5) ?_
                rintro _ w9 hb9 rfl
                have H := H.ext hb9
                refine WL.nil ?_
                obtain ⟨s3, hm5, hm4⟩ := bind_some hm4
                refine W.via (fun f w => ∃ v6 : Value, f 4 = (.pointer (some ⟨b1, 0, none⟩)) ∧ f 5 = (.pointer (some ⟨b2, 0, none⟩)) ∧ f 8 = (.pointer (some ⟨b4, 0, none⟩)) ∧ f 31 = (.func (.func 94) #[] #[(.pointer (some ⟨b5, 0, none⟩)), (.pointer (some ⟨b6, 0, none⟩))]) ∧ Inv w0 w [rs, lp2, marksI [], boxI b1 3 [(.int .i64 a1)], boxI b2 3 [(.int .i64 a2)], boxI b4 39 [v6], ownI (α := Int) v6 3 s3, mapI (K := GKey) (V := Int) m1 t4, boxI b5 94 [(.map (some ra1))], boxI b6 57 [(.map (some m1))], daysI ra1 t4]) ?_ ?_
                · skip
                  rcases ite_some hm5 with ⟨hc5, hm5⟩ | ⟨hc5, hm5⟩
                  · refine W.cond_true (congrArg Value.bool hc5) ?_
                    refine W.region ?_
                    refine O.load sc39 rfl rfl rfl (H.cell 5 rfl 0 _ rfl) ?_
                    refine O.move (v := (.int .i64 x1.2)) rfl rfl rfl ?_
                    refine O.buildSlice (α := Int) [(.int .i64 x1.2)] [x1.2] Try.underlying39 el3 H rfl rfl rfl rfl rfl rfl rfl ?_
                    intro v7 w10 H hb10
                    obtain ⟨t6, ht6, hm5⟩ := bind_some hm5
                    refine O.append 6 Try.underlying39 el3 rfl H rfl (H.own 11 rfl) ht6 rfl rfl rfl rfl ?_
                    intro v8 w11 H
                    refine O.store 5 0 [v8] [v8] sz39 H rfl rfl rfl rfl rfl (SliceR.cells1 (H.own 6 rfl)) ⟨⟨rfl, rfl⟩, rfl⟩ (one_cons (SliceR.one (H.own 6 rfl)) one_nil) ?_
                    intro w12 H
                    refine WL.nil ?_
                    have H := H.keep [0, 1, 2, 3, 4, 5, 6, 7, 8, 9, 10] [rs, lp2, marksI [], boxI b1 3 [(.int .i64 a1)], boxI b2 3 [(.int .i64 a2)], boxI b4 39 [v8], ownI (α := Int) v8 3 t6, mapI (K := GKey) (V := Int) m1 t4, boxI b5 94 [(.map (some ra1))], boxI b6 57 [(.map (some m1))], daysI ra1 t4] rfl (by decide)
                    have hq : t6 = s3 := Option.some.inj (show some t6 = some s3 from hm5)
                    subst hq
                    exact ⟨v8, rfl, rfl, rfl, rfl, H⟩
                  · refine W.cond_false (congrArg Value.bool hc5) ?_
                    refine W.skip ?_
                    have hq : z2 = s3 := Option.some.inj (show some z2 = some s3 from hm5)
                    subst hq
                    exact ⟨v2, rfl, rfl, rfl, rfl, H⟩
                · skip
                  rintro f w ⟨v6, hf4, hf5, hf8, hf31, H⟩
                  obtain ⟨u3, rfl⟩ : ∃ u3, f = (upd (upd (upd (upd u3 4 (.pointer (some ⟨b1, 0, none⟩))) 5 (.pointer (some ⟨b2, 0, none⟩))) 8 (.pointer (some ⟨b4, 0, none⟩))) 31 (.func (.func 94) #[] #[(.pointer (some ⟨b5, 0, none⟩)), (.pointer (some ⟨b6, 0, none⟩))])) := ⟨f, by rw [upd_self hf4, upd_self hf5, upd_self hf8, upd_self hf31]⟩
                  have hq : s3 = s2 := Option.some.inj (show some s3 = some s2 from hm4)
                  subst hq
                  exact ⟨v6, rfl, rfl, rfl, rfl, H⟩
              · skip
                rintro f w ⟨v5, hf4, hf5, hf8, hf31, H⟩
                obtain ⟨u4, rfl⟩ : ∃ u4, f = (upd (upd (upd (upd u4 4 (.pointer (some ⟨b1, 0, none⟩))) 5 (.pointer (some ⟨b2, 0, none⟩))) 8 (.pointer (some ⟨b4, 0, none⟩))) 31 (.func (.func 94) #[] #[(.pointer (some ⟨b5, 0, none⟩)), (.pointer (some ⟨b6, 0, none⟩))])) := ⟨f, by rw [upd_self hf4, upd_self hf5, upd_self hf8, upd_self hf31]⟩
                obtain rfl := Option.some.inj hm3
                exact ⟨_, _, rfl, ⟨_, v5, rfl, rfl⟩, H⟩
            · skip
              rintro D1 _ _ w ⟨z2, v2, rfl, rfl⟩ hfin H
              have hq : z2 = s1 := hfin
              subst hq
              have H := H.keep [0, 3, 4] [marksI (D1 :: []), boxI b4 39 [v2], ownI (α := Int) v2 3 z2] rfl (by decide)
              have hmk := congrArg (D1 :: ·) hmk
              exact ⟨_, v2, rfl, hmk, H⟩
            · skip
              rintro _ _ _ _ ⟨_, h⟩; exact h.elim
            · skip
              rintro _ _ _ h; exact h.elim
          · skip
            rintro f w ⟨ms1, v4, hf8, hmk, H⟩
            obtain ⟨u5, rfl⟩ : ∃ u5, f = (upd u5 8 (.pointer (some ⟨b4, 0, none⟩))) := ⟨f, by rw [upd_self hf8]⟩
            refine W.seq ?_
            refine W.region ?_
            refine O.load sc39 rfl rfl rfl (H.cell 1 rfl 0 _ rfl) ?_
            refine O.assign (v := v4) rfl rfl rfl ?_
            refine O.assign (v := (.int .i64 0)) rfl rfl rfl ?_
            refine WL.nil ?_
            refine W.ret ?_
            refine endsM_mk H hmk ?_
            intro w H _
            have hq : (s1, 0) = (r0, r1) := Option.some.inj (show some (s1, 0) = some (r0, r1) from hm)
            obtain ⟨he0, hq0⟩ := Prod.mk.inj hq; clear hq; subst he0
            subst hq0
            exact ends2 Try.results85 rfl rfl ⟨_, rfl, H.base, ⟨_, rfl, H.ownR 2 rfl⟩⟩

theorem c_ledger_total {w0 : World} (va0 : Value) (a0 : (List Int)) (ha0 : SliceR w0 va0 a0) {r0 : Int} (hm : ledger_total a0 = some r0) :
    Calls Try.prog 86 #[va0] w0 (Ret w0 fun _ v => v = (.int .i64 r0)) := by
  unfold ledger_total at hm
  refine calls_of_W Try.func86 rfl Try.ntmps86 (Nat.le_of_ble_eq_true rfl) ?_
  have H := Inv.start (w := w0)
  refine W.seq ?_
  refine W.region ?_
  refine O.assign (v := (.int .i64 0)) rfl rfl rfl ?_
  refine WL.nil ?_
  refine W.seq ?_
  refine W.region ?_
  refine O.assign (v := (.int .i64 0)) rfl rfl rfl ?_
  refine WL.nil ?_
  refine W.seq ?_
  refine W.seq ?_
  refine W.region ?_
  refine O.move (v := va0) rfl rfl rfl ?_
  refine O.lenS Try.underlying39 (H.arg ha0) rfl rfl rfl ?_
  refine O.move (v := (.int .i64 0)) rfl rfl rfl ?_
  refine WL.nil ?_
  obtain ⟨s1, hm1, hm⟩ := bind_some hm
  refine W.via (fun f w => f 3 = (.int .i64 s1) ∧ Inv w0 w []) ?_ ?_
  · skip
    refine W.block ?_
    refine W.rangeL (i := 0) hm1 (fun rem ik1 s f w => ∃ z2 : Int, z2 = s ∧ a0.drop ik1 = rem ∧ f 8 = .int .i64 (ik1 : Int) ∧ f 7 = (.int .i64 ((a0.length : Nat) : Int)) ∧ f 3 = (.int .i64 z2) ∧ f 6 = va0 ∧ Inv w0 w []) ?_ ?_ ?_
    · skip
      exact ⟨_, rfl, List.drop_zero, rfl, rfl, rfl, rfl, H⟩
    · skip
      rintro yk1 xs ik1 _ st f w ⟨z2, rfl, hdropk1, hf8, hf7, hf3, hf6, H⟩ hm2
      have hltk1 := drop_lt hdropk1; have hixk1 := drop_idx hdropk1
      obtain ⟨u1, rfl⟩ : ∃ u1, f = (upd (upd (upd (upd u1 8 (.int .i64 (ik1 : Int))) 7 (.int .i64 ((a0.length : Nat) : Int))) 3 (.int .i64 z2)) 6 va0) := ⟨f, by rw [upd_self hf8, upd_self hf7, upd_self hf3, upd_self hf6]⟩
      have hinck1 := addI_lt hltk1 (H.arg ha0).len_le
      refine W.seq ?_
      refine W.region ?_
      refine O.lss rfl rfl rfl rfl ?_
      refine WL.nil ?_
      refine W.seq ?_
      refine W.cond_true (congrArg Value.bool (decide_eq_true hltk1)) ?_
      refine W.skip ?_
      refine W.seq ?_
      refine W.block ?_
      refine W.seq ?_
      refine W.region ?_
      obtain ⟨p1, hp1, hrp1⟩ := fix_indexAddr Try.underlying39 sz3 ha0 hixk1
      refine hrp1 rfl rfl rfl rfl ?_
      refine O.load sc3 rfl rfl rfl ((hp1.mono H.base).flat 0 _ rfl) ?_
      refine O.assign (v := (.int .i64 yk1)) rfl rfl rfl ?_
      refine WL.nil ?_
      refine W.region ?_
      refine O.move (v := (.int .i64 z2)) rfl rfl rfl ?_
      refine O.move (v := (.int .i64 yk1)) rfl rfl rfl ?_
      obtain ⟨t1, ht1, hm2⟩ := bind_some hm2
      refine O.add rfl rfl rfl rfl ht1 ?_
      refine O.assign (v := (.int .i64 t1)) rfl rfl rfl ?_
      refine WL.nil ?_
      refine W.region ?_
      refine O.add rfl rfl rfl rfl hinck1 ?_
      refine O.move (v := .int .i64 ((ik1 : Int) + 1)) rfl rfl rfl ?_
      refine WL.nil ?_
      obtain rfl := Option.some.inj hm2
      exact ⟨_, rfl, _, rfl, drop_next hdropk1, rfl, rfl, rfl, rfl, H⟩
    · skip
      rintro ik1 _ f w ⟨z2, rfl, hdropk1, hf8, hf7, hf3, hf6, H⟩ hfin
      have hltk1 := drop_end hdropk1
      obtain ⟨u2, rfl⟩ : ∃ u2, f = (upd (upd (upd (upd u2 8 (.int .i64 (ik1 : Int))) 7 (.int .i64 ((a0.length : Nat) : Int))) 3 (.int .i64 z2)) 6 va0) := ⟨f, by rw [upd_self hf8, upd_self hf7, upd_self hf3, upd_self hf6]⟩
      refine W.seq ?_
      refine W.region ?_
      refine O.lss rfl rfl rfl rfl ?_
      refine WL.nil ?_
      refine W.seq ?_
      refine W.cond_false (congrArg Value.bool (decide_eq_false hltk1)) ?_
      refine W.exit ?_
      have hq : z2 = s1 := hfin
      subst hq
      refine xT rfl ?_
      exact ⟨rfl, H⟩
  · skip
    rintro f w ⟨hf3, H⟩
    obtain ⟨u3, rfl⟩ : ∃ u3, f = (upd u3 3 (.int .i64 s1)) := ⟨f, by rw [upd_self hf3]⟩
    refine W.seq ?_
    refine W.region ?_
    refine O.move (v := (.int .i64 s1)) rfl rfl rfl ?_
    refine O.assign (v := (.int .i64 s1)) rfl rfl rfl ?_
    refine WL.nil ?_
    refine W.ret ?_
    have hq : s1 = r0 := Option.some.inj (show some s1 = some r0 from hm)
    subst hq
    exact ends1 Try.results86 rfl ⟨_, rfl, H.base, rfl⟩

theorem c_ledger_Sum {w0 : World} (va0 : Value) (a0 : (List GEntry)) (ha0 : SliceR w0 va0 a0) (a1 : Int) (a2 : Int) {r0 : Int} {r1 : Int} (hm : ledger_Sum a0 a1 a2 = some (r0, r1)) :
    Calls Try.prog 50 #[va0, (.int .i64 a1), (.int .i64 a2)] w0 (Ret w0 fun _ v => v = .tuple #[(.int .i64 r0), (.int .i64 r1)]) := by
  unfold ledger_Sum at hm
  refine calls_of_W Try.func50 rfl Try.ntmps50 (Nat.le_of_ble_eq_true rfl) ?_
  have H := Inv.start (w := w0)
  refine W.seq ?_
  refine W.region ?_
  refine O.assign (v := (.int .i64 0)) rfl rfl rfl ?_
  refine O.assign (v := (.int .i64 0)) rfl rfl rfl ?_
  refine WL.nil ?_
  refine W.seq ?_
  refine W.region ?_
  refine O.move (v := va0) rfl rfl rfl ?_
  refine O.move (v := (.int .i64 a1)) rfl rfl rfl ?_
  refine O.move (v := (.int .i64 a2)) rfl rfl rfl ?_
  obtain ⟨⟨t1, t2⟩, hy1, hm⟩ := bind_some hm
  refine O.call Try.call85 rfl rfl rfl (c_ledger_stretch _ _ (H.arg ha0) _ _ hy1) ?_
  rintro _ w1 hb1 ⟨v1, rfl, ho1⟩
  have H := H.addOwn hb1 ho1
  refine O.move (v := (.tuple #[v1, (.int .i64 t2)])) rfl rfl rfl ?_
  refine O.extract (v := v1) rfl rfl rfl rfl ?_
  refine O.extract (v := (.int .i64 t2)) rfl rfl rfl rfl ?_
  refine O.assign (v := v1) rfl rfl rfl ?_
  refine O.assign (v := (.int .i64 t2)) rfl rfl rfl ?_
  refine WL.nil ?_
  refine W.seq ?_
  refine W.region ?_
  refine O.move (v := v1) rfl rfl rfl ?_
  obtain ⟨t3, hy2, hm⟩ := bind_some hm
  refine O.call Try.call86 rfl rfl rfl (c_ledger_total _ _ (H.own 0 rfl) hy2) ?_
  rintro _ w2 hb2 rfl
  have H := H.ext hb2
  refine O.move (v := (.int .i64 t2)) rfl rfl rfl ?_
  refine O.assign (v := (.int .i64 t3)) rfl rfl rfl ?_
  refine O.assign (v := (.int .i64 t2)) rfl rfl rfl ?_
  refine WL.nil ?_
  refine W.ret ?_
  have hq : (t3, t2) = (r0, r1) := Option.some.inj (show some (t3, t2) = some (r0, r1) from hm)
  obtain ⟨he0, hq0⟩ := Prod.mk.inj hq; clear hq; subst he0
  subst hq0
  exact ends2 Try.results50 rfl rfl ⟨_, rfl, H.base, rfl⟩

set_option maxRecDepth 20000 in
theorem c_noongunref09_stretch {w0 : World} (va0 : Value) (a0 : (List GEntry)) (ha0 : SliceR w0 va0 a0) (a1 : Int) (a2 : Int) {r0 : Int} {r1 : Int} {r2 : Int} (hm : noongunref09_stretch a0 a1 a2 = some (r0, r1, r2)) :
    Calls Try.prog 87 #[va0, (.int .i64 a1), (.int .i64 a2)] w0 (Ret w0 fun _ v => v = .tuple #[(.int .i64 r0), (.int .i64 r1), (.int .i64 r2)]) := by
  unfold noongunref09_stretch at hm
  refine calls_of_W Try.func87 rfl Try.ntmps87 (Nat.le_of_ble_eq_true rfl) ?_
  have H := Inv.start (w := w0)
  refine W.seq ?_
  refine W.region ?_
  refine O.assign (v := (.int .i64 0)) rfl rfl rfl ?_
  refine O.assign (v := (.int .i64 0)) rfl rfl rfl ?_
  refine O.assign (v := (.int .i64 0)) rfl rfl rfl ?_
  refine WL.nil ?_
  refine W.seq ?_
  refine W.seq ?_
  refine W.region ?_
  refine O.move (v := va0) rfl rfl rfl ?_
  obtain ⟨t1, hy1, hm⟩ := bind_some hm
  refine O.call Try.call21 rfl rfl rfl (c_noongunref09_Valid _ _ (H.arg ha0) hy1) ?_
  rintro _ w1 hb1 rfl
  have H := H.ext hb1
  refine O.not rfl rfl rfl ?_
  refine WL.nil ?_
  rcases ite_some hm with ⟨hc1, hm⟩ | ⟨hc1, hm⟩
  · refine W.cond_true (congrArg Value.bool hc1) ?_
    refine W.seq ?_
    refine W.region ?_
    refine O.assign (v := (.int .i64 0)) rfl rfl rfl ?_
    refine O.assign (v := (.int .i64 0)) rfl rfl rfl ?_
    refine O.assign (v := (.int .i64 1)) rfl rfl rfl ?_
    refine WL.nil ?_
    refine W.ret ?_
    have hq : (0, 0, 1) = (r0, r1, r2) := Option.some.inj (show some (0, 0, 1) = some (r0, r1, r2) from hm)
    obtain ⟨he0, hq0⟩ := Prod.mk.inj hq; clear hq; subst he0
    obtain ⟨he1, hq1⟩ := Prod.mk.inj hq0; clear hq0; subst he1
    subst hq1
    exact ends3 Try.results87 rfl rfl rfl ⟨_, rfl, H.base, rfl⟩
  · refine W.cond_false (congrArg Value.bool hc1) ?_
    refine W.skip ?_
    refine W.seq ?_
    refine W.seq ?_
    refine W.region ?_
    refine O.move (v := (.int .i64 a1)) rfl rfl rfl ?_
    obtain ⟨t2, hy2, hm⟩ := bind_some hm
    refine O.call Try.call68 rfl rfl rfl (c_noongunref09_day _ hy2) ?_
    rintro _ w2 hb2 rfl
    have H := H.ext hb2
    refine O.not rfl rfl rfl ?_
    refine O.move (v := (.bool (!t2))) rfl rfl rfl ?_
    obtain ⟨b1, hm1, hm⟩ := bind_some hm
    refine WL.cut 4 (fun f w => f 0 = va0 ∧ f 1 = (.int .i64 a1) ∧ f 2 = (.int .i64 a2) ∧ f 6 = (.int .i64 0) ∧ f 7 = (.int .i64 0) ∧ f 23 = .bool b1 ∧ Inv w0 w []) ?_ ?_
    · skip
      rcases ite_some hm1 with ⟨hc2, hm1⟩ | ⟨hc2, hm1⟩
      · skip
        refine WL.reset (i := 19) (v := .bool true) (congrArg Value.bool hc2) ?_
        refine O.skip rfl rfl ?_
        refine O.skip rfl rfl ?_
        refine O.skip rfl rfl ?_
        refine O.pick_true (v := (.bool true)) rfl rfl rfl rfl ?_
        refine WL.nil ?_
        have hq : true = b1 := Option.some.inj (show some true = some b1 from hm1)
        subst hq
        exact ⟨rfl, rfl, rfl, rfl, rfl, rfl, H⟩
      · skip
        refine WL.reset (i := 19) (v := .bool false) (congrArg Value.bool hc2) ?_
        refine O.move (v := (.int .i64 a2)) rfl rfl rfl ?_
        obtain ⟨t3, hy3, hm1⟩ := bind_some hm1
        refine O.call Try.call68 rfl rfl rfl (c_noongunref09_day _ hy3) ?_
        rintro _ w3 hb3 rfl
        have H := H.ext hb3
        refine O.not rfl rfl rfl ?_
        refine O.pick_false (v := (.bool (!t3))) rfl rfl rfl rfl ?_
        refine WL.nil ?_
        have hq : (!t3) = b1 := Option.some.inj (show some (!t3) = some b1 from hm1)
        subst hq
        exact ⟨rfl, rfl, rfl, rfl, rfl, rfl, H⟩
    · skip
      rintro f w ⟨hf0, hf1, hf2, hf6, hf7, hf23, H⟩
      obtain ⟨u1, rfl⟩ : ∃ u1, f = (upd (upd (upd (upd (upd (upd u1 0 va0) 1 (.int .i64 a1)) 2 (.int .i64 a2)) 6 (.int .i64 0)) 7 (.int .i64 0)) 23 (.bool b1)) := ⟨f, by rw [upd_self hf0, upd_self hf1, upd_self hf2, upd_self hf6, upd_self hf7, upd_self hf23]⟩
      refine O.move (v := (.bool b1)) rfl rfl rfl ?_
      refine WL.cut 4 (fun f w => f 0 = va0 ∧ f 1 = (.int .i64 a1) ∧ f 2 = (.int .i64 a2) ∧ f 6 = (.int .i64 0) ∧ f 7 = (.int .i64 0) ∧ f 28 = .bool (b1 || (decide (a2 < a1))) ∧ Inv w0 w []) ?_ ?_
      · skip
        rcases bool_ft b1 with hc3 | hc3
        · skip
          refine WL.reset (i := 24) (v := .bool false) (congrArg Value.bool hc3) ?_
          refine O.move (v := (.int .i64 a1)) rfl rfl rfl ?_
          refine O.move (v := (.int .i64 a2)) rfl rfl rfl ?_
          refine O.gtr rfl rfl rfl rfl ?_
          refine O.pick_false (v := (.bool (decide (a2 < a1)))) rfl rfl rfl rfl ?_
          refine WL.nil ?_
          exact ⟨rfl, rfl, rfl, rfl, rfl, congrArg Value.bool (or_f hc3), H⟩
        · skip
          refine WL.reset (i := 24) (v := .bool true) (congrArg Value.bool hc3) ?_
          refine O.skip rfl rfl ?_
          refine O.skip rfl rfl ?_
          refine O.skip rfl rfl ?_
          refine O.pick_true (v := (.bool true)) rfl rfl rfl rfl ?_
          refine WL.nil ?_
          exact ⟨rfl, rfl, rfl, rfl, rfl, congrArg Value.bool (or_t hc3), H⟩
      · skip
        rintro f w ⟨hf0, hf1, hf2, hf6, hf7, hf28, H⟩
        obtain ⟨u2, rfl⟩ : ∃ u2, f = (upd (upd (upd (upd (upd (upd u2 0 va0) 1 (.int .i64 a1)) 2 (.int .i64 a2)) 6 (.int .i64 0)) 7 (.int .i64 0)) 28 (.bool (b1 || (decide (a2 < a1))))) := ⟨f, by rw [upd_self hf0, upd_self hf1, upd_self hf2, upd_self hf6, upd_self hf7, upd_self hf28]⟩
        refine WL.nil ?_
        rcases ite_some hm with ⟨hc4, hm⟩ | ⟨hc4, hm⟩
        · refine W.cond_true (congrArg Value.bool hc4) ?_
          refine W.seq ?_
          refine W.region ?_
          refine O.assign (v := (.int .i64 0)) rfl rfl rfl ?_
          refine O.assign (v := (.int .i64 0)) rfl rfl rfl ?_
          refine O.assign (v := (.int .i64 7)) rfl rfl rfl ?_
          refine WL.nil ?_
          refine W.ret ?_
          have hq : (0, 0, 7) = (r0, r1, r2) := Option.some.inj (show some (0, 0, 7) = some (r0, r1, r2) from hm)
          obtain ⟨he0, hq0⟩ := Prod.mk.inj hq; clear hq; subst he0
          obtain ⟨he1, hq1⟩ := Prod.mk.inj hq0; clear hq0; subst he1
          subst hq1
          exact ends3 Try.results87 rfl rfl rfl ⟨_, rfl, H.base, rfl⟩
        · refine W.cond_false (congrArg Value.bool hc4) ?_
          refine W.skip ?_
          refine W.seq ?_
          refine W.seq ?_
          refine W.region ?_
          refine O.move (v := va0) rfl rfl rfl ?_
          obtain ⟨t4, hy4, hm⟩ := bind_some hm
          refine O.call Try.call78 rfl rfl rfl (c_noongunref09_days _ _ (H.arg ha0) hy4) ?_
          rintro v1 w4 hb4 ho1
          have H := H.addOwn hb4 ho1
          refine O.lenS Try.underlying39 (H.own 0 rfl) rfl rfl rfl ?_
          refine O.move (v := (.int .i64 0)) rfl rfl rfl ?_
          refine WL.nil ?_
          obtain ⟨⟨s1, s2⟩, hm2, hm⟩ := bind_some hm
          refine W.via (fun f w => f 6 = (.int .i64 s1) ∧ f 7 = (.int .i64 s2) ∧ Inv w0 w []) ?_ ?_
          · skip
            refine W.block ?_
            refine W.rangeL (i := 0) hm2 (fun rem ik1 s f w => ∃ z3 : Int, ∃ z4 : Int, (z3, z4) = s ∧ t4.drop ik1 = rem ∧ f 32 = .int .i64 (ik1 : Int) ∧ f 31 = (.int .i64 ((t4.length : Nat) : Int)) ∧ f 0 = va0 ∧ f 1 = (.int .i64 a1) ∧ f 2 = (.int .i64 a2) ∧ f 6 = (.int .i64 z3) ∧ f 7 = (.int .i64 z4) ∧ f 30 = v1 ∧ Inv w0 w [ownI (α := Int) v1 3 t4]) ?_ ?_ ?_
            · skip
              exact ⟨_, _, rfl, List.drop_zero, rfl, rfl, rfl, rfl, rfl, rfl, rfl, rfl, H⟩
            · skip
              rintro yk1 xs ik1 _ st f w ⟨z3, z4, rfl, hdropk1, hf32, hf31, hf0, hf1, hf2, hf6, hf7, hf30, H⟩ hm3
              have hltk1 := drop_lt hdropk1; have hixk1 := drop_idx hdropk1
              obtain ⟨u3, rfl⟩ : ∃ u3, f = (upd (upd (upd (upd (upd (upd (upd (upd u3 32 (.int .i64 (ik1 : Int))) 31 (.int .i64 ((t4.length : Nat) : Int))) 0 va0) 1 (.int .i64 a1)) 2 (.int .i64 a2)) 6 (.int .i64 z3)) 7 (.int .i64 z4)) 30 v1) := ⟨f, by rw [upd_self hf32, upd_self hf31, upd_self hf0, upd_self hf1, upd_self hf2, upd_self hf6, upd_self hf7, upd_self hf30]⟩
              have hinck1 := addI_lt hltk1 (H.own 0 rfl).len_le
              refine W.seq ?_
              refine W.region ?_
              refine O.lss rfl rfl rfl rfl ?_
              refine WL.nil ?_
              refine W.seq ?_
              refine W.cond_true (congrArg Value.bool (decide_eq_true hltk1)) ?_
              refine W.skip ?_
              refine W.seq ?_
              obtain ⟨⟨s3, s4⟩, hm4, hm3⟩ := bind_some hm3
              refine W.via (fun f w => f 0 = va0 ∧ f 1 = (.int .i64 a1) ∧ f 2 = (.int .i64 a2) ∧ f 6 = (.int .i64 s3) ∧ f 7 = (.int .i64 s4) ∧ f 30 = v1 ∧ f 31 = (.int .i64 ((t4.length : Nat) : Int)) ∧ f 32 = (.int .i64 (ik1 : Int)) ∧ Inv w0 w [ownI (α := Int) v1 3 t4]) ?_ ?_
              · skip
                refine W.block ?_
                refine W.seq ?_
                refine W.region ?_
                refine O.indexAddr Try.underlying39 sz3 (H.own 0 rfl) hixk1 rfl rfl rfl rfl ?_
                intro p1 hp1
                refine O.load sc3 rfl rfl rfl (hp1.flat 0 _ rfl) ?_
                refine O.assign (v := (.int .i64 yk1)) rfl rfl rfl ?_
                refine WL.nil ?_
                refine W.seq ?_
                refine W.region ?_
                refine O.move (v := (.int .i64 yk1)) rfl rfl rfl ?_
                refine O.move (v := (.int .i64 a1)) rfl rfl rfl ?_
                refine O.geq rfl rfl rfl rfl ?_
                refine O.move (v := (.bool (decide (a1 ≤ yk1)))) rfl rfl rfl ?_
                refine WL.cut 4 (fun f w => f 0 = va0 ∧ f 1 = (.int .i64 a1) ∧ f 2 = (.int .i64 a2) ∧ f 6 = (.int .i64 z3) ∧ f 7 = (.int .i64 z4) ∧ f 10 = (.int .i64 yk1) ∧ f 30 = v1 ∧ f 31 = (.int .i64 ((t4.length : Nat) : Int)) ∧ f 32 = (.int .i64 (ik1 : Int)) ∧ f 43 = .bool ((decide (a1 ≤ yk1)) && (decide (yk1 ≤ a2))) ∧ Inv w0 w [ownI (α := Int) v1 3 t4]) ?_ ?_
                · skip
                  rcases bool_ft (decide (a1 ≤ yk1)) with hc5 | hc5
                  · skip
                    refine WL.reset (i := 39) (v := .bool false) (congrArg Value.bool hc5) ?_
                    refine O.skip rfl rfl ?_
                    refine O.skip rfl rfl ?_
                    refine O.skip rfl rfl ?_
                    refine O.pick_false (v := (.bool false)) rfl rfl rfl rfl ?_
                    refine WL.nil ?_
                    exact ⟨rfl, rfl, rfl, rfl, rfl, rfl, rfl, rfl, rfl, congrArg Value.bool (and_f hc5), H⟩
                  · skip
                    refine WL.reset (i := 39) (v := .bool true) (congrArg Value.bool hc5) ?_
                    refine O.move (v := (.int .i64 yk1)) rfl rfl rfl ?_
                    refine O.move (v := (.int .i64 a2)) rfl rfl rfl ?_
                    refine O.leq rfl rfl rfl rfl ?_
                    refine O.pick_true (v := (.bool (decide (yk1 ≤ a2)))) rfl rfl rfl rfl ?_
                    refine WL.nil ?_
                    exact ⟨rfl, rfl, rfl, rfl, rfl, rfl, rfl, rfl, rfl, congrArg Value.bool (and_t hc5), H⟩
                · skip
                  rintro f w ⟨hf0, hf1, hf2, hf6, hf7, hf10, hf30, hf31, hf32, hf43, H⟩
                  obtain ⟨u4, rfl⟩ : ∃ u4, f = (upd (upd (upd (upd (upd (upd (upd (upd (upd (upd u4 0 va0) 1 (.int .i64 a1)) 2 (.int .i64 a2)) 6 (.int .i64 z3)) 7 (.int .i64 z4)) 10 (.int .i64 yk1)) 30 v1) 31 (.int .i64 ((t4.length : Nat) : Int))) 32 (.int .i64 (ik1 : Int))) 43 (.bool ((decide (a1 ≤ yk1)) && (decide (yk1 ≤ a2))))) := ⟨f, by rw [upd_self hf0, upd_self hf1, upd_self hf2, upd_self hf6, upd_self hf7, upd_self hf10, upd_self hf30, upd_self hf31, upd_self hf32, upd_self hf43]⟩
                  refine WL.nil ?_
                  obtain ⟨⟨s5, s6⟩, hm5, hm4⟩ := bind_some hm4
                  refine W.via (fun f w => f 0 = va0 ∧ f 1 = (.int .i64 a1) ∧ f 2 = (.int .i64 a2) ∧ f 6 = (.int .i64 s5) ∧ f 7 = (.int .i64 s6) ∧ f 30 = v1 ∧ f 31 = (.int .i64 ((t4.length : Nat) : Int)) ∧ f 32 = (.int .i64 (ik1 : Int)) ∧ Inv w0 w [ownI (α := Int) v1 3 t4]) ?_ ?_
                  · skip
                    rcases ite_some hm5 with ⟨hc6, hm5⟩ | ⟨hc6, hm5⟩
                    · refine W.cond_true (congrArg Value.bool hc6) ?_
                      refine W.seq ?_
                      refine W.region ?_
                      refine O.move (v := va0) rfl rfl rfl ?_
                      refine O.move (v := (.int .i64 yk1)) rfl rfl rfl ?_
                      obtain ⟨⟨t5, t6⟩, hy5, hm5⟩ := bind_some hm5
                      refine O.call Try.call61 rfl rfl rfl (c_noongunref09_off _ _ (H.arg ha0) _ hy5) ?_
                      rintro _ w5 hb5 rfl
                      have H := H.ext hb5
                      refine O.move (v := (.tuple #[(.int .i64 t5), (.bool t6)])) rfl rfl rfl ?_
                      refine O.extract (v := (.int .i64 t5)) rfl rfl rfl rfl ?_
                      refine O.extract (v := (.bool t6)) rfl rfl rfl rfl ?_
                      refine O.assign (v := (.int .i64 t5)) rfl rfl rfl ?_
                      refine O.assign (v := (.bool t6)) rfl rfl rfl ?_
                      refine WL.nil ?_
                      refine W.seq ?_
                      refine W.region ?_
                      refine O.move (v := (.int .i64 z3)) rfl rfl rfl ?_
                      refine O.move (v := (.int .i64 t5)) rfl rfl rfl ?_
                      obtain ⟨t7, ht7, hm5⟩ := bind_some hm5
                      refine O.add rfl rfl rfl rfl ht7 ?_
                      refine O.assign (v := (.int .i64 t7)) rfl rfl rfl ?_
                      refine WL.nil ?_
                      refine W.region ?_
                      refine O.move (v := (.int .i64 z4)) rfl rfl rfl ?_
                      obtain ⟨t8, ht8, hm5⟩ := bind_some hm5
                      refine O.add rfl rfl rfl rfl ht8 ?_
                      refine O.assign (v := (.int .i64 t8)) rfl rfl rfl ?_
                      refine WL.nil ?_
                      have hq : (t7, t8) = (s5, s6) := Option.some.inj (show some (t7, t8) = some (s5, s6) from hm5)
                      obtain ⟨he0, hq0⟩ := Prod.mk.inj hq; clear hq; subst he0
                      subst hq0
                      exact ⟨rfl, rfl, rfl, rfl, rfl, rfl, rfl, rfl, H⟩
                    · refine W.cond_false (congrArg Value.bool hc6) ?_
                      refine W.skip ?_
                      have hq : (z3, z4) = (s5, s6) := Option.some.inj (show some (z3, z4) = some (s5, s6) from hm5)
                      obtain ⟨he0, hq0⟩ := Prod.mk.inj hq; clear hq; subst he0
                      subst hq0
                      exact ⟨rfl, rfl, rfl, rfl, rfl, rfl, rfl, rfl, H⟩
                  · skip
                    rintro f w ⟨hf0, hf1, hf2, hf6, hf7, hf30, hf31, hf32, H⟩
                    obtain ⟨u5, rfl⟩ : ∃ u5, f = (upd (upd (upd (upd (upd (upd (upd (upd u5 0 va0) 1 (.int .i64 a1)) 2 (.int .i64 a2)) 6 (.int .i64 s5)) 7 (.int .i64 s6)) 30 v1) 31 (.int .i64 ((t4.length : Nat) : Int))) 32 (.int .i64 (ik1 : Int))) := ⟨f, by rw [upd_self hf0, upd_self hf1, upd_self hf2, upd_self hf6, upd_self hf7, upd_self hf30, upd_self hf31, upd_self hf32]⟩
                    have hq : (s5, s6) = (s3, s4) := Option.some.inj (show some (s5, s6) = some (s3, s4) from hm4)
                    obtain ⟨he0, hq0⟩ := Prod.mk.inj hq; clear hq; subst he0
                    subst hq0
                    exact ⟨rfl, rfl, rfl, rfl, rfl, rfl, rfl, rfl, H⟩
              · skip
                rintro f w ⟨hf0, hf1, hf2, hf6, hf7, hf30, hf31, hf32, H⟩
                obtain ⟨u6, rfl⟩ : ∃ u6, f = (upd (upd (upd (upd (upd (upd (upd (upd u6 0 va0) 1 (.int .i64 a1)) 2 (.int .i64 a2)) 6 (.int .i64 s3)) 7 (.int .i64 s4)) 30 v1) 31 (.int .i64 ((t4.length : Nat) : Int))) 32 (.int .i64 (ik1 : Int))) := ⟨f, by rw [upd_self hf0, upd_self hf1, upd_self hf2, upd_self hf6, upd_self hf7, upd_self hf30, upd_self hf31, upd_self hf32]⟩
                refine W.region ?_
                refine O.add rfl rfl rfl rfl hinck1 ?_
                refine O.move (v := .int .i64 ((ik1 : Int) + 1)) rfl rfl rfl ?_
                refine WL.nil ?_
                obtain rfl := Option.some.inj hm3
                exact ⟨_, rfl, _, _, rfl, drop_next hdropk1, rfl, rfl, rfl, rfl, rfl, rfl, rfl, rfl, H⟩
            · skip
              rintro ik1 _ f w ⟨z3, z4, rfl, hdropk1, hf32, hf31, hf0, hf1, hf2, hf6, hf7, hf30, H⟩ hfin
              have hltk1 := drop_end hdropk1
              obtain ⟨u7, rfl⟩ : ∃ u7, f = (upd (upd (upd (upd (upd (upd (upd (upd u7 32 (.int .i64 (ik1 : Int))) 31 (.int .i64 ((t4.length : Nat) : Int))) 0 va0) 1 (.int .i64 a1)) 2 (.int .i64 a2)) 6 (.int .i64 z3)) 7 (.int .i64 z4)) 30 v1) := ⟨f, by rw [upd_self hf32, upd_self hf31, upd_self hf0, upd_self hf1, upd_self hf2, upd_self hf6, upd_self hf7, upd_self hf30]⟩
              refine W.seq ?_
              refine W.region ?_
              refine O.lss rfl rfl rfl rfl ?_
              refine WL.nil ?_
              refine W.seq ?_
              refine W.cond_false (congrArg Value.bool (decide_eq_false hltk1)) ?_
              refine W.exit ?_
              have hq : (z3, z4) = (s1, s2) := hfin
              obtain ⟨he0, hq0⟩ := Prod.mk.inj hq; clear hq; subst he0
              subst hq0
              have H := H.keep [] [] rfl (by decide)
              refine xT rfl ?_
              exact ⟨rfl, rfl, H⟩
          · skip
            rintro f w ⟨hf6, hf7, H⟩
            obtain ⟨u8, rfl⟩ : ∃ u8, f = (upd (upd u8 6 (.int .i64 s1)) 7 (.int .i64 s2)) := ⟨f, by rw [upd_self hf6, upd_self hf7]⟩
            refine W.seq ?_
            refine W.region ?_
            refine O.move (v := (.int .i64 s1)) rfl rfl rfl ?_
            refine O.move (v := (.int .i64 s2)) rfl rfl rfl ?_
            refine O.assign (v := (.int .i64 s1)) rfl rfl rfl ?_
            refine O.assign (v := (.int .i64 s2)) rfl rfl rfl ?_
            refine O.assign (v := (.int .i64 0)) rfl rfl rfl ?_
            refine WL.nil ?_
            refine W.ret ?_
            have hq : (s1, s2, 0) = (r0, r1, r2) := Option.some.inj (show some (s1, s2, 0) = some (r0, r1, r2) from hm)
            obtain ⟨he0, hq0⟩ := Prod.mk.inj hq; clear hq; subst he0
            obtain ⟨he1, hq1⟩ := Prod.mk.inj hq0; clear hq0; subst he1
            subst hq1
            exact ends3 Try.results87 rfl rfl rfl ⟨_, rfl, H.base, rfl⟩

theorem c_noongunref09_Sum {w0 : World} (va0 : Value) (a0 : (List GEntry)) (ha0 : SliceR w0 va0 a0) (a1 : Int) (a2 : Int) {r0 : Int} {r1 : Int} (hm : noongunref09_Sum a0 a1 a2 = some (r0, r1)) :
    Calls Try.prog 51 #[va0, (.int .i64 a1), (.int .i64 a2)] w0 (Ret w0 fun _ v => v = .tuple #[(.int .i64 r0), (.int .i64 r1)]) := by
  unfold noongunref09_Sum at hm
  refine calls_of_W Try.func51 rfl Try.ntmps51 (Nat.le_of_ble_eq_true rfl) ?_
  have H := Inv.start (w := w0)
  refine W.seq ?_
  refine W.region ?_
  refine O.assign (v := (.int .i64 0)) rfl rfl rfl ?_
  refine O.assign (v := (.int .i64 0)) rfl rfl rfl ?_
  refine WL.nil ?_
  refine W.seq ?_
  refine W.region ?_
  refine O.move (v := va0) rfl rfl rfl ?_
  refine O.move (v := (.int .i64 a1)) rfl rfl rfl ?_
  refine O.move (v := (.int .i64 a2)) rfl rfl rfl ?_
  obtain ⟨⟨t1, t2, t3⟩, hy1, hm⟩ := bind_some hm
  refine O.call Try.call87 rfl rfl rfl (c_noongunref09_stretch _ _ (H.arg ha0) _ _ hy1) ?_
  rintro _ w1 hb1 rfl
  have H := H.ext hb1
  refine O.move (v := (.tuple #[(.int .i64 t1), (.int .i64 t2), (.int .i64 t3)])) rfl rfl rfl ?_
  refine O.extract (v := (.int .i64 t1)) rfl rfl rfl rfl ?_
  refine O.extract (v := (.int .i64 t2)) rfl rfl rfl rfl ?_
  refine O.extract (v := (.int .i64 t3)) rfl rfl rfl rfl ?_
  refine O.assign (v := (.int .i64 t1)) rfl rfl rfl ?_
  refine O.assign (v := (.int .i64 t2)) rfl rfl rfl ?_
  refine O.assign (v := (.int .i64 t3)) rfl rfl rfl ?_
  refine WL.nil ?_
  refine W.seq ?_
  refine W.region ?_
  refine O.move (v := (.int .i64 t1)) rfl rfl rfl ?_
  refine O.move (v := (.int .i64 t3)) rfl rfl rfl ?_
  refine O.assign (v := (.int .i64 t1)) rfl rfl rfl ?_
  refine O.assign (v := (.int .i64 t3)) rfl rfl rfl ?_
  refine WL.nil ?_
  refine W.ret ?_
  have hq : (t1, t3) = (r0, r1) := Option.some.inj (show some (t1, t3) = some (r0, r1) from hm)
  obtain ⟨he0, hq0⟩ := Prod.mk.inj hq; clear hq; subst he0
  subst hq0
  exact ends2 Try.results51 rfl rfl ⟨_, rfl, H.base, rfl⟩

theorem c_span_divisor {w0 : World} (a0 : Int) (a1 : Int) {r0 : Int} (hm : span_divisor a0 a1 = some r0) :
    Calls Try.prog 131 #[(.int .i64 a0), (.int .i64 a1)] w0 (Ret w0 fun _ v => v = (.int .i64 r0)) := by
  unfold span_divisor at hm
  refine calls_of_W Try.func131 rfl Try.ntmps131 (Nat.le_of_ble_eq_true rfl) ?_
  have H := Inv.start (w := w0)
  refine W.seq ?_
  refine W.region ?_
  refine O.assign (v := (.int .i64 0)) rfl rfl rfl ?_
  refine WL.nil ?_
  refine W.seq ?_
  obtain ⟨s1, hm1, hm⟩ := bind_some hm
  refine W.via (fun f w => f 0 = (.int .i64 s1) ∧ Inv w0 w []) ?_ ?_
  · skip
    refine W.block ?_
    refine W.loopR hm1 (fun s f w => ∃ z3 : Int, ∃ z4 : Int, (z3, z4) = s ∧ f 0 = (.int .i64 z3) ∧ f 1 = (.int .i64 z4) ∧ Inv w0 w []) ?_ ?_
    · skip
      exact ⟨_, _, rfl, rfl, rfl, H⟩
    · skip
      rintro _ st f w ⟨z3, z4, rfl, hf0, hf1, H⟩ hm2
      obtain ⟨u1, rfl⟩ : ∃ u1, f = (upd (upd u1 0 (.int .i64 z3)) 1 (.int .i64 z4)) := ⟨f, by rw [upd_self hf0, upd_self hf1]⟩
      refine W.seq ?_
      refine W.seq ?_
      refine W.region ?_
      refine O.move (v := (.int .i64 z4)) rfl rfl rfl ?_
      refine O.neq rfl rfl rfl rfl ?_
      refine WL.nil ?_
      rcases ite_some hm2 with ⟨hc1, hm2⟩ | ⟨hc1, hm2⟩
      · refine W.cond_true (congrArg Value.bool hc1) ?_
        refine W.skip ?_
        refine W.block ?_
        obtain ⟨t1, ht1, hm2⟩ := bind_some hm2
        refine W.drawN 5 (fun f => f 0 = (.int .i64 z4) ∧ f 10 = (.int .i64 t1)) fol (by kernel_rfl) ?_ ?_
        · skip
          refine PL.of (fun _ w8 _ hx => O.move (v := (.int .i64 z4)) rfl rfl rfl (WL.nil ⟨rfl, hx⟩)) ?_
          refine PL.of (fun _ w8 _ hx => O.move (v := (.int .i64 z3)) rfl rfl rfl (WL.nil ⟨rfl, hx⟩)) ?_
          refine PL.of (fun _ w8 _ hx => O.move (v := (.int .i64 z4)) rfl rfl rfl (WL.nil ⟨rfl, hx⟩)) ?_
          refine PL.of (fun _ w8 _ hx => O.rem rfl rfl rfl rfl ht1 (WL.nil ⟨rfl, hx⟩)) ?_
          refine PL.of (fun _ w8 _ hx => O.assign (v := (.int .i64 z4)) rfl rfl rfl (WL.nil ⟨rfl, hx⟩)) ?_
          refine PL.nil ?_
          exact ⟨rfl, rfl⟩
        · skip
          rintro f w ⟨hf0, hf10⟩ hmd hx
          have H := H.ext hx
          obtain ⟨u2, rfl⟩ : ∃ u2, f = (upd (upd u2 0 (.int .i64 z4)) 10 (.int .i64 t1)) := ⟨f, by rw [upd_self hf0, upd_self hf10]⟩
          refine O.assign (v := (.int .i64 t1)) rfl rfl rfl ?_
          refine WL.nil ?_
          obtain rfl := Option.some.inj hm2
          exact ⟨_, rfl, _, _, rfl, rfl, rfl, H⟩
      · refine W.cond_false (congrArg Value.bool hc1) ?_
        refine W.exit ?_
        obtain rfl := Option.some.inj hm2
        refine ⟨_, rfl, ?_⟩
        intro hy
        have hq : z3 = s1 := hy
        subst hq
        refine xT rfl ?_
        exact ⟨rfl, H⟩
  · skip
    rintro f w ⟨hf0, H⟩
    obtain ⟨u3, rfl⟩ : ∃ u3, f = (upd u3 0 (.int .i64 s1)) := ⟨f, by rw [upd_self hf0]⟩
    refine W.seq ?_
    refine W.region ?_
    refine O.move (v := (.int .i64 s1)) rfl rfl rfl ?_
    refine O.move (v := (.int .i64 s1)) rfl rfl rfl ?_
    obtain ⟨t2, ht2, hm⟩ := bind_some hm
    refine O.neg rfl rfl rfl ht2 ?_
    refine O.max2 rfl rfl rfl rfl ?_
    refine O.assign (v := (.int .i64 (max s1 t2))) rfl rfl rfl ?_
    refine WL.nil ?_
    refine W.ret ?_
    have hq : (max s1 t2) = r0 := Option.some.inj (show some (max s1 t2) = some r0 from hm)
    subst hq
    exact ends1 Try.results131 rfl ⟨_, rfl, H.base, rfl⟩

theorem c_span_quotient_reduce {w0 : World} (b0 : Nat) (a0 : GQuotient) (hb0 : w0.heap[b0]? = some (.cells (Flat.cells a0).toArray 117 (0, 0))) {r0 : GQuotient} (hm : span_quotient_reduce a0 = some r0) :
    Calls Try.prog 119 #[(.pointer (some ⟨b0, 0, none⟩))] w0 (fun e w => ∃ v, e = .returned v ∧ InvD (fun x => x = b0) w0 w [boxI b0 117 (Flat.cells r0)] ∧ v = .tuple #[]) := by
  unfold span_quotient_reduce at hm
  refine calls_of_W Try.func119 rfl Try.ntmps119 (Nat.le_of_ble_eq_true rfl) ?_
  have H : InvD (fun x => x = b0) w0 w0 [boxI b0 117 [(.int .i64 a0.n), (.int .i64 a0.d)]] := InvD.startX hb0
  refine W.seq ?_
  refine W.drawN 8 (fun f => f 0 = (.pointer (some ⟨b0, 0, none⟩)) ∧ f 6 = (.int .i64 a0.n) ∧ f 10 = (.int .i64 a0.d)) fol (by kernel_rfl) ?_ ?_
  · skip
    refine PL.of (fun _ w8 _ hx => O.move (v := (.pointer (some ⟨b0, 0, none⟩))) rfl rfl rfl (WL.nil ⟨rfl, hx⟩)) ?_
    refine PL.of (fun _ w8 _ hx => O.nilCheck rfl rfl rfl (WL.nil ⟨rfl, hx⟩)) ?_
    refine PL.of (fun _ w8 _ hx => O.fieldAddr fd117_0 rfl rfl rfl (WL.nil ⟨rfl, hx⟩)) ?_
    refine PL.of (fun _ w8 _ hx => by have H := H.ext hx; exact O.load sc3 rfl rfl rfl (H.cell 0 rfl 0 _ rfl) (WL.nil ⟨rfl, hx⟩)) ?_
    refine PL.of (fun _ w8 _ hx => O.move (v := (.pointer (some ⟨b0, 0, none⟩))) rfl rfl rfl (WL.nil ⟨rfl, hx⟩)) ?_
    refine PL.of (fun _ w8 _ hx => O.nilCheck rfl rfl rfl (WL.nil ⟨rfl, hx⟩)) ?_
    refine PL.of (fun _ w8 _ hx => O.fieldAddr fd117_1 rfl rfl rfl (WL.nil ⟨rfl, hx⟩)) ?_
    refine PL.of (fun _ w8 _ hx => by have H := H.ext hx; exact O.load sc3 rfl rfl rfl (H.cell 0 rfl 1 _ rfl) (WL.nil ⟨rfl, hx⟩)) ?_
    refine PL.nil ?_
    exact ⟨rfl, rfl, rfl⟩
  · skip
    rintro f w ⟨hf0, hf6, hf10⟩ hmd hx
    have H := H.ext hx
    obtain ⟨u1, rfl⟩ : ∃ u1, f = (upd (upd (upd u1 0 (.pointer (some ⟨b0, 0, none⟩))) 6 (.int .i64 a0.n)) 10 (.int .i64 a0.d)) := ⟨f, by rw [upd_self hf0, upd_self hf6, upd_self hf10]⟩
    obtain ⟨t1, hy1, hm⟩ := bind_some hm
    refine O.call Try.call131 rfl rfl rfl (c_span_divisor _ _ hy1) ?_
    rintro _ w1 hb1 rfl
    have H := H.ext hb1
    refine O.assign (v := (.int .i64 t1)) rfl rfl rfl ?_
    refine WL.nil ?_
    refine W.seq ?_
    refine W.seq ?_
    refine W.region ?_
    refine O.move (v := (.pointer (some ⟨b0, 0, none⟩))) rfl rfl rfl ?_
    refine O.nilCheck rfl rfl rfl ?_
    refine O.fieldAddr fd117_1 rfl rfl rfl ?_
    refine O.load sc3 rfl rfl rfl (H.cell 0 rfl 1 _ rfl) ?_
    refine O.lss rfl rfl rfl rfl ?_
    refine WL.nil ?_
    obtain ⟨s1, hm1, hm⟩ := bind_some hm
    refine W.via (fun f w => f 0 = (.pointer (some ⟨b0, 0, none⟩)) ∧ f 2 = (.int .i64 s1) ∧ InvD (fun x => x = b0) w0 w [boxI b0 117 [(.int .i64 a0.n), (.int .i64 a0.d)]]) ?_ ?_
    · skip
      rcases ite_some hm1 with ⟨hc1, hm1⟩ | ⟨hc1, hm1⟩
      · refine W.cond_true (congrArg Value.bool hc1) ?_
        refine W.region ?_
        refine O.move (v := (.int .i64 t1)) rfl rfl rfl ?_
        obtain ⟨t2, ht2, hm1⟩ := bind_some hm1
        refine O.neg rfl rfl rfl ht2 ?_
        refine O.assign (v := (.int .i64 t2)) rfl rfl rfl ?_
        refine WL.nil ?_
        have hq : t2 = s1 := Option.some.inj (show some t2 = some s1 from hm1)
        subst hq
        exact ⟨rfl, rfl, H⟩
      · refine W.cond_false (congrArg Value.bool hc1) ?_
        refine W.skip ?_
        have hq : t1 = s1 := Option.some.inj (show some t1 = some s1 from hm1)
        subst hq
        exact ⟨rfl, rfl, H⟩
    · skip
      rintro f w ⟨hf0, hf2, H⟩
      obtain ⟨u2, rfl⟩ : ∃ u2, f = (upd (upd u2 0 (.pointer (some ⟨b0, 0, none⟩))) 2 (.int .i64 s1)) := ⟨f, by rw [upd_self hf0, upd_self hf2]⟩
      obtain ⟨t3, ht3, hm⟩ := bind_some hm
      obtain ⟨t4, ht4, hm⟩ := bind_some hm
      refine W.drawS 16 [1, 12, 13] (fun w9 => InvD (fun x => x = b0) w0 w9 [boxI b0 117 [(.int .i64 t3), (.int .i64 a0.d)]]) (fun f => f 0 = (.pointer (some ⟨b0, 0, none⟩)) ∧ f 20 = (.pointer (some ⟨b0, 0, none⟩)) ∧ f 26 = (.int .i64 t3) ∧ f 32 = (.int .i64 t4) ∧ f 34 = (.pointer (some (Addr.add (Addr.mk b0 0 none) 0)))) fol (by kernel_rfl) rfl ?_ ?_ ?_
      · skip
        refine PL.of (fun b w8 hb hx => match b, hb, hx with | none, _, hx => by exact O.move (v := (.pointer (some ⟨b0, 0, none⟩))) rfl rfl rfl (WL.nil ⟨rfl, hx⟩) | some _, hb, _ => absurd (hb rfl) (by decide)) ?_
        refine PL.of (fun b w8 _ hx => match b, hx with | none, hx => by exact O.move (v := (.pointer (some ⟨b0, 0, none⟩))) rfl rfl rfl (WL.nil ⟨rfl, hx⟩) | some _, H => O.move (v := (.pointer (some ⟨b0, 0, none⟩))) rfl rfl rfl (WL.nil ⟨rfl, H⟩)) ?_
        refine PL.of (fun b w8 hb hx => match b, hb, hx with | none, _, hx => by exact O.move (v := (.pointer (some ⟨b0, 0, none⟩))) rfl rfl rfl (WL.nil ⟨rfl, hx⟩) | some _, hb, _ => absurd (hb rfl) (by decide)) ?_
        refine PL.of (fun b w8 hb hx => match b, hb, hx with | none, _, hx => by exact O.nilCheck rfl rfl rfl (WL.nil ⟨rfl, hx⟩) | some _, hb, _ => absurd (hb rfl) (by decide)) ?_
        refine PL.of (fun b w8 hb hx => match b, hb, hx with | none, _, hx => by exact O.fieldAddr fd117_0 rfl rfl rfl (WL.nil ⟨rfl, hx⟩) | some _, hb, _ => absurd (hb rfl) (by decide)) ?_
        refine PL.of (fun b w8 hb hx => match b, hb, hx with | none, _, hx => by have H := H.ext hx; exact O.load sc3 rfl rfl rfl (H.cell 0 rfl 0 _ rfl) (WL.nil ⟨rfl, hx⟩) | some _, hb, _ => absurd (hb rfl) (by decide)) ?_
        refine PL.of (fun b w8 hb hx => match b, hb, hx with | none, _, hx => by exact O.move (v := (.int .i64 s1)) rfl rfl rfl (WL.nil ⟨rfl, hx⟩) | some _, hb, _ => absurd (hb rfl) (by decide)) ?_
        refine PL.of (fun b w8 hb hx => match b, hb, hx with | none, _, hx => by exact O.quo rfl rfl rfl rfl ht3 (WL.nil ⟨rfl, hx⟩) | some _, hb, _ => absurd (hb rfl) (by decide)) ?_
        refine PL.of (fun b w8 hb hx => match b, hb, hx with | none, _, hx => by exact O.move (v := (.pointer (some ⟨b0, 0, none⟩))) rfl rfl rfl (WL.nil ⟨rfl, hx⟩) | some _, hb, _ => absurd (hb rfl) (by decide)) ?_
        refine PL.of (fun b w8 hb hx => match b, hb, hx with | none, _, hx => by exact O.nilCheck rfl rfl rfl (WL.nil ⟨rfl, hx⟩) | some _, hb, _ => absurd (hb rfl) (by decide)) ?_
        refine PL.of (fun b w8 hb hx => match b, hb, hx with | none, _, hx => by exact O.fieldAddr fd117_1 rfl rfl rfl (WL.nil ⟨rfl, hx⟩) | some _, hb, _ => absurd (hb rfl) (by decide)) ?_
        refine PL.of (fun b w8 hb hx => match b, hb, hx with | none, _, hx => by have H := H.ext hx; exact O.load sc3 rfl rfl rfl (H.cell 0 rfl 1 _ rfl) (WL.nil ⟨rfl, hx⟩) | some _, hb, _ => absurd (hb rfl) (by decide)) ?_
        refine PL.of (fun b w8 _ hx => match b, hx with | none, hx => by exact O.move (v := (.int .i64 s1)) rfl rfl rfl (WL.nil ⟨rfl, hx⟩) | some _, H => O.move (v := (.int .i64 s1)) rfl rfl rfl (WL.nil ⟨rfl, H⟩)) ?_
        refine PL.of (fun b w8 _ hx => match b, hx with | none, hx => by exact O.quo rfl rfl rfl rfl ht4 (WL.nil ⟨rfl, hx⟩) | some _, H => O.quo rfl rfl rfl rfl ht4 (WL.nil ⟨rfl, H⟩)) ?_
        refine PL.of (fun b w8 hb hx => match b, hb, hx with | none, _, hx => by exact O.nilCheck rfl rfl rfl (WL.nil ⟨rfl, hx⟩) | some _, hb, _ => absurd (hb rfl) (by decide)) ?_
        refine PL.of (fun b w8 hb hx => match b, hb, hx with | none, _, hx => by exact O.fieldAddr fd117_0 rfl rfl rfl (WL.nil ⟨rfl, hx⟩) | some _, hb, _ => absurd (hb rfl) (by decide)) ?_
        refine PL.nil ?_
        exact ⟨rfl, rfl, rfl, rfl, rfl⟩
      · skip
        rintro f ⟨hf0, hf20, hf26, hf32, hf34⟩ w hx
        obtain ⟨u3, rfl⟩ : ∃ u3, f = (upd (upd (upd (upd (upd u3 0 (.pointer (some ⟨b0, 0, none⟩))) 20 (.pointer (some ⟨b0, 0, none⟩))) 26 (.int .i64 t3)) 32 (.int .i64 t4)) 34 (.pointer (some (Addr.add (Addr.mk b0 0 none) 0)))) := ⟨f, by rw [upd_self hf0, upd_self hf20, upd_self hf26, upd_self hf32, upd_self hf34]⟩
        have H := H.ext hx
        exact O.store 0 0 [(.int .i64 t3)] [(.int .i64 t3), (.int .i64 a0.d)] sz3 H rfl rfl rfl rfl rfl rfl ⟨⟨rfl, rfl⟩, rfl⟩ (one_cons rfl one_nil) (fun _ H => WL.nil ⟨rfl, H⟩)
      · skip
        rintro f w ⟨hf0, hf20, hf26, hf32, hf34⟩ hmd H
        obtain ⟨u4, rfl⟩ : ∃ u4, f = (upd (upd (upd (upd (upd u4 0 (.pointer (some ⟨b0, 0, none⟩))) 20 (.pointer (some ⟨b0, 0, none⟩))) 26 (.int .i64 t3)) 32 (.int .i64 t4)) 34 (.pointer (some (Addr.add (Addr.mk b0 0 none) 0)))) := ⟨f, by rw [upd_self hf0, upd_self hf20, upd_self hf26, upd_self hf32, upd_self hf34]⟩
        refine O.nilCheck rfl rfl rfl ?_
        refine O.fieldAddr fd117_1 rfl rfl rfl ?_
        refine O.store 0 1 [(.int .i64 t4)] [(.int .i64 t3), (.int .i64 t4)] sz3 H rfl rfl rfl rfl rfl rfl ⟨⟨rfl, rfl⟩, rfl⟩ (one_cons rfl one_nil) ?_
        intro w2 H
        refine WL.nil ?_
        have hq : (GQuotient.mk t3 t4) = r0 := Option.some.inj (show some (GQuotient.mk t3 t4) = some r0 from hm)
        subst hq
        exact ends0 Try.results119  ⟨_, rfl, H.pick [0] [boxI b0 117 [(.int .i64 t3), (.int .i64 t4)]] rfl (by decide), rfl⟩

set_option maxRecDepth 20000 in
theorem c_span_ValidRatio {w0 : World} (a0 : GRatio) {r0 : Bool} (hm : span_ValidRatio a0 = some r0) :
    Calls Try.prog 120 #[(.agg (Flat.cells a0).toArray)] w0 (Ret w0 fun _ v => v = (.bool r0)) := by
  unfold span_ValidRatio at hm
  refine calls_of_W Try.func120 rfl Try.ntmps120 (Nat.le_of_ble_eq_true rfl) ?_
  have H := Inv.start (w := w0)
  refine W.seq ?_
  refine W.region ?_
  refine O.box [(.int .i64 a0.N), (.int .i64 a0.D)] H rfl rfl rfl rfl ?_
  intro b1 w1 H hb1
  refine O.assign (v := (.bool false)) rfl rfl rfl ?_
  refine WL.nil ?_
  refine W.seq ?_
  refine W.region ?_
  refine O.fieldAddr fd52_1 rfl rfl rfl ?_
  refine O.load sc3 rfl rfl rfl (H.cell 0 rfl 1 _ rfl) ?_
  refine O.geq rfl rfl rfl rfl ?_
  refine O.move (v := (.bool (decide (1 ≤ a0.D)))) rfl rfl rfl ?_
  refine WL.cut 4 (fun f w => f 1 = (.pointer (some ⟨b1, 0, none⟩)) ∧ f 10 = .bool ((decide (1 ≤ a0.D)) && (decide (a0.D ≤ 1000000000))) ∧ Inv w0 w [boxI b1 52 [(.int .i64 a0.N), (.int .i64 a0.D)]]) ?_ ?_
  · skip
    rcases bool_ft (decide (1 ≤ a0.D)) with hc1 | hc1
    · skip
      refine WL.reset (i := 6) (v := .bool false) (congrArg Value.bool hc1) ?_
      refine O.skip rfl rfl ?_
      refine O.skip rfl rfl ?_
      refine O.skip rfl rfl ?_
      refine O.pick_false (v := (.bool false)) rfl rfl rfl rfl ?_
      refine WL.nil ?_
      exact ⟨rfl, congrArg Value.bool (and_f hc1), H⟩
    · skip
      refine WL.reset (i := 6) (v := .bool true) (congrArg Value.bool hc1) ?_
      refine O.fieldAddr fd52_1 rfl rfl rfl ?_
      refine O.load sc3 rfl rfl rfl (H.cell 0 rfl 1 _ rfl) ?_
      refine O.leq rfl rfl rfl rfl ?_
      refine O.pick_true (v := (.bool (decide (a0.D ≤ 1000000000)))) rfl rfl rfl rfl ?_
      refine WL.nil ?_
      exact ⟨rfl, congrArg Value.bool (and_t hc1), H⟩
  · skip
    rintro f w ⟨hf1, hf10, H⟩
    obtain ⟨u1, rfl⟩ : ∃ u1, f = (upd (upd u1 1 (.pointer (some ⟨b1, 0, none⟩))) 10 (.bool ((decide (1 ≤ a0.D)) && (decide (a0.D ≤ 1000000000))))) := ⟨f, by rw [upd_self hf1, upd_self hf10]⟩
    refine O.move (v := (.bool ((decide (1 ≤ a0.D)) && (decide (a0.D ≤ 1000000000))))) rfl rfl rfl ?_
    refine WL.cut 4 (fun f w => f 1 = (.pointer (some ⟨b1, 0, none⟩)) ∧ f 15 = .bool (((decide (1 ≤ a0.D)) && (decide (a0.D ≤ 1000000000))) && (decide ((-1000000000) ≤ a0.N))) ∧ Inv w0 w [boxI b1 52 [(.int .i64 a0.N), (.int .i64 a0.D)]]) ?_ ?_
    · skip
      rcases bool_ft ((decide (1 ≤ a0.D)) && (decide (a0.D ≤ 1000000000))) with hc2 | hc2
      · skip
        refine WL.reset (i := 11) (v := .bool false) (congrArg Value.bool hc2) ?_
        refine O.skip rfl rfl ?_
        refine O.skip rfl rfl ?_
        refine O.skip rfl rfl ?_
        refine O.pick_false (v := (.bool false)) rfl rfl rfl rfl ?_
        refine WL.nil ?_
        exact ⟨rfl, congrArg Value.bool (and_f hc2), H⟩
      · skip
        refine WL.reset (i := 11) (v := .bool true) (congrArg Value.bool hc2) ?_
        refine O.fieldAddr fd52_0 rfl rfl rfl ?_
        refine O.load sc3 rfl rfl rfl (H.cell 0 rfl 0 _ rfl) ?_
        refine O.geq rfl rfl rfl rfl ?_
        refine O.pick_true (v := (.bool (decide ((-1000000000) ≤ a0.N)))) rfl rfl rfl rfl ?_
        refine WL.nil ?_
        exact ⟨rfl, congrArg Value.bool (and_t hc2), H⟩
    · skip
      rintro f w ⟨hf1, hf15, H⟩
      obtain ⟨u2, rfl⟩ : ∃ u2, f = (upd (upd u2 1 (.pointer (some ⟨b1, 0, none⟩))) 15 (.bool (((decide (1 ≤ a0.D)) && (decide (a0.D ≤ 1000000000))) && (decide ((-1000000000) ≤ a0.N))))) := ⟨f, by rw [upd_self hf1, upd_self hf15]⟩
      refine O.move (v := (.bool (((decide (1 ≤ a0.D)) && (decide (a0.D ≤ 1000000000))) && (decide ((-1000000000) ≤ a0.N))))) rfl rfl rfl ?_
      refine WL.cut 4 (fun f w => f 1 = (.pointer (some ⟨b1, 0, none⟩)) ∧ f 20 = .bool ((((decide (1 ≤ a0.D)) && (decide (a0.D ≤ 1000000000))) && (decide ((-1000000000) ≤ a0.N))) && (decide (a0.N ≤ 1000000000))) ∧ Inv w0 w [boxI b1 52 [(.int .i64 a0.N), (.int .i64 a0.D)]]) ?_ ?_
      · skip
        rcases bool_ft (((decide (1 ≤ a0.D)) && (decide (a0.D ≤ 1000000000))) && (decide ((-1000000000) ≤ a0.N))) with hc3 | hc3
        · skip
          refine WL.reset (i := 16) (v := .bool false) (congrArg Value.bool hc3) ?_
          refine O.skip rfl rfl ?_
          refine O.skip rfl rfl ?_
          refine O.skip rfl rfl ?_
          refine O.pick_false (v := (.bool false)) rfl rfl rfl rfl ?_
          refine WL.nil ?_
          exact ⟨rfl, congrArg Value.bool (and_f hc3), H⟩
        · skip
          refine WL.reset (i := 16) (v := .bool true) (congrArg Value.bool hc3) ?_
          refine O.fieldAddr fd52_0 rfl rfl rfl ?_
          refine O.load sc3 rfl rfl rfl (H.cell 0 rfl 0 _ rfl) ?_
          refine O.leq rfl rfl rfl rfl ?_
          refine O.pick_true (v := (.bool (decide (a0.N ≤ 1000000000)))) rfl rfl rfl rfl ?_
          refine WL.nil ?_
          exact ⟨rfl, congrArg Value.bool (and_t hc3), H⟩
      · skip
        rintro f w ⟨hf1, hf20, H⟩
        obtain ⟨u3, rfl⟩ : ∃ u3, f = (upd (upd u3 1 (.pointer (some ⟨b1, 0, none⟩))) 20 (.bool ((((decide (1 ≤ a0.D)) && (decide (a0.D ≤ 1000000000))) && (decide ((-1000000000) ≤ a0.N))) && (decide (a0.N ≤ 1000000000))))) := ⟨f, by rw [upd_self hf1, upd_self hf20]⟩
        refine O.move (v := (.bool ((((decide (1 ≤ a0.D)) && (decide (a0.D ≤ 1000000000))) && (decide ((-1000000000) ≤ a0.N))) && (decide (a0.N ≤ 1000000000))))) rfl rfl rfl ?_
        obtain ⟨b2, hm1, hm⟩ := bind_some hm
        refine WL.cut 7 (fun f w => f 28 = .bool b2 ∧ Inv w0 w [boxI b1 52 [(.int .i64 a0.N), (.int .i64 a0.D)]]) ?_ ?_
        · skip
          rcases ite_some hm1 with ⟨hc4, hm1⟩ | ⟨hc4, hm1⟩
          · skip
            refine WL.reset (i := 21) (v := .bool true) (congrArg Value.bool hc4) ?_
            refine O.fieldAddr fd52_0 rfl rfl rfl ?_
            refine O.load sc3 rfl rfl rfl (H.cell 0 rfl 0 _ rfl) ?_
            refine O.fieldAddr fd52_1 rfl rfl rfl ?_
            refine O.load sc3 rfl rfl rfl (H.cell 0 rfl 1 _ rfl) ?_
            obtain ⟨t1, hy1, hm1⟩ := bind_some hm1
            refine O.call Try.call131 rfl rfl rfl (c_span_divisor _ _ hy1) ?_
            rintro _ w2 hb2 rfl
            have H := H.ext hb2
            refine O.eql rfl rfl rfl rfl ?_
            refine O.pick_true (v := (.bool (t1 == 1))) rfl rfl rfl rfl ?_
            refine WL.nil ?_
            have hq : (t1 == 1) = b2 := Option.some.inj (show some (t1 == 1) = some b2 from hm1)
            subst hq
            exact ⟨rfl, H⟩
          · skip
            refine WL.reset (i := 21) (v := .bool false) (congrArg Value.bool hc4) ?_
            refine O.skip rfl rfl ?_
            refine O.skip rfl rfl ?_
            refine O.skip rfl rfl ?_
            refine O.skip rfl rfl ?_
            refine O.skip rfl rfl ?_
            refine O.skip rfl rfl ?_
            refine O.pick_false (v := (.bool false)) rfl rfl rfl rfl ?_
            refine WL.nil ?_
            have hq : false = b2 := Option.some.inj (show some false = some b2 from hm1)
            subst hq
            exact ⟨rfl, H⟩
        · skip
          rintro f w ⟨hf28, H⟩
          obtain ⟨u4, rfl⟩ : ∃ u4, f = (upd u4 28 (.bool b2)) := ⟨f, by rw [upd_self hf28]⟩
          refine O.assign (v := (.bool b2)) rfl rfl rfl ?_
          refine WL.nil ?_
          refine W.ret ?_
          have hq : b2 = r0 := Option.some.inj (show some b2 = some r0 from hm)
          subst hq
          exact ends1 Try.results120 rfl ⟨_, rfl, H.base, rfl⟩

theorem c_span_lowest {w0 : World} (a0 : Int) (a1 : Int) {r0 : GRatio} {r1 : Int} (hm : span_lowest a0 a1 = some (r0, r1)) :
    Calls Try.prog 97 #[(.int .i64 a0), (.int .i64 a1)] w0 (Ret w0 fun _ v => v = .tuple #[(.agg (Flat.cells r0).toArray), (.int .i64 r1)]) := by
  unfold span_lowest at hm
  refine calls_of_W Try.func97 rfl Try.ntmps97 (Nat.le_of_ble_eq_true rfl) ?_
  have H := Inv.start (w := w0)
  refine W.seq ?_
  refine W.region ?_
  refine O.alloc [(.int .i64 0), (.int .i64 0)] ze52 H rfl rfl rfl ?_
  intro b1 w1 H hb1
  refine O.assign (v := (.int .i64 0)) rfl rfl rfl ?_
  refine WL.nil ?_
  refine W.seq ?_
  refine W.region ?_
  refine O.move (v := (.int .i64 a0)) rfl rfl rfl ?_
  refine O.move (v := (.int .i64 a1)) rfl rfl rfl ?_
  refine O.build (v := (.agg (Flat.cells (GQuotient.mk a0 a1)).toArray)) (fun w => bd117_0_1 _ _ w) rfl rfl rfl ?_
  refine O.alloc [(.int .i64 0), (.int .i64 0)] ze117 H rfl rfl rfl ?_
  intro b2 w2 H hb2
  refine O.store 1 0 [(.int .i64 a0), (.int .i64 a1)] [(.int .i64 a0), (.int .i64 a1)] sz117 H rfl rfl rfl rfl rfl rfl ⟨⟨rfl, rfl⟩, rfl⟩ (one_cons rfl (one_cons rfl one_nil)) ?_
  intro w3 H
  refine WL.nil ?_
  refine W.seq ?_
  refine W.region ?_
  refine O.makeFunc rfl rfl rfl rfl ?_
  refine O.assign (v := (.func (.func 119) #[(.pointer (some ⟨b2, 0, none⟩))] #[])) rfl rfl rfl ?_
  refine WL.nil ?_
  refine W.seq ?_
  refine W.region ?_
  refine O.move (v := (.func (.func 119) #[(.pointer (some ⟨b2, 0, none⟩))] #[])) rfl rfl rfl ?_
  obtain ⟨t1, hy1, hm⟩ := bind_some hm
  refine O.callXV 1 H rfl Try.call119 rfl rfl rfl rfl (c_span_quotient_reduce _ (GQuotient.mk a0 a1) (H.boxAt 1 rfl) hy1) ?_
  rintro _ w4 H rfl
  refine WL.nil ?_
  refine W.seq ?_
  refine W.seq ?_
  refine W.region ?_
  refine O.fieldAddr fd117_0 rfl rfl rfl ?_
  refine O.load sc3 rfl rfl rfl (H.cell 1 rfl 0 _ rfl) ?_
  refine O.fieldAddr fd117_1 rfl rfl rfl ?_
  refine O.load sc3 rfl rfl rfl (H.cell 1 rfl 1 _ rfl) ?_
  refine O.build (v := (.agg (Flat.cells (GRatio.mk t1.n t1.d)).toArray)) (fun w => bd52_0_1 _ _ w) rfl rfl rfl ?_
  refine O.alloc [(.int .i64 0), (.int .i64 0)] ze52 H rfl rfl rfl ?_
  intro b3 w5 H hb3
  refine O.store 2 0 [(.int .i64 t1.n), (.int .i64 t1.d)] [(.int .i64 t1.n), (.int .i64 t1.d)] sz52 H rfl rfl rfl rfl rfl rfl ⟨⟨rfl, rfl⟩, rfl⟩ (one_cons rfl (one_cons rfl one_nil)) ?_
  intro w6 H
  refine WL.nil ?_
  refine W.seq ?_
  refine W.region ?_
  refine O.loadA [(.int .i64 t1.n), (.int .i64 t1.d)] ag52 rfl rfl rfl rfl (H.cell 2 rfl) ?_
  obtain ⟨t2, hy2, hm⟩ := bind_some hm
  refine O.call Try.call120 rfl rfl rfl (c_span_ValidRatio (GRatio.mk t1.n t1.d) hy2) ?_
  rintro _ w7 hb4 rfl
  have H := H.ext hb4
  refine WL.nil ?_
  rcases ite_some hm with ⟨hc1, hm⟩ | ⟨hc1, hm⟩
  · refine W.cond_true (congrArg Value.bool hc1) ?_
    refine W.seq ?_
    refine W.region ?_
    refine O.loadA [(.int .i64 t1.n), (.int .i64 t1.d)] ag52 rfl rfl rfl rfl (H.cell 2 rfl) ?_
    refine O.store 0 0 [(.int .i64 t1.n), (.int .i64 t1.d)] [(.int .i64 t1.n), (.int .i64 t1.d)] sz52 H rfl rfl rfl rfl rfl rfl ⟨⟨rfl, rfl⟩, rfl⟩ (one_cons rfl (one_cons rfl one_nil)) ?_
    intro w8 H
    refine O.assign (v := (.int .i64 0)) rfl rfl rfl ?_
    refine WL.nil ?_
    refine W.ret ?_
    have hq : ((GRatio.mk t1.n t1.d), 0) = (r0, r1) := Option.some.inj (show some ((GRatio.mk t1.n t1.d), 0) = some (r0, r1) from hm)
    obtain ⟨he0, hq0⟩ := Prod.mk.inj hq; clear hq; subst he0
    subst hq0
    exact ends2 Try.results97 ⟨_, rfl, run_loadVar_agg ag52 rfl (H.cell 0 rfl)⟩ rfl ⟨_, rfl, H.base, rfl⟩
  · refine W.cond_false (congrArg Value.bool hc1) ?_
    refine W.skip ?_
    refine W.seq ?_
    refine W.region ?_
    refine O.build (v := (.agg (Flat.cells (GRatio.mk 0 0)).toArray)) (fun w => bd52_  w) rfl rfl rfl ?_
    refine O.store 0 0 [(.int .i64 0), (.int .i64 0)] [(.int .i64 0), (.int .i64 0)] sz52 H rfl rfl rfl rfl rfl rfl ⟨⟨rfl, rfl⟩, rfl⟩ (one_cons rfl (one_cons rfl one_nil)) ?_
    intro w9 H
    refine O.assign (v := (.int .i64 4)) rfl rfl rfl ?_
    refine WL.nil ?_
    refine W.ret ?_
    have hq : ((GRatio.mk 0 0), 4) = (r0, r1) := Option.some.inj (show some ((GRatio.mk 0 0), 4) = some (r0, r1) from hm)
    obtain ⟨he0, hq0⟩ := Prod.mk.inj hq; clear hq; subst he0
    subst hq0
    exact ends2 Try.results97 ⟨_, rfl, run_loadVar_agg ag52 rfl (H.cell 0 rfl)⟩ rfl ⟨_, rfl, H.base, rfl⟩

set_option maxRecDepth 20000 in
theorem c_span_Make {w0 : World} (a0 : Int) (a1 : Int) {r0 : GRatio} {r1 : Int} (hm : span_Make a0 a1 = some (r0, r1)) :
    Calls Try.prog 88 #[(.int .i64 a0), (.int .i64 a1)] w0 (Ret w0 fun _ v => v = .tuple #[(.agg (Flat.cells r0).toArray), (.int .i64 r1)]) := by
  unfold span_Make at hm
  refine calls_of_W Try.func88 rfl Try.ntmps88 (Nat.le_of_ble_eq_true rfl) ?_
  have H := Inv.start (w := w0)
  refine W.seq ?_
  refine W.region ?_
  refine O.alloc [(.int .i64 0), (.int .i64 0)] ze52 H rfl rfl rfl ?_
  intro b1 w1 H hb1
  refine O.assign (v := (.int .i64 0)) rfl rfl rfl ?_
  refine WL.nil ?_
  refine W.seq ?_
  refine W.seq ?_
  refine W.region ?_
  refine O.move (v := (.int .i64 a0)) rfl rfl rfl ?_
  refine O.lss rfl rfl rfl rfl ?_
  refine O.move (v := (.bool (decide (a0 < (-1000000000000000000))))) rfl rfl rfl ?_
  refine WL.cut 3 (fun f w => f 0 = (.int .i64 a0) ∧ f 1 = (.int .i64 a1) ∧ f 4 = (.pointer (some ⟨b1, 0, none⟩)) ∧ f 11 = .bool ((decide (a0 < (-1000000000000000000))) || (decide (1000000000000000000 < a0))) ∧ Inv w0 w [boxI b1 52 [(.int .i64 0), (.int .i64 0)]]) ?_ ?_
  · skip
    rcases bool_ft (decide (a0 < (-1000000000000000000))) with hc1 | hc1
    · skip
      refine WL.reset (i := 8) (v := .bool false) (congrArg Value.bool hc1) ?_
      refine O.move (v := (.int .i64 a0)) rfl rfl rfl ?_
      refine O.gtr rfl rfl rfl rfl ?_
      refine O.pick_false (v := (.bool (decide (1000000000000000000 < a0)))) rfl rfl rfl rfl ?_
      refine WL.nil ?_
      exact ⟨rfl, rfl, rfl, congrArg Value.bool (or_f hc1), H⟩
    · skip
      refine WL.reset (i := 8) (v := .bool true) (congrArg Value.bool hc1) ?_
      refine O.skip rfl rfl ?_
      refine O.skip rfl rfl ?_
      refine O.pick_true (v := (.bool true)) rfl rfl rfl rfl ?_
      refine WL.nil ?_
      exact ⟨rfl, rfl, rfl, congrArg Value.bool (or_t hc1), H⟩
  · skip
    rintro f w ⟨hf0, hf1, hf4, hf11, H⟩
    obtain ⟨u1, rfl⟩ : ∃ u1, f = (upd (upd (upd (upd u1 0 (.int .i64 a0)) 1 (.int .i64 a1)) 4 (.pointer (some ⟨b1, 0, none⟩))) 11 (.bool ((decide (a0 < (-1000000000000000000))) || (decide (1000000000000000000 < a0))))) := ⟨f, by rw [upd_self hf0, upd_self hf1, upd_self hf4, upd_self hf11]⟩
    refine O.move (v := (.bool ((decide (a0 < (-1000000000000000000))) || (decide (1000000000000000000 < a0))))) rfl rfl rfl ?_
    refine WL.cut 3 (fun f w => f 0 = (.int .i64 a0) ∧ f 1 = (.int .i64 a1) ∧ f 4 = (.pointer (some ⟨b1, 0, none⟩)) ∧ f 15 = .bool (((decide (a0 < (-1000000000000000000))) || (decide (1000000000000000000 < a0))) || (decide (a1 < (-1000000000000000000)))) ∧ Inv w0 w [boxI b1 52 [(.int .i64 0), (.int .i64 0)]]) ?_ ?_
    · skip
      rcases bool_ft ((decide (a0 < (-1000000000000000000))) || (decide (1000000000000000000 < a0))) with hc2 | hc2
      · skip
        refine WL.reset (i := 12) (v := .bool false) (congrArg Value.bool hc2) ?_
        refine O.move (v := (.int .i64 a1)) rfl rfl rfl ?_
        refine O.lss rfl rfl rfl rfl ?_
        refine O.pick_false (v := (.bool (decide (a1 < (-1000000000000000000))))) rfl rfl rfl rfl ?_
        refine WL.nil ?_
        exact ⟨rfl, rfl, rfl, congrArg Value.bool (or_f hc2), H⟩
      · skip
        refine WL.reset (i := 12) (v := .bool true) (congrArg Value.bool hc2) ?_
        refine O.skip rfl rfl ?_
        refine O.skip rfl rfl ?_
        refine O.pick_true (v := (.bool true)) rfl rfl rfl rfl ?_
        refine WL.nil ?_
        exact ⟨rfl, rfl, rfl, congrArg Value.bool (or_t hc2), H⟩
    · skip
      rintro f w ⟨hf0, hf1, hf4, hf15, H⟩
      obtain ⟨u2, rfl⟩ : ∃ u2, f = (upd (upd (upd (upd u2 0 (.int .i64 a0)) 1 (.int .i64 a1)) 4 (.pointer (some ⟨b1, 0, none⟩))) 15 (.bool (((decide (a0 < (-1000000000000000000))) || (decide (1000000000000000000 < a0))) || (decide (a1 < (-1000000000000000000)))))) := ⟨f, by rw [upd_self hf0, upd_self hf1, upd_self hf4, upd_self hf15]⟩
      refine O.move (v := (.bool (((decide (a0 < (-1000000000000000000))) || (decide (1000000000000000000 < a0))) || (decide (a1 < (-1000000000000000000)))))) rfl rfl rfl ?_
      refine WL.cut 3 (fun f w => f 0 = (.int .i64 a0) ∧ f 1 = (.int .i64 a1) ∧ f 4 = (.pointer (some ⟨b1, 0, none⟩)) ∧ f 19 = .bool ((((decide (a0 < (-1000000000000000000))) || (decide (1000000000000000000 < a0))) || (decide (a1 < (-1000000000000000000)))) || (decide (1000000000000000000 < a1))) ∧ Inv w0 w [boxI b1 52 [(.int .i64 0), (.int .i64 0)]]) ?_ ?_
      · skip
        rcases bool_ft (((decide (a0 < (-1000000000000000000))) || (decide (1000000000000000000 < a0))) || (decide (a1 < (-1000000000000000000)))) with hc3 | hc3
        · skip
          refine WL.reset (i := 16) (v := .bool false) (congrArg Value.bool hc3) ?_
          refine O.move (v := (.int .i64 a1)) rfl rfl rfl ?_
          refine O.gtr rfl rfl rfl rfl ?_
          refine O.pick_false (v := (.bool (decide (1000000000000000000 < a1)))) rfl rfl rfl rfl ?_
          refine WL.nil ?_
          exact ⟨rfl, rfl, rfl, congrArg Value.bool (or_f hc3), H⟩
        · skip
          refine WL.reset (i := 16) (v := .bool true) (congrArg Value.bool hc3) ?_
          refine O.skip rfl rfl ?_
          refine O.skip rfl rfl ?_
          refine O.pick_true (v := (.bool true)) rfl rfl rfl rfl ?_
          refine WL.nil ?_
          exact ⟨rfl, rfl, rfl, congrArg Value.bool (or_t hc3), H⟩
      · skip
        rintro f w ⟨hf0, hf1, hf4, hf19, H⟩
        obtain ⟨u3, rfl⟩ : ∃ u3, f = (upd (upd (upd (upd u3 0 (.int .i64 a0)) 1 (.int .i64 a1)) 4 (.pointer (some ⟨b1, 0, none⟩))) 19 (.bool ((((decide (a0 < (-1000000000000000000))) || (decide (1000000000000000000 < a0))) || (decide (a1 < (-1000000000000000000)))) || (decide (1000000000000000000 < a1))))) := ⟨f, by rw [upd_self hf0, upd_self hf1, upd_self hf4, upd_self hf19]⟩
        refine O.move (v := (.bool ((((decide (a0 < (-1000000000000000000))) || (decide (1000000000000000000 < a0))) || (decide (a1 < (-1000000000000000000)))) || (decide (1000000000000000000 < a1))))) rfl rfl rfl ?_
        refine WL.cut 3 (fun f w => f 0 = (.int .i64 a0) ∧ f 1 = (.int .i64 a1) ∧ f 4 = (.pointer (some ⟨b1, 0, none⟩)) ∧ f 23 = .bool (((((decide (a0 < (-1000000000000000000))) || (decide (1000000000000000000 < a0))) || (decide (a1 < (-1000000000000000000)))) || (decide (1000000000000000000 < a1))) || (a1 == 0)) ∧ Inv w0 w [boxI b1 52 [(.int .i64 0), (.int .i64 0)]]) ?_ ?_
        · skip
          rcases bool_ft ((((decide (a0 < (-1000000000000000000))) || (decide (1000000000000000000 < a0))) || (decide (a1 < (-1000000000000000000)))) || (decide (1000000000000000000 < a1))) with hc4 | hc4
          · skip
            refine WL.reset (i := 20) (v := .bool false) (congrArg Value.bool hc4) ?_
            refine O.move (v := (.int .i64 a1)) rfl rfl rfl ?_
            refine O.eql rfl rfl rfl rfl ?_
            refine O.pick_false (v := (.bool (a1 == 0))) rfl rfl rfl rfl ?_
            refine WL.nil ?_
            exact ⟨rfl, rfl, rfl, congrArg Value.bool (or_f hc4), H⟩
          · skip
            refine WL.reset (i := 20) (v := .bool true) (congrArg Value.bool hc4) ?_
            refine O.skip rfl rfl ?_
            refine O.skip rfl rfl ?_
            refine O.pick_true (v := (.bool true)) rfl rfl rfl rfl ?_
            refine WL.nil ?_
            exact ⟨rfl, rfl, rfl, congrArg Value.bool (or_t hc4), H⟩
        · skip
          rintro f w ⟨hf0, hf1, hf4, hf23, H⟩
          obtain ⟨u4, rfl⟩ : ∃ u4, f = (upd (upd (upd (upd u4 0 (.int .i64 a0)) 1 (.int .i64 a1)) 4 (.pointer (some ⟨b1, 0, none⟩))) 23 (.bool (((((decide (a0 < (-1000000000000000000))) || (decide (1000000000000000000 < a0))) || (decide (a1 < (-1000000000000000000)))) || (decide (1000000000000000000 < a1))) || (a1 == 0)))) := ⟨f, by rw [upd_self hf0, upd_self hf1, upd_self hf4, upd_self hf23]⟩
          refine WL.nil ?_
          rcases ite_some hm with ⟨hc5, hm⟩ | ⟨hc5, hm⟩
          · refine W.cond_true (congrArg Value.bool hc5) ?_
            refine W.seq ?_
            refine W.region ?_
            refine O.build (v := (.agg (Flat.cells (GRatio.mk 0 0)).toArray)) (fun w => bd52_  w) rfl rfl rfl ?_
            refine O.store 0 0 [(.int .i64 0), (.int .i64 0)] [(.int .i64 0), (.int .i64 0)] sz52 H rfl rfl rfl rfl rfl rfl ⟨⟨rfl, rfl⟩, rfl⟩ (one_cons rfl (one_cons rfl one_nil)) ?_
            intro w2 H
            refine O.assign (v := (.int .i64 7)) rfl rfl rfl ?_
            refine WL.nil ?_
            refine W.ret ?_
            have hq : ((GRatio.mk 0 0), 7) = (r0, r1) := Option.some.inj (show some ((GRatio.mk 0 0), 7) = some (r0, r1) from hm)
            obtain ⟨he0, hq0⟩ := Prod.mk.inj hq; clear hq; subst he0
            subst hq0
            exact ends2 Try.results88 ⟨_, rfl, run_loadVar_agg ag52 rfl (H.cell 0 rfl)⟩ rfl ⟨_, rfl, H.base, rfl⟩
          · refine W.cond_false (congrArg Value.bool hc5) ?_
            refine W.skip ?_
            refine W.seq ?_
            refine W.region ?_
            refine O.move (v := (.int .i64 a0)) rfl rfl rfl ?_
            refine O.move (v := (.int .i64 a1)) rfl rfl rfl ?_
            obtain ⟨⟨t1, t2⟩, hy1, hm⟩ := bind_some hm
            refine O.call Try.call97 rfl rfl rfl (c_span_lowest _ _ hy1) ?_
            rintro _ w3 hb2 rfl
            have H := H.ext hb2
            refine O.extract (v := (.agg (Flat.cells t1).toArray)) rfl rfl rfl rfl ?_
            refine O.extract (v := (.int .i64 t2)) rfl rfl rfl rfl ?_
            refine O.store 0 0 [(.int .i64 t1.N), (.int .i64 t1.D)] [(.int .i64 t1.N), (.int .i64 t1.D)] sz52 H rfl rfl rfl rfl rfl rfl ⟨⟨rfl, rfl⟩, rfl⟩ (one_cons rfl (one_cons rfl one_nil)) ?_
            intro w4 H
            refine O.assign (v := (.int .i64 t2)) rfl rfl rfl ?_
            refine WL.nil ?_
            refine W.ret ?_
            have hq : (t1, t2) = (r0, r1) := Option.some.inj (show some (t1, t2) = some (r0, r1) from hm)
            obtain ⟨he0, hq0⟩ := Prod.mk.inj hq; clear hq; subst he0
            subst hq0
            exact ends2 Try.results88 ⟨_, rfl, run_loadVar_agg ag52 rfl (H.cell 0 rfl)⟩ rfl ⟨_, rfl, H.base, rfl⟩

theorem c_ledger_Mean {w0 : World} (va0 : Value) (a0 : (List GEntry)) (ha0 : SliceR w0 va0 a0) (a1 : Int) (a2 : Int) {r0 : GRatio} {r1 : Int} (hm : ledger_Mean a0 a1 a2 = some (r0, r1)) :
    Calls Try.prog 52 #[va0, (.int .i64 a1), (.int .i64 a2)] w0 (Ret w0 fun _ v => v = .tuple #[(.agg (Flat.cells r0).toArray), (.int .i64 r1)]) := by
  unfold ledger_Mean at hm
  refine calls_of_W Try.func52 rfl Try.ntmps52 (Nat.le_of_ble_eq_true rfl) ?_
  have H := Inv.start (w := w0)
  refine W.seq ?_
  refine W.region ?_
  refine O.alloc [(.int .i64 0), (.int .i64 0)] ze52 H rfl rfl rfl ?_
  intro b1 w1 H hb1
  refine O.assign (v := (.int .i64 0)) rfl rfl rfl ?_
  refine WL.nil ?_
  refine W.seq ?_
  refine W.region ?_
  refine O.move (v := va0) rfl rfl rfl ?_
  refine O.move (v := (.int .i64 a1)) rfl rfl rfl ?_
  refine O.move (v := (.int .i64 a2)) rfl rfl rfl ?_
  obtain ⟨⟨t1, t2⟩, hy1, hm⟩ := bind_some hm
  refine O.call Try.call85 rfl rfl rfl (c_ledger_stretch _ _ (H.arg ha0) _ _ hy1) ?_
  rintro _ w2 hb2 ⟨v1, rfl, ho1⟩
  have H := H.addOwn hb2 ho1
  refine O.move (v := (.tuple #[v1, (.int .i64 t2)])) rfl rfl rfl ?_
  refine O.extract (v := v1) rfl rfl rfl rfl ?_
  refine O.extract (v := (.int .i64 t2)) rfl rfl rfl rfl ?_
  refine O.assign (v := v1) rfl rfl rfl ?_
  refine O.assign (v := (.int .i64 t2)) rfl rfl rfl ?_
  refine WL.nil ?_
  refine W.seq ?_
  refine W.block ?_
  refine W.seq ?_
  refine W.region ?_
  refine O.move (v := (.int .i64 t2)) rfl rfl rfl ?_
  refine O.neq rfl rfl rfl rfl ?_
  refine O.assign (v := (.bool (t2 != 0))) rfl rfl rfl ?_
  refine WL.nil ?_
  rcases ite_some hm with ⟨hc1, hm⟩ | ⟨hc1, hm⟩
  · refine W.cond_true (congrArg Value.bool hc1) ?_
    refine W.seq ?_
    refine W.region ?_
    refine O.build (v := (.agg (Flat.cells (GRatio.mk 0 0)).toArray)) (fun w => bd52_  w) rfl rfl rfl ?_
    refine O.move (v := (.int .i64 t2)) rfl rfl rfl ?_
    refine O.store 0 0 [(.int .i64 0), (.int .i64 0)] [(.int .i64 0), (.int .i64 0)] sz52 H rfl rfl rfl rfl rfl rfl ⟨⟨rfl, rfl⟩, rfl⟩ (one_cons rfl (one_cons rfl one_nil)) ?_
    intro w3 H
    refine O.assign (v := (.int .i64 t2)) rfl rfl rfl ?_
    refine WL.nil ?_
    refine W.ret ?_
    have hq : ((GRatio.mk 0 0), t2) = (r0, r1) := Option.some.inj (show some ((GRatio.mk 0 0), t2) = some (r0, r1) from hm)
    obtain ⟨he0, hq0⟩ := Prod.mk.inj hq; clear hq; subst he0
    subst hq0
    exact ends2 Try.results52 ⟨_, rfl, run_loadVar_agg ag52 rfl (H.cell 0 rfl)⟩ rfl ⟨_, rfl, H.base, rfl⟩
  · refine W.cond_false (congrArg Value.bool hc1) ?_
    refine W.seq ?_
    refine W.region ?_
    refine O.move (v := v1) rfl rfl rfl ?_
    refine O.lenS Try.underlying39 (H.own 1 rfl) rfl rfl rfl ?_
    refine O.eql rfl rfl rfl rfl ?_
    refine O.assign (v := (.bool (((t1.length : Nat) : Int) == 0))) rfl rfl rfl ?_
    refine WL.nil ?_
    rcases ite_some hm with ⟨hc2, hm⟩ | ⟨hc2, hm⟩
    · refine W.cond_true (congrArg Value.bool hc2) ?_
      refine W.seq ?_
      refine W.region ?_
      refine O.build (v := (.agg (Flat.cells (GRatio.mk 0 0)).toArray)) (fun w => bd52_  w) rfl rfl rfl ?_
      refine O.store 0 0 [(.int .i64 0), (.int .i64 0)] [(.int .i64 0), (.int .i64 0)] sz52 H rfl rfl rfl rfl rfl rfl ⟨⟨rfl, rfl⟩, rfl⟩ (one_cons rfl (one_cons rfl one_nil)) ?_
      intro w4 H
      refine O.assign (v := (.int .i64 8)) rfl rfl rfl ?_
      refine WL.nil ?_
      refine W.ret ?_
      have hq : ((GRatio.mk 0 0), 8) = (r0, r1) := Option.some.inj (show some ((GRatio.mk 0 0), 8) = some (r0, r1) from hm)
      obtain ⟨he0, hq0⟩ := Prod.mk.inj hq; clear hq; subst he0
      subst hq0
      exact ends2 Try.results52 ⟨_, rfl, run_loadVar_agg ag52 rfl (H.cell 0 rfl)⟩ rfl ⟨_, rfl, H.base, rfl⟩
    · refine W.cond_false (congrArg Value.bool hc2) ?_
      refine W.skip ?_
      refine W.seq ?_
      refine W.region ?_
      refine O.move (v := v1) rfl rfl rfl ?_
      obtain ⟨t3, hy2, hm⟩ := bind_some hm
      refine O.call Try.call86 rfl rfl rfl (c_ledger_total _ _ (H.own 1 rfl) hy2) ?_
      rintro _ w5 hb3 rfl
      have H := H.ext hb3
      refine O.move (v := v1) rfl rfl rfl ?_
      refine O.lenS Try.underlying39 (H.own 1 rfl) rfl rfl rfl ?_
      obtain ⟨⟨t4, t5⟩, hy3, hm⟩ := bind_some hm
      refine O.call Try.call88 rfl rfl rfl (c_span_Make _ _ hy3) ?_
      rintro _ w6 hb4 rfl
      have H := H.ext hb4
      refine O.extract (v := (.agg (Flat.cells t4).toArray)) rfl rfl rfl rfl ?_
      refine O.extract (v := (.int .i64 t5)) rfl rfl rfl rfl ?_
      refine O.store 0 0 [(.int .i64 t4.N), (.int .i64 t4.D)] [(.int .i64 t4.N), (.int .i64 t4.D)] sz52 H rfl rfl rfl rfl rfl rfl ⟨⟨rfl, rfl⟩, rfl⟩ (one_cons rfl (one_cons rfl one_nil)) ?_
      intro w7 H
      refine O.assign (v := (.int .i64 t5)) rfl rfl rfl ?_
      refine WL.nil ?_
      refine W.ret ?_
      have hq : (t4, t5) = (r0, r1) := Option.some.inj (show some (t4, t5) = some (r0, r1) from hm)
      obtain ⟨he0, hq0⟩ := Prod.mk.inj hq; clear hq; subst he0
      subst hq0
      exact ends2 Try.results52 ⟨_, rfl, run_loadVar_agg ag52 rfl (H.cell 0 rfl)⟩ rfl ⟨_, rfl, H.base, rfl⟩

set_option maxRecDepth 20000 in
theorem c_noongunref09_Mean {w0 : World} (va0 : Value) (a0 : (List GEntry)) (ha0 : SliceR w0 va0 a0) (a1 : Int) (a2 : Int) {r0 : GRatio} {r1 : Int} (hm : noongunref09_Mean a0 a1 a2 = some (r0, r1)) :
    Calls Try.prog 53 #[va0, (.int .i64 a1), (.int .i64 a2)] w0 (Ret w0 fun _ v => v = .tuple #[(.agg (Flat.cells r0).toArray), (.int .i64 r1)]) := by
  unfold noongunref09_Mean at hm
  refine calls_of_W Try.func53 rfl Try.ntmps53 (Nat.le_of_ble_eq_true rfl) ?_
  have H := Inv.start (w := w0)
  refine W.seq ?_
  refine W.region ?_
  refine O.alloc [(.int .i64 0), (.int .i64 0)] ze52 H rfl rfl rfl ?_
  intro b1 w1 H hb1
  refine O.assign (v := (.int .i64 0)) rfl rfl rfl ?_
  refine WL.nil ?_
  refine W.seq ?_
  refine W.region ?_
  refine O.move (v := va0) rfl rfl rfl ?_
  refine O.move (v := (.int .i64 a1)) rfl rfl rfl ?_
  refine O.move (v := (.int .i64 a2)) rfl rfl rfl ?_
  obtain ⟨⟨t1, t2, t3⟩, hy1, hm⟩ := bind_some hm
  refine O.call Try.call87 rfl rfl rfl (c_noongunref09_stretch _ _ (H.arg ha0) _ _ hy1) ?_
  rintro _ w2 hb2 rfl
  have H := H.ext hb2
  refine O.move (v := (.tuple #[(.int .i64 t1), (.int .i64 t2), (.int .i64 t3)])) rfl rfl rfl ?_
  refine O.extract (v := (.int .i64 t1)) rfl rfl rfl rfl ?_
  refine O.extract (v := (.int .i64 t2)) rfl rfl rfl rfl ?_
  refine O.extract (v := (.int .i64 t3)) rfl rfl rfl rfl ?_
  refine O.assign (v := (.int .i64 t1)) rfl rfl rfl ?_
  refine O.assign (v := (.int .i64 t2)) rfl rfl rfl ?_
  refine O.assign (v := (.int .i64 t3)) rfl rfl rfl ?_
  refine WL.nil ?_
  refine W.seq ?_
  refine W.seq ?_
  refine W.region ?_
  refine O.move (v := (.int .i64 t3)) rfl rfl rfl ?_
  refine O.neq rfl rfl rfl rfl ?_
  refine WL.nil ?_
  rcases ite_some hm with ⟨hc1, hm⟩ | ⟨hc1, hm⟩
  · refine W.cond_true (congrArg Value.bool hc1) ?_
    refine W.seq ?_
    refine W.region ?_
    refine O.build (v := (.agg (Flat.cells (GRatio.mk 0 0)).toArray)) (fun w => bd52_  w) rfl rfl rfl ?_
    refine O.move (v := (.int .i64 t3)) rfl rfl rfl ?_
    refine O.store 0 0 [(.int .i64 0), (.int .i64 0)] [(.int .i64 0), (.int .i64 0)] sz52 H rfl rfl rfl rfl rfl rfl ⟨⟨rfl, rfl⟩, rfl⟩ (one_cons rfl (one_cons rfl one_nil)) ?_
    intro w3 H
    refine O.assign (v := (.int .i64 t3)) rfl rfl rfl ?_
    refine WL.nil ?_
    refine W.ret ?_
    have hq : ((GRatio.mk 0 0), t3) = (r0, r1) := Option.some.inj (show some ((GRatio.mk 0 0), t3) = some (r0, r1) from hm)
    obtain ⟨he0, hq0⟩ := Prod.mk.inj hq; clear hq; subst he0
    subst hq0
    exact ends2 Try.results53 ⟨_, rfl, run_loadVar_agg ag52 rfl (H.cell 0 rfl)⟩ rfl ⟨_, rfl, H.base, rfl⟩
  · refine W.cond_false (congrArg Value.bool hc1) ?_
    refine W.skip ?_
    refine W.seq ?_
    refine W.seq ?_
    refine W.region ?_
    refine O.move (v := (.int .i64 t2)) rfl rfl rfl ?_
    refine O.eql rfl rfl rfl rfl ?_
    refine WL.nil ?_
    rcases ite_some hm with ⟨hc2, hm⟩ | ⟨hc2, hm⟩
    · refine W.cond_true (congrArg Value.bool hc2) ?_
      refine W.seq ?_
      refine W.region ?_
      refine O.build (v := (.agg (Flat.cells (GRatio.mk 0 0)).toArray)) (fun w => bd52_  w) rfl rfl rfl ?_
      refine O.store 0 0 [(.int .i64 0), (.int .i64 0)] [(.int .i64 0), (.int .i64 0)] sz52 H rfl rfl rfl rfl rfl rfl ⟨⟨rfl, rfl⟩, rfl⟩ (one_cons rfl (one_cons rfl one_nil)) ?_
      intro w4 H
      refine O.assign (v := (.int .i64 8)) rfl rfl rfl ?_
      refine WL.nil ?_
      refine W.ret ?_
      have hq : ((GRatio.mk 0 0), 8) = (r0, r1) := Option.some.inj (show some ((GRatio.mk 0 0), 8) = some (r0, r1) from hm)
      obtain ⟨he0, hq0⟩ := Prod.mk.inj hq; clear hq; subst he0
      subst hq0
      exact ends2 Try.results53 ⟨_, rfl, run_loadVar_agg ag52 rfl (H.cell 0 rfl)⟩ rfl ⟨_, rfl, H.base, rfl⟩
    · refine W.cond_false (congrArg Value.bool hc2) ?_
      refine W.skip ?_
      refine W.seq ?_
      refine W.region ?_
      refine O.move (v := (.int .i64 t1)) rfl rfl rfl ?_
      obtain ⟨t4, hy2, hm⟩ := bind_some hm
      refine O.call Try.call44 rfl rfl rfl (c_noongunref09_Abs _ hy2) ?_
      rintro _ w5 hb3 rfl
      have H := H.ext hb3
      refine O.move (v := (.int .i64 t2)) rfl rfl rfl ?_
      refine O.assign (v := (.int .i64 t4)) rfl rfl rfl ?_
      refine O.assign (v := (.int .i64 t2)) rfl rfl rfl ?_
      refine WL.nil ?_
      refine W.seq ?_
      obtain ⟨s1, hm1, hm⟩ := bind_some hm
      refine W.via (fun f w => f 6 = (.pointer (some ⟨b1, 0, none⟩)) ∧ f 8 = (.int .i64 t1) ∧ f 9 = (.int .i64 t2) ∧ f 11 = (.int .i64 s1) ∧ Inv w0 w [boxI b1 52 [(.int .i64 0), (.int .i64 0)]]) ?_ ?_
      · skip
        refine W.block ?_
        refine W.loopR hm1 (fun s f w => ∃ z3 : Int, ∃ z4 : Int, (z3, z4) = s ∧ f 6 = (.pointer (some ⟨b1, 0, none⟩)) ∧ f 8 = (.int .i64 t1) ∧ f 9 = (.int .i64 t2) ∧ f 11 = (.int .i64 z3) ∧ f 12 = (.int .i64 z4) ∧ Inv w0 w [boxI b1 52 [(.int .i64 0), (.int .i64 0)]]) ?_ ?_
        · skip
          exact ⟨_, _, rfl, rfl, rfl, rfl, rfl, rfl, H⟩
        · skip
          rintro _ st f w ⟨z3, z4, rfl, hf6, hf8, hf9, hf11, hf12, H⟩ hm2
          obtain ⟨u1, rfl⟩ : ∃ u1, f = (upd (upd (upd (upd (upd u1 6 (.pointer (some ⟨b1, 0, none⟩))) 8 (.int .i64 t1)) 9 (.int .i64 t2)) 11 (.int .i64 z3)) 12 (.int .i64 z4)) := ⟨f, by rw [upd_self hf6, upd_self hf8, upd_self hf9, upd_self hf11, upd_self hf12]⟩
          refine W.seq ?_
          refine W.seq ?_
          refine W.region ?_
          refine O.move (v := (.int .i64 z4)) rfl rfl rfl ?_
          refine O.gtr rfl rfl rfl rfl ?_
          refine WL.nil ?_
          rcases ite_some hm2 with ⟨hc3, hm2⟩ | ⟨hc3, hm2⟩
          · refine W.cond_true (congrArg Value.bool hc3) ?_
            refine W.skip ?_
            refine W.block ?_
            obtain ⟨t5, ht5, hm2⟩ := bind_some hm2
            refine W.drawN 5 (fun f => f 6 = (.pointer (some ⟨b1, 0, none⟩)) ∧ f 8 = (.int .i64 t1) ∧ f 9 = (.int .i64 t2) ∧ f 11 = (.int .i64 z4) ∧ f 37 = (.int .i64 t5)) fol (by kernel_rfl) ?_ ?_
            · skip
              refine PL.of (fun _ w8 _ hx => O.move (v := (.int .i64 z4)) rfl rfl rfl (WL.nil ⟨rfl, hx⟩)) ?_
              refine PL.of (fun _ w8 _ hx => O.move (v := (.int .i64 z3)) rfl rfl rfl (WL.nil ⟨rfl, hx⟩)) ?_
              refine PL.of (fun _ w8 _ hx => O.move (v := (.int .i64 z4)) rfl rfl rfl (WL.nil ⟨rfl, hx⟩)) ?_
              refine PL.of (fun _ w8 _ hx => O.rem rfl rfl rfl rfl ht5 (WL.nil ⟨rfl, hx⟩)) ?_
              refine PL.of (fun _ w8 _ hx => O.assign (v := (.int .i64 z4)) rfl rfl rfl (WL.nil ⟨rfl, hx⟩)) ?_
              refine PL.nil ?_
              exact ⟨rfl, rfl, rfl, rfl, rfl⟩
            · skip
              rintro f w ⟨hf6, hf8, hf9, hf11, hf37⟩ hmd hx
              have H := H.ext hx
              obtain ⟨u2, rfl⟩ : ∃ u2, f = (upd (upd (upd (upd (upd u2 6 (.pointer (some ⟨b1, 0, none⟩))) 8 (.int .i64 t1)) 9 (.int .i64 t2)) 11 (.int .i64 z4)) 37 (.int .i64 t5)) := ⟨f, by rw [upd_self hf6, upd_self hf8, upd_self hf9, upd_self hf11, upd_self hf37]⟩
              refine O.assign (v := (.int .i64 t5)) rfl rfl rfl ?_
              refine WL.nil ?_
              obtain rfl := Option.some.inj hm2
              exact ⟨_, rfl, _, _, rfl, rfl, rfl, rfl, rfl, rfl, H⟩
          · refine W.cond_false (congrArg Value.bool hc3) ?_
            refine W.exit ?_
            obtain rfl := Option.some.inj hm2
            refine ⟨_, rfl, ?_⟩
            intro hy
            have hq : z3 = s1 := hy
            subst hq
            refine xT rfl ?_
            exact ⟨rfl, rfl, rfl, rfl, H⟩
      · skip
        rintro f w ⟨hf6, hf8, hf9, hf11, H⟩
        obtain ⟨u3, rfl⟩ : ∃ u3, f = (upd (upd (upd (upd u3 6 (.pointer (some ⟨b1, 0, none⟩))) 8 (.int .i64 t1)) 9 (.int .i64 t2)) 11 (.int .i64 s1)) := ⟨f, by rw [upd_self hf6, upd_self hf8, upd_self hf9, upd_self hf11]⟩
        refine W.seq ?_
        obtain ⟨t6, ht6, hm⟩ := bind_some hm
        obtain ⟨t7, ht7, hm⟩ := bind_some hm
        refine W.drawA (d := 13) 7 [0, 1, 2, 3, 4, 5, 6] (fun b9 w9 => Inv w0 w9 [boxI b1 52 [(.int .i64 0), (.int .i64 0)], boxI b9 52 [(.int .i64 0), (.int .i64 0)]]) (fun f => f 6 = (.pointer (some ⟨b1, 0, none⟩)) ∧ f 44 = (.agg (Flat.cells (GRatio.mk t6 t7)).toArray)) fol (by kernel_rfl) rfl ?_ ?_ ?_
        · skip
          refine PL.of (fun b w8 _ hx => match b, hx with | none, hx => by exact O.move (v := (.int .i64 t1)) rfl rfl rfl (WL.nil ⟨rfl, hx⟩) | some _, ⟨bb, hv, hx, H⟩ => by exact O.move (v := (.int .i64 t1)) rfl rfl rfl (WL.nil ⟨rfl, bb, hv, hx, H⟩)) ?_
          refine PL.of (fun b w8 _ hx => match b, hx with | none, hx => by exact O.move (v := (.int .i64 s1)) rfl rfl rfl (WL.nil ⟨rfl, hx⟩) | some _, ⟨bb, hv, hx, H⟩ => by exact O.move (v := (.int .i64 s1)) rfl rfl rfl (WL.nil ⟨rfl, bb, hv, hx, H⟩)) ?_
          refine PL.of (fun b w8 _ hx => match b, hx with | none, hx => by exact O.quo rfl rfl rfl rfl ht6 (WL.nil ⟨rfl, hx⟩) | some _, ⟨bb, hv, hx, H⟩ => by exact O.quo rfl rfl rfl rfl ht6 (WL.nil ⟨rfl, bb, hv, hx, H⟩)) ?_
          refine PL.of (fun b w8 _ hx => match b, hx with | none, hx => by exact O.move (v := (.int .i64 t2)) rfl rfl rfl (WL.nil ⟨rfl, hx⟩) | some _, ⟨bb, hv, hx, H⟩ => by exact O.move (v := (.int .i64 t2)) rfl rfl rfl (WL.nil ⟨rfl, bb, hv, hx, H⟩)) ?_
          refine PL.of (fun b w8 _ hx => match b, hx with | none, hx => by exact O.move (v := (.int .i64 s1)) rfl rfl rfl (WL.nil ⟨rfl, hx⟩) | some _, ⟨bb, hv, hx, H⟩ => by exact O.move (v := (.int .i64 s1)) rfl rfl rfl (WL.nil ⟨rfl, bb, hv, hx, H⟩)) ?_
          refine PL.of (fun b w8 _ hx => match b, hx with | none, hx => by exact O.quo rfl rfl rfl rfl ht7 (WL.nil ⟨rfl, hx⟩) | some _, ⟨bb, hv, hx, H⟩ => by exact O.quo rfl rfl rfl rfl ht7 (WL.nil ⟨rfl, bb, hv, hx, H⟩)) ?_
          refine PL.of (fun b w8 _ hx => match b, hx with | none, hx => by exact O.build (v := (.agg (Flat.cells (GRatio.mk t6 t7)).toArray)) (fun w => bd52_0_1 _ _ w) rfl rfl rfl (WL.nil ⟨rfl, hx⟩) | some _, ⟨bb, hv, hx, H⟩ => by exact O.build (v := (.agg (Flat.cells (GRatio.mk t6 t7)).toArray)) (fun w => bd52_0_1 _ _ w) rfl rfl rfl (WL.nil ⟨rfl, bb, hv, hx, H⟩)) ?_
          refine PL.nil ?_
          exact ⟨rfl, rfl⟩
        · skip
          rintro f _ w hx
          have H := H.ext hx
          exact O.alloc [(.int .i64 0), (.int .i64 0)] ze52 H rfl rfl rfl (fun b _ H hb => WL.nil ⟨_, rfl, b, rfl, hx.trans (hb.mono hx.size), H⟩)
        · skip
          rintro f w b2 ⟨hf6, hf44⟩ hmd hx H
          obtain ⟨u4, rfl⟩ : ∃ u4, f = (upd (upd u4 6 (.pointer (some ⟨b1, 0, none⟩))) 44 (.agg (Flat.cells (GRatio.mk t6 t7)).toArray)) := ⟨f, by rw [upd_self hf6, upd_self hf44]⟩
          refine O.store 1 0 [(.int .i64 t6), (.int .i64 t7)] [(.int .i64 t6), (.int .i64 t7)] sz52 H rfl rfl rfl rfl rfl rfl ⟨⟨rfl, rfl⟩, rfl⟩ (one_cons rfl (one_cons rfl one_nil)) ?_
          intro w6 H
          refine WL.nil ?_
          refine W.seq ?_
          refine W.seq ?_
          refine W.region ?_
          refine O.fieldAddr fd52_0 rfl rfl rfl ?_
          refine O.load sc3 rfl rfl rfl (H.cell 1 rfl 0 _ rfl) ?_
          obtain ⟨t8, hy3, hm⟩ := bind_some hm
          refine O.call Try.call44 rfl rfl rfl (c_noongunref09_Abs _ hy3) ?_
          rintro _ w7 hb4 rfl
          have H := H.ext hb4
          refine O.gtr rfl rfl rfl rfl ?_
          refine WL.nil ?_
          rcases ite_some hm with ⟨hc4, hm⟩ | ⟨hc4, hm⟩
          · refine W.cond_true (congrArg Value.bool hc4) ?_
            refine W.seq ?_
            refine W.region ?_
            refine O.build (v := (.agg (Flat.cells (GRatio.mk 0 0)).toArray)) (fun w => bd52_  w) rfl rfl rfl ?_
            refine O.store 0 0 [(.int .i64 0), (.int .i64 0)] [(.int .i64 0), (.int .i64 0)] sz52 H rfl rfl rfl rfl rfl rfl ⟨⟨rfl, rfl⟩, rfl⟩ (one_cons rfl (one_cons rfl one_nil)) ?_
            intro w8 H
            refine O.assign (v := (.int .i64 4)) rfl rfl rfl ?_
            refine WL.nil ?_
            refine W.ret ?_
            have hq : ((GRatio.mk 0 0), 4) = (r0, r1) := Option.some.inj (show some ((GRatio.mk 0 0), 4) = some (r0, r1) from hm)
            obtain ⟨he0, hq0⟩ := Prod.mk.inj hq; clear hq; subst he0
            subst hq0
            exact ends2 Try.results53 ⟨_, rfl, run_loadVar_agg ag52 rfl (H.cell 0 rfl)⟩ rfl ⟨_, rfl, H.base, rfl⟩
          · refine W.cond_false (congrArg Value.bool hc4) ?_
            refine W.skip ?_
            refine W.seq ?_
            refine W.region ?_
            refine O.loadA [(.int .i64 t6), (.int .i64 t7)] ag52 rfl rfl rfl rfl (H.cell 1 rfl) ?_
            refine O.store 0 0 [(.int .i64 t6), (.int .i64 t7)] [(.int .i64 t6), (.int .i64 t7)] sz52 H rfl rfl rfl rfl rfl rfl ⟨⟨rfl, rfl⟩, rfl⟩ (one_cons rfl (one_cons rfl one_nil)) ?_
            intro w9 H
            refine O.assign (v := (.int .i64 0)) rfl rfl rfl ?_
            refine WL.nil ?_
            refine W.ret ?_
            have hq : ((GRatio.mk t6 t7), 0) = (r0, r1) := Option.some.inj (show some ((GRatio.mk t6 t7), 0) = some (r0, r1) from hm)
            obtain ⟨he0, hq0⟩ := Prod.mk.inj hq; clear hq; subst he0
            subst hq0
            exact ends2 Try.results53 ⟨_, rfl, run_loadVar_agg ag52 rfl (H.cell 0 rfl)⟩ rfl ⟨_, rfl, H.base, rfl⟩

set_option maxRecDepth 20000 in
theorem c_noongunlaw09_LedgerSums {w0 : World} (va0 : Value) (a0 : (List GEntry)) (ha0 : SliceR w0 va0 a0) (a1 : Int) (a2 : Int) (a3 : Int) {r0 : Bool} (hm : noongunlaw09_LedgerSums a0 a1 a2 a3 = some r0) :
    Calls Try.prog 11 #[va0, (.int .i64 a1), (.int .i64 a2), (.int .i64 a3)] w0 (Ret w0 fun _ v => v = (.bool r0)) := by
  unfold noongunlaw09_LedgerSums at hm
  refine calls_of_W Try.func11 rfl Try.ntmps11 (Nat.le_of_ble_eq_true rfl) ?_
  have H := Inv.start (w := w0)
  refine W.seq ?_
  refine W.region ?_
  refine O.assign (v := (.bool false)) rfl rfl rfl ?_
  refine WL.nil ?_
  refine W.seq ?_
  refine W.seq ?_
  refine W.region ?_
  refine O.move (v := va0) rfl rfl rfl ?_
  obtain ⟨t1, hy1, hm⟩ := bind_some hm
  refine O.call Try.call22 rfl rfl rfl (c_noongunlaw09_small _ _ (H.arg ha0) hy1) ?_
  rintro _ w1 hb1 rfl
  have H := H.ext hb1
  refine O.not rfl rfl rfl ?_
  refine WL.nil ?_
  rcases ite_some hm with ⟨hc1, hm⟩ | ⟨hc1, hm⟩
  · refine W.cond_true (congrArg Value.bool hc1) ?_
    refine W.seq ?_
    refine W.region ?_
    obtain ⟨t2, hy2, hm⟩ := bind_some hm
    refine O.call Try.call13 rfl rfl rfl (c_noongunlaw09_awake  hy2) ?_
    rintro _ w2 hb2 rfl
    have H := H.ext hb2
    refine O.assign (v := (.bool t2)) rfl rfl rfl ?_
    refine WL.nil ?_
    refine W.ret ?_
    have hq : t2 = r0 := Option.some.inj (show some t2 = some r0 from hm)
    subst hq
    exact ends1 Try.results11 rfl ⟨_, rfl, H.base, rfl⟩
  · refine W.cond_false (congrArg Value.bool hc1) ?_
    refine W.skip ?_
    refine W.seq ?_
    refine W.region ?_
    refine O.move (v := va0) rfl rfl rfl ?_
    refine O.move (v := (.int .i64 a1)) rfl rfl rfl ?_
    refine O.move (v := (.int .i64 a2)) rfl rfl rfl ?_
    obtain ⟨⟨t3, t4⟩, hy3, hm⟩ := bind_some hm
    refine O.call Try.call50 rfl rfl rfl (c_ledger_Sum _ _ (H.arg ha0) _ _ hy3) ?_
    rintro _ w3 hb3 rfl
    have H := H.ext hb3
    refine O.move (v := (.tuple #[(.int .i64 t3), (.int .i64 t4)])) rfl rfl rfl ?_
    refine O.extract (v := (.int .i64 t3)) rfl rfl rfl rfl ?_
    refine O.extract (v := (.int .i64 t4)) rfl rfl rfl rfl ?_
    refine O.assign (v := (.int .i64 t3)) rfl rfl rfl ?_
    refine O.assign (v := (.int .i64 t4)) rfl rfl rfl ?_
    refine WL.nil ?_
    refine W.seq ?_
    refine W.region ?_
    refine O.move (v := va0) rfl rfl rfl ?_
    refine O.move (v := (.int .i64 a1)) rfl rfl rfl ?_
    refine O.move (v := (.int .i64 a2)) rfl rfl rfl ?_
    obtain ⟨⟨t5, t6⟩, hy4, hm⟩ := bind_some hm
    refine O.call Try.call51 rfl rfl rfl (c_noongunref09_Sum _ _ (H.arg ha0) _ _ hy4) ?_
    rintro _ w4 hb4 rfl
    have H := H.ext hb4
    refine O.move (v := (.tuple #[(.int .i64 t5), (.int .i64 t6)])) rfl rfl rfl ?_
    refine O.extract (v := (.int .i64 t5)) rfl rfl rfl rfl ?_
    refine O.extract (v := (.int .i64 t6)) rfl rfl rfl rfl ?_
    refine O.assign (v := (.int .i64 t5)) rfl rfl rfl ?_
    refine O.assign (v := (.int .i64 t6)) rfl rfl rfl ?_
    refine WL.nil ?_
    refine W.seq ?_
    refine W.region ?_
    refine O.move (v := va0) rfl rfl rfl ?_
    refine O.move (v := (.int .i64 a1)) rfl rfl rfl ?_
    refine O.move (v := (.int .i64 a2)) rfl rfl rfl ?_
    obtain ⟨⟨t7, t8⟩, hy5, hm⟩ := bind_some hm
    refine O.call Try.call52 rfl rfl rfl (c_ledger_Mean _ _ (H.arg ha0) _ _ hy5) ?_
    rintro _ w5 hb5 rfl
    have H := H.ext hb5
    refine O.move (v := (.tuple #[(.agg (Flat.cells t7).toArray), (.int .i64 t8)])) rfl rfl rfl ?_
    refine O.extract (v := (.agg (Flat.cells t7).toArray)) rfl rfl rfl rfl ?_
    refine O.extract (v := (.int .i64 t8)) rfl rfl rfl rfl ?_
    refine O.alloc [(.int .i64 0), (.int .i64 0)] ze52 H rfl rfl rfl ?_
    intro b1 w6 H hb6
    refine O.store 0 0 [(.int .i64 t7.N), (.int .i64 t7.D)] [(.int .i64 t7.N), (.int .i64 t7.D)] sz52 H rfl rfl rfl rfl rfl rfl ⟨⟨rfl, rfl⟩, rfl⟩ (one_cons rfl (one_cons rfl one_nil)) ?_
    intro w7 H
    refine O.assign (v := (.int .i64 t8)) rfl rfl rfl ?_
    refine WL.nil ?_
    refine W.seq ?_
    refine W.region ?_
    refine O.move (v := va0) rfl rfl rfl ?_
    refine O.move (v := (.int .i64 a1)) rfl rfl rfl ?_
    refine O.move (v := (.int .i64 a2)) rfl rfl rfl ?_
    obtain ⟨⟨t9, t10⟩, hy6, hm⟩ := bind_some hm
    refine O.call Try.call53 rfl rfl rfl (c_noongunref09_Mean _ _ (H.arg ha0) _ _ hy6) ?_
    rintro _ w8 hb7 rfl
    have H := H.ext hb7
    refine O.move (v := (.tuple #[(.agg (Flat.cells t9).toArray), (.int .i64 t10)])) rfl rfl rfl ?_
    refine O.extract (v := (.agg (Flat.cells t9).toArray)) rfl rfl rfl rfl ?_
    refine O.extract (v := (.int .i64 t10)) rfl rfl rfl rfl ?_
    refine O.alloc [(.int .i64 0), (.int .i64 0)] ze52 H rfl rfl rfl ?_
    intro b2 w9 H hb8
    refine O.store 1 0 [(.int .i64 t9.N), (.int .i64 t9.D)] [(.int .i64 t9.N), (.int .i64 t9.D)] sz52 H rfl rfl rfl rfl rfl rfl ⟨⟨rfl, rfl⟩, rfl⟩ (one_cons rfl (one_cons rfl one_nil)) ?_
    intro w10 H
    refine O.assign (v := (.int .i64 t10)) rfl rfl rfl ?_
    refine WL.nil ?_
    refine W.seq ?_
    refine W.seq ?_
    refine W.region ?_
    refine O.move (v := (.int .i64 t3)) rfl rfl rfl ?_
    refine O.move (v := (.int .i64 t5)) rfl rfl rfl ?_
    refine O.neq rfl rfl rfl rfl ?_
    refine O.move (v := (.bool (t3 != t5))) rfl rfl rfl ?_
    refine WL.cut 4 (fun f w => f 0 = va0 ∧ f 1 = (.int .i64 a1) ∧ f 2 = (.int .i64 a2) ∧ f 3 = (.int .i64 a3) ∧ f 9 = (.int .i64 t3) ∧ f 10 = (.int .i64 t4) ∧ f 13 = (.pointer (some ⟨b1, 0, none⟩)) ∧ f 14 = (.int .i64 t8) ∧ f 15 = (.pointer (some ⟨b2, 0, none⟩)) ∧ f 16 = (.int .i64 t10) ∧ f 67 = .bool ((t3 != t5) || (t4 != t6)) ∧ Inv w0 w [boxI b1 52 [(.int .i64 t7.N), (.int .i64 t7.D)], boxI b2 52 [(.int .i64 t9.N), (.int .i64 t9.D)]]) ?_ ?_
    · skip
      rcases bool_ft (t3 != t5) with hc2 | hc2
      · skip
        refine WL.reset (i := 63) (v := .bool false) (congrArg Value.bool hc2) ?_
        refine O.move (v := (.int .i64 t4)) rfl rfl rfl ?_
        refine O.move (v := (.int .i64 t6)) rfl rfl rfl ?_
        refine O.neq rfl rfl rfl rfl ?_
        refine O.pick_false (v := (.bool (t4 != t6))) rfl rfl rfl rfl ?_
        refine WL.nil ?_
        exact ⟨rfl, rfl, rfl, rfl, rfl, rfl, rfl, rfl, rfl, rfl, congrArg Value.bool (or_f hc2), H⟩
      · skip
        refine WL.reset (i := 63) (v := .bool true) (congrArg Value.bool hc2) ?_
        refine O.skip rfl rfl ?_
        refine O.skip rfl rfl ?_
        refine O.skip rfl rfl ?_
        refine O.pick_true (v := (.bool true)) rfl rfl rfl rfl ?_
        refine WL.nil ?_
        exact ⟨rfl, rfl, rfl, rfl, rfl, rfl, rfl, rfl, rfl, rfl, congrArg Value.bool (or_t hc2), H⟩
    · skip
      rintro f w ⟨hf0, hf1, hf2, hf3, hf9, hf10, hf13, hf14, hf15, hf16, hf67, H⟩
      obtain ⟨u1, rfl⟩ : ∃ u1, f = (upd (upd (upd (upd (upd (upd (upd (upd (upd (upd (upd u1 0 va0) 1 (.int .i64 a1)) 2 (.int .i64 a2)) 3 (.int .i64 a3)) 9 (.int .i64 t3)) 10 (.int .i64 t4)) 13 (.pointer (some ⟨b1, 0, none⟩))) 14 (.int .i64 t8)) 15 (.pointer (some ⟨b2, 0, none⟩))) 16 (.int .i64 t10)) 67 (.bool ((t3 != t5) || (t4 != t6)))) := ⟨f, by rw [upd_self hf0, upd_self hf1, upd_self hf2, upd_self hf3, upd_self hf9, upd_self hf10, upd_self hf13, upd_self hf14, upd_self hf15, upd_self hf16, upd_self hf67]⟩
      refine O.move (v := (.bool ((t3 != t5) || (t4 != t6)))) rfl rfl rfl ?_
      refine WL.cut 4 (fun f w => f 0 = va0 ∧ f 1 = (.int .i64 a1) ∧ f 2 = (.int .i64 a2) ∧ f 3 = (.int .i64 a3) ∧ f 9 = (.int .i64 t3) ∧ f 10 = (.int .i64 t4) ∧ f 14 = (.int .i64 t8) ∧ f 16 = (.int .i64 t10) ∧ f 72 = .bool (((t3 != t5) || (t4 != t6)) || (!(t7 == t9))) ∧ Inv w0 w [boxI b1 52 [(.int .i64 t7.N), (.int .i64 t7.D)], boxI b2 52 [(.int .i64 t9.N), (.int .i64 t9.D)]]) ?_ ?_
      · skip
        rcases bool_ft ((t3 != t5) || (t4 != t6)) with hc3 | hc3
        · skip
          refine WL.reset (i := 68) (v := .bool false) (congrArg Value.bool hc3) ?_
          refine O.loadA [(.int .i64 t7.N), (.int .i64 t7.D)] ag52 rfl rfl rfl rfl (H.cell 0 rfl) ?_
          refine O.loadA [(.int .i64 t9.N), (.int .i64 t9.D)] ag52 rfl rfl rfl rfl (H.cell 1 rfl) ?_
          refine O.neqSt t7 t9 eq52 rfl rfl rfl rfl ?_
          refine O.pick_false (v := (.bool (!(t7 == t9)))) rfl rfl rfl rfl ?_
          refine WL.nil ?_
          exact ⟨rfl, rfl, rfl, rfl, rfl, rfl, rfl, rfl, congrArg Value.bool (or_f hc3), H⟩
        · skip
          refine WL.reset (i := 68) (v := .bool true) (congrArg Value.bool hc3) ?_
          refine O.skip rfl rfl ?_
          refine O.skip rfl rfl ?_
          refine O.skip rfl rfl ?_
          refine O.pick_true (v := (.bool true)) rfl rfl rfl rfl ?_
          refine WL.nil ?_
          exact ⟨rfl, rfl, rfl, rfl, rfl, rfl, rfl, rfl, congrArg Value.bool (or_t hc3), H⟩
      · skip
        rintro f w ⟨hf0, hf1, hf2, hf3, hf9, hf10, hf14, hf16, hf72, H⟩
        obtain ⟨u2, rfl⟩ : ∃ u2, f = (upd (upd (upd (upd (upd (upd (upd (upd (upd u2 0 va0) 1 (.int .i64 a1)) 2 (.int .i64 a2)) 3 (.int .i64 a3)) 9 (.int .i64 t3)) 10 (.int .i64 t4)) 14 (.int .i64 t8)) 16 (.int .i64 t10)) 72 (.bool (((t3 != t5) || (t4 != t6)) || (!(t7 == t9))))) := ⟨f, by rw [upd_self hf0, upd_self hf1, upd_self hf2, upd_self hf3, upd_self hf9, upd_self hf10, upd_self hf14, upd_self hf16, upd_self hf72]⟩
        refine O.move (v := (.bool (((t3 != t5) || (t4 != t6)) || (!(t7 == t9))))) rfl rfl rfl ?_
        refine WL.cut 4 (fun f w => f 0 = va0 ∧ f 1 = (.int .i64 a1) ∧ f 2 = (.int .i64 a2) ∧ f 3 = (.int .i64 a3) ∧ f 9 = (.int .i64 t3) ∧ f 10 = (.int .i64 t4) ∧ f 77 = .bool ((((t3 != t5) || (t4 != t6)) || (!(t7 == t9))) || (t8 != t10)) ∧ Inv w0 w [boxI b1 52 [(.int .i64 t7.N), (.int .i64 t7.D)], boxI b2 52 [(.int .i64 t9.N), (.int .i64 t9.D)]]) ?_ ?_
        · skip
          rcases bool_ft (((t3 != t5) || (t4 != t6)) || (!(t7 == t9))) with hc4 | hc4
          · skip
            refine WL.reset (i := 73) (v := .bool false) (congrArg Value.bool hc4) ?_
            refine O.move (v := (.int .i64 t8)) rfl rfl rfl ?_
            refine O.move (v := (.int .i64 t10)) rfl rfl rfl ?_
            refine O.neq rfl rfl rfl rfl ?_
            refine O.pick_false (v := (.bool (t8 != t10))) rfl rfl rfl rfl ?_
            refine WL.nil ?_
            exact ⟨rfl, rfl, rfl, rfl, rfl, rfl, congrArg Value.bool (or_f hc4), H⟩
          · skip
            refine WL.reset (i := 73) (v := .bool true) (congrArg Value.bool hc4) ?_
            refine O.skip rfl rfl ?_
            refine O.skip rfl rfl ?_
            refine O.skip rfl rfl ?_
            refine O.pick_true (v := (.bool true)) rfl rfl rfl rfl ?_
            refine WL.nil ?_
            exact ⟨rfl, rfl, rfl, rfl, rfl, rfl, congrArg Value.bool (or_t hc4), H⟩
        · skip
          rintro f w ⟨hf0, hf1, hf2, hf3, hf9, hf10, hf77, H⟩
          obtain ⟨u3, rfl⟩ : ∃ u3, f = (upd (upd (upd (upd (upd (upd (upd u3 0 va0) 1 (.int .i64 a1)) 2 (.int .i64 a2)) 3 (.int .i64 a3)) 9 (.int .i64 t3)) 10 (.int .i64 t4)) 77 (.bool ((((t3 != t5) || (t4 != t6)) || (!(t7 == t9))) || (t8 != t10)))) := ⟨f, by rw [upd_self hf0, upd_self hf1, upd_self hf2, upd_self hf3, upd_self hf9, upd_self hf10, upd_self hf77]⟩
          refine WL.nil ?_
          rcases ite_some hm with ⟨hc5, hm⟩ | ⟨hc5, hm⟩
          · refine W.cond_true (congrArg Value.bool hc5) ?_
            refine W.seq ?_
            refine W.region ?_
            refine O.assign (v := (.bool false)) rfl rfl rfl ?_
            refine WL.nil ?_
            refine W.ret ?_
            have hq : false = r0 := Option.some.inj (show some false = some r0 from hm)
            subst hq
            exact ends1 Try.results11 rfl ⟨_, rfl, H.base, rfl⟩
          · refine W.cond_false (congrArg Value.bool hc5) ?_
            refine W.skip ?_
            refine W.seq ?_
            refine W.seq ?_
            refine W.region ?_
            refine O.move (v := (.int .i64 t4)) rfl rfl rfl ?_
            refine O.neq rfl rfl rfl rfl ?_
            refine WL.nil ?_
            rcases ite_some hm with ⟨hc6, hm⟩ | ⟨hc6, hm⟩
            · refine W.cond_true (congrArg Value.bool hc6) ?_
              refine W.seq ?_
              refine W.region ?_
              obtain ⟨t11, hy7, hm⟩ := bind_some hm
              refine O.call Try.call13 rfl rfl rfl (c_noongunlaw09_awake  hy7) ?_
              rintro _ w11 hb9 rfl
              have H := H.ext hb9
              refine O.assign (v := (.bool t11)) rfl rfl rfl ?_
              refine WL.nil ?_
              refine W.ret ?_
              have hq : t11 = r0 := Option.some.inj (show some t11 = some r0 from hm)
              subst hq
              exact ends1 Try.results11 rfl ⟨_, rfl, H.base, rfl⟩
            · refine W.cond_false (congrArg Value.bool hc6) ?_
              refine W.skip ?_
              refine W.seq ?_
              refine W.region ?_
              refine O.move (v := va0) rfl rfl rfl ?_
              obtain ⟨⟨t12, t13⟩, hy8, hm⟩ := bind_some hm
              refine O.call Try.call35 rfl rfl rfl (c_ledger_Days _ _ (H.arg ha0) hy8) ?_
              rintro _ w12 hb10 ⟨v1, rfl, ho1⟩
              have H := H.addOwn hb10 ho1
              refine O.move (v := (.tuple #[v1, (.int .i64 t13)])) rfl rfl rfl ?_
              refine O.extract (v := v1) rfl rfl rfl rfl ?_
              refine O.extract (v := (.int .i64 t13)) rfl rfl rfl rfl ?_
              refine O.assign (v := v1) rfl rfl rfl ?_
              refine O.assign (v := (.int .i64 t13)) rfl rfl rfl ?_
              refine WL.nil ?_
              refine W.seq ?_
              refine W.seq ?_
              refine W.region ?_
              refine O.move (v := (.int .i64 t13)) rfl rfl rfl ?_
              refine O.neq rfl rfl rfl rfl ?_
              refine WL.nil ?_
              rcases ite_some hm with ⟨hc7, hm⟩ | ⟨hc7, hm⟩
              · refine W.cond_true (congrArg Value.bool hc7) ?_
                refine W.seq ?_
                refine W.region ?_
                refine O.assign (v := (.bool false)) rfl rfl rfl ?_
                refine WL.nil ?_
                refine W.ret ?_
                have hq : false = r0 := Option.some.inj (show some false = some r0 from hm)
                subst hq
                exact ends1 Try.results11 rfl ⟨_, rfl, H.base, rfl⟩
              · refine W.cond_false (congrArg Value.bool hc7) ?_
                refine W.skip ?_
                refine W.seq ?_
                refine W.region ?_
                refine O.assign (v := (.int .i64 0)) rfl rfl rfl ?_
                refine WL.nil ?_
                refine W.seq ?_
                refine W.seq ?_
                refine W.region ?_
                refine O.move (v := v1) rfl rfl rfl ?_
                refine O.lenS Try.underlying39 (H.own 2 rfl) rfl rfl rfl ?_
                refine O.move (v := (.int .i64 0)) rfl rfl rfl ?_
                refine WL.nil ?_
                obtain ⟨o1, hm1, hm⟩ := bind_some hm
                refine W.via (fun f w => ∃ s1 : Int, o1 = .next s1 ∧ f 0 = va0 ∧ f 1 = (.int .i64 a1) ∧ f 2 = (.int .i64 a2) ∧ f 3 = (.int .i64 a3) ∧ f 9 = (.int .i64 t3) ∧ f 19 = (.int .i64 s1) ∧ Inv w0 w []) ?_ ?_
                · skip
                  refine W.block ?_
                  have H := H.keep [2] [ownI (α := Int) v1 3 t12] rfl (by decide)
                  refine W.rangeL (i := 0) hm1 (fun rem ik1 s f w => ∃ z2 : Int, z2 = s ∧ t12.drop ik1 = rem ∧ f 90 = .int .i64 (ik1 : Int) ∧ f 89 = (.int .i64 ((t12.length : Nat) : Int)) ∧ f 0 = va0 ∧ f 1 = (.int .i64 a1) ∧ f 2 = (.int .i64 a2) ∧ f 3 = (.int .i64 a3) ∧ f 9 = (.int .i64 t3) ∧ f 19 = (.int .i64 z2) ∧ f 88 = v1 ∧ Inv w0 w [ownI (α := Int) v1 3 t12]) ?_ ?_ ?_
                  · skip
                    exact ⟨_, rfl, List.drop_zero, rfl, rfl, rfl, rfl, rfl, rfl, rfl, rfl, rfl, H⟩
                  · skip
                    rintro yk1 xs ik1 _ st f w ⟨z2, rfl, hdropk1, hf90, hf89, hf0, hf1, hf2, hf3, hf9, hf19, hf88, H⟩ hm2
                    have hltk1 := drop_lt hdropk1; have hixk1 := drop_idx hdropk1
                    obtain ⟨u4, rfl⟩ : ∃ u4, f = (upd (upd (upd (upd (upd (upd (upd (upd (upd u4 90 (.int .i64 (ik1 : Int))) 89 (.int .i64 ((t12.length : Nat) : Int))) 0 va0) 1 (.int .i64 a1)) 2 (.int .i64 a2)) 3 (.int .i64 a3)) 9 (.int .i64 t3)) 19 (.int .i64 z2)) 88 v1) := ⟨f, by rw [upd_self hf90, upd_self hf89, upd_self hf0, upd_self hf1, upd_self hf2, upd_self hf3, upd_self hf9, upd_self hf19, upd_self hf88]⟩
                    have hinck1 := addI_lt hltk1 (H.own 0 rfl).len_le
                    refine W.seq ?_
                    refine W.region ?_
                    refine O.lss rfl rfl rfl rfl ?_
                    refine WL.nil ?_
                    refine W.seq ?_
                    refine W.cond_true (congrArg Value.bool (decide_eq_true hltk1)) ?_
                    refine W.skip ?_
                    refine W.seq ?_
                    obtain ⟨o2, hm3, hm2⟩ := bind_some hm2
                    refine W.via (fun f w => ∃ s2 : Int, o2 = .next s2 ∧ f 0 = va0 ∧ f 1 = (.int .i64 a1) ∧ f 2 = (.int .i64 a2) ∧ f 3 = (.int .i64 a3) ∧ f 9 = (.int .i64 t3) ∧ f 19 = (.int .i64 s2) ∧ f 88 = v1 ∧ f 89 = (.int .i64 ((t12.length : Nat) : Int)) ∧ f 90 = (.int .i64 (ik1 : Int)) ∧ Inv w0 w [ownI (α := Int) v1 3 t12]) ?_ ?_
                    · skip
                      refine W.block ?_
                      refine W.seq ?_
                      refine W.region ?_
                      refine O.indexAddr Try.underlying39 sz3 (H.own 0 rfl) hixk1 rfl rfl rfl rfl ?_
                      intro p1 hp1
                      refine O.load sc3 rfl rfl rfl (hp1.flat 0 _ rfl) ?_
                      refine O.assign (v := (.int .i64 yk1)) rfl rfl rfl ?_
                      refine WL.nil ?_
                      refine W.seq ?_
                      refine W.region ?_
                      refine O.move (v := va0) rfl rfl rfl ?_
                      refine O.move (v := (.int .i64 yk1)) rfl rfl rfl ?_
                      obtain ⟨⟨t14, t15⟩, hy9, hm3⟩ := bind_some hm3
                      refine O.call Try.call18 rfl rfl rfl (c_ledger_Off _ _ (H.arg ha0) _ hy9) ?_
                      rintro _ w13 hb11 rfl
                      have hp1 := hp1.mono hb11
                      have H := H.ext hb11
                      refine O.move (v := (.tuple #[(.int .i64 t14), (.int .i64 t15)])) rfl rfl rfl ?_
                      refine O.extract (v := (.int .i64 t14)) rfl rfl rfl rfl ?_
                      refine O.extract (v := (.int .i64 t15)) rfl rfl rfl rfl ?_
                      refine O.assign (v := (.int .i64 t14)) rfl rfl rfl ?_
                      refine O.assign (v := (.int .i64 t15)) rfl rfl rfl ?_
                      refine WL.nil ?_
                      refine W.seq ?_
                      refine W.seq ?_
                      refine W.region ?_
                      refine O.move (v := (.int .i64 t15)) rfl rfl rfl ?_
                      refine O.neq rfl rfl rfl rfl ?_
                      refine WL.nil ?_
                      rcases ite_some hm3 with ⟨hc8, hm3⟩ | ⟨hc8, hm3⟩
                      · refine W.cond_true (congrArg Value.bool hc8) ?_
                        refine W.seq ?_
                        refine W.region ?_
                        refine O.assign (v := (.bool false)) rfl rfl rfl ?_
                        refine WL.nil ?_
                        refine W.ret ?_
                        obtain rfl := Option.some.inj hm3
                        obtain rfl := Option.some.inj hm2
                        refine ⟨_, rfl, ?_⟩
                        rintro rfl
                        have hq : false = r0 := Option.some.inj (show some false = some r0 from hm)
                        subst hq
                        exact ends1 Try.results11 rfl ⟨_, rfl, H.base, rfl⟩
                      · refine W.cond_false (congrArg Value.bool hc8) ?_
                        refine W.skip ?_
                        refine W.seq ?_
                        refine W.region ?_
                        refine O.move (v := (.int .i64 yk1)) rfl rfl rfl ?_
                        refine O.move (v := (.int .i64 a1)) rfl rfl rfl ?_
                        refine O.geq rfl rfl rfl rfl ?_
                        refine O.move (v := (.bool (decide (a1 ≤ yk1)))) rfl rfl rfl ?_
                        refine WL.cut 4 (fun f w => f 0 = va0 ∧ f 1 = (.int .i64 a1) ∧ f 2 = (.int .i64 a2) ∧ f 3 = (.int .i64 a3) ∧ f 9 = (.int .i64 t3) ∧ f 19 = (.int .i64 z2) ∧ f 22 = (.int .i64 t14) ∧ f 88 = v1 ∧ f 89 = (.int .i64 ((t12.length : Nat) : Int)) ∧ f 90 = (.int .i64 (ik1 : Int)) ∧ f 109 = .bool ((decide (a1 ≤ yk1)) && (decide (yk1 ≤ a2))) ∧ Inv w0 w [ownI (α := Int) v1 3 t12]) ?_ ?_
                        · skip
                          rcases bool_ft (decide (a1 ≤ yk1)) with hc9 | hc9
                          · skip
                            refine WL.reset (i := 105) (v := .bool false) (congrArg Value.bool hc9) ?_
                            refine O.skip rfl rfl ?_
                            refine O.skip rfl rfl ?_
                            refine O.skip rfl rfl ?_
                            refine O.pick_false (v := (.bool false)) rfl rfl rfl rfl ?_
                            refine WL.nil ?_
                            exact ⟨rfl, rfl, rfl, rfl, rfl, rfl, rfl, rfl, rfl, rfl, congrArg Value.bool (and_f hc9), H⟩
                          · skip
                            refine WL.reset (i := 105) (v := .bool true) (congrArg Value.bool hc9) ?_
                            refine O.move (v := (.int .i64 yk1)) rfl rfl rfl ?_
                            refine O.move (v := (.int .i64 a2)) rfl rfl rfl ?_
                            refine O.leq rfl rfl rfl rfl ?_
                            refine O.pick_true (v := (.bool (decide (yk1 ≤ a2)))) rfl rfl rfl rfl ?_
                            refine WL.nil ?_
                            exact ⟨rfl, rfl, rfl, rfl, rfl, rfl, rfl, rfl, rfl, rfl, congrArg Value.bool (and_t hc9), H⟩
                        · skip
                          rintro f w ⟨hf0, hf1, hf2, hf3, hf9, hf19, hf22, hf88, hf89, hf90, hf109, H⟩
                          obtain ⟨u5, rfl⟩ : ∃ u5, f = (upd (upd (upd (upd (upd (upd (upd (upd (upd (upd (upd u5 0 va0) 1 (.int .i64 a1)) 2 (.int .i64 a2)) 3 (.int .i64 a3)) 9 (.int .i64 t3)) 19 (.int .i64 z2)) 22 (.int .i64 t14)) 88 v1) 89 (.int .i64 ((t12.length : Nat) : Int))) 90 (.int .i64 (ik1 : Int))) 109 (.bool ((decide (a1 ≤ yk1)) && (decide (yk1 ≤ a2))))) := ⟨f, by rw [upd_self hf0, upd_self hf1, upd_self hf2, upd_self hf3, upd_self hf9, upd_self hf19, upd_self hf22, upd_self hf88, upd_self hf89, upd_self hf90, upd_self hf109]⟩
                          refine WL.nil ?_
                          obtain ⟨s3, hm4, hm3⟩ := bind_some hm3
                          refine W.via (fun f w => f 0 = va0 ∧ f 1 = (.int .i64 a1) ∧ f 2 = (.int .i64 a2) ∧ f 3 = (.int .i64 a3) ∧ f 9 = (.int .i64 t3) ∧ f 19 = (.int .i64 s3) ∧ f 88 = v1 ∧ f 89 = (.int .i64 ((t12.length : Nat) : Int)) ∧ f 90 = (.int .i64 (ik1 : Int)) ∧ Inv w0 w [ownI (α := Int) v1 3 t12]) ?_ ?_
                          · skip
                            rcases ite_some hm4 with ⟨hc10, hm4⟩ | ⟨hc10, hm4⟩
                            · refine W.cond_true (congrArg Value.bool hc10) ?_
                              refine W.region ?_
                              refine O.move (v := (.int .i64 z2)) rfl rfl rfl ?_
                              refine O.move (v := (.int .i64 t14)) rfl rfl rfl ?_
                              obtain ⟨t16, ht16, hm4⟩ := bind_some hm4
                              refine O.add rfl rfl rfl rfl ht16 ?_
                              refine O.assign (v := (.int .i64 t16)) rfl rfl rfl ?_
                              refine WL.nil ?_
                              have hq : t16 = s3 := Option.some.inj (show some t16 = some s3 from hm4)
                              subst hq
                              exact ⟨rfl, rfl, rfl, rfl, rfl, rfl, rfl, rfl, rfl, H⟩
                            · refine W.cond_false (congrArg Value.bool hc10) ?_
                              refine W.skip ?_
                              have hq : z2 = s3 := Option.some.inj (show some z2 = some s3 from hm4)
                              subst hq
                              exact ⟨rfl, rfl, rfl, rfl, rfl, rfl, rfl, rfl, rfl, H⟩
                          · skip
                            rintro f w ⟨hf0, hf1, hf2, hf3, hf9, hf19, hf88, hf89, hf90, H⟩
                            obtain ⟨u6, rfl⟩ : ∃ u6, f = (upd (upd (upd (upd (upd (upd (upd (upd (upd u6 0 va0) 1 (.int .i64 a1)) 2 (.int .i64 a2)) 3 (.int .i64 a3)) 9 (.int .i64 t3)) 19 (.int .i64 s3)) 88 v1) 89 (.int .i64 ((t12.length : Nat) : Int))) 90 (.int .i64 (ik1 : Int))) := ⟨f, by rw [upd_self hf0, upd_self hf1, upd_self hf2, upd_self hf3, upd_self hf9, upd_self hf19, upd_self hf88, upd_self hf89, upd_self hf90]⟩
                            obtain rfl := Option.some.inj hm3
                            exact ⟨_, rfl, rfl, rfl, rfl, rfl, rfl, rfl, rfl, rfl, rfl, H⟩
                    · skip
                      rintro f w ⟨s2, rfl, hf0, hf1, hf2, hf3, hf9, hf19, hf88, hf89, hf90, H⟩
                      obtain ⟨u7, rfl⟩ : ∃ u7, f = (upd (upd (upd (upd (upd (upd (upd (upd (upd u7 0 va0) 1 (.int .i64 a1)) 2 (.int .i64 a2)) 3 (.int .i64 a3)) 9 (.int .i64 t3)) 19 (.int .i64 s2)) 88 v1) 89 (.int .i64 ((t12.length : Nat) : Int))) 90 (.int .i64 (ik1 : Int))) := ⟨f, by rw [upd_self hf0, upd_self hf1, upd_self hf2, upd_self hf3, upd_self hf9, upd_self hf19, upd_self hf88, upd_self hf89, upd_self hf90]⟩
                      refine W.region ?_
                      refine O.add rfl rfl rfl rfl hinck1 ?_
                      refine O.move (v := .int .i64 ((ik1 : Int) + 1)) rfl rfl rfl ?_
                      refine WL.nil ?_
                      obtain rfl := Option.some.inj hm2
                      exact ⟨_, rfl, _, rfl, drop_next hdropk1, rfl, rfl, rfl, rfl, rfl, rfl, rfl, rfl, rfl, H⟩
                  · skip
                    rintro ik1 _ f w ⟨z2, rfl, hdropk1, hf90, hf89, hf0, hf1, hf2, hf3, hf9, hf19, hf88, H⟩ hfin
                    have hltk1 := drop_end hdropk1
                    obtain ⟨u8, rfl⟩ : ∃ u8, f = (upd (upd (upd (upd (upd (upd (upd (upd (upd u8 90 (.int .i64 (ik1 : Int))) 89 (.int .i64 ((t12.length : Nat) : Int))) 0 va0) 1 (.int .i64 a1)) 2 (.int .i64 a2)) 3 (.int .i64 a3)) 9 (.int .i64 t3)) 19 (.int .i64 z2)) 88 v1) := ⟨f, by rw [upd_self hf90, upd_self hf89, upd_self hf0, upd_self hf1, upd_self hf2, upd_self hf3, upd_self hf9, upd_self hf19, upd_self hf88]⟩
                    refine W.seq ?_
                    refine W.region ?_
                    refine O.lss rfl rfl rfl rfl ?_
                    refine WL.nil ?_
                    refine W.seq ?_
                    refine W.cond_false (congrArg Value.bool (decide_eq_false hltk1)) ?_
                    refine W.exit ?_
                    obtain rfl : Ctl.next z2 = o1 := hfin
                    have H := H.keep [] [] rfl (by decide)
                    refine xT rfl ?_
                    exact ⟨_, rfl, rfl, rfl, rfl, rfl, rfl, rfl, H⟩
                · skip
                  rintro f w ⟨s1, rfl, hf0, hf1, hf2, hf3, hf9, hf19, H⟩
                  obtain ⟨u9, rfl⟩ : ∃ u9, f = (upd (upd (upd (upd (upd (upd u9 0 va0) 1 (.int .i64 a1)) 2 (.int .i64 a2)) 3 (.int .i64 a3)) 9 (.int .i64 t3)) 19 (.int .i64 s1)) := ⟨f, by rw [upd_self hf0, upd_self hf1, upd_self hf2, upd_self hf3, upd_self hf9, upd_self hf19]⟩
                  refine W.seq ?_
                  refine W.seq ?_
                  refine W.region ?_
                  refine O.move (v := (.int .i64 s1)) rfl rfl rfl ?_
                  refine O.move (v := (.int .i64 t3)) rfl rfl rfl ?_
                  refine O.neq rfl rfl rfl rfl ?_
                  refine O.move (v := (.bool (s1 != t3))) rfl rfl rfl ?_
                  refine WL.cut 4 (fun f w => f 0 = va0 ∧ f 1 = (.int .i64 a1) ∧ f 2 = (.int .i64 a2) ∧ f 3 = (.int .i64 a3) ∧ f 9 = (.int .i64 t3) ∧ f 19 = (.int .i64 s1) ∧ f 121 = .bool ((s1 != t3) || (decide (a3 ≤ a2))) ∧ Inv w0 w []) ?_ ?_
                  · skip
                    rcases bool_ft (s1 != t3) with hc11 | hc11
                    · skip
                      refine WL.reset (i := 117) (v := .bool false) (congrArg Value.bool hc11) ?_
                      refine O.move (v := (.int .i64 a2)) rfl rfl rfl ?_
                      refine O.move (v := (.int .i64 a3)) rfl rfl rfl ?_
                      refine O.geq rfl rfl rfl rfl ?_
                      refine O.pick_false (v := (.bool (decide (a3 ≤ a2)))) rfl rfl rfl rfl ?_
                      refine WL.nil ?_
                      exact ⟨rfl, rfl, rfl, rfl, rfl, rfl, congrArg Value.bool (or_f hc11), H⟩
                    · skip
                      refine WL.reset (i := 117) (v := .bool true) (congrArg Value.bool hc11) ?_
                      refine O.skip rfl rfl ?_
                      refine O.skip rfl rfl ?_
                      refine O.skip rfl rfl ?_
                      refine O.pick_true (v := (.bool true)) rfl rfl rfl rfl ?_
                      refine WL.nil ?_
                      exact ⟨rfl, rfl, rfl, rfl, rfl, rfl, congrArg Value.bool (or_t hc11), H⟩
                  · skip
                    rintro f w ⟨hf0, hf1, hf2, hf3, hf9, hf19, hf121, H⟩
                    obtain ⟨u10, rfl⟩ : ∃ u10, f = (upd (upd (upd (upd (upd (upd (upd u10 0 va0) 1 (.int .i64 a1)) 2 (.int .i64 a2)) 3 (.int .i64 a3)) 9 (.int .i64 t3)) 19 (.int .i64 s1)) 121 (.bool ((s1 != t3) || (decide (a3 ≤ a2))))) := ⟨f, by rw [upd_self hf0, upd_self hf1, upd_self hf2, upd_self hf3, upd_self hf9, upd_self hf19, upd_self hf121]⟩
                    refine O.move (v := (.bool ((s1 != t3) || (decide (a3 ≤ a2))))) rfl rfl rfl ?_
                    refine WL.cut 3 (fun f w => f 0 = va0 ∧ f 1 = (.int .i64 a1) ∧ f 2 = (.int .i64 a2) ∧ f 3 = (.int .i64 a3) ∧ f 9 = (.int .i64 t3) ∧ f 19 = (.int .i64 s1) ∧ f 125 = .bool (((s1 != t3) || (decide (a3 ≤ a2))) || (decide (182985 < a3))) ∧ Inv w0 w []) ?_ ?_
                    · skip
                      rcases bool_ft ((s1 != t3) || (decide (a3 ≤ a2))) with hc12 | hc12
                      · skip
                        refine WL.reset (i := 122) (v := .bool false) (congrArg Value.bool hc12) ?_
                        refine O.move (v := (.int .i64 a3)) rfl rfl rfl ?_
                        refine O.gtr rfl rfl rfl rfl ?_
                        refine O.pick_false (v := (.bool (decide (182985 < a3)))) rfl rfl rfl rfl ?_
                        refine WL.nil ?_
                        exact ⟨rfl, rfl, rfl, rfl, rfl, rfl, congrArg Value.bool (or_f hc12), H⟩
                      · skip
                        refine WL.reset (i := 122) (v := .bool true) (congrArg Value.bool hc12) ?_
                        refine O.skip rfl rfl ?_
                        refine O.skip rfl rfl ?_
                        refine O.pick_true (v := (.bool true)) rfl rfl rfl rfl ?_
                        refine WL.nil ?_
                        exact ⟨rfl, rfl, rfl, rfl, rfl, rfl, congrArg Value.bool (or_t hc12), H⟩
                    · skip
                      rintro f w ⟨hf0, hf1, hf2, hf3, hf9, hf19, hf125, H⟩
                      obtain ⟨u11, rfl⟩ : ∃ u11, f = (upd (upd (upd (upd (upd (upd (upd u11 0 va0) 1 (.int .i64 a1)) 2 (.int .i64 a2)) 3 (.int .i64 a3)) 9 (.int .i64 t3)) 19 (.int .i64 s1)) 125 (.bool (((s1 != t3) || (decide (a3 ≤ a2))) || (decide (182985 < a3))))) := ⟨f, by rw [upd_self hf0, upd_self hf1, upd_self hf2, upd_self hf3, upd_self hf9, upd_self hf19, upd_self hf125]⟩
                      refine WL.nil ?_
                      rcases ite_some hm with ⟨hc13, hm⟩ | ⟨hc13, hm⟩
                      · refine W.cond_true (congrArg Value.bool hc13) ?_
                        refine W.seq ?_
                        refine W.region ?_
                        refine O.move (v := (.int .i64 s1)) rfl rfl rfl ?_
                        refine O.move (v := (.int .i64 t3)) rfl rfl rfl ?_
                        refine O.eql rfl rfl rfl rfl ?_
                        refine O.move (v := (.bool (s1 == t3))) rfl rfl rfl ?_
                        obtain ⟨b3, hm5, hm⟩ := bind_some hm
                        refine WL.cut 2 (fun f w => f 131 = .bool b3 ∧ Inv w0 w []) ?_ ?_
                        · skip
                          rcases ite_some hm5 with ⟨hc14, hm5⟩ | ⟨hc14, hm5⟩
                          · skip
                            refine WL.reset (i := 129) (v := .bool true) (congrArg Value.bool hc14) ?_
                            obtain ⟨t17, hy10, hm5⟩ := bind_some hm5
                            refine O.call Try.call13 rfl rfl rfl (c_noongunlaw09_awake  hy10) ?_
                            rintro _ w14 hb12 rfl
                            have H := H.ext hb12
                            refine O.pick_true (v := (.bool t17)) rfl rfl rfl rfl ?_
                            refine WL.nil ?_
                            have hq : t17 = b3 := Option.some.inj (show some t17 = some b3 from hm5)
                            subst hq
                            exact ⟨rfl, H⟩
                          · skip
                            refine WL.reset (i := 129) (v := .bool false) (congrArg Value.bool hc14) ?_
                            refine O.skip rfl rfl ?_
                            refine O.pick_false (v := (.bool false)) rfl rfl rfl rfl ?_
                            refine WL.nil ?_
                            have hq : false = b3 := Option.some.inj (show some false = some b3 from hm5)
                            subst hq
                            exact ⟨rfl, H⟩
                        · skip
                          rintro f w ⟨hf131, H⟩
                          obtain ⟨u12, rfl⟩ : ∃ u12, f = (upd u12 131 (.bool b3)) := ⟨f, by rw [upd_self hf131]⟩
                          refine O.assign (v := (.bool b3)) rfl rfl rfl ?_
                          refine WL.nil ?_
                          refine W.ret ?_
                          have hq : b3 = r0 := Option.some.inj (show some b3 = some r0 from hm)
                          subst hq
                          exact ends1 Try.results11 rfl ⟨_, rfl, H.base, rfl⟩
                      · refine W.cond_false (congrArg Value.bool hc13) ?_
                        refine W.skip ?_
                        refine W.seq ?_
                        refine W.region ?_
                        refine O.move (v := va0) rfl rfl rfl ?_
                        refine O.move (v := (.int .i64 a2)) rfl rfl rfl ?_
                        obtain ⟨t18, ht18, hm⟩ := bind_some hm
                        refine O.add rfl rfl rfl rfl ht18 ?_
                        refine O.move (v := (.int .i64 a3)) rfl rfl rfl ?_
                        obtain ⟨⟨t19, t20⟩, hy11, hm⟩ := bind_some hm
                        refine O.call Try.call50 rfl rfl rfl (c_ledger_Sum _ _ (H.arg ha0) _ _ hy11) ?_
                        rintro _ w15 hb13 rfl
                        have H := H.ext hb13
                        refine O.move (v := (.tuple #[(.int .i64 t19), (.int .i64 t20)])) rfl rfl rfl ?_
                        refine O.extract (v := (.int .i64 t19)) rfl rfl rfl rfl ?_
                        refine O.extract (v := (.int .i64 t20)) rfl rfl rfl rfl ?_
                        refine O.assign (v := (.int .i64 t19)) rfl rfl rfl ?_
                        refine O.assign (v := (.int .i64 t20)) rfl rfl rfl ?_
                        refine WL.nil ?_
                        refine W.seq ?_
                        refine W.region ?_
                        refine O.move (v := va0) rfl rfl rfl ?_
                        refine O.move (v := (.int .i64 a1)) rfl rfl rfl ?_
                        refine O.move (v := (.int .i64 a3)) rfl rfl rfl ?_
                        obtain ⟨⟨t21, t22⟩, hy12, hm⟩ := bind_some hm
                        refine O.call Try.call50 rfl rfl rfl (c_ledger_Sum _ _ (H.arg ha0) _ _ hy12) ?_
                        rintro _ w16 hb14 rfl
                        have H := H.ext hb14
                        refine O.move (v := (.tuple #[(.int .i64 t21), (.int .i64 t22)])) rfl rfl rfl ?_
                        refine O.extract (v := (.int .i64 t21)) rfl rfl rfl rfl ?_
                        refine O.extract (v := (.int .i64 t22)) rfl rfl rfl rfl ?_
                        refine O.assign (v := (.int .i64 t21)) rfl rfl rfl ?_
                        refine O.assign (v := (.int .i64 t22)) rfl rfl rfl ?_
                        refine WL.nil ?_
                        refine W.seq ?_
                        refine W.region ?_
                        refine O.move (v := (.int .i64 t20)) rfl rfl rfl ?_
                        refine O.eql rfl rfl rfl rfl ?_
                        refine O.move (v := (.bool (t20 == 0))) rfl rfl rfl ?_
                        refine WL.cut 3 (fun f w => f 9 = (.int .i64 t3) ∧ f 24 = (.int .i64 t19) ∧ f 26 = (.int .i64 t21) ∧ f 152 = .bool ((t20 == 0) && (t22 == 0)) ∧ Inv w0 w []) ?_ ?_
                        · skip
                          rcases bool_ft (t20 == 0) with hc15 | hc15
                          · skip
                            refine WL.reset (i := 149) (v := .bool false) (congrArg Value.bool hc15) ?_
                            refine O.skip rfl rfl ?_
                            refine O.skip rfl rfl ?_
                            refine O.pick_false (v := (.bool false)) rfl rfl rfl rfl ?_
                            refine WL.nil ?_
                            exact ⟨rfl, rfl, rfl, congrArg Value.bool (and_f hc15), H⟩
                          · skip
                            refine WL.reset (i := 149) (v := .bool true) (congrArg Value.bool hc15) ?_
                            refine O.move (v := (.int .i64 t22)) rfl rfl rfl ?_
                            refine O.eql rfl rfl rfl rfl ?_
                            refine O.pick_true (v := (.bool (t22 == 0))) rfl rfl rfl rfl ?_
                            refine WL.nil ?_
                            exact ⟨rfl, rfl, rfl, congrArg Value.bool (and_t hc15), H⟩
                        · skip
                          rintro f w ⟨hf9, hf24, hf26, hf152, H⟩
                          obtain ⟨u13, rfl⟩ : ∃ u13, f = (upd (upd (upd (upd u13 9 (.int .i64 t3)) 24 (.int .i64 t19)) 26 (.int .i64 t21)) 152 (.bool ((t20 == 0) && (t22 == 0)))) := ⟨f, by rw [upd_self hf9, upd_self hf24, upd_self hf26, upd_self hf152]⟩
                          refine O.move (v := (.bool ((t20 == 0) && (t22 == 0)))) rfl rfl rfl ?_
                          obtain ⟨b4, hm6, hm⟩ := bind_some hm
                          refine WL.cut 6 (fun f w => f 159 = .bool b4 ∧ Inv w0 w []) ?_ ?_
                          · skip
                            rcases ite_some hm6 with ⟨hc16, hm6⟩ | ⟨hc16, hm6⟩
                            · skip
                              refine WL.reset (i := 153) (v := .bool true) (congrArg Value.bool hc16) ?_
                              refine O.move (v := (.int .i64 t3)) rfl rfl rfl ?_
                              refine O.move (v := (.int .i64 t19)) rfl rfl rfl ?_
                              obtain ⟨t23, ht23, hm6⟩ := bind_some hm6
                              refine O.add rfl rfl rfl rfl ht23 ?_
                              refine O.move (v := (.int .i64 t21)) rfl rfl rfl ?_
                              refine O.eql rfl rfl rfl rfl ?_
                              refine O.pick_true (v := (.bool (t23 == t21))) rfl rfl rfl rfl ?_
                              refine WL.nil ?_
                              have hq : (t23 == t21) = b4 := Option.some.inj (show some (t23 == t21) = some b4 from hm6)
                              subst hq
                              exact ⟨rfl, H⟩
                            · skip
                              refine WL.reset (i := 153) (v := .bool false) (congrArg Value.bool hc16) ?_
                              refine O.skip rfl rfl ?_
                              refine O.skip rfl rfl ?_
                              refine O.skip rfl rfl ?_
                              refine O.skip rfl rfl ?_
                              refine O.skip rfl rfl ?_
                              refine O.pick_false (v := (.bool false)) rfl rfl rfl rfl ?_
                              refine WL.nil ?_
                              have hq : false = b4 := Option.some.inj (show some false = some b4 from hm6)
                              subst hq
                              exact ⟨rfl, H⟩
                          · skip
                            rintro f w ⟨hf159, H⟩
                            obtain ⟨u14, rfl⟩ : ∃ u14, f = (upd u14 159 (.bool b4)) := ⟨f, by rw [upd_self hf159]⟩
                            refine O.move (v := (.bool b4)) rfl rfl rfl ?_
                            obtain ⟨b5, hm7, hm⟩ := bind_some hm
                            refine WL.cut 2 (fun f w => f 162 = .bool b5 ∧ Inv w0 w []) ?_ ?_
                            · skip
                              rcases ite_some hm7 with ⟨hc17, hm7⟩ | ⟨hc17, hm7⟩
                              · skip
                                refine WL.reset (i := 160) (v := .bool true) (congrArg Value.bool hc17) ?_
                                obtain ⟨t24, hy13, hm7⟩ := bind_some hm7
                                refine O.call Try.call13 rfl rfl rfl (c_noongunlaw09_awake  hy13) ?_
                                rintro _ w17 hb15 rfl
                                have H := H.ext hb15
                                refine O.pick_true (v := (.bool t24)) rfl rfl rfl rfl ?_
                                refine WL.nil ?_
                                have hq : t24 = b5 := Option.some.inj (show some t24 = some b5 from hm7)
                                subst hq
                                exact ⟨rfl, H⟩
                              · skip
                                refine WL.reset (i := 160) (v := .bool false) (congrArg Value.bool hc17) ?_
                                refine O.skip rfl rfl ?_
                                refine O.pick_false (v := (.bool false)) rfl rfl rfl rfl ?_
                                refine WL.nil ?_
                                have hq : false = b5 := Option.some.inj (show some false = some b5 from hm7)
                                subst hq
                                exact ⟨rfl, H⟩
                            · skip
                              rintro f w ⟨hf162, H⟩
                              obtain ⟨u15, rfl⟩ : ∃ u15, f = (upd u15 162 (.bool b5)) := ⟨f, by rw [upd_self hf162]⟩
                              refine O.assign (v := (.bool b5)) rfl rfl rfl ?_
                              refine WL.nil ?_
                              refine W.ret ?_
                              have hq : b5 = r0 := Option.some.inj (show some b5 = some r0 from hm)
                              subst hq
                              exact ends1 Try.results11 rfl ⟨_, rfl, H.base, rfl⟩

end Go.Proofs
