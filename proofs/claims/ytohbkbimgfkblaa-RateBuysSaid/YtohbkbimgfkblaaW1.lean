/-
  The walks: each function does what its model says, where the model has a value. No other condition.
-/
import Derived.Test.YtohbkbimgfkblaaW0
namespace Go.Proofs
open Go.Fw Go.RowKit
set_option maxRecDepth 20000 in
theorem c_noongunlaw06_RateBuys {w0 : World} (va0 : Value) (a0 : (List GTrial)) (ha0 : SliceR w0 va0 a0) (va1 : Value) (a1 : (List Int)) (ha1 : SliceR w0 va1 a1) (a2 : Int) (va3 : Value) (a3 : (List Int)) (ha3 : SliceR w0 va3 a3) {r0 : Bool} (hm : noongunlaw06_RateBuys a0 a1 a2 a3 = some r0) :
    Calls Try.prog 11 #[va0, va1, (.int .i64 a2), va3] w0 (Ret w0 fun _ v => v = (.bool r0)) := by
  unfold noongunlaw06_RateBuys at hm
  refine calls_of_W Try.func11 rfl Try.ntmps11 (Nat.le_of_ble_eq_true rfl) ?_
  have H := Inv.start (w := w0)
  refine W.seq ?_
  refine W.region ?_
  refine O.assign (v := (.bool false)) rfl rfl rfl ?_
  refine WL.nil ?_
  refine W.seq ?_
  refine W.seq ?_
  refine W.region ?_
  refine O.move (v := va0) rfl rfl rfl ?_
  refine O.lenS Try.underlying62 (H.arg ha0) rfl rfl rfl ?_
  refine O.gtr rfl rfl rfl rfl ?_
  refine O.move (v := (.bool (decide (10 < ((a0.length : Nat) : Int))))) rfl rfl rfl ?_
  refine WL.cut 4 (fun f w => f 0 = va0 ∧ f 1 = va1 ∧ f 2 = (.int .i64 a2) ∧ f 3 = va3 ∧ f 27 = .bool ((decide (10 < ((a0.length : Nat) : Int))) && (decide (((a0.length : Nat) : Int) ≤ 16))) ∧ Inv w0 w []) ?_ ?_
  · skip
    rcases bool_ft (decide (10 < ((a0.length : Nat) : Int))) with hc1 | hc1
    · skip
      refine WL.reset (i := 23) (v := .bool false) (congrArg Value.bool hc1) ?_
      refine O.skip rfl rfl ?_
      refine O.skip rfl rfl ?_
      refine O.skip rfl rfl ?_
      refine O.pick_false (v := (.bool false)) rfl rfl rfl rfl ?_
      refine WL.nil ?_
      exact ⟨rfl, rfl, rfl, rfl, congrArg Value.bool (and_f hc1), H⟩
    · skip
      refine WL.reset (i := 23) (v := .bool true) (congrArg Value.bool hc1) ?_
      refine O.move (v := va0) rfl rfl rfl ?_
      refine O.lenS Try.underlying62 (H.arg ha0) rfl rfl rfl ?_
      refine O.leq rfl rfl rfl rfl ?_
      refine O.pick_true (v := (.bool (decide (((a0.length : Nat) : Int) ≤ 16)))) rfl rfl rfl rfl ?_
      refine WL.nil ?_
      exact ⟨rfl, rfl, rfl, rfl, congrArg Value.bool (and_t hc1), H⟩
  · skip
    rintro f w ⟨hf0, hf1, hf2, hf3, hf27, H⟩
    obtain ⟨u1, rfl⟩ : ∃ u1, f = (upd (upd (upd (upd (upd u1 0 va0) 1 va1) 2 (.int .i64 a2)) 3 va3) 27 (.bool ((decide (10 < ((a0.length : Nat) : Int))) && (decide (((a0.length : Nat) : Int) ≤ 16))))) := ⟨f, by rw [upd_self hf0, upd_self hf1, upd_self hf2, upd_self hf3, upd_self hf27]⟩
    refine O.move (v := (.bool ((decide (10 < ((a0.length : Nat) : Int))) && (decide (((a0.length : Nat) : Int) ≤ 16))))) rfl rfl rfl ?_
    refine WL.cut 4 (fun f w => f 0 = va0 ∧ f 1 = va1 ∧ f 2 = (.int .i64 a2) ∧ f 3 = va3 ∧ f 32 = .bool (((decide (10 < ((a0.length : Nat) : Int))) && (decide (((a0.length : Nat) : Int) ≤ 16))) || (decide (20 < ((a0.length : Nat) : Int)))) ∧ Inv w0 w []) ?_ ?_
    · skip
      rcases bool_ft ((decide (10 < ((a0.length : Nat) : Int))) && (decide (((a0.length : Nat) : Int) ≤ 16))) with hc2 | hc2
      · skip
        refine WL.reset (i := 28) (v := .bool false) (congrArg Value.bool hc2) ?_
        refine O.move (v := va0) rfl rfl rfl ?_
        refine O.lenS Try.underlying62 (H.arg ha0) rfl rfl rfl ?_
        refine O.gtr rfl rfl rfl rfl ?_
        refine O.pick_false (v := (.bool (decide (20 < ((a0.length : Nat) : Int))))) rfl rfl rfl rfl ?_
        refine WL.nil ?_
        exact ⟨rfl, rfl, rfl, rfl, congrArg Value.bool (or_f hc2), H⟩
      · skip
        refine WL.reset (i := 28) (v := .bool true) (congrArg Value.bool hc2) ?_
        refine O.skip rfl rfl ?_
        refine O.skip rfl rfl ?_
        refine O.skip rfl rfl ?_
        refine O.pick_true (v := (.bool true)) rfl rfl rfl rfl ?_
        refine WL.nil ?_
        exact ⟨rfl, rfl, rfl, rfl, congrArg Value.bool (or_t hc2), H⟩
    · skip
      rintro f w ⟨hf0, hf1, hf2, hf3, hf32, H⟩
      obtain ⟨u2, rfl⟩ : ∃ u2, f = (upd (upd (upd (upd (upd u2 0 va0) 1 va1) 2 (.int .i64 a2)) 3 va3) 32 (.bool (((decide (10 < ((a0.length : Nat) : Int))) && (decide (((a0.length : Nat) : Int) ≤ 16))) || (decide (20 < ((a0.length : Nat) : Int)))))) := ⟨f, by rw [upd_self hf0, upd_self hf1, upd_self hf2, upd_self hf3, upd_self hf32]⟩
      refine O.move (v := (.bool (((decide (10 < ((a0.length : Nat) : Int))) && (decide (((a0.length : Nat) : Int) ≤ 16))) || (decide (20 < ((a0.length : Nat) : Int)))))) rfl rfl rfl ?_
      refine WL.cut 4 (fun f w => f 0 = va0 ∧ f 1 = va1 ∧ f 2 = (.int .i64 a2) ∧ f 3 = va3 ∧ f 37 = .bool ((((decide (10 < ((a0.length : Nat) : Int))) && (decide (((a0.length : Nat) : Int) ≤ 16))) || (decide (20 < ((a0.length : Nat) : Int)))) || (decide (20 < ((a1.length : Nat) : Int)))) ∧ Inv w0 w []) ?_ ?_
      · skip
        rcases bool_ft (((decide (10 < ((a0.length : Nat) : Int))) && (decide (((a0.length : Nat) : Int) ≤ 16))) || (decide (20 < ((a0.length : Nat) : Int)))) with hc3 | hc3
        · skip
          refine WL.reset (i := 33) (v := .bool false) (congrArg Value.bool hc3) ?_
          refine O.move (v := va1) rfl rfl rfl ?_
          refine O.lenS Try.underlying22 (H.arg ha1) rfl rfl rfl ?_
          refine O.gtr rfl rfl rfl rfl ?_
          refine O.pick_false (v := (.bool (decide (20 < ((a1.length : Nat) : Int))))) rfl rfl rfl rfl ?_
          refine WL.nil ?_
          exact ⟨rfl, rfl, rfl, rfl, congrArg Value.bool (or_f hc3), H⟩
        · skip
          refine WL.reset (i := 33) (v := .bool true) (congrArg Value.bool hc3) ?_
          refine O.skip rfl rfl ?_
          refine O.skip rfl rfl ?_
          refine O.skip rfl rfl ?_
          refine O.pick_true (v := (.bool true)) rfl rfl rfl rfl ?_
          refine WL.nil ?_
          exact ⟨rfl, rfl, rfl, rfl, congrArg Value.bool (or_t hc3), H⟩
      · skip
        rintro f w ⟨hf0, hf1, hf2, hf3, hf37, H⟩
        obtain ⟨u3, rfl⟩ : ∃ u3, f = (upd (upd (upd (upd (upd u3 0 va0) 1 va1) 2 (.int .i64 a2)) 3 va3) 37 (.bool ((((decide (10 < ((a0.length : Nat) : Int))) && (decide (((a0.length : Nat) : Int) ≤ 16))) || (decide (20 < ((a0.length : Nat) : Int)))) || (decide (20 < ((a1.length : Nat) : Int)))))) := ⟨f, by rw [upd_self hf0, upd_self hf1, upd_self hf2, upd_self hf3, upd_self hf37]⟩
        refine O.move (v := (.bool ((((decide (10 < ((a0.length : Nat) : Int))) && (decide (((a0.length : Nat) : Int) ≤ 16))) || (decide (20 < ((a0.length : Nat) : Int)))) || (decide (20 < ((a1.length : Nat) : Int)))))) rfl rfl rfl ?_
        refine WL.cut 4 (fun f w => f 0 = va0 ∧ f 1 = va1 ∧ f 2 = (.int .i64 a2) ∧ f 3 = va3 ∧ f 42 = .bool (((((decide (10 < ((a0.length : Nat) : Int))) && (decide (((a0.length : Nat) : Int) ≤ 16))) || (decide (20 < ((a0.length : Nat) : Int)))) || (decide (20 < ((a1.length : Nat) : Int)))) || (decide (20 < ((a3.length : Nat) : Int)))) ∧ Inv w0 w []) ?_ ?_
        · skip
          rcases bool_ft ((((decide (10 < ((a0.length : Nat) : Int))) && (decide (((a0.length : Nat) : Int) ≤ 16))) || (decide (20 < ((a0.length : Nat) : Int)))) || (decide (20 < ((a1.length : Nat) : Int)))) with hc4 | hc4
          · skip
            refine WL.reset (i := 38) (v := .bool false) (congrArg Value.bool hc4) ?_
            refine O.move (v := va3) rfl rfl rfl ?_
            refine O.lenS Try.underlying22 (H.arg ha3) rfl rfl rfl ?_
            refine O.gtr rfl rfl rfl rfl ?_
            refine O.pick_false (v := (.bool (decide (20 < ((a3.length : Nat) : Int))))) rfl rfl rfl rfl ?_
            refine WL.nil ?_
            exact ⟨rfl, rfl, rfl, rfl, congrArg Value.bool (or_f hc4), H⟩
          · skip
            refine WL.reset (i := 38) (v := .bool true) (congrArg Value.bool hc4) ?_
            refine O.skip rfl rfl ?_
            refine O.skip rfl rfl ?_
            refine O.skip rfl rfl ?_
            refine O.pick_true (v := (.bool true)) rfl rfl rfl rfl ?_
            refine WL.nil ?_
            exact ⟨rfl, rfl, rfl, rfl, congrArg Value.bool (or_t hc4), H⟩
        · skip
          rintro f w ⟨hf0, hf1, hf2, hf3, hf42, H⟩
          obtain ⟨u4, rfl⟩ : ∃ u4, f = (upd (upd (upd (upd (upd u4 0 va0) 1 va1) 2 (.int .i64 a2)) 3 va3) 42 (.bool (((((decide (10 < ((a0.length : Nat) : Int))) && (decide (((a0.length : Nat) : Int) ≤ 16))) || (decide (20 < ((a0.length : Nat) : Int)))) || (decide (20 < ((a1.length : Nat) : Int)))) || (decide (20 < ((a3.length : Nat) : Int)))))) := ⟨f, by rw [upd_self hf0, upd_self hf1, upd_self hf2, upd_self hf3, upd_self hf42]⟩
          refine WL.nil ?_
          rcases ite_some hm with ⟨hc5, hm⟩ | ⟨hc5, hm⟩
          · refine W.cond_true (congrArg Value.bool hc5) ?_
            refine W.seq ?_
            refine W.region ?_
            obtain ⟨t1, hy1, hm⟩ := bind_some hm
            refine O.call Try.call14 rfl rfl rfl (c_noongunlaw06_awake  hy1) ?_
            rintro _ w1 hb1 rfl
            have H := H.ext hb1
            refine O.assign (v := (.bool t1)) rfl rfl rfl ?_
            refine WL.nil ?_
            refine W.ret ?_
            have hq : t1 = r0 := Option.some.inj (show some t1 = some r0 from hm)
            subst hq
            exact ends1 Try.results11 rfl ⟨_, rfl, H.base, rfl⟩
          · refine W.cond_false (congrArg Value.bool hc5) ?_
            refine W.skip ?_
            refine W.seq ?_
            refine W.region ?_
            refine O.move (v := va0) rfl rfl rfl ?_
            refine O.move (v := va1) rfl rfl rfl ?_
            refine O.move (v := (.int .i64 a2)) rfl rfl rfl ?_
            obtain ⟨⟨t2, t3⟩, hy2, hm⟩ := bind_some hm
            refine O.call Try.call44 rfl rfl rfl (c_rate_Bought _ _ (H.arg ha0) _ _ (H.arg ha1) _ hy2) ?_
            rintro _ w2 hb2 ⟨v1, rfl, ho1⟩
            have H := H.addOwn hb2 ho1
            refine O.move (v := (.tuple #[v1, (.int .i64 t3)])) rfl rfl rfl ?_
            refine O.extract (v := v1) rfl rfl rfl rfl ?_
            refine O.extract (v := (.int .i64 t3)) rfl rfl rfl rfl ?_
            refine O.assign (v := v1) rfl rfl rfl ?_
            refine O.assign (v := (.int .i64 t3)) rfl rfl rfl ?_
            refine WL.nil ?_
            refine W.seq ?_
            refine W.region ?_
            refine O.move (v := va0) rfl rfl rfl ?_
            refine O.move (v := va1) rfl rfl rfl ?_
            refine O.move (v := (.int .i64 a2)) rfl rfl rfl ?_
            obtain ⟨⟨t4, t5⟩, hy3, hm⟩ := bind_some hm
            refine O.call Try.call45 rfl rfl rfl (c_noongunref06_Bought _ _ (H.arg ha0) _ _ (H.arg ha1) _ hy3) ?_
            rintro _ w3 hb3 ⟨v2, rfl, ho2⟩
            have H := H.addOwn hb3 ho2
            refine O.move (v := (.tuple #[v2, (.int .i64 t5)])) rfl rfl rfl ?_
            refine O.extract (v := v2) rfl rfl rfl rfl ?_
            refine O.extract (v := (.int .i64 t5)) rfl rfl rfl rfl ?_
            refine O.assign (v := v2) rfl rfl rfl ?_
            refine O.assign (v := (.int .i64 t5)) rfl rfl rfl ?_
            refine WL.nil ?_
            refine W.seq ?_
            refine W.seq ?_
            refine W.region ?_
            refine O.move (v := v1) rfl rfl rfl ?_
            refine O.move (v := v2) rfl rfl rfl ?_
            obtain ⟨t6, hy4, hm⟩ := bind_some hm
            refine O.call Try.call26 rfl rfl rfl (c_noongunref06_SameInts _ _ (H.own 0 rfl) _ _ (H.own 1 rfl) hy4) ?_
            rintro _ w4 hb4 rfl
            have H := H.ext hb4
            refine O.not rfl rfl rfl ?_
            refine O.move (v := (.bool (!t6))) rfl rfl rfl ?_
            refine WL.cut 4 (fun f w => f 0 = va0 ∧ f 1 = va1 ∧ f 2 = (.int .i64 a2) ∧ f 3 = va3 ∧ f 9 = v1 ∧ f 10 = (.int .i64 t3) ∧ f 66 = .bool ((!t6) || (t3 != t5)) ∧ Inv w0 w [ownI (α := Int) v1 3 t2, ownI (α := Int) v2 3 t4]) ?_ ?_
            · skip
              rcases bool_ft (!t6) with hc6 | hc6
              · skip
                refine WL.reset (i := 62) (v := .bool false) (congrArg Value.bool hc6) ?_
                refine O.move (v := (.int .i64 t3)) rfl rfl rfl ?_
                refine O.move (v := (.int .i64 t5)) rfl rfl rfl ?_
                refine O.neq rfl rfl rfl rfl ?_
                refine O.pick_false (v := (.bool (t3 != t5))) rfl rfl rfl rfl ?_
                refine WL.nil ?_
                exact ⟨rfl, rfl, rfl, rfl, rfl, rfl, congrArg Value.bool (or_f hc6), H⟩
              · skip
                refine WL.reset (i := 62) (v := .bool true) (congrArg Value.bool hc6) ?_
                refine O.skip rfl rfl ?_
                refine O.skip rfl rfl ?_
                refine O.skip rfl rfl ?_
                refine O.pick_true (v := (.bool true)) rfl rfl rfl rfl ?_
                refine WL.nil ?_
                exact ⟨rfl, rfl, rfl, rfl, rfl, rfl, congrArg Value.bool (or_t hc6), H⟩
            · skip
              rintro f w ⟨hf0, hf1, hf2, hf3, hf9, hf10, hf66, H⟩
              obtain ⟨u5, rfl⟩ : ∃ u5, f = (upd (upd (upd (upd (upd (upd (upd u5 0 va0) 1 va1) 2 (.int .i64 a2)) 3 va3) 9 v1) 10 (.int .i64 t3)) 66 (.bool ((!t6) || (t3 != t5)))) := ⟨f, by rw [upd_self hf0, upd_self hf1, upd_self hf2, upd_self hf3, upd_self hf9, upd_self hf10, upd_self hf66]⟩
              refine WL.nil ?_
              rcases ite_some hm with ⟨hc7, hm⟩ | ⟨hc7, hm⟩
              · refine W.cond_true (congrArg Value.bool hc7) ?_
                refine W.seq ?_
                refine W.region ?_
                refine O.assign (v := (.bool false)) rfl rfl rfl ?_
                refine WL.nil ?_
                refine W.ret ?_
                have hq : false = r0 := Option.some.inj (show some false = some r0 from hm)
                subst hq
                exact ends1 Try.results11 rfl ⟨_, rfl, H.base, rfl⟩
              · refine W.cond_false (congrArg Value.bool hc7) ?_
                refine W.skip ?_
                refine W.seq ?_
                refine W.seq ?_
                refine W.region ?_
                refine O.move (v := (.int .i64 t3)) rfl rfl rfl ?_
                refine O.neq rfl rfl rfl rfl ?_
                refine WL.nil ?_
                rcases ite_some hm with ⟨hc8, hm⟩ | ⟨hc8, hm⟩
                · refine W.cond_true (congrArg Value.bool hc8) ?_
                  refine W.seq ?_
                  refine W.region ?_
                  obtain ⟨t7, hy5, hm⟩ := bind_some hm
                  refine O.call Try.call14 rfl rfl rfl (c_noongunlaw06_awake  hy5) ?_
                  rintro _ w5 hb5 rfl
                  have H := H.ext hb5
                  refine O.assign (v := (.bool t7)) rfl rfl rfl ?_
                  refine WL.nil ?_
                  refine W.ret ?_
                  have hq : t7 = r0 := Option.some.inj (show some t7 = some r0 from hm)
                  subst hq
                  exact ends1 Try.results11 rfl ⟨_, rfl, H.base, rfl⟩
                · refine W.cond_false (congrArg Value.bool hc8) ?_
                  refine W.skip ?_
                  refine W.seq ?_
                  refine W.region ?_
                  refine O.assign (v := (.int .i64 0)) rfl rfl rfl ?_
                  refine O.assign (v := (.int .i64 0)) rfl rfl rfl ?_
                  refine O.assign (v := (.int .i64 0)) rfl rfl rfl ?_
                  refine WL.nil ?_
                  refine W.seq ?_
                  refine W.seq ?_
                  refine W.region ?_
                  refine O.move (v := v1) rfl rfl rfl ?_
                  refine O.lenS Try.underlying22 (H.own 0 rfl) rfl rfl rfl ?_
                  refine O.move (v := (.int .i64 0)) rfl rfl rfl ?_
                  refine WL.nil ?_
                  obtain ⟨s1, hm1, hm⟩ := bind_some hm
                  refine W.via (fun f w => f 0 = va0 ∧ f 1 = va1 ∧ f 2 = (.int .i64 a2) ∧ f 3 = va3 ∧ f 9 = v1 ∧ f 13 = (.int .i64 0) ∧ f 14 = (.int .i64 0) ∧ f 15 = (.int .i64 s1) ∧ Inv w0 w [ownI (α := Int) v1 3 t2]) ?_ ?_
                  · skip
                    refine W.block ?_
                    have H := H.keep [0] [ownI (α := Int) v1 3 t2] rfl (by decide)
                    refine W.rangeL (i := 0) hm1 (fun rem ik1 s f w => ∃ z2 : Int, z2 = s ∧ t2.drop ik1 = rem ∧ f 72 = .int .i64 (ik1 : Int) ∧ f 71 = (.int .i64 ((t2.length : Nat) : Int)) ∧ f 0 = va0 ∧ f 1 = va1 ∧ f 2 = (.int .i64 a2) ∧ f 3 = va3 ∧ f 9 = v1 ∧ f 13 = (.int .i64 0) ∧ f 14 = (.int .i64 0) ∧ f 15 = (.int .i64 z2) ∧ f 70 = v1 ∧ Inv w0 w [ownI (α := Int) v1 3 t2]) ?_ ?_ ?_
                    · skip
                      exact ⟨_, rfl, List.drop_zero, rfl, rfl, rfl, rfl, rfl, rfl, rfl, rfl, rfl, rfl, rfl, H⟩
                    · skip
                      rintro yk1 xs ik1 _ st f w ⟨z2, rfl, hdropk1, hf72, hf71, hf0, hf1, hf2, hf3, hf9, hf13, hf14, hf15, hf70, H⟩ hm2
                      have hltk1 := drop_lt hdropk1; have hixk1 := drop_idx hdropk1
                      obtain ⟨u6, rfl⟩ : ∃ u6, f = (upd (upd (upd (upd (upd (upd (upd (upd (upd (upd (upd u6 72 (.int .i64 (ik1 : Int))) 71 (.int .i64 ((t2.length : Nat) : Int))) 0 va0) 1 va1) 2 (.int .i64 a2)) 3 va3) 9 v1) 13 (.int .i64 0)) 14 (.int .i64 0)) 15 (.int .i64 z2)) 70 v1) := ⟨f, by rw [upd_self hf72, upd_self hf71, upd_self hf0, upd_self hf1, upd_self hf2, upd_self hf3, upd_self hf9, upd_self hf13, upd_self hf14, upd_self hf15, upd_self hf70]⟩
                      have hinck1 := addI_lt hltk1 (H.own 0 rfl).len_le
                      refine W.seq ?_
                      refine W.region ?_
                      refine O.lss rfl rfl rfl rfl ?_
                      refine WL.nil ?_
                      refine W.seq ?_
                      refine W.cond_true (congrArg Value.bool (decide_eq_true hltk1)) ?_
                      refine W.skip ?_
                      refine W.seq ?_
                      refine W.block ?_
                      refine W.seq ?_
                      refine W.region ?_
                      refine O.indexAddr Try.underlying22 sz3 (H.own 0 rfl) hixk1 rfl rfl rfl rfl ?_
                      intro p1 hp1
                      refine O.load sc3 rfl rfl rfl (hp1.flat 0 _ rfl) ?_
                      refine O.assign (v := (.int .i64 yk1)) rfl rfl rfl ?_
                      refine WL.nil ?_
                      refine W.region ?_
                      refine O.move (v := (.int .i64 z2)) rfl rfl rfl ?_
                      refine O.move (v := va0) rfl rfl rfl ?_
                      refine O.move (v := (.int .i64 yk1)) rfl rfl rfl ?_
                      obtain ⟨x1, hx1, hm2⟩ := bind_some hm2
                      obtain ⟨p2, hp2, hrp2⟩ := fix_indexAddr Try.underlying62 sz28 ha0 hx1
                      refine hrp2 rfl rfl rfl rfl ?_
                      refine O.fieldAddr fd28_4 rfl rfl rfl ?_
                      refine O.load sc3 rfl rfl rfl ((hp2.mono H.base).flat 4 _ rfl) ?_
                      obtain ⟨t8, ht8, hm2⟩ := bind_some hm2
                      refine O.add rfl rfl rfl rfl ht8 ?_
                      refine O.assign (v := (.int .i64 t8)) rfl rfl rfl ?_
                      refine WL.nil ?_
                      refine W.region ?_
                      refine O.add rfl rfl rfl rfl hinck1 ?_
                      refine O.move (v := .int .i64 ((ik1 : Int) + 1)) rfl rfl rfl ?_
                      refine WL.nil ?_
                      obtain rfl := Option.some.inj hm2
                      exact ⟨_, rfl, _, rfl, drop_next hdropk1, rfl, rfl, rfl, rfl, rfl, rfl, rfl, rfl, rfl, rfl, rfl, H⟩
                    · skip
                      rintro ik1 _ f w ⟨z2, rfl, hdropk1, hf72, hf71, hf0, hf1, hf2, hf3, hf9, hf13, hf14, hf15, hf70, H⟩ hfin
                      have hltk1 := drop_end hdropk1
                      obtain ⟨u7, rfl⟩ : ∃ u7, f = (upd (upd (upd (upd (upd (upd (upd (upd (upd (upd (upd u7 72 (.int .i64 (ik1 : Int))) 71 (.int .i64 ((t2.length : Nat) : Int))) 0 va0) 1 va1) 2 (.int .i64 a2)) 3 va3) 9 v1) 13 (.int .i64 0)) 14 (.int .i64 0)) 15 (.int .i64 z2)) 70 v1) := ⟨f, by rw [upd_self hf72, upd_self hf71, upd_self hf0, upd_self hf1, upd_self hf2, upd_self hf3, upd_self hf9, upd_self hf13, upd_self hf14, upd_self hf15, upd_self hf70]⟩
                      refine W.seq ?_
                      refine W.region ?_
                      refine O.lss rfl rfl rfl rfl ?_
                      refine WL.nil ?_
                      refine W.seq ?_
                      refine W.cond_false (congrArg Value.bool (decide_eq_false hltk1)) ?_
                      refine W.exit ?_
                      have hq : z2 = s1 := hfin
                      subst hq
                      refine xT rfl ?_
                      exact ⟨rfl, rfl, rfl, rfl, rfl, rfl, rfl, rfl, H⟩
                  · skip
                    rintro f w ⟨hf0, hf1, hf2, hf3, hf9, hf13, hf14, hf15, H⟩
                    obtain ⟨u8, rfl⟩ : ∃ u8, f = (upd (upd (upd (upd (upd (upd (upd (upd u8 0 va0) 1 va1) 2 (.int .i64 a2)) 3 va3) 9 v1) 13 (.int .i64 0)) 14 (.int .i64 0)) 15 (.int .i64 s1)) := ⟨f, by rw [upd_self hf0, upd_self hf1, upd_self hf2, upd_self hf3, upd_self hf9, upd_self hf13, upd_self hf14, upd_self hf15]⟩
                    refine W.seq ?_
                    refine W.seq ?_
                    refine W.region ?_
                    refine O.move (v := va3) rfl rfl rfl ?_
                    refine O.lenS Try.underlying22 (H.arg ha3) rfl rfl rfl ?_
                    refine O.move (v := (.int .i64 0)) rfl rfl rfl ?_
                    refine WL.nil ?_
                    obtain ⟨o2, hm3, hm⟩ := bind_some hm
                    refine W.via (fun f w => ∃ s2 : Int, ∃ s3 : Int, o2 = .next (s2, s3) ∧ f 2 = (.int .i64 a2) ∧ f 3 = va3 ∧ f 9 = v1 ∧ f 13 = (.int .i64 s2) ∧ f 14 = (.int .i64 s3) ∧ f 15 = (.int .i64 s1) ∧ Inv w0 w [ownI (α := Int) v1 3 t2]) ?_ ?_
                    · skip
                      refine W.block ?_
                      have hbdik2 := (H.arg ha3).len_le
                      refine W.rangeN (i := 0) hm3 (fun rem ik2 s f w => ∃ z6 : Int, ∃ z7 : Int, (z6, z7) = s ∧ (ik2 : Int) + rem = max 0 ((a3.length : Nat) : Int) ∧ f 86 = .int .i64 (ik2 : Int) ∧ f 85 = (.int .i64 ((a3.length : Nat) : Int)) ∧ f 0 = va0 ∧ f 1 = va1 ∧ f 2 = (.int .i64 a2) ∧ f 3 = va3 ∧ f 9 = v1 ∧ f 13 = (.int .i64 z6) ∧ f 14 = (.int .i64 z7) ∧ f 15 = (.int .i64 s1) ∧ f 84 = va3 ∧ Inv w0 w [ownI (α := Int) v1 3 t2]) ?_ ?_ ?_
                      · skip
                        exact ⟨_, _, rfl, rangeN_start, rfl, rfl, rfl, rfl, rfl, rfl, rfl, rfl, rfl, rfl, rfl, H⟩
                      · skip
                        rintro k ik2 _ st f w ⟨z6, z7, rfl, hdropk2, hf86, hf85, hf0, hf1, hf2, hf3, hf9, hf13, hf14, hf15, hf84, H⟩ hm4
                        have hltk2 := rangeN_lt hdropk2
                        obtain ⟨u9, rfl⟩ : ∃ u9, f = (upd (upd (upd (upd (upd (upd (upd (upd (upd (upd (upd u9 86 (.int .i64 (ik2 : Int))) 85 (.int .i64 ((a3.length : Nat) : Int))) 0 va0) 1 va1) 2 (.int .i64 a2)) 3 va3) 9 v1) 13 (.int .i64 z6)) 14 (.int .i64 z7)) 15 (.int .i64 s1)) 84 va3) := ⟨f, by rw [upd_self hf86, upd_self hf85, upd_self hf0, upd_self hf1, upd_self hf2, upd_self hf3, upd_self hf9, upd_self hf13, upd_self hf14, upd_self hf15, upd_self hf84]⟩
                        have hinck2 := addI_lt hltk2 hbdik2
                        refine W.seq ?_
                        refine W.region ?_
                        refine O.lss rfl rfl rfl rfl ?_
                        refine WL.nil ?_
                        refine W.seq ?_
                        refine W.cond_true (congrArg Value.bool (decide_eq_true hltk2)) ?_
                        refine W.skip ?_
                        refine W.seq ?_
                        refine W.block ?_
                        refine W.seq ?_
                        refine W.region ?_
                        refine O.move (v := (.int .i64 (ik2 : Int))) rfl rfl rfl ?_
                        obtain ⟨x2, hx2, hm4⟩ := bind_some hm4
                        obtain ⟨p3, hp3, hrp3⟩ := fix_indexAddr Try.underlying22 sz3 ha3 hx2
                        refine hrp3 rfl rfl rfl rfl ?_
                        refine O.load sc3 rfl rfl rfl ((hp3.mono H.base).flat 0 _ rfl) ?_
                        refine O.assign (v := (.int .i64 (ik2 : Int))) rfl rfl rfl ?_
                        refine O.assign (v := (.int .i64 x2)) rfl rfl rfl ?_
                        refine WL.nil ?_
                        refine W.seq ?_
                        refine W.seq ?_
                        refine W.region ?_
                        refine O.move (v := (.int .i64 x2)) rfl rfl rfl ?_
                        refine O.lss rfl rfl rfl rfl ?_
                        refine O.move (v := (.bool (decide (x2 < 0)))) rfl rfl rfl ?_
                        refine WL.cut 5 (fun f w => f 0 = va0 ∧ f 1 = va1 ∧ f 2 = (.int .i64 a2) ∧ f 3 = va3 ∧ f 9 = v1 ∧ f 13 = (.int .i64 z6) ∧ f 14 = (.int .i64 z7) ∧ f 15 = (.int .i64 s1) ∧ f 18 = (.int .i64 (ik2 : Int)) ∧ f 19 = (.int .i64 x2) ∧ f 84 = va3 ∧ f 85 = (.int .i64 ((a3.length : Nat) : Int)) ∧ f 86 = (.int .i64 (ik2 : Int)) ∧ f 98 = .bool ((decide (x2 < 0)) || (decide (((a0.length : Nat) : Int) ≤ x2))) ∧ Inv w0 w [ownI (α := Int) v1 3 t2]) ?_ ?_
                        · skip
                          rcases bool_ft (decide (x2 < 0)) with hc9 | hc9
                          · skip
                            refine WL.reset (i := 93) (v := .bool false) (congrArg Value.bool hc9) ?_
                            refine O.move (v := (.int .i64 x2)) rfl rfl rfl ?_
                            refine O.move (v := va0) rfl rfl rfl ?_
                            refine O.lenS Try.underlying62 (H.arg ha0) rfl rfl rfl ?_
                            refine O.geq rfl rfl rfl rfl ?_
                            refine O.pick_false (v := (.bool (decide (((a0.length : Nat) : Int) ≤ x2)))) rfl rfl rfl rfl ?_
                            refine WL.nil ?_
                            exact ⟨rfl, rfl, rfl, rfl, rfl, rfl, rfl, rfl, rfl, rfl, rfl, rfl, rfl, congrArg Value.bool (or_f hc9), H⟩
                          · skip
                            refine WL.reset (i := 93) (v := .bool true) (congrArg Value.bool hc9) ?_
                            refine O.skip rfl rfl ?_
                            refine O.skip rfl rfl ?_
                            refine O.skip rfl rfl ?_
                            refine O.skip rfl rfl ?_
                            refine O.pick_true (v := (.bool true)) rfl rfl rfl rfl ?_
                            refine WL.nil ?_
                            exact ⟨rfl, rfl, rfl, rfl, rfl, rfl, rfl, rfl, rfl, rfl, rfl, rfl, rfl, congrArg Value.bool (or_t hc9), H⟩
                        · skip
                          rintro f w ⟨hf0, hf1, hf2, hf3, hf9, hf13, hf14, hf15, hf18, hf19, hf84, hf85, hf86, hf98, H⟩
                          obtain ⟨u10, rfl⟩ : ∃ u10, f = (upd (upd (upd (upd (upd (upd (upd (upd (upd (upd (upd (upd (upd (upd u10 0 va0) 1 va1) 2 (.int .i64 a2)) 3 va3) 9 v1) 13 (.int .i64 z6)) 14 (.int .i64 z7)) 15 (.int .i64 s1)) 18 (.int .i64 (ik2 : Int))) 19 (.int .i64 x2)) 84 va3) 85 (.int .i64 ((a3.length : Nat) : Int))) 86 (.int .i64 (ik2 : Int))) 98 (.bool ((decide (x2 < 0)) || (decide (((a0.length : Nat) : Int) ≤ x2))))) := ⟨f, by rw [upd_self hf0, upd_self hf1, upd_self hf2, upd_self hf3, upd_self hf9, upd_self hf13, upd_self hf14, upd_self hf15, upd_self hf18, upd_self hf19, upd_self hf84, upd_self hf85, upd_self hf86, upd_self hf98]⟩
                          refine O.move (v := (.bool ((decide (x2 < 0)) || (decide (((a0.length : Nat) : Int) ≤ x2))))) rfl rfl rfl ?_
                          obtain ⟨b1, hm5, hm4⟩ := bind_some hm4
                          refine WL.cut 12 (fun f w => f 0 = va0 ∧ f 1 = va1 ∧ f 2 = (.int .i64 a2) ∧ f 3 = va3 ∧ f 9 = v1 ∧ f 13 = (.int .i64 z6) ∧ f 14 = (.int .i64 z7) ∧ f 15 = (.int .i64 s1) ∧ f 19 = (.int .i64 x2) ∧ f 84 = va3 ∧ f 85 = (.int .i64 ((a3.length : Nat) : Int)) ∧ f 86 = (.int .i64 (ik2 : Int)) ∧ f 111 = .bool b1 ∧ Inv w0 w [ownI (α := Int) v1 3 t2]) ?_ ?_
                          · skip
                            rcases ite_some hm5 with ⟨hc10, hm5⟩ | ⟨hc10, hm5⟩
                            · skip
                              refine WL.reset (i := 99) (v := .bool true) (congrArg Value.bool hc10) ?_
                              refine O.skip rfl rfl ?_
                              refine O.skip rfl rfl ?_
                              refine O.skip rfl rfl ?_
                              refine O.skip rfl rfl ?_
                              refine O.skip rfl rfl ?_
                              refine O.skip rfl rfl ?_
                              refine O.skip rfl rfl ?_
                              refine O.skip rfl rfl ?_
                              refine O.skip rfl rfl ?_
                              refine O.skip rfl rfl ?_
                              refine O.skip rfl rfl ?_
                              refine O.pick_true (v := (.bool true)) rfl rfl rfl rfl ?_
                              refine WL.nil ?_
                              have hq : true = b1 := Option.some.inj (show some true = some b1 from hm5)
                              subst hq
                              exact ⟨rfl, rfl, rfl, rfl, rfl, rfl, rfl, rfl, rfl, rfl, rfl, rfl, rfl, H⟩
                            · skip
                              refine WL.reset (i := 99) (v := .bool false) (congrArg Value.bool hc10) ?_
                              refine O.move (v := (.int .i64 (ik2 : Int))) rfl rfl rfl ?_
                              refine O.gtr rfl rfl rfl rfl ?_
                              refine O.move (v := (.bool (decide (0 < (ik2 : Int))))) rfl rfl rfl ?_
                              obtain ⟨b2, hm6, hm5⟩ := bind_some hm5
                              refine WL.cut 8 (fun f w => f 0 = va0 ∧ f 1 = va1 ∧ f 2 = (.int .i64 a2) ∧ f 3 = va3 ∧ f 9 = v1 ∧ f 13 = (.int .i64 z6) ∧ f 14 = (.int .i64 z7) ∧ f 15 = (.int .i64 s1) ∧ f 19 = (.int .i64 x2) ∧ f 84 = va3 ∧ f 85 = (.int .i64 ((a3.length : Nat) : Int)) ∧ f 86 = (.int .i64 (ik2 : Int)) ∧ f 99 = (.bool false) ∧ f 100 = (.int .i64 (ik2 : Int)) ∧ f 101 = (.bool (decide (0 < (ik2 : Int)))) ∧ f 102 = (.bool (decide (0 < (ik2 : Int)))) ∧ f 110 = .bool b2 ∧ Inv w0 w [ownI (α := Int) v1 3 t2]) ?_ ?_
                              · skip
                                rcases ite_some hm6 with ⟨hc11, hm6⟩ | ⟨hc11, hm6⟩
                                · skip
                                  refine WL.reset (i := 102) (v := .bool true) (congrArg Value.bool hc11) ?_
                                  refine O.move (v := (.int .i64 x2)) rfl rfl rfl ?_
                                  refine O.move (v := va3) rfl rfl rfl ?_
                                  refine O.move (v := (.int .i64 (ik2 : Int))) rfl rfl rfl ?_
                                  obtain ⟨t9, ht9, hm6⟩ := bind_some hm6
                                  refine O.sub rfl rfl rfl rfl ht9 ?_
                                  obtain ⟨x3, hx3, hm6⟩ := bind_some hm6
                                  obtain ⟨p4, hp4, hrp4⟩ := fix_indexAddr Try.underlying22 sz3 ha3 hx3
                                  refine hrp4 rfl rfl rfl rfl ?_
                                  refine O.load sc3 rfl rfl rfl ((hp4.mono H.base).flat 0 _ rfl) ?_
                                  refine O.leq rfl rfl rfl rfl ?_
                                  refine O.pick_true (v := (.bool (decide (x2 ≤ x3)))) rfl rfl rfl rfl ?_
                                  refine WL.nil ?_
                                  have hq : (decide (x2 ≤ x3)) = b2 := Option.some.inj (show some (decide (x2 ≤ x3)) = some b2 from hm6)
                                  subst hq
                                  exact ⟨rfl, rfl, rfl, rfl, rfl, rfl, rfl, rfl, rfl, rfl, rfl, rfl, rfl, rfl, rfl, (congrArg Value.bool hc11).symm, rfl, H⟩
                                · skip
                                  refine WL.reset (i := 102) (v := .bool false) (congrArg Value.bool hc11) ?_
                                  refine O.skip rfl rfl ?_
                                  refine O.skip rfl rfl ?_
                                  refine O.skip rfl rfl ?_
                                  refine O.skip rfl rfl ?_
                                  refine O.skip rfl rfl ?_
                                  refine O.skip rfl rfl ?_
                                  refine O.skip rfl rfl ?_
                                  refine O.pick_false (v := (.bool false)) rfl rfl rfl rfl ?_
                                  refine WL.nil ?_
                                  have hq : false = b2 := Option.some.inj (show some false = some b2 from hm6)
                                  subst hq
                                  exact ⟨rfl, rfl, rfl, rfl, rfl, rfl, rfl, rfl, rfl, rfl, rfl, rfl, rfl, rfl, rfl, (congrArg Value.bool hc11).symm, rfl, H⟩
                              · skip
                                rintro f w ⟨hf0, hf1, hf2, hf3, hf9, hf13, hf14, hf15, hf19, hf84, hf85, hf86, hf99, hf100, hf101, hf102, hf110, H⟩
                                obtain ⟨u11, rfl⟩ : ∃ u11, f = (upd (upd (upd (upd (upd (upd (upd (upd (upd (upd (upd (upd (upd (upd (upd (upd (upd u11 0 va0) 1 va1) 2 (.int .i64 a2)) 3 va3) 9 v1) 13 (.int .i64 z6)) 14 (.int .i64 z7)) 15 (.int .i64 s1)) 19 (.int .i64 x2)) 84 va3) 85 (.int .i64 ((a3.length : Nat) : Int))) 86 (.int .i64 (ik2 : Int))) 99 (.bool false)) 100 (.int .i64 (ik2 : Int))) 101 (.bool (decide (0 < (ik2 : Int))))) 102 (.bool (decide (0 < (ik2 : Int))))) 110 (.bool b2)) := ⟨f, by rw [upd_self hf0, upd_self hf1, upd_self hf2, upd_self hf3, upd_self hf9, upd_self hf13, upd_self hf14, upd_self hf15, upd_self hf19, upd_self hf84, upd_self hf85, upd_self hf86, upd_self hf99, upd_self hf100, upd_self hf101, upd_self hf102, upd_self hf110]⟩
                                refine O.pick_false (v := (.bool b2)) rfl rfl rfl rfl ?_
                                refine WL.nil ?_
                                have hq : b2 = b1 := Option.some.inj (show some b2 = some b1 from hm5)
                                subst hq
                                exact ⟨rfl, rfl, rfl, rfl, rfl, rfl, rfl, rfl, rfl, rfl, rfl, rfl, rfl, H⟩
                          · skip
                            rintro f w ⟨hf0, hf1, hf2, hf3, hf9, hf13, hf14, hf15, hf19, hf84, hf85, hf86, hf111, H⟩
                            obtain ⟨u12, rfl⟩ : ∃ u12, f = (upd (upd (upd (upd (upd (upd (upd (upd (upd (upd (upd (upd (upd u12 0 va0) 1 va1) 2 (.int .i64 a2)) 3 va3) 9 v1) 13 (.int .i64 z6)) 14 (.int .i64 z7)) 15 (.int .i64 s1)) 19 (.int .i64 x2)) 84 va3) 85 (.int .i64 ((a3.length : Nat) : Int))) 86 (.int .i64 (ik2 : Int))) 111 (.bool b1)) := ⟨f, by rw [upd_self hf0, upd_self hf1, upd_self hf2, upd_self hf3, upd_self hf9, upd_self hf13, upd_self hf14, upd_self hf15, upd_self hf19, upd_self hf84, upd_self hf85, upd_self hf86, upd_self hf111]⟩
                            refine WL.nil ?_
                            rcases ite_some hm4 with ⟨hc12, hm4⟩ | ⟨hc12, hm4⟩
                            · refine W.cond_true (congrArg Value.bool hc12) ?_
                              refine W.seq ?_
                              refine W.region ?_
                              obtain ⟨t10, hy6, hm4⟩ := bind_some hm4
                              refine O.call Try.call14 rfl rfl rfl (c_noongunlaw06_awake  hy6) ?_
                              rintro _ w6 hb6 rfl
                              have H := H.ext hb6
                              refine O.assign (v := (.bool t10)) rfl rfl rfl ?_
                              refine WL.nil ?_
                              refine W.ret ?_
                              obtain rfl := Option.some.inj hm4
                              refine ⟨_, rfl, ?_⟩
                              rintro rfl
                              have hq : t10 = r0 := Option.some.inj (show some t10 = some r0 from hm)
                              subst hq
                              exact ends1 Try.results11 rfl ⟨_, rfl, H.base, rfl⟩
                            · refine W.cond_false (congrArg Value.bool hc12) ?_
                              refine W.skip ?_
                              refine W.seq ?_
                              refine W.region ?_
                              refine O.move (v := (.int .i64 z6)) rfl rfl rfl ?_
                              refine O.move (v := va1) rfl rfl rfl ?_
                              refine O.move (v := (.int .i64 x2)) rfl rfl rfl ?_
                              obtain ⟨x4, hx4, hm4⟩ := bind_some hm4
                              obtain ⟨p5, hp5, hrp5⟩ := fix_indexAddr Try.underlying22 sz3 ha1 hx4
                              refine hrp5 rfl rfl rfl rfl ?_
                              refine O.load sc3 rfl rfl rfl ((hp5.mono H.base).flat 0 _ rfl) ?_
                              obtain ⟨t11, ht11, hm4⟩ := bind_some hm4
                              refine O.add rfl rfl rfl rfl ht11 ?_
                              refine O.assign (v := (.int .i64 t11)) rfl rfl rfl ?_
                              refine WL.nil ?_
                              refine W.region ?_
                              refine O.move (v := (.int .i64 z7)) rfl rfl rfl ?_
                              refine O.move (v := va0) rfl rfl rfl ?_
                              refine O.move (v := (.int .i64 x2)) rfl rfl rfl ?_
                              obtain ⟨x5, hx5, hm4⟩ := bind_some hm4
                              obtain ⟨p6, hp6, hrp6⟩ := fix_indexAddr Try.underlying62 sz28 ha0 hx5
                              refine hrp6 rfl rfl rfl rfl ?_
                              refine O.fieldAddr fd28_4 rfl rfl rfl ?_
                              refine O.load sc3 rfl rfl rfl ((hp6.mono H.base).flat 4 _ rfl) ?_
                              obtain ⟨t12, ht12, hm4⟩ := bind_some hm4
                              refine O.add rfl rfl rfl rfl ht12 ?_
                              refine O.assign (v := (.int .i64 t12)) rfl rfl rfl ?_
                              refine WL.nil ?_
                              refine W.region ?_
                              refine O.add rfl rfl rfl rfl hinck2 ?_
                              refine O.move (v := .int .i64 ((ik2 : Int) + 1)) rfl rfl rfl ?_
                              refine WL.nil ?_
                              obtain rfl := Option.some.inj hm4
                              exact ⟨_, rfl, _, _, rfl, rangeN_next hdropk2, rfl, rfl, rfl, rfl, rfl, rfl, rfl, rfl, rfl, rfl, rfl, H⟩
                      · skip
                        rintro ik2 _ f w ⟨z6, z7, rfl, hdropk2, hf86, hf85, hf0, hf1, hf2, hf3, hf9, hf13, hf14, hf15, hf84, H⟩ hfin
                        have hltk2 := rangeN_end hdropk2
                        obtain ⟨u13, rfl⟩ : ∃ u13, f = (upd (upd (upd (upd (upd (upd (upd (upd (upd (upd (upd u13 86 (.int .i64 (ik2 : Int))) 85 (.int .i64 ((a3.length : Nat) : Int))) 0 va0) 1 va1) 2 (.int .i64 a2)) 3 va3) 9 v1) 13 (.int .i64 z6)) 14 (.int .i64 z7)) 15 (.int .i64 s1)) 84 va3) := ⟨f, by rw [upd_self hf86, upd_self hf85, upd_self hf0, upd_self hf1, upd_self hf2, upd_self hf3, upd_self hf9, upd_self hf13, upd_self hf14, upd_self hf15, upd_self hf84]⟩
                        refine W.seq ?_
                        refine W.region ?_
                        refine O.lss rfl rfl rfl rfl ?_
                        refine WL.nil ?_
                        refine W.seq ?_
                        refine W.cond_false (congrArg Value.bool (decide_eq_false hltk2)) ?_
                        refine W.exit ?_
                        obtain rfl : Ctl.next (z6, z7) = o2 := hfin
                        refine xT rfl ?_
                        exact ⟨_, _, rfl, rfl, rfl, rfl, rfl, rfl, rfl, H⟩
                    · skip
                      rintro f w ⟨s2, s3, rfl, hf2, hf3, hf9, hf13, hf14, hf15, H⟩
                      obtain ⟨u14, rfl⟩ : ∃ u14, f = (upd (upd (upd (upd (upd (upd u14 2 (.int .i64 a2)) 3 va3) 9 v1) 13 (.int .i64 s2)) 14 (.int .i64 s3)) 15 (.int .i64 s1)) := ⟨f, by rw [upd_self hf2, upd_self hf3, upd_self hf9, upd_self hf13, upd_self hf14, upd_self hf15]⟩
                      refine W.seq ?_
                      refine W.region ?_
                      refine O.move (v := (.int .i64 s2)) rfl rfl rfl ?_
                      refine O.move (v := (.int .i64 a2)) rfl rfl rfl ?_
                      refine O.gtr rfl rfl rfl rfl ?_
                      refine O.move (v := (.bool (decide (a2 < s2)))) rfl rfl rfl ?_
                      refine WL.cut 6 (fun f w => f 3 = va3 ∧ f 9 = v1 ∧ f 14 = (.int .i64 s3) ∧ f 15 = (.int .i64 s1) ∧ f 136 = .bool ((decide (a2 < s2)) || (decide (((a3.length : Nat) : Int) < ((t2.length : Nat) : Int)))) ∧ Inv w0 w [ownI (α := Int) v1 3 t2]) ?_ ?_
                      · skip
                        rcases bool_ft (decide (a2 < s2)) with hc13 | hc13
                        · skip
                          refine WL.reset (i := 130) (v := .bool false) (congrArg Value.bool hc13) ?_
                          refine O.move (v := va3) rfl rfl rfl ?_
                          refine O.lenS Try.underlying22 (H.arg ha3) rfl rfl rfl ?_
                          refine O.move (v := v1) rfl rfl rfl ?_
                          refine O.lenS Try.underlying22 (H.own 0 rfl) rfl rfl rfl ?_
                          refine O.lss rfl rfl rfl rfl ?_
                          refine O.pick_false (v := (.bool (decide (((a3.length : Nat) : Int) < ((t2.length : Nat) : Int))))) rfl rfl rfl rfl ?_
                          refine WL.nil ?_
                          exact ⟨rfl, rfl, rfl, rfl, congrArg Value.bool (or_f hc13), H⟩
                        · skip
                          refine WL.reset (i := 130) (v := .bool true) (congrArg Value.bool hc13) ?_
                          refine O.skip rfl rfl ?_
                          refine O.skip rfl rfl ?_
                          refine O.skip rfl rfl ?_
                          refine O.skip rfl rfl ?_
                          refine O.skip rfl rfl ?_
                          refine O.pick_true (v := (.bool true)) rfl rfl rfl rfl ?_
                          refine WL.nil ?_
                          exact ⟨rfl, rfl, rfl, rfl, congrArg Value.bool (or_t hc13), H⟩
                      · skip
                        rintro f w ⟨hf3, hf9, hf14, hf15, hf136, H⟩
                        obtain ⟨u15, rfl⟩ : ∃ u15, f = (upd (upd (upd (upd (upd u15 3 va3) 9 v1) 14 (.int .i64 s3)) 15 (.int .i64 s1)) 136 (.bool ((decide (a2 < s2)) || (decide (((a3.length : Nat) : Int) < ((t2.length : Nat) : Int)))))) := ⟨f, by rw [upd_self hf3, upd_self hf9, upd_self hf14, upd_self hf15, upd_self hf136]⟩
                        refine O.move (v := (.bool ((decide (a2 < s2)) || (decide (((a3.length : Nat) : Int) < ((t2.length : Nat) : Int)))))) rfl rfl rfl ?_
                        refine WL.cut 11 (fun f w => f 148 = .bool (((decide (a2 < s2)) || (decide (((a3.length : Nat) : Int) < ((t2.length : Nat) : Int)))) || ((((a3.length : Nat) : Int) == ((t2.length : Nat) : Int)) && (decide (s1 ≤ s3)))) ∧ Inv w0 w [ownI (α := Int) v1 3 t2]) ?_ ?_
                        · skip
                          rcases bool_ft ((decide (a2 < s2)) || (decide (((a3.length : Nat) : Int) < ((t2.length : Nat) : Int)))) with hc14 | hc14
                          · skip
                            refine WL.reset (i := 137) (v := .bool false) (congrArg Value.bool hc14) ?_
                            refine O.move (v := va3) rfl rfl rfl ?_
                            refine O.lenS Try.underlying22 (H.arg ha3) rfl rfl rfl ?_
                            refine O.move (v := v1) rfl rfl rfl ?_
                            refine O.lenS Try.underlying22 (H.own 0 rfl) rfl rfl rfl ?_
                            refine O.eql rfl rfl rfl rfl ?_
                            refine O.move (v := (.bool (((a3.length : Nat) : Int) == ((t2.length : Nat) : Int)))) rfl rfl rfl ?_
                            refine WL.cut 4 (fun f w => f 137 = (.bool false) ∧ f 147 = .bool ((((a3.length : Nat) : Int) == ((t2.length : Nat) : Int)) && (decide (s1 ≤ s3))) ∧ Inv w0 w [ownI (α := Int) v1 3 t2]) ?_ ?_
                            · skip
                              rcases bool_ft (((a3.length : Nat) : Int) == ((t2.length : Nat) : Int)) with hc15 | hc15
                              · skip
                                refine WL.reset (i := 143) (v := .bool false) (congrArg Value.bool hc15) ?_
                                refine O.skip rfl rfl ?_
                                refine O.skip rfl rfl ?_
                                refine O.skip rfl rfl ?_
                                refine O.pick_false (v := (.bool false)) rfl rfl rfl rfl ?_
                                refine WL.nil ?_
                                exact ⟨rfl, congrArg Value.bool (and_f hc15), H⟩
                              · skip
                                refine WL.reset (i := 143) (v := .bool true) (congrArg Value.bool hc15) ?_
                                refine O.move (v := (.int .i64 s3)) rfl rfl rfl ?_
                                refine O.move (v := (.int .i64 s1)) rfl rfl rfl ?_
                                refine O.geq rfl rfl rfl rfl ?_
                                refine O.pick_true (v := (.bool (decide (s1 ≤ s3)))) rfl rfl rfl rfl ?_
                                refine WL.nil ?_
                                exact ⟨rfl, congrArg Value.bool (and_t hc15), H⟩
                            · skip
                              rintro f w ⟨hf137, hf147, H⟩
                              obtain ⟨u16, rfl⟩ : ∃ u16, f = (upd (upd u16 137 (.bool false)) 147 (.bool ((((a3.length : Nat) : Int) == ((t2.length : Nat) : Int)) && (decide (s1 ≤ s3))))) := ⟨f, by rw [upd_self hf137, upd_self hf147]⟩
                              refine O.pick_false (v := (.bool ((((a3.length : Nat) : Int) == ((t2.length : Nat) : Int)) && (decide (s1 ≤ s3))))) rfl rfl rfl rfl ?_
                              refine WL.nil ?_
                              exact ⟨congrArg Value.bool (or_f hc14), H⟩
                          · skip
                            refine WL.reset (i := 137) (v := .bool true) (congrArg Value.bool hc14) ?_
                            refine O.skip rfl rfl ?_
                            refine O.skip rfl rfl ?_
                            refine O.skip rfl rfl ?_
                            refine O.skip rfl rfl ?_
                            refine O.skip rfl rfl ?_
                            refine O.skip rfl rfl ?_
                            refine O.skip rfl rfl ?_
                            refine O.skip rfl rfl ?_
                            refine O.skip rfl rfl ?_
                            refine O.skip rfl rfl ?_
                            refine O.pick_true (v := (.bool true)) rfl rfl rfl rfl ?_
                            refine WL.nil ?_
                            exact ⟨congrArg Value.bool (or_t hc14), H⟩
                        · skip
                          rintro f w ⟨hf148, H⟩
                          obtain ⟨u17, rfl⟩ : ∃ u17, f = (upd u17 148 (.bool (((decide (a2 < s2)) || (decide (((a3.length : Nat) : Int) < ((t2.length : Nat) : Int)))) || ((((a3.length : Nat) : Int) == ((t2.length : Nat) : Int)) && (decide (s1 ≤ s3)))))) := ⟨f, by rw [upd_self hf148]⟩
                          refine O.move (v := (.bool (((decide (a2 < s2)) || (decide (((a3.length : Nat) : Int) < ((t2.length : Nat) : Int)))) || ((((a3.length : Nat) : Int) == ((t2.length : Nat) : Int)) && (decide (s1 ≤ s3)))))) rfl rfl rfl ?_
                          obtain ⟨b3, hm7, hm⟩ := bind_some hm
                          refine WL.cut 2 (fun f w => f 151 = .bool b3 ∧ Inv w0 w [ownI (α := Int) v1 3 t2]) ?_ ?_
                          · skip
                            rcases ite_some hm7 with ⟨hc16, hm7⟩ | ⟨hc16, hm7⟩
                            · skip
                              refine WL.reset (i := 149) (v := .bool true) (congrArg Value.bool hc16) ?_
                              obtain ⟨t13, hy7, hm7⟩ := bind_some hm7
                              refine O.call Try.call14 rfl rfl rfl (c_noongunlaw06_awake  hy7) ?_
                              rintro _ w7 hb7 rfl
                              have H := H.ext hb7
                              refine O.pick_true (v := (.bool t13)) rfl rfl rfl rfl ?_
                              refine WL.nil ?_
                              have hq : t13 = b3 := Option.some.inj (show some t13 = some b3 from hm7)
                              subst hq
                              exact ⟨rfl, H⟩
                            · skip
                              refine WL.reset (i := 149) (v := .bool false) (congrArg Value.bool hc16) ?_
                              refine O.skip rfl rfl ?_
                              refine O.pick_false (v := (.bool false)) rfl rfl rfl rfl ?_
                              refine WL.nil ?_
                              have hq : false = b3 := Option.some.inj (show some false = some b3 from hm7)
                              subst hq
                              exact ⟨rfl, H⟩
                          · skip
                            rintro f w ⟨hf151, H⟩
                            obtain ⟨u18, rfl⟩ : ∃ u18, f = (upd u18 151 (.bool b3)) := ⟨f, by rw [upd_self hf151]⟩
                            refine O.assign (v := (.bool b3)) rfl rfl rfl ?_
                            refine WL.nil ?_
                            refine W.ret ?_
                            have hq : b3 = r0 := Option.some.inj (show some b3 = some r0 from hm)
                            subst hq
                            exact ends1 Try.results11 rfl ⟨_, rfl, H.base, rfl⟩

end Go.Proofs
