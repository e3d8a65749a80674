/-
  The walks: each function does what its model says, where the model has a value. No other condition.
-/
import Derived.Test.YtecedifkjafneaaW0
namespace Go.Proofs
open Go.Fw Go.RowKit
set_option maxRecDepth 20000 in
theorem c_noongunlaw07_FlagFewer {w0 : World} (va0 : Value) (a0 : (List Int)) (ha0 : SliceR w0 va0 a0) (a1 : Int) (a2 : Int) (a3 : Int) {r0 : Bool} (hm : noongunlaw07_FlagFewer a0 a1 a2 a3 = some r0) :
    Calls Try.prog 7 #[va0, (.int .i64 a1), (.int .i64 a2), (.int .i64 a3)] w0 (Ret w0 fun _ v => v = (.bool r0)) := by
  unfold noongunlaw07_FlagFewer at hm
  refine calls_of_W Try.func7 rfl Try.ntmps7 (Nat.le_of_ble_eq_true rfl) ?_
  have H := Inv.start (w := w0)
  refine W.seq ?_
  refine W.region ?_
  refine O.assign (v := (.bool false)) rfl rfl rfl ?_
  refine WL.nil ?_
  refine W.seq ?_
  refine W.seq ?_
  refine W.region ?_
  refine O.move (v := va0) rfl rfl rfl ?_
  refine O.lenS Try.underlying22 (H.arg ha0) rfl rfl rfl ?_
  refine O.gtr rfl rfl rfl rfl ?_
  refine O.move (v := (.bool (decide (100 < ((a0.length : Nat) : Int))))) rfl rfl rfl ?_
  refine WL.cut 3 (fun f w => f 0 = va0 ∧ f 1 = (.int .i64 a1) ∧ f 2 = (.int .i64 a2) ∧ f 3 = (.int .i64 a3) ∧ f 23 = .bool ((decide (100 < ((a0.length : Nat) : Int))) || (decide (a1 < 0))) ∧ Inv w0 w []) ?_ ?_
  · skip
    rcases bool_ft (decide (100 < ((a0.length : Nat) : Int))) with hc1 | hc1
    · skip
      refine WL.reset (i := 20) (v := .bool false) (congrArg Value.bool hc1) ?_
      refine O.move (v := (.int .i64 a1)) rfl rfl rfl ?_
      refine O.lss rfl rfl rfl rfl ?_
      refine O.pick_false (v := (.bool (decide (a1 < 0)))) rfl rfl rfl rfl ?_
      refine WL.nil ?_
      exact ⟨rfl, rfl, rfl, rfl, congrArg Value.bool (or_f hc1), H⟩
    · skip
      refine WL.reset (i := 20) (v := .bool true) (congrArg Value.bool hc1) ?_
      refine O.skip rfl rfl ?_
      refine O.skip rfl rfl ?_
      refine O.pick_true (v := (.bool true)) rfl rfl rfl rfl ?_
      refine WL.nil ?_
      exact ⟨rfl, rfl, rfl, rfl, congrArg Value.bool (or_t hc1), H⟩
  · skip
    rintro f w ⟨hf0, hf1, hf2, hf3, hf23, H⟩
    obtain ⟨u1, rfl⟩ : ∃ u1, f = (upd (upd (upd (upd (upd u1 0 va0) 1 (.int .i64 a1)) 2 (.int .i64 a2)) 3 (.int .i64 a3)) 23 (.bool ((decide (100 < ((a0.length : Nat) : Int))) || (decide (a1 < 0))))) := ⟨f, by rw [upd_self hf0, upd_self hf1, upd_self hf2, upd_self hf3, upd_self hf23]⟩
    refine O.move (v := (.bool ((decide (100 < ((a0.length : Nat) : Int))) || (decide (a1 < 0))))) rfl rfl rfl ?_
    refine WL.cut 3 (fun f w => f 0 = va0 ∧ f 1 = (.int .i64 a1) ∧ f 2 = (.int .i64 a2) ∧ f 3 = (.int .i64 a3) ∧ f 27 = .bool (((decide (100 < ((a0.length : Nat) : Int))) || (decide (a1 < 0))) || (decide (8191 < a1))) ∧ Inv w0 w []) ?_ ?_
    · skip
      rcases bool_ft ((decide (100 < ((a0.length : Nat) : Int))) || (decide (a1 < 0))) with hc2 | hc2
      · skip
        refine WL.reset (i := 24) (v := .bool false) (congrArg Value.bool hc2) ?_
        refine O.move (v := (.int .i64 a1)) rfl rfl rfl ?_
        refine O.gtr rfl rfl rfl rfl ?_
        refine O.pick_false (v := (.bool (decide (8191 < a1)))) rfl rfl rfl rfl ?_
        refine WL.nil ?_
        exact ⟨rfl, rfl, rfl, rfl, congrArg Value.bool (or_f hc2), H⟩
      · skip
        refine WL.reset (i := 24) (v := .bool true) (congrArg Value.bool hc2) ?_
        refine O.skip rfl rfl ?_
        refine O.skip rfl rfl ?_
        refine O.pick_true (v := (.bool true)) rfl rfl rfl rfl ?_
        refine WL.nil ?_
        exact ⟨rfl, rfl, rfl, rfl, congrArg Value.bool (or_t hc2), H⟩
    · skip
      rintro f w ⟨hf0, hf1, hf2, hf3, hf27, H⟩
      obtain ⟨u2, rfl⟩ : ∃ u2, f = (upd (upd (upd (upd (upd u2 0 va0) 1 (.int .i64 a1)) 2 (.int .i64 a2)) 3 (.int .i64 a3)) 27 (.bool (((decide (100 < ((a0.length : Nat) : Int))) || (decide (a1 < 0))) || (decide (8191 < a1))))) := ⟨f, by rw [upd_self hf0, upd_self hf1, upd_self hf2, upd_self hf3, upd_self hf27]⟩
      refine O.move (v := (.bool (((decide (100 < ((a0.length : Nat) : Int))) || (decide (a1 < 0))) || (decide (8191 < a1))))) rfl rfl rfl ?_
      refine WL.cut 3 (fun f w => f 0 = va0 ∧ f 1 = (.int .i64 a1) ∧ f 2 = (.int .i64 a2) ∧ f 3 = (.int .i64 a3) ∧ f 31 = .bool ((((decide (100 < ((a0.length : Nat) : Int))) || (decide (a1 < 0))) || (decide (8191 < a1))) || (decide (a2 < 0))) ∧ Inv w0 w []) ?_ ?_
      · skip
        rcases bool_ft (((decide (100 < ((a0.length : Nat) : Int))) || (decide (a1 < 0))) || (decide (8191 < a1))) with hc3 | hc3
        · skip
          refine WL.reset (i := 28) (v := .bool false) (congrArg Value.bool hc3) ?_
          refine O.move (v := (.int .i64 a2)) rfl rfl rfl ?_
          refine O.lss rfl rfl rfl rfl ?_
          refine O.pick_false (v := (.bool (decide (a2 < 0)))) rfl rfl rfl rfl ?_
          refine WL.nil ?_
          exact ⟨rfl, rfl, rfl, rfl, congrArg Value.bool (or_f hc3), H⟩
        · skip
          refine WL.reset (i := 28) (v := .bool true) (congrArg Value.bool hc3) ?_
          refine O.skip rfl rfl ?_
          refine O.skip rfl rfl ?_
          refine O.pick_true (v := (.bool true)) rfl rfl rfl rfl ?_
          refine WL.nil ?_
          exact ⟨rfl, rfl, rfl, rfl, congrArg Value.bool (or_t hc3), H⟩
      · skip
        rintro f w ⟨hf0, hf1, hf2, hf3, hf31, H⟩
        obtain ⟨u3, rfl⟩ : ∃ u3, f = (upd (upd (upd (upd (upd u3 0 va0) 1 (.int .i64 a1)) 2 (.int .i64 a2)) 3 (.int .i64 a3)) 31 (.bool ((((decide (100 < ((a0.length : Nat) : Int))) || (decide (a1 < 0))) || (decide (8191 < a1))) || (decide (a2 < 0))))) := ⟨f, by rw [upd_self hf0, upd_self hf1, upd_self hf2, upd_self hf3, upd_self hf31]⟩
        refine O.move (v := (.bool ((((decide (100 < ((a0.length : Nat) : Int))) || (decide (a1 < 0))) || (decide (8191 < a1))) || (decide (a2 < 0))))) rfl rfl rfl ?_
        refine WL.cut 3 (fun f w => f 0 = va0 ∧ f 1 = (.int .i64 a1) ∧ f 2 = (.int .i64 a2) ∧ f 3 = (.int .i64 a3) ∧ f 35 = .bool (((((decide (100 < ((a0.length : Nat) : Int))) || (decide (a1 < 0))) || (decide (8191 < a1))) || (decide (a2 < 0))) || (decide (8191 < a2))) ∧ Inv w0 w []) ?_ ?_
        · skip
          rcases bool_ft ((((decide (100 < ((a0.length : Nat) : Int))) || (decide (a1 < 0))) || (decide (8191 < a1))) || (decide (a2 < 0))) with hc4 | hc4
          · skip
            refine WL.reset (i := 32) (v := .bool false) (congrArg Value.bool hc4) ?_
            refine O.move (v := (.int .i64 a2)) rfl rfl rfl ?_
            refine O.gtr rfl rfl rfl rfl ?_
            refine O.pick_false (v := (.bool (decide (8191 < a2)))) rfl rfl rfl rfl ?_
            refine WL.nil ?_
            exact ⟨rfl, rfl, rfl, rfl, congrArg Value.bool (or_f hc4), H⟩
          · skip
            refine WL.reset (i := 32) (v := .bool true) (congrArg Value.bool hc4) ?_
            refine O.skip rfl rfl ?_
            refine O.skip rfl rfl ?_
            refine O.pick_true (v := (.bool true)) rfl rfl rfl rfl ?_
            refine WL.nil ?_
            exact ⟨rfl, rfl, rfl, rfl, congrArg Value.bool (or_t hc4), H⟩
        · skip
          rintro f w ⟨hf0, hf1, hf2, hf3, hf35, H⟩
          obtain ⟨u4, rfl⟩ : ∃ u4, f = (upd (upd (upd (upd (upd u4 0 va0) 1 (.int .i64 a1)) 2 (.int .i64 a2)) 3 (.int .i64 a3)) 35 (.bool (((((decide (100 < ((a0.length : Nat) : Int))) || (decide (a1 < 0))) || (decide (8191 < a1))) || (decide (a2 < 0))) || (decide (8191 < a2))))) := ⟨f, by rw [upd_self hf0, upd_self hf1, upd_self hf2, upd_self hf3, upd_self hf35]⟩
          refine WL.nil ?_
          rcases ite_some hm with ⟨hc5, hm⟩ | ⟨hc5, hm⟩
          · refine W.cond_true (congrArg Value.bool hc5) ?_
            refine W.seq ?_
            refine W.region ?_
            obtain ⟨t1, hy1, hm⟩ := bind_some hm
            refine O.call Try.call9 rfl rfl rfl (c_noongunlaw07_awake  hy1) ?_
            rintro _ w1 hb1 rfl
            have H := H.ext hb1
            refine O.assign (v := (.bool t1)) rfl rfl rfl ?_
            refine WL.nil ?_
            refine W.ret ?_
            have hq : t1 = r0 := Option.some.inj (show some t1 = some r0 from hm)
            subst hq
            exact ends1 Try.results7 rfl ⟨_, rfl, H.base, rfl⟩
          · refine W.cond_false (congrArg Value.bool hc5) ?_
            refine W.skip ?_
            refine W.seq ?_
            refine W.region ?_
            refine O.move (v := va0) rfl rfl rfl ?_
            refine O.move (v := (.int .i64 a1)) rfl rfl rfl ?_
            obtain ⟨⟨t2, t3⟩, hy2, hm⟩ := bind_some hm
            refine O.call Try.call28 rfl rfl rfl (c_flag_With _ _ (H.arg ha0) _ hy2) ?_
            rintro _ w2 hb2 ⟨v1, rfl, ho1⟩
            have H := H.addOwn hb2 ho1
            refine O.move (v := (.tuple #[v1, (.int .i64 t3)])) rfl rfl rfl ?_
            refine O.extract (v := v1) rfl rfl rfl rfl ?_
            refine O.extract (v := (.int .i64 t3)) rfl rfl rfl rfl ?_
            refine O.assign (v := v1) rfl rfl rfl ?_
            refine O.assign (v := (.int .i64 t3)) rfl rfl rfl ?_
            refine WL.nil ?_
            refine W.seq ?_
            refine W.region ?_
            refine O.move (v := va0) rfl rfl rfl ?_
            refine O.move (v := (.int .i64 a1)) rfl rfl rfl ?_
            refine O.move (v := (.int .i64 a2)) rfl rfl rfl ?_
            refine O.or rfl rfl rfl rfl ?_
            obtain ⟨⟨t4, t5⟩, hy3, hm⟩ := bind_some hm
            refine O.call Try.call28 rfl rfl rfl (c_flag_With _ _ (H.arg ha0) _ hy3) ?_
            rintro _ w3 hb3 ⟨v2, rfl, ho2⟩
            have H := H.addOwn hb3 ho2
            refine O.move (v := (.tuple #[v2, (.int .i64 t5)])) rfl rfl rfl ?_
            refine O.extract (v := v2) rfl rfl rfl rfl ?_
            refine O.extract (v := (.int .i64 t5)) rfl rfl rfl rfl ?_
            refine O.assign (v := v2) rfl rfl rfl ?_
            refine O.assign (v := (.int .i64 t5)) rfl rfl rfl ?_
            refine WL.nil ?_
            refine W.seq ?_
            refine W.region ?_
            refine O.move (v := (.int .i64 a3)) rfl rfl rfl ?_
            refine O.move (v := (.int .i64 a1)) rfl rfl rfl ?_
            obtain ⟨⟨t6, t7⟩, hy4, hm⟩ := bind_some hm
            refine O.call Try.call23 rfl rfl rfl (c_flag_Can _ _ hy4) ?_
            rintro _ w4 hb4 rfl
            have H := H.ext hb4
            refine O.move (v := (.tuple #[(.int .i64 t6), (.int .i64 t7)])) rfl rfl rfl ?_
            refine O.extract (v := (.int .i64 t6)) rfl rfl rfl rfl ?_
            refine O.extract (v := (.int .i64 t7)) rfl rfl rfl rfl ?_
            refine O.assign (v := (.int .i64 t6)) rfl rfl rfl ?_
            refine O.assign (v := (.int .i64 t7)) rfl rfl rfl ?_
            refine WL.nil ?_
            refine W.seq ?_
            refine W.region ?_
            refine O.move (v := (.int .i64 a3)) rfl rfl rfl ?_
            refine O.move (v := (.int .i64 a1)) rfl rfl rfl ?_
            refine O.move (v := (.int .i64 a2)) rfl rfl rfl ?_
            refine O.or rfl rfl rfl rfl ?_
            obtain ⟨⟨t8, t9⟩, hy5, hm⟩ := bind_some hm
            refine O.call Try.call23 rfl rfl rfl (c_flag_Can _ _ hy5) ?_
            rintro _ w5 hb5 rfl
            have H := H.ext hb5
            refine O.move (v := (.tuple #[(.int .i64 t8), (.int .i64 t9)])) rfl rfl rfl ?_
            refine O.extract (v := (.int .i64 t8)) rfl rfl rfl rfl ?_
            refine O.extract (v := (.int .i64 t9)) rfl rfl rfl rfl ?_
            refine O.assign (v := (.int .i64 t8)) rfl rfl rfl ?_
            refine O.assign (v := (.int .i64 t9)) rfl rfl rfl ?_
            refine WL.nil ?_
            refine W.seq ?_
            refine W.region ?_
            refine O.move (v := (.int .i64 t3)) rfl rfl rfl ?_
            refine O.neq rfl rfl rfl rfl ?_
            refine O.move (v := (.bool (t3 != 0))) rfl rfl rfl ?_
            refine WL.cut 3 (fun f w => f 13 = (.int .i64 t6) ∧ f 14 = (.int .i64 t7) ∧ f 15 = (.int .i64 t8) ∧ f 16 = (.int .i64 t9) ∧ f 70 = .bool ((t3 != 0) || (t5 == 0)) ∧ Inv w0 w [ownI (α := Int) v1 3 t2, ownI (α := Int) v2 3 t4]) ?_ ?_
            · skip
              rcases bool_ft (t3 != 0) with hc6 | hc6
              · skip
                refine WL.reset (i := 67) (v := .bool false) (congrArg Value.bool hc6) ?_
                refine O.move (v := (.int .i64 t5)) rfl rfl rfl ?_
                refine O.eql rfl rfl rfl rfl ?_
                refine O.pick_false (v := (.bool (t5 == 0))) rfl rfl rfl rfl ?_
                refine WL.nil ?_
                exact ⟨rfl, rfl, rfl, rfl, congrArg Value.bool (or_f hc6), H⟩
              · skip
                refine WL.reset (i := 67) (v := .bool true) (congrArg Value.bool hc6) ?_
                refine O.skip rfl rfl ?_
                refine O.skip rfl rfl ?_
                refine O.pick_true (v := (.bool true)) rfl rfl rfl rfl ?_
                refine WL.nil ?_
                exact ⟨rfl, rfl, rfl, rfl, congrArg Value.bool (or_t hc6), H⟩
            · skip
              rintro f w ⟨hf13, hf14, hf15, hf16, hf70, H⟩
              obtain ⟨u5, rfl⟩ : ∃ u5, f = (upd (upd (upd (upd (upd u5 13 (.int .i64 t6)) 14 (.int .i64 t7)) 15 (.int .i64 t8)) 16 (.int .i64 t9)) 70 (.bool ((t3 != 0) || (t5 == 0)))) := ⟨f, by rw [upd_self hf13, upd_self hf14, upd_self hf15, upd_self hf16, upd_self hf70]⟩
              refine O.move (v := (.bool ((t3 != 0) || (t5 == 0)))) rfl rfl rfl ?_
              refine WL.cut 4 (fun f w => f 13 = (.int .i64 t6) ∧ f 15 = (.int .i64 t8) ∧ f 75 = .bool (((t3 != 0) || (t5 == 0)) && (t7 == t9)) ∧ Inv w0 w [ownI (α := Int) v1 3 t2, ownI (α := Int) v2 3 t4]) ?_ ?_
              · skip
                rcases bool_ft ((t3 != 0) || (t5 == 0)) with hc7 | hc7
                · skip
                  refine WL.reset (i := 71) (v := .bool false) (congrArg Value.bool hc7) ?_
                  refine O.skip rfl rfl ?_
                  refine O.skip rfl rfl ?_
                  refine O.skip rfl rfl ?_
                  refine O.pick_false (v := (.bool false)) rfl rfl rfl rfl ?_
                  refine WL.nil ?_
                  exact ⟨rfl, rfl, congrArg Value.bool (and_f hc7), H⟩
                · skip
                  refine WL.reset (i := 71) (v := .bool true) (congrArg Value.bool hc7) ?_
                  refine O.move (v := (.int .i64 t7)) rfl rfl rfl ?_
                  refine O.move (v := (.int .i64 t9)) rfl rfl rfl ?_
                  refine O.eql rfl rfl rfl rfl ?_
                  refine O.pick_true (v := (.bool (t7 == t9))) rfl rfl rfl rfl ?_
                  refine WL.nil ?_
                  exact ⟨rfl, rfl, congrArg Value.bool (and_t hc7), H⟩
              · skip
                rintro f w ⟨hf13, hf15, hf75, H⟩
                obtain ⟨u6, rfl⟩ : ∃ u6, f = (upd (upd (upd u6 13 (.int .i64 t6)) 15 (.int .i64 t8)) 75 (.bool (((t3 != 0) || (t5 == 0)) && (t7 == t9)))) := ⟨f, by rw [upd_self hf13, upd_self hf15, upd_self hf75]⟩
                refine O.move (v := (.bool (((t3 != 0) || (t5 == 0)) && (t7 == t9)))) rfl rfl rfl ?_
                refine WL.cut 4 (fun f w => f 80 = .bool ((((t3 != 0) || (t5 == 0)) && (t7 == t9)) && (decide (t6 ≤ t8))) ∧ Inv w0 w [ownI (α := Int) v1 3 t2, ownI (α := Int) v2 3 t4]) ?_ ?_
                · skip
                  rcases bool_ft (((t3 != 0) || (t5 == 0)) && (t7 == t9)) with hc8 | hc8
                  · skip
                    refine WL.reset (i := 76) (v := .bool false) (congrArg Value.bool hc8) ?_
                    refine O.skip rfl rfl ?_
                    refine O.skip rfl rfl ?_
                    refine O.skip rfl rfl ?_
                    refine O.pick_false (v := (.bool false)) rfl rfl rfl rfl ?_
                    refine WL.nil ?_
                    exact ⟨congrArg Value.bool (and_f hc8), H⟩
                  · skip
                    refine WL.reset (i := 76) (v := .bool true) (congrArg Value.bool hc8) ?_
                    refine O.move (v := (.int .i64 t6)) rfl rfl rfl ?_
                    refine O.move (v := (.int .i64 t8)) rfl rfl rfl ?_
                    refine O.leq rfl rfl rfl rfl ?_
                    refine O.pick_true (v := (.bool (decide (t6 ≤ t8)))) rfl rfl rfl rfl ?_
                    refine WL.nil ?_
                    exact ⟨congrArg Value.bool (and_t hc8), H⟩
                · skip
                  rintro f w ⟨hf80, H⟩
                  obtain ⟨u7, rfl⟩ : ∃ u7, f = (upd u7 80 (.bool ((((t3 != 0) || (t5 == 0)) && (t7 == t9)) && (decide (t6 ≤ t8))))) := ⟨f, by rw [upd_self hf80]⟩
                  refine O.move (v := (.bool ((((t3 != 0) || (t5 == 0)) && (t7 == t9)) && (decide (t6 ≤ t8))))) rfl rfl rfl ?_
                  obtain ⟨b1, hm1, hm⟩ := bind_some hm
                  refine WL.cut 2 (fun f w => f 83 = .bool b1 ∧ Inv w0 w [ownI (α := Int) v1 3 t2, ownI (α := Int) v2 3 t4]) ?_ ?_
                  · skip
                    rcases ite_some hm1 with ⟨hc9, hm1⟩ | ⟨hc9, hm1⟩
                    · skip
                      refine WL.reset (i := 81) (v := .bool true) (congrArg Value.bool hc9) ?_
                      obtain ⟨t10, hy6, hm1⟩ := bind_some hm1
                      refine O.call Try.call9 rfl rfl rfl (c_noongunlaw07_awake  hy6) ?_
                      rintro _ w6 hb6 rfl
                      have H := H.ext hb6
                      refine O.pick_true (v := (.bool t10)) rfl rfl rfl rfl ?_
                      refine WL.nil ?_
                      have hq : t10 = b1 := Option.some.inj (show some t10 = some b1 from hm1)
                      subst hq
                      exact ⟨rfl, H⟩
                    · skip
                      refine WL.reset (i := 81) (v := .bool false) (congrArg Value.bool hc9) ?_
                      refine O.skip rfl rfl ?_
                      refine O.pick_false (v := (.bool false)) rfl rfl rfl rfl ?_
                      refine WL.nil ?_
                      have hq : false = b1 := Option.some.inj (show some false = some b1 from hm1)
                      subst hq
                      exact ⟨rfl, H⟩
                  · skip
                    rintro f w ⟨hf83, H⟩
                    obtain ⟨u8, rfl⟩ : ∃ u8, f = (upd u8 83 (.bool b1)) := ⟨f, by rw [upd_self hf83]⟩
                    refine O.assign (v := (.bool b1)) rfl rfl rfl ?_
                    refine WL.nil ?_
                    refine W.ret ?_
                    have hq : b1 = r0 := Option.some.inj (show some b1 = some r0 from hm)
                    subst hq
                    exact ends1 Try.results7 rfl ⟨_, rfl, H.base, rfl⟩

theorem c_noongunref07_set {w0 : World} (a0 : Int) {r0 : Bool} (hm : noongunref07_set a0 = some r0) :
    Calls Try.prog 45 #[(.int .i64 a0)] w0 (Ret w0 fun _ v => v = (.bool r0)) := by
  unfold noongunref07_set at hm
  refine calls_of_W Try.func45 rfl Try.ntmps45 (Nat.le_of_ble_eq_true rfl) ?_
  have H := Inv.start (w := w0)
  refine W.seq ?_
  refine W.region ?_
  refine O.assign (v := (.bool false)) rfl rfl rfl ?_
  refine WL.nil ?_
  refine W.seq ?_
  refine W.region ?_
  refine O.move (v := (.int .i64 a0)) rfl rfl rfl ?_
  refine O.geq rfl rfl rfl rfl ?_
  refine O.move (v := (.bool (decide (0 ≤ a0)))) rfl rfl rfl ?_
  refine WL.cut 3 (fun f w => f 8 = .bool ((decide (0 ≤ a0)) && (decide (a0 < 8192))) ∧ Inv w0 w []) ?_ ?_
  · skip
    rcases bool_ft (decide (0 ≤ a0)) with hc1 | hc1
    · skip
      refine WL.reset (i := 5) (v := .bool false) (congrArg Value.bool hc1) ?_
      refine O.skip rfl rfl ?_
      refine O.skip rfl rfl ?_
      refine O.pick_false (v := (.bool false)) rfl rfl rfl rfl ?_
      refine WL.nil ?_
      exact ⟨congrArg Value.bool (and_f hc1), H⟩
    · skip
      refine WL.reset (i := 5) (v := .bool true) (congrArg Value.bool hc1) ?_
      refine O.move (v := (.int .i64 a0)) rfl rfl rfl ?_
      refine O.lss rfl rfl rfl rfl ?_
      refine O.pick_true (v := (.bool (decide (a0 < 8192)))) rfl rfl rfl rfl ?_
      refine WL.nil ?_
      exact ⟨congrArg Value.bool (and_t hc1), H⟩
  · skip
    rintro f w ⟨hf8, H⟩
    obtain ⟨u1, rfl⟩ : ∃ u1, f = (upd u1 8 (.bool ((decide (0 ≤ a0)) && (decide (a0 < 8192))))) := ⟨f, by rw [upd_self hf8]⟩
    refine O.assign (v := (.bool ((decide (0 ≤ a0)) && (decide (a0 < 8192))))) rfl rfl rfl ?_
    refine WL.nil ?_
    refine W.ret ?_
    have hq : ((decide (0 ≤ a0)) && (decide (a0 < 8192))) = r0 := Option.some.inj (show some ((decide (0 ≤ a0)) && (decide (a0 < 8192))) = some r0 from hm)
    subst hq
    exact ends1 Try.results45 rfl ⟨_, rfl, H.base, rfl⟩

theorem c_noongunref07_number {w0 : World} (va0 : Value) (a0 : (List Int)) (ha0 : SliceR w0 va0 a0) {r0 : Int} (hm : noongunref07_number a0 = some r0) :
    Calls Try.prog 46 #[va0] w0 (Ret w0 fun _ v => v = (.int .i64 r0)) := by
  unfold noongunref07_number at hm
  refine calls_of_W Try.func46 rfl Try.ntmps46 (Nat.le_of_ble_eq_true rfl) ?_
  have H := Inv.start (w := w0)
  refine W.seq ?_
  refine W.region ?_
  refine O.assign (v := (.int .i64 0)) rfl rfl rfl ?_
  refine WL.nil ?_
  refine W.seq ?_
  refine W.region ?_
  refine O.assign (v := (.int .i64 0)) rfl rfl rfl ?_
  refine WL.nil ?_
  refine W.seq ?_
  refine W.seq ?_
  refine W.region ?_
  refine O.move (v := va0) rfl rfl rfl ?_
  refine O.lenS Try.underlying22 (H.arg ha0) rfl rfl rfl ?_
  refine O.move (v := (.int .i64 0)) rfl rfl rfl ?_
  refine WL.nil ?_
  obtain ⟨s1, hm1, hm⟩ := bind_some hm
  refine W.via (fun f w => f 3 = (.int .i64 s1) ∧ Inv w0 w []) ?_ ?_
  · skip
    refine W.block ?_
    refine W.rangeL (i := 0) hm1 (fun rem ik1 s f w => ∃ z2 : Int, z2 = s ∧ a0.drop ik1 = rem ∧ f 8 = .int .i64 (ik1 : Int) ∧ f 7 = (.int .i64 ((a0.length : Nat) : Int)) ∧ f 3 = (.int .i64 z2) ∧ f 6 = va0 ∧ Inv w0 w []) ?_ ?_ ?_
    · skip
      exact ⟨_, rfl, List.drop_zero, rfl, rfl, rfl, rfl, H⟩
    · skip
      rintro yk1 xs ik1 _ st f w ⟨z2, rfl, hdropk1, hf8, hf7, hf3, hf6, H⟩ hm2
      have hltk1 := drop_lt hdropk1; have hixk1 := drop_idx hdropk1
      obtain ⟨u1, rfl⟩ : ∃ u1, f = (upd (upd (upd (upd u1 8 (.int .i64 (ik1 : Int))) 7 (.int .i64 ((a0.length : Nat) : Int))) 3 (.int .i64 z2)) 6 va0) := ⟨f, by rw [upd_self hf8, upd_self hf7, upd_self hf3, upd_self hf6]⟩
      have hinck1 := addI_lt hltk1 (H.arg ha0).len_le
      refine W.seq ?_
      refine W.region ?_
      refine O.lss rfl rfl rfl rfl ?_
      refine WL.nil ?_
      refine W.seq ?_
      refine W.cond_true (congrArg Value.bool (decide_eq_true hltk1)) ?_
      refine W.skip ?_
      refine W.seq ?_
      refine W.block ?_
      refine W.seq ?_
      refine W.region ?_
      obtain ⟨p1, hp1, hrp1⟩ := fix_indexAddr Try.underlying22 sz3 ha0 hixk1
      refine hrp1 rfl rfl rfl rfl ?_
      refine O.load sc3 rfl rfl rfl ((hp1.mono H.base).flat 0 _ rfl) ?_
      refine O.assign (v := (.int .i64 yk1)) rfl rfl rfl ?_
      refine WL.nil ?_
      refine W.region ?_
      refine O.move (v := (.int .i64 z2)) rfl rfl rfl ?_
      obtain ⟨t1, ht1, hm2⟩ := bind_some hm2
      refine O.mul rfl rfl rfl rfl ht1 ?_
      refine O.move (v := (.int .i64 yk1)) rfl rfl rfl ?_
      obtain ⟨t2, ht2, hm2⟩ := bind_some hm2
      refine O.add rfl rfl rfl rfl ht2 ?_
      refine O.assign (v := (.int .i64 t2)) rfl rfl rfl ?_
      refine WL.nil ?_
      refine W.region ?_
      refine O.add rfl rfl rfl rfl hinck1 ?_
      refine O.move (v := .int .i64 ((ik1 : Int) + 1)) rfl rfl rfl ?_
      refine WL.nil ?_
      obtain rfl := Option.some.inj hm2
      exact ⟨_, rfl, _, rfl, drop_next hdropk1, rfl, rfl, rfl, rfl, H⟩
    · skip
      rintro ik1 _ f w ⟨z2, rfl, hdropk1, hf8, hf7, hf3, hf6, H⟩ hfin
      have hltk1 := drop_end hdropk1
      obtain ⟨u2, rfl⟩ : ∃ u2, f = (upd (upd (upd (upd u2 8 (.int .i64 (ik1 : Int))) 7 (.int .i64 ((a0.length : Nat) : Int))) 3 (.int .i64 z2)) 6 va0) := ⟨f, by rw [upd_self hf8, upd_self hf7, upd_self hf3, upd_self hf6]⟩
      refine W.seq ?_
      refine W.region ?_
      refine O.lss rfl rfl rfl rfl ?_
      refine WL.nil ?_
      refine W.seq ?_
      refine W.cond_false (congrArg Value.bool (decide_eq_false hltk1)) ?_
      refine W.exit ?_
      have hq : z2 = s1 := hfin
      subst hq
      refine xT rfl ?_
      exact ⟨rfl, H⟩
  · skip
    rintro f w ⟨hf3, H⟩
    obtain ⟨u3, rfl⟩ : ∃ u3, f = (upd u3 3 (.int .i64 s1)) := ⟨f, by rw [upd_self hf3]⟩
    refine W.seq ?_
    refine W.region ?_
    refine O.move (v := (.int .i64 s1)) rfl rfl rfl ?_
    refine O.assign (v := (.int .i64 s1)) rfl rfl rfl ?_
    refine WL.nil ?_
    refine W.ret ?_
    have hq : s1 = r0 := Option.some.inj (show some s1 = some r0 from hm)
    subst hq
    exact ends1 Try.results46 rfl ⟨_, rfl, H.base, rfl⟩

set_option maxRecDepth 20000 in
theorem c_noongunref07_Can {w0 : World} (a0 : Int) (a1 : Int) {r0 : Int} {r1 : Int} (hm : noongunref07_Can a0 a1 = some (r0, r1)) :
    Calls Try.prog 24 #[(.int .i64 a0), (.int .i64 a1)] w0 (Ret w0 fun _ v => v = .tuple #[(.int .i64 r0), (.int .i64 r1)]) := by
  unfold noongunref07_Can at hm
  refine calls_of_W Try.func24 rfl Try.ntmps24 (Nat.le_of_ble_eq_true rfl) ?_
  have H := Inv.start (w := w0)
  refine W.seq ?_
  refine W.region ?_
  refine O.assign (v := (.int .i64 0)) rfl rfl rfl ?_
  refine O.assign (v := (.int .i64 0)) rfl rfl rfl ?_
  refine WL.nil ?_
  refine W.seq ?_
  refine W.seq ?_
  refine W.region ?_
  refine O.move (v := (.int .i64 a0)) rfl rfl rfl ?_
  refine O.lss rfl rfl rfl rfl ?_
  refine O.move (v := (.bool (decide (a0 < 1)))) rfl rfl rfl ?_
  refine WL.cut 3 (fun f w => f 0 = (.int .i64 a0) ∧ f 1 = (.int .i64 a1) ∧ f 22 = .bool ((decide (a0 < 1)) || (decide (4 < a0))) ∧ Inv w0 w []) ?_ ?_
  · skip
    rcases bool_ft (decide (a0 < 1)) with hc1 | hc1
    · skip
      refine WL.reset (i := 19) (v := .bool false) (congrArg Value.bool hc1) ?_
      refine O.move (v := (.int .i64 a0)) rfl rfl rfl ?_
      refine O.gtr rfl rfl rfl rfl ?_
      refine O.pick_false (v := (.bool (decide (4 < a0)))) rfl rfl rfl rfl ?_
      refine WL.nil ?_
      exact ⟨rfl, rfl, congrArg Value.bool (or_f hc1), H⟩
    · skip
      refine WL.reset (i := 19) (v := .bool true) (congrArg Value.bool hc1) ?_
      refine O.skip rfl rfl ?_
      refine O.skip rfl rfl ?_
      refine O.pick_true (v := (.bool true)) rfl rfl rfl rfl ?_
      refine WL.nil ?_
      exact ⟨rfl, rfl, congrArg Value.bool (or_t hc1), H⟩
  · skip
    rintro f w ⟨hf0, hf1, hf22, H⟩
    obtain ⟨u1, rfl⟩ : ∃ u1, f = (upd (upd (upd u1 0 (.int .i64 a0)) 1 (.int .i64 a1)) 22 (.bool ((decide (a0 < 1)) || (decide (4 < a0))))) := ⟨f, by rw [upd_self hf0, upd_self hf1, upd_self hf22]⟩
    refine O.move (v := (.bool ((decide (a0 < 1)) || (decide (4 < a0))))) rfl rfl rfl ?_
    obtain ⟨b1, hm1, hm⟩ := bind_some hm
    refine WL.cut 4 (fun f w => f 0 = (.int .i64 a0) ∧ f 1 = (.int .i64 a1) ∧ f 27 = .bool b1 ∧ Inv w0 w []) ?_ ?_
    · skip
      rcases ite_some hm1 with ⟨hc2, hm1⟩ | ⟨hc2, hm1⟩
      · skip
        refine WL.reset (i := 23) (v := .bool true) (congrArg Value.bool hc2) ?_
        refine O.skip rfl rfl ?_
        refine O.skip rfl rfl ?_
        refine O.skip rfl rfl ?_
        refine O.pick_true (v := (.bool true)) rfl rfl rfl rfl ?_
        refine WL.nil ?_
        have hq : true = b1 := Option.some.inj (show some true = some b1 from hm1)
        subst hq
        exact ⟨rfl, rfl, rfl, H⟩
      · skip
        refine WL.reset (i := 23) (v := .bool false) (congrArg Value.bool hc2) ?_
        refine O.move (v := (.int .i64 a1)) rfl rfl rfl ?_
        obtain ⟨t1, hy1, hm1⟩ := bind_some hm1
        refine O.call Try.call45 rfl rfl rfl (c_noongunref07_set _ hy1) ?_
        rintro _ w1 hb1 rfl
        have H := H.ext hb1
        refine O.not rfl rfl rfl ?_
        refine O.pick_false (v := (.bool (!t1))) rfl rfl rfl rfl ?_
        refine WL.nil ?_
        have hq : (!t1) = b1 := Option.some.inj (show some (!t1) = some b1 from hm1)
        subst hq
        exact ⟨rfl, rfl, rfl, H⟩
    · skip
      rintro f w ⟨hf0, hf1, hf27, H⟩
      obtain ⟨u2, rfl⟩ : ∃ u2, f = (upd (upd (upd u2 0 (.int .i64 a0)) 1 (.int .i64 a1)) 27 (.bool b1)) := ⟨f, by rw [upd_self hf0, upd_self hf1, upd_self hf27]⟩
      refine WL.nil ?_
      rcases ite_some hm with ⟨hc3, hm⟩ | ⟨hc3, hm⟩
      · refine W.cond_true (congrArg Value.bool hc3) ?_
        refine W.seq ?_
        refine W.region ?_
        refine O.assign (v := (.int .i64 0)) rfl rfl rfl ?_
        refine O.assign (v := (.int .i64 7)) rfl rfl rfl ?_
        refine WL.nil ?_
        refine W.ret ?_
        have hq : (0, 7) = (r0, r1) := Option.some.inj (show some (0, 7) = some (r0, r1) from hm)
        obtain ⟨he0, hq0⟩ := Prod.mk.inj hq; clear hq; subst he0
        subst hq0
        exact ends2 Try.results24 rfl rfl ⟨_, rfl, H.base, rfl⟩
      · refine W.cond_false (congrArg Value.bool hc3) ?_
        refine W.skip ?_
        refine W.seq ?_
        refine W.region ?_
        refine O.buildSlice (α := C1) [(.slice none 0 0)] [⟨.slice none 0 0, rfl⟩] Try.underlying36 el22 H rfl rfl rfl rfl (lit1_cells rfl) rfl rfl ?_
        intro v1 w2 H hb2
        have H := H.litNil (α := Int) 0 rfl rfl
        refine O.assign (v := v1) rfl rfl rfl ?_
        refine WL.nil ?_
        refine W.seq ?_
        refine W.seq ?_
        refine W.region ?_
        refine O.move (v := (.int .i64 a0)) rfl rfl rfl ?_
        refine O.move (v := (.int .i64 0)) rfl rfl rfl ?_
        refine WL.nil ?_
        obtain ⟨s1, hm2, hm⟩ := bind_some hm
        refine W.via (fun f w => ∃ v5 : Value, ∃ Fx4 : (Nat → Prop), ∃ rc4 : List C1, f 6 = v5 ∧ Inv w0 w [ownRI (α := Int) Fx4 v5 22 rc4 s1]) ?_ ?_
        · skip
          refine W.block ?_
          obtain ⟨hbdik1, hm2⟩ := chk_some hm2
          refine W.rangeN (i := 0) hm2 (fun rem ik1 s f w => ∃ z2 : (List (List Int)), ∃ v3 : Value, ∃ Fx2 : (Nat → Prop), ∃ rc2 : List C1, z2 = s ∧ (ik1 : Int) + rem = max 0 a0 ∧ f 30 = .int .i64 (ik1 : Int) ∧ f 29 = (.int .i64 a0) ∧ f 1 = (.int .i64 a1) ∧ f 6 = v3 ∧ Inv w0 w [ownRI (α := Int) Fx2 v3 22 rc2 z2]) ?_ ?_ ?_
          · skip
            exact ⟨_, v1, (fun _ => False), [⟨.slice none 0 0, rfl⟩], rfl, rangeN_start, rfl, rfl, rfl, rfl, H⟩
          · skip
            rintro k ik1 _ st f w ⟨z2, v3, Fx2, rc2, rfl, hdropk1, hf30, hf29, hf1, hf6, H⟩ hm3
            have hltk1 := rangeN_lt hdropk1
            obtain ⟨u3, rfl⟩ : ∃ u3, f = (upd (upd (upd (upd u3 30 (.int .i64 (ik1 : Int))) 29 (.int .i64 a0)) 1 (.int .i64 a1)) 6 v3) := ⟨f, by rw [upd_self hf30, upd_self hf29, upd_self hf1, upd_self hf6]⟩
            have hinck1 := addI_lt hltk1 (inI_iff.1 hbdik1).2
            refine W.seq ?_
            refine W.region ?_
            refine O.lss rfl rfl rfl rfl ?_
            refine WL.nil ?_
            refine W.seq ?_
            refine W.cond_true (congrArg Value.bool (decide_eq_true hltk1)) ?_
            refine W.skip ?_
            refine W.seq ?_
            obtain ⟨s2, hm4, hm3⟩ := bind_some hm3
            refine W.via (fun f w => ∃ v6 : Value, ∃ Fx5 : (Nat → Prop), ∃ rc5 : List C1, f 1 = (.int .i64 a1) ∧ f 6 = v6 ∧ f 29 = (.int .i64 a0) ∧ f 30 = (.int .i64 (ik1 : Int)) ∧ Inv w0 w [ownRI (α := Int) Fx5 v6 22 rc5 s2]) ?_ ?_
            · skip
              refine W.block ?_
              refine W.seq ?_
              refine W.region ?_
              have H := H.addNilR (α := Int) (E := 22)
              refine O.assign (v := (.slice none 0 0)) rfl rfl rfl ?_
              refine WL.nil ?_
              refine W.seq ?_
              refine W.seq ?_
              refine W.region ?_
              refine O.move (v := v3) rfl rfl rfl ?_
              refine O.lenS Try.underlying36 (H.ownRd 0 rfl) rfl rfl rfl ?_
              refine O.move (v := (.int .i64 0)) rfl rfl rfl ?_
              refine WL.nil ?_
              obtain ⟨s3, hm5, hm4⟩ := bind_some hm4
              refine W.via (fun f w => ∃ v10 : Value, ∃ Fx9 : (Nat → Prop), ∃ rc9 : List C1, f 1 = (.int .i64 a1) ∧ f 7 = v10 ∧ f 29 = (.int .i64 a0) ∧ f 30 = (.int .i64 (ik1 : Int)) ∧ Inv w0 w [ownRI (α := Int) Fx9 v10 22 rc9 s3]) ?_ ?_
              · skip
                refine W.block ?_
                refine W.rangeL (i := 0) hm5 (fun rem ik2 s f w => ∃ z5 : (List (List Int)), ∃ v8 : Value, ∃ Fx7 : (Nat → Prop), ∃ rc7 : List C1, z5 = s ∧ z2.drop ik2 = rem ∧ f 34 = .int .i64 (ik2 : Int) ∧ f 33 = (.int .i64 ((z2.length : Nat) : Int)) ∧ f 1 = (.int .i64 a1) ∧ f 7 = v8 ∧ f 29 = (.int .i64 a0) ∧ f 30 = (.int .i64 (ik1 : Int)) ∧ f 32 = v3 ∧ Inv w0 w [ownRI (α := Int) Fx2 v3 22 rc2 z2, ownRI (α := Int) Fx7 v8 22 rc7 z5]) ?_ ?_ ?_
                · skip
                  exact ⟨_, (.slice none 0 0), (fun _ => False), [], rfl, List.drop_zero, rfl, rfl, rfl, rfl, rfl, rfl, rfl, H⟩
                · skip
                  rintro yk2 xs ik2 _ st f w ⟨z5, v8, Fx7, rc7, rfl, hdropk2, hf34, hf33, hf1, hf7, hf29, hf30, hf32, H⟩ hm6
                  have hltk2 := drop_lt hdropk2; have hixk2 := drop_idx hdropk2
                  obtain ⟨u4, rfl⟩ : ∃ u4, f = (upd (upd (upd (upd (upd (upd (upd u4 34 (.int .i64 (ik2 : Int))) 33 (.int .i64 ((z2.length : Nat) : Int))) 1 (.int .i64 a1)) 7 v8) 29 (.int .i64 a0)) 30 (.int .i64 (ik1 : Int))) 32 v3) := ⟨f, by rw [upd_self hf34, upd_self hf33, upd_self hf1, upd_self hf7, upd_self hf29, upd_self hf30, upd_self hf32]⟩
                  have hinck2 := addI_lt hltk2 (H.ownRd 0 rfl).len_le
                  refine W.seq ?_
                  refine W.region ?_
                  refine O.lss rfl rfl rfl rfl ?_
                  refine WL.nil ?_
                  refine W.seq ?_
                  refine W.cond_true (congrArg Value.bool (decide_eq_true hltk2)) ?_
                  refine W.skip ?_
                  refine W.seq ?_
                  obtain ⟨s4, hm7, hm6⟩ := bind_some hm6
                  refine W.via (fun f w => ∃ v11 : Value, ∃ Fx10 : (Nat → Prop), ∃ rc10 : List C1, f 1 = (.int .i64 a1) ∧ f 7 = v11 ∧ f 29 = (.int .i64 a0) ∧ f 30 = (.int .i64 (ik1 : Int)) ∧ f 32 = v3 ∧ f 33 = (.int .i64 ((z2.length : Nat) : Int)) ∧ f 34 = (.int .i64 (ik2 : Int)) ∧ Inv w0 w [ownRI (α := Int) Fx2 v3 22 rc2 z2, ownRI (α := Int) Fx10 v11 22 rc10 s4]) ?_ ?_
                  · skip
                    refine W.block ?_
                    refine W.seq ?_
                    refine W.region ?_
                    obtain ⟨rw1, hirw1, hrw1⟩ := H.rowIdx 0 rfl hixk2
                    refine O.indexAddr Try.underlying36 sz22 (H.ownC 0 rfl) hirw1 rfl rfl rfl rfl ?_
                    intro p1 hp1
                    refine O.load sc22 rfl rfl rfl (hp1.flat 0 _ rfl) ?_
                    refine O.assign (v := rw1.1) rfl rfl rfl ?_
                    refine WL.nil ?_
                    refine W.seq ?_
                    refine W.region ?_
                    refine O.move (v := (.int .i64 0)) rfl rfl rfl ?_
                    refine WL.nil ?_
                    obtain ⟨s5, hm8, hm7⟩ := bind_some hm7
                    refine W.via (fun f w => ∃ v15 : Value, ∃ Fx14 : (Nat → Prop), ∃ rc14 : List C1, f 1 = (.int .i64 a1) ∧ f 7 = v15 ∧ f 29 = (.int .i64 a0) ∧ f 30 = (.int .i64 (ik1 : Int)) ∧ f 32 = v3 ∧ f 33 = (.int .i64 ((z2.length : Nat) : Int)) ∧ f 34 = (.int .i64 (ik2 : Int)) ∧ Inv w0 w [ownRI (α := Int) Fx2 v3 22 rc2 z2, ownRI (α := Int) Fx14 v15 22 rc14 s5]) ?_ ?_
                    · skip
                      refine W.block ?_
                      refine W.rangeN (i := 0) hm8 (fun rem ik3 s f w => ∃ z8 : (List (List Int)), ∃ v13 : Value, ∃ Fx12 : (Nat → Prop), ∃ rc12 : List C1, z8 = s ∧ (ik3 : Int) + rem = max 0 13 ∧ f 38 = .int .i64 (ik3 : Int) ∧ f 1 = (.int .i64 a1) ∧ f 7 = v13 ∧ f 9 = rw1.1 ∧ f 29 = (.int .i64 a0) ∧ f 30 = (.int .i64 (ik1 : Int)) ∧ f 32 = v3 ∧ f 33 = (.int .i64 ((z2.length : Nat) : Int)) ∧ f 34 = (.int .i64 (ik2 : Int)) ∧ Inv w0 w [ownRI (α := Int) Fx2 v3 22 rc2 z2, ownRI (α := Int) Fx12 v13 22 rc12 z8]) ?_ ?_ ?_
                      · skip
                        exact ⟨_, v8, Fx7, rc7, rfl, rangeN_start, rfl, rfl, rfl, rfl, rfl, rfl, rfl, rfl, rfl, H⟩
                      · skip
                        rintro k ik3 _ st f w ⟨z8, v13, Fx12, rc12, rfl, hdropk3, hf38, hf1, hf7, hf9, hf29, hf30, hf32, hf33, hf34, H⟩ hm9
                        have hltk3 := rangeN_lt hdropk3
                        obtain ⟨u5, rfl⟩ : ∃ u5, f = (upd (upd (upd (upd (upd (upd (upd (upd (upd u5 38 (.int .i64 (ik3 : Int))) 1 (.int .i64 a1)) 7 v13) 9 rw1.1) 29 (.int .i64 a0)) 30 (.int .i64 (ik1 : Int))) 32 v3) 33 (.int .i64 ((z2.length : Nat) : Int))) 34 (.int .i64 (ik2 : Int))) := ⟨f, by rw [upd_self hf38, upd_self hf1, upd_self hf7, upd_self hf9, upd_self hf29, upd_self hf30, upd_self hf32, upd_self hf33, upd_self hf34]⟩
                        have hinck3 := addI_lt hltk3 (by decide)
                        refine W.seq ?_
                        refine W.region ?_
                        refine O.lss rfl rfl rfl rfl ?_
                        refine WL.nil ?_
                        refine W.seq ?_
                        refine W.cond_true (congrArg Value.bool (decide_eq_true hltk3)) ?_
                        refine W.skip ?_
                        refine W.seq ?_
                        obtain ⟨s6, hm10, hm9⟩ := bind_some hm9
                        refine W.via (fun f w => ∃ v16 : Value, ∃ Fx15 : (Nat → Prop), ∃ rc15 : List C1, f 1 = (.int .i64 a1) ∧ f 7 = v16 ∧ f 9 = rw1.1 ∧ f 29 = (.int .i64 a0) ∧ f 30 = (.int .i64 (ik1 : Int)) ∧ f 32 = v3 ∧ f 33 = (.int .i64 ((z2.length : Nat) : Int)) ∧ f 34 = (.int .i64 (ik2 : Int)) ∧ f 38 = (.int .i64 (ik3 : Int)) ∧ Inv w0 w [ownRI (α := Int) Fx2 v3 22 rc2 z2, ownRI (α := Int) Fx15 v16 22 rc15 s6]) ?_ ?_
                        · skip
                          refine W.block ?_
                          refine W.seq ?_
                          refine W.region ?_
                          refine O.move (v := (.int .i64 (ik3 : Int))) rfl rfl rfl ?_
                          refine O.assign (v := (.int .i64 (ik3 : Int))) rfl rfl rfl ?_
                          refine WL.nil ?_
                          refine W.seq ?_
                          refine W.region ?_
                          refine O.buildEmpty (α := Int) Try.underlying22 el3 H rfl rfl ?_
                          intro b2 w3 H hb3
                          refine O.move (v := rw1.1) rfl rfl rfl ?_
                          obtain ⟨t2, ht2, hm10⟩ := bind_some hm10
                          refine O.append 2 Try.underlying22 el3 rfl H rfl (H.elemR 0 rfl hrw1) ht2 rfl rfl rfl rfl ?_
                          intro v17 w4 H
                          refine O.move (v := (.int .i64 (ik3 : Int))) rfl rfl rfl ?_
                          refine O.buildSlice (α := Int) [(.int .i64 (ik3 : Int))] [(ik3 : Int)] Try.underlying22 el3 H rfl rfl rfl rfl rfl rfl rfl ?_
                          intro v18 w5 H hb4
                          obtain ⟨t3, ht3, hm10⟩ := bind_some hm10
                          refine O.append 2 Try.underlying22 el3 rfl H rfl (H.own 3 rfl) ht3 rfl rfl rfl rfl ?_
                          intro v19 w6 H
                          refine O.assign (v := v19) rfl rfl rfl ?_
                          refine WL.nil ?_
                          refine W.seq ?_
                          refine W.region ?_
                          refine O.move (v := (.int .i64 a1)) rfl rfl rfl ?_
                          refine O.move (v := (.int .i64 (ik3 : Int))) rfl rfl rfl ?_
                          obtain ⟨t4, ht4, hm10⟩ := bind_some hm10
                          refine O.shr rfl rfl rfl rfl ht4 ?_
                          refine O.and rfl rfl rfl rfl ?_
                          refine O.eql rfl rfl rfl rfl ?_
                          refine O.move (v := (.bool ((bits .and .i64 t4 1) == 1))) rfl rfl rfl ?_
                          obtain ⟨b3, hm11, hm10⟩ := bind_some hm10
                          refine WL.cut 3 (fun f w => f 1 = (.int .i64 a1) ∧ f 7 = v13 ∧ f 9 = rw1.1 ∧ f 11 = v19 ∧ f 29 = (.int .i64 a0) ∧ f 30 = (.int .i64 (ik1 : Int)) ∧ f 32 = v3 ∧ f 33 = (.int .i64 ((z2.length : Nat) : Int)) ∧ f 34 = (.int .i64 (ik2 : Int)) ∧ f 38 = (.int .i64 (ik3 : Int)) ∧ f 55 = .bool b3 ∧ Inv w0 w [ownRI (α := Int) Fx2 v3 22 rc2 z2, ownRI (α := Int) Fx12 v13 22 rc12 z8, ownI (α := Int) v19 3 t3, ownI (α := Int) v18 3 ([(ik3 : Int)] : List Int)]) ?_ ?_
                          · skip
                            rcases ite_some hm11 with ⟨hc4, hm11⟩ | ⟨hc4, hm11⟩
                            · skip
                              refine WL.reset (i := 52) (v := .bool true) (congrArg Value.bool hc4) ?_
                              refine O.move (v := v19) rfl rfl rfl ?_
                              obtain ⟨t5, hy2, hm11⟩ := bind_some hm11
                              refine O.call Try.call17 rfl rfl rfl (c_noongunref07_ValidHoist _ _ (H.own 2 rfl) hy2) ?_
                              rintro _ w7 hb5 rfl
                              have H := H.ext hb5
                              refine O.pick_true (v := (.bool t5)) rfl rfl rfl rfl ?_
                              refine WL.nil ?_
                              have hq : t5 = b3 := Option.some.inj (show some t5 = some b3 from hm11)
                              subst hq
                              exact ⟨rfl, rfl, rfl, rfl, rfl, rfl, rfl, rfl, rfl, rfl, rfl, H⟩
                            · skip
                              refine WL.reset (i := 52) (v := .bool false) (congrArg Value.bool hc4) ?_
                              refine O.skip rfl rfl ?_
                              refine O.skip rfl rfl ?_
                              refine O.pick_false (v := (.bool false)) rfl rfl rfl rfl ?_
                              refine WL.nil ?_
                              have hq : false = b3 := Option.some.inj (show some false = some b3 from hm11)
                              subst hq
                              exact ⟨rfl, rfl, rfl, rfl, rfl, rfl, rfl, rfl, rfl, rfl, rfl, H⟩
                          · skip
                            rintro f w ⟨hf1, hf7, hf9, hf11, hf29, hf30, hf32, hf33, hf34, hf38, hf55, H⟩
                            obtain ⟨u6, rfl⟩ : ∃ u6, f = (upd (upd (upd (upd (upd (upd (upd (upd (upd (upd (upd u6 1 (.int .i64 a1)) 7 v13) 9 rw1.1) 11 v19) 29 (.int .i64 a0)) 30 (.int .i64 (ik1 : Int))) 32 v3) 33 (.int .i64 ((z2.length : Nat) : Int))) 34 (.int .i64 (ik2 : Int))) 38 (.int .i64 (ik3 : Int))) 55 (.bool b3)) := ⟨f, by rw [upd_self hf1, upd_self hf7, upd_self hf9, upd_self hf11, upd_self hf29, upd_self hf30, upd_self hf32, upd_self hf33, upd_self hf34, upd_self hf38, upd_self hf55]⟩
                            refine WL.nil ?_
                            obtain ⟨s7, hm12, hm10⟩ := bind_some hm10
                            refine W.via (fun f w => ∃ v20 : Value, ∃ Fx16 : (Nat → Prop), ∃ rc16 : List C1, f 1 = (.int .i64 a1) ∧ f 7 = v20 ∧ f 9 = rw1.1 ∧ f 29 = (.int .i64 a0) ∧ f 30 = (.int .i64 (ik1 : Int)) ∧ f 32 = v3 ∧ f 33 = (.int .i64 ((z2.length : Nat) : Int)) ∧ f 34 = (.int .i64 (ik2 : Int)) ∧ f 38 = (.int .i64 (ik3 : Int)) ∧ Inv w0 w [ownRI (α := Int) Fx2 v3 22 rc2 z2, ownRI (α := Int) Fx16 v20 22 rc16 s7]) ?_ ?_
                            · skip
                              rcases ite_some hm12 with ⟨hc5, hm12⟩ | ⟨hc5, hm12⟩
                              · refine W.cond_true (congrArg Value.bool hc5) ?_
                                refine W.region ?_
                                refine O.move (v := v13) rfl rfl rfl ?_
                                refine O.move (v := v19) rfl rfl rfl ?_
                                have ho1 := SliceR.one (H.own 2 rfl)
                                refine O.buildSlice (α := C1) [v19] [⟨v19, ho1⟩] Try.underlying36 el22 H rfl rfl rfl rfl (lit1_cells ho1) rfl rfl ?_
                                intro v21 w8 H hb6
                                have H := H.litOwn (α := Int) 4 2 (by decide) rfl rfl rfl
                                obtain ⟨t6, ht6, hm12⟩ := bind_some hm12
                                refine O.appendR 1 4 (by decide) Try.underlying36 el22 rfl H rfl rfl ht6 rfl rfl rfl rfl ?_
                                intro v22 w9 Fx17 rc17 H
                                refine O.assign (v := v22) rfl rfl rfl ?_
                                refine WL.nil ?_
                                have H := H.keep [0, 1] [ownRI (α := Int) Fx2 v3 22 rc2 z2, ownRI (α := Int) Fx17 v22 22 rc17 t6] rfl (by decide)
                                have hq : t6 = s7 := Option.some.inj (show some t6 = some s7 from hm12)
                                subst hq
                                exact ⟨v22, Fx17, rc17, rfl, rfl, rfl, rfl, rfl, rfl, rfl, rfl, rfl, H⟩
                              · refine W.cond_false (congrArg Value.bool hc5) ?_
                                refine W.skip ?_
                                have H := H.keep [0, 1] [ownRI (α := Int) Fx2 v3 22 rc2 z2, ownRI (α := Int) Fx12 v13 22 rc12 z8] rfl (by decide)
                                have hq : z8 = s7 := Option.some.inj (show some z8 = some s7 from hm12)
                                subst hq
                                exact ⟨v13, Fx12, rc12, rfl, rfl, rfl, rfl, rfl, rfl, rfl, rfl, rfl, H⟩
                            · skip
                              rintro f w ⟨v20, Fx16, rc16, hf1, hf7, hf9, hf29, hf30, hf32, hf33, hf34, hf38, H⟩
                              obtain ⟨u7, rfl⟩ : ∃ u7, f = (upd (upd (upd (upd (upd (upd (upd (upd (upd u7 1 (.int .i64 a1)) 7 v20) 9 rw1.1) 29 (.int .i64 a0)) 30 (.int .i64 (ik1 : Int))) 32 v3) 33 (.int .i64 ((z2.length : Nat) : Int))) 34 (.int .i64 (ik2 : Int))) 38 (.int .i64 (ik3 : Int))) := ⟨f, by rw [upd_self hf1, upd_self hf7, upd_self hf9, upd_self hf29, upd_self hf30, upd_self hf32, upd_self hf33, upd_self hf34, upd_self hf38]⟩
                              have hq : s7 = s6 := Option.some.inj (show some s7 = some s6 from hm10)
                              subst hq
                              exact ⟨v20, Fx16, rc16, rfl, rfl, rfl, rfl, rfl, rfl, rfl, rfl, rfl, H⟩
                        · skip
                          rintro f w ⟨v16, Fx15, rc15, hf1, hf7, hf9, hf29, hf30, hf32, hf33, hf34, hf38, H⟩
                          obtain ⟨u8, rfl⟩ : ∃ u8, f = (upd (upd (upd (upd (upd (upd (upd (upd (upd u8 1 (.int .i64 a1)) 7 v16) 9 rw1.1) 29 (.int .i64 a0)) 30 (.int .i64 (ik1 : Int))) 32 v3) 33 (.int .i64 ((z2.length : Nat) : Int))) 34 (.int .i64 (ik2 : Int))) 38 (.int .i64 (ik3 : Int))) := ⟨f, by rw [upd_self hf1, upd_self hf7, upd_self hf9, upd_self hf29, upd_self hf30, upd_self hf32, upd_self hf33, upd_self hf34, upd_self hf38]⟩
                          refine W.region ?_
                          refine O.add rfl rfl rfl rfl hinck3 ?_
                          refine O.move (v := .int .i64 ((ik3 : Int) + 1)) rfl rfl rfl ?_
                          refine WL.nil ?_
                          obtain rfl := Option.some.inj hm9
                          exact ⟨_, rfl, _, v16, Fx15, rc15, rfl, rangeN_next hdropk3, rfl, rfl, rfl, rfl, rfl, rfl, rfl, rfl, rfl, H⟩
                      · skip
                        rintro ik3 _ f w ⟨z8, v13, Fx12, rc12, rfl, hdropk3, hf38, hf1, hf7, hf9, hf29, hf30, hf32, hf33, hf34, H⟩ hfin
                        have hltk3 := rangeN_end hdropk3
                        obtain ⟨u9, rfl⟩ : ∃ u9, f = (upd (upd (upd (upd (upd (upd (upd (upd (upd u9 38 (.int .i64 (ik3 : Int))) 1 (.int .i64 a1)) 7 v13) 9 rw1.1) 29 (.int .i64 a0)) 30 (.int .i64 (ik1 : Int))) 32 v3) 33 (.int .i64 ((z2.length : Nat) : Int))) 34 (.int .i64 (ik2 : Int))) := ⟨f, by rw [upd_self hf38, upd_self hf1, upd_self hf7, upd_self hf9, upd_self hf29, upd_self hf30, upd_self hf32, upd_self hf33, upd_self hf34]⟩
                        refine W.seq ?_
                        refine W.region ?_
                        refine O.lss rfl rfl rfl rfl ?_
                        refine WL.nil ?_
                        refine W.seq ?_
                        refine W.cond_false (congrArg Value.bool (decide_eq_false hltk3)) ?_
                        refine W.exit ?_
                        have hq : z8 = s5 := hfin
                        subst hq
                        refine xT rfl ?_
                        exact ⟨v13, Fx12, rc12, rfl, rfl, rfl, rfl, rfl, rfl, rfl, H⟩
                    · skip
                      rintro f w ⟨v15, Fx14, rc14, hf1, hf7, hf29, hf30, hf32, hf33, hf34, H⟩
                      obtain ⟨u10, rfl⟩ : ∃ u10, f = (upd (upd (upd (upd (upd (upd (upd u10 1 (.int .i64 a1)) 7 v15) 29 (.int .i64 a0)) 30 (.int .i64 (ik1 : Int))) 32 v3) 33 (.int .i64 ((z2.length : Nat) : Int))) 34 (.int .i64 (ik2 : Int))) := ⟨f, by rw [upd_self hf1, upd_self hf7, upd_self hf29, upd_self hf30, upd_self hf32, upd_self hf33, upd_self hf34]⟩
                      have hq : s5 = s4 := Option.some.inj (show some s5 = some s4 from hm7)
                      subst hq
                      exact ⟨v15, Fx14, rc14, rfl, rfl, rfl, rfl, rfl, rfl, rfl, H⟩
                  · skip
                    rintro f w ⟨v11, Fx10, rc10, hf1, hf7, hf29, hf30, hf32, hf33, hf34, H⟩
                    obtain ⟨u11, rfl⟩ : ∃ u11, f = (upd (upd (upd (upd (upd (upd (upd u11 1 (.int .i64 a1)) 7 v11) 29 (.int .i64 a0)) 30 (.int .i64 (ik1 : Int))) 32 v3) 33 (.int .i64 ((z2.length : Nat) : Int))) 34 (.int .i64 (ik2 : Int))) := ⟨f, by rw [upd_self hf1, upd_self hf7, upd_self hf29, upd_self hf30, upd_self hf32, upd_self hf33, upd_self hf34]⟩
                    refine W.region ?_
                    refine O.add rfl rfl rfl rfl hinck2 ?_
                    refine O.move (v := .int .i64 ((ik2 : Int) + 1)) rfl rfl rfl ?_
                    refine WL.nil ?_
                    obtain rfl := Option.some.inj hm6
                    exact ⟨_, rfl, _, v11, Fx10, rc10, rfl, drop_next hdropk2, rfl, rfl, rfl, rfl, rfl, rfl, rfl, H⟩
                · skip
                  rintro ik2 _ f w ⟨z5, v8, Fx7, rc7, rfl, hdropk2, hf34, hf33, hf1, hf7, hf29, hf30, hf32, H⟩ hfin
                  have hltk2 := drop_end hdropk2
                  obtain ⟨u12, rfl⟩ : ∃ u12, f = (upd (upd (upd (upd (upd (upd (upd u12 34 (.int .i64 (ik2 : Int))) 33 (.int .i64 ((z2.length : Nat) : Int))) 1 (.int .i64 a1)) 7 v8) 29 (.int .i64 a0)) 30 (.int .i64 (ik1 : Int))) 32 v3) := ⟨f, by rw [upd_self hf34, upd_self hf33, upd_self hf1, upd_self hf7, upd_self hf29, upd_self hf30, upd_self hf32]⟩
                  refine W.seq ?_
                  refine W.region ?_
                  refine O.lss rfl rfl rfl rfl ?_
                  refine WL.nil ?_
                  refine W.seq ?_
                  refine W.cond_false (congrArg Value.bool (decide_eq_false hltk2)) ?_
                  refine W.exit ?_
                  have hq : z5 = s3 := hfin
                  subst hq
                  have H := H.keep [1] [ownRI (α := Int) Fx7 v8 22 rc7 z5] rfl (by decide)
                  refine xT rfl ?_
                  exact ⟨v8, Fx7, rc7, rfl, rfl, rfl, rfl, H⟩
              · skip
                rintro f w ⟨v10, Fx9, rc9, hf1, hf7, hf29, hf30, H⟩
                obtain ⟨u13, rfl⟩ : ∃ u13, f = (upd (upd (upd (upd u13 1 (.int .i64 a1)) 7 v10) 29 (.int .i64 a0)) 30 (.int .i64 (ik1 : Int))) := ⟨f, by rw [upd_self hf1, upd_self hf7, upd_self hf29, upd_self hf30]⟩
                refine W.region ?_
                refine O.move (v := v10) rfl rfl rfl ?_
                refine O.assign (v := v10) rfl rfl rfl ?_
                refine WL.nil ?_
                have hq : s3 = s2 := Option.some.inj (show some s3 = some s2 from hm4)
                subst hq
                exact ⟨v10, Fx9, rc9, rfl, rfl, rfl, rfl, H⟩
            · skip
              rintro f w ⟨v6, Fx5, rc5, hf1, hf6, hf29, hf30, H⟩
              obtain ⟨u14, rfl⟩ : ∃ u14, f = (upd (upd (upd (upd u14 1 (.int .i64 a1)) 6 v6) 29 (.int .i64 a0)) 30 (.int .i64 (ik1 : Int))) := ⟨f, by rw [upd_self hf1, upd_self hf6, upd_self hf29, upd_self hf30]⟩
              refine W.region ?_
              refine O.add rfl rfl rfl rfl hinck1 ?_
              refine O.move (v := .int .i64 ((ik1 : Int) + 1)) rfl rfl rfl ?_
              refine WL.nil ?_
              obtain rfl := Option.some.inj hm3
              exact ⟨_, rfl, _, v6, Fx5, rc5, rfl, rangeN_next hdropk1, rfl, rfl, rfl, rfl, H⟩
          · skip
            rintro ik1 _ f w ⟨z2, v3, Fx2, rc2, rfl, hdropk1, hf30, hf29, hf1, hf6, H⟩ hfin
            have hltk1 := rangeN_end hdropk1
            obtain ⟨u15, rfl⟩ : ∃ u15, f = (upd (upd (upd (upd u15 30 (.int .i64 (ik1 : Int))) 29 (.int .i64 a0)) 1 (.int .i64 a1)) 6 v3) := ⟨f, by rw [upd_self hf30, upd_self hf29, upd_self hf1, upd_self hf6]⟩
            refine W.seq ?_
            refine W.region ?_
            refine O.lss rfl rfl rfl rfl ?_
            refine WL.nil ?_
            refine W.seq ?_
            refine W.cond_false (congrArg Value.bool (decide_eq_false hltk1)) ?_
            refine W.exit ?_
            have hq : z2 = s1 := hfin
            subst hq
            refine xT rfl ?_
            exact ⟨v3, Fx2, rc2, rfl, H⟩
        · skip
          rintro f w ⟨v5, Fx4, rc4, hf6, H⟩
          obtain ⟨u16, rfl⟩ : ∃ u16, f = (upd u16 6 v5) := ⟨f, by rw [upd_self hf6]⟩
          refine W.seq ?_
          refine W.region ?_
          obtain ⟨t7, ht7, hm⟩ := bind_some hm
          refine O.makeSlice Try.underlying49 zel4 rfl H ht7 rfl rfl rfl rfl ?_
          intro v23 w10 H hb7
          refine O.assign (v := v23) rfl rfl rfl ?_
          refine WL.nil ?_
          refine W.seq ?_
          refine W.region ?_
          refine O.assign (v := (.int .i64 0)) rfl rfl rfl ?_
          refine WL.nil ?_
          refine W.seq ?_
          refine W.seq ?_
          refine W.region ?_
          refine O.move (v := v5) rfl rfl rfl ?_
          refine O.lenS Try.underlying36 (H.ownRd 0 rfl) rfl rfl rfl ?_
          refine O.move (v := (.int .i64 0)) rfl rfl rfl ?_
          refine WL.nil ?_
          obtain ⟨s8, hm13, hm⟩ := bind_some hm
          refine W.via (fun f w => f 13 = (.int .i64 s8) ∧ Inv w0 w []) ?_ ?_
          · skip
            refine W.block ?_
            refine W.rangeL (i := 0) hm13 (fun rem ik4 s f w => ∃ z12 : Int, ∃ z13 : (List Bool), ∃ v25 : Value, (z12, z13) = s ∧ s1.drop ik4 = rem ∧ f 67 = .int .i64 (ik4 : Int) ∧ f 66 = (.int .i64 ((s1.length : Nat) : Int)) ∧ f 12 = v25 ∧ f 13 = (.int .i64 z12) ∧ f 65 = v5 ∧ Inv w0 w [ownRI (α := Int) Fx4 v5 22 rc4 s1, ownI (α := Bool) v25 4 z13]) ?_ ?_ ?_
            · skip
              exact ⟨_, _, v23, rfl, List.drop_zero, rfl, rfl, rfl, rfl, rfl, H⟩
            · skip
              rintro yk4 xs ik4 _ st f w ⟨z12, z13, v25, rfl, hdropk4, hf67, hf66, hf12, hf13, hf65, H⟩ hm14
              have hltk4 := drop_lt hdropk4; have hixk4 := drop_idx hdropk4
              obtain ⟨u17, rfl⟩ : ∃ u17, f = (upd (upd (upd (upd (upd u17 67 (.int .i64 (ik4 : Int))) 66 (.int .i64 ((s1.length : Nat) : Int))) 12 v25) 13 (.int .i64 z12)) 65 v5) := ⟨f, by rw [upd_self hf67, upd_self hf66, upd_self hf12, upd_self hf13, upd_self hf65]⟩
              have hinck4 := addI_lt hltk4 (H.ownRd 0 rfl).len_le
              refine W.seq ?_
              refine W.region ?_
              refine O.lss rfl rfl rfl rfl ?_
              refine WL.nil ?_
              refine W.seq ?_
              refine W.cond_true (congrArg Value.bool (decide_eq_true hltk4)) ?_
              refine W.skip ?_
              refine W.seq ?_
              obtain ⟨⟨s9, s10⟩, hm15, hm14⟩ := bind_some hm14
              refine W.via (fun f w => ∃ v27 : Value, f 12 = v27 ∧ f 13 = (.int .i64 s9) ∧ f 65 = v5 ∧ f 66 = (.int .i64 ((s1.length : Nat) : Int)) ∧ f 67 = (.int .i64 (ik4 : Int)) ∧ Inv w0 w [ownRI (α := Int) Fx4 v5 22 rc4 s1, ownI (α := Bool) v27 4 s10]) ?_ ?_
              · skip
                refine W.block ?_
                refine W.seq ?_
                refine W.region ?_
                obtain ⟨rw2, hirw2, hrw2⟩ := H.rowIdx 0 rfl hixk4
                refine O.indexAddr Try.underlying36 sz22 (H.ownC 0 rfl) hirw2 rfl rfl rfl rfl ?_
                intro p2 hp2
                refine O.load sc22 rfl rfl rfl (hp2.flat 0 _ rfl) ?_
                refine O.assign (v := rw2.1) rfl rfl rfl ?_
                refine WL.nil ?_
                refine W.seq ?_
                refine W.region ?_
                refine O.move (v := rw2.1) rfl rfl rfl ?_
                obtain ⟨t8, hy3, hm15⟩ := bind_some hm15
                refine O.call Try.call35 rfl rfl rfl (c_noongunref07_means _ _ (H.elemR 0 rfl hrw2) hy3) ?_
                rintro v28 w11 hb8 ho2
                have hp2 := hp2.mono hb8
                have H := H.addOwn hb8 ho2
                obtain ⟨t9, hy4, hm15⟩ := bind_some hm15
                refine O.call Try.call46 rfl rfl rfl (c_noongunref07_number _ _ (H.own 2 rfl) hy4) ?_
                rintro _ w12 hb9 rfl
                have hp2 := hp2.mono hb9
                have H := H.ext hb9
                refine O.assign (v := (.int .i64 t9)) rfl rfl rfl ?_
                refine WL.nil ?_
                refine W.seq ?_
                refine W.region ?_
                refine O.move (v := v25) rfl rfl rfl ?_
                refine O.move (v := (.int .i64 t9)) rfl rfl rfl ?_
                obtain ⟨x1, hx1, hm15⟩ := bind_some hm15
                refine O.indexAddr Try.underlying49 sz4 (H.own 1 rfl) hx1 rfl rfl rfl rfl ?_
                intro p3 hp3
                refine O.load sc4 rfl rfl rfl (hp3.flat 0 _ rfl) ?_
                refine O.not rfl rfl rfl ?_
                refine WL.nil ?_
                obtain ⟨⟨s11, s12⟩, hm16, hm15⟩ := bind_some hm15
                refine W.via (fun f w => ∃ v29 : Value, f 12 = v29 ∧ f 13 = (.int .i64 s11) ∧ f 65 = v5 ∧ f 66 = (.int .i64 ((s1.length : Nat) : Int)) ∧ f 67 = (.int .i64 (ik4 : Int)) ∧ Inv w0 w [ownRI (α := Int) Fx4 v5 22 rc4 s1, ownI (α := Bool) v29 4 s12]) ?_ ?_
                · skip
                  rcases ite_some hm16 with ⟨hc6, hm16⟩ | ⟨hc6, hm16⟩
                  · refine W.cond_true (congrArg Value.bool hc6) ?_
                    refine W.seq ?_
                    refine W.region ?_
                    refine O.move (v := v25) rfl rfl rfl ?_
                    refine O.move (v := (.int .i64 t9)) rfl rfl rfl ?_
                    obtain ⟨x2, hx2, hm16⟩ := bind_some hm16
                    refine O.indexOwn 1 Try.underlying49 sz4 H rfl hx2 rfl rfl rfl rfl ?_
                    intro b4 hob1 hp4
                    refine O.storeOwn (α := Bool) (i0 := t9) (x0 := x2) 1 0 true [(.bool true)] sz4 H rfl hob1 hx2 rfl rfl rfl rfl rfl rfl rfl rfl (one_cons rfl one_nil) ?_
                    intro w13 H
                    clear hp2
                    clear hp3
                    clear hp4
                    refine WL.nil ?_
                    refine W.region ?_
                    refine O.move (v := (.int .i64 z12)) rfl rfl rfl ?_
                    obtain ⟨t10, ht10, hm16⟩ := bind_some hm16
                    refine O.add rfl rfl rfl rfl ht10 ?_
                    refine O.assign (v := (.int .i64 t10)) rfl rfl rfl ?_
                    refine WL.nil ?_
                    have H := H.keep [0, 1] [ownRI (α := Int) Fx4 v5 22 rc4 s1, ownI (α := Bool) v25 4 (z13.set (Int.toNat t9) true)] rfl (by decide)
                    have hq : (t10, (z13.set (Int.toNat t9) true)) = (s11, s12) := Option.some.inj (show some (t10, (z13.set (Int.toNat t9) true)) = some (s11, s12) from hm16)
                    obtain ⟨he0, hq0⟩ := Prod.mk.inj hq; clear hq; subst he0
                    subst hq0
                    exact ⟨v25, rfl, rfl, rfl, rfl, rfl, H⟩
                  · refine W.cond_false (congrArg Value.bool hc6) ?_
                    refine W.skip ?_
                    have H := H.keep [0, 1] [ownRI (α := Int) Fx4 v5 22 rc4 s1, ownI (α := Bool) v25 4 z13] rfl (by decide)
                    have hq : (z12, z13) = (s11, s12) := Option.some.inj (show some (z12, z13) = some (s11, s12) from hm16)
                    obtain ⟨he0, hq0⟩ := Prod.mk.inj hq; clear hq; subst he0
                    subst hq0
                    exact ⟨v25, rfl, rfl, rfl, rfl, rfl, H⟩
                · skip
                  rintro f w ⟨v29, hf12, hf13, hf65, hf66, hf67, H⟩
                  obtain ⟨u18, rfl⟩ : ∃ u18, f = (upd (upd (upd (upd (upd u18 12 v29) 13 (.int .i64 s11)) 65 v5) 66 (.int .i64 ((s1.length : Nat) : Int))) 67 (.int .i64 (ik4 : Int))) := ⟨f, by rw [upd_self hf12, upd_self hf13, upd_self hf65, upd_self hf66, upd_self hf67]⟩
                  have hq : (s11, s12) = (s9, s10) := Option.some.inj (show some (s11, s12) = some (s9, s10) from hm15)
                  obtain ⟨he0, hq0⟩ := Prod.mk.inj hq; clear hq; subst he0
                  subst hq0
                  exact ⟨v29, rfl, rfl, rfl, rfl, rfl, H⟩
              · skip
                rintro f w ⟨v27, hf12, hf13, hf65, hf66, hf67, H⟩
                obtain ⟨u19, rfl⟩ : ∃ u19, f = (upd (upd (upd (upd (upd u19 12 v27) 13 (.int .i64 s9)) 65 v5) 66 (.int .i64 ((s1.length : Nat) : Int))) 67 (.int .i64 (ik4 : Int))) := ⟨f, by rw [upd_self hf12, upd_self hf13, upd_self hf65, upd_self hf66, upd_self hf67]⟩
                refine W.region ?_
                refine O.add rfl rfl rfl rfl hinck4 ?_
                refine O.move (v := .int .i64 ((ik4 : Int) + 1)) rfl rfl rfl ?_
                refine WL.nil ?_
                obtain rfl := Option.some.inj hm14
                exact ⟨_, rfl, _, _, v27, rfl, drop_next hdropk4, rfl, rfl, rfl, rfl, rfl, H⟩
            · skip
              rintro ik4 _ f w ⟨z12, z13, v25, rfl, hdropk4, hf67, hf66, hf12, hf13, hf65, H⟩ hfin
              have hltk4 := drop_end hdropk4
              obtain ⟨u20, rfl⟩ : ∃ u20, f = (upd (upd (upd (upd (upd u20 67 (.int .i64 (ik4 : Int))) 66 (.int .i64 ((s1.length : Nat) : Int))) 12 v25) 13 (.int .i64 z12)) 65 v5) := ⟨f, by rw [upd_self hf67, upd_self hf66, upd_self hf12, upd_self hf13, upd_self hf65]⟩
              refine W.seq ?_
              refine W.region ?_
              refine O.lss rfl rfl rfl rfl ?_
              refine WL.nil ?_
              refine W.seq ?_
              refine W.cond_false (congrArg Value.bool (decide_eq_false hltk4)) ?_
              refine W.exit ?_
              have hq : z12 = s8 := hfin
              subst hq
              have H := H.keep [] [] rfl (by decide)
              refine xT rfl ?_
              exact ⟨rfl, H⟩
          · skip
            rintro f w ⟨hf13, H⟩
            obtain ⟨u21, rfl⟩ : ∃ u21, f = (upd u21 13 (.int .i64 s8)) := ⟨f, by rw [upd_self hf13]⟩
            refine W.seq ?_
            refine W.region ?_
            refine O.move (v := (.int .i64 s8)) rfl rfl rfl ?_
            refine O.assign (v := (.int .i64 s8)) rfl rfl rfl ?_
            refine O.assign (v := (.int .i64 0)) rfl rfl rfl ?_
            refine WL.nil ?_
            refine W.ret ?_
            have hq : (s8, 0) = (r0, r1) := Option.some.inj (show some (s8, 0) = some (r0, r1) from hm)
            obtain ⟨he0, hq0⟩ := Prod.mk.inj hq; clear hq; subst he0
            subst hq0
            exact ends2 Try.results24 rfl rfl ⟨_, rfl, H.base, rfl⟩

set_option maxRecDepth 20000 in
theorem c_noongunlaw07_FlagCan {w0 : World} (a0 : Int) (a1 : Int) {r0 : Bool} (hm : noongunlaw07_FlagCan a0 a1 = some r0) :
    Calls Try.prog 5 #[(.int .i64 a0), (.int .i64 a1)] w0 (Ret w0 fun _ v => v = (.bool r0)) := by
  unfold noongunlaw07_FlagCan at hm
  refine calls_of_W Try.func5 rfl Try.ntmps5 (Nat.le_of_ble_eq_true rfl) ?_
  have H := Inv.start (w := w0)
  refine W.seq ?_
  refine W.region ?_
  refine O.assign (v := (.bool false)) rfl rfl rfl ?_
  refine WL.nil ?_
  refine W.seq ?_
  refine W.region ?_
  refine O.move (v := (.int .i64 a0)) rfl rfl rfl ?_
  refine O.move (v := (.int .i64 a1)) rfl rfl rfl ?_
  obtain ⟨⟨t1, t2⟩, hy1, hm⟩ := bind_some hm
  refine O.call Try.call23 rfl rfl rfl (c_flag_Can _ _ hy1) ?_
  rintro _ w1 hb1 rfl
  have H := H.ext hb1
  refine O.move (v := (.tuple #[(.int .i64 t1), (.int .i64 t2)])) rfl rfl rfl ?_
  refine O.extract (v := (.int .i64 t1)) rfl rfl rfl rfl ?_
  refine O.extract (v := (.int .i64 t2)) rfl rfl rfl rfl ?_
  refine O.assign (v := (.int .i64 t1)) rfl rfl rfl ?_
  refine O.assign (v := (.int .i64 t2)) rfl rfl rfl ?_
  refine WL.nil ?_
  refine W.seq ?_
  refine W.region ?_
  refine O.move (v := (.int .i64 a0)) rfl rfl rfl ?_
  refine O.move (v := (.int .i64 a1)) rfl rfl rfl ?_
  obtain ⟨⟨t3, t4⟩, hy2, hm⟩ := bind_some hm
  refine O.call Try.call24 rfl rfl rfl (c_noongunref07_Can _ _ hy2) ?_
  rintro _ w2 hb2 rfl
  have H := H.ext hb2
  refine O.move (v := (.tuple #[(.int .i64 t3), (.int .i64 t4)])) rfl rfl rfl ?_
  refine O.extract (v := (.int .i64 t3)) rfl rfl rfl rfl ?_
  refine O.extract (v := (.int .i64 t4)) rfl rfl rfl rfl ?_
  refine O.assign (v := (.int .i64 t3)) rfl rfl rfl ?_
  refine O.assign (v := (.int .i64 t4)) rfl rfl rfl ?_
  refine WL.nil ?_
  refine W.seq ?_
  refine W.seq ?_
  refine W.region ?_
  refine O.move (v := (.int .i64 t1)) rfl rfl rfl ?_
  refine O.move (v := (.int .i64 t3)) rfl rfl rfl ?_
  refine O.neq rfl rfl rfl rfl ?_
  refine O.move (v := (.bool (t1 != t3))) rfl rfl rfl ?_
  refine WL.cut 4 (fun f w => f 0 = (.int .i64 a0) ∧ f 6 = (.int .i64 t2) ∧ f 31 = .bool ((t1 != t3) || (t2 != t4)) ∧ Inv w0 w []) ?_ ?_
  · skip
    rcases bool_ft (t1 != t3) with hc1 | hc1
    · skip
      refine WL.reset (i := 27) (v := .bool false) (congrArg Value.bool hc1) ?_
      refine O.move (v := (.int .i64 t2)) rfl rfl rfl ?_
      refine O.move (v := (.int .i64 t4)) rfl rfl rfl ?_
      refine O.neq rfl rfl rfl rfl ?_
      refine O.pick_false (v := (.bool (t2 != t4))) rfl rfl rfl rfl ?_
      refine WL.nil ?_
      exact ⟨rfl, rfl, congrArg Value.bool (or_f hc1), H⟩
    · skip
      refine WL.reset (i := 27) (v := .bool true) (congrArg Value.bool hc1) ?_
      refine O.skip rfl rfl ?_
      refine O.skip rfl rfl ?_
      refine O.skip rfl rfl ?_
      refine O.pick_true (v := (.bool true)) rfl rfl rfl rfl ?_
      refine WL.nil ?_
      exact ⟨rfl, rfl, congrArg Value.bool (or_t hc1), H⟩
  · skip
    rintro f w ⟨hf0, hf6, hf31, H⟩
    obtain ⟨u1, rfl⟩ : ∃ u1, f = (upd (upd (upd u1 0 (.int .i64 a0)) 6 (.int .i64 t2)) 31 (.bool ((t1 != t3) || (t2 != t4)))) := ⟨f, by rw [upd_self hf0, upd_self hf6, upd_self hf31]⟩
    refine WL.nil ?_
    rcases ite_some hm with ⟨hc2, hm⟩ | ⟨hc2, hm⟩
    · refine W.cond_true (congrArg Value.bool hc2) ?_
      refine W.seq ?_
      refine W.region ?_
      refine O.assign (v := (.bool false)) rfl rfl rfl ?_
      refine WL.nil ?_
      refine W.ret ?_
      have hq : false = r0 := Option.some.inj (show some false = some r0 from hm)
      subst hq
      exact ends1 Try.results5 rfl ⟨_, rfl, H.base, rfl⟩
    · refine W.cond_false (congrArg Value.bool hc2) ?_
      refine W.skip ?_
      refine W.seq ?_
      refine W.seq ?_
      refine W.region ?_
      refine O.move (v := (.int .i64 a0)) rfl rfl rfl ?_
      refine O.lss rfl rfl rfl rfl ?_
      refine O.move (v := (.bool (decide (a0 < 1)))) rfl rfl rfl ?_
      refine WL.cut 3 (fun f w => f 0 = (.int .i64 a0) ∧ f 6 = (.int .i64 t2) ∧ f 37 = .bool ((decide (a0 < 1)) || (decide (4 < a0))) ∧ Inv w0 w []) ?_ ?_
      · skip
        rcases bool_ft (decide (a0 < 1)) with hc3 | hc3
        · skip
          refine WL.reset (i := 34) (v := .bool false) (congrArg Value.bool hc3) ?_
          refine O.move (v := (.int .i64 a0)) rfl rfl rfl ?_
          refine O.gtr rfl rfl rfl rfl ?_
          refine O.pick_false (v := (.bool (decide (4 < a0)))) rfl rfl rfl rfl ?_
          refine WL.nil ?_
          exact ⟨rfl, rfl, congrArg Value.bool (or_f hc3), H⟩
        · skip
          refine WL.reset (i := 34) (v := .bool true) (congrArg Value.bool hc3) ?_
          refine O.skip rfl rfl ?_
          refine O.skip rfl rfl ?_
          refine O.pick_true (v := (.bool true)) rfl rfl rfl rfl ?_
          refine WL.nil ?_
          exact ⟨rfl, rfl, congrArg Value.bool (or_t hc3), H⟩
      · skip
        rintro f w ⟨hf0, hf6, hf37, H⟩
        obtain ⟨u2, rfl⟩ : ∃ u2, f = (upd (upd (upd u2 0 (.int .i64 a0)) 6 (.int .i64 t2)) 37 (.bool ((decide (a0 < 1)) || (decide (4 < a0))))) := ⟨f, by rw [upd_self hf0, upd_self hf6, upd_self hf37]⟩
        refine WL.nil ?_
        rcases ite_some hm with ⟨hc4, hm⟩ | ⟨hc4, hm⟩
        · refine W.cond_true (congrArg Value.bool hc4) ?_
          refine W.seq ?_
          refine W.region ?_
          refine O.move (v := (.int .i64 t2)) rfl rfl rfl ?_
          refine O.eql rfl rfl rfl rfl ?_
          refine O.move (v := (.bool (t2 == 7))) rfl rfl rfl ?_
          obtain ⟨b1, hm1, hm⟩ := bind_some hm
          refine WL.cut 2 (fun f w => f 42 = .bool b1 ∧ Inv w0 w []) ?_ ?_
          · skip
            rcases ite_some hm1 with ⟨hc5, hm1⟩ | ⟨hc5, hm1⟩
            · skip
              refine WL.reset (i := 40) (v := .bool true) (congrArg Value.bool hc5) ?_
              obtain ⟨t5, hy3, hm1⟩ := bind_some hm1
              refine O.call Try.call9 rfl rfl rfl (c_noongunlaw07_awake  hy3) ?_
              rintro _ w3 hb3 rfl
              have H := H.ext hb3
              refine O.pick_true (v := (.bool t5)) rfl rfl rfl rfl ?_
              refine WL.nil ?_
              have hq : t5 = b1 := Option.some.inj (show some t5 = some b1 from hm1)
              subst hq
              exact ⟨rfl, H⟩
            · skip
              refine WL.reset (i := 40) (v := .bool false) (congrArg Value.bool hc5) ?_
              refine O.skip rfl rfl ?_
              refine O.pick_false (v := (.bool false)) rfl rfl rfl rfl ?_
              refine WL.nil ?_
              have hq : false = b1 := Option.some.inj (show some false = some b1 from hm1)
              subst hq
              exact ⟨rfl, H⟩
          · skip
            rintro f w ⟨hf42, H⟩
            obtain ⟨u3, rfl⟩ : ∃ u3, f = (upd u3 42 (.bool b1)) := ⟨f, by rw [upd_self hf42]⟩
            refine O.assign (v := (.bool b1)) rfl rfl rfl ?_
            refine WL.nil ?_
            refine W.ret ?_
            have hq : b1 = r0 := Option.some.inj (show some b1 = some r0 from hm)
            subst hq
            exact ends1 Try.results5 rfl ⟨_, rfl, H.base, rfl⟩
        · refine W.cond_false (congrArg Value.bool hc4) ?_
          refine W.skip ?_
          refine W.seq ?_
          refine W.region ?_
          refine O.move (v := (.int .i64 a0)) rfl rfl rfl ?_
          obtain ⟨⟨t6, t7⟩, hy4, hm⟩ := bind_some hm
          refine O.call Try.call23 rfl rfl rfl (c_flag_Can _ _ hy4) ?_
          rintro _ w4 hb4 rfl
          have H := H.ext hb4
          refine O.move (v := (.tuple #[(.int .i64 t6), (.int .i64 t7)])) rfl rfl rfl ?_
          refine O.extract (v := (.int .i64 t6)) rfl rfl rfl rfl ?_
          refine O.extract (v := (.int .i64 t7)) rfl rfl rfl rfl ?_
          refine O.assign (v := (.int .i64 t6)) rfl rfl rfl ?_
          refine O.assign (v := (.int .i64 t7)) rfl rfl rfl ?_
          refine WL.nil ?_
          refine W.seq ?_
          refine W.region ?_
          refine O.assign (v := (.int .i64 1)) rfl rfl rfl ?_
          refine WL.nil ?_
          refine W.seq ?_
          refine W.seq ?_
          refine W.region ?_
          refine O.move (v := (.int .i64 a0)) rfl rfl rfl ?_
          refine O.move (v := (.int .i64 0)) rfl rfl rfl ?_
          refine WL.nil ?_
          obtain ⟨s1, hm2, hm⟩ := bind_some hm
          refine W.via (fun f w => f 9 = (.int .i64 t6) ∧ f 10 = (.int .i64 t7) ∧ f 11 = (.int .i64 s1) ∧ Inv w0 w []) ?_ ?_
          · skip
            refine W.block ?_
            obtain ⟨hbdik1, hm2⟩ := chk_some hm2
            refine W.rangeN (i := 0) hm2 (fun rem ik1 s f w => ∃ z2 : Int, z2 = s ∧ (ik1 : Int) + rem = max 0 a0 ∧ f 49 = .int .i64 (ik1 : Int) ∧ f 48 = (.int .i64 a0) ∧ f 9 = (.int .i64 t6) ∧ f 10 = (.int .i64 t7) ∧ f 11 = (.int .i64 z2) ∧ Inv w0 w []) ?_ ?_ ?_
            · skip
              exact ⟨_, rfl, rangeN_start, rfl, rfl, rfl, rfl, rfl, H⟩
            · skip
              rintro k ik1 _ st f w ⟨z2, rfl, hdropk1, hf49, hf48, hf9, hf10, hf11, H⟩ hm3
              have hltk1 := rangeN_lt hdropk1
              obtain ⟨u4, rfl⟩ : ∃ u4, f = (upd (upd (upd (upd (upd u4 49 (.int .i64 (ik1 : Int))) 48 (.int .i64 a0)) 9 (.int .i64 t6)) 10 (.int .i64 t7)) 11 (.int .i64 z2)) := ⟨f, by rw [upd_self hf49, upd_self hf48, upd_self hf9, upd_self hf10, upd_self hf11]⟩
              have hinck1 := addI_lt hltk1 (inI_iff.1 hbdik1).2
              refine W.seq ?_
              refine W.region ?_
              refine O.lss rfl rfl rfl rfl ?_
              refine WL.nil ?_
              refine W.seq ?_
              refine W.cond_true (congrArg Value.bool (decide_eq_true hltk1)) ?_
              refine W.skip ?_
              refine W.seq ?_
              refine W.block ?_
              refine W.region ?_
              refine O.move (v := (.int .i64 z2)) rfl rfl rfl ?_
              obtain ⟨t8, ht8, hm3⟩ := bind_some hm3
              refine O.mul rfl rfl rfl rfl ht8 ?_
              refine O.assign (v := (.int .i64 t8)) rfl rfl rfl ?_
              refine WL.nil ?_
              refine W.region ?_
              refine O.add rfl rfl rfl rfl hinck1 ?_
              refine O.move (v := .int .i64 ((ik1 : Int) + 1)) rfl rfl rfl ?_
              refine WL.nil ?_
              obtain rfl := Option.some.inj hm3
              exact ⟨_, rfl, _, rfl, rangeN_next hdropk1, rfl, rfl, rfl, rfl, rfl, H⟩
            · skip
              rintro ik1 _ f w ⟨z2, rfl, hdropk1, hf49, hf48, hf9, hf10, hf11, H⟩ hfin
              have hltk1 := rangeN_end hdropk1
              obtain ⟨u5, rfl⟩ : ∃ u5, f = (upd (upd (upd (upd (upd u5 49 (.int .i64 (ik1 : Int))) 48 (.int .i64 a0)) 9 (.int .i64 t6)) 10 (.int .i64 t7)) 11 (.int .i64 z2)) := ⟨f, by rw [upd_self hf49, upd_self hf48, upd_self hf9, upd_self hf10, upd_self hf11]⟩
              refine W.seq ?_
              refine W.region ?_
              refine O.lss rfl rfl rfl rfl ?_
              refine WL.nil ?_
              refine W.seq ?_
              refine W.cond_false (congrArg Value.bool (decide_eq_false hltk1)) ?_
              refine W.exit ?_
              have hq : z2 = s1 := hfin
              subst hq
              refine xT rfl ?_
              exact ⟨rfl, rfl, rfl, H⟩
          · skip
            rintro f w ⟨hf9, hf10, hf11, H⟩
            obtain ⟨u6, rfl⟩ : ∃ u6, f = (upd (upd (upd u6 9 (.int .i64 t6)) 10 (.int .i64 t7)) 11 (.int .i64 s1)) := ⟨f, by rw [upd_self hf9, upd_self hf10, upd_self hf11]⟩
            refine W.seq ?_
            refine W.region ?_
            refine O.move (v := (.int .i64 t7)) rfl rfl rfl ?_
            refine O.eql rfl rfl rfl rfl ?_
            refine O.move (v := (.bool (t7 == 0))) rfl rfl rfl ?_
            refine WL.cut 4 (fun f w => f 60 = .bool ((t7 == 0) && (t6 == s1)) ∧ Inv w0 w []) ?_ ?_
            · skip
              rcases bool_ft (t7 == 0) with hc6 | hc6
              · skip
                refine WL.reset (i := 56) (v := .bool false) (congrArg Value.bool hc6) ?_
                refine O.skip rfl rfl ?_
                refine O.skip rfl rfl ?_
                refine O.skip rfl rfl ?_
                refine O.pick_false (v := (.bool false)) rfl rfl rfl rfl ?_
                refine WL.nil ?_
                exact ⟨congrArg Value.bool (and_f hc6), H⟩
              · skip
                refine WL.reset (i := 56) (v := .bool true) (congrArg Value.bool hc6) ?_
                refine O.move (v := (.int .i64 t6)) rfl rfl rfl ?_
                refine O.move (v := (.int .i64 s1)) rfl rfl rfl ?_
                refine O.eql rfl rfl rfl rfl ?_
                refine O.pick_true (v := (.bool (t6 == s1))) rfl rfl rfl rfl ?_
                refine WL.nil ?_
                exact ⟨congrArg Value.bool (and_t hc6), H⟩
            · skip
              rintro f w ⟨hf60, H⟩
              obtain ⟨u7, rfl⟩ : ∃ u7, f = (upd u7 60 (.bool ((t7 == 0) && (t6 == s1)))) := ⟨f, by rw [upd_self hf60]⟩
              refine O.move (v := (.bool ((t7 == 0) && (t6 == s1)))) rfl rfl rfl ?_
              obtain ⟨b2, hm4, hm⟩ := bind_some hm
              refine WL.cut 2 (fun f w => f 63 = .bool b2 ∧ Inv w0 w []) ?_ ?_
              · skip
                rcases ite_some hm4 with ⟨hc7, hm4⟩ | ⟨hc7, hm4⟩
                · skip
                  refine WL.reset (i := 61) (v := .bool true) (congrArg Value.bool hc7) ?_
                  obtain ⟨t9, hy5, hm4⟩ := bind_some hm4
                  refine O.call Try.call9 rfl rfl rfl (c_noongunlaw07_awake  hy5) ?_
                  rintro _ w5 hb5 rfl
                  have H := H.ext hb5
                  refine O.pick_true (v := (.bool t9)) rfl rfl rfl rfl ?_
                  refine WL.nil ?_
                  have hq : t9 = b2 := Option.some.inj (show some t9 = some b2 from hm4)
                  subst hq
                  exact ⟨rfl, H⟩
                · skip
                  refine WL.reset (i := 61) (v := .bool false) (congrArg Value.bool hc7) ?_
                  refine O.skip rfl rfl ?_
                  refine O.pick_false (v := (.bool false)) rfl rfl rfl rfl ?_
                  refine WL.nil ?_
                  have hq : false = b2 := Option.some.inj (show some false = some b2 from hm4)
                  subst hq
                  exact ⟨rfl, H⟩
              · skip
                rintro f w ⟨hf63, H⟩
                obtain ⟨u8, rfl⟩ : ∃ u8, f = (upd u8 63 (.bool b2)) := ⟨f, by rw [upd_self hf63]⟩
                refine O.assign (v := (.bool b2)) rfl rfl rfl ?_
                refine WL.nil ?_
                refine W.ret ?_
                have hq : b2 = r0 := Option.some.inj (show some b2 = some r0 from hm)
                subst hq
                exact ends1 Try.results5 rfl ⟨_, rfl, H.base, rfl⟩

set_option maxRecDepth 20000 in
theorem c_noongunref07_Hoist {w0 : World} (va0 : Value) (a0 : (List Int)) (ha0 : SliceR w0 va0 a0) {r0 : (List Int)} {r1 : Int} (hm : noongunref07_Hoist a0 = some (r0, r1)) :
    Calls Try.prog 26 #[va0] w0 (Ret w0 fun w v => ∃ vr0 : Value, v = .tuple #[vr0, (.int .i64 r1)] ∧ OwnR w0 w vr0 3 r0) := by
  unfold noongunref07_Hoist at hm
  refine calls_of_W Try.func26 rfl Try.ntmps26 (Nat.le_of_ble_eq_true rfl) ?_
  have H := Inv.start (w := w0)
  refine W.seq ?_
  refine W.region ?_
  have H := H.addNil (α := Int) (E := 3)
  refine O.assign (v := (.slice none 0 0)) rfl rfl rfl ?_
  refine O.assign (v := (.int .i64 0)) rfl rfl rfl ?_
  refine WL.nil ?_
  refine W.seq ?_
  refine W.seq ?_
  refine W.region ?_
  refine O.move (v := va0) rfl rfl rfl ?_
  obtain ⟨t1, hy1, hm⟩ := bind_some hm
  refine O.call Try.call15 rfl rfl rfl (c_noongunref07_ValidDigits _ _ (H.arg ha0) hy1) ?_
  rintro _ w1 hb1 rfl
  have H := H.ext hb1
  refine O.not rfl rfl rfl ?_
  refine WL.nil ?_
  rcases ite_some hm with ⟨hc1, hm⟩ | ⟨hc1, hm⟩
  · refine W.cond_true (congrArg Value.bool hc1) ?_
    refine W.seq ?_
    refine W.region ?_
    have H := H.addNil (α := Int) (E := 3)
    refine O.assign (v := (.slice none 0 0)) rfl rfl rfl ?_
    refine O.assign (v := (.int .i64 1)) rfl rfl rfl ?_
    refine WL.nil ?_
    refine W.ret ?_
    have hq : (([] : List Int), 1) = (r0, r1) := Option.some.inj (show some (([] : List Int), 1) = some (r0, r1) from hm)
    obtain ⟨he0, hq0⟩ := Prod.mk.inj hq; clear hq; subst he0
    subst hq0
    exact ends2 Try.results26 rfl rfl ⟨_, rfl, H.base, ⟨_, rfl, H.ownR 1 rfl⟩⟩
  · refine W.cond_false (congrArg Value.bool hc1) ?_
    refine W.skip ?_
    refine W.seq ?_
    refine W.region ?_
    have H := H.addNil (α := Int) (E := 3)
    refine O.assign (v := (.slice none 0 0)) rfl rfl rfl ?_
    refine WL.nil ?_
    refine W.seq ?_
    refine W.seq ?_
    refine W.region ?_
    refine O.move (v := va0) rfl rfl rfl ?_
    refine O.lenS Try.underlying22 (H.arg ha0) rfl rfl rfl ?_
    refine O.move (v := (.int .i64 0)) rfl rfl rfl ?_
    refine WL.nil ?_
    obtain ⟨s1, hm1, hm⟩ := bind_some hm
    refine W.via (fun f w => ∃ v4 : Value, f 4 = v4 ∧ Inv w0 w [ownI (α := Int) v4 3 s1]) ?_ ?_
    · skip
      refine W.block ?_
      have H := H.keep [1] [ownI (α := Int) (.slice none 0 0) 3 ([] : List Int)] rfl (by decide)
      refine W.rangeL (i := 0) hm1 (fun rem ik1 s f w => ∃ z2 : (List Int), ∃ v2 : Value, z2 = s ∧ a0.drop ik1 = rem ∧ f 15 = .int .i64 (ik1 : Int) ∧ f 14 = (.int .i64 ((a0.length : Nat) : Int)) ∧ f 4 = v2 ∧ f 13 = va0 ∧ Inv w0 w [ownI (α := Int) v2 3 z2]) ?_ ?_ ?_
      · skip
        exact ⟨_, (.slice none 0 0), rfl, List.drop_zero, rfl, rfl, rfl, rfl, H⟩
      · skip
        rintro yk1 xs ik1 _ st f w ⟨z2, v2, rfl, hdropk1, hf15, hf14, hf4, hf13, H⟩ hm2
        have hltk1 := drop_lt hdropk1; have hixk1 := drop_idx hdropk1
        obtain ⟨u1, rfl⟩ : ∃ u1, f = (upd (upd (upd (upd u1 15 (.int .i64 (ik1 : Int))) 14 (.int .i64 ((a0.length : Nat) : Int))) 4 v2) 13 va0) := ⟨f, by rw [upd_self hf15, upd_self hf14, upd_self hf4, upd_self hf13]⟩
        have hinck1 := addI_lt hltk1 (H.arg ha0).len_le
        refine W.seq ?_
        refine W.region ?_
        refine O.lss rfl rfl rfl rfl ?_
        refine WL.nil ?_
        refine W.seq ?_
        refine W.cond_true (congrArg Value.bool (decide_eq_true hltk1)) ?_
        refine W.skip ?_
        refine W.seq ?_
        obtain ⟨s2, hm3, hm2⟩ := bind_some hm2
        refine W.via (fun f w => ∃ v5 : Value, f 4 = v5 ∧ f 13 = va0 ∧ f 14 = (.int .i64 ((a0.length : Nat) : Int)) ∧ f 15 = (.int .i64 (ik1 : Int)) ∧ Inv w0 w [ownI (α := Int) v5 3 s2]) ?_ ?_
        · skip
          refine W.block ?_
          refine W.seq ?_
          refine W.region ?_
          obtain ⟨p1, hp1, hrp1⟩ := fix_indexAddr Try.underlying22 sz3 ha0 hixk1
          refine hrp1 rfl rfl rfl rfl ?_
          refine O.load sc3 rfl rfl rfl ((hp1.mono H.base).flat 0 _ rfl) ?_
          refine O.assign (v := (.int .i64 yk1)) rfl rfl rfl ?_
          refine WL.nil ?_
          refine W.seq ?_
          refine W.region ?_
          refine O.move (v := (.int .i64 yk1)) rfl rfl rfl ?_
          refine O.buildSlice (α := Int) [(.int .i64 yk1), (.int .i64 10), (.int .i64 11), (.int .i64 12)] [yk1, 10, 11, 12] Try.underlying22 el3 H rfl rfl rfl rfl rfl rfl rfl ?_
          intro v6 w2 H hb2
          refine O.lenS Try.underlying22 (H.own 1 rfl) rfl rfl rfl ?_
          refine O.move (v := (.int .i64 0)) rfl rfl rfl ?_
          refine WL.nil ?_
          obtain ⟨s3, hm4, hm3⟩ := bind_some hm3
          refine W.via (fun f w => ∃ v7 : Value, f 4 = v7 ∧ f 13 = va0 ∧ f 14 = (.int .i64 ((a0.length : Nat) : Int)) ∧ f 15 = (.int .i64 (ik1 : Int)) ∧ Inv w0 w [ownI (α := Int) v7 3 s3]) ?_ ?_
          · skip
            refine W.block ?_
            refine W.rangeL (i := 0) hm4 (fun rem ik2 s f w => () = s ∧ ([yk1, 10, 11, 12] : List Int).drop ik2 = rem ∧ f 22 = .int .i64 (ik2 : Int) ∧ f 21 = (.int .i64 ((([yk1, 10, 11, 12] : List Int).length : Nat) : Int)) ∧ f 4 = v2 ∧ f 6 = (.int .i64 yk1) ∧ f 13 = va0 ∧ f 14 = (.int .i64 ((a0.length : Nat) : Int)) ∧ f 15 = (.int .i64 (ik1 : Int)) ∧ f 20 = v6 ∧ Inv w0 w [ownI (α := Int) v2 3 z2, ownI (α := Int) v6 3 ([yk1, 10, 11, 12] : List Int)]) ?_ ?_ ?_
            · skip
              exact ⟨rfl, List.drop_zero, rfl, rfl, rfl, rfl, rfl, rfl, rfl, rfl, H⟩
            · skip
              rintro yk2 xs ik2 _ st f w ⟨rfl, hdropk2, hf22, hf21, hf4, hf6, hf13, hf14, hf15, hf20, H⟩ hm5
              have hltk2 := drop_lt hdropk2; have hixk2 := drop_idx hdropk2
              obtain ⟨u2, rfl⟩ : ∃ u2, f = (upd (upd (upd (upd (upd (upd (upd (upd u2 22 (.int .i64 (ik2 : Int))) 21 (.int .i64 ((([yk1, 10, 11, 12] : List Int).length : Nat) : Int))) 4 v2) 6 (.int .i64 yk1)) 13 va0) 14 (.int .i64 ((a0.length : Nat) : Int))) 15 (.int .i64 (ik1 : Int))) 20 v6) := ⟨f, by rw [upd_self hf22, upd_self hf21, upd_self hf4, upd_self hf6, upd_self hf13, upd_self hf14, upd_self hf15, upd_self hf20]⟩
              have hinck2 := addI_lt hltk2 (H.own 1 rfl).len_le
              refine W.seq ?_
              refine W.region ?_
              refine O.lss rfl rfl rfl rfl ?_
              refine WL.nil ?_
              refine W.seq ?_
              refine W.cond_true (congrArg Value.bool (decide_eq_true hltk2)) ?_
              refine W.skip ?_
              refine W.seq ?_
              refine W.block ?_
              refine W.seq ?_
              refine W.region ?_
              refine O.indexAddr Try.underlying22 sz3 (H.own 1 rfl) hixk2 rfl rfl rfl rfl ?_
              intro p2 hp2
              refine O.load sc3 rfl rfl rfl (hp2.flat 0 _ rfl) ?_
              refine O.assign (v := (.int .i64 yk2)) rfl rfl rfl ?_
              refine WL.nil ?_
              refine W.seq ?_
              refine W.region ?_
              refine O.buildEmpty (α := Int) Try.underlying22 el3 H rfl rfl ?_
              intro b1 w3 H hb3
              have hp2 := hp2.mono hb3
              refine O.move (v := v2) rfl rfl rfl ?_
              obtain ⟨t2, ht2, hm5⟩ := bind_some hm5
              refine O.append 2 Try.underlying22 el3 rfl H rfl (H.own 0 rfl) ht2 rfl rfl rfl rfl ?_
              intro v8 w4 H
              clear hp2
              refine O.move (v := (.int .i64 yk2)) rfl rfl rfl ?_
              refine O.buildSlice (α := Int) [(.int .i64 yk2)] [yk2] Try.underlying22 el3 H rfl rfl rfl rfl rfl rfl rfl ?_
              intro v9 w5 H hb4
              obtain ⟨t3, ht3, hm5⟩ := bind_some hm5
              refine O.append 2 Try.underlying22 el3 rfl H rfl (H.own 3 rfl) ht3 rfl rfl rfl rfl ?_
              intro v10 w6 H
              refine O.assign (v := v10) rfl rfl rfl ?_
              refine WL.nil ?_
              refine W.seq ?_
              refine W.region ?_
              refine O.move (v := v10) rfl rfl rfl ?_
              obtain ⟨t4, hy2, hm5⟩ := bind_some hm5
              refine O.call Try.call17 rfl rfl rfl (c_noongunref07_ValidHoist _ _ (H.own 2 rfl) hy2) ?_
              rintro _ w7 hb5 rfl
              have H := H.ext hb5
              refine O.move (v := (.bool t4)) rfl rfl rfl ?_
              obtain ⟨b2, hm6, hm5⟩ := bind_some hm5
              refine WL.cut 10 (fun f w => f 4 = v2 ∧ f 6 = (.int .i64 yk1) ∧ f 9 = v10 ∧ f 13 = va0 ∧ f 14 = (.int .i64 ((a0.length : Nat) : Int)) ∧ f 15 = (.int .i64 (ik1 : Int)) ∧ f 20 = v6 ∧ f 21 = (.int .i64 ((([yk1, 10, 11, 12] : List Int).length : Nat) : Int)) ∧ f 22 = (.int .i64 (ik2 : Int)) ∧ f 44 = .bool b2 ∧ Inv w0 w [ownI (α := Int) v2 3 z2, ownI (α := Int) v6 3 ([yk1, 10, 11, 12] : List Int), ownI (α := Int) v10 3 t3, ownI (α := Int) v9 3 ([yk2] : List Int)]) ?_ ?_
              · skip
                rcases ite_some hm6 with ⟨hc2, hm6⟩ | ⟨hc2, hm6⟩
                · skip
                  refine WL.reset (i := 34) (v := .bool true) (congrArg Value.bool hc2) ?_
                  refine O.move (v := v10) rfl rfl rfl ?_
                  obtain ⟨t5, hy3, hm6⟩ := bind_some hm6
                  refine O.call Try.call35 rfl rfl rfl (c_noongunref07_means _ _ (H.own 2 rfl) hy3) ?_
                  rintro v11 w8 hb6 ho1
                  have H := H.addOwn hb6 ho1
                  refine O.move (v := v10) rfl rfl rfl ?_
                  refine O.lenS Try.underlying22 (H.own 2 rfl) rfl rfl rfl ?_
                  obtain ⟨t6, ht6, hm6⟩ := bind_some hm6
                  refine O.sub rfl rfl rfl rfl ht6 ?_
                  obtain ⟨x1, hx1, hm6⟩ := bind_some hm6
                  refine O.indexAddr Try.underlying22 sz3 (H.own 4 rfl) hx1 rfl rfl rfl rfl ?_
                  intro p3 hp3
                  refine O.load sc3 rfl rfl rfl (hp3.flat 0 _ rfl) ?_
                  refine O.move (v := (.int .i64 yk1)) rfl rfl rfl ?_
                  refine O.eql rfl rfl rfl rfl ?_
                  refine O.pick_true (v := (.bool (x1 == yk1))) rfl rfl rfl rfl ?_
                  refine WL.nil ?_
                  have H := H.keep [0, 1, 2, 3] [ownI (α := Int) v2 3 z2, ownI (α := Int) v6 3 ([yk1, 10, 11, 12] : List Int), ownI (α := Int) v10 3 t3, ownI (α := Int) v9 3 ([yk2] : List Int)] rfl (by decide)
                  have hq : (x1 == yk1) = b2 := Option.some.inj (show some (x1 == yk1) = some b2 from hm6)
                  subst hq
                  exact ⟨rfl, rfl, rfl, rfl, rfl, rfl, rfl, rfl, rfl, rfl, H⟩
                · skip
                  refine WL.reset (i := 34) (v := .bool false) (congrArg Value.bool hc2) ?_
                  refine O.skip rfl rfl ?_
                  refine O.skip rfl rfl ?_
                  refine O.skip rfl rfl ?_
                  refine O.skip rfl rfl ?_
                  refine O.skip rfl rfl ?_
                  refine O.skip rfl rfl ?_
                  refine O.skip rfl rfl ?_
                  refine O.skip rfl rfl ?_
                  refine O.skip rfl rfl ?_
                  refine O.pick_false (v := (.bool false)) rfl rfl rfl rfl ?_
                  refine WL.nil ?_
                  have hq : false = b2 := Option.some.inj (show some false = some b2 from hm6)
                  subst hq
                  exact ⟨rfl, rfl, rfl, rfl, rfl, rfl, rfl, rfl, rfl, rfl, H⟩
              · skip
                rintro f w ⟨hf4, hf6, hf9, hf13, hf14, hf15, hf20, hf21, hf22, hf44, H⟩
                obtain ⟨u3, rfl⟩ : ∃ u3, f = (upd (upd (upd (upd (upd (upd (upd (upd (upd (upd u3 4 v2) 6 (.int .i64 yk1)) 9 v10) 13 va0) 14 (.int .i64 ((a0.length : Nat) : Int))) 15 (.int .i64 (ik1 : Int))) 20 v6) 21 (.int .i64 ((([yk1, 10, 11, 12] : List Int).length : Nat) : Int))) 22 (.int .i64 (ik2 : Int))) 44 (.bool b2)) := ⟨f, by rw [upd_self hf4, upd_self hf6, upd_self hf9, upd_self hf13, upd_self hf14, upd_self hf15, upd_self hf20, upd_self hf21, upd_self hf22, upd_self hf44]⟩
                refine WL.nil ?_
                rcases ite_some hm5 with ⟨hc3, hm5⟩ | ⟨hc3, hm5⟩
                · refine W.cond_true (congrArg Value.bool hc3) ?_
                  refine W.seq ?_
                  refine W.region ?_
                  refine O.move (v := v10) rfl rfl rfl ?_
                  refine O.assign (v := v10) rfl rfl rfl ?_
                  refine WL.nil ?_
                  refine W.exit ?_
                  refine xF rfl ?_
                  obtain rfl := Option.some.inj hm5
                  refine ⟨_, rfl, ?_⟩
                  intro hy
                  have hq : t3 = s3 := hy
                  subst hq
                  have H := H.keep [2] [ownI (α := Int) v10 3 t3] rfl (by decide)
                  refine xT rfl ?_
                  exact ⟨v10, rfl, rfl, rfl, rfl, H⟩
                · refine W.cond_false (congrArg Value.bool hc3) ?_
                  refine W.skip ?_
                  refine W.region ?_
                  refine O.add rfl rfl rfl rfl hinck2 ?_
                  refine O.move (v := .int .i64 ((ik2 : Int) + 1)) rfl rfl rfl ?_
                  refine WL.nil ?_
                  have H := H.keep [0, 1] [ownI (α := Int) v2 3 z2, ownI (α := Int) v6 3 ([yk1, 10, 11, 12] : List Int)] rfl (by decide)
                  obtain rfl := Option.some.inj hm5
                  exact ⟨_, rfl, rfl, drop_next hdropk2, rfl, rfl, rfl, rfl, rfl, rfl, rfl, rfl, H⟩
            · skip
              rintro ik2 _ f w ⟨rfl, hdropk2, hf22, hf21, hf4, hf6, hf13, hf14, hf15, hf20, H⟩ hfin
              have hltk2 := drop_end hdropk2
              obtain ⟨u4, rfl⟩ : ∃ u4, f = (upd (upd (upd (upd (upd (upd (upd (upd u4 22 (.int .i64 (ik2 : Int))) 21 (.int .i64 ((([yk1, 10, 11, 12] : List Int).length : Nat) : Int))) 4 v2) 6 (.int .i64 yk1)) 13 va0) 14 (.int .i64 ((a0.length : Nat) : Int))) 15 (.int .i64 (ik1 : Int))) 20 v6) := ⟨f, by rw [upd_self hf22, upd_self hf21, upd_self hf4, upd_self hf6, upd_self hf13, upd_self hf14, upd_self hf15, upd_self hf20]⟩
              refine W.seq ?_
              refine W.region ?_
              refine O.lss rfl rfl rfl rfl ?_
              refine WL.nil ?_
              refine W.seq ?_
              refine W.cond_false (congrArg Value.bool (decide_eq_false hltk2)) ?_
              refine W.exit ?_
              have hq : z2 = s3 := hfin
              subst hq
              have H := H.keep [0] [ownI (α := Int) v2 3 z2] rfl (by decide)
              refine xT rfl ?_
              exact ⟨v2, rfl, rfl, rfl, rfl, H⟩
          · skip
            rintro f w ⟨v7, hf4, hf13, hf14, hf15, H⟩
            obtain ⟨u5, rfl⟩ : ∃ u5, f = (upd (upd (upd (upd u5 4 v7) 13 va0) 14 (.int .i64 ((a0.length : Nat) : Int))) 15 (.int .i64 (ik1 : Int))) := ⟨f, by rw [upd_self hf4, upd_self hf13, upd_self hf14, upd_self hf15]⟩
            have hq : s3 = s2 := Option.some.inj (show some s3 = some s2 from hm3)
            subst hq
            exact ⟨v7, rfl, rfl, rfl, rfl, H⟩
        · skip
          rintro f w ⟨v5, hf4, hf13, hf14, hf15, H⟩
          obtain ⟨u6, rfl⟩ : ∃ u6, f = (upd (upd (upd (upd u6 4 v5) 13 va0) 14 (.int .i64 ((a0.length : Nat) : Int))) 15 (.int .i64 (ik1 : Int))) := ⟨f, by rw [upd_self hf4, upd_self hf13, upd_self hf14, upd_self hf15]⟩
          refine W.region ?_
          refine O.add rfl rfl rfl rfl hinck1 ?_
          refine O.move (v := .int .i64 ((ik1 : Int) + 1)) rfl rfl rfl ?_
          refine WL.nil ?_
          obtain rfl := Option.some.inj hm2
          exact ⟨_, rfl, _, v5, rfl, drop_next hdropk1, rfl, rfl, rfl, rfl, H⟩
      · skip
        rintro ik1 _ f w ⟨z2, v2, rfl, hdropk1, hf15, hf14, hf4, hf13, H⟩ hfin
        have hltk1 := drop_end hdropk1
        obtain ⟨u7, rfl⟩ : ∃ u7, f = (upd (upd (upd (upd u7 15 (.int .i64 (ik1 : Int))) 14 (.int .i64 ((a0.length : Nat) : Int))) 4 v2) 13 va0) := ⟨f, by rw [upd_self hf15, upd_self hf14, upd_self hf4, upd_self hf13]⟩
        refine W.seq ?_
        refine W.region ?_
        refine O.lss rfl rfl rfl rfl ?_
        refine WL.nil ?_
        refine W.seq ?_
        refine W.cond_false (congrArg Value.bool (decide_eq_false hltk1)) ?_
        refine W.exit ?_
        have hq : z2 = s1 := hfin
        subst hq
        refine xT rfl ?_
        exact ⟨v2, rfl, H⟩
    · skip
      rintro f w ⟨v4, hf4, H⟩
      obtain ⟨u8, rfl⟩ : ∃ u8, f = (upd u8 4 v4) := ⟨f, by rw [upd_self hf4]⟩
      refine W.seq ?_
      refine W.region ?_
      refine O.move (v := v4) rfl rfl rfl ?_
      refine O.assign (v := v4) rfl rfl rfl ?_
      refine O.assign (v := (.int .i64 0)) rfl rfl rfl ?_
      refine WL.nil ?_
      refine W.ret ?_
      have hq : (s1, 0) = (r0, r1) := Option.some.inj (show some (s1, 0) = some (r0, r1) from hm)
      obtain ⟨he0, hq0⟩ := Prod.mk.inj hq; clear hq; subst he0
      subst hq0
      exact ends2 Try.results26 rfl rfl ⟨_, rfl, H.base, ⟨_, rfl, H.ownR 0 rfl⟩⟩

set_option maxRecDepth 20000 in
theorem c_flag_Hoists {w0 : World} (va0 : Value) (a0 : (List Int)) (ha0 : SliceR w0 va0 a0) (a1 : Int) {r0 : (List (List Int))} {r1 : Int} (hm : flag_Hoists a0 a1 = some (r0, r1)) :
    Calls Try.prog 27 #[va0, (.int .i64 a1)] w0 (Ret w0 fun w v => ∃ vr0 : Value, v = .tuple #[vr0, (.int .i64 r1)] ∧ SliceR w vr0 r0) := by
  unfold flag_Hoists at hm
  refine calls_of_WM Try.func27 rfl Try.ntmps27 (Nat.le_of_ble_eq_true rfl) ?_
  have H := Inv.startM (w0 := w0)
  have hmk : (fr0 #[va0, (.int .i64 a1)]).marks = [] := rfl
  refine W.seq ?_
  refine W.region ?_
  have H := H.addNilR (α := Int) (E := 22)
  refine O.assign (v := (.slice none 0 0)) rfl rfl rfl ?_
  refine O.assign (v := (.int .i64 0)) rfl rfl rfl ?_
  refine WL.nil ?_
  refine W.seq ?_
  refine W.seq ?_
  refine W.region ?_
  refine O.move (v := va0) rfl rfl rfl ?_
  refine O.move (v := (.int .i64 a1)) rfl rfl rfl ?_
  obtain ⟨t1, hy1, hm⟩ := bind_some hm
  refine O.call Try.call47 rfl rfl rfl (c_flag_asked _ _ (H.arg ha0) _ hy1) ?_
  rintro _ w1 hb1 rfl
  have H := H.ext hb1
  refine O.assign (v := (.int .i64 t1)) rfl rfl rfl ?_
  refine WL.nil ?_
  refine W.seq ?_
  refine W.region ?_
  refine O.move (v := (.int .i64 t1)) rfl rfl rfl ?_
  refine O.neq rfl rfl rfl rfl ?_
  refine WL.nil ?_
  rcases ite_some hm with ⟨hc1, hm⟩ | ⟨hc1, hm⟩
  · refine W.cond_true (congrArg Value.bool hc1) ?_
    refine W.seq ?_
    refine W.region ?_
    refine O.move (v := (.int .i64 t1)) rfl rfl rfl ?_
    have H := H.addNilR (α := Int) (E := 22)
    refine O.assign (v := (.slice none 0 0)) rfl rfl rfl ?_
    refine O.assign (v := (.int .i64 t1)) rfl rfl rfl ?_
    refine WL.nil ?_
    refine W.ret ?_
    refine endsM_mk H hmk ?_
    intro w H _
    have hq : (([] : List (List Int)), t1) = (r0, r1) := Option.some.inj (show some (([] : List (List Int)), t1) = some (r0, r1) from hm)
    obtain ⟨he0, hq0⟩ := Prod.mk.inj hq; clear hq; subst he0
    subst hq0
    exact ends2 Try.results27 rfl rfl ⟨_, rfl, H.base, ⟨_, rfl, (H.ownRd 2 rfl)⟩⟩
  · refine W.cond_false (congrArg Value.bool hc1) ?_
    refine W.skip ?_
    refine W.seq ?_
    refine W.region ?_
    refine O.alloc [(.slice none 0 0)] ze36 H rfl rfl rfl ?_
    intro b1 w2 H hb2
    have H := H.addNilR (α := Int) (E := 22)
    refine WL.nil ?_
    refine W.seq ?_
    refine W.seq ?_
    refine W.region ?_
    refine O.move (v := va0) rfl rfl rfl ?_
    refine O.move (v := (.int .i64 a1)) rfl rfl rfl ?_
    refine O.call Try.call48 rfl rfl rfl (c_flag_hoists _ _ (H.arg ha0) _) ?_
    rintro _ w3 hb3 ⟨b2, b3, rfl, hM1⟩
    have H := H.addAll hb3 hM1
    refine WL.nil ?_
    obtain ⟨xs1, hxs1, hm⟩ := bind_some hm
    obtain ⟨s1, hm1, hm⟩ := bind_some hm
    refine W.via (fun f w => ∃ ms1 : List Nat, ∃ v4 : Value, ∃ Fx4 : (Nat → Prop), ∃ rc4 : List C1, f 7 = (.pointer (some ⟨b1, 0, none⟩)) ∧ f.marks = ms1 ∧ Inv w0 w [marksI ms1, boxI b1 36 [v4], ownRI (α := Int) Fx4 v4 22 rc4 s1]) ?_ ?_
    · skip
      refine W.block ?_
      have H := H.keep [0, 2, 3, 4, 5] [marksI [], boxI b1 36 [(.slice none 0 0)], ownRI (α := Int) (fun _ => False) (.slice none 0 0) 22 [] ([] : List (List Int)), boxI b2 22 [va0], boxI b3 3 [(.int .i64 a1)]] rfl (by decide)
      refine W.rangeFuncL (α := (List Int)) (σ := (List (List Int))) (X := (List (List Int))) (xs := xs1) (rep := repS) hm1 (fun s L => ∃ z2 : (List (List Int)), ∃ v2 : Value, ∃ Fx2 : (Nat → Prop), ∃ rc2 : List C1, z2 = s ∧ L = [boxI b1 36 [v2], ownRI (α := Int) Fx2 v2 22 rc2 z2, boxI b2 22 [va0], boxI b3 3 [(.int .i64 a1)]]) (fun y j L => match j with | some j => j = 0 ∧ (False) | none => False) rfl Try.call53 rfl (fun _ _ _ h => by obtain ⟨_, rfl, _⟩ := h; rfl) (fun Kp W hs hk => it_flag_hoists_c1 _ _ a0 _ a1 hxs1 fun w1 hw => by obtain ⟨_, _, _, _, ⟨_, _, _, _, _, rfl⟩, H⟩ := hk w1 hw; exact ⟨H.cell 5 rfl, (H.arg ha0), H.cell 6 rfl⟩) H ⟨_, (.slice none 0 0), (fun _ => False), [], rfl, rfl⟩ ?_ ?_ ?_ ?_
      · skip
        rintro _ rs lp lp2 iz x1 _ st _ w _ ⟨z2, v2, Fx2, rc2, rfl, rfl⟩ ⟨vx1, rfl, hsx1⟩ hm2 H
        change W _ _ _ _ _ _ _ (upd _ 18 vx1) w
        refine W.region ?_
        refine O.assign (v := vx1) rfl rfl rfl ?_
        refine WL.nil ?_
        refine ⟨_, H, fun w hsl H => ?_⟩
        have hsx1 := hsl _ _ hsx1
        refine W.block ?_
        obtain ⟨t2, hy2, hm2⟩ := bind_some hm2
        obtain ⟨wd1, rfl⟩ : ∃ x, x = w := ⟨w, rfl⟩
        refine W.draw 4 (fun k v wk => match k with | 0 => v = v2 | 1 => v = vx1 | 2 => OwnR wd1 wk v 3 t2 | 3 => ∃ (F : Nat → Prop) (cs : List C1), Inv wd1 wk [ownRI (α := Int) F v 22 cs ([t2] : List (List Int))] | _ => True) (by intro k v w w' h hb; match k, h with | 0, h => exact h | 1, h => exact h | 2, h => exact OwnR.mono h hb | 3, ⟨b, e, h⟩ => exact ⟨b, e, h.ext hb⟩ | _ + 4, h => exact h) fol (by kernel_rfl) ?_ ?_
        · skip
          refine ⟨⟨⟨⟨trivial, ?_⟩, ?_⟩, ?_⟩, ?_⟩
          · skip
            intro f wk hx hf hd
            have H := H.ext hx
            have hf7 : f 7 = (.pointer (some ⟨b1, 0, none⟩)) := hf 7 rfl
            obtain ⟨u1, rfl⟩ : ∃ u1, f = (upd u1 7 (.pointer (some ⟨b1, 0, none⟩))) := ⟨f, by rw [upd_self hf7]⟩
            refine O.load sc36 rfl rfl rfl (H.cell 3 rfl 0 _ rfl) ?_
            refine WL.nil ?_
            exact ⟨Below.refl _ _, _, rfl, rfl⟩
          · skip
            intro f wk hx hf hd
            have H := H.ext hx
            have hf8 : f 8 = vx1 := hf 8 rfl
            obtain ⟨u2, rfl⟩ : ∃ u2, f = (upd u2 8 vx1) := ⟨f, by rw [upd_self hf8]⟩
            refine O.move (v := vx1) rfl rfl rfl ?_
            refine WL.nil ?_
            exact ⟨Below.refl _ _, _, rfl, rfl⟩
          · skip
            intro f wk hx hf hd
            have H := H.ext hx
            have hsx1 := hsx1.mono hx
            have hf20 : f 20 = vx1 := hd 1 rfl
            obtain ⟨u3, rfl⟩ : ∃ u3, f = (upd u3 20 vx1) := ⟨f, by rw [upd_self hf20]⟩
            refine O.call Try.call39 rfl rfl rfl (c_slices_Clone_int _ _ hsx1 hy2) ?_
            rintro v5 w4 hb4 ho1
            have H := H.addOwn hb4 ho1
            refine WL.nil ?_
            exact ⟨hb4, _, rfl, OwnR.base ho1 hx.size⟩
          · skip
            intro f wk hx hf hd
            have H := H.ext hx
            have ho21 : OwnR wd1 wk (f 21) 3 t2 := hd 2 rfl
            obtain ⟨v5, hf21⟩ : ∃ v5, f 21 = v5 := ⟨_, rfl⟩
            rw [hf21] at ho21
            obtain ⟨u4, rfl⟩ : ∃ u4, f = (upd u4 21 v5) := ⟨f, by rw [upd_self hf21]⟩
            have ho2 := SliceR.one ho21.sliceR
            refine O.buildSlice (α := C1) [v5] [⟨v5, ho2⟩] Try.underlying36 el22 ((Inv.start (w := _)).addOwn hx ho21) rfl rfl rfl rfl (lit1_cells ho2) rfl rfl ?_
            intro v6 w5 HR hb5
            have HR := (HR.litOwn (α := Int) 1 0 (by decide) rfl rfl rfl).pick [1] [ownRI (α := Int) (fun b => Value.ownBlock v5 = some b) v6 22 [⟨v5, ho2⟩] ([t2] : List (List Int))] rfl (by decide)
            refine WL.nil ?_
            exact ⟨hb5, _, rfl, ⟨_, _, HR⟩⟩
        · skip
          intro f wk hx hf hmd hd
          have hf7 : f 7 = (.pointer (some ⟨b1, 0, none⟩)) := hf 7 rfl
          have hf17 : f 17 = (.func (.func 53) #[] #[(.pointer (some ⟨b2, 0, none⟩)), (.pointer (some ⟨b3, 0, none⟩))]) := hf 17 rfl
          have hf19 : f 19 = v2 := hd 0 rfl
          obtain ⟨Fx22, rc22, ho22⟩ : ∃ (F : Nat → Prop) (cs : List C1), Inv wd1 wk [ownRI (α := Int) F (f 22) 22 cs ([t2] : List (List Int))] := hd 3 rfl
          obtain ⟨v6, hf22⟩ : ∃ v6, f 22 = v6 := ⟨_, rfl⟩
          rw [hf22] at ho22
          have H := H.addAll hx ho22
          have hsx1 := hsx1.mono hx
          obtain ⟨u5, rfl⟩ : ∃ u5, f = (upd (upd (upd (upd u5 7 (.pointer (some ⟨b1, 0, none⟩))) 17 (.func (.func 53) #[] #[(.pointer (some ⟨b2, 0, none⟩)), (.pointer (some ⟨b3, 0, none⟩))])) 19 v2) 22 v6) := ⟨f, by rw [upd_self hf7, upd_self hf17, upd_self hf19, upd_self hf22]⟩
          obtain ⟨t3, ht3, hm2⟩ := bind_some hm2
          refine O.appendR 4 7 (by decide) Try.underlying36 el22 rfl H rfl rfl ht3 rfl rfl rfl rfl ?_
          intro v7 w6 Fx5 rc5 H
          clear hsx1
          refine O.store 3 0 [v7] [v7] sz36 H rfl rfl rfl rfl rfl (SliceR.cells1 (H.ownRd 4 rfl)) ⟨⟨rfl, rfl⟩, rfl⟩ (one_cons (SliceR.one (H.ownRd 4 rfl)) one_nil) ?_
          intro w7 H
          refine WL.nil ?_
          have H := H.keep [0, 1, 2, 3, 4, 5, 6] [rs, lp2, marksI [], boxI b1 36 [v7], ownRI (α := Int) Fx5 v7 22 rc5 t3, boxI b2 22 [va0], boxI b3 3 [(.int .i64 a1)]] rfl (by decide)
          obtain rfl := Option.some.inj hm2
          exact ⟨_, _, rfl, ⟨_, v7, Fx5, rc5, rfl, rfl⟩, H⟩
      · skip
        rintro D1 _ _ w ⟨z2, v2, Fx2, rc2, rfl, rfl⟩ hfin H
        have hq : z2 = s1 := hfin
        subst hq
        have H := H.keep [0, 1, 2] [marksI (D1 :: []), boxI b1 36 [v2], ownRI (α := Int) Fx2 v2 22 rc2 z2] rfl (by decide)
        have hmk := congrArg (D1 :: ·) hmk
        exact ⟨_, v2, Fx2, rc2, rfl, hmk, H⟩
      · skip
        rintro _ _ _ _ ⟨_, h⟩; exact h.elim
      · skip
        rintro _ _ _ h; exact h.elim
    · skip
      rintro f w ⟨ms1, v4, Fx4, rc4, hf7, hmk, H⟩
      obtain ⟨u6, rfl⟩ : ∃ u6, f = (upd u6 7 (.pointer (some ⟨b1, 0, none⟩))) := ⟨f, by rw [upd_self hf7]⟩
      refine W.seq ?_
      refine W.region ?_
      refine O.load sc36 rfl rfl rfl (H.cell 1 rfl 0 _ rfl) ?_
      refine O.assign (v := v4) rfl rfl rfl ?_
      refine O.assign (v := (.int .i64 0)) rfl rfl rfl ?_
      refine WL.nil ?_
      refine W.ret ?_
      refine endsM_mk H hmk ?_
      intro w H _
      have hq : (s1, 0) = (r0, r1) := Option.some.inj (show some (s1, 0) = some (r0, r1) from hm)
      obtain ⟨he0, hq0⟩ := Prod.mk.inj hq; clear hq; subst he0
      subst hq0
      exact ends2 Try.results27 rfl rfl ⟨_, rfl, H.base, ⟨_, rfl, (H.ownRd 2 rfl)⟩⟩

set_option maxRecDepth 20000 in
theorem c_noongunlaw07_FlagUsual {w0 : World} (va0 : Value) (a0 : (List Int)) (ha0 : SliceR w0 va0 a0) {r0 : Bool} (hm : noongunlaw07_FlagUsual a0 = some r0) :
    Calls Try.prog 6 #[va0] w0 (Ret w0 fun _ v => v = (.bool r0)) := by
  unfold noongunlaw07_FlagUsual at hm
  refine calls_of_W Try.func6 rfl Try.ntmps6 (Nat.le_of_ble_eq_true rfl) ?_
  have H := Inv.start (w := w0)
  refine W.seq ?_
  refine W.region ?_
  refine O.assign (v := (.bool false)) rfl rfl rfl ?_
  refine WL.nil ?_
  refine W.seq ?_
  refine W.seq ?_
  refine W.region ?_
  refine O.move (v := va0) rfl rfl rfl ?_
  refine O.lenS Try.underlying22 (H.arg ha0) rfl rfl rfl ?_
  refine O.gtr rfl rfl rfl rfl ?_
  refine WL.nil ?_
  rcases ite_some hm with ⟨hc1, hm⟩ | ⟨hc1, hm⟩
  · refine W.cond_true (congrArg Value.bool hc1) ?_
    refine W.seq ?_
    refine W.region ?_
    obtain ⟨t1, hy1, hm⟩ := bind_some hm
    refine O.call Try.call9 rfl rfl rfl (c_noongunlaw07_awake  hy1) ?_
    rintro _ w1 hb1 rfl
    have H := H.ext hb1
    refine O.assign (v := (.bool t1)) rfl rfl rfl ?_
    refine WL.nil ?_
    refine W.ret ?_
    have hq : t1 = r0 := Option.some.inj (show some t1 = some r0 from hm)
    subst hq
    exact ends1 Try.results6 rfl ⟨_, rfl, H.base, rfl⟩
  · refine W.cond_false (congrArg Value.bool hc1) ?_
    refine W.skip ?_
    refine W.seq ?_
    refine W.region ?_
    refine O.move (v := va0) rfl rfl rfl ?_
    obtain ⟨⟨t2, t3⟩, hy2, hm⟩ := bind_some hm
    refine O.call Try.call25 rfl rfl rfl (c_flag_Hoist _ _ (H.arg ha0) hy2) ?_
    rintro _ w2 hb2 ⟨v1, rfl, ho1⟩
    have H := H.addOwn hb2 ho1
    refine O.move (v := (.tuple #[v1, (.int .i64 t3)])) rfl rfl rfl ?_
    refine O.extract (v := v1) rfl rfl rfl rfl ?_
    refine O.extract (v := (.int .i64 t3)) rfl rfl rfl rfl ?_
    refine O.assign (v := v1) rfl rfl rfl ?_
    refine O.assign (v := (.int .i64 t3)) rfl rfl rfl ?_
    refine WL.nil ?_
    refine W.seq ?_
    refine W.region ?_
    refine O.move (v := va0) rfl rfl rfl ?_
    obtain ⟨⟨t4, t5⟩, hy3, hm⟩ := bind_some hm
    refine O.call Try.call26 rfl rfl rfl (c_noongunref07_Hoist _ _ (H.arg ha0) hy3) ?_
    rintro _ w3 hb3 ⟨v2, rfl, ho2⟩
    have H := H.addOwn hb3 ho2
    refine O.move (v := (.tuple #[v2, (.int .i64 t5)])) rfl rfl rfl ?_
    refine O.extract (v := v2) rfl rfl rfl rfl ?_
    refine O.extract (v := (.int .i64 t5)) rfl rfl rfl rfl ?_
    refine O.assign (v := v2) rfl rfl rfl ?_
    refine O.assign (v := (.int .i64 t5)) rfl rfl rfl ?_
    refine WL.nil ?_
    refine W.seq ?_
    refine W.seq ?_
    refine W.region ?_
    refine O.move (v := v1) rfl rfl rfl ?_
    refine O.move (v := v2) rfl rfl rfl ?_
    obtain ⟨t6, hy4, hm⟩ := bind_some hm
    refine O.call Try.call18 rfl rfl rfl (c_noongunref07_SameInts _ _ (H.own 0 rfl) _ _ (H.own 1 rfl) hy4) ?_
    rintro _ w4 hb4 rfl
    have H := H.ext hb4
    refine O.not rfl rfl rfl ?_
    refine O.move (v := (.bool (!t6))) rfl rfl rfl ?_
    refine WL.cut 4 (fun f w => f 0 = va0 ∧ f 3 = v1 ∧ f 4 = (.int .i64 t3) ∧ f 35 = .bool ((!t6) || (t3 != t5)) ∧ Inv w0 w [ownI (α := Int) v1 3 t2, ownI (α := Int) v2 3 t4]) ?_ ?_
    · skip
      rcases bool_ft (!t6) with hc2 | hc2
      · skip
        refine WL.reset (i := 31) (v := .bool false) (congrArg Value.bool hc2) ?_
        refine O.move (v := (.int .i64 t3)) rfl rfl rfl ?_
        refine O.move (v := (.int .i64 t5)) rfl rfl rfl ?_
        refine O.neq rfl rfl rfl rfl ?_
        refine O.pick_false (v := (.bool (t3 != t5))) rfl rfl rfl rfl ?_
        refine WL.nil ?_
        exact ⟨rfl, rfl, rfl, congrArg Value.bool (or_f hc2), H⟩
      · skip
        refine WL.reset (i := 31) (v := .bool true) (congrArg Value.bool hc2) ?_
        refine O.skip rfl rfl ?_
        refine O.skip rfl rfl ?_
        refine O.skip rfl rfl ?_
        refine O.pick_true (v := (.bool true)) rfl rfl rfl rfl ?_
        refine WL.nil ?_
        exact ⟨rfl, rfl, rfl, congrArg Value.bool (or_t hc2), H⟩
    · skip
      rintro f w ⟨hf0, hf3, hf4, hf35, H⟩
      obtain ⟨u1, rfl⟩ : ∃ u1, f = (upd (upd (upd (upd u1 0 va0) 3 v1) 4 (.int .i64 t3)) 35 (.bool ((!t6) || (t3 != t5)))) := ⟨f, by rw [upd_self hf0, upd_self hf3, upd_self hf4, upd_self hf35]⟩
      refine WL.nil ?_
      rcases ite_some hm with ⟨hc3, hm⟩ | ⟨hc3, hm⟩
      · refine W.cond_true (congrArg Value.bool hc3) ?_
        refine W.seq ?_
        refine W.region ?_
        refine O.assign (v := (.bool false)) rfl rfl rfl ?_
        refine WL.nil ?_
        refine W.ret ?_
        have hq : false = r0 := Option.some.inj (show some false = some r0 from hm)
        subst hq
        exact ends1 Try.results6 rfl ⟨_, rfl, H.base, rfl⟩
      · refine W.cond_false (congrArg Value.bool hc3) ?_
        refine W.skip ?_
        refine W.seq ?_
        refine W.seq ?_
        refine W.region ?_
        refine O.move (v := (.int .i64 t3)) rfl rfl rfl ?_
        refine O.neq rfl rfl rfl rfl ?_
        refine WL.nil ?_
        rcases ite_some hm with ⟨hc4, hm⟩ | ⟨hc4, hm⟩
        · refine W.cond_true (congrArg Value.bool hc4) ?_
          refine W.seq ?_
          refine W.region ?_
          obtain ⟨t7, hy5, hm⟩ := bind_some hm
          refine O.call Try.call9 rfl rfl rfl (c_noongunlaw07_awake  hy5) ?_
          rintro _ w5 hb5 rfl
          have H := H.ext hb5
          refine O.assign (v := (.bool t7)) rfl rfl rfl ?_
          refine WL.nil ?_
          refine W.ret ?_
          have hq : t7 = r0 := Option.some.inj (show some t7 = some r0 from hm)
          subst hq
          exact ends1 Try.results6 rfl ⟨_, rfl, H.base, rfl⟩
        · refine W.cond_false (congrArg Value.bool hc4) ?_
          refine W.skip ?_
          refine W.seq ?_
          refine W.region ?_
          refine O.move (v := v1) rfl rfl rfl ?_
          obtain ⟨⟨t8, t9⟩, hy6, hm⟩ := bind_some hm
          refine O.call Try.call10 rfl rfl rfl (c_flag_Means _ _ (H.own 0 rfl) hy6) ?_
          rintro _ w6 hb6 ⟨v3, rfl, ho3⟩
          have H := H.addOwn hb6 ho3
          refine O.move (v := (.tuple #[v3, (.int .i64 t9)])) rfl rfl rfl ?_
          refine O.extract (v := v3) rfl rfl rfl rfl ?_
          refine O.extract (v := (.int .i64 t9)) rfl rfl rfl rfl ?_
          refine O.assign (v := v3) rfl rfl rfl ?_
          refine O.assign (v := (.int .i64 t9)) rfl rfl rfl ?_
          refine WL.nil ?_
          refine W.seq ?_
          refine W.region ?_
          refine O.move (v := va0) rfl rfl rfl ?_
          obtain ⟨⟨t10, t11⟩, hy7, hm⟩ := bind_some hm
          refine O.call Try.call27 rfl rfl rfl (c_flag_Hoists _ _ (H.arg ha0) _ hy7) ?_
          rintro _ w7 hb7 ⟨v4, rfl, ho4⟩
          have H := H.ext hb7
          refine O.move (v := (.tuple #[v4, (.int .i64 t11)])) rfl rfl rfl ?_
          refine O.extract (v := v4) rfl rfl rfl rfl ?_
          refine O.extract (v := (.int .i64 t11)) rfl rfl rfl rfl ?_
          refine O.assign (v := v4) rfl rfl rfl ?_
          refine O.assign (v := (.int .i64 t11)) rfl rfl rfl ?_
          refine WL.nil ?_
          refine W.seq ?_
          refine W.seq ?_
          refine W.region ?_
          refine O.move (v := v4) rfl rfl rfl ?_
          refine O.lenS Try.underlying36 ho4 rfl rfl rfl ?_
          refine O.move (v := (.int .i64 0)) rfl rfl rfl ?_
          refine WL.nil ?_
          obtain ⟨o1, hm1, hm⟩ := bind_some hm
          refine W.via (fun f w => o1 = .next () ∧ Inv w0 w []) ?_ ?_
          · skip
            refine W.block ?_
            have H := H.keep [0, 2] [ownI (α := Int) v1 3 t2, ownI (α := Int) v3 3 t8] rfl (by decide)
            refine W.rangeL (i := 0) hm1 (fun rem ik1 s f w => () = s ∧ t10.drop ik1 = rem ∧ f 51 = .int .i64 (ik1 : Int) ∧ f 50 = (.int .i64 ((t10.length : Nat) : Int)) ∧ f 0 = va0 ∧ f 3 = v1 ∧ f 7 = v3 ∧ f 8 = (.int .i64 t9) ∧ f 10 = (.int .i64 t11) ∧ f 49 = v4 ∧ SliceR w v4 t10 ∧ Inv w0 w [ownI (α := Int) v1 3 t2, ownI (α := Int) v3 3 t8]) ?_ ?_ ?_
            · skip
              exact ⟨rfl, List.drop_zero, rfl, rfl, rfl, rfl, rfl, rfl, rfl, rfl, ho4, H⟩
            · skip
              rintro yk1 xs ik1 _ st f w ⟨rfl, hdropk1, hf51, hf50, hf0, hf3, hf7, hf8, hf10, hf49, hs3, H⟩ hm2
              have hltk1 := drop_lt hdropk1; have hixk1 := drop_idx hdropk1
              obtain ⟨u2, rfl⟩ : ∃ u2, f = (upd (upd (upd (upd (upd (upd (upd (upd u2 51 (.int .i64 (ik1 : Int))) 50 (.int .i64 ((t10.length : Nat) : Int))) 0 va0) 3 v1) 7 v3) 8 (.int .i64 t9)) 10 (.int .i64 t11)) 49 v4) := ⟨f, by rw [upd_self hf51, upd_self hf50, upd_self hf0, upd_self hf3, upd_self hf7, upd_self hf8, upd_self hf10, upd_self hf49]⟩
              have hinck1 := addI_lt hltk1 hs3.len_le
              refine W.seq ?_
              refine W.region ?_
              refine O.lss rfl rfl rfl rfl ?_
              refine WL.nil ?_
              refine W.seq ?_
              refine W.cond_true (congrArg Value.bool (decide_eq_true hltk1)) ?_
              refine W.skip ?_
              refine W.seq ?_
              refine W.block ?_
              refine W.seq ?_
              refine W.region ?_
              refine O.indexAddr Try.underlying36 sz22 hs3 hixk1 rfl rfl rfl rfl ?_
              intro p1 hp1
              obtain ⟨v5, hs5, hc5⟩ := hp1.slice
              refine O.load sc22 rfl rfl rfl (hc5 0 _ rfl) ?_
              refine O.assign (v := v5) rfl rfl rfl ?_
              refine WL.nil ?_
              refine W.seq ?_
              refine W.region ?_
              refine O.move (v := v5) rfl rfl rfl ?_
              refine O.move (v := v1) rfl rfl rfl ?_
              obtain ⟨t12, hy8, hm2⟩ := bind_some hm2
              refine O.call Try.call18 rfl rfl rfl (c_noongunref07_SameInts _ _ hs5 _ _ (H.own 0 rfl) hy8) ?_
              rintro _ w8 hb8 rfl
              have hs3 := hs3.mono hb8
              have hs5 := hs5.mono hb8
              have hc5 := cells_mono hc5 hb8
              have H := H.ext hb8
              refine WL.nil ?_
              rcases ite_some hm2 with ⟨hc6, hm2⟩ | ⟨hc6, hm2⟩
              · refine W.cond_true (congrArg Value.bool hc6) ?_
                refine W.seq ?_
                refine W.region ?_
                refine O.move (v := v1) rfl rfl rfl ?_
                obtain ⟨t13, hy9, hm2⟩ := bind_some hm2
                refine O.call Try.call16 rfl rfl rfl (c_flag_ValidHoist _ _ (H.own 0 rfl) hy9) ?_
                rintro _ w9 hb9 rfl
                have hs3 := hs3.mono hb9
                have hs5 := hs5.mono hb9
                have hc5 := cells_mono hc5 hb9
                have H := H.ext hb9
                refine O.move (v := (.bool t13)) rfl rfl rfl ?_
                refine WL.cut 3 (fun f w => f 0 = va0 ∧ f 7 = v3 ∧ f 10 = (.int .i64 t11) ∧ f 63 = .bool (t13 && (t9 == 0)) ∧ Inv w0 w [ownI (α := Int) v1 3 t2, ownI (α := Int) v3 3 t8]) ?_ ?_
                · skip
                  rcases bool_ft t13 with hc7 | hc7
                  · skip
                    refine WL.reset (i := 60) (v := .bool false) (congrArg Value.bool hc7) ?_
                    refine O.skip rfl rfl ?_
                    refine O.skip rfl rfl ?_
                    refine O.pick_false (v := (.bool false)) rfl rfl rfl rfl ?_
                    refine WL.nil ?_
                    exact ⟨rfl, rfl, rfl, congrArg Value.bool (and_f hc7), H⟩
                  · skip
                    refine WL.reset (i := 60) (v := .bool true) (congrArg Value.bool hc7) ?_
                    refine O.move (v := (.int .i64 t9)) rfl rfl rfl ?_
                    refine O.eql rfl rfl rfl rfl ?_
                    refine O.pick_true (v := (.bool (t9 == 0))) rfl rfl rfl rfl ?_
                    refine WL.nil ?_
                    exact ⟨rfl, rfl, rfl, congrArg Value.bool (and_t hc7), H⟩
                · skip
                  rintro f w ⟨hf0, hf7, hf10, hf63, H⟩
                  obtain ⟨u3, rfl⟩ : ∃ u3, f = (upd (upd (upd (upd u3 0 va0) 7 v3) 10 (.int .i64 t11)) 63 (.bool (t13 && (t9 == 0)))) := ⟨f, by rw [upd_self hf0, upd_self hf7, upd_self hf10, upd_self hf63]⟩
                  refine O.move (v := (.bool (t13 && (t9 == 0)))) rfl rfl rfl ?_
                  refine WL.cut 3 (fun f w => f 0 = va0 ∧ f 7 = v3 ∧ f 67 = .bool ((t13 && (t9 == 0)) && (t11 == 0)) ∧ Inv w0 w [ownI (α := Int) v1 3 t2, ownI (α := Int) v3 3 t8]) ?_ ?_
                  · skip
                    rcases bool_ft (t13 && (t9 == 0)) with hc8 | hc8
                    · skip
                      refine WL.reset (i := 64) (v := .bool false) (congrArg Value.bool hc8) ?_
                      refine O.skip rfl rfl ?_
                      refine O.skip rfl rfl ?_
                      refine O.pick_false (v := (.bool false)) rfl rfl rfl rfl ?_
                      refine WL.nil ?_
                      exact ⟨rfl, rfl, congrArg Value.bool (and_f hc8), H⟩
                    · skip
                      refine WL.reset (i := 64) (v := .bool true) (congrArg Value.bool hc8) ?_
                      refine O.move (v := (.int .i64 t11)) rfl rfl rfl ?_
                      refine O.eql rfl rfl rfl rfl ?_
                      refine O.pick_true (v := (.bool (t11 == 0))) rfl rfl rfl rfl ?_
                      refine WL.nil ?_
                      exact ⟨rfl, rfl, congrArg Value.bool (and_t hc8), H⟩
                  · skip
                    rintro f w ⟨hf0, hf7, hf67, H⟩
                    obtain ⟨u4, rfl⟩ : ∃ u4, f = (upd (upd (upd u4 0 va0) 7 v3) 67 (.bool ((t13 && (t9 == 0)) && (t11 == 0)))) := ⟨f, by rw [upd_self hf0, upd_self hf7, upd_self hf67]⟩
                    refine O.move (v := (.bool ((t13 && (t9 == 0)) && (t11 == 0)))) rfl rfl rfl ?_
                    obtain ⟨b1, hm3, hm2⟩ := bind_some hm2
                    refine WL.cut 4 (fun f w => f 72 = .bool b1 ∧ Inv w0 w [ownI (α := Int) v1 3 t2, ownI (α := Int) v3 3 t8]) ?_ ?_
                    · skip
                      rcases ite_some hm3 with ⟨hc9, hm3⟩ | ⟨hc9, hm3⟩
                      · skip
                        refine WL.reset (i := 68) (v := .bool true) (congrArg Value.bool hc9) ?_
                        refine O.move (v := v3) rfl rfl rfl ?_
                        refine O.move (v := va0) rfl rfl rfl ?_
                        obtain ⟨t14, hy10, hm3⟩ := bind_some hm3
                        refine O.call Try.call18 rfl rfl rfl (c_noongunref07_SameInts _ _ (H.own 1 rfl) _ _ (H.arg ha0) hy10) ?_
                        rintro _ w10 hb10 rfl
                        have H := H.ext hb10
                        refine O.pick_true (v := (.bool t14)) rfl rfl rfl rfl ?_
                        refine WL.nil ?_
                        have hq : t14 = b1 := Option.some.inj (show some t14 = some b1 from hm3)
                        subst hq
                        exact ⟨rfl, H⟩
                      · skip
                        refine WL.reset (i := 68) (v := .bool false) (congrArg Value.bool hc9) ?_
                        refine O.skip rfl rfl ?_
                        refine O.skip rfl rfl ?_
                        refine O.skip rfl rfl ?_
                        refine O.pick_false (v := (.bool false)) rfl rfl rfl rfl ?_
                        refine WL.nil ?_
                        have hq : false = b1 := Option.some.inj (show some false = some b1 from hm3)
                        subst hq
                        exact ⟨rfl, H⟩
                    · skip
                      rintro f w ⟨hf72, H⟩
                      obtain ⟨u5, rfl⟩ : ∃ u5, f = (upd u5 72 (.bool b1)) := ⟨f, by rw [upd_self hf72]⟩
                      refine O.move (v := (.bool b1)) rfl rfl rfl ?_
                      obtain ⟨b2, hm4, hm2⟩ := bind_some hm2
                      refine WL.cut 2 (fun f w => f 75 = .bool b2 ∧ Inv w0 w [ownI (α := Int) v1 3 t2, ownI (α := Int) v3 3 t8]) ?_ ?_
                      · skip
                        rcases ite_some hm4 with ⟨hc10, hm4⟩ | ⟨hc10, hm4⟩
                        · skip
                          refine WL.reset (i := 73) (v := .bool true) (congrArg Value.bool hc10) ?_
                          obtain ⟨t15, hy11, hm4⟩ := bind_some hm4
                          refine O.call Try.call9 rfl rfl rfl (c_noongunlaw07_awake  hy11) ?_
                          rintro _ w11 hb11 rfl
                          have H := H.ext hb11
                          refine O.pick_true (v := (.bool t15)) rfl rfl rfl rfl ?_
                          refine WL.nil ?_
                          have hq : t15 = b2 := Option.some.inj (show some t15 = some b2 from hm4)
                          subst hq
                          exact ⟨rfl, H⟩
                        · skip
                          refine WL.reset (i := 73) (v := .bool false) (congrArg Value.bool hc10) ?_
                          refine O.skip rfl rfl ?_
                          refine O.pick_false (v := (.bool false)) rfl rfl rfl rfl ?_
                          refine WL.nil ?_
                          have hq : false = b2 := Option.some.inj (show some false = some b2 from hm4)
                          subst hq
                          exact ⟨rfl, H⟩
                      · skip
                        rintro f w ⟨hf75, H⟩
                        obtain ⟨u6, rfl⟩ : ∃ u6, f = (upd u6 75 (.bool b2)) := ⟨f, by rw [upd_self hf75]⟩
                        refine O.assign (v := (.bool b2)) rfl rfl rfl ?_
                        refine WL.nil ?_
                        refine W.ret ?_
                        obtain rfl := Option.some.inj hm2
                        refine ⟨_, rfl, ?_⟩
                        rintro rfl
                        have hq : b2 = r0 := Option.some.inj (show some b2 = some r0 from hm)
                        subst hq
                        exact ends1 Try.results6 rfl ⟨_, rfl, H.base, rfl⟩
              · refine W.cond_false (congrArg Value.bool hc6) ?_
                refine W.skip ?_
                refine W.region ?_
                refine O.add rfl rfl rfl rfl hinck1 ?_
                refine O.move (v := .int .i64 ((ik1 : Int) + 1)) rfl rfl rfl ?_
                refine WL.nil ?_
                obtain rfl := Option.some.inj hm2
                exact ⟨_, rfl, rfl, drop_next hdropk1, rfl, rfl, rfl, rfl, rfl, rfl, rfl, rfl, hs3, H⟩
            · skip
              rintro ik1 _ f w ⟨rfl, hdropk1, hf51, hf50, hf0, hf3, hf7, hf8, hf10, hf49, hs3, H⟩ hfin
              have hltk1 := drop_end hdropk1
              obtain ⟨u7, rfl⟩ : ∃ u7, f = (upd (upd (upd (upd (upd (upd (upd (upd u7 51 (.int .i64 (ik1 : Int))) 50 (.int .i64 ((t10.length : Nat) : Int))) 0 va0) 3 v1) 7 v3) 8 (.int .i64 t9)) 10 (.int .i64 t11)) 49 v4) := ⟨f, by rw [upd_self hf51, upd_self hf50, upd_self hf0, upd_self hf3, upd_self hf7, upd_self hf8, upd_self hf10, upd_self hf49]⟩
              refine W.seq ?_
              refine W.region ?_
              refine O.lss rfl rfl rfl rfl ?_
              refine WL.nil ?_
              refine W.seq ?_
              refine W.cond_false (congrArg Value.bool (decide_eq_false hltk1)) ?_
              refine W.exit ?_
              obtain rfl : Ctl.next () = o1 := hfin
              have H := H.keep [] [] rfl (by decide)
              refine xT rfl ?_
              exact ⟨rfl, H⟩
          · skip
            rintro f w ⟨rfl, H⟩
            refine W.seq ?_
            refine W.region ?_
            refine O.assign (v := (.bool false)) rfl rfl rfl ?_
            refine WL.nil ?_
            refine W.ret ?_
            have hq : false = r0 := Option.some.inj (show some false = some r0 from hm)
            subst hq
            exact ends1 Try.results6 rfl ⟨_, rfl, H.base, rfl⟩

set_option maxRecDepth 20000 in
theorem c_noongunref07_hoists {w0 : World} (va0 : Value) (a0 : (List Int)) (ha0 : SliceR w0 va0 a0) (a1 : Int) {r0 : (List (List Int))} (hm : noongunref07_hoists a0 a1 = some r0) :
    Calls Try.prog 49 #[va0, (.int .i64 a1)] w0 (Ret w0 fun w v => ∃ vr0 : Value, v = vr0 ∧ SliceR w vr0 r0) := by
  unfold noongunref07_hoists at hm
  refine calls_of_W Try.func49 rfl Try.ntmps49 (Nat.le_of_ble_eq_true rfl) ?_
  have H := Inv.start (w := w0)
  refine W.seq ?_
  refine W.region ?_
  have H := H.addNilR (α := Int) (E := 22)
  refine O.assign (v := (.slice none 0 0)) rfl rfl rfl ?_
  refine WL.nil ?_
  refine W.seq ?_
  refine W.region ?_
  have H := H.addNilR (α := Int) (E := 22)
  refine O.assign (v := (.slice none 0 0)) rfl rfl rfl ?_
  refine WL.nil ?_
  refine W.seq ?_
  refine W.seq ?_
  refine W.region ?_
  refine O.move (v := va0) rfl rfl rfl ?_
  refine O.lenS Try.underlying22 (H.arg ha0) rfl rfl rfl ?_
  refine O.move (v := (.int .i64 0)) rfl rfl rfl ?_
  refine WL.nil ?_
  obtain ⟨s1, hm1, hm⟩ := bind_some hm
  refine W.via (fun f w => ∃ v4 : Value, ∃ Fx4 : (Nat → Prop), ∃ rc4 : List C1, f 5 = v4 ∧ Inv w0 w [ownRI (α := Int) Fx4 v4 22 rc4 s1]) ?_ ?_
  · skip
    refine W.block ?_
    have hbdik1 := (H.arg ha0).len_le
    have H := H.keep [1] [ownRI (α := Int) (fun _ => False) (.slice none 0 0) 22 [] ([] : List (List Int))] rfl (by decide)
    refine W.rangeN (i := 0) hm1 (fun rem ik1 s f w => ∃ z2 : (List (List Int)), ∃ v2 : Value, ∃ Fx2 : (Nat → Prop), ∃ rc2 : List C1, z2 = s ∧ (ik1 : Int) + rem = max 0 ((a0.length : Nat) : Int) ∧ f 15 = .int .i64 (ik1 : Int) ∧ f 14 = (.int .i64 ((a0.length : Nat) : Int)) ∧ f 0 = va0 ∧ f 1 = (.int .i64 a1) ∧ f 5 = v2 ∧ Inv w0 w [ownRI (α := Int) Fx2 v2 22 rc2 z2]) ?_ ?_ ?_
    · skip
      exact ⟨_, (.slice none 0 0), (fun _ => False), [], rfl, rangeN_start, rfl, rfl, rfl, rfl, rfl, H⟩
    · skip
      rintro k ik1 _ st f w ⟨z2, v2, Fx2, rc2, rfl, hdropk1, hf15, hf14, hf0, hf1, hf5, H⟩ hm2
      have hltk1 := rangeN_lt hdropk1
      obtain ⟨u1, rfl⟩ : ∃ u1, f = (upd (upd (upd (upd (upd u1 15 (.int .i64 (ik1 : Int))) 14 (.int .i64 ((a0.length : Nat) : Int))) 0 va0) 1 (.int .i64 a1)) 5 v2) := ⟨f, by rw [upd_self hf15, upd_self hf14, upd_self hf0, upd_self hf1, upd_self hf5]⟩
      have hinck1 := addI_lt hltk1 hbdik1
      refine W.seq ?_
      refine W.region ?_
      refine O.lss rfl rfl rfl rfl ?_
      refine WL.nil ?_
      refine W.seq ?_
      refine W.cond_true (congrArg Value.bool (decide_eq_true hltk1)) ?_
      refine W.skip ?_
      refine W.seq ?_
      obtain ⟨s2, hm3, hm2⟩ := bind_some hm2
      refine W.via (fun f w => ∃ v5 : Value, ∃ Fx5 : (Nat → Prop), ∃ rc5 : List C1, f 0 = va0 ∧ f 1 = (.int .i64 a1) ∧ f 5 = v5 ∧ f 14 = (.int .i64 ((a0.length : Nat) : Int)) ∧ f 15 = (.int .i64 (ik1 : Int)) ∧ Inv w0 w [ownRI (α := Int) Fx5 v5 22 rc5 s2]) ?_ ?_
      · skip
        refine W.block ?_
        refine W.seq ?_
        refine W.region ?_
        refine O.move (v := (.int .i64 (ik1 : Int))) rfl rfl rfl ?_
        refine O.assign (v := (.int .i64 (ik1 : Int))) rfl rfl rfl ?_
        refine WL.nil ?_
        refine W.seq ?_
        refine W.region ?_
        have H := H.addNilR (α := Int) (E := 22)
        refine O.assign (v := (.slice none 0 0)) rfl rfl rfl ?_
        refine WL.nil ?_
        refine W.seq ?_
        refine W.region ?_
        refine O.move (v := v2) rfl rfl rfl ?_
        refine O.assign (v := v2) rfl rfl rfl ?_
        refine WL.nil ?_
        refine W.seq ?_
        refine W.seq ?_
        refine W.region ?_
        refine O.move (v := (.int .i64 (ik1 : Int))) rfl rfl rfl ?_
        refine O.eql rfl rfl rfl rfl ?_
        refine WL.nil ?_
        obtain ⟨s3, hm4, hm3⟩ := bind_some hm3
        refine W.via (fun f w => ∃ v6 : Value, ∃ Fx6 : (Nat → Prop), ∃ rc6 : List C1, f 0 = va0 ∧ f 1 = (.int .i64 a1) ∧ f 6 = (.int .i64 (ik1 : Int)) ∧ f 7 = (.slice none 0 0) ∧ f 8 = v6 ∧ f 14 = (.int .i64 ((a0.length : Nat) : Int)) ∧ f 15 = (.int .i64 (ik1 : Int)) ∧ Inv w0 w [ownRI (α := Int) (fun _ => False) (.slice none 0 0) 22 [] ([] : List (List Int)), ownRI (α := Int) Fx6 v6 22 rc6 s3]) ?_ ?_
        · skip
          rcases ite_some hm4 with ⟨hc1, hm4⟩ | ⟨hc1, hm4⟩
          · refine W.cond_true (congrArg Value.bool hc1) ?_
            refine W.region ?_
            refine O.buildSlice (α := C1) [(.slice none 0 0)] [⟨.slice none 0 0, rfl⟩] Try.underlying36 el22 H rfl rfl rfl rfl (lit1_cells rfl) rfl rfl ?_
            intro v7 w1 H hb1
            have H := H.litNil (α := Int) 2 rfl rfl
            refine O.assign (v := v7) rfl rfl rfl ?_
            refine WL.nil ?_
            have H := H.keep [1, 2] [ownRI (α := Int) (fun _ => False) (.slice none 0 0) 22 [] ([] : List (List Int)), ownRI (α := Int) (fun _ => False) v7 22 [⟨.slice none 0 0, rfl⟩] ([([] : (List Int))] : List (List Int))] rfl (by decide)
            have hq : ([([] : (List Int))] : List (List Int)) = s3 := Option.some.inj (show some ([([] : (List Int))] : List (List Int)) = some s3 from hm4)
            subst hq
            exact ⟨v7, (fun _ => False), [⟨.slice none 0 0, rfl⟩], rfl, rfl, rfl, rfl, rfl, rfl, rfl, H⟩
          · refine W.cond_false (congrArg Value.bool hc1) ?_
            refine W.skip ?_
            have H := H.pick [1, 0] [ownRI (α := Int) (fun _ => False) (.slice none 0 0) 22 [] ([] : List (List Int)), ownRI (α := Int) Fx2 v2 22 rc2 z2] rfl (by decide)
            have hq : z2 = s3 := Option.some.inj (show some z2 = some s3 from hm4)
            subst hq
            exact ⟨v2, Fx2, rc2, rfl, rfl, rfl, rfl, rfl, rfl, rfl, H⟩
        · skip
          rintro f w ⟨v6, Fx6, rc6, hf0, hf1, hf6, hf7, hf8, hf14, hf15, H⟩
          obtain ⟨u2, rfl⟩ : ∃ u2, f = (upd (upd (upd (upd (upd (upd (upd u2 0 va0) 1 (.int .i64 a1)) 6 (.int .i64 (ik1 : Int))) 7 (.slice none 0 0)) 8 v6) 14 (.int .i64 ((a0.length : Nat) : Int))) 15 (.int .i64 (ik1 : Int))) := ⟨f, by rw [upd_self hf0, upd_self hf1, upd_self hf6, upd_self hf7, upd_self hf8, upd_self hf14, upd_self hf15]⟩
          refine W.seq ?_
          refine W.seq ?_
          refine W.region ?_
          refine O.move (v := v6) rfl rfl rfl ?_
          refine O.lenS Try.underlying36 (H.ownRd 1 rfl) rfl rfl rfl ?_
          refine O.move (v := (.int .i64 0)) rfl rfl rfl ?_
          refine WL.nil ?_
          obtain ⟨s4, hm5, hm3⟩ := bind_some hm3
          refine W.via (fun f w => ∃ v11 : Value, ∃ Fx10 : (Nat → Prop), ∃ rc10 : List C1, f 0 = va0 ∧ f 1 = (.int .i64 a1) ∧ f 7 = v11 ∧ f 14 = (.int .i64 ((a0.length : Nat) : Int)) ∧ f 15 = (.int .i64 (ik1 : Int)) ∧ Inv w0 w [ownRI (α := Int) Fx10 v11 22 rc10 s4]) ?_ ?_
          · skip
            refine W.block ?_
            refine W.rangeL (i := 0) hm5 (fun rem ik2 s f w => ∃ z5 : (List (List Int)), ∃ v9 : Value, ∃ Fx8 : (Nat → Prop), ∃ rc8 : List C1, z5 = s ∧ s3.drop ik2 = rem ∧ f 24 = .int .i64 (ik2 : Int) ∧ f 23 = (.int .i64 ((s3.length : Nat) : Int)) ∧ f 0 = va0 ∧ f 1 = (.int .i64 a1) ∧ f 6 = (.int .i64 (ik1 : Int)) ∧ f 7 = v9 ∧ f 14 = (.int .i64 ((a0.length : Nat) : Int)) ∧ f 15 = (.int .i64 (ik1 : Int)) ∧ f 22 = v6 ∧ Inv w0 w [ownRI (α := Int) Fx8 v9 22 rc8 z5, ownRI (α := Int) Fx6 v6 22 rc6 s3]) ?_ ?_ ?_
            · skip
              exact ⟨_, (.slice none 0 0), (fun _ => False), [], rfl, List.drop_zero, rfl, rfl, rfl, rfl, rfl, rfl, rfl, rfl, rfl, H⟩
            · skip
              rintro yk2 xs ik2 _ st f w ⟨z5, v9, Fx8, rc8, rfl, hdropk2, hf24, hf23, hf0, hf1, hf6, hf7, hf14, hf15, hf22, H⟩ hm6
              have hltk2 := drop_lt hdropk2; have hixk2 := drop_idx hdropk2
              obtain ⟨u3, rfl⟩ : ∃ u3, f = (upd (upd (upd (upd (upd (upd (upd (upd (upd u3 24 (.int .i64 (ik2 : Int))) 23 (.int .i64 ((s3.length : Nat) : Int))) 0 va0) 1 (.int .i64 a1)) 6 (.int .i64 (ik1 : Int))) 7 v9) 14 (.int .i64 ((a0.length : Nat) : Int))) 15 (.int .i64 (ik1 : Int))) 22 v6) := ⟨f, by rw [upd_self hf24, upd_self hf23, upd_self hf0, upd_self hf1, upd_self hf6, upd_self hf7, upd_self hf14, upd_self hf15, upd_self hf22]⟩
              have hinck2 := addI_lt hltk2 (H.ownRd 1 rfl).len_le
              refine W.seq ?_
              refine W.region ?_
              refine O.lss rfl rfl rfl rfl ?_
              refine WL.nil ?_
              refine W.seq ?_
              refine W.cond_true (congrArg Value.bool (decide_eq_true hltk2)) ?_
              refine W.skip ?_
              refine W.seq ?_
              obtain ⟨s5, hm7, hm6⟩ := bind_some hm6
              refine W.via (fun f w => ∃ v12 : Value, ∃ Fx11 : (Nat → Prop), ∃ rc11 : List C1, f 0 = va0 ∧ f 1 = (.int .i64 a1) ∧ f 6 = (.int .i64 (ik1 : Int)) ∧ f 7 = v12 ∧ f 14 = (.int .i64 ((a0.length : Nat) : Int)) ∧ f 15 = (.int .i64 (ik1 : Int)) ∧ f 22 = v6 ∧ f 23 = (.int .i64 ((s3.length : Nat) : Int)) ∧ f 24 = (.int .i64 (ik2 : Int)) ∧ Inv w0 w [ownRI (α := Int) Fx11 v12 22 rc11 s5, ownRI (α := Int) Fx6 v6 22 rc6 s3]) ?_ ?_
              · skip
                refine W.block ?_
                refine W.seq ?_
                refine W.region ?_
                obtain ⟨rw1, hirw1, hrw1⟩ := H.rowIdx 1 rfl hixk2
                refine O.indexAddr Try.underlying36 sz22 (H.ownC 1 rfl) hirw1 rfl rfl rfl rfl ?_
                intro p1 hp1
                refine O.load sc22 rfl rfl rfl (hp1.flat 0 _ rfl) ?_
                refine O.assign (v := rw1.1) rfl rfl rfl ?_
                refine WL.nil ?_
                refine W.seq ?_
                refine W.region ?_
                refine O.move (v := (.int .i64 0)) rfl rfl rfl ?_
                refine WL.nil ?_
                obtain ⟨s6, hm8, hm7⟩ := bind_some hm7
                refine W.via (fun f w => ∃ v16 : Value, ∃ Fx15 : (Nat → Prop), ∃ rc15 : List C1, f 0 = va0 ∧ f 1 = (.int .i64 a1) ∧ f 6 = (.int .i64 (ik1 : Int)) ∧ f 7 = v16 ∧ f 14 = (.int .i64 ((a0.length : Nat) : Int)) ∧ f 15 = (.int .i64 (ik1 : Int)) ∧ f 22 = v6 ∧ f 23 = (.int .i64 ((s3.length : Nat) : Int)) ∧ f 24 = (.int .i64 (ik2 : Int)) ∧ Inv w0 w [ownRI (α := Int) Fx15 v16 22 rc15 s6, ownRI (α := Int) Fx6 v6 22 rc6 s3]) ?_ ?_
                · skip
                  refine W.block ?_
                  refine W.rangeN (i := 0) hm8 (fun rem ik3 s f w => ∃ z8 : (List (List Int)), ∃ v14 : Value, ∃ Fx13 : (Nat → Prop), ∃ rc13 : List C1, z8 = s ∧ (ik3 : Int) + rem = max 0 13 ∧ f 28 = .int .i64 (ik3 : Int) ∧ f 0 = va0 ∧ f 1 = (.int .i64 a1) ∧ f 6 = (.int .i64 (ik1 : Int)) ∧ f 7 = v14 ∧ f 10 = rw1.1 ∧ f 14 = (.int .i64 ((a0.length : Nat) : Int)) ∧ f 15 = (.int .i64 (ik1 : Int)) ∧ f 22 = v6 ∧ f 23 = (.int .i64 ((s3.length : Nat) : Int)) ∧ f 24 = (.int .i64 (ik2 : Int)) ∧ Inv w0 w [ownRI (α := Int) Fx13 v14 22 rc13 z8, ownRI (α := Int) Fx6 v6 22 rc6 s3]) ?_ ?_ ?_
                  · skip
                    exact ⟨_, v9, Fx8, rc8, rfl, rangeN_start, rfl, rfl, rfl, rfl, rfl, rfl, rfl, rfl, rfl, rfl, rfl, H⟩
                  · skip
                    rintro k ik3 _ st f w ⟨z8, v14, Fx13, rc13, rfl, hdropk3, hf28, hf0, hf1, hf6, hf7, hf10, hf14, hf15, hf22, hf23, hf24, H⟩ hm9
                    have hltk3 := rangeN_lt hdropk3
                    obtain ⟨u4, rfl⟩ : ∃ u4, f = (upd (upd (upd (upd (upd (upd (upd (upd (upd (upd (upd u4 28 (.int .i64 (ik3 : Int))) 0 va0) 1 (.int .i64 a1)) 6 (.int .i64 (ik1 : Int))) 7 v14) 10 rw1.1) 14 (.int .i64 ((a0.length : Nat) : Int))) 15 (.int .i64 (ik1 : Int))) 22 v6) 23 (.int .i64 ((s3.length : Nat) : Int))) 24 (.int .i64 (ik2 : Int))) := ⟨f, by rw [upd_self hf28, upd_self hf0, upd_self hf1, upd_self hf6, upd_self hf7, upd_self hf10, upd_self hf14, upd_self hf15, upd_self hf22, upd_self hf23, upd_self hf24]⟩
                    have hinck3 := addI_lt hltk3 (by decide)
                    refine W.seq ?_
                    refine W.region ?_
                    refine O.lss rfl rfl rfl rfl ?_
                    refine WL.nil ?_
                    refine W.seq ?_
                    refine W.cond_true (congrArg Value.bool (decide_eq_true hltk3)) ?_
                    refine W.skip ?_
                    refine W.seq ?_
                    obtain ⟨s7, hm10, hm9⟩ := bind_some hm9
                    refine W.via (fun f w => ∃ v17 : Value, ∃ Fx16 : (Nat → Prop), ∃ rc16 : List C1, f 0 = va0 ∧ f 1 = (.int .i64 a1) ∧ f 6 = (.int .i64 (ik1 : Int)) ∧ f 7 = v17 ∧ f 10 = rw1.1 ∧ f 14 = (.int .i64 ((a0.length : Nat) : Int)) ∧ f 15 = (.int .i64 (ik1 : Int)) ∧ f 22 = v6 ∧ f 23 = (.int .i64 ((s3.length : Nat) : Int)) ∧ f 24 = (.int .i64 (ik2 : Int)) ∧ f 28 = (.int .i64 (ik3 : Int)) ∧ Inv w0 w [ownRI (α := Int) Fx16 v17 22 rc16 s7, ownRI (α := Int) Fx6 v6 22 rc6 s3]) ?_ ?_
                    · skip
                      refine W.block ?_
                      refine W.seq ?_
                      refine W.region ?_
                      refine O.move (v := (.int .i64 (ik3 : Int))) rfl rfl rfl ?_
                      refine O.assign (v := (.int .i64 (ik3 : Int))) rfl rfl rfl ?_
                      refine WL.nil ?_
                      refine W.seq ?_
                      refine W.region ?_
                      refine O.buildEmpty (α := Int) Try.underlying22 el3 H rfl rfl ?_
                      intro b1 w2 H hb2
                      refine O.move (v := rw1.1) rfl rfl rfl ?_
                      obtain ⟨t1, ht1, hm10⟩ := bind_some hm10
                      refine O.append 2 Try.underlying22 el3 rfl H rfl (H.elemR 1 rfl hrw1) ht1 rfl rfl rfl rfl ?_
                      intro v18 w3 H
                      refine O.move (v := (.int .i64 (ik3 : Int))) rfl rfl rfl ?_
                      refine O.buildSlice (α := Int) [(.int .i64 (ik3 : Int))] [(ik3 : Int)] Try.underlying22 el3 H rfl rfl rfl rfl rfl rfl rfl ?_
                      intro v19 w4 H hb3
                      obtain ⟨t2, ht2, hm10⟩ := bind_some hm10
                      refine O.append 2 Try.underlying22 el3 rfl H rfl (H.own 3 rfl) ht2 rfl rfl rfl rfl ?_
                      intro v20 w5 H
                      refine O.assign (v := v20) rfl rfl rfl ?_
                      refine WL.nil ?_
                      refine W.seq ?_
                      obtain ⟨s8, hm11, hm10⟩ := bind_some hm10
                      refine W.via (fun f w => f 0 = va0 ∧ f 1 = (.int .i64 a1) ∧ f 6 = (.int .i64 (ik1 : Int)) ∧ f 7 = v14 ∧ f 10 = rw1.1 ∧ f 12 = v20 ∧ f 14 = (.int .i64 ((a0.length : Nat) : Int)) ∧ f 15 = (.int .i64 (ik1 : Int)) ∧ f 22 = v6 ∧ f 23 = (.int .i64 ((s3.length : Nat) : Int)) ∧ f 24 = (.int .i64 (ik2 : Int)) ∧ f 28 = (.int .i64 (ik3 : Int)) ∧ f 54 = (.bool s8) ∧ Inv w0 w [ownRI (α := Int) Fx13 v14 22 rc13 z8, ownRI (α := Int) Fx6 v6 22 rc6 s3, ownI (α := Int) v20 3 t2]) ?_ ?_
                      · skip
                        obtain ⟨t3, ht3, hm11⟩ := bind_some hm11
                        rcases ite_some hm11 with ⟨hc2, hm11⟩ | ⟨hc2, hm11⟩
                        · skip
                          obtain ⟨t4, hy1, hm11⟩ := bind_some hm11
                          rcases ite_some hm11 with ⟨hc3, hm11⟩ | ⟨hc3, hm11⟩
                          · skip
                            obtain ⟨t5, hy2, hm11⟩ := bind_some hm11
                            obtain ⟨t6, ht6, hm11⟩ := bind_some hm11
                            obtain ⟨t7, ht7, hm11⟩ := bind_some hm11
                            obtain ⟨v22, hs1, hrv22⟩ := fix_sliceH Try.underlying22 sz3 ha0 ht7
                            obtain ⟨t8, hy3, hm11⟩ := bind_some hm11
                            refine W.draw 18 (fun k v wk => match k with | 0 => v = (.int .i64 a1) | 1 => v = (.int .i64 (ik3 : Int)) | 2 => v = (.int .i64 t3) | 3 => v = (.int .i64 (bits .and .i64 t3 1)) | 4 => v = (.bool ((bits .and .i64 t3 1) == 1)) | 5 => v = (.bool true) | 6 => v = v20 | 7 => v = (.bool t4) | 8 => v = (.bool t4) | 9 => v = (.bool true) | 10 => v = v20 | 11 => OwnR w5 wk v 3 t5 | 12 => v = va0 | 13 => v = (.int .i64 (ik1 : Int)) | 14 => v = (.int .i64 t6) | 15 => v = v22 | 16 => v = (.bool t8) | 17 => v = (.bool t8) | _ => True) (by intro k v w w' h hb; match k, h with | 0, h => exact h | 1, h => exact h | 2, h => exact h | 3, h => exact h | 4, h => exact h | 5, h => exact h | 6, h => exact h | 7, h => exact h | 8, h => exact h | 9, h => exact h | 10, h => exact h | 11, h => exact OwnR.mono h hb | 12, h => exact h | 13, h => exact h | 14, h => exact h | 15, h => exact h | 16, h => exact h | 17, h => exact h | _ + 18, h => exact h) fol (by kernel_rfl) ?_ ?_
                            · skip
                              refine ⟨⟨⟨⟨⟨⟨⟨⟨⟨⟨⟨⟨⟨⟨⟨⟨⟨⟨trivial, ?_⟩, ?_⟩, ?_⟩, ?_⟩, ?_⟩, ?_⟩, ?_⟩, ?_⟩, ?_⟩, ?_⟩, ?_⟩, ?_⟩, ?_⟩, ?_⟩, ?_⟩, ?_⟩, ?_⟩, ?_⟩
                              · skip
                                intro f wk hx hf hd
                                have H := H.ext hx
                                have hf1 : f 1 = (.int .i64 a1) := hf 1 rfl
                                obtain ⟨u5, rfl⟩ : ∃ u5, f = (upd u5 1 (.int .i64 a1)) := ⟨f, by rw [upd_self hf1]⟩
                                refine O.move (v := (.int .i64 a1)) rfl rfl rfl ?_
                                refine WL.nil ?_
                                exact ⟨Below.refl _ _, _, rfl, rfl⟩
                              · skip
                                intro f wk hx hf hd
                                have H := H.ext hx
                                have hf11 : f 11 = (.int .i64 (ik3 : Int)) := hf 11 rfl
                                obtain ⟨u6, rfl⟩ : ∃ u6, f = (upd u6 11 (.int .i64 (ik3 : Int))) := ⟨f, by rw [upd_self hf11]⟩
                                refine O.move (v := (.int .i64 (ik3 : Int))) rfl rfl rfl ?_
                                refine WL.nil ?_
                                exact ⟨Below.refl _ _, _, rfl, rfl⟩
                              · skip
                                intro f wk hx hf hd
                                have H := H.ext hx
                                have hf37 : f 37 = (.int .i64 a1) := hd 0 rfl
                                have hf38 : f 38 = (.int .i64 (ik3 : Int)) := hd 1 rfl
                                obtain ⟨u7, rfl⟩ : ∃ u7, f = (upd (upd u7 37 (.int .i64 a1)) 38 (.int .i64 (ik3 : Int))) := ⟨f, by rw [upd_self hf37, upd_self hf38]⟩
                                refine O.shr rfl rfl rfl rfl ht3 ?_
                                refine WL.nil ?_
                                exact ⟨Below.refl _ _, _, rfl, rfl⟩
                              · skip
                                intro f wk hx hf hd
                                have H := H.ext hx
                                have hf39 : f 39 = (.int .i64 t3) := hd 2 rfl
                                obtain ⟨u8, rfl⟩ : ∃ u8, f = (upd u8 39 (.int .i64 t3)) := ⟨f, by rw [upd_self hf39]⟩
                                refine O.and rfl rfl rfl rfl ?_
                                refine WL.nil ?_
                                exact ⟨Below.refl _ _, _, rfl, rfl⟩
                              · skip
                                intro f wk hx hf hd
                                have H := H.ext hx
                                have hf40 : f 40 = (.int .i64 (bits .and .i64 t3 1)) := hd 3 rfl
                                obtain ⟨u9, rfl⟩ : ∃ u9, f = (upd u9 40 (.int .i64 (bits .and .i64 t3 1))) := ⟨f, by rw [upd_self hf40]⟩
                                refine O.eql rfl rfl rfl rfl ?_
                                refine WL.nil ?_
                                exact ⟨Below.refl _ _, _, rfl, rfl⟩
                              · skip
                                intro f wk hx hf hd
                                have H := H.ext hx
                                have hf41 : f 41 = (.bool ((bits .and .i64 t3 1) == 1)) := hd 4 rfl
                                obtain ⟨u10, rfl⟩ : ∃ u10, f = (upd u10 41 (.bool ((bits .and .i64 t3 1) == 1))) := ⟨f, by rw [upd_self hf41]⟩
                                refine O.move (v := (.bool ((bits .and .i64 t3 1) == 1))) rfl rfl rfl ?_
                                refine WL.nil ?_
                                exact ⟨Below.refl _ _, _, rfl, congrArg Value.bool hc2⟩
                              · skip
                                intro f wk hx hf hd
                                have H := H.ext hx
                                have hf12 : f 12 = v20 := hf 12 rfl
                                have hf42 : f 42 = (.bool true) := hd 5 rfl
                                obtain ⟨u11, rfl⟩ : ∃ u11, f = (upd (upd u11 12 v20) 42 (.bool true)) := ⟨f, by rw [upd_self hf12, upd_self hf42]⟩
                                refine O.move (v := v20) rfl rfl rfl ?_
                                refine WL.nil ?_
                                exact ⟨Below.refl _ _, _, rfl, rfl⟩
                              · skip
                                intro f wk hx hf hd
                                have H := H.ext hx
                                have hf42 : f 42 = (.bool true) := hd 5 rfl
                                have hf43 : f 43 = v20 := hd 6 rfl
                                obtain ⟨u12, rfl⟩ : ∃ u12, f = (upd (upd u12 42 (.bool true)) 43 v20) := ⟨f, by rw [upd_self hf42, upd_self hf43]⟩
                                refine O.call Try.call17 rfl rfl rfl (c_noongunref07_ValidHoist _ _ (H.own 2 rfl) hy1) ?_
                                rintro _ w6 hb4 rfl
                                have H := H.ext hb4
                                refine WL.nil ?_
                                exact ⟨hb4, _, rfl, rfl⟩
                              · skip
                                intro f wk hx hf hd
                                have H := H.ext hx
                                have hf42 : f 42 = (.bool true) := hd 5 rfl
                                have hf44 : f 44 = (.bool t4) := hd 7 rfl
                                obtain ⟨u13, rfl⟩ : ∃ u13, f = (upd (upd u13 42 (.bool true)) 44 (.bool t4)) := ⟨f, by rw [upd_self hf42, upd_self hf44]⟩
                                refine O.pick_true (v := (.bool t4)) rfl rfl rfl rfl ?_
                                refine WL.nil ?_
                                exact ⟨Below.refl _ _, _, rfl, rfl⟩
                              · skip
                                intro f wk hx hf hd
                                have H := H.ext hx
                                have hf45 : f 45 = (.bool t4) := hd 8 rfl
                                obtain ⟨u14, rfl⟩ : ∃ u14, f = (upd u14 45 (.bool t4)) := ⟨f, by rw [upd_self hf45]⟩
                                refine O.move (v := (.bool t4)) rfl rfl rfl ?_
                                refine WL.nil ?_
                                exact ⟨Below.refl _ _, _, rfl, congrArg Value.bool hc3⟩
                              · skip
                                intro f wk hx hf hd
                                have H := H.ext hx
                                have hf12 : f 12 = v20 := hf 12 rfl
                                have hf46 : f 46 = (.bool true) := hd 9 rfl
                                obtain ⟨u15, rfl⟩ : ∃ u15, f = (upd (upd u15 12 v20) 46 (.bool true)) := ⟨f, by rw [upd_self hf12, upd_self hf46]⟩
                                refine O.move (v := v20) rfl rfl rfl ?_
                                refine WL.nil ?_
                                exact ⟨Below.refl _ _, _, rfl, rfl⟩
                              · skip
                                intro f wk hx hf hd
                                have H := H.ext hx
                                have hf46 : f 46 = (.bool true) := hd 9 rfl
                                have hf47 : f 47 = v20 := hd 10 rfl
                                obtain ⟨u16, rfl⟩ : ∃ u16, f = (upd (upd u16 46 (.bool true)) 47 v20) := ⟨f, by rw [upd_self hf46, upd_self hf47]⟩
                                refine O.call Try.call35 rfl rfl rfl (c_noongunref07_means _ _ (H.own 2 rfl) hy2) ?_
                                rintro v21 w7 hb5 ho1
                                have H := H.addOwn hb5 ho1
                                refine WL.nil ?_
                                exact ⟨hb5, _, rfl, OwnR.base ho1 hx.size⟩
                              · skip
                                intro f wk hx hf hd
                                have H := H.ext hx
                                have hf0 : f 0 = va0 := hf 0 rfl
                                have hf46 : f 46 = (.bool true) := hd 9 rfl
                                obtain ⟨u17, rfl⟩ : ∃ u17, f = (upd (upd u17 0 va0) 46 (.bool true)) := ⟨f, by rw [upd_self hf0, upd_self hf46]⟩
                                refine O.move (v := va0) rfl rfl rfl ?_
                                refine WL.nil ?_
                                exact ⟨Below.refl _ _, _, rfl, rfl⟩
                              · skip
                                intro f wk hx hf hd
                                have H := H.ext hx
                                have hf6 : f 6 = (.int .i64 (ik1 : Int)) := hf 6 rfl
                                have hf46 : f 46 = (.bool true) := hd 9 rfl
                                obtain ⟨u18, rfl⟩ : ∃ u18, f = (upd (upd u18 6 (.int .i64 (ik1 : Int))) 46 (.bool true)) := ⟨f, by rw [upd_self hf6, upd_self hf46]⟩
                                refine O.move (v := (.int .i64 (ik1 : Int))) rfl rfl rfl ?_
                                refine WL.nil ?_
                                exact ⟨Below.refl _ _, _, rfl, rfl⟩
                              · skip
                                intro f wk hx hf hd
                                have H := H.ext hx
                                have hf46 : f 46 = (.bool true) := hd 9 rfl
                                have hf50 : f 50 = (.int .i64 (ik1 : Int)) := hd 13 rfl
                                obtain ⟨u19, rfl⟩ : ∃ u19, f = (upd (upd u19 46 (.bool true)) 50 (.int .i64 (ik1 : Int))) := ⟨f, by rw [upd_self hf46, upd_self hf50]⟩
                                refine O.add rfl rfl rfl rfl ht6 ?_
                                refine WL.nil ?_
                                exact ⟨Below.refl _ _, _, rfl, rfl⟩
                              · skip
                                intro f wk hx hf hd
                                have H := H.ext hx
                                have hf46 : f 46 = (.bool true) := hd 9 rfl
                                have hf49 : f 49 = va0 := hd 12 rfl
                                have hf51 : f 51 = (.int .i64 t6) := hd 14 rfl
                                obtain ⟨u20, rfl⟩ : ∃ u20, f = (upd (upd (upd u20 46 (.bool true)) 49 va0) 51 (.int .i64 t6)) := ⟨f, by rw [upd_self hf46, upd_self hf49, upd_self hf51]⟩
                                refine hrv22 rfl rfl rfl rfl ?_
                                refine WL.nil ?_
                                exact ⟨Below.refl _ _, _, rfl, rfl⟩
                              · skip
                                intro f wk hx hf hd
                                have H := H.ext hx
                                have hf46 : f 46 = (.bool true) := hd 9 rfl
                                have ho48 : OwnR w5 wk (f 48) 3 t5 := hd 11 rfl
                                obtain ⟨v21, hf48⟩ : ∃ v21, f 48 = v21 := ⟨_, rfl⟩
                                rw [hf48] at ho48
                                have hf52 : f 52 = v22 := hd 15 rfl
                                obtain ⟨u21, rfl⟩ : ∃ u21, f = (upd (upd (upd u21 46 (.bool true)) 48 v21) 52 v22) := ⟨f, by rw [upd_self hf46, upd_self hf48, upd_self hf52]⟩
                                refine O.call Try.call18 rfl rfl rfl (c_noongunref07_SameInts _ _ ho48.sliceR _ _ (H.arg hs1) hy3) ?_
                                rintro _ w8 hb6 rfl
                                have H := H.ext hb6
                                refine WL.nil ?_
                                exact ⟨hb6, _, rfl, rfl⟩
                              · skip
                                intro f wk hx hf hd
                                have H := H.ext hx
                                have hf46 : f 46 = (.bool true) := hd 9 rfl
                                have hf53 : f 53 = (.bool t8) := hd 16 rfl
                                obtain ⟨u22, rfl⟩ : ∃ u22, f = (upd (upd u22 46 (.bool true)) 53 (.bool t8)) := ⟨f, by rw [upd_self hf46, upd_self hf53]⟩
                                refine O.pick_true (v := (.bool t8)) rfl rfl rfl rfl ?_
                                refine WL.nil ?_
                                exact ⟨Below.refl _ _, _, rfl, rfl⟩
                            · skip
                              intro f wk hx hf hmd hd
                              have hf0 : f 0 = va0 := hf 0 rfl
                              have hf1 : f 1 = (.int .i64 a1) := hf 1 rfl
                              have hf6 : f 6 = (.int .i64 (ik1 : Int)) := hf 6 rfl
                              have hf7 : f 7 = v14 := hf 7 rfl
                              have hf10 : f 10 = rw1.1 := hf 10 rfl
                              have hf12 : f 12 = v20 := hf 12 rfl
                              have hf14 : f 14 = (.int .i64 ((a0.length : Nat) : Int)) := hf 14 rfl
                              have hf15 : f 15 = (.int .i64 (ik1 : Int)) := hf 15 rfl
                              have hf22 : f 22 = v6 := hf 22 rfl
                              have hf23 : f 23 = (.int .i64 ((s3.length : Nat) : Int)) := hf 23 rfl
                              have hf24 : f 24 = (.int .i64 (ik2 : Int)) := hf 24 rfl
                              have hf28 : f 28 = (.int .i64 (ik3 : Int)) := hf 28 rfl
                              have hf43 : f 43 = v20 := hd 6 rfl
                              have hf44 : f 44 = (.bool t4) := hd 7 rfl
                              have hf47 : f 47 = v20 := hd 10 rfl
                              have ho48 : OwnR w5 wk (f 48) 3 t5 := hd 11 rfl
                              obtain ⟨v21, hf48⟩ : ∃ v21, f 48 = v21 := ⟨_, rfl⟩
                              rw [hf48] at ho48
                              have hf49 : f 49 = va0 := hd 12 rfl
                              have hf50 : f 50 = (.int .i64 (ik1 : Int)) := hd 13 rfl
                              have hf51 : f 51 = (.int .i64 t6) := hd 14 rfl
                              have hf52 : f 52 = v22 := hd 15 rfl
                              have hf53 : f 53 = (.bool t8) := hd 16 rfl
                              have hf54 : f 54 = (.bool t8) := hd 17 rfl
                              have H := H.addOwn hx ho48
                              obtain ⟨u23, rfl⟩ : ∃ u23, f = (upd (upd (upd (upd (upd (upd (upd (upd (upd (upd (upd (upd (upd (upd (upd (upd (upd (upd (upd (upd (upd (upd u23 0 va0) 1 (.int .i64 a1)) 6 (.int .i64 (ik1 : Int))) 7 v14) 10 rw1.1) 12 v20) 14 (.int .i64 ((a0.length : Nat) : Int))) 15 (.int .i64 (ik1 : Int))) 22 v6) 23 (.int .i64 ((s3.length : Nat) : Int))) 24 (.int .i64 (ik2 : Int))) 28 (.int .i64 (ik3 : Int))) 43 v20) 44 (.bool t4)) 47 v20) 48 v21) 49 va0) 50 (.int .i64 (ik1 : Int))) 51 (.int .i64 t6)) 52 v22) 53 (.bool t8)) 54 (.bool t8)) := ⟨f, by rw [upd_self hf0, upd_self hf1, upd_self hf6, upd_self hf7, upd_self hf10, upd_self hf12, upd_self hf14, upd_self hf15, upd_self hf22, upd_self hf23, upd_self hf24, upd_self hf28, upd_self hf43, upd_self hf44, upd_self hf47, upd_self hf48, upd_self hf49, upd_self hf50, upd_self hf51, upd_self hf52, upd_self hf53, upd_self hf54]⟩
                              refine WL.nil ?_
                              have H := H.keep [0, 1, 2] [ownRI (α := Int) Fx13 v14 22 rc13 z8, ownRI (α := Int) Fx6 v6 22 rc6 s3, ownI (α := Int) v20 3 t2] rfl (by decide)
                              have hq : t8 = s8 := Option.some.inj (show some t8 = some s8 from hm11)
                              subst hq
                              exact ⟨rfl, rfl, rfl, rfl, rfl, rfl, rfl, rfl, rfl, rfl, rfl, rfl, rfl, H⟩
                          · skip
                            refine W.draw 18 (fun k v wk => match k with | 0 => v = (.int .i64 a1) | 1 => v = (.int .i64 (ik3 : Int)) | 2 => v = (.int .i64 t3) | 3 => v = (.int .i64 (bits .and .i64 t3 1)) | 4 => v = (.bool ((bits .and .i64 t3 1) == 1)) | 5 => v = (.bool true) | 6 => v = v20 | 7 => v = (.bool t4) | 8 => v = (.bool t4) | 9 => v = (.bool false) | 10 => v = undef | 11 => v = undef | 12 => v = undef | 13 => v = undef | 14 => v = undef | 15 => v = undef | 16 => v = undef | 17 => v = (.bool false) | _ => True) (by intro k v w w' h hb; match k, h with | 0, h => exact h | 1, h => exact h | 2, h => exact h | 3, h => exact h | 4, h => exact h | 5, h => exact h | 6, h => exact h | 7, h => exact h | 8, h => exact h | 9, h => exact h | 10, h => exact h | 11, h => exact h | 12, h => exact h | 13, h => exact h | 14, h => exact h | 15, h => exact h | 16, h => exact h | 17, h => exact h | _ + 18, h => exact h) fol (by kernel_rfl) ?_ ?_
                            · skip
                              refine ⟨⟨⟨⟨⟨⟨⟨⟨⟨⟨⟨⟨⟨⟨⟨⟨⟨⟨trivial, ?_⟩, ?_⟩, ?_⟩, ?_⟩, ?_⟩, ?_⟩, ?_⟩, ?_⟩, ?_⟩, ?_⟩, ?_⟩, ?_⟩, ?_⟩, ?_⟩, ?_⟩, ?_⟩, ?_⟩, ?_⟩
                              · skip
                                intro f wk hx hf hd
                                have H := H.ext hx
                                have hf1 : f 1 = (.int .i64 a1) := hf 1 rfl
                                obtain ⟨u24, rfl⟩ : ∃ u24, f = (upd u24 1 (.int .i64 a1)) := ⟨f, by rw [upd_self hf1]⟩
                                refine O.move (v := (.int .i64 a1)) rfl rfl rfl ?_
                                refine WL.nil ?_
                                exact ⟨Below.refl _ _, _, rfl, rfl⟩
                              · skip
                                intro f wk hx hf hd
                                have H := H.ext hx
                                have hf11 : f 11 = (.int .i64 (ik3 : Int)) := hf 11 rfl
                                obtain ⟨u25, rfl⟩ : ∃ u25, f = (upd u25 11 (.int .i64 (ik3 : Int))) := ⟨f, by rw [upd_self hf11]⟩
                                refine O.move (v := (.int .i64 (ik3 : Int))) rfl rfl rfl ?_
                                refine WL.nil ?_
                                exact ⟨Below.refl _ _, _, rfl, rfl⟩
                              · skip
                                intro f wk hx hf hd
                                have H := H.ext hx
                                have hf37 : f 37 = (.int .i64 a1) := hd 0 rfl
                                have hf38 : f 38 = (.int .i64 (ik3 : Int)) := hd 1 rfl
                                obtain ⟨u26, rfl⟩ : ∃ u26, f = (upd (upd u26 37 (.int .i64 a1)) 38 (.int .i64 (ik3 : Int))) := ⟨f, by rw [upd_self hf37, upd_self hf38]⟩
                                refine O.shr rfl rfl rfl rfl ht3 ?_
                                refine WL.nil ?_
                                exact ⟨Below.refl _ _, _, rfl, rfl⟩
                              · skip
                                intro f wk hx hf hd
                                have H := H.ext hx
                                have hf39 : f 39 = (.int .i64 t3) := hd 2 rfl
                                obtain ⟨u27, rfl⟩ : ∃ u27, f = (upd u27 39 (.int .i64 t3)) := ⟨f, by rw [upd_self hf39]⟩
                                refine O.and rfl rfl rfl rfl ?_
                                refine WL.nil ?_
                                exact ⟨Below.refl _ _, _, rfl, rfl⟩
                              · skip
                                intro f wk hx hf hd
                                have H := H.ext hx
                                have hf40 : f 40 = (.int .i64 (bits .and .i64 t3 1)) := hd 3 rfl
                                obtain ⟨u28, rfl⟩ : ∃ u28, f = (upd u28 40 (.int .i64 (bits .and .i64 t3 1))) := ⟨f, by rw [upd_self hf40]⟩
                                refine O.eql rfl rfl rfl rfl ?_
                                refine WL.nil ?_
                                exact ⟨Below.refl _ _, _, rfl, rfl⟩
                              · skip
                                intro f wk hx hf hd
                                have H := H.ext hx
                                have hf41 : f 41 = (.bool ((bits .and .i64 t3 1) == 1)) := hd 4 rfl
                                obtain ⟨u29, rfl⟩ : ∃ u29, f = (upd u29 41 (.bool ((bits .and .i64 t3 1) == 1))) := ⟨f, by rw [upd_self hf41]⟩
                                refine O.move (v := (.bool ((bits .and .i64 t3 1) == 1))) rfl rfl rfl ?_
                                refine WL.nil ?_
                                exact ⟨Below.refl _ _, _, rfl, congrArg Value.bool hc2⟩
                              · skip
                                intro f wk hx hf hd
                                have H := H.ext hx
                                have hf12 : f 12 = v20 := hf 12 rfl
                                have hf42 : f 42 = (.bool true) := hd 5 rfl
                                obtain ⟨u30, rfl⟩ : ∃ u30, f = (upd (upd u30 12 v20) 42 (.bool true)) := ⟨f, by rw [upd_self hf12, upd_self hf42]⟩
                                refine O.move (v := v20) rfl rfl rfl ?_
                                refine WL.nil ?_
                                exact ⟨Below.refl _ _, _, rfl, rfl⟩
                              · skip
                                intro f wk hx hf hd
                                have H := H.ext hx
                                have hf42 : f 42 = (.bool true) := hd 5 rfl
                                have hf43 : f 43 = v20 := hd 6 rfl
                                obtain ⟨u31, rfl⟩ : ∃ u31, f = (upd (upd u31 42 (.bool true)) 43 v20) := ⟨f, by rw [upd_self hf42, upd_self hf43]⟩
                                refine O.call Try.call17 rfl rfl rfl (c_noongunref07_ValidHoist _ _ (H.own 2 rfl) hy1) ?_
                                rintro _ w6 hb4 rfl
                                have H := H.ext hb4
                                refine WL.nil ?_
                                exact ⟨hb4, _, rfl, rfl⟩
                              · skip
                                intro f wk hx hf hd
                                have H := H.ext hx
                                have hf42 : f 42 = (.bool true) := hd 5 rfl
                                have hf44 : f 44 = (.bool t4) := hd 7 rfl
                                obtain ⟨u32, rfl⟩ : ∃ u32, f = (upd (upd u32 42 (.bool true)) 44 (.bool t4)) := ⟨f, by rw [upd_self hf42, upd_self hf44]⟩
                                refine O.pick_true (v := (.bool t4)) rfl rfl rfl rfl ?_
                                refine WL.nil ?_
                                exact ⟨Below.refl _ _, _, rfl, rfl⟩
                              · skip
                                intro f wk hx hf hd
                                have H := H.ext hx
                                have hf45 : f 45 = (.bool t4) := hd 8 rfl
                                obtain ⟨u33, rfl⟩ : ∃ u33, f = (upd u33 45 (.bool t4)) := ⟨f, by rw [upd_self hf45]⟩
                                refine O.move (v := (.bool t4)) rfl rfl rfl ?_
                                refine WL.nil ?_
                                exact ⟨Below.refl _ _, _, rfl, congrArg Value.bool hc3⟩
                              · skip
                                intro f wk hx hf hd
                                have H := H.ext hx
                                have hf46 : f 46 = (.bool false) := hd 9 rfl
                                obtain ⟨u34, rfl⟩ : ∃ u34, f = (upd u34 46 (.bool false)) := ⟨f, by rw [upd_self hf46]⟩
                                refine O.skip rfl rfl ?_
                                refine WL.nil ?_
                                exact ⟨Below.refl _ _, _, rfl, rfl⟩
                              · skip
                                intro f wk hx hf hd
                                have H := H.ext hx
                                have hf46 : f 46 = (.bool false) := hd 9 rfl
                                obtain ⟨u35, rfl⟩ : ∃ u35, f = (upd u35 46 (.bool false)) := ⟨f, by rw [upd_self hf46]⟩
                                refine O.skip rfl rfl ?_
                                refine WL.nil ?_
                                exact ⟨Below.refl _ _, _, rfl, rfl⟩
                              · skip
                                intro f wk hx hf hd
                                have H := H.ext hx
                                have hf46 : f 46 = (.bool false) := hd 9 rfl
                                obtain ⟨u36, rfl⟩ : ∃ u36, f = (upd u36 46 (.bool false)) := ⟨f, by rw [upd_self hf46]⟩
                                refine O.skip rfl rfl ?_
                                refine WL.nil ?_
                                exact ⟨Below.refl _ _, _, rfl, rfl⟩
                              · skip
                                intro f wk hx hf hd
                                have H := H.ext hx
                                have hf46 : f 46 = (.bool false) := hd 9 rfl
                                obtain ⟨u37, rfl⟩ : ∃ u37, f = (upd u37 46 (.bool false)) := ⟨f, by rw [upd_self hf46]⟩
                                refine O.skip rfl rfl ?_
                                refine WL.nil ?_
                                exact ⟨Below.refl _ _, _, rfl, rfl⟩
                              · skip
                                intro f wk hx hf hd
                                have H := H.ext hx
                                have hf46 : f 46 = (.bool false) := hd 9 rfl
                                obtain ⟨u38, rfl⟩ : ∃ u38, f = (upd u38 46 (.bool false)) := ⟨f, by rw [upd_self hf46]⟩
                                refine O.skip rfl rfl ?_
                                refine WL.nil ?_
                                exact ⟨Below.refl _ _, _, rfl, rfl⟩
                              · skip
                                intro f wk hx hf hd
                                have H := H.ext hx
                                have hf46 : f 46 = (.bool false) := hd 9 rfl
                                obtain ⟨u39, rfl⟩ : ∃ u39, f = (upd u39 46 (.bool false)) := ⟨f, by rw [upd_self hf46]⟩
                                refine O.skip rfl rfl ?_
                                refine WL.nil ?_
                                exact ⟨Below.refl _ _, _, rfl, rfl⟩
                              · skip
                                intro f wk hx hf hd
                                have H := H.ext hx
                                have hf46 : f 46 = (.bool false) := hd 9 rfl
                                obtain ⟨u40, rfl⟩ : ∃ u40, f = (upd u40 46 (.bool false)) := ⟨f, by rw [upd_self hf46]⟩
                                refine O.skip rfl rfl ?_
                                refine WL.nil ?_
                                exact ⟨Below.refl _ _, _, rfl, rfl⟩
                              · skip
                                intro f wk hx hf hd
                                have H := H.ext hx
                                have hf46 : f 46 = (.bool false) := hd 9 rfl
                                have hf53 : f 53 = undef := hd 16 rfl
                                obtain ⟨u41, rfl⟩ : ∃ u41, f = (upd (upd u41 46 (.bool false)) 53 undef) := ⟨f, by rw [upd_self hf46, upd_self hf53]⟩
                                refine O.pick_false (v := (.bool false)) rfl rfl rfl rfl ?_
                                refine WL.nil ?_
                                exact ⟨Below.refl _ _, _, rfl, rfl⟩
                            · skip
                              intro f wk hx hf hmd hd
                              have hf0 : f 0 = va0 := hf 0 rfl
                              have hf1 : f 1 = (.int .i64 a1) := hf 1 rfl
                              have hf6 : f 6 = (.int .i64 (ik1 : Int)) := hf 6 rfl
                              have hf7 : f 7 = v14 := hf 7 rfl
                              have hf10 : f 10 = rw1.1 := hf 10 rfl
                              have hf12 : f 12 = v20 := hf 12 rfl
                              have hf14 : f 14 = (.int .i64 ((a0.length : Nat) : Int)) := hf 14 rfl
                              have hf15 : f 15 = (.int .i64 (ik1 : Int)) := hf 15 rfl
                              have hf22 : f 22 = v6 := hf 22 rfl
                              have hf23 : f 23 = (.int .i64 ((s3.length : Nat) : Int)) := hf 23 rfl
                              have hf24 : f 24 = (.int .i64 (ik2 : Int)) := hf 24 rfl
                              have hf28 : f 28 = (.int .i64 (ik3 : Int)) := hf 28 rfl
                              have hf43 : f 43 = v20 := hd 6 rfl
                              have hf44 : f 44 = (.bool t4) := hd 7 rfl
                              have hf47 : f 47 = undef := hd 10 rfl
                              have hf48 : f 48 = undef := hd 11 rfl
                              have hf49 : f 49 = undef := hd 12 rfl
                              have hf50 : f 50 = undef := hd 13 rfl
                              have hf51 : f 51 = undef := hd 14 rfl
                              have hf52 : f 52 = undef := hd 15 rfl
                              have hf53 : f 53 = undef := hd 16 rfl
                              have hf54 : f 54 = (.bool false) := hd 17 rfl
                              have H := H.ext hx
                              obtain ⟨u42, rfl⟩ : ∃ u42, f = (upd (upd (upd (upd (upd (upd (upd (upd (upd (upd (upd (upd (upd (upd (upd (upd (upd (upd (upd (upd (upd (upd u42 0 va0) 1 (.int .i64 a1)) 6 (.int .i64 (ik1 : Int))) 7 v14) 10 rw1.1) 12 v20) 14 (.int .i64 ((a0.length : Nat) : Int))) 15 (.int .i64 (ik1 : Int))) 22 v6) 23 (.int .i64 ((s3.length : Nat) : Int))) 24 (.int .i64 (ik2 : Int))) 28 (.int .i64 (ik3 : Int))) 43 v20) 44 (.bool t4)) 47 undef) 48 undef) 49 undef) 50 undef) 51 undef) 52 undef) 53 undef) 54 (.bool false)) := ⟨f, by rw [upd_self hf0, upd_self hf1, upd_self hf6, upd_self hf7, upd_self hf10, upd_self hf12, upd_self hf14, upd_self hf15, upd_self hf22, upd_self hf23, upd_self hf24, upd_self hf28, upd_self hf43, upd_self hf44, upd_self hf47, upd_self hf48, upd_self hf49, upd_self hf50, upd_self hf51, upd_self hf52, upd_self hf53, upd_self hf54]⟩
                              refine WL.nil ?_
                              have H := H.keep [0, 1, 2] [ownRI (α := Int) Fx13 v14 22 rc13 z8, ownRI (α := Int) Fx6 v6 22 rc6 s3, ownI (α := Int) v20 3 t2] rfl (by decide)
                              have hq : false = s8 := Option.some.inj (show some false = some s8 from hm11)
                              subst hq
                              exact ⟨rfl, rfl, rfl, rfl, rfl, rfl, rfl, rfl, rfl, rfl, rfl, rfl, rfl, H⟩
                        · skip
                          refine W.draw 18 (fun k v wk => match k with | 0 => v = (.int .i64 a1) | 1 => v = (.int .i64 (ik3 : Int)) | 2 => v = (.int .i64 t3) | 3 => v = (.int .i64 (bits .and .i64 t3 1)) | 4 => v = (.bool ((bits .and .i64 t3 1) == 1)) | 5 => v = (.bool false) | 6 => v = undef | 7 => v = undef | 8 => v = (.bool false) | 9 => v = (.bool false) | 10 => v = undef | 11 => v = undef | 12 => v = undef | 13 => v = undef | 14 => v = undef | 15 => v = undef | 16 => v = undef | 17 => v = (.bool false) | _ => True) (by intro k v w w' h hb; match k, h with | 0, h => exact h | 1, h => exact h | 2, h => exact h | 3, h => exact h | 4, h => exact h | 5, h => exact h | 6, h => exact h | 7, h => exact h | 8, h => exact h | 9, h => exact h | 10, h => exact h | 11, h => exact h | 12, h => exact h | 13, h => exact h | 14, h => exact h | 15, h => exact h | 16, h => exact h | 17, h => exact h | _ + 18, h => exact h) fol (by kernel_rfl) ?_ ?_
                          · skip
                            refine ⟨⟨⟨⟨⟨⟨⟨⟨⟨⟨⟨⟨⟨⟨⟨⟨⟨⟨trivial, ?_⟩, ?_⟩, ?_⟩, ?_⟩, ?_⟩, ?_⟩, ?_⟩, ?_⟩, ?_⟩, ?_⟩, ?_⟩, ?_⟩, ?_⟩, ?_⟩, ?_⟩, ?_⟩, ?_⟩, ?_⟩
                            · skip
                              intro f wk hx hf hd
                              have H := H.ext hx
                              have hf1 : f 1 = (.int .i64 a1) := hf 1 rfl
                              obtain ⟨u43, rfl⟩ : ∃ u43, f = (upd u43 1 (.int .i64 a1)) := ⟨f, by rw [upd_self hf1]⟩
                              refine O.move (v := (.int .i64 a1)) rfl rfl rfl ?_
                              refine WL.nil ?_
                              exact ⟨Below.refl _ _, _, rfl, rfl⟩
                            · skip
                              intro f wk hx hf hd
                              have H := H.ext hx
                              have hf11 : f 11 = (.int .i64 (ik3 : Int)) := hf 11 rfl
                              obtain ⟨u44, rfl⟩ : ∃ u44, f = (upd u44 11 (.int .i64 (ik3 : Int))) := ⟨f, by rw [upd_self hf11]⟩
                              refine O.move (v := (.int .i64 (ik3 : Int))) rfl rfl rfl ?_
                              refine WL.nil ?_
                              exact ⟨Below.refl _ _, _, rfl, rfl⟩
                            · skip
                              intro f wk hx hf hd
                              have H := H.ext hx
                              have hf37 : f 37 = (.int .i64 a1) := hd 0 rfl
                              have hf38 : f 38 = (.int .i64 (ik3 : Int)) := hd 1 rfl
                              obtain ⟨u45, rfl⟩ : ∃ u45, f = (upd (upd u45 37 (.int .i64 a1)) 38 (.int .i64 (ik3 : Int))) := ⟨f, by rw [upd_self hf37, upd_self hf38]⟩
                              refine O.shr rfl rfl rfl rfl ht3 ?_
                              refine WL.nil ?_
                              exact ⟨Below.refl _ _, _, rfl, rfl⟩
                            · skip
                              intro f wk hx hf hd
                              have H := H.ext hx
                              have hf39 : f 39 = (.int .i64 t3) := hd 2 rfl
                              obtain ⟨u46, rfl⟩ : ∃ u46, f = (upd u46 39 (.int .i64 t3)) := ⟨f, by rw [upd_self hf39]⟩
                              refine O.and rfl rfl rfl rfl ?_
                              refine WL.nil ?_
                              exact ⟨Below.refl _ _, _, rfl, rfl⟩
                            · skip
                              intro f wk hx hf hd
                              have H := H.ext hx
                              have hf40 : f 40 = (.int .i64 (bits .and .i64 t3 1)) := hd 3 rfl
                              obtain ⟨u47, rfl⟩ : ∃ u47, f = (upd u47 40 (.int .i64 (bits .and .i64 t3 1))) := ⟨f, by rw [upd_self hf40]⟩
                              refine O.eql rfl rfl rfl rfl ?_
                              refine WL.nil ?_
                              exact ⟨Below.refl _ _, _, rfl, rfl⟩
                            · skip
                              intro f wk hx hf hd
                              have H := H.ext hx
                              have hf41 : f 41 = (.bool ((bits .and .i64 t3 1) == 1)) := hd 4 rfl
                              obtain ⟨u48, rfl⟩ : ∃ u48, f = (upd u48 41 (.bool ((bits .and .i64 t3 1) == 1))) := ⟨f, by rw [upd_self hf41]⟩
                              refine O.move (v := (.bool ((bits .and .i64 t3 1) == 1))) rfl rfl rfl ?_
                              refine WL.nil ?_
                              exact ⟨Below.refl _ _, _, rfl, congrArg Value.bool hc2⟩
                            · skip
                              intro f wk hx hf hd
                              have H := H.ext hx
                              have hf42 : f 42 = (.bool false) := hd 5 rfl
                              obtain ⟨u49, rfl⟩ : ∃ u49, f = (upd u49 42 (.bool false)) := ⟨f, by rw [upd_self hf42]⟩
                              refine O.skip rfl rfl ?_
                              refine WL.nil ?_
                              exact ⟨Below.refl _ _, _, rfl, rfl⟩
                            · skip
                              intro f wk hx hf hd
                              have H := H.ext hx
                              have hf42 : f 42 = (.bool false) := hd 5 rfl
                              obtain ⟨u50, rfl⟩ : ∃ u50, f = (upd u50 42 (.bool false)) := ⟨f, by rw [upd_self hf42]⟩
                              refine O.skip rfl rfl ?_
                              refine WL.nil ?_
                              exact ⟨Below.refl _ _, _, rfl, rfl⟩
                            · skip
                              intro f wk hx hf hd
                              have H := H.ext hx
                              have hf42 : f 42 = (.bool false) := hd 5 rfl
                              have hf44 : f 44 = undef := hd 7 rfl
                              obtain ⟨u51, rfl⟩ : ∃ u51, f = (upd (upd u51 42 (.bool false)) 44 undef) := ⟨f, by rw [upd_self hf42, upd_self hf44]⟩
                              refine O.pick_false (v := (.bool false)) rfl rfl rfl rfl ?_
                              refine WL.nil ?_
                              exact ⟨Below.refl _ _, _, rfl, rfl⟩
                            · skip
                              intro f wk hx hf hd
                              have H := H.ext hx
                              have hf45 : f 45 = (.bool false) := hd 8 rfl
                              obtain ⟨u52, rfl⟩ : ∃ u52, f = (upd u52 45 (.bool false)) := ⟨f, by rw [upd_self hf45]⟩
                              refine O.move (v := (.bool false)) rfl rfl rfl ?_
                              refine WL.nil ?_
                              exact ⟨Below.refl _ _, _, rfl, rfl⟩
                            · skip
                              intro f wk hx hf hd
                              have H := H.ext hx
                              have hf46 : f 46 = (.bool false) := hd 9 rfl
                              obtain ⟨u53, rfl⟩ : ∃ u53, f = (upd u53 46 (.bool false)) := ⟨f, by rw [upd_self hf46]⟩
                              refine O.skip rfl rfl ?_
                              refine WL.nil ?_
                              exact ⟨Below.refl _ _, _, rfl, rfl⟩
                            · skip
                              intro f wk hx hf hd
                              have H := H.ext hx
                              have hf46 : f 46 = (.bool false) := hd 9 rfl
                              obtain ⟨u54, rfl⟩ : ∃ u54, f = (upd u54 46 (.bool false)) := ⟨f, by rw [upd_self hf46]⟩
                              refine O.skip rfl rfl ?_
                              refine WL.nil ?_
                              exact ⟨Below.refl _ _, _, rfl, rfl⟩
                            · skip
                              intro f wk hx hf hd
                              have H := H.ext hx
                              have hf46 : f 46 = (.bool false) := hd 9 rfl
                              obtain ⟨u55, rfl⟩ : ∃ u55, f = (upd u55 46 (.bool false)) := ⟨f, by rw [upd_self hf46]⟩
                              refine O.skip rfl rfl ?_
                              refine WL.nil ?_
                              exact ⟨Below.refl _ _, _, rfl, rfl⟩
                            · skip
                              intro f wk hx hf hd
                              have H := H.ext hx
                              have hf46 : f 46 = (.bool false) := hd 9 rfl
                              obtain ⟨u56, rfl⟩ : ∃ u56, f = (upd u56 46 (.bool false)) := ⟨f, by rw [upd_self hf46]⟩
                              refine O.skip rfl rfl ?_
                              refine WL.nil ?_
                              exact ⟨Below.refl _ _, _, rfl, rfl⟩
                            · skip
                              intro f wk hx hf hd
                              have H := H.ext hx
                              have hf46 : f 46 = (.bool false) := hd 9 rfl
                              obtain ⟨u57, rfl⟩ : ∃ u57, f = (upd u57 46 (.bool false)) := ⟨f, by rw [upd_self hf46]⟩
                              refine O.skip rfl rfl ?_
                              refine WL.nil ?_
                              exact ⟨Below.refl _ _, _, rfl, rfl⟩
                            · skip
                              intro f wk hx hf hd
                              have H := H.ext hx
                              have hf46 : f 46 = (.bool false) := hd 9 rfl
                              obtain ⟨u58, rfl⟩ : ∃ u58, f = (upd u58 46 (.bool false)) := ⟨f, by rw [upd_self hf46]⟩
                              refine O.skip rfl rfl ?_
                              refine WL.nil ?_
                              exact ⟨Below.refl _ _, _, rfl, rfl⟩
                            · skip
                              intro f wk hx hf hd
                              have H := H.ext hx
                              have hf46 : f 46 = (.bool false) := hd 9 rfl
                              obtain ⟨u59, rfl⟩ : ∃ u59, f = (upd u59 46 (.bool false)) := ⟨f, by rw [upd_self hf46]⟩
                              refine O.skip rfl rfl ?_
                              refine WL.nil ?_
                              exact ⟨Below.refl _ _, _, rfl, rfl⟩
                            · skip
                              intro f wk hx hf hd
                              have H := H.ext hx
                              have hf46 : f 46 = (.bool false) := hd 9 rfl
                              have hf53 : f 53 = undef := hd 16 rfl
                              obtain ⟨u60, rfl⟩ : ∃ u60, f = (upd (upd u60 46 (.bool false)) 53 undef) := ⟨f, by rw [upd_self hf46, upd_self hf53]⟩
                              refine O.pick_false (v := (.bool false)) rfl rfl rfl rfl ?_
                              refine WL.nil ?_
                              exact ⟨Below.refl _ _, _, rfl, rfl⟩
                          · skip
                            intro f wk hx hf hmd hd
                            have hf0 : f 0 = va0 := hf 0 rfl
                            have hf1 : f 1 = (.int .i64 a1) := hf 1 rfl
                            have hf6 : f 6 = (.int .i64 (ik1 : Int)) := hf 6 rfl
                            have hf7 : f 7 = v14 := hf 7 rfl
                            have hf10 : f 10 = rw1.1 := hf 10 rfl
                            have hf12 : f 12 = v20 := hf 12 rfl
                            have hf14 : f 14 = (.int .i64 ((a0.length : Nat) : Int)) := hf 14 rfl
                            have hf15 : f 15 = (.int .i64 (ik1 : Int)) := hf 15 rfl
                            have hf22 : f 22 = v6 := hf 22 rfl
                            have hf23 : f 23 = (.int .i64 ((s3.length : Nat) : Int)) := hf 23 rfl
                            have hf24 : f 24 = (.int .i64 (ik2 : Int)) := hf 24 rfl
                            have hf28 : f 28 = (.int .i64 (ik3 : Int)) := hf 28 rfl
                            have hf43 : f 43 = undef := hd 6 rfl
                            have hf44 : f 44 = undef := hd 7 rfl
                            have hf47 : f 47 = undef := hd 10 rfl
                            have hf48 : f 48 = undef := hd 11 rfl
                            have hf49 : f 49 = undef := hd 12 rfl
                            have hf50 : f 50 = undef := hd 13 rfl
                            have hf51 : f 51 = undef := hd 14 rfl
                            have hf52 : f 52 = undef := hd 15 rfl
                            have hf53 : f 53 = undef := hd 16 rfl
                            have hf54 : f 54 = (.bool false) := hd 17 rfl
                            have H := H.ext hx
                            obtain ⟨u61, rfl⟩ : ∃ u61, f = (upd (upd (upd (upd (upd (upd (upd (upd (upd (upd (upd (upd (upd (upd (upd (upd (upd (upd (upd (upd (upd (upd u61 0 va0) 1 (.int .i64 a1)) 6 (.int .i64 (ik1 : Int))) 7 v14) 10 rw1.1) 12 v20) 14 (.int .i64 ((a0.length : Nat) : Int))) 15 (.int .i64 (ik1 : Int))) 22 v6) 23 (.int .i64 ((s3.length : Nat) : Int))) 24 (.int .i64 (ik2 : Int))) 28 (.int .i64 (ik3 : Int))) 43 undef) 44 undef) 47 undef) 48 undef) 49 undef) 50 undef) 51 undef) 52 undef) 53 undef) 54 (.bool false)) := ⟨f, by rw [upd_self hf0, upd_self hf1, upd_self hf6, upd_self hf7, upd_self hf10, upd_self hf12, upd_self hf14, upd_self hf15, upd_self hf22, upd_self hf23, upd_self hf24, upd_self hf28, upd_self hf43, upd_self hf44, upd_self hf47, upd_self hf48, upd_self hf49, upd_self hf50, upd_self hf51, upd_self hf52, upd_self hf53, upd_self hf54]⟩
                            refine WL.nil ?_
                            have H := H.keep [0, 1, 2] [ownRI (α := Int) Fx13 v14 22 rc13 z8, ownRI (α := Int) Fx6 v6 22 rc6 s3, ownI (α := Int) v20 3 t2] rfl (by decide)
                            have hq : false = s8 := Option.some.inj (show some false = some s8 from hm11)
                            subst hq
                            exact ⟨rfl, rfl, rfl, rfl, rfl, rfl, rfl, rfl, rfl, rfl, rfl, rfl, rfl, H⟩
                      · skip
                        rintro f w ⟨hf0, hf1, hf6, hf7, hf10, hf12, hf14, hf15, hf22, hf23, hf24, hf28, hf54, H⟩
                        obtain ⟨u62, rfl⟩ : ∃ u62, f = (upd (upd (upd (upd (upd (upd (upd (upd (upd (upd (upd (upd (upd u62 0 va0) 1 (.int .i64 a1)) 6 (.int .i64 (ik1 : Int))) 7 v14) 10 rw1.1) 12 v20) 14 (.int .i64 ((a0.length : Nat) : Int))) 15 (.int .i64 (ik1 : Int))) 22 v6) 23 (.int .i64 ((s3.length : Nat) : Int))) 24 (.int .i64 (ik2 : Int))) 28 (.int .i64 (ik3 : Int))) 54 (.bool s8)) := ⟨f, by rw [upd_self hf0, upd_self hf1, upd_self hf6, upd_self hf7, upd_self hf10, upd_self hf12, upd_self hf14, upd_self hf15, upd_self hf22, upd_self hf23, upd_self hf24, upd_self hf28, upd_self hf54]⟩
                        obtain ⟨s9, hm12, hm10⟩ := bind_some hm10
                        refine W.via (fun f w => ∃ v23 : Value, ∃ Fx17 : (Nat → Prop), ∃ rc17 : List C1, f 0 = va0 ∧ f 1 = (.int .i64 a1) ∧ f 6 = (.int .i64 (ik1 : Int)) ∧ f 7 = v23 ∧ f 10 = rw1.1 ∧ f 14 = (.int .i64 ((a0.length : Nat) : Int)) ∧ f 15 = (.int .i64 (ik1 : Int)) ∧ f 22 = v6 ∧ f 23 = (.int .i64 ((s3.length : Nat) : Int)) ∧ f 24 = (.int .i64 (ik2 : Int)) ∧ f 28 = (.int .i64 (ik3 : Int)) ∧ Inv w0 w [ownRI (α := Int) Fx17 v23 22 rc17 s9, ownRI (α := Int) Fx6 v6 22 rc6 s3]) ?_ ?_
                        · skip
                          rcases ite_some hm12 with ⟨hc4, hm12⟩ | ⟨hc4, hm12⟩
                          · refine W.cond_true (congrArg Value.bool hc4) ?_
                            refine W.region ?_
                            refine O.move (v := v14) rfl rfl rfl ?_
                            refine O.move (v := v20) rfl rfl rfl ?_
                            have ho2 := SliceR.one (H.own 2 rfl)
                            refine O.buildSlice (α := C1) [v20] [⟨v20, ho2⟩] Try.underlying36 el22 H rfl rfl rfl rfl (lit1_cells ho2) rfl rfl ?_
                            intro v24 w9 H hb7
                            have H := H.litOwn (α := Int) 3 2 (by decide) rfl rfl rfl
                            obtain ⟨t9, ht9, hm12⟩ := bind_some hm12
                            refine O.appendR 0 3 (by decide) Try.underlying36 el22 rfl H rfl rfl ht9 rfl rfl rfl rfl ?_
                            intro v25 w10 Fx18 rc18 H
                            refine O.assign (v := v25) rfl rfl rfl ?_
                            refine WL.nil ?_
                            have H := H.keep [0, 1] [ownRI (α := Int) Fx18 v25 22 rc18 t9, ownRI (α := Int) Fx6 v6 22 rc6 s3] rfl (by decide)
                            have hq : t9 = s9 := Option.some.inj (show some t9 = some s9 from hm12)
                            subst hq
                            exact ⟨v25, Fx18, rc18, rfl, rfl, rfl, rfl, rfl, rfl, rfl, rfl, rfl, rfl, rfl, H⟩
                          · refine W.cond_false (congrArg Value.bool hc4) ?_
                            refine W.skip ?_
                            have H := H.keep [0, 1] [ownRI (α := Int) Fx13 v14 22 rc13 z8, ownRI (α := Int) Fx6 v6 22 rc6 s3] rfl (by decide)
                            have hq : z8 = s9 := Option.some.inj (show some z8 = some s9 from hm12)
                            subst hq
                            exact ⟨v14, Fx13, rc13, rfl, rfl, rfl, rfl, rfl, rfl, rfl, rfl, rfl, rfl, rfl, H⟩
                        · skip
                          rintro f w ⟨v23, Fx17, rc17, hf0, hf1, hf6, hf7, hf10, hf14, hf15, hf22, hf23, hf24, hf28, H⟩
                          obtain ⟨u63, rfl⟩ : ∃ u63, f = (upd (upd (upd (upd (upd (upd (upd (upd (upd (upd (upd u63 0 va0) 1 (.int .i64 a1)) 6 (.int .i64 (ik1 : Int))) 7 v23) 10 rw1.1) 14 (.int .i64 ((a0.length : Nat) : Int))) 15 (.int .i64 (ik1 : Int))) 22 v6) 23 (.int .i64 ((s3.length : Nat) : Int))) 24 (.int .i64 (ik2 : Int))) 28 (.int .i64 (ik3 : Int))) := ⟨f, by rw [upd_self hf0, upd_self hf1, upd_self hf6, upd_self hf7, upd_self hf10, upd_self hf14, upd_self hf15, upd_self hf22, upd_self hf23, upd_self hf24, upd_self hf28]⟩
                          have hq : s9 = s7 := Option.some.inj (show some s9 = some s7 from hm10)
                          subst hq
                          exact ⟨v23, Fx17, rc17, rfl, rfl, rfl, rfl, rfl, rfl, rfl, rfl, rfl, rfl, rfl, H⟩
                    · skip
                      rintro f w ⟨v17, Fx16, rc16, hf0, hf1, hf6, hf7, hf10, hf14, hf15, hf22, hf23, hf24, hf28, H⟩
                      obtain ⟨u64, rfl⟩ : ∃ u64, f = (upd (upd (upd (upd (upd (upd (upd (upd (upd (upd (upd u64 0 va0) 1 (.int .i64 a1)) 6 (.int .i64 (ik1 : Int))) 7 v17) 10 rw1.1) 14 (.int .i64 ((a0.length : Nat) : Int))) 15 (.int .i64 (ik1 : Int))) 22 v6) 23 (.int .i64 ((s3.length : Nat) : Int))) 24 (.int .i64 (ik2 : Int))) 28 (.int .i64 (ik3 : Int))) := ⟨f, by rw [upd_self hf0, upd_self hf1, upd_self hf6, upd_self hf7, upd_self hf10, upd_self hf14, upd_self hf15, upd_self hf22, upd_self hf23, upd_self hf24, upd_self hf28]⟩
                      refine W.region ?_
                      refine O.add rfl rfl rfl rfl hinck3 ?_
                      refine O.move (v := .int .i64 ((ik3 : Int) + 1)) rfl rfl rfl ?_
                      refine WL.nil ?_
                      obtain rfl := Option.some.inj hm9
                      exact ⟨_, rfl, _, v17, Fx16, rc16, rfl, rangeN_next hdropk3, rfl, rfl, rfl, rfl, rfl, rfl, rfl, rfl, rfl, rfl, rfl, H⟩
                  · skip
                    rintro ik3 _ f w ⟨z8, v14, Fx13, rc13, rfl, hdropk3, hf28, hf0, hf1, hf6, hf7, hf10, hf14, hf15, hf22, hf23, hf24, H⟩ hfin
                    have hltk3 := rangeN_end hdropk3
                    obtain ⟨u65, rfl⟩ : ∃ u65, f = (upd (upd (upd (upd (upd (upd (upd (upd (upd (upd (upd u65 28 (.int .i64 (ik3 : Int))) 0 va0) 1 (.int .i64 a1)) 6 (.int .i64 (ik1 : Int))) 7 v14) 10 rw1.1) 14 (.int .i64 ((a0.length : Nat) : Int))) 15 (.int .i64 (ik1 : Int))) 22 v6) 23 (.int .i64 ((s3.length : Nat) : Int))) 24 (.int .i64 (ik2 : Int))) := ⟨f, by rw [upd_self hf28, upd_self hf0, upd_self hf1, upd_self hf6, upd_self hf7, upd_self hf10, upd_self hf14, upd_self hf15, upd_self hf22, upd_self hf23, upd_self hf24]⟩
                    refine W.seq ?_
                    refine W.region ?_
                    refine O.lss rfl rfl rfl rfl ?_
                    refine WL.nil ?_
                    refine W.seq ?_
                    refine W.cond_false (congrArg Value.bool (decide_eq_false hltk3)) ?_
                    refine W.exit ?_
                    have hq : z8 = s6 := hfin
                    subst hq
                    refine xT rfl ?_
                    exact ⟨v14, Fx13, rc13, rfl, rfl, rfl, rfl, rfl, rfl, rfl, rfl, rfl, H⟩
                · skip
                  rintro f w ⟨v16, Fx15, rc15, hf0, hf1, hf6, hf7, hf14, hf15, hf22, hf23, hf24, H⟩
                  obtain ⟨u66, rfl⟩ : ∃ u66, f = (upd (upd (upd (upd (upd (upd (upd (upd (upd u66 0 va0) 1 (.int .i64 a1)) 6 (.int .i64 (ik1 : Int))) 7 v16) 14 (.int .i64 ((a0.length : Nat) : Int))) 15 (.int .i64 (ik1 : Int))) 22 v6) 23 (.int .i64 ((s3.length : Nat) : Int))) 24 (.int .i64 (ik2 : Int))) := ⟨f, by rw [upd_self hf0, upd_self hf1, upd_self hf6, upd_self hf7, upd_self hf14, upd_self hf15, upd_self hf22, upd_self hf23, upd_self hf24]⟩
                  have hq : s6 = s5 := Option.some.inj (show some s6 = some s5 from hm7)
                  subst hq
                  exact ⟨v16, Fx15, rc15, rfl, rfl, rfl, rfl, rfl, rfl, rfl, rfl, rfl, H⟩
              · skip
                rintro f w ⟨v12, Fx11, rc11, hf0, hf1, hf6, hf7, hf14, hf15, hf22, hf23, hf24, H⟩
                obtain ⟨u67, rfl⟩ : ∃ u67, f = (upd (upd (upd (upd (upd (upd (upd (upd (upd u67 0 va0) 1 (.int .i64 a1)) 6 (.int .i64 (ik1 : Int))) 7 v12) 14 (.int .i64 ((a0.length : Nat) : Int))) 15 (.int .i64 (ik1 : Int))) 22 v6) 23 (.int .i64 ((s3.length : Nat) : Int))) 24 (.int .i64 (ik2 : Int))) := ⟨f, by rw [upd_self hf0, upd_self hf1, upd_self hf6, upd_self hf7, upd_self hf14, upd_self hf15, upd_self hf22, upd_self hf23, upd_self hf24]⟩
                refine W.region ?_
                refine O.add rfl rfl rfl rfl hinck2 ?_
                refine O.move (v := .int .i64 ((ik2 : Int) + 1)) rfl rfl rfl ?_
                refine WL.nil ?_
                obtain rfl := Option.some.inj hm6
                exact ⟨_, rfl, _, v12, Fx11, rc11, rfl, drop_next hdropk2, rfl, rfl, rfl, rfl, rfl, rfl, rfl, rfl, rfl, H⟩
            · skip
              rintro ik2 _ f w ⟨z5, v9, Fx8, rc8, rfl, hdropk2, hf24, hf23, hf0, hf1, hf6, hf7, hf14, hf15, hf22, H⟩ hfin
              have hltk2 := drop_end hdropk2
              obtain ⟨u68, rfl⟩ : ∃ u68, f = (upd (upd (upd (upd (upd (upd (upd (upd (upd u68 24 (.int .i64 (ik2 : Int))) 23 (.int .i64 ((s3.length : Nat) : Int))) 0 va0) 1 (.int .i64 a1)) 6 (.int .i64 (ik1 : Int))) 7 v9) 14 (.int .i64 ((a0.length : Nat) : Int))) 15 (.int .i64 (ik1 : Int))) 22 v6) := ⟨f, by rw [upd_self hf24, upd_self hf23, upd_self hf0, upd_self hf1, upd_self hf6, upd_self hf7, upd_self hf14, upd_self hf15, upd_self hf22]⟩
              refine W.seq ?_
              refine W.region ?_
              refine O.lss rfl rfl rfl rfl ?_
              refine WL.nil ?_
              refine W.seq ?_
              refine W.cond_false (congrArg Value.bool (decide_eq_false hltk2)) ?_
              refine W.exit ?_
              have hq : z5 = s4 := hfin
              subst hq
              have H := H.keep [0] [ownRI (α := Int) Fx8 v9 22 rc8 z5] rfl (by decide)
              refine xT rfl ?_
              exact ⟨v9, Fx8, rc8, rfl, rfl, rfl, rfl, rfl, H⟩
          · skip
            rintro f w ⟨v11, Fx10, rc10, hf0, hf1, hf7, hf14, hf15, H⟩
            obtain ⟨u69, rfl⟩ : ∃ u69, f = (upd (upd (upd (upd (upd u69 0 va0) 1 (.int .i64 a1)) 7 v11) 14 (.int .i64 ((a0.length : Nat) : Int))) 15 (.int .i64 (ik1 : Int))) := ⟨f, by rw [upd_self hf0, upd_self hf1, upd_self hf7, upd_self hf14, upd_self hf15]⟩
            refine W.region ?_
            refine O.move (v := v11) rfl rfl rfl ?_
            refine O.assign (v := v11) rfl rfl rfl ?_
            refine WL.nil ?_
            have hq : s4 = s2 := Option.some.inj (show some s4 = some s2 from hm3)
            subst hq
            exact ⟨v11, Fx10, rc10, rfl, rfl, rfl, rfl, rfl, H⟩
      · skip
        rintro f w ⟨v5, Fx5, rc5, hf0, hf1, hf5, hf14, hf15, H⟩
        obtain ⟨u70, rfl⟩ : ∃ u70, f = (upd (upd (upd (upd (upd u70 0 va0) 1 (.int .i64 a1)) 5 v5) 14 (.int .i64 ((a0.length : Nat) : Int))) 15 (.int .i64 (ik1 : Int))) := ⟨f, by rw [upd_self hf0, upd_self hf1, upd_self hf5, upd_self hf14, upd_self hf15]⟩
        refine W.region ?_
        refine O.add rfl rfl rfl rfl hinck1 ?_
        refine O.move (v := .int .i64 ((ik1 : Int) + 1)) rfl rfl rfl ?_
        refine WL.nil ?_
        obtain rfl := Option.some.inj hm2
        exact ⟨_, rfl, _, v5, Fx5, rc5, rfl, rangeN_next hdropk1, rfl, rfl, rfl, rfl, rfl, H⟩
    · skip
      rintro ik1 _ f w ⟨z2, v2, Fx2, rc2, rfl, hdropk1, hf15, hf14, hf0, hf1, hf5, H⟩ hfin
      have hltk1 := rangeN_end hdropk1
      obtain ⟨u71, rfl⟩ : ∃ u71, f = (upd (upd (upd (upd (upd u71 15 (.int .i64 (ik1 : Int))) 14 (.int .i64 ((a0.length : Nat) : Int))) 0 va0) 1 (.int .i64 a1)) 5 v2) := ⟨f, by rw [upd_self hf15, upd_self hf14, upd_self hf0, upd_self hf1, upd_self hf5]⟩
      refine W.seq ?_
      refine W.region ?_
      refine O.lss rfl rfl rfl rfl ?_
      refine WL.nil ?_
      refine W.seq ?_
      refine W.cond_false (congrArg Value.bool (decide_eq_false hltk1)) ?_
      refine W.exit ?_
      have hq : z2 = s1 := hfin
      subst hq
      refine xT rfl ?_
      exact ⟨v2, Fx2, rc2, rfl, H⟩
  · skip
    rintro f w ⟨v4, Fx4, rc4, hf5, H⟩
    obtain ⟨u72, rfl⟩ : ∃ u72, f = (upd u72 5 v4) := ⟨f, by rw [upd_self hf5]⟩
    refine W.seq ?_
    refine W.region ?_
    refine O.move (v := v4) rfl rfl rfl ?_
    refine O.assign (v := v4) rfl rfl rfl ?_
    refine WL.nil ?_
    refine W.ret ?_
    have hq : s1 = r0 := Option.some.inj (show some s1 = some r0 from hm)
    subst hq
    exact ends1 Try.results49 rfl ⟨_, rfl, H.base, ⟨_, rfl, (H.ownRd 0 rfl)⟩⟩

theorem c_noongunref07_Hoists {w0 : World} (va0 : Value) (a0 : (List Int)) (ha0 : SliceR w0 va0 a0) (a1 : Int) {r0 : (List (List Int))} {r1 : Int} (hm : noongunref07_Hoists a0 a1 = some (r0, r1)) :
    Calls Try.prog 29 #[va0, (.int .i64 a1)] w0 (Ret w0 fun w v => ∃ vr0 : Value, v = .tuple #[vr0, (.int .i64 r1)] ∧ SliceR w vr0 r0) := by
  unfold noongunref07_Hoists at hm
  refine calls_of_W Try.func29 rfl Try.ntmps29 (Nat.le_of_ble_eq_true rfl) ?_
  have H := Inv.start (w := w0)
  refine W.seq ?_
  refine W.region ?_
  have H := H.addNilR (α := Int) (E := 22)
  refine O.assign (v := (.slice none 0 0)) rfl rfl rfl ?_
  refine O.assign (v := (.int .i64 0)) rfl rfl rfl ?_
  refine WL.nil ?_
  refine W.seq ?_
  refine W.seq ?_
  refine W.region ?_
  refine O.move (v := va0) rfl rfl rfl ?_
  obtain ⟨t1, hy1, hm⟩ := bind_some hm
  refine O.call Try.call15 rfl rfl rfl (c_noongunref07_ValidDigits _ _ (H.arg ha0) hy1) ?_
  rintro _ w1 hb1 rfl
  have H := H.ext hb1
  refine O.not rfl rfl rfl ?_
  refine WL.nil ?_
  rcases ite_some hm with ⟨hc1, hm⟩ | ⟨hc1, hm⟩
  · refine W.cond_true (congrArg Value.bool hc1) ?_
    refine W.seq ?_
    refine W.region ?_
    have H := H.addNilR (α := Int) (E := 22)
    refine O.assign (v := (.slice none 0 0)) rfl rfl rfl ?_
    refine O.assign (v := (.int .i64 1)) rfl rfl rfl ?_
    refine WL.nil ?_
    refine W.ret ?_
    have hq : (([] : List (List Int)), 1) = (r0, r1) := Option.some.inj (show some (([] : List (List Int)), 1) = some (r0, r1) from hm)
    obtain ⟨he0, hq0⟩ := Prod.mk.inj hq; clear hq; subst he0
    subst hq0
    exact ends2 Try.results29 rfl rfl ⟨_, rfl, H.base, ⟨_, rfl, (H.ownRd 1 rfl)⟩⟩
  · refine W.cond_false (congrArg Value.bool hc1) ?_
    refine W.skip ?_
    refine W.seq ?_
    refine W.seq ?_
    refine W.region ?_
    refine O.move (v := (.int .i64 a1)) rfl rfl rfl ?_
    obtain ⟨t2, hy2, hm⟩ := bind_some hm
    refine O.call Try.call45 rfl rfl rfl (c_noongunref07_set _ hy2) ?_
    rintro _ w2 hb2 rfl
    have H := H.ext hb2
    refine O.not rfl rfl rfl ?_
    refine WL.nil ?_
    rcases ite_some hm with ⟨hc2, hm⟩ | ⟨hc2, hm⟩
    · refine W.cond_true (congrArg Value.bool hc2) ?_
      refine W.seq ?_
      refine W.region ?_
      have H := H.addNilR (α := Int) (E := 22)
      refine O.assign (v := (.slice none 0 0)) rfl rfl rfl ?_
      refine O.assign (v := (.int .i64 7)) rfl rfl rfl ?_
      refine WL.nil ?_
      refine W.ret ?_
      have hq : (([] : List (List Int)), 7) = (r0, r1) := Option.some.inj (show some (([] : List (List Int)), 7) = some (r0, r1) from hm)
      obtain ⟨he0, hq0⟩ := Prod.mk.inj hq; clear hq; subst he0
      subst hq0
      exact ends2 Try.results29 rfl rfl ⟨_, rfl, H.base, ⟨_, rfl, (H.ownRd 1 rfl)⟩⟩
    · refine W.cond_false (congrArg Value.bool hc2) ?_
      refine W.skip ?_
      refine W.seq ?_
      refine W.region ?_
      refine O.move (v := va0) rfl rfl rfl ?_
      refine O.move (v := (.int .i64 a1)) rfl rfl rfl ?_
      obtain ⟨t3, hy3, hm⟩ := bind_some hm
      refine O.call Try.call49 rfl rfl rfl (c_noongunref07_hoists _ _ (H.arg ha0) _ hy3) ?_
      rintro v1 w3 hb3 ⟨_, rfl, ho1⟩
      have H := H.ext hb3
      refine O.assign (v := v1) rfl rfl rfl ?_
      refine O.assign (v := (.int .i64 0)) rfl rfl rfl ?_
      refine WL.nil ?_
      refine W.ret ?_
      have hq : (t3, 0) = (r0, r1) := Option.some.inj (show some (t3, 0) = some (r0, r1) from hm)
      obtain ⟨he0, hq0⟩ := Prod.mk.inj hq; clear hq; subst he0
      subst hq0
      exact ends2 Try.results29 rfl rfl ⟨_, rfl, H.base, ⟨_, rfl, ho1⟩⟩

theorem c_noongunref07_With {w0 : World} (va0 : Value) (a0 : (List Int)) (ha0 : SliceR w0 va0 a0) (a1 : Int) {r0 : (List Int)} {r1 : Int} (hm : noongunref07_With a0 a1 = some (r0, r1)) :
    Calls Try.prog 30 #[va0, (.int .i64 a1)] w0 (Ret w0 fun w v => ∃ vr0 : Value, v = .tuple #[vr0, (.int .i64 r1)] ∧ SliceR w vr0 r0) := by
  unfold noongunref07_With at hm
  refine calls_of_W Try.func30 rfl Try.ntmps30 (Nat.le_of_ble_eq_true rfl) ?_
  have H := Inv.start (w := w0)
  refine W.seq ?_
  refine W.region ?_
  have H := H.addNil (α := Int) (E := 3)
  refine O.assign (v := (.slice none 0 0)) rfl rfl rfl ?_
  refine O.assign (v := (.int .i64 0)) rfl rfl rfl ?_
  refine WL.nil ?_
  refine W.seq ?_
  refine W.region ?_
  refine O.move (v := va0) rfl rfl rfl ?_
  refine O.move (v := (.int .i64 a1)) rfl rfl rfl ?_
  obtain ⟨⟨t1, t2⟩, hy1, hm⟩ := bind_some hm
  refine O.call Try.call29 rfl rfl rfl (c_noongunref07_Hoists _ _ (H.arg ha0) _ hy1) ?_
  rintro _ w1 hb1 ⟨v1, rfl, ho1⟩
  have H := H.ext hb1
  refine O.move (v := (.tuple #[v1, (.int .i64 t2)])) rfl rfl rfl ?_
  refine O.extract (v := v1) rfl rfl rfl rfl ?_
  refine O.extract (v := (.int .i64 t2)) rfl rfl rfl rfl ?_
  refine O.assign (v := v1) rfl rfl rfl ?_
  refine O.assign (v := (.int .i64 t2)) rfl rfl rfl ?_
  refine WL.nil ?_
  refine W.seq ?_
  refine W.seq ?_
  refine W.region ?_
  refine O.move (v := (.int .i64 t2)) rfl rfl rfl ?_
  refine O.neq rfl rfl rfl rfl ?_
  refine WL.nil ?_
  rcases ite_some hm with ⟨hc1, hm⟩ | ⟨hc1, hm⟩
  · refine W.cond_true (congrArg Value.bool hc1) ?_
    refine W.seq ?_
    refine W.region ?_
    refine O.move (v := (.int .i64 t2)) rfl rfl rfl ?_
    have H := H.addNil (α := Int) (E := 3)
    refine O.assign (v := (.slice none 0 0)) rfl rfl rfl ?_
    refine O.assign (v := (.int .i64 t2)) rfl rfl rfl ?_
    refine WL.nil ?_
    refine W.ret ?_
    have hq : (([] : List Int), t2) = (r0, r1) := Option.some.inj (show some (([] : List Int), t2) = some (r0, r1) from hm)
    obtain ⟨he0, hq0⟩ := Prod.mk.inj hq; clear hq; subst he0
    subst hq0
    exact ends2 Try.results30 rfl rfl ⟨_, rfl, H.base, ⟨_, rfl, (H.own 1 rfl)⟩⟩
  · refine W.cond_false (congrArg Value.bool hc1) ?_
    refine W.skip ?_
    refine W.seq ?_
    refine W.seq ?_
    refine W.region ?_
    refine O.move (v := v1) rfl rfl rfl ?_
    refine O.lenS Try.underlying36 ho1 rfl rfl rfl ?_
    refine O.eql rfl rfl rfl rfl ?_
    refine WL.nil ?_
    rcases ite_some hm with ⟨hc2, hm⟩ | ⟨hc2, hm⟩
    · refine W.cond_true (congrArg Value.bool hc2) ?_
      refine W.seq ?_
      refine W.region ?_
      have H := H.addNil (α := Int) (E := 3)
      refine O.assign (v := (.slice none 0 0)) rfl rfl rfl ?_
      refine O.assign (v := (.int .i64 10)) rfl rfl rfl ?_
      refine WL.nil ?_
      refine W.ret ?_
      have hq : (([] : List Int), 10) = (r0, r1) := Option.some.inj (show some (([] : List Int), 10) = some (r0, r1) from hm)
      obtain ⟨he0, hq0⟩ := Prod.mk.inj hq; clear hq; subst he0
      subst hq0
      exact ends2 Try.results30 rfl rfl ⟨_, rfl, H.base, ⟨_, rfl, (H.own 1 rfl)⟩⟩
    · refine W.cond_false (congrArg Value.bool hc2) ?_
      refine W.skip ?_
      refine W.seq ?_
      refine W.region ?_
      refine O.move (v := v1) rfl rfl rfl ?_
      obtain ⟨x1, hx1, hm⟩ := bind_some hm
      refine O.indexAddr Try.underlying36 sz22 ho1 hx1 rfl rfl rfl rfl ?_
      intro p1 hp1
      obtain ⟨v2, hs1, hc3⟩ := hp1.slice
      refine O.load sc22 rfl rfl rfl (hc3 0 _ rfl) ?_
      refine O.assign (v := v2) rfl rfl rfl ?_
      refine O.assign (v := (.int .i64 0)) rfl rfl rfl ?_
      refine WL.nil ?_
      refine W.ret ?_
      have hq : (x1, 0) = (r0, r1) := Option.some.inj (show some (x1, 0) = some (r0, r1) from hm)
      obtain ⟨he0, hq0⟩ := Prod.mk.inj hq; clear hq; subst he0
      subst hq0
      exact ends2 Try.results30 rfl rfl ⟨_, rfl, H.base, ⟨_, rfl, hs1⟩⟩

set_option maxRecDepth 20000 in
theorem c_flag_Missed {w0 : World} (va0 : Value) (a0 : (List Int)) (ha0 : SliceR w0 va0 a0) (a1 : Int) {r0 : (List Int)} {r1 : Int} (hm : flag_Missed a0 a1 = some (r0, r1)) :
    Calls Try.prog 31 #[va0, (.int .i64 a1)] w0 (Ret w0 fun w v => ∃ vr0 : Value, v = .tuple #[vr0, (.int .i64 r1)] ∧ OwnR w0 w vr0 3 r0) := by
  unfold flag_Missed at hm
  refine calls_of_W Try.func31 rfl Try.ntmps31 (Nat.le_of_ble_eq_true rfl) ?_
  have H := Inv.start (w := w0)
  refine W.seq ?_
  refine W.region ?_
  have H := H.addNil (α := Int) (E := 3)
  refine O.assign (v := (.slice none 0 0)) rfl rfl rfl ?_
  refine O.assign (v := (.int .i64 0)) rfl rfl rfl ?_
  refine WL.nil ?_
  refine W.seq ?_
  refine W.seq ?_
  refine W.region ?_
  refine O.move (v := va0) rfl rfl rfl ?_
  refine O.move (v := (.int .i64 a1)) rfl rfl rfl ?_
  obtain ⟨t1, hy1, hm⟩ := bind_some hm
  refine O.call Try.call47 rfl rfl rfl (c_flag_asked _ _ (H.arg ha0) _ hy1) ?_
  rintro _ w1 hb1 rfl
  have H := H.ext hb1
  refine O.assign (v := (.int .i64 t1)) rfl rfl rfl ?_
  refine WL.nil ?_
  refine W.seq ?_
  refine W.region ?_
  refine O.move (v := (.int .i64 t1)) rfl rfl rfl ?_
  refine O.neq rfl rfl rfl rfl ?_
  refine WL.nil ?_
  rcases ite_some hm with ⟨hc1, hm⟩ | ⟨hc1, hm⟩
  · refine W.cond_true (congrArg Value.bool hc1) ?_
    refine W.seq ?_
    refine W.region ?_
    refine O.move (v := (.int .i64 t1)) rfl rfl rfl ?_
    have H := H.addNil (α := Int) (E := 3)
    refine O.assign (v := (.slice none 0 0)) rfl rfl rfl ?_
    refine O.assign (v := (.int .i64 t1)) rfl rfl rfl ?_
    refine WL.nil ?_
    refine W.ret ?_
    have hq : (([] : List Int), t1) = (r0, r1) := Option.some.inj (show some (([] : List Int), t1) = some (r0, r1) from hm)
    obtain ⟨he0, hq0⟩ := Prod.mk.inj hq; clear hq; subst he0
    subst hq0
    exact ends2 Try.results31 rfl rfl ⟨_, rfl, H.base, ⟨_, rfl, H.ownR 1 rfl⟩⟩
  · refine W.cond_false (congrArg Value.bool hc1) ?_
    refine W.skip ?_
    refine W.seq ?_
    refine W.seq ?_
    refine W.region ?_
    refine O.move (v := va0) rfl rfl rfl ?_
    refine O.move (v := (.int .i64 a1)) rfl rfl rfl ?_
    obtain ⟨t2, hy2, hm⟩ := bind_some hm
    refine O.call Try.call44 rfl rfl rfl (c_flag_can _ _ (H.arg ha0) _ hy2) ?_
    rintro _ w2 hb2 rfl
    have H := H.ext hb2
    refine WL.nil ?_
    rcases ite_some hm with ⟨hc2, hm⟩ | ⟨hc2, hm⟩
    · refine W.cond_true (congrArg Value.bool hc2) ?_
      refine W.seq ?_
      refine W.region ?_
      have H := H.addNil (α := Int) (E := 3)
      refine O.assign (v := (.slice none 0 0)) rfl rfl rfl ?_
      refine O.assign (v := (.int .i64 9)) rfl rfl rfl ?_
      refine WL.nil ?_
      refine W.ret ?_
      have hq : (([] : List Int), 9) = (r0, r1) := Option.some.inj (show some (([] : List Int), 9) = some (r0, r1) from hm)
      obtain ⟨he0, hq0⟩ := Prod.mk.inj hq; clear hq; subst he0
      subst hq0
      exact ends2 Try.results31 rfl rfl ⟨_, rfl, H.base, ⟨_, rfl, H.ownR 1 rfl⟩⟩
    · refine W.cond_false (congrArg Value.bool hc2) ?_
      refine W.skip ?_
      refine W.seq ?_
      refine W.region ?_
      have H := H.addNil (α := Int) (E := 3)
      refine O.assign (v := (.slice none 0 0)) rfl rfl rfl ?_
      refine WL.nil ?_
      refine W.seq ?_
      refine W.seq ?_
      refine W.region ?_
      refine O.move (v := (.int .i64 0)) rfl rfl rfl ?_
      refine WL.nil ?_
      obtain ⟨s1, hm1, hm⟩ := bind_some hm
      refine W.via (fun f w => ∃ v4 : Value, f 7 = v4 ∧ Inv w0 w [ownI (α := Int) v4 3 s1]) ?_ ?_
      · skip
        refine W.block ?_
        have H := H.keep [1] [ownI (α := Int) (.slice none 0 0) 3 ([] : List Int)] rfl (by decide)
        refine W.rangeN (i := 0) hm1 (fun rem ik1 s f w => ∃ z2 : (List Int), ∃ v2 : Value, z2 = s ∧ (ik1 : Int) + rem = max 0 13 ∧ f 18 = .int .i64 (ik1 : Int) ∧ f 0 = va0 ∧ f 1 = (.int .i64 a1) ∧ f 7 = v2 ∧ Inv w0 w [ownI (α := Int) v2 3 z2]) ?_ ?_ ?_
        · skip
          exact ⟨_, (.slice none 0 0), rfl, rangeN_start, rfl, rfl, rfl, rfl, H⟩
        · skip
          rintro k ik1 _ st f w ⟨z2, v2, rfl, hdropk1, hf18, hf0, hf1, hf7, H⟩ hm2
          have hltk1 := rangeN_lt hdropk1
          obtain ⟨u1, rfl⟩ : ∃ u1, f = (upd (upd (upd (upd u1 18 (.int .i64 (ik1 : Int))) 0 va0) 1 (.int .i64 a1)) 7 v2) := ⟨f, by rw [upd_self hf18, upd_self hf0, upd_self hf1, upd_self hf7]⟩
          have hinck1 := addI_lt hltk1 (by decide)
          refine W.seq ?_
          refine W.region ?_
          refine O.lss rfl rfl rfl rfl ?_
          refine WL.nil ?_
          refine W.seq ?_
          refine W.cond_true (congrArg Value.bool (decide_eq_true hltk1)) ?_
          refine W.skip ?_
          refine W.seq ?_
          obtain ⟨s2, hm3, hm2⟩ := bind_some hm2
          refine W.via (fun f w => ∃ v5 : Value, f 0 = va0 ∧ f 1 = (.int .i64 a1) ∧ f 7 = v5 ∧ f 18 = (.int .i64 (ik1 : Int)) ∧ Inv w0 w [ownI (α := Int) v5 3 s2]) ?_ ?_
          · skip
            refine W.block ?_
            refine W.seq ?_
            refine W.region ?_
            refine O.move (v := (.int .i64 (ik1 : Int))) rfl rfl rfl ?_
            refine O.assign (v := (.int .i64 (ik1 : Int))) rfl rfl rfl ?_
            refine WL.nil ?_
            refine W.seq ?_
            refine W.region ?_
            refine O.move (v := va0) rfl rfl rfl ?_
            refine O.move (v := (.int .i64 a1)) rfl rfl rfl ?_
            refine O.move (v := (.int .i64 (ik1 : Int))) rfl rfl rfl ?_
            obtain ⟨t3, ht3, hm3⟩ := bind_some hm3
            refine O.shl rfl rfl rfl rfl ht3 ?_
            refine O.or rfl rfl rfl rfl ?_
            obtain ⟨t4, hy3, hm3⟩ := bind_some hm3
            refine O.call Try.call44 rfl rfl rfl (c_flag_can _ _ (H.arg ha0) _ hy3) ?_
            rintro _ w3 hb3 rfl
            have H := H.ext hb3
            refine WL.nil ?_
            obtain ⟨s3, hm4, hm3⟩ := bind_some hm3
            refine W.via (fun f w => ∃ v6 : Value, f 0 = va0 ∧ f 1 = (.int .i64 a1) ∧ f 7 = v6 ∧ f 18 = (.int .i64 (ik1 : Int)) ∧ Inv w0 w [ownI (α := Int) v6 3 s3]) ?_ ?_
            · skip
              rcases ite_some hm4 with ⟨hc3, hm4⟩ | ⟨hc3, hm4⟩
              · refine W.cond_true (congrArg Value.bool hc3) ?_
                refine W.region ?_
                refine O.move (v := v2) rfl rfl rfl ?_
                refine O.move (v := (.int .i64 (ik1 : Int))) rfl rfl rfl ?_
                refine O.buildSlice (α := Int) [(.int .i64 (ik1 : Int))] [(ik1 : Int)] Try.underlying22 el3 H rfl rfl rfl rfl rfl rfl rfl ?_
                intro v7 w4 H hb4
                obtain ⟨t5, ht5, hm4⟩ := bind_some hm4
                refine O.append 0 Try.underlying22 el3 rfl H rfl (H.own 1 rfl) ht5 rfl rfl rfl rfl ?_
                intro v8 w5 H
                refine O.assign (v := v8) rfl rfl rfl ?_
                refine WL.nil ?_
                have H := H.keep [0] [ownI (α := Int) v8 3 t5] rfl (by decide)
                have hq : t5 = s3 := Option.some.inj (show some t5 = some s3 from hm4)
                subst hq
                exact ⟨v8, rfl, rfl, rfl, rfl, H⟩
              · refine W.cond_false (congrArg Value.bool hc3) ?_
                refine W.skip ?_
                have hq : z2 = s3 := Option.some.inj (show some z2 = some s3 from hm4)
                subst hq
                exact ⟨v2, rfl, rfl, rfl, rfl, H⟩
            · skip
              rintro f w ⟨v6, hf0, hf1, hf7, hf18, H⟩
              obtain ⟨u2, rfl⟩ : ∃ u2, f = (upd (upd (upd (upd u2 0 va0) 1 (.int .i64 a1)) 7 v6) 18 (.int .i64 (ik1 : Int))) := ⟨f, by rw [upd_self hf0, upd_self hf1, upd_self hf7, upd_self hf18]⟩
              have hq : s3 = s2 := Option.some.inj (show some s3 = some s2 from hm3)
              subst hq
              exact ⟨v6, rfl, rfl, rfl, rfl, H⟩
          · skip
            rintro f w ⟨v5, hf0, hf1, hf7, hf18, H⟩
            obtain ⟨u3, rfl⟩ : ∃ u3, f = (upd (upd (upd (upd u3 0 va0) 1 (.int .i64 a1)) 7 v5) 18 (.int .i64 (ik1 : Int))) := ⟨f, by rw [upd_self hf0, upd_self hf1, upd_self hf7, upd_self hf18]⟩
            refine W.region ?_
            refine O.add rfl rfl rfl rfl hinck1 ?_
            refine O.move (v := .int .i64 ((ik1 : Int) + 1)) rfl rfl rfl ?_
            refine WL.nil ?_
            obtain rfl := Option.some.inj hm2
            exact ⟨_, rfl, _, v5, rfl, rangeN_next hdropk1, rfl, rfl, rfl, rfl, H⟩
        · skip
          rintro ik1 _ f w ⟨z2, v2, rfl, hdropk1, hf18, hf0, hf1, hf7, H⟩ hfin
          have hltk1 := rangeN_end hdropk1
          obtain ⟨u4, rfl⟩ : ∃ u4, f = (upd (upd (upd (upd u4 18 (.int .i64 (ik1 : Int))) 0 va0) 1 (.int .i64 a1)) 7 v2) := ⟨f, by rw [upd_self hf18, upd_self hf0, upd_self hf1, upd_self hf7]⟩
          refine W.seq ?_
          refine W.region ?_
          refine O.lss rfl rfl rfl rfl ?_
          refine WL.nil ?_
          refine W.seq ?_
          refine W.cond_false (congrArg Value.bool (decide_eq_false hltk1)) ?_
          refine W.exit ?_
          have hq : z2 = s1 := hfin
          subst hq
          refine xT rfl ?_
          exact ⟨v2, rfl, H⟩
      · skip
        rintro f w ⟨v4, hf7, H⟩
        obtain ⟨u5, rfl⟩ : ∃ u5, f = (upd u5 7 v4) := ⟨f, by rw [upd_self hf7]⟩
        refine W.seq ?_
        refine W.region ?_
        refine O.move (v := v4) rfl rfl rfl ?_
        refine O.assign (v := v4) rfl rfl rfl ?_
        refine O.assign (v := (.int .i64 0)) rfl rfl rfl ?_
        refine WL.nil ?_
        refine W.ret ?_
        have hq : (s1, 0) = (r0, r1) := Option.some.inj (show some (s1, 0) = some (r0, r1) from hm)
        obtain ⟨he0, hq0⟩ := Prod.mk.inj hq; clear hq; subst he0
        subst hq0
        exact ends2 Try.results31 rfl rfl ⟨_, rfl, H.base, ⟨_, rfl, H.ownR 0 rfl⟩⟩

set_option maxRecDepth 20000 in
theorem c_noongunref07_Missed {w0 : World} (va0 : Value) (a0 : (List Int)) (ha0 : SliceR w0 va0 a0) (a1 : Int) {r0 : (List Int)} {r1 : Int} (hm : noongunref07_Missed a0 a1 = some (r0, r1)) :
    Calls Try.prog 32 #[va0, (.int .i64 a1)] w0 (Ret w0 fun w v => ∃ vr0 : Value, v = .tuple #[vr0, (.int .i64 r1)] ∧ OwnR w0 w vr0 3 r0) := by
  unfold noongunref07_Missed at hm
  refine calls_of_W Try.func32 rfl Try.ntmps32 (Nat.le_of_ble_eq_true rfl) ?_
  have H := Inv.start (w := w0)
  refine W.seq ?_
  refine W.region ?_
  have H := H.addNil (α := Int) (E := 3)
  refine O.assign (v := (.slice none 0 0)) rfl rfl rfl ?_
  refine O.assign (v := (.int .i64 0)) rfl rfl rfl ?_
  refine WL.nil ?_
  refine W.seq ?_
  refine W.region ?_
  refine O.move (v := va0) rfl rfl rfl ?_
  refine O.move (v := (.int .i64 a1)) rfl rfl rfl ?_
  obtain ⟨⟨t1, t2⟩, hy1, hm⟩ := bind_some hm
  refine O.call Try.call29 rfl rfl rfl (c_noongunref07_Hoists _ _ (H.arg ha0) _ hy1) ?_
  rintro _ w1 hb1 ⟨v1, rfl, ho1⟩
  have H := H.ext hb1
  refine O.move (v := (.tuple #[v1, (.int .i64 t2)])) rfl rfl rfl ?_
  refine O.extract (v := v1) rfl rfl rfl rfl ?_
  refine O.extract (v := (.int .i64 t2)) rfl rfl rfl rfl ?_
  refine O.assign (v := v1) rfl rfl rfl ?_
  refine O.assign (v := (.int .i64 t2)) rfl rfl rfl ?_
  refine WL.nil ?_
  refine W.seq ?_
  refine W.seq ?_
  refine W.region ?_
  refine O.move (v := (.int .i64 t2)) rfl rfl rfl ?_
  refine O.neq rfl rfl rfl rfl ?_
  refine WL.nil ?_
  rcases ite_some hm with ⟨hc1, hm⟩ | ⟨hc1, hm⟩
  · refine W.cond_true (congrArg Value.bool hc1) ?_
    refine W.seq ?_
    refine W.region ?_
    refine O.move (v := (.int .i64 t2)) rfl rfl rfl ?_
    have H := H.addNil (α := Int) (E := 3)
    refine O.assign (v := (.slice none 0 0)) rfl rfl rfl ?_
    refine O.assign (v := (.int .i64 t2)) rfl rfl rfl ?_
    refine WL.nil ?_
    refine W.ret ?_
    have hq : (([] : List Int), t2) = (r0, r1) := Option.some.inj (show some (([] : List Int), t2) = some (r0, r1) from hm)
    obtain ⟨he0, hq0⟩ := Prod.mk.inj hq; clear hq; subst he0
    subst hq0
    exact ends2 Try.results32 rfl rfl ⟨_, rfl, H.base, ⟨_, rfl, H.ownR 1 rfl⟩⟩
  · refine W.cond_false (congrArg Value.bool hc1) ?_
    refine W.skip ?_
    refine W.seq ?_
    refine W.seq ?_
    refine W.region ?_
    refine O.move (v := v1) rfl rfl rfl ?_
    refine O.lenS Try.underlying36 ho1 rfl rfl rfl ?_
    refine O.gtr rfl rfl rfl rfl ?_
    refine WL.nil ?_
    rcases ite_some hm with ⟨hc2, hm⟩ | ⟨hc2, hm⟩
    · refine W.cond_true (congrArg Value.bool hc2) ?_
      refine W.seq ?_
      refine W.region ?_
      have H := H.addNil (α := Int) (E := 3)
      refine O.assign (v := (.slice none 0 0)) rfl rfl rfl ?_
      refine O.assign (v := (.int .i64 9)) rfl rfl rfl ?_
      refine WL.nil ?_
      refine W.ret ?_
      have hq : (([] : List Int), 9) = (r0, r1) := Option.some.inj (show some (([] : List Int), 9) = some (r0, r1) from hm)
      obtain ⟨he0, hq0⟩ := Prod.mk.inj hq; clear hq; subst he0
      subst hq0
      exact ends2 Try.results32 rfl rfl ⟨_, rfl, H.base, ⟨_, rfl, H.ownR 1 rfl⟩⟩
    · refine W.cond_false (congrArg Value.bool hc2) ?_
      refine W.skip ?_
      refine W.seq ?_
      refine W.region ?_
      have H := H.addNil (α := Int) (E := 3)
      refine O.assign (v := (.slice none 0 0)) rfl rfl rfl ?_
      refine WL.nil ?_
      refine W.seq ?_
      refine W.seq ?_
      refine W.region ?_
      refine O.move (v := (.int .i64 0)) rfl rfl rfl ?_
      refine WL.nil ?_
      obtain ⟨s1, hm1, hm⟩ := bind_some hm
      refine W.via (fun f w => ∃ v5 : Value, f 8 = v5 ∧ Inv w0 w [ownI (α := Int) v5 3 s1]) ?_ ?_
      · skip
        refine W.block ?_
        have H := H.keep [1] [ownI (α := Int) (.slice none 0 0) 3 ([] : List Int)] rfl (by decide)
        refine W.rangeN (i := 0) hm1 (fun rem ik1 s f w => ∃ z2 : (List Int), ∃ v3 : Value, z2 = s ∧ (ik1 : Int) + rem = max 0 13 ∧ f 22 = .int .i64 (ik1 : Int) ∧ f 0 = va0 ∧ f 1 = (.int .i64 a1) ∧ f 8 = v3 ∧ Inv w0 w [ownI (α := Int) v3 3 z2]) ?_ ?_ ?_
        · skip
          exact ⟨_, (.slice none 0 0), rfl, rangeN_start, rfl, rfl, rfl, rfl, H⟩
        · skip
          rintro k ik1 _ st f w ⟨z2, v3, rfl, hdropk1, hf22, hf0, hf1, hf8, H⟩ hm2
          have hltk1 := rangeN_lt hdropk1
          obtain ⟨u1, rfl⟩ : ∃ u1, f = (upd (upd (upd (upd u1 22 (.int .i64 (ik1 : Int))) 0 va0) 1 (.int .i64 a1)) 8 v3) := ⟨f, by rw [upd_self hf22, upd_self hf0, upd_self hf1, upd_self hf8]⟩
          have hinck1 := addI_lt hltk1 (by decide)
          refine W.seq ?_
          refine W.region ?_
          refine O.lss rfl rfl rfl rfl ?_
          refine WL.nil ?_
          refine W.seq ?_
          refine W.cond_true (congrArg Value.bool (decide_eq_true hltk1)) ?_
          refine W.skip ?_
          refine W.seq ?_
          obtain ⟨s2, hm3, hm2⟩ := bind_some hm2
          refine W.via (fun f w => ∃ v6 : Value, f 0 = va0 ∧ f 1 = (.int .i64 a1) ∧ f 8 = v6 ∧ f 22 = (.int .i64 (ik1 : Int)) ∧ Inv w0 w [ownI (α := Int) v6 3 s2]) ?_ ?_
          · skip
            refine W.block ?_
            refine W.seq ?_
            refine W.region ?_
            refine O.move (v := (.int .i64 (ik1 : Int))) rfl rfl rfl ?_
            refine O.assign (v := (.int .i64 (ik1 : Int))) rfl rfl rfl ?_
            refine WL.nil ?_
            refine W.seq ?_
            refine W.region ?_
            refine O.move (v := va0) rfl rfl rfl ?_
            refine O.move (v := (.int .i64 a1)) rfl rfl rfl ?_
            refine O.move (v := (.int .i64 (ik1 : Int))) rfl rfl rfl ?_
            obtain ⟨t3, ht3, hm3⟩ := bind_some hm3
            refine O.shl rfl rfl rfl rfl ht3 ?_
            refine O.or rfl rfl rfl rfl ?_
            obtain ⟨t4, hy2, hm3⟩ := bind_some hm3
            refine O.call Try.call49 rfl rfl rfl (c_noongunref07_hoists _ _ (H.arg ha0) _ hy2) ?_
            rintro v7 w2 hb2 ⟨_, rfl, ho3⟩
            have H := H.ext hb2
            refine O.lenS Try.underlying36 ho3 rfl rfl rfl ?_
            refine O.gtr rfl rfl rfl rfl ?_
            refine WL.nil ?_
            obtain ⟨s3, hm4, hm3⟩ := bind_some hm3
            refine W.via (fun f w => ∃ v8 : Value, f 0 = va0 ∧ f 1 = (.int .i64 a1) ∧ f 8 = v8 ∧ f 22 = (.int .i64 (ik1 : Int)) ∧ Inv w0 w [ownI (α := Int) v8 3 s3]) ?_ ?_
            · skip
              rcases ite_some hm4 with ⟨hc3, hm4⟩ | ⟨hc3, hm4⟩
              · refine W.cond_true (congrArg Value.bool hc3) ?_
                refine W.region ?_
                refine O.move (v := v3) rfl rfl rfl ?_
                refine O.move (v := (.int .i64 (ik1 : Int))) rfl rfl rfl ?_
                refine O.buildSlice (α := Int) [(.int .i64 (ik1 : Int))] [(ik1 : Int)] Try.underlying22 el3 H rfl rfl rfl rfl rfl rfl rfl ?_
                intro v9 w3 H hb3
                have ho3 := ho3.mono hb3
                obtain ⟨t5, ht5, hm4⟩ := bind_some hm4
                refine O.append 0 Try.underlying22 el3 rfl H rfl (H.own 1 rfl) ht5 rfl rfl rfl rfl ?_
                intro v10 w4 H
                clear ho3
                refine O.assign (v := v10) rfl rfl rfl ?_
                refine WL.nil ?_
                have H := H.keep [0] [ownI (α := Int) v10 3 t5] rfl (by decide)
                have hq : t5 = s3 := Option.some.inj (show some t5 = some s3 from hm4)
                subst hq
                exact ⟨v10, rfl, rfl, rfl, rfl, H⟩
              · refine W.cond_false (congrArg Value.bool hc3) ?_
                refine W.skip ?_
                have hq : z2 = s3 := Option.some.inj (show some z2 = some s3 from hm4)
                subst hq
                exact ⟨v3, rfl, rfl, rfl, rfl, H⟩
            · skip
              rintro f w ⟨v8, hf0, hf1, hf8, hf22, H⟩
              obtain ⟨u2, rfl⟩ : ∃ u2, f = (upd (upd (upd (upd u2 0 va0) 1 (.int .i64 a1)) 8 v8) 22 (.int .i64 (ik1 : Int))) := ⟨f, by rw [upd_self hf0, upd_self hf1, upd_self hf8, upd_self hf22]⟩
              have hq : s3 = s2 := Option.some.inj (show some s3 = some s2 from hm3)
              subst hq
              exact ⟨v8, rfl, rfl, rfl, rfl, H⟩
          · skip
            rintro f w ⟨v6, hf0, hf1, hf8, hf22, H⟩
            obtain ⟨u3, rfl⟩ : ∃ u3, f = (upd (upd (upd (upd u3 0 va0) 1 (.int .i64 a1)) 8 v6) 22 (.int .i64 (ik1 : Int))) := ⟨f, by rw [upd_self hf0, upd_self hf1, upd_self hf8, upd_self hf22]⟩
            refine W.region ?_
            refine O.add rfl rfl rfl rfl hinck1 ?_
            refine O.move (v := .int .i64 ((ik1 : Int) + 1)) rfl rfl rfl ?_
            refine WL.nil ?_
            obtain rfl := Option.some.inj hm2
            exact ⟨_, rfl, _, v6, rfl, rangeN_next hdropk1, rfl, rfl, rfl, rfl, H⟩
        · skip
          rintro ik1 _ f w ⟨z2, v3, rfl, hdropk1, hf22, hf0, hf1, hf8, H⟩ hfin
          have hltk1 := rangeN_end hdropk1
          obtain ⟨u4, rfl⟩ : ∃ u4, f = (upd (upd (upd (upd u4 22 (.int .i64 (ik1 : Int))) 0 va0) 1 (.int .i64 a1)) 8 v3) := ⟨f, by rw [upd_self hf22, upd_self hf0, upd_self hf1, upd_self hf8]⟩
          refine W.seq ?_
          refine W.region ?_
          refine O.lss rfl rfl rfl rfl ?_
          refine WL.nil ?_
          refine W.seq ?_
          refine W.cond_false (congrArg Value.bool (decide_eq_false hltk1)) ?_
          refine W.exit ?_
          have hq : z2 = s1 := hfin
          subst hq
          refine xT rfl ?_
          exact ⟨v3, rfl, H⟩
      · skip
        rintro f w ⟨v5, hf8, H⟩
        obtain ⟨u5, rfl⟩ : ∃ u5, f = (upd u5 8 v5) := ⟨f, by rw [upd_self hf8]⟩
        refine W.seq ?_
        refine W.region ?_
        refine O.move (v := v5) rfl rfl rfl ?_
        refine O.assign (v := v5) rfl rfl rfl ?_
        refine O.assign (v := (.int .i64 0)) rfl rfl rfl ?_
        refine WL.nil ?_
        refine W.ret ?_
        have hq : (s1, 0) = (r0, r1) := Option.some.inj (show some (s1, 0) = some (r0, r1) from hm)
        obtain ⟨he0, hq0⟩ := Prod.mk.inj hq; clear hq; subst he0
        subst hq0
        exact ends2 Try.results32 rfl rfl ⟨_, rfl, H.base, ⟨_, rfl, H.ownR 0 rfl⟩⟩

set_option maxRecDepth 20000 in
theorem c_noongunref07_SameHoists {w0 : World} (va0 : Value) (a0 : (List (List Int))) (ha0 : SliceR w0 va0 a0) (va1 : Value) (a1 : (List (List Int))) (ha1 : SliceR w0 va1 a1) {r0 : Bool} (hm : noongunref07_SameHoists a0 a1 = some r0) :
    Calls Try.prog 33 #[va0, va1] w0 (Ret w0 fun _ v => v = (.bool r0)) := by
  unfold noongunref07_SameHoists at hm
  refine calls_of_W Try.func33 rfl Try.ntmps33 (Nat.le_of_ble_eq_true rfl) ?_
  have H := Inv.start (w := w0)
  refine W.seq ?_
  refine W.region ?_
  refine O.assign (v := (.bool false)) rfl rfl rfl ?_
  refine WL.nil ?_
  refine W.seq ?_
  refine W.seq ?_
  refine W.region ?_
  refine O.move (v := va0) rfl rfl rfl ?_
  refine O.lenS Try.underlying36 (H.arg ha0) rfl rfl rfl ?_
  refine O.move (v := va1) rfl rfl rfl ?_
  refine O.lenS Try.underlying36 (H.arg ha1) rfl rfl rfl ?_
  refine O.neq rfl rfl rfl rfl ?_
  refine WL.nil ?_
  rcases ite_some hm with ⟨hc1, hm⟩ | ⟨hc1, hm⟩
  · refine W.cond_true (congrArg Value.bool hc1) ?_
    refine W.seq ?_
    refine W.region ?_
    refine O.assign (v := (.bool false)) rfl rfl rfl ?_
    refine WL.nil ?_
    refine W.ret ?_
    have hq : false = r0 := Option.some.inj (show some false = some r0 from hm)
    subst hq
    exact ends1 Try.results33 rfl ⟨_, rfl, H.base, rfl⟩
  · refine W.cond_false (congrArg Value.bool hc1) ?_
    refine W.skip ?_
    refine W.seq ?_
    refine W.seq ?_
    refine W.region ?_
    refine O.move (v := va0) rfl rfl rfl ?_
    refine O.lenS Try.underlying36 (H.arg ha0) rfl rfl rfl ?_
    refine O.move (v := (.int .i64 0)) rfl rfl rfl ?_
    refine WL.nil ?_
    obtain ⟨o1, hm1, hm⟩ := bind_some hm
    refine W.via (fun f w => o1 = .next () ∧ Inv w0 w []) ?_ ?_
    · skip
      refine W.block ?_
      have hbdik1 := (H.arg ha0).len_le
      refine W.rangeN (i := 0) hm1 (fun rem ik1 s f w => () = s ∧ (ik1 : Int) + rem = max 0 ((a0.length : Nat) : Int) ∧ f 13 = .int .i64 (ik1 : Int) ∧ f 12 = (.int .i64 ((a0.length : Nat) : Int)) ∧ f 0 = va0 ∧ f 1 = va1 ∧ Inv w0 w []) ?_ ?_ ?_
      · skip
        exact ⟨rfl, rangeN_start, rfl, rfl, rfl, rfl, H⟩
      · skip
        rintro k ik1 _ st f w ⟨rfl, hdropk1, hf13, hf12, hf0, hf1, H⟩ hm2
        have hltk1 := rangeN_lt hdropk1
        obtain ⟨u1, rfl⟩ : ∃ u1, f = (upd (upd (upd (upd u1 13 (.int .i64 (ik1 : Int))) 12 (.int .i64 ((a0.length : Nat) : Int))) 0 va0) 1 va1) := ⟨f, by rw [upd_self hf13, upd_self hf12, upd_self hf0, upd_self hf1]⟩
        have hinck1 := addI_lt hltk1 hbdik1
        refine W.seq ?_
        refine W.region ?_
        refine O.lss rfl rfl rfl rfl ?_
        refine WL.nil ?_
        refine W.seq ?_
        refine W.cond_true (congrArg Value.bool (decide_eq_true hltk1)) ?_
        refine W.skip ?_
        refine W.seq ?_
        refine W.block ?_
        refine W.seq ?_
        refine W.region ?_
        refine O.move (v := (.int .i64 (ik1 : Int))) rfl rfl rfl ?_
        refine O.assign (v := (.int .i64 (ik1 : Int))) rfl rfl rfl ?_
        refine WL.nil ?_
        refine W.seq ?_
        obtain ⟨x1, hx1, hm2⟩ := bind_some hm2
        obtain ⟨p1, hp1, hrp1⟩ := fix_indexAddr Try.underlying36 sz22 (H.arg ha0) hx1
        obtain ⟨v1, hs1, hc2⟩ := hp1.slice
        obtain ⟨x2, hx2, hm2⟩ := bind_some hm2
        obtain ⟨p2, hp2, hrp2⟩ := fix_indexAddr Try.underlying36 sz22 (H.arg ha1) hx2
        obtain ⟨v2, hs2, hc3⟩ := hp2.slice
        refine W.drawN 8 (fun f => f 0 = va0 ∧ f 1 = va1 ∧ f 12 = (.int .i64 ((a0.length : Nat) : Int)) ∧ f 13 = (.int .i64 (ik1 : Int)) ∧ f 19 = v1 ∧ f 23 = v2) fol (by kernel_rfl) ?_ ?_
        · skip
          refine PL.of (fun _ w8 _ hx => O.move (v := va0) rfl rfl rfl (WL.nil ⟨rfl, hx⟩)) ?_
          refine PL.of (fun _ w8 _ hx => O.move (v := (.int .i64 (ik1 : Int))) rfl rfl rfl (WL.nil ⟨rfl, hx⟩)) ?_
          refine PL.of (fun _ w8 _ hx => hrp1 rfl rfl rfl rfl (WL.nil ⟨rfl, hx⟩)) ?_
          refine PL.of (fun _ w8 _ hx => by have hc2 := cells_mono hc2 hx; exact O.load sc22 rfl rfl rfl (hc2 0 _ rfl) (WL.nil ⟨rfl, hx⟩)) ?_
          refine PL.of (fun _ w8 _ hx => O.move (v := va1) rfl rfl rfl (WL.nil ⟨rfl, hx⟩)) ?_
          refine PL.of (fun _ w8 _ hx => O.move (v := (.int .i64 (ik1 : Int))) rfl rfl rfl (WL.nil ⟨rfl, hx⟩)) ?_
          refine PL.of (fun _ w8 _ hx => hrp2 rfl rfl rfl rfl (WL.nil ⟨rfl, hx⟩)) ?_
          refine PL.of (fun _ w8 _ hx => by have hc3 := cells_mono hc3 hx; exact O.load sc22 rfl rfl rfl (hc3 0 _ rfl) (WL.nil ⟨rfl, hx⟩)) ?_
          refine PL.nil ?_
          exact ⟨rfl, rfl, rfl, rfl, rfl, rfl⟩
        · skip
          rintro f w ⟨hf0, hf1, hf12, hf13, hf19, hf23⟩ hmd hx
          have H := H.ext hx
          have hp1 := hp1.mono hx
          have hs1 := hs1.mono hx
          have hc2 := cells_mono hc2 hx
          have hp2 := hp2.mono hx
          have hs2 := hs2.mono hx
          have hc3 := cells_mono hc3 hx
          obtain ⟨u2, rfl⟩ : ∃ u2, f = (upd (upd (upd (upd (upd (upd u2 0 va0) 1 va1) 12 (.int .i64 ((a0.length : Nat) : Int))) 13 (.int .i64 (ik1 : Int))) 19 v1) 23 v2) := ⟨f, by rw [upd_self hf0, upd_self hf1, upd_self hf12, upd_self hf13, upd_self hf19, upd_self hf23]⟩
          obtain ⟨t1, hy1, hm2⟩ := bind_some hm2
          refine O.call Try.call18 rfl rfl rfl (c_noongunref07_SameInts _ _ hs1 _ _ hs2 hy1) ?_
          rintro _ w1 hb1 rfl
          have hp1 := hp1.mono hb1
          have hs1 := hs1.mono hb1
          have hc2 := cells_mono hc2 hb1
          have hp2 := hp2.mono hb1
          have hs2 := hs2.mono hb1
          have hc3 := cells_mono hc3 hb1
          have H := H.ext hb1
          refine O.not rfl rfl rfl ?_
          refine WL.nil ?_
          rcases ite_some hm2 with ⟨hc4, hm2⟩ | ⟨hc4, hm2⟩
          · refine W.cond_true (congrArg Value.bool hc4) ?_
            refine W.seq ?_
            refine W.region ?_
            refine O.assign (v := (.bool false)) rfl rfl rfl ?_
            refine WL.nil ?_
            refine W.ret ?_
            obtain rfl := Option.some.inj hm2
            refine ⟨_, rfl, ?_⟩
            rintro rfl
            have hq : false = r0 := Option.some.inj (show some false = some r0 from hm)
            subst hq
            exact ends1 Try.results33 rfl ⟨_, rfl, H.base, rfl⟩
          · refine W.cond_false (congrArg Value.bool hc4) ?_
            refine W.skip ?_
            refine W.region ?_
            refine O.add rfl rfl rfl rfl hinck1 ?_
            refine O.move (v := .int .i64 ((ik1 : Int) + 1)) rfl rfl rfl ?_
            refine WL.nil ?_
            obtain rfl := Option.some.inj hm2
            exact ⟨_, rfl, rfl, rangeN_next hdropk1, rfl, rfl, rfl, rfl, H⟩
      · skip
        rintro ik1 _ f w ⟨rfl, hdropk1, hf13, hf12, hf0, hf1, H⟩ hfin
        have hltk1 := rangeN_end hdropk1
        obtain ⟨u3, rfl⟩ : ∃ u3, f = (upd (upd (upd (upd u3 13 (.int .i64 (ik1 : Int))) 12 (.int .i64 ((a0.length : Nat) : Int))) 0 va0) 1 va1) := ⟨f, by rw [upd_self hf13, upd_self hf12, upd_self hf0, upd_self hf1]⟩
        refine W.seq ?_
        refine W.region ?_
        refine O.lss rfl rfl rfl rfl ?_
        refine WL.nil ?_
        refine W.seq ?_
        refine W.cond_false (congrArg Value.bool (decide_eq_false hltk1)) ?_
        refine W.exit ?_
        obtain rfl : Ctl.next () = o1 := hfin
        refine xT rfl ?_
        exact ⟨rfl, H⟩
    · skip
      rintro f w ⟨rfl, H⟩
      refine W.seq ?_
      refine W.region ?_
      refine O.assign (v := (.bool true)) rfl rfl rfl ?_
      refine WL.nil ?_
      refine W.ret ?_
      have hq : true = r0 := Option.some.inj (show some true = some r0 from hm)
      subst hq
      exact ends1 Try.results33 rfl ⟨_, rfl, H.base, rfl⟩

end Go.Proofs
