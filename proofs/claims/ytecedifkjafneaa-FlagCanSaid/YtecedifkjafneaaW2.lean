/-
  The walks: each function does what its model says, where the model has a value. No other condition.
-/
import Derived.Test.YtecedifkjafneaaW1
namespace Go.Proofs
open Go.Fw Go.RowKit
set_option maxRecDepth 20000 in
theorem c_noongunlaw07_FlagHoists {w0 : World} (va0 : Value) (a0 : (List Int)) (ha0 : SliceR w0 va0 a0) (a1 : Int) (va2 : Value) (a2 : (List Int)) (ha2 : SliceR w0 va2 a2) {r0 : Bool} (hm : noongunlaw07_FlagHoists a0 a1 a2 = some r0) :
    Calls Try.prog 8 #[va0, (.int .i64 a1), va2] w0 (Ret w0 fun _ v => v = (.bool r0)) := by
  unfold noongunlaw07_FlagHoists at hm
  refine calls_of_W Try.func8 rfl Try.ntmps8 (Nat.le_of_ble_eq_true rfl) ?_
  have H := Inv.start (w := w0)
  refine W.seq ?_
  refine W.region ?_
  refine O.assign (v := (.bool false)) rfl rfl rfl ?_
  refine WL.nil ?_
  refine W.seq ?_
  refine W.seq ?_
  refine W.region ?_
  refine O.move (v := va0) rfl rfl rfl ?_
  refine O.lenS Try.underlying22 (H.arg ha0) rfl rfl rfl ?_
  refine O.gtr rfl rfl rfl rfl ?_
  refine O.move (v := (.bool (decide (100 < ((a0.length : Nat) : Int))))) rfl rfl rfl ?_
  refine WL.cut 4 (fun f w => f 0 = va0 ∧ f 1 = (.int .i64 a1) ∧ f 2 = va2 ∧ f 33 = .bool ((decide (100 < ((a0.length : Nat) : Int))) || (decide (100 < ((a2.length : Nat) : Int)))) ∧ Inv w0 w []) ?_ ?_
  · skip
    rcases bool_ft (decide (100 < ((a0.length : Nat) : Int))) with hc1 | hc1
    · skip
      refine WL.reset (i := 29) (v := .bool false) (congrArg Value.bool hc1) ?_
      refine O.move (v := va2) rfl rfl rfl ?_
      refine O.lenS Try.underlying22 (H.arg ha2) rfl rfl rfl ?_
      refine O.gtr rfl rfl rfl rfl ?_
      refine O.pick_false (v := (.bool (decide (100 < ((a2.length : Nat) : Int))))) rfl rfl rfl rfl ?_
      refine WL.nil ?_
      exact ⟨rfl, rfl, rfl, congrArg Value.bool (or_f hc1), H⟩
    · skip
      refine WL.reset (i := 29) (v := .bool true) (congrArg Value.bool hc1) ?_
      refine O.skip rfl rfl ?_
      refine O.skip rfl rfl ?_
      refine O.skip rfl rfl ?_
      refine O.pick_true (v := (.bool true)) rfl rfl rfl rfl ?_
      refine WL.nil ?_
      exact ⟨rfl, rfl, rfl, congrArg Value.bool (or_t hc1), H⟩
  · skip
    rintro f w ⟨hf0, hf1, hf2, hf33, H⟩
    obtain ⟨u1, rfl⟩ : ∃ u1, f = (upd (upd (upd (upd u1 0 va0) 1 (.int .i64 a1)) 2 va2) 33 (.bool ((decide (100 < ((a0.length : Nat) : Int))) || (decide (100 < ((a2.length : Nat) : Int)))))) := ⟨f, by rw [upd_self hf0, upd_self hf1, upd_self hf2, upd_self hf33]⟩
    refine WL.nil ?_
    rcases ite_some hm with ⟨hc2, hm⟩ | ⟨hc2, hm⟩
    · refine W.cond_true (congrArg Value.bool hc2) ?_
      refine W.seq ?_
      refine W.region ?_
      obtain ⟨t1, hy1, hm⟩ := bind_some hm
      refine O.call Try.call9 rfl rfl rfl (c_noongunlaw07_awake  hy1) ?_
      rintro _ w1 hb1 rfl
      have H := H.ext hb1
      refine O.assign (v := (.bool t1)) rfl rfl rfl ?_
      refine WL.nil ?_
      refine W.ret ?_
      have hq : t1 = r0 := Option.some.inj (show some t1 = some r0 from hm)
      subst hq
      exact ends1 Try.results8 rfl ⟨_, rfl, H.base, rfl⟩
    · refine W.cond_false (congrArg Value.bool hc2) ?_
      refine W.skip ?_
      refine W.seq ?_
      refine W.region ?_
      refine O.move (v := va0) rfl rfl rfl ?_
      refine O.move (v := (.int .i64 a1)) rfl rfl rfl ?_
      obtain ⟨⟨t2, t3⟩, hy2, hm⟩ := bind_some hm
      refine O.call Try.call27 rfl rfl rfl (c_flag_Hoists _ _ (H.arg ha0) _ hy2) ?_
      rintro _ w2 hb2 ⟨v1, rfl, ho1⟩
      have H := H.ext hb2
      refine O.move (v := (.tuple #[v1, (.int .i64 t3)])) rfl rfl rfl ?_
      refine O.extract (v := v1) rfl rfl rfl rfl ?_
      refine O.extract (v := (.int .i64 t3)) rfl rfl rfl rfl ?_
      refine O.assign (v := v1) rfl rfl rfl ?_
      refine O.assign (v := (.int .i64 t3)) rfl rfl rfl ?_
      refine WL.nil ?_
      refine W.seq ?_
      refine W.region ?_
      refine O.move (v := va0) rfl rfl rfl ?_
      refine O.move (v := (.int .i64 a1)) rfl rfl rfl ?_
      obtain ⟨⟨t4, t5⟩, hy3, hm⟩ := bind_some hm
      refine O.call Try.call29 rfl rfl rfl (c_noongunref07_Hoists _ _ (H.arg ha0) _ hy3) ?_
      rintro _ w3 hb3 ⟨v2, rfl, ho3⟩
      have ho1 := ho1.mono hb3
      have H := H.ext hb3
      refine O.move (v := (.tuple #[v2, (.int .i64 t5)])) rfl rfl rfl ?_
      refine O.extract (v := v2) rfl rfl rfl rfl ?_
      refine O.extract (v := (.int .i64 t5)) rfl rfl rfl rfl ?_
      refine O.assign (v := v2) rfl rfl rfl ?_
      refine O.assign (v := (.int .i64 t5)) rfl rfl rfl ?_
      refine WL.nil ?_
      refine W.seq ?_
      refine W.region ?_
      refine O.move (v := va0) rfl rfl rfl ?_
      refine O.move (v := (.int .i64 a1)) rfl rfl rfl ?_
      obtain ⟨⟨t6, t7⟩, hy4, hm⟩ := bind_some hm
      refine O.call Try.call28 rfl rfl rfl (c_flag_With _ _ (H.arg ha0) _ hy4) ?_
      rintro _ w4 hb4 ⟨v3, rfl, ho5⟩
      have ho1 := ho1.mono hb4
      have ho3 := ho3.mono hb4
      have H := H.addOwn hb4 ho5
      refine O.move (v := (.tuple #[v3, (.int .i64 t7)])) rfl rfl rfl ?_
      refine O.extract (v := v3) rfl rfl rfl rfl ?_
      refine O.extract (v := (.int .i64 t7)) rfl rfl rfl rfl ?_
      refine O.assign (v := v3) rfl rfl rfl ?_
      refine O.assign (v := (.int .i64 t7)) rfl rfl rfl ?_
      refine WL.nil ?_
      refine W.seq ?_
      refine W.region ?_
      refine O.move (v := va0) rfl rfl rfl ?_
      refine O.move (v := (.int .i64 a1)) rfl rfl rfl ?_
      obtain ⟨⟨t8, t9⟩, hy5, hm⟩ := bind_some hm
      refine O.call Try.call30 rfl rfl rfl (c_noongunref07_With _ _ (H.arg ha0) _ hy5) ?_
      rintro _ w5 hb5 ⟨v4, rfl, ho6⟩
      have ho1 := ho1.mono hb5
      have ho3 := ho3.mono hb5
      have H := H.ext hb5
      refine O.move (v := (.tuple #[v4, (.int .i64 t9)])) rfl rfl rfl ?_
      refine O.extract (v := v4) rfl rfl rfl rfl ?_
      refine O.extract (v := (.int .i64 t9)) rfl rfl rfl rfl ?_
      refine O.assign (v := v4) rfl rfl rfl ?_
      refine O.assign (v := (.int .i64 t9)) rfl rfl rfl ?_
      refine WL.nil ?_
      refine W.seq ?_
      refine W.region ?_
      refine O.move (v := va0) rfl rfl rfl ?_
      refine O.move (v := (.int .i64 a1)) rfl rfl rfl ?_
      obtain ⟨⟨t10, t11⟩, hy6, hm⟩ := bind_some hm
      refine O.call Try.call31 rfl rfl rfl (c_flag_Missed _ _ (H.arg ha0) _ hy6) ?_
      rintro _ w6 hb6 ⟨v5, rfl, ho8⟩
      have ho1 := ho1.mono hb6
      have ho3 := ho3.mono hb6
      have ho6 := ho6.mono hb6
      have H := H.addOwn hb6 ho8
      refine O.move (v := (.tuple #[v5, (.int .i64 t11)])) rfl rfl rfl ?_
      refine O.extract (v := v5) rfl rfl rfl rfl ?_
      refine O.extract (v := (.int .i64 t11)) rfl rfl rfl rfl ?_
      refine O.assign (v := v5) rfl rfl rfl ?_
      refine O.assign (v := (.int .i64 t11)) rfl rfl rfl ?_
      refine WL.nil ?_
      refine W.seq ?_
      refine W.region ?_
      refine O.move (v := va0) rfl rfl rfl ?_
      refine O.move (v := (.int .i64 a1)) rfl rfl rfl ?_
      obtain ⟨⟨t12, t13⟩, hy7, hm⟩ := bind_some hm
      refine O.call Try.call32 rfl rfl rfl (c_noongunref07_Missed _ _ (H.arg ha0) _ hy7) ?_
      rintro _ w7 hb7 ⟨v6, rfl, ho9⟩
      have ho1 := ho1.mono hb7
      have ho3 := ho3.mono hb7
      have ho6 := ho6.mono hb7
      have H := H.addOwn hb7 ho9
      refine O.move (v := (.tuple #[v6, (.int .i64 t13)])) rfl rfl rfl ?_
      refine O.extract (v := v6) rfl rfl rfl rfl ?_
      refine O.extract (v := (.int .i64 t13)) rfl rfl rfl rfl ?_
      refine O.assign (v := v6) rfl rfl rfl ?_
      refine O.assign (v := (.int .i64 t13)) rfl rfl rfl ?_
      refine WL.nil ?_
      refine W.seq ?_
      refine W.seq ?_
      refine W.region ?_
      refine O.move (v := v1) rfl rfl rfl ?_
      refine O.move (v := v2) rfl rfl rfl ?_
      obtain ⟨t14, hy8, hm⟩ := bind_some hm
      refine O.call Try.call33 rfl rfl rfl (c_noongunref07_SameHoists _ _ ho1 _ _ ho3 hy8) ?_
      rintro _ w8 hb8 rfl
      have ho1 := ho1.mono hb8
      have ho3 := ho3.mono hb8
      have ho6 := ho6.mono hb8
      have H := H.ext hb8
      refine O.not rfl rfl rfl ?_
      refine O.move (v := (.bool (!t14))) rfl rfl rfl ?_
      refine WL.cut 4 (fun f w => f 0 = va0 ∧ f 1 = (.int .i64 a1) ∧ f 2 = va2 ∧ f 7 = v1 ∧ f 8 = (.int .i64 t3) ∧ f 11 = v3 ∧ f 12 = (.int .i64 t7) ∧ f 13 = v4 ∧ f 14 = (.int .i64 t9) ∧ f 15 = v5 ∧ f 16 = (.int .i64 t11) ∧ f 17 = v6 ∧ f 18 = (.int .i64 t13) ∧ f 79 = .bool ((!t14) || (t3 != t5)) ∧ SliceR w v1 t2 ∧ SliceR w v4 t8 ∧ Inv w0 w [ownI (α := Int) v3 3 t6, ownI (α := Int) v5 3 t10, ownI (α := Int) v6 3 t12]) ?_ ?_
      · skip
        rcases bool_ft (!t14) with hc3 | hc3
        · skip
          refine WL.reset (i := 75) (v := .bool false) (congrArg Value.bool hc3) ?_
          refine O.move (v := (.int .i64 t3)) rfl rfl rfl ?_
          refine O.move (v := (.int .i64 t5)) rfl rfl rfl ?_
          refine O.neq rfl rfl rfl rfl ?_
          refine O.pick_false (v := (.bool (t3 != t5))) rfl rfl rfl rfl ?_
          refine WL.nil ?_
          exact ⟨rfl, rfl, rfl, rfl, rfl, rfl, rfl, rfl, rfl, rfl, rfl, rfl, rfl, congrArg Value.bool (or_f hc3), ho1, ho6, H⟩
        · skip
          refine WL.reset (i := 75) (v := .bool true) (congrArg Value.bool hc3) ?_
          refine O.skip rfl rfl ?_
          refine O.skip rfl rfl ?_
          refine O.skip rfl rfl ?_
          refine O.pick_true (v := (.bool true)) rfl rfl rfl rfl ?_
          refine WL.nil ?_
          exact ⟨rfl, rfl, rfl, rfl, rfl, rfl, rfl, rfl, rfl, rfl, rfl, rfl, rfl, congrArg Value.bool (or_t hc3), ho1, ho6, H⟩
      · skip
        rintro f w ⟨hf0, hf1, hf2, hf7, hf8, hf11, hf12, hf13, hf14, hf15, hf16, hf17, hf18, hf79, hs1, hs2, H⟩
        obtain ⟨u2, rfl⟩ : ∃ u2, f = (upd (upd (upd (upd (upd (upd (upd (upd (upd (upd (upd (upd (upd (upd u2 0 va0) 1 (.int .i64 a1)) 2 va2) 7 v1) 8 (.int .i64 t3)) 11 v3) 12 (.int .i64 t7)) 13 v4) 14 (.int .i64 t9)) 15 v5) 16 (.int .i64 t11)) 17 v6) 18 (.int .i64 t13)) 79 (.bool ((!t14) || (t3 != t5)))) := ⟨f, by rw [upd_self hf0, upd_self hf1, upd_self hf2, upd_self hf7, upd_self hf8, upd_self hf11, upd_self hf12, upd_self hf13, upd_self hf14, upd_self hf15, upd_self hf16, upd_self hf17, upd_self hf18, upd_self hf79]⟩
        refine O.move (v := (.bool ((!t14) || (t3 != t5)))) rfl rfl rfl ?_
        obtain ⟨b1, hm1, hm⟩ := bind_some hm
        refine WL.cut 5 (fun f w => f 0 = va0 ∧ f 1 = (.int .i64 a1) ∧ f 2 = va2 ∧ f 7 = v1 ∧ f 8 = (.int .i64 t3) ∧ f 12 = (.int .i64 t7) ∧ f 14 = (.int .i64 t9) ∧ f 15 = v5 ∧ f 16 = (.int .i64 t11) ∧ f 17 = v6 ∧ f 18 = (.int .i64 t13) ∧ f 85 = .bool b1 ∧ SliceR w v1 t2 ∧ Inv w0 w [ownI (α := Int) v3 3 t6, ownI (α := Int) v5 3 t10, ownI (α := Int) v6 3 t12]) ?_ ?_
        · skip
          rcases ite_some hm1 with ⟨hc4, hm1⟩ | ⟨hc4, hm1⟩
          · skip
            refine WL.reset (i := 80) (v := .bool true) (congrArg Value.bool hc4) ?_
            refine O.skip rfl rfl ?_
            refine O.skip rfl rfl ?_
            refine O.skip rfl rfl ?_
            refine O.skip rfl rfl ?_
            refine O.pick_true (v := (.bool true)) rfl rfl rfl rfl ?_
            refine WL.nil ?_
            have hq : true = b1 := Option.some.inj (show some true = some b1 from hm1)
            subst hq
            exact ⟨rfl, rfl, rfl, rfl, rfl, rfl, rfl, rfl, rfl, rfl, rfl, rfl, hs1, H⟩
          · skip
            refine WL.reset (i := 80) (v := .bool false) (congrArg Value.bool hc4) ?_
            refine O.move (v := v3) rfl rfl rfl ?_
            refine O.move (v := v4) rfl rfl rfl ?_
            obtain ⟨t15, hy9, hm1⟩ := bind_some hm1
            refine O.call Try.call18 rfl rfl rfl (c_noongunref07_SameInts _ _ (H.own 0 rfl) _ _ hs2 hy9) ?_
            rintro _ w9 hb9 rfl
            have hs1 := hs1.mono hb9
            have hs2 := hs2.mono hb9
            have H := H.ext hb9
            refine O.not rfl rfl rfl ?_
            refine O.pick_false (v := (.bool (!t15))) rfl rfl rfl rfl ?_
            refine WL.nil ?_
            have hq : (!t15) = b1 := Option.some.inj (show some (!t15) = some b1 from hm1)
            subst hq
            exact ⟨rfl, rfl, rfl, rfl, rfl, rfl, rfl, rfl, rfl, rfl, rfl, rfl, hs1, H⟩
        · skip
          rintro f w ⟨hf0, hf1, hf2, hf7, hf8, hf12, hf14, hf15, hf16, hf17, hf18, hf85, hs3, H⟩
          obtain ⟨u3, rfl⟩ : ∃ u3, f = (upd (upd (upd (upd (upd (upd (upd (upd (upd (upd (upd (upd u3 0 va0) 1 (.int .i64 a1)) 2 va2) 7 v1) 8 (.int .i64 t3)) 12 (.int .i64 t7)) 14 (.int .i64 t9)) 15 v5) 16 (.int .i64 t11)) 17 v6) 18 (.int .i64 t13)) 85 (.bool b1)) := ⟨f, by rw [upd_self hf0, upd_self hf1, upd_self hf2, upd_self hf7, upd_self hf8, upd_self hf12, upd_self hf14, upd_self hf15, upd_self hf16, upd_self hf17, upd_self hf18, upd_self hf85]⟩
          refine O.move (v := (.bool b1)) rfl rfl rfl ?_
          refine WL.cut 4 (fun f w => f 0 = va0 ∧ f 1 = (.int .i64 a1) ∧ f 2 = va2 ∧ f 7 = v1 ∧ f 8 = (.int .i64 t3) ∧ f 15 = v5 ∧ f 16 = (.int .i64 t11) ∧ f 17 = v6 ∧ f 18 = (.int .i64 t13) ∧ f 90 = .bool (b1 || (t7 != t9)) ∧ SliceR w v1 t2 ∧ Inv w0 w [ownI (α := Int) v3 3 t6, ownI (α := Int) v5 3 t10, ownI (α := Int) v6 3 t12]) ?_ ?_
          · skip
            rcases bool_ft b1 with hc5 | hc5
            · skip
              refine WL.reset (i := 86) (v := .bool false) (congrArg Value.bool hc5) ?_
              refine O.move (v := (.int .i64 t7)) rfl rfl rfl ?_
              refine O.move (v := (.int .i64 t9)) rfl rfl rfl ?_
              refine O.neq rfl rfl rfl rfl ?_
              refine O.pick_false (v := (.bool (t7 != t9))) rfl rfl rfl rfl ?_
              refine WL.nil ?_
              exact ⟨rfl, rfl, rfl, rfl, rfl, rfl, rfl, rfl, rfl, congrArg Value.bool (or_f hc5), hs3, H⟩
            · skip
              refine WL.reset (i := 86) (v := .bool true) (congrArg Value.bool hc5) ?_
              refine O.skip rfl rfl ?_
              refine O.skip rfl rfl ?_
              refine O.skip rfl rfl ?_
              refine O.pick_true (v := (.bool true)) rfl rfl rfl rfl ?_
              refine WL.nil ?_
              exact ⟨rfl, rfl, rfl, rfl, rfl, rfl, rfl, rfl, rfl, congrArg Value.bool (or_t hc5), hs3, H⟩
          · skip
            rintro f w ⟨hf0, hf1, hf2, hf7, hf8, hf15, hf16, hf17, hf18, hf90, hs4, H⟩
            obtain ⟨u4, rfl⟩ : ∃ u4, f = (upd (upd (upd (upd (upd (upd (upd (upd (upd (upd u4 0 va0) 1 (.int .i64 a1)) 2 va2) 7 v1) 8 (.int .i64 t3)) 15 v5) 16 (.int .i64 t11)) 17 v6) 18 (.int .i64 t13)) 90 (.bool (b1 || (t7 != t9)))) := ⟨f, by rw [upd_self hf0, upd_self hf1, upd_self hf2, upd_self hf7, upd_self hf8, upd_self hf15, upd_self hf16, upd_self hf17, upd_self hf18, upd_self hf90]⟩
            refine O.move (v := (.bool (b1 || (t7 != t9)))) rfl rfl rfl ?_
            obtain ⟨b2, hm2, hm⟩ := bind_some hm
            refine WL.cut 5 (fun f w => f 0 = va0 ∧ f 1 = (.int .i64 a1) ∧ f 2 = va2 ∧ f 7 = v1 ∧ f 8 = (.int .i64 t3) ∧ f 16 = (.int .i64 t11) ∧ f 18 = (.int .i64 t13) ∧ f 96 = .bool b2 ∧ SliceR w v1 t2 ∧ Inv w0 w [ownI (α := Int) v3 3 t6, ownI (α := Int) v5 3 t10, ownI (α := Int) v6 3 t12]) ?_ ?_
            · skip
              rcases ite_some hm2 with ⟨hc6, hm2⟩ | ⟨hc6, hm2⟩
              · skip
                refine WL.reset (i := 91) (v := .bool true) (congrArg Value.bool hc6) ?_
                refine O.skip rfl rfl ?_
                refine O.skip rfl rfl ?_
                refine O.skip rfl rfl ?_
                refine O.skip rfl rfl ?_
                refine O.pick_true (v := (.bool true)) rfl rfl rfl rfl ?_
                refine WL.nil ?_
                have hq : true = b2 := Option.some.inj (show some true = some b2 from hm2)
                subst hq
                exact ⟨rfl, rfl, rfl, rfl, rfl, rfl, rfl, rfl, hs4, H⟩
              · skip
                refine WL.reset (i := 91) (v := .bool false) (congrArg Value.bool hc6) ?_
                refine O.move (v := v5) rfl rfl rfl ?_
                refine O.move (v := v6) rfl rfl rfl ?_
                obtain ⟨t16, hy10, hm2⟩ := bind_some hm2
                refine O.call Try.call18 rfl rfl rfl (c_noongunref07_SameInts _ _ (H.own 1 rfl) _ _ (H.own 2 rfl) hy10) ?_
                rintro _ w10 hb10 rfl
                have hs4 := hs4.mono hb10
                have H := H.ext hb10
                refine O.not rfl rfl rfl ?_
                refine O.pick_false (v := (.bool (!t16))) rfl rfl rfl rfl ?_
                refine WL.nil ?_
                have hq : (!t16) = b2 := Option.some.inj (show some (!t16) = some b2 from hm2)
                subst hq
                exact ⟨rfl, rfl, rfl, rfl, rfl, rfl, rfl, rfl, hs4, H⟩
            · skip
              rintro f w ⟨hf0, hf1, hf2, hf7, hf8, hf16, hf18, hf96, hs5, H⟩
              obtain ⟨u5, rfl⟩ : ∃ u5, f = (upd (upd (upd (upd (upd (upd (upd (upd u5 0 va0) 1 (.int .i64 a1)) 2 va2) 7 v1) 8 (.int .i64 t3)) 16 (.int .i64 t11)) 18 (.int .i64 t13)) 96 (.bool b2)) := ⟨f, by rw [upd_self hf0, upd_self hf1, upd_self hf2, upd_self hf7, upd_self hf8, upd_self hf16, upd_self hf18, upd_self hf96]⟩
              refine O.move (v := (.bool b2)) rfl rfl rfl ?_
              refine WL.cut 4 (fun f w => f 0 = va0 ∧ f 1 = (.int .i64 a1) ∧ f 2 = va2 ∧ f 7 = v1 ∧ f 8 = (.int .i64 t3) ∧ f 101 = .bool (b2 || (t11 != t13)) ∧ SliceR w v1 t2 ∧ Inv w0 w [ownI (α := Int) v3 3 t6, ownI (α := Int) v5 3 t10, ownI (α := Int) v6 3 t12]) ?_ ?_
              · skip
                rcases bool_ft b2 with hc7 | hc7
                · skip
                  refine WL.reset (i := 97) (v := .bool false) (congrArg Value.bool hc7) ?_
                  refine O.move (v := (.int .i64 t11)) rfl rfl rfl ?_
                  refine O.move (v := (.int .i64 t13)) rfl rfl rfl ?_
                  refine O.neq rfl rfl rfl rfl ?_
                  refine O.pick_false (v := (.bool (t11 != t13))) rfl rfl rfl rfl ?_
                  refine WL.nil ?_
                  exact ⟨rfl, rfl, rfl, rfl, rfl, congrArg Value.bool (or_f hc7), hs5, H⟩
                · skip
                  refine WL.reset (i := 97) (v := .bool true) (congrArg Value.bool hc7) ?_
                  refine O.skip rfl rfl ?_
                  refine O.skip rfl rfl ?_
                  refine O.skip rfl rfl ?_
                  refine O.pick_true (v := (.bool true)) rfl rfl rfl rfl ?_
                  refine WL.nil ?_
                  exact ⟨rfl, rfl, rfl, rfl, rfl, congrArg Value.bool (or_t hc7), hs5, H⟩
              · skip
                rintro f w ⟨hf0, hf1, hf2, hf7, hf8, hf101, hs6, H⟩
                obtain ⟨u6, rfl⟩ : ∃ u6, f = (upd (upd (upd (upd (upd (upd u6 0 va0) 1 (.int .i64 a1)) 2 va2) 7 v1) 8 (.int .i64 t3)) 101 (.bool (b2 || (t11 != t13)))) := ⟨f, by rw [upd_self hf0, upd_self hf1, upd_self hf2, upd_self hf7, upd_self hf8, upd_self hf101]⟩
                refine WL.nil ?_
                rcases ite_some hm with ⟨hc8, hm⟩ | ⟨hc8, hm⟩
                · refine W.cond_true (congrArg Value.bool hc8) ?_
                  refine W.seq ?_
                  refine W.region ?_
                  refine O.assign (v := (.bool false)) rfl rfl rfl ?_
                  refine WL.nil ?_
                  refine W.ret ?_
                  have hq : false = r0 := Option.some.inj (show some false = some r0 from hm)
                  subst hq
                  exact ends1 Try.results8 rfl ⟨_, rfl, H.base, rfl⟩
                · refine W.cond_false (congrArg Value.bool hc8) ?_
                  refine W.skip ?_
                  refine W.seq ?_
                  refine W.seq ?_
                  refine W.region ?_
                  refine O.move (v := (.int .i64 t3)) rfl rfl rfl ?_
                  refine O.neq rfl rfl rfl rfl ?_
                  refine O.move (v := (.bool (t3 != 0))) rfl rfl rfl ?_
                  obtain ⟨b3, hm3, hm⟩ := bind_some hm
                  refine WL.cut 4 (fun f w => f 0 = va0 ∧ f 1 = (.int .i64 a1) ∧ f 2 = va2 ∧ f 7 = v1 ∧ f 108 = .bool b3 ∧ SliceR w v1 t2 ∧ Inv w0 w [ownI (α := Int) v3 3 t6, ownI (α := Int) v5 3 t10, ownI (α := Int) v6 3 t12]) ?_ ?_
                  · skip
                    rcases ite_some hm3 with ⟨hc9, hm3⟩ | ⟨hc9, hm3⟩
                    · skip
                      refine WL.reset (i := 104) (v := .bool true) (congrArg Value.bool hc9) ?_
                      refine O.skip rfl rfl ?_
                      refine O.skip rfl rfl ?_
                      refine O.skip rfl rfl ?_
                      refine O.pick_true (v := (.bool true)) rfl rfl rfl rfl ?_
                      refine WL.nil ?_
                      have hq : true = b3 := Option.some.inj (show some true = some b3 from hm3)
                      subst hq
                      exact ⟨rfl, rfl, rfl, rfl, rfl, hs6, H⟩
                    · skip
                      refine WL.reset (i := 104) (v := .bool false) (congrArg Value.bool hc9) ?_
                      refine O.move (v := va2) rfl rfl rfl ?_
                      obtain ⟨t17, hy11, hm3⟩ := bind_some hm3
                      refine O.call Try.call16 rfl rfl rfl (c_flag_ValidHoist _ _ (H.arg ha2) hy11) ?_
                      rintro _ w11 hb11 rfl
                      have hs6 := hs6.mono hb11
                      have H := H.ext hb11
                      refine O.not rfl rfl rfl ?_
                      refine O.pick_false (v := (.bool (!t17))) rfl rfl rfl rfl ?_
                      refine WL.nil ?_
                      have hq : (!t17) = b3 := Option.some.inj (show some (!t17) = some b3 from hm3)
                      subst hq
                      exact ⟨rfl, rfl, rfl, rfl, rfl, hs6, H⟩
                  · skip
                    rintro f w ⟨hf0, hf1, hf2, hf7, hf108, hs7, H⟩
                    obtain ⟨u7, rfl⟩ : ∃ u7, f = (upd (upd (upd (upd (upd u7 0 va0) 1 (.int .i64 a1)) 2 va2) 7 v1) 108 (.bool b3)) := ⟨f, by rw [upd_self hf0, upd_self hf1, upd_self hf2, upd_self hf7, upd_self hf108]⟩
                    refine WL.nil ?_
                    rcases ite_some hm with ⟨hc10, hm⟩ | ⟨hc10, hm⟩
                    · refine W.cond_true (congrArg Value.bool hc10) ?_
                      refine W.seq ?_
                      refine W.region ?_
                      obtain ⟨t18, hy12, hm⟩ := bind_some hm
                      refine O.call Try.call9 rfl rfl rfl (c_noongunlaw07_awake  hy12) ?_
                      rintro _ w12 hb12 rfl
                      have hs7 := hs7.mono hb12
                      have H := H.ext hb12
                      refine O.assign (v := (.bool t18)) rfl rfl rfl ?_
                      refine WL.nil ?_
                      refine W.ret ?_
                      have hq : t18 = r0 := Option.some.inj (show some t18 = some r0 from hm)
                      subst hq
                      exact ends1 Try.results8 rfl ⟨_, rfl, H.base, rfl⟩
                    · refine W.cond_false (congrArg Value.bool hc10) ?_
                      refine W.skip ?_
                      refine W.seq ?_
                      refine W.region ?_
                      refine O.assign (v := (.bool false)) rfl rfl rfl ?_
                      refine WL.nil ?_
                      refine W.seq ?_
                      refine W.seq ?_
                      refine W.region ?_
                      refine O.move (v := v1) rfl rfl rfl ?_
                      refine O.lenS Try.underlying36 hs7 rfl rfl rfl ?_
                      refine O.move (v := (.int .i64 0)) rfl rfl rfl ?_
                      refine WL.nil ?_
                      obtain ⟨s1, hm4, hm⟩ := bind_some hm
                      refine W.via (fun f w => f 0 = va0 ∧ f 1 = (.int .i64 a1) ∧ f 2 = va2 ∧ f 19 = (.bool s1) ∧ Inv w0 w []) ?_ ?_
                      · skip
                        refine W.block ?_
                        have H := H.keep [] [] rfl (by decide)
                        refine W.rangeL (i := 0) hm4 (fun rem ik1 s f w => ∃ z2 : Bool, z2 = s ∧ t2.drop ik1 = rem ∧ f 112 = .int .i64 (ik1 : Int) ∧ f 111 = (.int .i64 ((t2.length : Nat) : Int)) ∧ f 0 = va0 ∧ f 1 = (.int .i64 a1) ∧ f 2 = va2 ∧ f 19 = (.bool z2) ∧ f 110 = v1 ∧ SliceR w v1 t2 ∧ Inv w0 w []) ?_ ?_ ?_
                        · skip
                          exact ⟨_, rfl, List.drop_zero, rfl, rfl, rfl, rfl, rfl, rfl, rfl, hs7, H⟩
                        · skip
                          rintro yk1 xs ik1 _ st f w ⟨z2, rfl, hdropk1, hf112, hf111, hf0, hf1, hf2, hf19, hf110, hs10, H⟩ hm5
                          have hltk1 := drop_lt hdropk1; have hixk1 := drop_idx hdropk1
                          obtain ⟨u8, rfl⟩ : ∃ u8, f = (upd (upd (upd (upd (upd (upd (upd u8 112 (.int .i64 (ik1 : Int))) 111 (.int .i64 ((t2.length : Nat) : Int))) 0 va0) 1 (.int .i64 a1)) 2 va2) 19 (.bool z2)) 110 v1) := ⟨f, by rw [upd_self hf112, upd_self hf111, upd_self hf0, upd_self hf1, upd_self hf2, upd_self hf19, upd_self hf110]⟩
                          have hinck1 := addI_lt hltk1 hs10.len_le
                          refine W.seq ?_
                          refine W.region ?_
                          refine O.lss rfl rfl rfl rfl ?_
                          refine WL.nil ?_
                          refine W.seq ?_
                          refine W.cond_true (congrArg Value.bool (decide_eq_true hltk1)) ?_
                          refine W.skip ?_
                          refine W.seq ?_
                          refine W.block ?_
                          refine W.seq ?_
                          refine W.region ?_
                          refine O.indexAddr Try.underlying36 sz22 hs10 hixk1 rfl rfl rfl rfl ?_
                          intro p1 hp1
                          obtain ⟨v7, hs12, hc11⟩ := hp1.slice
                          refine O.load sc22 rfl rfl rfl (hc11 0 _ rfl) ?_
                          refine O.assign (v := v7) rfl rfl rfl ?_
                          refine WL.nil ?_
                          refine W.region ?_
                          refine O.move (v := (.bool z2)) rfl rfl rfl ?_
                          refine O.move (v := (.bool z2)) rfl rfl rfl ?_
                          obtain ⟨b4, hm6, hm5⟩ := bind_some hm5
                          refine WL.cut 4 (fun f w => f 0 = va0 ∧ f 1 = (.int .i64 a1) ∧ f 2 = va2 ∧ f 110 = v1 ∧ f 111 = (.int .i64 ((t2.length : Nat) : Int)) ∧ f 112 = (.int .i64 (ik1 : Int)) ∧ f 121 = .bool b4 ∧ SliceR w v1 t2 ∧ Inv w0 w []) ?_ ?_
                          · skip
                            rcases ite_some hm6 with ⟨hc12, hm6⟩ | ⟨hc12, hm6⟩
                            · skip
                              refine WL.reset (i := 117) (v := .bool true) (congrArg Value.bool hc12) ?_
                              refine O.skip rfl rfl ?_
                              refine O.skip rfl rfl ?_
                              refine O.skip rfl rfl ?_
                              refine O.pick_true (v := (.bool true)) rfl rfl rfl rfl ?_
                              refine WL.nil ?_
                              have hq : true = b4 := Option.some.inj (show some true = some b4 from hm6)
                              subst hq
                              exact ⟨rfl, rfl, rfl, rfl, rfl, rfl, rfl, hs10, H⟩
                            · skip
                              refine WL.reset (i := 117) (v := .bool false) (congrArg Value.bool hc12) ?_
                              refine O.move (v := v7) rfl rfl rfl ?_
                              refine O.move (v := va2) rfl rfl rfl ?_
                              obtain ⟨t19, hy13, hm6⟩ := bind_some hm6
                              refine O.call Try.call18 rfl rfl rfl (c_noongunref07_SameInts _ _ hs12 _ _ (H.arg ha2) hy13) ?_
                              rintro _ w13 hb13 rfl
                              have hs10 := hs10.mono hb13
                              have hs12 := hs12.mono hb13
                              have hc11 := cells_mono hc11 hb13
                              have H := H.ext hb13
                              refine O.pick_false (v := (.bool t19)) rfl rfl rfl rfl ?_
                              refine WL.nil ?_
                              have hq : t19 = b4 := Option.some.inj (show some t19 = some b4 from hm6)
                              subst hq
                              exact ⟨rfl, rfl, rfl, rfl, rfl, rfl, rfl, hs10, H⟩
                          · skip
                            rintro f w ⟨hf0, hf1, hf2, hf110, hf111, hf112, hf121, hs13, H⟩
                            obtain ⟨u9, rfl⟩ : ∃ u9, f = (upd (upd (upd (upd (upd (upd (upd u9 0 va0) 1 (.int .i64 a1)) 2 va2) 110 v1) 111 (.int .i64 ((t2.length : Nat) : Int))) 112 (.int .i64 (ik1 : Int))) 121 (.bool b4)) := ⟨f, by rw [upd_self hf0, upd_self hf1, upd_self hf2, upd_self hf110, upd_self hf111, upd_self hf112, upd_self hf121]⟩
                            refine O.assign (v := (.bool b4)) rfl rfl rfl ?_
                            refine WL.nil ?_
                            refine W.region ?_
                            refine O.add rfl rfl rfl rfl hinck1 ?_
                            refine O.move (v := .int .i64 ((ik1 : Int) + 1)) rfl rfl rfl ?_
                            refine WL.nil ?_
                            obtain rfl := Option.some.inj hm5
                            exact ⟨_, rfl, _, rfl, drop_next hdropk1, rfl, rfl, rfl, rfl, rfl, rfl, rfl, hs13, H⟩
                        · skip
                          rintro ik1 _ f w ⟨z2, rfl, hdropk1, hf112, hf111, hf0, hf1, hf2, hf19, hf110, hs10, H⟩ hfin
                          have hltk1 := drop_end hdropk1
                          obtain ⟨u10, rfl⟩ : ∃ u10, f = (upd (upd (upd (upd (upd (upd (upd u10 112 (.int .i64 (ik1 : Int))) 111 (.int .i64 ((t2.length : Nat) : Int))) 0 va0) 1 (.int .i64 a1)) 2 va2) 19 (.bool z2)) 110 v1) := ⟨f, by rw [upd_self hf112, upd_self hf111, upd_self hf0, upd_self hf1, upd_self hf2, upd_self hf19, upd_self hf110]⟩
                          refine W.seq ?_
                          refine W.region ?_
                          refine O.lss rfl rfl rfl rfl ?_
                          refine WL.nil ?_
                          refine W.seq ?_
                          refine W.cond_false (congrArg Value.bool (decide_eq_false hltk1)) ?_
                          refine W.exit ?_
                          have hq : z2 = s1 := hfin
                          subst hq
                          refine xT rfl ?_
                          exact ⟨rfl, rfl, rfl, rfl, H⟩
                      · skip
                        rintro f w ⟨hf0, hf1, hf2, hf19, H⟩
                        obtain ⟨u11, rfl⟩ : ∃ u11, f = (upd (upd (upd (upd u11 0 va0) 1 (.int .i64 a1)) 2 va2) 19 (.bool s1)) := ⟨f, by rw [upd_self hf0, upd_self hf1, upd_self hf2, upd_self hf19]⟩
                        refine W.seq ?_
                        refine W.region ?_
                        refine O.move (v := va2) rfl rfl rfl ?_
                        obtain ⟨⟨t20, t21⟩, hy14, hm⟩ := bind_some hm
                        refine O.call Try.call10 rfl rfl rfl (c_flag_Means _ _ (H.arg ha2) hy14) ?_
                        rintro _ w14 hb14 ⟨v8, rfl, ho10⟩
                        have H := H.addOwn hb14 ho10
                        refine O.move (v := (.tuple #[v8, (.int .i64 t21)])) rfl rfl rfl ?_
                        refine O.extract (v := v8) rfl rfl rfl rfl ?_
                        refine O.extract (v := (.int .i64 t21)) rfl rfl rfl rfl ?_
                        refine O.assign (v := v8) rfl rfl rfl ?_
                        refine O.assign (v := (.int .i64 t21)) rfl rfl rfl ?_
                        refine WL.nil ?_
                        refine W.seq ?_
                        refine W.region ?_
                        refine O.move (v := va2) rfl rfl rfl ?_
                        obtain ⟨⟨t22, t23⟩, hy15, hm⟩ := bind_some hm
                        refine O.call Try.call12 rfl rfl rfl (c_flag_Flags _ _ (H.arg ha2) hy15) ?_
                        rintro _ w15 hb15 rfl
                        have H := H.ext hb15
                        refine O.move (v := (.tuple #[(.int .i64 t22), (.int .i64 t23)])) rfl rfl rfl ?_
                        refine O.extract (v := (.int .i64 t22)) rfl rfl rfl rfl ?_
                        refine O.extract (v := (.int .i64 t23)) rfl rfl rfl rfl ?_
                        refine O.assign (v := (.int .i64 t22)) rfl rfl rfl ?_
                        refine O.assign (v := (.int .i64 t23)) rfl rfl rfl ?_
                        refine WL.nil ?_
                        refine W.seq ?_
                        refine W.region ?_
                        refine O.move (v := (.int .i64 t21)) rfl rfl rfl ?_
                        refine O.eql rfl rfl rfl rfl ?_
                        refine O.move (v := (.bool (t21 == 0))) rfl rfl rfl ?_
                        refine WL.cut 3 (fun f w => f 0 = va0 ∧ f 1 = (.int .i64 a1) ∧ f 19 = (.bool s1) ∧ f 22 = v8 ∧ f 24 = (.int .i64 t22) ∧ f 138 = .bool ((t21 == 0) && (t23 == 0)) ∧ Inv w0 w [ownI (α := Int) v8 3 t20]) ?_ ?_
                        · skip
                          rcases bool_ft (t21 == 0) with hc13 | hc13
                          · skip
                            refine WL.reset (i := 135) (v := .bool false) (congrArg Value.bool hc13) ?_
                            refine O.skip rfl rfl ?_
                            refine O.skip rfl rfl ?_
                            refine O.pick_false (v := (.bool false)) rfl rfl rfl rfl ?_
                            refine WL.nil ?_
                            exact ⟨rfl, rfl, rfl, rfl, rfl, congrArg Value.bool (and_f hc13), H⟩
                          · skip
                            refine WL.reset (i := 135) (v := .bool true) (congrArg Value.bool hc13) ?_
                            refine O.move (v := (.int .i64 t23)) rfl rfl rfl ?_
                            refine O.eql rfl rfl rfl rfl ?_
                            refine O.pick_true (v := (.bool (t23 == 0))) rfl rfl rfl rfl ?_
                            refine WL.nil ?_
                            exact ⟨rfl, rfl, rfl, rfl, rfl, congrArg Value.bool (and_t hc13), H⟩
                        · skip
                          rintro f w ⟨hf0, hf1, hf19, hf22, hf24, hf138, H⟩
                          obtain ⟨u12, rfl⟩ : ∃ u12, f = (upd (upd (upd (upd (upd (upd u12 0 va0) 1 (.int .i64 a1)) 19 (.bool s1)) 22 v8) 24 (.int .i64 t22)) 138 (.bool ((t21 == 0) && (t23 == 0)))) := ⟨f, by rw [upd_self hf0, upd_self hf1, upd_self hf19, upd_self hf22, upd_self hf24, upd_self hf138]⟩
                          refine O.move (v := (.bool ((t21 == 0) && (t23 == 0)))) rfl rfl rfl ?_
                          obtain ⟨b5, hm7, hm⟩ := bind_some hm
                          refine WL.cut 12 (fun f w => f 151 = .bool b5 ∧ Inv w0 w [ownI (α := Int) v8 3 t20]) ?_ ?_
                          · skip
                            rcases ite_some hm7 with ⟨hc14, hm7⟩ | ⟨hc14, hm7⟩
                            · skip
                              refine WL.reset (i := 139) (v := .bool true) (congrArg Value.bool hc14) ?_
                              refine O.move (v := (.bool s1)) rfl rfl rfl ?_
                              refine O.move (v := v8) rfl rfl rfl ?_
                              refine O.move (v := va0) rfl rfl rfl ?_
                              obtain ⟨t24, hy16, hm7⟩ := bind_some hm7
                              refine O.call Try.call18 rfl rfl rfl (c_noongunref07_SameInts _ _ (H.own 0 rfl) _ _ (H.arg ha0) hy16) ?_
                              rintro _ w16 hb16 rfl
                              have H := H.ext hb16
                              refine O.move (v := (.bool t24)) rfl rfl rfl ?_
                              refine WL.cut 5 (fun f w => f 139 = (.bool true) ∧ f 140 = (.bool s1) ∧ f 149 = .bool (t24 && ((bits .andNot .i64 t22 a1) == 0)) ∧ Inv w0 w [ownI (α := Int) v8 3 t20]) ?_ ?_
                              · skip
                                rcases bool_ft t24 with hc15 | hc15
                                · skip
                                  refine WL.reset (i := 144) (v := .bool false) (congrArg Value.bool hc15) ?_
                                  refine O.skip rfl rfl ?_
                                  refine O.skip rfl rfl ?_
                                  refine O.skip rfl rfl ?_
                                  refine O.skip rfl rfl ?_
                                  refine O.pick_false (v := (.bool false)) rfl rfl rfl rfl ?_
                                  refine WL.nil ?_
                                  exact ⟨rfl, rfl, congrArg Value.bool (and_f hc15), H⟩
                                · skip
                                  refine WL.reset (i := 144) (v := .bool true) (congrArg Value.bool hc15) ?_
                                  refine O.move (v := (.int .i64 t22)) rfl rfl rfl ?_
                                  refine O.move (v := (.int .i64 a1)) rfl rfl rfl ?_
                                  refine O.andNot rfl rfl rfl rfl ?_
                                  refine O.eql rfl rfl rfl rfl ?_
                                  refine O.pick_true (v := (.bool ((bits .andNot .i64 t22 a1) == 0))) rfl rfl rfl rfl ?_
                                  refine WL.nil ?_
                                  exact ⟨rfl, rfl, congrArg Value.bool (and_t hc15), H⟩
                              · skip
                                rintro f w ⟨hf139, hf140, hf149, H⟩
                                obtain ⟨u13, rfl⟩ : ∃ u13, f = (upd (upd (upd u13 139 (.bool true)) 140 (.bool s1)) 149 (.bool (t24 && ((bits .andNot .i64 t22 a1) == 0)))) := ⟨f, by rw [upd_self hf139, upd_self hf140, upd_self hf149]⟩
                                refine O.eqlB Try.underlying4 rfl rfl rfl rfl ?_
                                refine O.pick_true (v := (.bool (s1 == (t24 && ((bits .andNot .i64 t22 a1) == 0))))) rfl rfl rfl rfl ?_
                                refine WL.nil ?_
                                have hq : (s1 == (t24 && ((bits .andNot .i64 t22 a1) == 0))) = b5 := Option.some.inj (show some (s1 == (t24 && ((bits .andNot .i64 t22 a1) == 0))) = some b5 from hm7)
                                subst hq
                                exact ⟨rfl, H⟩
                            · skip
                              refine WL.reset (i := 139) (v := .bool false) (congrArg Value.bool hc14) ?_
                              refine O.skip rfl rfl ?_
                              refine O.skip rfl rfl ?_
                              refine O.skip rfl rfl ?_
                              refine O.skip rfl rfl ?_
                              refine O.skip rfl rfl ?_
                              refine O.skip rfl rfl ?_
                              refine O.skip rfl rfl ?_
                              refine O.skip rfl rfl ?_
                              refine O.skip rfl rfl ?_
                              refine O.skip rfl rfl ?_
                              refine O.skip rfl rfl ?_
                              refine O.pick_false (v := (.bool false)) rfl rfl rfl rfl ?_
                              refine WL.nil ?_
                              have hq : false = b5 := Option.some.inj (show some false = some b5 from hm7)
                              subst hq
                              exact ⟨rfl, H⟩
                          · skip
                            rintro f w ⟨hf151, H⟩
                            obtain ⟨u14, rfl⟩ : ∃ u14, f = (upd u14 151 (.bool b5)) := ⟨f, by rw [upd_self hf151]⟩
                            refine O.move (v := (.bool b5)) rfl rfl rfl ?_
                            obtain ⟨b6, hm8, hm⟩ := bind_some hm
                            refine WL.cut 2 (fun f w => f 154 = .bool b6 ∧ Inv w0 w [ownI (α := Int) v8 3 t20]) ?_ ?_
                            · skip
                              rcases ite_some hm8 with ⟨hc16, hm8⟩ | ⟨hc16, hm8⟩
                              · skip
                                refine WL.reset (i := 152) (v := .bool true) (congrArg Value.bool hc16) ?_
                                obtain ⟨t25, hy17, hm8⟩ := bind_some hm8
                                refine O.call Try.call9 rfl rfl rfl (c_noongunlaw07_awake  hy17) ?_
                                rintro _ w17 hb17 rfl
                                have H := H.ext hb17
                                refine O.pick_true (v := (.bool t25)) rfl rfl rfl rfl ?_
                                refine WL.nil ?_
                                have hq : t25 = b6 := Option.some.inj (show some t25 = some b6 from hm8)
                                subst hq
                                exact ⟨rfl, H⟩
                              · skip
                                refine WL.reset (i := 152) (v := .bool false) (congrArg Value.bool hc16) ?_
                                refine O.skip rfl rfl ?_
                                refine O.pick_false (v := (.bool false)) rfl rfl rfl rfl ?_
                                refine WL.nil ?_
                                have hq : false = b6 := Option.some.inj (show some false = some b6 from hm8)
                                subst hq
                                exact ⟨rfl, H⟩
                            · skip
                              rintro f w ⟨hf154, H⟩
                              obtain ⟨u15, rfl⟩ : ∃ u15, f = (upd u15 154 (.bool b6)) := ⟨f, by rw [upd_self hf154]⟩
                              refine O.assign (v := (.bool b6)) rfl rfl rfl ?_
                              refine WL.nil ?_
                              refine W.ret ?_
                              have hq : b6 = r0 := Option.some.inj (show some b6 = some r0 from hm)
                              subst hq
                              exact ends1 Try.results8 rfl ⟨_, rfl, H.base, rfl⟩

end Go.Proofs
