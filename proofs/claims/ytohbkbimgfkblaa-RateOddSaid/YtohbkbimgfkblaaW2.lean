/-
  The walks: each function does what its model says, where the model has a value. No other condition.
-/
import Derived.Test.YtohbkbimgfkblaaW1
namespace Go.Proofs
open Go.Fw Go.RowKit
set_option maxRecDepth 20000 in
theorem c_noongunlaw06_RateAhead {w0 : World} (va0_0 : Value) (a0 : GBox) (ha0_0 : SliceR w0 va0_0 a0.Errors) (a1 : Int) (a2 : Int) (a3 : Int) (a4 : Int) {r0 : Bool} (hm : noongunlaw06_RateAhead a0 a1 a2 a3 a4 = some r0) :
    Calls Try.prog 8 #[(.agg #[(.string a0.Name), va0_0]), (.int .i64 a1), (.int .i64 a2), (.int .i64 a3), (.int .i64 a4)] w0 (Ret w0 fun _ v => v = (.bool r0)) := by
  unfold noongunlaw06_RateAhead at hm
  refine calls_of_W Try.func8 rfl Try.ntmps8 (Nat.le_of_ble_eq_true rfl) ?_
  have H := Inv.start (w := w0)
  refine W.seq ?_
  refine W.region ?_
  refine O.box [(.string a0.Name), va0_0] H rfl rfl rfl rfl ?_
  intro b1 w1 H hb1
  refine O.assign (v := (.bool false)) rfl rfl rfl ?_
  refine WL.nil ?_
  refine W.seq ?_
  refine W.seq ?_
  refine W.region ?_
  refine O.loadA [(.string a0.Name), va0_0] ag24 rfl rfl rfl rfl (H.cell 0 rfl) ?_
  refine O.buildSliceR (α := GBox) [(.agg #[(.string a0.Name), va0_0])] [(GBox.mk a0.Name a0.Errors)] Try.underlying55 el24 (RepL.cons (α := GBox) (v := (.agg #[(.string a0.Name), va0_0])) (GBox_rep (H.arg ha0_0)) RepL.nil) rfl rfl rfl rfl rfl ?_
  intro v1 w2 hb2 hs1
  have H := H.ext hb2
  obtain ⟨t1, hy1, hm⟩ := bind_some hm
  refine O.call Try.call13 rfl rfl rfl (c_noongunlaw06_fit _ _ hs1 hy1) ?_
  rintro _ w3 hb3 rfl
  have hs1 := hs1.mono hb3
  have H := H.ext hb3
  refine O.not rfl rfl rfl ?_
  refine WL.nil ?_
  rcases ite_some hm with ⟨hc1, hm⟩ | ⟨hc1, hm⟩
  · refine W.cond_true (congrArg Value.bool hc1) ?_
    refine W.seq ?_
    refine W.region ?_
    obtain ⟨t2, hy2, hm⟩ := bind_some hm
    refine O.call Try.call14 rfl rfl rfl (c_noongunlaw06_awake  hy2) ?_
    rintro _ w4 hb4 rfl
    have hs1 := hs1.mono hb4
    have H := H.ext hb4
    refine O.assign (v := (.bool t2)) rfl rfl rfl ?_
    refine WL.nil ?_
    refine W.ret ?_
    have hq : t2 = r0 := Option.some.inj (show some t2 = some r0 from hm)
    subst hq
    exact ends1 Try.results8 rfl ⟨_, rfl, H.base, rfl⟩
  · refine W.cond_false (congrArg Value.bool hc1) ?_
    refine W.skip ?_
    refine W.seq ?_
    refine W.region ?_
    refine O.loadA [(.string a0.Name), va0_0] ag24 rfl rfl rfl rfl (H.cell 0 rfl) ?_
    refine O.move (v := (.int .i64 a1)) rfl rfl rfl ?_
    refine O.move (v := (.int .i64 a2)) rfl rfl rfl ?_
    obtain ⟨⟨t3, t4⟩, hy3, hm⟩ := bind_some hm
    refine O.call Try.call23 rfl rfl rfl (c_rate_Ahead _ (GBox.mk a0.Name a0.Errors) (H.arg ha0_0) _ _ hy3) ?_
    rintro _ w5 hb5 rfl
    have hs1 := hs1.mono hb5
    have H := H.ext hb5
    refine O.move (v := (.tuple #[(.agg (Flat.cells t3).toArray), (.int .i64 t4)])) rfl rfl rfl ?_
    refine O.extract (v := (.agg (Flat.cells t3).toArray)) rfl rfl rfl rfl ?_
    refine O.extract (v := (.int .i64 t4)) rfl rfl rfl rfl ?_
    refine O.alloc [(.int .i64 0), (.int .i64 0)] ze41 H rfl rfl rfl ?_
    intro b2 w6 H hb6
    have hs1 := hs1.mono hb6
    refine O.store 1 0 [(.int .i64 t3.Lo), (.int .i64 t3.Hi)] [(.int .i64 t3.Lo), (.int .i64 t3.Hi)] sz41 H rfl rfl rfl rfl rfl rfl ⟨⟨rfl, rfl⟩, rfl⟩ (one_cons rfl (one_cons rfl one_nil)) ?_
    intro w7 H
    clear hs1
    refine O.assign (v := (.int .i64 t4)) rfl rfl rfl ?_
    refine WL.nil ?_
    refine W.seq ?_
    refine W.region ?_
    refine O.loadA [(.string a0.Name), va0_0] ag24 rfl rfl rfl rfl (H.cell 0 rfl) ?_
    refine O.move (v := (.int .i64 a1)) rfl rfl rfl ?_
    refine O.move (v := (.int .i64 a2)) rfl rfl rfl ?_
    obtain ⟨⟨t5, t6⟩, hy4, hm⟩ := bind_some hm
    refine O.call Try.call29 rfl rfl rfl (c_noongunref06_Ahead _ (GBox.mk a0.Name a0.Errors) (H.arg ha0_0) _ _ hy4) ?_
    rintro _ w8 hb7 rfl
    have H := H.ext hb7
    refine O.move (v := (.tuple #[(.agg (Flat.cells t5).toArray), (.int .i64 t6)])) rfl rfl rfl ?_
    refine O.extract (v := (.agg (Flat.cells t5).toArray)) rfl rfl rfl rfl ?_
    refine O.extract (v := (.int .i64 t6)) rfl rfl rfl rfl ?_
    refine O.alloc [(.int .i64 0), (.int .i64 0)] ze41 H rfl rfl rfl ?_
    intro b3 w9 H hb8
    refine O.store 2 0 [(.int .i64 t5.Lo), (.int .i64 t5.Hi)] [(.int .i64 t5.Lo), (.int .i64 t5.Hi)] sz41 H rfl rfl rfl rfl rfl rfl ⟨⟨rfl, rfl⟩, rfl⟩ (one_cons rfl (one_cons rfl one_nil)) ?_
    intro w10 H
    refine O.assign (v := (.int .i64 t6)) rfl rfl rfl ?_
    refine WL.nil ?_
    refine W.seq ?_
    refine W.region ?_
    refine O.loadA [(.string a0.Name), va0_0] ag24 rfl rfl rfl rfl (H.cell 0 rfl) ?_
    refine O.move (v := (.int .i64 a4)) rfl rfl rfl ?_
    obtain ⟨⟨t7, t8⟩, hy5, hm⟩ := bind_some hm
    refine O.call Try.call30 rfl rfl rfl (c_rate_Leaps _ (GBox.mk a0.Name a0.Errors) (H.arg ha0_0) _ hy5) ?_
    rintro _ w11 hb9 ⟨v2, rfl, ho1⟩
    have H := H.addOwn hb9 ho1
    refine O.move (v := (.tuple #[v2, (.int .i64 t8)])) rfl rfl rfl ?_
    refine O.extract (v := v2) rfl rfl rfl rfl ?_
    refine O.extract (v := (.int .i64 t8)) rfl rfl rfl rfl ?_
    refine O.assign (v := v2) rfl rfl rfl ?_
    refine O.assign (v := (.int .i64 t8)) rfl rfl rfl ?_
    refine WL.nil ?_
    refine W.seq ?_
    refine W.region ?_
    refine O.loadA [(.string a0.Name), va0_0] ag24 rfl rfl rfl rfl (H.cell 0 rfl) ?_
    refine O.move (v := (.int .i64 a4)) rfl rfl rfl ?_
    obtain ⟨⟨t9, t10⟩, hy6, hm⟩ := bind_some hm
    refine O.call Try.call31 rfl rfl rfl (c_noongunref06_Leaps _ (GBox.mk a0.Name a0.Errors) (H.arg ha0_0) _ hy6) ?_
    rintro _ w12 hb10 ⟨v3, rfl, ho2⟩
    have H := H.addOwn hb10 ho2
    refine O.move (v := (.tuple #[v3, (.int .i64 t10)])) rfl rfl rfl ?_
    refine O.extract (v := v3) rfl rfl rfl rfl ?_
    refine O.extract (v := (.int .i64 t10)) rfl rfl rfl rfl ?_
    refine O.assign (v := v3) rfl rfl rfl ?_
    refine O.assign (v := (.int .i64 t10)) rfl rfl rfl ?_
    refine WL.nil ?_
    refine W.seq ?_
    refine W.seq ?_
    refine W.region ?_
    refine O.loadA [(.int .i64 t3.Lo), (.int .i64 t3.Hi)] ag41 rfl rfl rfl rfl (H.cell 1 rfl) ?_
    refine O.loadA [(.int .i64 t5.Lo), (.int .i64 t5.Hi)] ag41 rfl rfl rfl rfl (H.cell 2 rfl) ?_
    refine O.neqSt t3 t5 eq41 rfl rfl rfl rfl ?_
    refine O.move (v := (.bool (!(t3 == t5)))) rfl rfl rfl ?_
    refine WL.cut 4 (fun f w => f 1 = (.int .i64 a1) ∧ f 2 = (.int .i64 a2) ∧ f 3 = (.int .i64 a3) ∧ f 5 = (.pointer (some ⟨b1, 0, none⟩)) ∧ f 11 = (.pointer (some ⟨b2, 0, none⟩)) ∧ f 12 = (.int .i64 t4) ∧ f 15 = v2 ∧ f 16 = (.int .i64 t8) ∧ f 17 = v3 ∧ f 18 = (.int .i64 t10) ∧ f 59 = .bool ((!(t3 == t5)) || (t4 != t6)) ∧ Inv w0 w [boxI b1 24 [(.string a0.Name), va0_0], boxI b2 41 [(.int .i64 t3.Lo), (.int .i64 t3.Hi)], boxI b3 41 [(.int .i64 t5.Lo), (.int .i64 t5.Hi)], ownI (α := Int) v2 3 t7, ownI (α := Int) v3 3 t9]) ?_ ?_
    · skip
      rcases bool_ft (!(t3 == t5)) with hc2 | hc2
      · skip
        refine WL.reset (i := 55) (v := .bool false) (congrArg Value.bool hc2) ?_
        refine O.move (v := (.int .i64 t4)) rfl rfl rfl ?_
        refine O.move (v := (.int .i64 t6)) rfl rfl rfl ?_
        refine O.neq rfl rfl rfl rfl ?_
        refine O.pick_false (v := (.bool (t4 != t6))) rfl rfl rfl rfl ?_
        refine WL.nil ?_
        exact ⟨rfl, rfl, rfl, rfl, rfl, rfl, rfl, rfl, rfl, rfl, congrArg Value.bool (or_f hc2), H⟩
      · skip
        refine WL.reset (i := 55) (v := .bool true) (congrArg Value.bool hc2) ?_
        refine O.skip rfl rfl ?_
        refine O.skip rfl rfl ?_
        refine O.skip rfl rfl ?_
        refine O.pick_true (v := (.bool true)) rfl rfl rfl rfl ?_
        refine WL.nil ?_
        exact ⟨rfl, rfl, rfl, rfl, rfl, rfl, rfl, rfl, rfl, rfl, congrArg Value.bool (or_t hc2), H⟩
    · skip
      rintro f w ⟨hf1, hf2, hf3, hf5, hf11, hf12, hf15, hf16, hf17, hf18, hf59, H⟩
      obtain ⟨u1, rfl⟩ : ∃ u1, f = (upd (upd (upd (upd (upd (upd (upd (upd (upd (upd (upd u1 1 (.int .i64 a1)) 2 (.int .i64 a2)) 3 (.int .i64 a3)) 5 (.pointer (some ⟨b1, 0, none⟩))) 11 (.pointer (some ⟨b2, 0, none⟩))) 12 (.int .i64 t4)) 15 v2) 16 (.int .i64 t8)) 17 v3) 18 (.int .i64 t10)) 59 (.bool ((!(t3 == t5)) || (t4 != t6)))) := ⟨f, by rw [upd_self hf1, upd_self hf2, upd_self hf3, upd_self hf5, upd_self hf11, upd_self hf12, upd_self hf15, upd_self hf16, upd_self hf17, upd_self hf18, upd_self hf59]⟩
      refine O.move (v := (.bool ((!(t3 == t5)) || (t4 != t6)))) rfl rfl rfl ?_
      obtain ⟨b4, hm1, hm⟩ := bind_some hm
      refine WL.cut 5 (fun f w => f 1 = (.int .i64 a1) ∧ f 2 = (.int .i64 a2) ∧ f 3 = (.int .i64 a3) ∧ f 5 = (.pointer (some ⟨b1, 0, none⟩)) ∧ f 11 = (.pointer (some ⟨b2, 0, none⟩)) ∧ f 12 = (.int .i64 t4) ∧ f 16 = (.int .i64 t8) ∧ f 18 = (.int .i64 t10) ∧ f 65 = .bool b4 ∧ Inv w0 w [boxI b1 24 [(.string a0.Name), va0_0], boxI b2 41 [(.int .i64 t3.Lo), (.int .i64 t3.Hi)], boxI b3 41 [(.int .i64 t5.Lo), (.int .i64 t5.Hi)], ownI (α := Int) v2 3 t7, ownI (α := Int) v3 3 t9]) ?_ ?_
      · skip
        rcases ite_some hm1 with ⟨hc3, hm1⟩ | ⟨hc3, hm1⟩
        · skip
          refine WL.reset (i := 60) (v := .bool true) (congrArg Value.bool hc3) ?_
          refine O.skip rfl rfl ?_
          refine O.skip rfl rfl ?_
          refine O.skip rfl rfl ?_
          refine O.skip rfl rfl ?_
          refine O.pick_true (v := (.bool true)) rfl rfl rfl rfl ?_
          refine WL.nil ?_
          have hq : true = b4 := Option.some.inj (show some true = some b4 from hm1)
          subst hq
          exact ⟨rfl, rfl, rfl, rfl, rfl, rfl, rfl, rfl, rfl, H⟩
        · skip
          refine WL.reset (i := 60) (v := .bool false) (congrArg Value.bool hc3) ?_
          refine O.move (v := v2) rfl rfl rfl ?_
          refine O.move (v := v3) rfl rfl rfl ?_
          obtain ⟨t11, hy7, hm1⟩ := bind_some hm1
          refine O.call Try.call26 rfl rfl rfl (c_noongunref06_SameInts _ _ (H.own 3 rfl) _ _ (H.own 4 rfl) hy7) ?_
          rintro _ w13 hb11 rfl
          have H := H.ext hb11
          refine O.not rfl rfl rfl ?_
          refine O.pick_false (v := (.bool (!t11))) rfl rfl rfl rfl ?_
          refine WL.nil ?_
          have hq : (!t11) = b4 := Option.some.inj (show some (!t11) = some b4 from hm1)
          subst hq
          exact ⟨rfl, rfl, rfl, rfl, rfl, rfl, rfl, rfl, rfl, H⟩
      · skip
        rintro f w ⟨hf1, hf2, hf3, hf5, hf11, hf12, hf16, hf18, hf65, H⟩
        obtain ⟨u2, rfl⟩ : ∃ u2, f = (upd (upd (upd (upd (upd (upd (upd (upd (upd u2 1 (.int .i64 a1)) 2 (.int .i64 a2)) 3 (.int .i64 a3)) 5 (.pointer (some ⟨b1, 0, none⟩))) 11 (.pointer (some ⟨b2, 0, none⟩))) 12 (.int .i64 t4)) 16 (.int .i64 t8)) 18 (.int .i64 t10)) 65 (.bool b4)) := ⟨f, by rw [upd_self hf1, upd_self hf2, upd_self hf3, upd_self hf5, upd_self hf11, upd_self hf12, upd_self hf16, upd_self hf18, upd_self hf65]⟩
        refine O.move (v := (.bool b4)) rfl rfl rfl ?_
        refine WL.cut 4 (fun f w => f 1 = (.int .i64 a1) ∧ f 2 = (.int .i64 a2) ∧ f 3 = (.int .i64 a3) ∧ f 5 = (.pointer (some ⟨b1, 0, none⟩)) ∧ f 11 = (.pointer (some ⟨b2, 0, none⟩)) ∧ f 12 = (.int .i64 t4) ∧ f 70 = .bool (b4 || (t8 != t10)) ∧ Inv w0 w [boxI b1 24 [(.string a0.Name), va0_0], boxI b2 41 [(.int .i64 t3.Lo), (.int .i64 t3.Hi)], boxI b3 41 [(.int .i64 t5.Lo), (.int .i64 t5.Hi)], ownI (α := Int) v2 3 t7, ownI (α := Int) v3 3 t9]) ?_ ?_
        · skip
          rcases bool_ft b4 with hc4 | hc4
          · skip
            refine WL.reset (i := 66) (v := .bool false) (congrArg Value.bool hc4) ?_
            refine O.move (v := (.int .i64 t8)) rfl rfl rfl ?_
            refine O.move (v := (.int .i64 t10)) rfl rfl rfl ?_
            refine O.neq rfl rfl rfl rfl ?_
            refine O.pick_false (v := (.bool (t8 != t10))) rfl rfl rfl rfl ?_
            refine WL.nil ?_
            exact ⟨rfl, rfl, rfl, rfl, rfl, rfl, congrArg Value.bool (or_f hc4), H⟩
          · skip
            refine WL.reset (i := 66) (v := .bool true) (congrArg Value.bool hc4) ?_
            refine O.skip rfl rfl ?_
            refine O.skip rfl rfl ?_
            refine O.skip rfl rfl ?_
            refine O.pick_true (v := (.bool true)) rfl rfl rfl rfl ?_
            refine WL.nil ?_
            exact ⟨rfl, rfl, rfl, rfl, rfl, rfl, congrArg Value.bool (or_t hc4), H⟩
        · skip
          rintro f w ⟨hf1, hf2, hf3, hf5, hf11, hf12, hf70, H⟩
          obtain ⟨u3, rfl⟩ : ∃ u3, f = (upd (upd (upd (upd (upd (upd (upd u3 1 (.int .i64 a1)) 2 (.int .i64 a2)) 3 (.int .i64 a3)) 5 (.pointer (some ⟨b1, 0, none⟩))) 11 (.pointer (some ⟨b2, 0, none⟩))) 12 (.int .i64 t4)) 70 (.bool (b4 || (t8 != t10)))) := ⟨f, by rw [upd_self hf1, upd_self hf2, upd_self hf3, upd_self hf5, upd_self hf11, upd_self hf12, upd_self hf70]⟩
          refine WL.nil ?_
          rcases ite_some hm with ⟨hc5, hm⟩ | ⟨hc5, hm⟩
          · refine W.cond_true (congrArg Value.bool hc5) ?_
            refine W.seq ?_
            refine W.region ?_
            refine O.assign (v := (.bool false)) rfl rfl rfl ?_
            refine WL.nil ?_
            refine W.ret ?_
            have hq : false = r0 := Option.some.inj (show some false = some r0 from hm)
            subst hq
            exact ends1 Try.results8 rfl ⟨_, rfl, H.base, rfl⟩
          · refine W.cond_false (congrArg Value.bool hc5) ?_
            refine W.skip ?_
            refine W.seq ?_
            refine W.seq ?_
            refine W.region ?_
            refine O.move (v := (.int .i64 t4)) rfl rfl rfl ?_
            refine O.neq rfl rfl rfl rfl ?_
            refine O.move (v := (.bool (t4 != 0))) rfl rfl rfl ?_
            refine WL.cut 4 (fun f w => f 1 = (.int .i64 a1) ∧ f 3 = (.int .i64 a3) ∧ f 5 = (.pointer (some ⟨b1, 0, none⟩)) ∧ f 11 = (.pointer (some ⟨b2, 0, none⟩)) ∧ f 77 = .bool ((t4 != 0) || (decide (a3 < a2))) ∧ Inv w0 w [boxI b1 24 [(.string a0.Name), va0_0], boxI b2 41 [(.int .i64 t3.Lo), (.int .i64 t3.Hi)], boxI b3 41 [(.int .i64 t5.Lo), (.int .i64 t5.Hi)], ownI (α := Int) v2 3 t7, ownI (α := Int) v3 3 t9]) ?_ ?_
            · skip
              rcases bool_ft (t4 != 0) with hc6 | hc6
              · skip
                refine WL.reset (i := 73) (v := .bool false) (congrArg Value.bool hc6) ?_
                refine O.move (v := (.int .i64 a3)) rfl rfl rfl ?_
                refine O.move (v := (.int .i64 a2)) rfl rfl rfl ?_
                refine O.lss rfl rfl rfl rfl ?_
                refine O.pick_false (v := (.bool (decide (a3 < a2)))) rfl rfl rfl rfl ?_
                refine WL.nil ?_
                exact ⟨rfl, rfl, rfl, rfl, congrArg Value.bool (or_f hc6), H⟩
              · skip
                refine WL.reset (i := 73) (v := .bool true) (congrArg Value.bool hc6) ?_
                refine O.skip rfl rfl ?_
                refine O.skip rfl rfl ?_
                refine O.skip rfl rfl ?_
                refine O.pick_true (v := (.bool true)) rfl rfl rfl rfl ?_
                refine WL.nil ?_
                exact ⟨rfl, rfl, rfl, rfl, congrArg Value.bool (or_t hc6), H⟩
            · skip
              rintro f w ⟨hf1, hf3, hf5, hf11, hf77, H⟩
              obtain ⟨u4, rfl⟩ : ∃ u4, f = (upd (upd (upd (upd (upd u4 1 (.int .i64 a1)) 3 (.int .i64 a3)) 5 (.pointer (some ⟨b1, 0, none⟩))) 11 (.pointer (some ⟨b2, 0, none⟩))) 77 (.bool ((t4 != 0) || (decide (a3 < a2))))) := ⟨f, by rw [upd_self hf1, upd_self hf3, upd_self hf5, upd_self hf11, upd_self hf77]⟩
              refine WL.nil ?_
              rcases ite_some hm with ⟨hc7, hm⟩ | ⟨hc7, hm⟩
              · refine W.cond_true (congrArg Value.bool hc7) ?_
                refine W.seq ?_
                refine W.region ?_
                obtain ⟨t12, hy8, hm⟩ := bind_some hm
                refine O.call Try.call14 rfl rfl rfl (c_noongunlaw06_awake  hy8) ?_
                rintro _ w14 hb12 rfl
                have H := H.ext hb12
                refine O.assign (v := (.bool t12)) rfl rfl rfl ?_
                refine WL.nil ?_
                refine W.ret ?_
                have hq : t12 = r0 := Option.some.inj (show some t12 = some r0 from hm)
                subst hq
                exact ends1 Try.results8 rfl ⟨_, rfl, H.base, rfl⟩
              · refine W.cond_false (congrArg Value.bool hc7) ?_
                refine W.skip ?_
                refine W.seq ?_
                refine W.region ?_
                refine O.loadA [(.string a0.Name), va0_0] ag24 rfl rfl rfl rfl (H.cell 0 rfl) ?_
                refine O.move (v := (.int .i64 a1)) rfl rfl rfl ?_
                refine O.move (v := (.int .i64 a3)) rfl rfl rfl ?_
                obtain ⟨⟨t13, t14⟩, hy9, hm⟩ := bind_some hm
                refine O.call Try.call23 rfl rfl rfl (c_rate_Ahead _ (GBox.mk a0.Name a0.Errors) (H.arg ha0_0) _ _ hy9) ?_
                rintro _ w15 hb13 rfl
                have H := H.ext hb13
                refine O.move (v := (.tuple #[(.agg (Flat.cells t13).toArray), (.int .i64 t14)])) rfl rfl rfl ?_
                refine O.extract (v := (.agg (Flat.cells t13).toArray)) rfl rfl rfl rfl ?_
                refine O.extract (v := (.int .i64 t14)) rfl rfl rfl rfl ?_
                refine O.alloc [(.int .i64 0), (.int .i64 0)] ze41 H rfl rfl rfl ?_
                intro b5 w16 H hb14
                refine O.store 5 0 [(.int .i64 t13.Lo), (.int .i64 t13.Hi)] [(.int .i64 t13.Lo), (.int .i64 t13.Hi)] sz41 H rfl rfl rfl rfl rfl rfl ⟨⟨rfl, rfl⟩, rfl⟩ (one_cons rfl (one_cons rfl one_nil)) ?_
                intro w17 H
                refine O.assign (v := (.int .i64 t14)) rfl rfl rfl ?_
                refine WL.nil ?_
                refine W.seq ?_
                refine W.region ?_
                refine O.move (v := (.int .i64 t14)) rfl rfl rfl ?_
                refine O.neq rfl rfl rfl rfl ?_
                refine O.move (v := (.bool (t14 != 0))) rfl rfl rfl ?_
                obtain ⟨b6, hm2, hm⟩ := bind_some hm
                refine WL.cut 12 (fun f w => f 100 = .bool b6 ∧ Inv w0 w [boxI b1 24 [(.string a0.Name), va0_0], boxI b2 41 [(.int .i64 t3.Lo), (.int .i64 t3.Hi)], boxI b3 41 [(.int .i64 t5.Lo), (.int .i64 t5.Hi)], ownI (α := Int) v2 3 t7, ownI (α := Int) v3 3 t9, boxI b5 41 [(.int .i64 t13.Lo), (.int .i64 t13.Hi)]]) ?_ ?_
                · skip
                  rcases ite_some hm2 with ⟨hc8, hm2⟩ | ⟨hc8, hm2⟩
                  · skip
                    refine WL.reset (i := 88) (v := .bool true) (congrArg Value.bool hc8) ?_
                    refine O.skip rfl rfl ?_
                    refine O.skip rfl rfl ?_
                    refine O.skip rfl rfl ?_
                    refine O.skip rfl rfl ?_
                    refine O.skip rfl rfl ?_
                    refine O.skip rfl rfl ?_
                    refine O.skip rfl rfl ?_
                    refine O.skip rfl rfl ?_
                    refine O.skip rfl rfl ?_
                    refine O.skip rfl rfl ?_
                    refine O.skip rfl rfl ?_
                    refine O.pick_true (v := (.bool true)) rfl rfl rfl rfl ?_
                    refine WL.nil ?_
                    have hq : true = b6 := Option.some.inj (show some true = some b6 from hm2)
                    subst hq
                    exact ⟨rfl, H⟩
                  · skip
                    refine WL.reset (i := 88) (v := .bool false) (congrArg Value.bool hc8) ?_
                    refine O.fieldAddr fd41_1 rfl rfl rfl ?_
                    refine O.load sc3 rfl rfl rfl (H.cell 5 rfl 1 _ rfl) ?_
                    refine O.fieldAddr fd41_0 rfl rfl rfl ?_
                    refine O.load sc3 rfl rfl rfl (H.cell 5 rfl 0 _ rfl) ?_
                    obtain ⟨t15, ht15, hm2⟩ := bind_some hm2
                    refine O.sub rfl rfl rfl rfl ht15 ?_
                    refine O.fieldAddr fd41_1 rfl rfl rfl ?_
                    refine O.load sc3 rfl rfl rfl (H.cell 1 rfl 1 _ rfl) ?_
                    refine O.fieldAddr fd41_0 rfl rfl rfl ?_
                    refine O.load sc3 rfl rfl rfl (H.cell 1 rfl 0 _ rfl) ?_
                    obtain ⟨t16, ht16, hm2⟩ := bind_some hm2
                    refine O.sub rfl rfl rfl rfl ht16 ?_
                    refine O.geq rfl rfl rfl rfl ?_
                    refine O.pick_false (v := (.bool (decide (t16 ≤ t15)))) rfl rfl rfl rfl ?_
                    refine WL.nil ?_
                    have hq : (decide (t16 ≤ t15)) = b6 := Option.some.inj (show some (decide (t16 ≤ t15)) = some b6 from hm2)
                    subst hq
                    exact ⟨rfl, H⟩
                · skip
                  rintro f w ⟨hf100, H⟩
                  obtain ⟨u5, rfl⟩ : ∃ u5, f = (upd u5 100 (.bool b6)) := ⟨f, by rw [upd_self hf100]⟩
                  refine O.move (v := (.bool b6)) rfl rfl rfl ?_
                  obtain ⟨b7, hm3, hm⟩ := bind_some hm
                  refine WL.cut 2 (fun f w => f 103 = .bool b7 ∧ Inv w0 w [boxI b1 24 [(.string a0.Name), va0_0], boxI b2 41 [(.int .i64 t3.Lo), (.int .i64 t3.Hi)], boxI b3 41 [(.int .i64 t5.Lo), (.int .i64 t5.Hi)], ownI (α := Int) v2 3 t7, ownI (α := Int) v3 3 t9, boxI b5 41 [(.int .i64 t13.Lo), (.int .i64 t13.Hi)]]) ?_ ?_
                  · skip
                    rcases ite_some hm3 with ⟨hc9, hm3⟩ | ⟨hc9, hm3⟩
                    · skip
                      refine WL.reset (i := 101) (v := .bool true) (congrArg Value.bool hc9) ?_
                      obtain ⟨t17, hy10, hm3⟩ := bind_some hm3
                      refine O.call Try.call14 rfl rfl rfl (c_noongunlaw06_awake  hy10) ?_
                      rintro _ w18 hb15 rfl
                      have H := H.ext hb15
                      refine O.pick_true (v := (.bool t17)) rfl rfl rfl rfl ?_
                      refine WL.nil ?_
                      have hq : t17 = b7 := Option.some.inj (show some t17 = some b7 from hm3)
                      subst hq
                      exact ⟨rfl, H⟩
                    · skip
                      refine WL.reset (i := 101) (v := .bool false) (congrArg Value.bool hc9) ?_
                      refine O.skip rfl rfl ?_
                      refine O.pick_false (v := (.bool false)) rfl rfl rfl rfl ?_
                      refine WL.nil ?_
                      have hq : false = b7 := Option.some.inj (show some false = some b7 from hm3)
                      subst hq
                      exact ⟨rfl, H⟩
                  · skip
                    rintro f w ⟨hf103, H⟩
                    obtain ⟨u6, rfl⟩ : ∃ u6, f = (upd u6 103 (.bool b7)) := ⟨f, by rw [upd_self hf103]⟩
                    refine O.assign (v := (.bool b7)) rfl rfl rfl ?_
                    refine WL.nil ?_
                    refine W.ret ?_
                    have hq : b7 = r0 := Option.some.inj (show some b7 = some r0 from hm)
                    subst hq
                    exact ends1 Try.results8 rfl ⟨_, rfl, H.base, rfl⟩

theorem c_noongunref06_Daily {w0 : World} (va0_0 : Value) (a0 : GBox) (ha0_0 : SliceR w0 va0_0 a0.Errors) {r0 : (List Int)} {r1 : Int} (hm : noongunref06_Daily a0 = some (r0, r1)) :
    Calls Try.prog 32 #[(.agg #[(.string a0.Name), va0_0])] w0 (Ret w0 fun w v => ∃ vr0 : Value, v = .tuple #[vr0, (.int .i64 r1)] ∧ OwnR w0 w vr0 3 r0) := by
  unfold noongunref06_Daily at hm
  refine calls_of_W Try.func32 rfl Try.ntmps32 (Nat.le_of_ble_eq_true rfl) ?_
  have H := Inv.start (w := w0)
  refine W.seq ?_
  refine W.region ?_
  refine O.box [(.string a0.Name), va0_0] H rfl rfl rfl rfl ?_
  intro b1 w1 H hb1
  have H := H.addNil (α := Int) (E := 3)
  refine O.assign (v := (.slice none 0 0)) rfl rfl rfl ?_
  refine O.assign (v := (.int .i64 0)) rfl rfl rfl ?_
  refine WL.nil ?_
  refine W.seq ?_
  refine W.seq ?_
  refine W.region ?_
  refine O.loadA [(.string a0.Name), va0_0] ag24 rfl rfl rfl rfl (H.cell 0 rfl) ?_
  obtain ⟨t1, hy1, hm⟩ := bind_some hm
  refine O.call Try.call37 rfl rfl rfl (c_noongunref06_ValidBox _ (GBox.mk a0.Name a0.Errors) (H.arg ha0_0) hy1) ?_
  rintro _ w2 hb2 rfl
  have H := H.ext hb2
  refine O.not rfl rfl rfl ?_
  refine WL.nil ?_
  rcases ite_some hm with ⟨hc1, hm⟩ | ⟨hc1, hm⟩
  · refine W.cond_true (congrArg Value.bool hc1) ?_
    refine W.seq ?_
    refine W.region ?_
    have H := H.addNil (α := Int) (E := 3)
    refine O.assign (v := (.slice none 0 0)) rfl rfl rfl ?_
    refine O.assign (v := (.int .i64 1)) rfl rfl rfl ?_
    refine WL.nil ?_
    refine W.ret ?_
    have hq : (([] : List Int), 1) = (r0, r1) := Option.some.inj (show some (([] : List Int), 1) = some (r0, r1) from hm)
    obtain ⟨he0, hq0⟩ := Prod.mk.inj hq; clear hq; subst he0
    subst hq0
    exact ends2 Try.results32 rfl rfl ⟨_, rfl, H.base, ⟨_, rfl, H.ownR 2 rfl⟩⟩
  · refine W.cond_false (congrArg Value.bool hc1) ?_
    refine W.skip ?_
    refine W.seq ?_
    refine W.region ?_
    refine O.loadA [(.string a0.Name), va0_0] ag24 rfl rfl rfl rfl (H.cell 0 rfl) ?_
    obtain ⟨t2, hy2, hm⟩ := bind_some hm
    refine O.call Try.call66 rfl rfl rfl (c_noongunref06_rates _ (GBox.mk a0.Name a0.Errors) (H.arg ha0_0) _ hy2) ?_
    rintro v1 w3 hb3 ho1
    have H := H.addOwn hb3 ho1
    refine O.assign (v := v1) rfl rfl rfl ?_
    refine O.assign (v := (.int .i64 0)) rfl rfl rfl ?_
    refine WL.nil ?_
    refine W.ret ?_
    have hq : (t2, 0) = (r0, r1) := Option.some.inj (show some (t2, 0) = some (r0, r1) from hm)
    obtain ⟨he0, hq0⟩ := Prod.mk.inj hq; clear hq; subst he0
    subst hq0
    exact ends2 Try.results32 rfl rfl ⟨_, rfl, H.base, ⟨_, rfl, H.ownR 2 rfl⟩⟩

theorem c_noongunref06_Weekly {w0 : World} (va0_0 : Value) (a0 : GBox) (ha0_0 : SliceR w0 va0_0 a0.Errors) {r0 : (List Int)} {r1 : Int} (hm : noongunref06_Weekly a0 = some (r0, r1)) :
    Calls Try.prog 34 #[(.agg #[(.string a0.Name), va0_0])] w0 (Ret w0 fun w v => ∃ vr0 : Value, v = .tuple #[vr0, (.int .i64 r1)] ∧ OwnR w0 w vr0 3 r0) := by
  unfold noongunref06_Weekly at hm
  refine calls_of_W Try.func34 rfl Try.ntmps34 (Nat.le_of_ble_eq_true rfl) ?_
  have H := Inv.start (w := w0)
  refine W.seq ?_
  refine W.region ?_
  refine O.box [(.string a0.Name), va0_0] H rfl rfl rfl rfl ?_
  intro b1 w1 H hb1
  have H := H.addNil (α := Int) (E := 3)
  refine O.assign (v := (.slice none 0 0)) rfl rfl rfl ?_
  refine O.assign (v := (.int .i64 0)) rfl rfl rfl ?_
  refine WL.nil ?_
  refine W.seq ?_
  refine W.seq ?_
  refine W.region ?_
  refine O.loadA [(.string a0.Name), va0_0] ag24 rfl rfl rfl rfl (H.cell 0 rfl) ?_
  obtain ⟨t1, hy1, hm⟩ := bind_some hm
  refine O.call Try.call37 rfl rfl rfl (c_noongunref06_ValidBox _ (GBox.mk a0.Name a0.Errors) (H.arg ha0_0) hy1) ?_
  rintro _ w2 hb2 rfl
  have H := H.ext hb2
  refine O.not rfl rfl rfl ?_
  refine WL.nil ?_
  rcases ite_some hm with ⟨hc1, hm⟩ | ⟨hc1, hm⟩
  · refine W.cond_true (congrArg Value.bool hc1) ?_
    refine W.seq ?_
    refine W.region ?_
    have H := H.addNil (α := Int) (E := 3)
    refine O.assign (v := (.slice none 0 0)) rfl rfl rfl ?_
    refine O.assign (v := (.int .i64 1)) rfl rfl rfl ?_
    refine WL.nil ?_
    refine W.ret ?_
    have hq : (([] : List Int), 1) = (r0, r1) := Option.some.inj (show some (([] : List Int), 1) = some (r0, r1) from hm)
    obtain ⟨he0, hq0⟩ := Prod.mk.inj hq; clear hq; subst he0
    subst hq0
    exact ends2 Try.results34 rfl rfl ⟨_, rfl, H.base, ⟨_, rfl, H.ownR 2 rfl⟩⟩
  · refine W.cond_false (congrArg Value.bool hc1) ?_
    refine W.skip ?_
    refine W.seq ?_
    refine W.region ?_
    refine O.loadA [(.string a0.Name), va0_0] ag24 rfl rfl rfl rfl (H.cell 0 rfl) ?_
    obtain ⟨t2, hy2, hm⟩ := bind_some hm
    refine O.call Try.call66 rfl rfl rfl (c_noongunref06_rates _ (GBox.mk a0.Name a0.Errors) (H.arg ha0_0) _ hy2) ?_
    rintro v1 w3 hb3 ho1
    have H := H.addOwn hb3 ho1
    refine O.assign (v := v1) rfl rfl rfl ?_
    refine WL.nil ?_
    refine W.seq ?_
    refine W.seq ?_
    refine W.region ?_
    refine O.move (v := v1) rfl rfl rfl ?_
    refine O.lenS Try.underlying22 (H.own 2 rfl) rfl rfl rfl ?_
    refine O.eql rfl rfl rfl rfl ?_
    refine WL.nil ?_
    rcases ite_some hm with ⟨hc2, hm⟩ | ⟨hc2, hm⟩
    · refine W.cond_true (congrArg Value.bool hc2) ?_
      refine W.seq ?_
      refine W.region ?_
      have H := H.addNil (α := Int) (E := 3)
      refine O.assign (v := (.slice none 0 0)) rfl rfl rfl ?_
      refine O.assign (v := (.int .i64 8)) rfl rfl rfl ?_
      refine WL.nil ?_
      refine W.ret ?_
      have hq : (([] : List Int), 8) = (r0, r1) := Option.some.inj (show some (([] : List Int), 8) = some (r0, r1) from hm)
      obtain ⟨he0, hq0⟩ := Prod.mk.inj hq; clear hq; subst he0
      subst hq0
      exact ends2 Try.results34 rfl rfl ⟨_, rfl, H.base, ⟨_, rfl, H.ownR 3 rfl⟩⟩
    · refine W.cond_false (congrArg Value.bool hc2) ?_
      refine W.skip ?_
      refine W.seq ?_
      refine W.region ?_
      refine O.move (v := v1) rfl rfl rfl ?_
      refine O.assign (v := v1) rfl rfl rfl ?_
      refine O.assign (v := (.int .i64 0)) rfl rfl rfl ?_
      refine WL.nil ?_
      refine W.ret ?_
      have hq : (t2, 0) = (r0, r1) := Option.some.inj (show some (t2, 0) = some (r0, r1) from hm)
      obtain ⟨he0, hq0⟩ := Prod.mk.inj hq; clear hq; subst he0
      subst hq0
      exact ends2 Try.results34 rfl rfl ⟨_, rfl, H.base, ⟨_, rfl, H.ownR 2 rfl⟩⟩

theorem c_rate_Mean {w0 : World} (va0_0 : Value) (a0 : GBox) (ha0_0 : SliceR w0 va0_0 a0.Errors) {r0 : GRatio} {r1 : Int} (hm : rate_Mean a0 = some (r0, r1)) :
    Calls Try.prog 35 #[(.agg #[(.string a0.Name), va0_0])] w0 (Ret w0 fun _ v => v = .tuple #[(.agg (Flat.cells r0).toArray), (.int .i64 r1)]) := by
  unfold rate_Mean at hm
  refine calls_of_W Try.func35 rfl Try.ntmps35 (Nat.le_of_ble_eq_true rfl) ?_
  have H := Inv.start (w := w0)
  refine W.seq ?_
  refine W.region ?_
  refine O.box [(.string a0.Name), va0_0] H rfl rfl rfl rfl ?_
  intro b1 w1 H hb1
  refine O.alloc [(.int .i64 0), (.int .i64 0)] ze48 H rfl rfl rfl ?_
  intro b2 w2 H hb2
  refine O.assign (v := (.int .i64 0)) rfl rfl rfl ?_
  refine WL.nil ?_
  refine W.seq ?_
  refine W.seq ?_
  refine W.region ?_
  refine O.loadA [(.string a0.Name), va0_0] ag24 rfl rfl rfl rfl (H.cell 0 rfl) ?_
  obtain ⟨t1, hy1, hm⟩ := bind_some hm
  refine O.call Try.call16 rfl rfl rfl (c_rate_ValidBox _ (GBox.mk a0.Name a0.Errors) (H.arg ha0_0) hy1) ?_
  rintro _ w3 hb3 rfl
  have H := H.ext hb3
  refine O.not rfl rfl rfl ?_
  refine WL.nil ?_
  rcases ite_some hm with ⟨hc1, hm⟩ | ⟨hc1, hm⟩
  · refine W.cond_true (congrArg Value.bool hc1) ?_
    refine W.seq ?_
    refine W.region ?_
    refine O.build (v := (.agg (Flat.cells (GRatio.mk 0 0)).toArray)) (fun w => bd48_  w) rfl rfl rfl ?_
    refine O.store 1 0 [(.int .i64 0), (.int .i64 0)] [(.int .i64 0), (.int .i64 0)] sz48 H rfl rfl rfl rfl rfl rfl ⟨⟨rfl, rfl⟩, rfl⟩ (one_cons rfl (one_cons rfl one_nil)) ?_
    intro w4 H
    refine O.assign (v := (.int .i64 1)) rfl rfl rfl ?_
    refine WL.nil ?_
    refine W.ret ?_
    have hq : ((GRatio.mk 0 0), 1) = (r0, r1) := Option.some.inj (show some ((GRatio.mk 0 0), 1) = some (r0, r1) from hm)
    obtain ⟨he0, hq0⟩ := Prod.mk.inj hq; clear hq; subst he0
    subst hq0
    exact ends2 Try.results35 ⟨_, rfl, run_loadVar_agg ag48 rfl (H.cell 1 rfl)⟩ rfl ⟨_, rfl, H.base, rfl⟩
  · refine W.cond_false (congrArg Value.bool hc1) ?_
    refine W.skip ?_
    refine W.seq ?_
    refine W.region ?_
    refine O.fieldAddr fd24_1 rfl rfl rfl ?_
    refine O.load sc22 rfl rfl rfl (H.cell 0 rfl 1 _ rfl) ?_
    refine O.lenS Try.underlying22 (H.arg ha0_0) rfl rfl rfl ?_
    obtain ⟨t2, ht2, hm⟩ := bind_some hm
    refine O.sub rfl rfl rfl rfl ht2 ?_
    refine O.assign (v := (.int .i64 t2)) rfl rfl rfl ?_
    refine WL.nil ?_
    refine W.seq ?_
    obtain ⟨x1, hx1, hm⟩ := bind_some hm
    obtain ⟨p1, hp1, hrp1⟩ := fix_indexAddr Try.underlying22 sz3 (H.arg ha0_0) hx1
    obtain ⟨x2, hx2, hm⟩ := bind_some hm
    obtain ⟨p2, hp2, hrp2⟩ := fix_indexAddr Try.underlying22 sz3 (H.arg ha0_0) hx2
    obtain ⟨t3, ht3, hm⟩ := bind_some hm
    obtain ⟨⟨t4, t5⟩, hy2, hm⟩ := bind_some hm
    refine W.drawN 14 (fun f => f 2 = (.pointer (some ⟨b2, 0, none⟩)) ∧ f 25 = (.agg (Flat.cells t4).toArray) ∧ f 26 = (.int .i64 t5)) fol (by kernel_rfl) ?_ ?_
    · skip
      refine PL.of (fun _ w8 _ hx => O.fieldAddr fd24_1 rfl rfl rfl (WL.nil ⟨rfl, hx⟩)) ?_
      refine PL.of (fun _ w8 _ hx => by have H := H.ext hx; exact O.load sc22 rfl rfl rfl (H.cell 0 rfl 1 _ rfl) (WL.nil ⟨rfl, hx⟩)) ?_
      refine PL.of (fun _ w8 _ hx => O.move (v := (.int .i64 t2)) rfl rfl rfl (WL.nil ⟨rfl, hx⟩)) ?_
      refine PL.of (fun _ w8 _ hx => hrp1 rfl rfl rfl rfl (WL.nil ⟨rfl, hx⟩)) ?_
      refine PL.of (fun _ w8 _ hx => by have hp1 := hp1.mono hx; exact O.load sc3 rfl rfl rfl (hp1.flat 0 _ rfl) (WL.nil ⟨rfl, hx⟩)) ?_
      refine PL.of (fun _ w8 _ hx => O.fieldAddr fd24_1 rfl rfl rfl (WL.nil ⟨rfl, hx⟩)) ?_
      refine PL.of (fun _ w8 _ hx => by have H := H.ext hx; exact O.load sc22 rfl rfl rfl (H.cell 0 rfl 1 _ rfl) (WL.nil ⟨rfl, hx⟩)) ?_
      refine PL.of (fun _ w8 _ hx => hrp2 rfl rfl rfl rfl (WL.nil ⟨rfl, hx⟩)) ?_
      refine PL.of (fun _ w8 _ hx => by have hp2 := hp2.mono hx; exact O.load sc3 rfl rfl rfl (hp2.flat 0 _ rfl) (WL.nil ⟨rfl, hx⟩)) ?_
      refine PL.of (fun _ w8 _ hx => O.sub rfl rfl rfl rfl ht3 (WL.nil ⟨rfl, hx⟩)) ?_
      refine PL.of (fun _ w8 _ hx => O.move (v := (.int .i64 t2)) rfl rfl rfl (WL.nil ⟨rfl, hx⟩)) ?_
      refine PL.of (fun _ w8 _ hx => O.call Try.call67 rfl rfl rfl (c_span_Make _ _ hy2) (by rintro _ _ hb rfl; exact WL.nil ⟨rfl, hx.trans (hb.mono hx.size)⟩)) ?_
      refine PL.of (fun _ w8 _ hx => O.extract (v := (.agg (Flat.cells t4).toArray)) rfl rfl rfl rfl (WL.nil ⟨rfl, hx⟩)) ?_
      refine PL.of (fun _ w8 _ hx => O.extract (v := (.int .i64 t5)) rfl rfl rfl rfl (WL.nil ⟨rfl, hx⟩)) ?_
      refine PL.nil ?_
      exact ⟨rfl, rfl, rfl⟩
    · skip
      rintro f w ⟨hf2, hf25, hf26⟩ hmd hx
      have H := H.ext hx
      have hp1 := hp1.mono hx
      have hp2 := hp2.mono hx
      obtain ⟨u1, rfl⟩ : ∃ u1, f = (upd (upd (upd u1 2 (.pointer (some ⟨b2, 0, none⟩))) 25 (.agg (Flat.cells t4).toArray)) 26 (.int .i64 t5)) := ⟨f, by rw [upd_self hf2, upd_self hf25, upd_self hf26]⟩
      refine O.store 1 0 [(.int .i64 t4.N), (.int .i64 t4.D)] [(.int .i64 t4.N), (.int .i64 t4.D)] sz48 H rfl rfl rfl rfl rfl rfl ⟨⟨rfl, rfl⟩, rfl⟩ (one_cons rfl (one_cons rfl one_nil)) ?_
      intro w5 H
      clear hp1
      clear hp2
      refine O.assign (v := (.int .i64 t5)) rfl rfl rfl ?_
      refine WL.nil ?_
      refine W.ret ?_
      have hq : (t4, t5) = (r0, r1) := Option.some.inj (show some (t4, t5) = some (r0, r1) from hm)
      obtain ⟨he0, hq0⟩ := Prod.mk.inj hq; clear hq; subst he0
      subst hq0
      exact ends2 Try.results35 ⟨_, rfl, run_loadVar_agg ag48 rfl (H.cell 1 rfl)⟩ rfl ⟨_, rfl, H.base, rfl⟩

theorem c_noongunref06_Mean {w0 : World} (va0_0 : Value) (a0 : GBox) (ha0_0 : SliceR w0 va0_0 a0.Errors) {r0 : GRatio} {r1 : Int} (hm : noongunref06_Mean a0 = some (r0, r1)) :
    Calls Try.prog 36 #[(.agg #[(.string a0.Name), va0_0])] w0 (Ret w0 fun _ v => v = .tuple #[(.agg (Flat.cells r0).toArray), (.int .i64 r1)]) := by
  unfold noongunref06_Mean at hm
  refine calls_of_W Try.func36 rfl Try.ntmps36 (Nat.le_of_ble_eq_true rfl) ?_
  have H := Inv.start (w := w0)
  refine W.seq ?_
  refine W.region ?_
  refine O.box [(.string a0.Name), va0_0] H rfl rfl rfl rfl ?_
  intro b1 w1 H hb1
  refine O.alloc [(.int .i64 0), (.int .i64 0)] ze48 H rfl rfl rfl ?_
  intro b2 w2 H hb2
  refine O.assign (v := (.int .i64 0)) rfl rfl rfl ?_
  refine WL.nil ?_
  refine W.seq ?_
  refine W.seq ?_
  refine W.region ?_
  refine O.loadA [(.string a0.Name), va0_0] ag24 rfl rfl rfl rfl (H.cell 0 rfl) ?_
  obtain ⟨t1, hy1, hm⟩ := bind_some hm
  refine O.call Try.call37 rfl rfl rfl (c_noongunref06_ValidBox _ (GBox.mk a0.Name a0.Errors) (H.arg ha0_0) hy1) ?_
  rintro _ w3 hb3 rfl
  have H := H.ext hb3
  refine O.not rfl rfl rfl ?_
  refine WL.nil ?_
  rcases ite_some hm with ⟨hc1, hm⟩ | ⟨hc1, hm⟩
  · refine W.cond_true (congrArg Value.bool hc1) ?_
    refine W.seq ?_
    refine W.region ?_
    refine O.build (v := (.agg (Flat.cells (GRatio.mk 0 0)).toArray)) (fun w => bd48_  w) rfl rfl rfl ?_
    refine O.store 1 0 [(.int .i64 0), (.int .i64 0)] [(.int .i64 0), (.int .i64 0)] sz48 H rfl rfl rfl rfl rfl rfl ⟨⟨rfl, rfl⟩, rfl⟩ (one_cons rfl (one_cons rfl one_nil)) ?_
    intro w4 H
    refine O.assign (v := (.int .i64 1)) rfl rfl rfl ?_
    refine WL.nil ?_
    refine W.ret ?_
    have hq : ((GRatio.mk 0 0), 1) = (r0, r1) := Option.some.inj (show some ((GRatio.mk 0 0), 1) = some (r0, r1) from hm)
    obtain ⟨he0, hq0⟩ := Prod.mk.inj hq; clear hq; subst he0
    subst hq0
    exact ends2 Try.results36 ⟨_, rfl, run_loadVar_agg ag48 rfl (H.cell 1 rfl)⟩ rfl ⟨_, rfl, H.base, rfl⟩
  · refine W.cond_false (congrArg Value.bool hc1) ?_
    refine W.skip ?_
    refine W.seq ?_
    obtain ⟨t2, ht2, hm⟩ := bind_some hm
    obtain ⟨x1, hx1, hm⟩ := bind_some hm
    obtain ⟨p1, hp1, hrp1⟩ := fix_indexAddr Try.underlying22 sz3 (H.arg ha0_0) hx1
    obtain ⟨x2, hx2, hm⟩ := bind_some hm
    obtain ⟨p2, hp2, hrp2⟩ := fix_indexAddr Try.underlying22 sz3 (H.arg ha0_0) hx2
    obtain ⟨t3, ht3, hm⟩ := bind_some hm
    obtain ⟨t4, ht4, hm⟩ := bind_some hm
    obtain ⟨⟨t5, t6⟩, hy2, hm⟩ := bind_some hm
    refine W.drawN 20 (fun f => f 2 = (.pointer (some ⟨b2, 0, none⟩)) ∧ f 26 = (.agg (Flat.cells t5).toArray) ∧ f 27 = (.int .i64 t6)) fol (by kernel_rfl) ?_ ?_
    · skip
      refine PL.of (fun _ w8 _ hx => O.fieldAddr fd24_1 rfl rfl rfl (WL.nil ⟨rfl, hx⟩)) ?_
      refine PL.of (fun _ w8 _ hx => by have H := H.ext hx; exact O.load sc22 rfl rfl rfl (H.cell 0 rfl 1 _ rfl) (WL.nil ⟨rfl, hx⟩)) ?_
      refine PL.of (fun _ w8 _ hx => O.fieldAddr fd24_1 rfl rfl rfl (WL.nil ⟨rfl, hx⟩)) ?_
      refine PL.of (fun _ w8 _ hx => by have H := H.ext hx; exact O.load sc22 rfl rfl rfl (H.cell 0 rfl 1 _ rfl) (WL.nil ⟨rfl, hx⟩)) ?_
      refine PL.of (fun _ w8 _ hx => by have H := H.ext hx; exact O.lenS Try.underlying22 (H.arg ha0_0) rfl rfl rfl (WL.nil ⟨rfl, hx⟩)) ?_
      refine PL.of (fun _ w8 _ hx => O.sub rfl rfl rfl rfl ht2 (WL.nil ⟨rfl, hx⟩)) ?_
      refine PL.of (fun _ w8 _ hx => hrp1 rfl rfl rfl rfl (WL.nil ⟨rfl, hx⟩)) ?_
      refine PL.of (fun _ w8 _ hx => by have hp1 := hp1.mono hx; exact O.load sc3 rfl rfl rfl (hp1.flat 0 _ rfl) (WL.nil ⟨rfl, hx⟩)) ?_
      refine PL.of (fun _ w8 _ hx => O.fieldAddr fd24_1 rfl rfl rfl (WL.nil ⟨rfl, hx⟩)) ?_
      refine PL.of (fun _ w8 _ hx => by have H := H.ext hx; exact O.load sc22 rfl rfl rfl (H.cell 0 rfl 1 _ rfl) (WL.nil ⟨rfl, hx⟩)) ?_
      refine PL.of (fun _ w8 _ hx => hrp2 rfl rfl rfl rfl (WL.nil ⟨rfl, hx⟩)) ?_
      refine PL.of (fun _ w8 _ hx => by have hp2 := hp2.mono hx; exact O.load sc3 rfl rfl rfl (hp2.flat 0 _ rfl) (WL.nil ⟨rfl, hx⟩)) ?_
      refine PL.of (fun _ w8 _ hx => O.sub rfl rfl rfl rfl ht3 (WL.nil ⟨rfl, hx⟩)) ?_
      refine PL.of (fun _ w8 _ hx => O.fieldAddr fd24_1 rfl rfl rfl (WL.nil ⟨rfl, hx⟩)) ?_
      refine PL.of (fun _ w8 _ hx => by have H := H.ext hx; exact O.load sc22 rfl rfl rfl (H.cell 0 rfl 1 _ rfl) (WL.nil ⟨rfl, hx⟩)) ?_
      refine PL.of (fun _ w8 _ hx => by have H := H.ext hx; exact O.lenS Try.underlying22 (H.arg ha0_0) rfl rfl rfl (WL.nil ⟨rfl, hx⟩)) ?_
      refine PL.of (fun _ w8 _ hx => O.sub rfl rfl rfl rfl ht4 (WL.nil ⟨rfl, hx⟩)) ?_
      refine PL.of (fun _ w8 _ hx => O.call Try.call68 rfl rfl rfl (c_noongunref06_Ratio _ _ hy2) (by rintro _ _ hb rfl; exact WL.nil ⟨rfl, hx.trans (hb.mono hx.size)⟩)) ?_
      refine PL.of (fun _ w8 _ hx => O.extract (v := (.agg (Flat.cells t5).toArray)) rfl rfl rfl rfl (WL.nil ⟨rfl, hx⟩)) ?_
      refine PL.of (fun _ w8 _ hx => O.extract (v := (.int .i64 t6)) rfl rfl rfl rfl (WL.nil ⟨rfl, hx⟩)) ?_
      refine PL.nil ?_
      exact ⟨rfl, rfl, rfl⟩
    · skip
      rintro f w ⟨hf2, hf26, hf27⟩ hmd hx
      have H := H.ext hx
      have hp1 := hp1.mono hx
      have hp2 := hp2.mono hx
      obtain ⟨u1, rfl⟩ : ∃ u1, f = (upd (upd (upd u1 2 (.pointer (some ⟨b2, 0, none⟩))) 26 (.agg (Flat.cells t5).toArray)) 27 (.int .i64 t6)) := ⟨f, by rw [upd_self hf2, upd_self hf26, upd_self hf27]⟩
      refine O.store 1 0 [(.int .i64 t5.N), (.int .i64 t5.D)] [(.int .i64 t5.N), (.int .i64 t5.D)] sz48 H rfl rfl rfl rfl rfl rfl ⟨⟨rfl, rfl⟩, rfl⟩ (one_cons rfl (one_cons rfl one_nil)) ?_
      intro w5 H
      clear hp1
      clear hp2
      refine O.assign (v := (.int .i64 t6)) rfl rfl rfl ?_
      refine WL.nil ?_
      refine W.ret ?_
      have hq : (t5, t6) = (r0, r1) := Option.some.inj (show some (t5, t6) = some (r0, r1) from hm)
      obtain ⟨he0, hq0⟩ := Prod.mk.inj hq; clear hq; subst he0
      subst hq0
      exact ends2 Try.results36 ⟨_, rfl, run_loadVar_agg ag48 rfl (H.cell 1 rfl)⟩ rfl ⟨_, rfl, H.base, rfl⟩

set_option maxRecDepth 20000 in
theorem c_noongunlaw06_RateDays {w0 : World} (va0_0 : Value) (a0 : GBox) (ha0_0 : SliceR w0 va0_0 a0.Errors) {r0 : Bool} (hm : noongunlaw06_RateDays a0 = some r0) :
    Calls Try.prog 9 #[(.agg #[(.string a0.Name), va0_0])] w0 (Ret w0 fun _ v => v = (.bool r0)) := by
  unfold noongunlaw06_RateDays at hm
  refine calls_of_W Try.func9 rfl Try.ntmps9 (Nat.le_of_ble_eq_true rfl) ?_
  have H := Inv.start (w := w0)
  refine W.seq ?_
  refine W.region ?_
  refine O.box [(.string a0.Name), va0_0] H rfl rfl rfl rfl ?_
  intro b1 w1 H hb1
  refine O.assign (v := (.bool false)) rfl rfl rfl ?_
  refine WL.nil ?_
  refine W.seq ?_
  refine W.seq ?_
  refine W.region ?_
  refine O.loadA [(.string a0.Name), va0_0] ag24 rfl rfl rfl rfl (H.cell 0 rfl) ?_
  refine O.buildSliceR (α := GBox) [(.agg #[(.string a0.Name), va0_0])] [(GBox.mk a0.Name a0.Errors)] Try.underlying55 el24 (RepL.cons (α := GBox) (v := (.agg #[(.string a0.Name), va0_0])) (GBox_rep (H.arg ha0_0)) RepL.nil) rfl rfl rfl rfl rfl ?_
  intro v1 w2 hb2 hs1
  have H := H.ext hb2
  obtain ⟨t1, hy1, hm⟩ := bind_some hm
  refine O.call Try.call13 rfl rfl rfl (c_noongunlaw06_fit _ _ hs1 hy1) ?_
  rintro _ w3 hb3 rfl
  have hs1 := hs1.mono hb3
  have H := H.ext hb3
  refine O.not rfl rfl rfl ?_
  refine WL.nil ?_
  rcases ite_some hm with ⟨hc1, hm⟩ | ⟨hc1, hm⟩
  · refine W.cond_true (congrArg Value.bool hc1) ?_
    refine W.seq ?_
    refine W.region ?_
    obtain ⟨t2, hy2, hm⟩ := bind_some hm
    refine O.call Try.call14 rfl rfl rfl (c_noongunlaw06_awake  hy2) ?_
    rintro _ w4 hb4 rfl
    have hs1 := hs1.mono hb4
    have H := H.ext hb4
    refine O.assign (v := (.bool t2)) rfl rfl rfl ?_
    refine WL.nil ?_
    refine W.ret ?_
    have hq : t2 = r0 := Option.some.inj (show some t2 = some r0 from hm)
    subst hq
    exact ends1 Try.results9 rfl ⟨_, rfl, H.base, rfl⟩
  · refine W.cond_false (congrArg Value.bool hc1) ?_
    refine W.skip ?_
    refine W.seq ?_
    refine W.region ?_
    refine O.loadA [(.string a0.Name), va0_0] ag24 rfl rfl rfl rfl (H.cell 0 rfl) ?_
    obtain ⟨⟨t3, t4⟩, hy3, hm⟩ := bind_some hm
    refine O.call Try.call20 rfl rfl rfl (c_rate_Daily _ (GBox.mk a0.Name a0.Errors) (H.arg ha0_0) hy3) ?_
    rintro _ w5 hb5 ⟨v2, rfl, ho1⟩
    have hs1 := hs1.mono hb5
    have H := H.addOwn hb5 ho1
    refine O.move (v := (.tuple #[v2, (.int .i64 t4)])) rfl rfl rfl ?_
    refine O.extract (v := v2) rfl rfl rfl rfl ?_
    refine O.extract (v := (.int .i64 t4)) rfl rfl rfl rfl ?_
    refine O.assign (v := v2) rfl rfl rfl ?_
    refine O.assign (v := (.int .i64 t4)) rfl rfl rfl ?_
    refine WL.nil ?_
    refine W.seq ?_
    refine W.region ?_
    refine O.loadA [(.string a0.Name), va0_0] ag24 rfl rfl rfl rfl (H.cell 0 rfl) ?_
    obtain ⟨⟨t5, t6⟩, hy4, hm⟩ := bind_some hm
    refine O.call Try.call32 rfl rfl rfl (c_noongunref06_Daily _ (GBox.mk a0.Name a0.Errors) (H.arg ha0_0) hy4) ?_
    rintro _ w6 hb6 ⟨v3, rfl, ho2⟩
    have hs1 := hs1.mono hb6
    have H := H.addOwn hb6 ho2
    refine O.move (v := (.tuple #[v3, (.int .i64 t6)])) rfl rfl rfl ?_
    refine O.extract (v := v3) rfl rfl rfl rfl ?_
    refine O.extract (v := (.int .i64 t6)) rfl rfl rfl rfl ?_
    refine O.assign (v := v3) rfl rfl rfl ?_
    refine O.assign (v := (.int .i64 t6)) rfl rfl rfl ?_
    refine WL.nil ?_
    refine W.seq ?_
    refine W.region ?_
    refine O.loadA [(.string a0.Name), va0_0] ag24 rfl rfl rfl rfl (H.cell 0 rfl) ?_
    obtain ⟨⟨t7, t8⟩, hy5, hm⟩ := bind_some hm
    refine O.call Try.call33 rfl rfl rfl (c_rate_Weekly _ (GBox.mk a0.Name a0.Errors) (H.arg ha0_0) hy5) ?_
    rintro _ w7 hb7 ⟨v4, rfl, ho3⟩
    have hs1 := hs1.mono hb7
    have H := H.addOwn hb7 ho3
    refine O.move (v := (.tuple #[v4, (.int .i64 t8)])) rfl rfl rfl ?_
    refine O.extract (v := v4) rfl rfl rfl rfl ?_
    refine O.extract (v := (.int .i64 t8)) rfl rfl rfl rfl ?_
    refine O.assign (v := v4) rfl rfl rfl ?_
    refine O.assign (v := (.int .i64 t8)) rfl rfl rfl ?_
    refine WL.nil ?_
    refine W.seq ?_
    refine W.region ?_
    refine O.loadA [(.string a0.Name), va0_0] ag24 rfl rfl rfl rfl (H.cell 0 rfl) ?_
    obtain ⟨⟨t9, t10⟩, hy6, hm⟩ := bind_some hm
    refine O.call Try.call34 rfl rfl rfl (c_noongunref06_Weekly _ (GBox.mk a0.Name a0.Errors) (H.arg ha0_0) hy6) ?_
    rintro _ w8 hb8 ⟨v5, rfl, ho4⟩
    have hs1 := hs1.mono hb8
    have H := H.addOwn hb8 ho4
    refine O.move (v := (.tuple #[v5, (.int .i64 t10)])) rfl rfl rfl ?_
    refine O.extract (v := v5) rfl rfl rfl rfl ?_
    refine O.extract (v := (.int .i64 t10)) rfl rfl rfl rfl ?_
    refine O.assign (v := v5) rfl rfl rfl ?_
    refine O.assign (v := (.int .i64 t10)) rfl rfl rfl ?_
    refine WL.nil ?_
    refine W.seq ?_
    refine W.region ?_
    refine O.loadA [(.string a0.Name), va0_0] ag24 rfl rfl rfl rfl (H.cell 0 rfl) ?_
    obtain ⟨⟨t11, t12⟩, hy7, hm⟩ := bind_some hm
    refine O.call Try.call35 rfl rfl rfl (c_rate_Mean _ (GBox.mk a0.Name a0.Errors) (H.arg ha0_0) hy7) ?_
    rintro _ w9 hb9 rfl
    have hs1 := hs1.mono hb9
    have H := H.ext hb9
    refine O.move (v := (.tuple #[(.agg (Flat.cells t11).toArray), (.int .i64 t12)])) rfl rfl rfl ?_
    refine O.extract (v := (.agg (Flat.cells t11).toArray)) rfl rfl rfl rfl ?_
    refine O.extract (v := (.int .i64 t12)) rfl rfl rfl rfl ?_
    refine O.alloc [(.int .i64 0), (.int .i64 0)] ze48 H rfl rfl rfl ?_
    intro b2 w10 H hb10
    have hs1 := hs1.mono hb10
    refine O.store 5 0 [(.int .i64 t11.N), (.int .i64 t11.D)] [(.int .i64 t11.N), (.int .i64 t11.D)] sz48 H rfl rfl rfl rfl rfl rfl ⟨⟨rfl, rfl⟩, rfl⟩ (one_cons rfl (one_cons rfl one_nil)) ?_
    intro w11 H
    clear hs1
    refine O.assign (v := (.int .i64 t12)) rfl rfl rfl ?_
    refine WL.nil ?_
    refine W.seq ?_
    refine W.region ?_
    refine O.loadA [(.string a0.Name), va0_0] ag24 rfl rfl rfl rfl (H.cell 0 rfl) ?_
    obtain ⟨⟨t13, t14⟩, hy8, hm⟩ := bind_some hm
    refine O.call Try.call36 rfl rfl rfl (c_noongunref06_Mean _ (GBox.mk a0.Name a0.Errors) (H.arg ha0_0) hy8) ?_
    rintro _ w12 hb11 rfl
    have H := H.ext hb11
    refine O.move (v := (.tuple #[(.agg (Flat.cells t13).toArray), (.int .i64 t14)])) rfl rfl rfl ?_
    refine O.extract (v := (.agg (Flat.cells t13).toArray)) rfl rfl rfl rfl ?_
    refine O.extract (v := (.int .i64 t14)) rfl rfl rfl rfl ?_
    refine O.alloc [(.int .i64 0), (.int .i64 0)] ze48 H rfl rfl rfl ?_
    intro b3 w13 H hb12
    refine O.store 6 0 [(.int .i64 t13.N), (.int .i64 t13.D)] [(.int .i64 t13.N), (.int .i64 t13.D)] sz48 H rfl rfl rfl rfl rfl rfl ⟨⟨rfl, rfl⟩, rfl⟩ (one_cons rfl (one_cons rfl one_nil)) ?_
    intro w14 H
    refine O.assign (v := (.int .i64 t14)) rfl rfl rfl ?_
    refine WL.nil ?_
    refine W.seq ?_
    refine W.seq ?_
    obtain ⟨t15, hy9, hm⟩ := bind_some hm
    obtain ⟨t16, hy10, hm⟩ := bind_some hm
    obtain ⟨b4, hm1, hm⟩ := bind_some hm
    obtain ⟨b5, hm2, hm⟩ := bind_some hm
    refine W.drawN 37 (fun f => f 1 = (.pointer (some ⟨b1, 0, none⟩)) ∧ f 3 = v2 ∧ f 4 = (.int .i64 t4) ∧ f 7 = v4 ∧ f 11 = (.pointer (some ⟨b2, 0, none⟩)) ∧ f 12 = (.int .i64 t12) ∧ f 92 = (.bool (((b5 || (t8 != t10)) || (!(t11 == t13))) || (t12 != t14)))) fol (by kernel_rfl) ?_ ?_
    · skip
      refine PL.of (fun _ w8 _ hx => by have H := H.ext hx; exact O.loadA [(.string a0.Name), va0_0] ag24 rfl rfl rfl rfl (H.cell 0 rfl) (WL.nil ⟨rfl, hx⟩)) ?_
      refine PL.of (fun _ w8 _ hx => by have H := H.ext hx; exact O.call Try.call16 rfl rfl rfl (c_rate_ValidBox _ (GBox.mk a0.Name a0.Errors) (H.arg ha0_0) hy9) (by rintro _ _ hb rfl; exact WL.nil ⟨rfl, hx.trans (hb.mono hx.size)⟩)) ?_
      refine PL.of (fun _ w8 _ hx => by have H := H.ext hx; exact O.loadA [(.string a0.Name), va0_0] ag24 rfl rfl rfl rfl (H.cell 0 rfl) (WL.nil ⟨rfl, hx⟩)) ?_
      refine PL.of (fun _ w8 _ hx => by have H := H.ext hx; exact O.call Try.call37 rfl rfl rfl (c_noongunref06_ValidBox _ (GBox.mk a0.Name a0.Errors) (H.arg ha0_0) hy10) (by rintro _ _ hb rfl; exact WL.nil ⟨rfl, hx.trans (hb.mono hx.size)⟩)) ?_
      refine PL.of (fun _ w8 _ hx => O.neqB Try.underlying4 rfl rfl rfl rfl (WL.nil ⟨rfl, hx⟩)) ?_
      refine PL.of (fun _ w8 _ hx => O.move (v := (.bool (t15 != t16))) rfl rfl rfl (WL.nil ⟨rfl, hx⟩)) ?_
      refine PL.cut 5 (fun f => f 1 = (.pointer (some ⟨b1, 0, none⟩)) ∧ f 3 = v2 ∧ f 4 = (.int .i64 t4) ∧ f 6 = (.int .i64 t6) ∧ f 7 = v4 ∧ f 8 = (.int .i64 t8) ∧ f 9 = v5 ∧ f 10 = (.int .i64 t10) ∧ f 11 = (.pointer (some ⟨b2, 0, none⟩)) ∧ f 12 = (.int .i64 t12) ∧ f 13 = (.pointer (some ⟨b3, 0, none⟩)) ∧ f 14 = (.int .i64 t14) ∧ f 66 = .bool b4) ?_ ?_
      · skip
        rcases ite_some hm1 with ⟨hc2, hm1⟩ | ⟨hc2, hm1⟩
        · skip
          refine PL.reset (i := 61) (v := .bool true) (congrArg Value.bool hc2) ?_
          refine PL.of (fun _ w8 _ hx => O.skip rfl rfl (WL.nil ⟨rfl, hx⟩)) ?_
          refine PL.of (fun _ w8 _ hx => O.skip rfl rfl (WL.nil ⟨rfl, hx⟩)) ?_
          refine PL.of (fun _ w8 _ hx => O.skip rfl rfl (WL.nil ⟨rfl, hx⟩)) ?_
          refine PL.of (fun _ w8 _ hx => O.skip rfl rfl (WL.nil ⟨rfl, hx⟩)) ?_
          refine PL.of (fun _ w8 _ hx => O.pick_true (v := (.bool true)) rfl rfl rfl rfl (WL.nil ⟨rfl, hx⟩)) ?_
          refine PL.nil ?_
          have hq : true = b4 := Option.some.inj (show some true = some b4 from hm1)
          subst hq
          exact ⟨rfl, rfl, rfl, rfl, rfl, rfl, rfl, rfl, rfl, rfl, rfl, rfl, rfl⟩
        · skip
          refine PL.reset (i := 61) (v := .bool false) (congrArg Value.bool hc2) ?_
          refine PL.of (fun _ w8 _ hx => O.move (v := v2) rfl rfl rfl (WL.nil ⟨rfl, hx⟩)) ?_
          refine PL.of (fun _ w8 _ hx => O.move (v := v3) rfl rfl rfl (WL.nil ⟨rfl, hx⟩)) ?_
          obtain ⟨t17, hy11, hm1⟩ := bind_some hm1
          refine PL.of (fun _ w8 _ hx => by have H := H.ext hx; exact O.call Try.call26 rfl rfl rfl (c_noongunref06_SameInts _ _ (H.own 1 rfl) _ _ (H.own 2 rfl) hy11) (by rintro _ _ hb rfl; exact WL.nil ⟨rfl, hx.trans (hb.mono hx.size)⟩)) ?_
          refine PL.of (fun _ w8 _ hx => O.not rfl rfl rfl (WL.nil ⟨rfl, hx⟩)) ?_
          refine PL.of (fun _ w8 _ hx => O.pick_false (v := (.bool (!t17))) rfl rfl rfl rfl (WL.nil ⟨rfl, hx⟩)) ?_
          refine PL.nil ?_
          have hq : (!t17) = b4 := Option.some.inj (show some (!t17) = some b4 from hm1)
          subst hq
          exact ⟨rfl, rfl, rfl, rfl, rfl, rfl, rfl, rfl, rfl, rfl, rfl, rfl, rfl⟩
      · skip
        rintro f ⟨hf1, hf3, hf4, hf6, hf7, hf8, hf9, hf10, hf11, hf12, hf13, hf14, hf66⟩
        obtain ⟨u1, rfl⟩ : ∃ u1, f = (upd (upd (upd (upd (upd (upd (upd (upd (upd (upd (upd (upd (upd u1 1 (.pointer (some ⟨b1, 0, none⟩))) 3 v2) 4 (.int .i64 t4)) 6 (.int .i64 t6)) 7 v4) 8 (.int .i64 t8)) 9 v5) 10 (.int .i64 t10)) 11 (.pointer (some ⟨b2, 0, none⟩))) 12 (.int .i64 t12)) 13 (.pointer (some ⟨b3, 0, none⟩))) 14 (.int .i64 t14)) 66 (.bool b4)) := ⟨f, by rw [upd_self hf1, upd_self hf3, upd_self hf4, upd_self hf6, upd_self hf7, upd_self hf8, upd_self hf9, upd_self hf10, upd_self hf11, upd_self hf12, upd_self hf13, upd_self hf14, upd_self hf66]⟩
        refine PL.of (fun _ w8 _ hx => O.move (v := (.bool b4)) rfl rfl rfl (WL.nil ⟨rfl, hx⟩)) ?_
        refine PL.cut 4 (fun f => f 1 = (.pointer (some ⟨b1, 0, none⟩)) ∧ f 3 = v2 ∧ f 4 = (.int .i64 t4) ∧ f 7 = v4 ∧ f 8 = (.int .i64 t8) ∧ f 9 = v5 ∧ f 10 = (.int .i64 t10) ∧ f 11 = (.pointer (some ⟨b2, 0, none⟩)) ∧ f 12 = (.int .i64 t12) ∧ f 13 = (.pointer (some ⟨b3, 0, none⟩)) ∧ f 14 = (.int .i64 t14) ∧ f 71 = .bool (b4 || (t4 != t6))) ?_ ?_
        · skip
          rcases bool_ft b4 with hc3 | hc3
          · skip
            refine PL.reset (i := 67) (v := .bool false) (congrArg Value.bool hc3) ?_
            refine PL.of (fun _ w8 _ hx => O.move (v := (.int .i64 t4)) rfl rfl rfl (WL.nil ⟨rfl, hx⟩)) ?_
            refine PL.of (fun _ w8 _ hx => O.move (v := (.int .i64 t6)) rfl rfl rfl (WL.nil ⟨rfl, hx⟩)) ?_
            refine PL.of (fun _ w8 _ hx => O.neq rfl rfl rfl rfl (WL.nil ⟨rfl, hx⟩)) ?_
            refine PL.of (fun _ w8 _ hx => O.pick_false (v := (.bool (t4 != t6))) rfl rfl rfl rfl (WL.nil ⟨rfl, hx⟩)) ?_
            refine PL.nil ?_
            exact ⟨rfl, rfl, rfl, rfl, rfl, rfl, rfl, rfl, rfl, rfl, rfl, congrArg Value.bool (or_f hc3)⟩
          · skip
            refine PL.reset (i := 67) (v := .bool true) (congrArg Value.bool hc3) ?_
            refine PL.of (fun _ w8 _ hx => O.skip rfl rfl (WL.nil ⟨rfl, hx⟩)) ?_
            refine PL.of (fun _ w8 _ hx => O.skip rfl rfl (WL.nil ⟨rfl, hx⟩)) ?_
            refine PL.of (fun _ w8 _ hx => O.skip rfl rfl (WL.nil ⟨rfl, hx⟩)) ?_
            refine PL.of (fun _ w8 _ hx => O.pick_true (v := (.bool true)) rfl rfl rfl rfl (WL.nil ⟨rfl, hx⟩)) ?_
            refine PL.nil ?_
            exact ⟨rfl, rfl, rfl, rfl, rfl, rfl, rfl, rfl, rfl, rfl, rfl, congrArg Value.bool (or_t hc3)⟩
        · skip
          rintro f ⟨hf1, hf3, hf4, hf7, hf8, hf9, hf10, hf11, hf12, hf13, hf14, hf71⟩
          obtain ⟨u2, rfl⟩ : ∃ u2, f = (upd (upd (upd (upd (upd (upd (upd (upd (upd (upd (upd (upd u2 1 (.pointer (some ⟨b1, 0, none⟩))) 3 v2) 4 (.int .i64 t4)) 7 v4) 8 (.int .i64 t8)) 9 v5) 10 (.int .i64 t10)) 11 (.pointer (some ⟨b2, 0, none⟩))) 12 (.int .i64 t12)) 13 (.pointer (some ⟨b3, 0, none⟩))) 14 (.int .i64 t14)) 71 (.bool (b4 || (t4 != t6)))) := ⟨f, by rw [upd_self hf1, upd_self hf3, upd_self hf4, upd_self hf7, upd_self hf8, upd_self hf9, upd_self hf10, upd_self hf11, upd_self hf12, upd_self hf13, upd_self hf14, upd_self hf71]⟩
          refine PL.of (fun _ w8 _ hx => O.move (v := (.bool (b4 || (t4 != t6)))) rfl rfl rfl (WL.nil ⟨rfl, hx⟩)) ?_
          refine PL.cut 5 (fun f => f 1 = (.pointer (some ⟨b1, 0, none⟩)) ∧ f 3 = v2 ∧ f 4 = (.int .i64 t4) ∧ f 7 = v4 ∧ f 8 = (.int .i64 t8) ∧ f 10 = (.int .i64 t10) ∧ f 11 = (.pointer (some ⟨b2, 0, none⟩)) ∧ f 12 = (.int .i64 t12) ∧ f 13 = (.pointer (some ⟨b3, 0, none⟩)) ∧ f 14 = (.int .i64 t14) ∧ f 77 = .bool b5) ?_ ?_
          · skip
            rcases ite_some hm2 with ⟨hc4, hm2⟩ | ⟨hc4, hm2⟩
            · skip
              refine PL.reset (i := 72) (v := .bool true) (congrArg Value.bool hc4) ?_
              refine PL.of (fun _ w8 _ hx => O.skip rfl rfl (WL.nil ⟨rfl, hx⟩)) ?_
              refine PL.of (fun _ w8 _ hx => O.skip rfl rfl (WL.nil ⟨rfl, hx⟩)) ?_
              refine PL.of (fun _ w8 _ hx => O.skip rfl rfl (WL.nil ⟨rfl, hx⟩)) ?_
              refine PL.of (fun _ w8 _ hx => O.skip rfl rfl (WL.nil ⟨rfl, hx⟩)) ?_
              refine PL.of (fun _ w8 _ hx => O.pick_true (v := (.bool true)) rfl rfl rfl rfl (WL.nil ⟨rfl, hx⟩)) ?_
              refine PL.nil ?_
              have hq : true = b5 := Option.some.inj (show some true = some b5 from hm2)
              subst hq
              exact ⟨rfl, rfl, rfl, rfl, rfl, rfl, rfl, rfl, rfl, rfl, rfl⟩
            · skip
              refine PL.reset (i := 72) (v := .bool false) (congrArg Value.bool hc4) ?_
              refine PL.of (fun _ w8 _ hx => O.move (v := v4) rfl rfl rfl (WL.nil ⟨rfl, hx⟩)) ?_
              refine PL.of (fun _ w8 _ hx => O.move (v := v5) rfl rfl rfl (WL.nil ⟨rfl, hx⟩)) ?_
              obtain ⟨t18, hy12, hm2⟩ := bind_some hm2
              refine PL.of (fun _ w8 _ hx => by have H := H.ext hx; exact O.call Try.call26 rfl rfl rfl (c_noongunref06_SameInts _ _ (H.own 3 rfl) _ _ (H.own 4 rfl) hy12) (by rintro _ _ hb rfl; exact WL.nil ⟨rfl, hx.trans (hb.mono hx.size)⟩)) ?_
              refine PL.of (fun _ w8 _ hx => O.not rfl rfl rfl (WL.nil ⟨rfl, hx⟩)) ?_
              refine PL.of (fun _ w8 _ hx => O.pick_false (v := (.bool (!t18))) rfl rfl rfl rfl (WL.nil ⟨rfl, hx⟩)) ?_
              refine PL.nil ?_
              have hq : (!t18) = b5 := Option.some.inj (show some (!t18) = some b5 from hm2)
              subst hq
              exact ⟨rfl, rfl, rfl, rfl, rfl, rfl, rfl, rfl, rfl, rfl, rfl⟩
          · skip
            rintro f ⟨hf1, hf3, hf4, hf7, hf8, hf10, hf11, hf12, hf13, hf14, hf77⟩
            obtain ⟨u3, rfl⟩ : ∃ u3, f = (upd (upd (upd (upd (upd (upd (upd (upd (upd (upd (upd u3 1 (.pointer (some ⟨b1, 0, none⟩))) 3 v2) 4 (.int .i64 t4)) 7 v4) 8 (.int .i64 t8)) 10 (.int .i64 t10)) 11 (.pointer (some ⟨b2, 0, none⟩))) 12 (.int .i64 t12)) 13 (.pointer (some ⟨b3, 0, none⟩))) 14 (.int .i64 t14)) 77 (.bool b5)) := ⟨f, by rw [upd_self hf1, upd_self hf3, upd_self hf4, upd_self hf7, upd_self hf8, upd_self hf10, upd_self hf11, upd_self hf12, upd_self hf13, upd_self hf14, upd_self hf77]⟩
            refine PL.of (fun _ w8 _ hx => O.move (v := (.bool b5)) rfl rfl rfl (WL.nil ⟨rfl, hx⟩)) ?_
            refine PL.cut 4 (fun f => f 1 = (.pointer (some ⟨b1, 0, none⟩)) ∧ f 3 = v2 ∧ f 4 = (.int .i64 t4) ∧ f 7 = v4 ∧ f 11 = (.pointer (some ⟨b2, 0, none⟩)) ∧ f 12 = (.int .i64 t12) ∧ f 13 = (.pointer (some ⟨b3, 0, none⟩)) ∧ f 14 = (.int .i64 t14) ∧ f 82 = .bool (b5 || (t8 != t10))) ?_ ?_
            · skip
              rcases bool_ft b5 with hc5 | hc5
              · skip
                refine PL.reset (i := 78) (v := .bool false) (congrArg Value.bool hc5) ?_
                refine PL.of (fun _ w8 _ hx => O.move (v := (.int .i64 t8)) rfl rfl rfl (WL.nil ⟨rfl, hx⟩)) ?_
                refine PL.of (fun _ w8 _ hx => O.move (v := (.int .i64 t10)) rfl rfl rfl (WL.nil ⟨rfl, hx⟩)) ?_
                refine PL.of (fun _ w8 _ hx => O.neq rfl rfl rfl rfl (WL.nil ⟨rfl, hx⟩)) ?_
                refine PL.of (fun _ w8 _ hx => O.pick_false (v := (.bool (t8 != t10))) rfl rfl rfl rfl (WL.nil ⟨rfl, hx⟩)) ?_
                refine PL.nil ?_
                exact ⟨rfl, rfl, rfl, rfl, rfl, rfl, rfl, rfl, congrArg Value.bool (or_f hc5)⟩
              · skip
                refine PL.reset (i := 78) (v := .bool true) (congrArg Value.bool hc5) ?_
                refine PL.of (fun _ w8 _ hx => O.skip rfl rfl (WL.nil ⟨rfl, hx⟩)) ?_
                refine PL.of (fun _ w8 _ hx => O.skip rfl rfl (WL.nil ⟨rfl, hx⟩)) ?_
                refine PL.of (fun _ w8 _ hx => O.skip rfl rfl (WL.nil ⟨rfl, hx⟩)) ?_
                refine PL.of (fun _ w8 _ hx => O.pick_true (v := (.bool true)) rfl rfl rfl rfl (WL.nil ⟨rfl, hx⟩)) ?_
                refine PL.nil ?_
                exact ⟨rfl, rfl, rfl, rfl, rfl, rfl, rfl, rfl, congrArg Value.bool (or_t hc5)⟩
            · skip
              rintro f ⟨hf1, hf3, hf4, hf7, hf11, hf12, hf13, hf14, hf82⟩
              obtain ⟨u4, rfl⟩ : ∃ u4, f = (upd (upd (upd (upd (upd (upd (upd (upd (upd u4 1 (.pointer (some ⟨b1, 0, none⟩))) 3 v2) 4 (.int .i64 t4)) 7 v4) 11 (.pointer (some ⟨b2, 0, none⟩))) 12 (.int .i64 t12)) 13 (.pointer (some ⟨b3, 0, none⟩))) 14 (.int .i64 t14)) 82 (.bool (b5 || (t8 != t10)))) := ⟨f, by rw [upd_self hf1, upd_self hf3, upd_self hf4, upd_self hf7, upd_self hf11, upd_self hf12, upd_self hf13, upd_self hf14, upd_self hf82]⟩
              refine PL.of (fun _ w8 _ hx => O.move (v := (.bool (b5 || (t8 != t10)))) rfl rfl rfl (WL.nil ⟨rfl, hx⟩)) ?_
              refine PL.cut 4 (fun f => f 1 = (.pointer (some ⟨b1, 0, none⟩)) ∧ f 3 = v2 ∧ f 4 = (.int .i64 t4) ∧ f 7 = v4 ∧ f 11 = (.pointer (some ⟨b2, 0, none⟩)) ∧ f 12 = (.int .i64 t12) ∧ f 14 = (.int .i64 t14) ∧ f 87 = .bool ((b5 || (t8 != t10)) || (!(t11 == t13)))) ?_ ?_
              · skip
                rcases bool_ft (b5 || (t8 != t10)) with hc6 | hc6
                · skip
                  refine PL.reset (i := 83) (v := .bool false) (congrArg Value.bool hc6) ?_
                  refine PL.of (fun _ w8 _ hx => by have H := H.ext hx; exact O.loadA [(.int .i64 t11.N), (.int .i64 t11.D)] ag48 rfl rfl rfl rfl (H.cell 5 rfl) (WL.nil ⟨rfl, hx⟩)) ?_
                  refine PL.of (fun _ w8 _ hx => by have H := H.ext hx; exact O.loadA [(.int .i64 t13.N), (.int .i64 t13.D)] ag48 rfl rfl rfl rfl (H.cell 6 rfl) (WL.nil ⟨rfl, hx⟩)) ?_
                  refine PL.of (fun _ w8 _ hx => O.neqSt t11 t13 eq48 rfl rfl rfl rfl (WL.nil ⟨rfl, hx⟩)) ?_
                  refine PL.of (fun _ w8 _ hx => O.pick_false (v := (.bool (!(t11 == t13)))) rfl rfl rfl rfl (WL.nil ⟨rfl, hx⟩)) ?_
                  refine PL.nil ?_
                  exact ⟨rfl, rfl, rfl, rfl, rfl, rfl, rfl, congrArg Value.bool (or_f hc6)⟩
                · skip
                  refine PL.reset (i := 83) (v := .bool true) (congrArg Value.bool hc6) ?_
                  refine PL.of (fun _ w8 _ hx => O.skip rfl rfl (WL.nil ⟨rfl, hx⟩)) ?_
                  refine PL.of (fun _ w8 _ hx => O.skip rfl rfl (WL.nil ⟨rfl, hx⟩)) ?_
                  refine PL.of (fun _ w8 _ hx => O.skip rfl rfl (WL.nil ⟨rfl, hx⟩)) ?_
                  refine PL.of (fun _ w8 _ hx => O.pick_true (v := (.bool true)) rfl rfl rfl rfl (WL.nil ⟨rfl, hx⟩)) ?_
                  refine PL.nil ?_
                  exact ⟨rfl, rfl, rfl, rfl, rfl, rfl, rfl, congrArg Value.bool (or_t hc6)⟩
              · skip
                rintro f ⟨hf1, hf3, hf4, hf7, hf11, hf12, hf14, hf87⟩
                obtain ⟨u5, rfl⟩ : ∃ u5, f = (upd (upd (upd (upd (upd (upd (upd (upd u5 1 (.pointer (some ⟨b1, 0, none⟩))) 3 v2) 4 (.int .i64 t4)) 7 v4) 11 (.pointer (some ⟨b2, 0, none⟩))) 12 (.int .i64 t12)) 14 (.int .i64 t14)) 87 (.bool ((b5 || (t8 != t10)) || (!(t11 == t13))))) := ⟨f, by rw [upd_self hf1, upd_self hf3, upd_self hf4, upd_self hf7, upd_self hf11, upd_self hf12, upd_self hf14, upd_self hf87]⟩
                refine PL.of (fun _ w8 _ hx => O.move (v := (.bool ((b5 || (t8 != t10)) || (!(t11 == t13))))) rfl rfl rfl (WL.nil ⟨rfl, hx⟩)) ?_
                refine PL.cut 4 (fun f => f 1 = (.pointer (some ⟨b1, 0, none⟩)) ∧ f 3 = v2 ∧ f 4 = (.int .i64 t4) ∧ f 7 = v4 ∧ f 11 = (.pointer (some ⟨b2, 0, none⟩)) ∧ f 12 = (.int .i64 t12) ∧ f 92 = .bool (((b5 || (t8 != t10)) || (!(t11 == t13))) || (t12 != t14))) ?_ ?_
                · skip
                  rcases bool_ft ((b5 || (t8 != t10)) || (!(t11 == t13))) with hc7 | hc7
                  · skip
                    refine PL.reset (i := 88) (v := .bool false) (congrArg Value.bool hc7) ?_
                    refine PL.of (fun _ w8 _ hx => O.move (v := (.int .i64 t12)) rfl rfl rfl (WL.nil ⟨rfl, hx⟩)) ?_
                    refine PL.of (fun _ w8 _ hx => O.move (v := (.int .i64 t14)) rfl rfl rfl (WL.nil ⟨rfl, hx⟩)) ?_
                    refine PL.of (fun _ w8 _ hx => O.neq rfl rfl rfl rfl (WL.nil ⟨rfl, hx⟩)) ?_
                    refine PL.of (fun _ w8 _ hx => O.pick_false (v := (.bool (t12 != t14))) rfl rfl rfl rfl (WL.nil ⟨rfl, hx⟩)) ?_
                    refine PL.nil ?_
                    exact ⟨rfl, rfl, rfl, rfl, rfl, rfl, congrArg Value.bool (or_f hc7)⟩
                  · skip
                    refine PL.reset (i := 88) (v := .bool true) (congrArg Value.bool hc7) ?_
                    refine PL.of (fun _ w8 _ hx => O.skip rfl rfl (WL.nil ⟨rfl, hx⟩)) ?_
                    refine PL.of (fun _ w8 _ hx => O.skip rfl rfl (WL.nil ⟨rfl, hx⟩)) ?_
                    refine PL.of (fun _ w8 _ hx => O.skip rfl rfl (WL.nil ⟨rfl, hx⟩)) ?_
                    refine PL.of (fun _ w8 _ hx => O.pick_true (v := (.bool true)) rfl rfl rfl rfl (WL.nil ⟨rfl, hx⟩)) ?_
                    refine PL.nil ?_
                    exact ⟨rfl, rfl, rfl, rfl, rfl, rfl, congrArg Value.bool (or_t hc7)⟩
                · skip
                  rintro f ⟨hf1, hf3, hf4, hf7, hf11, hf12, hf92⟩
                  obtain ⟨u6, rfl⟩ : ∃ u6, f = (upd (upd (upd (upd (upd (upd (upd u6 1 (.pointer (some ⟨b1, 0, none⟩))) 3 v2) 4 (.int .i64 t4)) 7 v4) 11 (.pointer (some ⟨b2, 0, none⟩))) 12 (.int .i64 t12)) 92 (.bool (((b5 || (t8 != t10)) || (!(t11 == t13))) || (t12 != t14)))) := ⟨f, by rw [upd_self hf1, upd_self hf3, upd_self hf4, upd_self hf7, upd_self hf11, upd_self hf12, upd_self hf92]⟩
                  refine PL.nil ?_
                  exact ⟨rfl, rfl, rfl, rfl, rfl, rfl, rfl⟩
    · skip
      rintro f w ⟨hf1, hf3, hf4, hf7, hf11, hf12, hf92⟩ hmd hx
      have H := H.ext hx
      obtain ⟨u7, rfl⟩ : ∃ u7, f = (upd (upd (upd (upd (upd (upd (upd u7 1 (.pointer (some ⟨b1, 0, none⟩))) 3 v2) 4 (.int .i64 t4)) 7 v4) 11 (.pointer (some ⟨b2, 0, none⟩))) 12 (.int .i64 t12)) 92 (.bool (((b5 || (t8 != t10)) || (!(t11 == t13))) || (t12 != t14)))) := ⟨f, by rw [upd_self hf1, upd_self hf3, upd_self hf4, upd_self hf7, upd_self hf11, upd_self hf12, upd_self hf92]⟩
      refine WL.nil ?_
      rcases ite_some hm with ⟨hc8, hm⟩ | ⟨hc8, hm⟩
      · refine W.cond_true (congrArg Value.bool hc8) ?_
        refine W.seq ?_
        refine W.region ?_
        refine O.assign (v := (.bool false)) rfl rfl rfl ?_
        refine WL.nil ?_
        refine W.ret ?_
        have hq : false = r0 := Option.some.inj (show some false = some r0 from hm)
        subst hq
        exact ends1 Try.results9 rfl ⟨_, rfl, H.base, rfl⟩
      · refine W.cond_false (congrArg Value.bool hc8) ?_
        refine W.skip ?_
        refine W.seq ?_
        refine W.seq ?_
        refine W.region ?_
        refine O.move (v := (.int .i64 t4)) rfl rfl rfl ?_
        refine O.neq rfl rfl rfl rfl ?_
        refine WL.nil ?_
        rcases ite_some hm with ⟨hc9, hm⟩ | ⟨hc9, hm⟩
        · refine W.cond_true (congrArg Value.bool hc9) ?_
          refine W.seq ?_
          refine W.region ?_
          obtain ⟨t19, hy13, hm⟩ := bind_some hm
          refine O.call Try.call14 rfl rfl rfl (c_noongunlaw06_awake  hy13) ?_
          rintro _ w15 hb13 rfl
          have H := H.ext hb13
          refine O.assign (v := (.bool t19)) rfl rfl rfl ?_
          refine WL.nil ?_
          refine W.ret ?_
          have hq : t19 = r0 := Option.some.inj (show some t19 = some r0 from hm)
          subst hq
          exact ends1 Try.results9 rfl ⟨_, rfl, H.base, rfl⟩
        · refine W.cond_false (congrArg Value.bool hc9) ?_
          refine W.skip ?_
          refine W.seq ?_
          refine W.region ?_
          refine O.assign (v := (.int .i64 0)) rfl rfl rfl ?_
          refine WL.nil ?_
          refine W.seq ?_
          refine W.seq ?_
          refine W.region ?_
          refine O.move (v := v2) rfl rfl rfl ?_
          refine O.lenS Try.underlying22 (H.own 1 rfl) rfl rfl rfl ?_
          refine O.move (v := (.int .i64 0)) rfl rfl rfl ?_
          refine WL.nil ?_
          obtain ⟨o1, hm3, hm⟩ := bind_some hm
          refine W.via (fun f w => ∃ s1 : Int, o1 = .next s1 ∧ f 1 = (.pointer (some ⟨b1, 0, none⟩)) ∧ f 3 = v2 ∧ f 11 = (.pointer (some ⟨b2, 0, none⟩)) ∧ f 12 = (.int .i64 t12) ∧ f 15 = (.int .i64 s1) ∧ Inv w0 w [boxI b1 24 [(.string a0.Name), va0_0], ownI (α := Int) v2 3 t3, boxI b2 48 [(.int .i64 t11.N), (.int .i64 t11.D)]]) ?_ ?_
          · skip
            refine W.block ?_
            have hbdik1 := (H.own 1 rfl).len_le
            have H := H.keep [0, 1, 3, 5] [boxI b1 24 [(.string a0.Name), va0_0], ownI (α := Int) v2 3 t3, ownI (α := Int) v4 3 t7, boxI b2 48 [(.int .i64 t11.N), (.int .i64 t11.D)]] rfl (by decide)
            refine W.rangeN (i := 0) hm3 (fun rem ik1 s f w => ∃ z2 : Int, z2 = s ∧ (ik1 : Int) + rem = max 0 ((t3.length : Nat) : Int) ∧ f 98 = .int .i64 (ik1 : Int) ∧ f 97 = (.int .i64 ((t3.length : Nat) : Int)) ∧ f 1 = (.pointer (some ⟨b1, 0, none⟩)) ∧ f 3 = v2 ∧ f 7 = v4 ∧ f 11 = (.pointer (some ⟨b2, 0, none⟩)) ∧ f 12 = (.int .i64 t12) ∧ f 15 = (.int .i64 z2) ∧ f 96 = v2 ∧ Inv w0 w [boxI b1 24 [(.string a0.Name), va0_0], ownI (α := Int) v2 3 t3, ownI (α := Int) v4 3 t7, boxI b2 48 [(.int .i64 t11.N), (.int .i64 t11.D)]]) ?_ ?_ ?_
            · skip
              exact ⟨_, rfl, rangeN_start, rfl, rfl, rfl, rfl, rfl, rfl, rfl, rfl, rfl, H⟩
            · skip
              rintro k ik1 _ st f w ⟨z2, rfl, hdropk1, hf98, hf97, hf1, hf3, hf7, hf11, hf12, hf15, hf96, H⟩ hm4
              have hltk1 := rangeN_lt hdropk1
              obtain ⟨u8, rfl⟩ : ∃ u8, f = (upd (upd (upd (upd (upd (upd (upd (upd (upd u8 98 (.int .i64 (ik1 : Int))) 97 (.int .i64 ((t3.length : Nat) : Int))) 1 (.pointer (some ⟨b1, 0, none⟩))) 3 v2) 7 v4) 11 (.pointer (some ⟨b2, 0, none⟩))) 12 (.int .i64 t12)) 15 (.int .i64 z2)) 96 v2) := ⟨f, by rw [upd_self hf98, upd_self hf97, upd_self hf1, upd_self hf3, upd_self hf7, upd_self hf11, upd_self hf12, upd_self hf15, upd_self hf96]⟩
              have hinck1 := addI_lt hltk1 hbdik1
              refine W.seq ?_
              refine W.region ?_
              refine O.lss rfl rfl rfl rfl ?_
              refine WL.nil ?_
              refine W.seq ?_
              refine W.cond_true (congrArg Value.bool (decide_eq_true hltk1)) ?_
              refine W.skip ?_
              refine W.seq ?_
              obtain ⟨o2, hm5, hm4⟩ := bind_some hm4
              refine W.via (fun f w => ∃ s2 : Int, o2 = .next s2 ∧ f 1 = (.pointer (some ⟨b1, 0, none⟩)) ∧ f 3 = v2 ∧ f 7 = v4 ∧ f 11 = (.pointer (some ⟨b2, 0, none⟩)) ∧ f 12 = (.int .i64 t12) ∧ f 15 = (.int .i64 s2) ∧ f 96 = v2 ∧ f 97 = (.int .i64 ((t3.length : Nat) : Int)) ∧ f 98 = (.int .i64 (ik1 : Int)) ∧ Inv w0 w [boxI b1 24 [(.string a0.Name), va0_0], ownI (α := Int) v2 3 t3, ownI (α := Int) v4 3 t7, boxI b2 48 [(.int .i64 t11.N), (.int .i64 t11.D)]]) ?_ ?_
              · skip
                refine W.block ?_
                refine W.seq ?_
                refine W.region ?_
                refine O.move (v := (.int .i64 (ik1 : Int))) rfl rfl rfl ?_
                obtain ⟨x1, hx1, hm5⟩ := bind_some hm5
                refine O.indexAddr Try.underlying22 sz3 (H.own 1 rfl) hx1 rfl rfl rfl rfl ?_
                intro p1 hp1
                refine O.load sc3 rfl rfl rfl (hp1.flat 0 _ rfl) ?_
                refine O.assign (v := (.int .i64 (ik1 : Int))) rfl rfl rfl ?_
                refine O.assign (v := (.int .i64 x1)) rfl rfl rfl ?_
                refine WL.nil ?_
                refine W.seq ?_
                refine W.region ?_
                refine O.move (v := (.int .i64 z2)) rfl rfl rfl ?_
                refine O.move (v := (.int .i64 x1)) rfl rfl rfl ?_
                obtain ⟨t20, ht20, hm5⟩ := bind_some hm5
                refine O.add rfl rfl rfl rfl ht20 ?_
                refine O.assign (v := (.int .i64 t20)) rfl rfl rfl ?_
                refine WL.nil ?_
                refine W.seq ?_
                refine W.region ?_
                refine O.move (v := (.int .i64 (ik1 : Int))) rfl rfl rfl ?_
                obtain ⟨t21, ht21, hm5⟩ := bind_some hm5
                refine O.add rfl rfl rfl rfl ht21 ?_
                obtain ⟨t22, ht22, hm5⟩ := bind_some hm5
                refine O.rem rfl rfl rfl rfl ht22 ?_
                refine O.eql rfl rfl rfl rfl ?_
                refine WL.nil ?_
                obtain ⟨o3, hm6, hm5⟩ := bind_some hm5
                refine W.via (fun f w => o3 = .next () ∧ f 1 = (.pointer (some ⟨b1, 0, none⟩)) ∧ f 3 = v2 ∧ f 7 = v4 ∧ f 11 = (.pointer (some ⟨b2, 0, none⟩)) ∧ f 12 = (.int .i64 t12) ∧ f 15 = (.int .i64 t20) ∧ f 96 = v2 ∧ f 97 = (.int .i64 ((t3.length : Nat) : Int)) ∧ f 98 = (.int .i64 (ik1 : Int)) ∧ Inv w0 w [boxI b1 24 [(.string a0.Name), va0_0], ownI (α := Int) v2 3 t3, ownI (α := Int) v4 3 t7, boxI b2 48 [(.int .i64 t11.N), (.int .i64 t11.D)]]) ?_ ?_
                · skip
                  rcases ite_some hm6 with ⟨hc10, hm6⟩ | ⟨hc10, hm6⟩
                  · refine W.cond_true (congrArg Value.bool hc10) ?_
                    refine W.seq ?_
                    refine W.region ?_
                    refine O.assign (v := (.int .i64 0)) rfl rfl rfl ?_
                    refine WL.nil ?_
                    refine W.seq ?_
                    refine W.seq ?_
                    refine W.region ?_
                    refine O.move (v := v2) rfl rfl rfl ?_
                    refine O.move (v := (.int .i64 (ik1 : Int))) rfl rfl rfl ?_
                    obtain ⟨t23, ht23, hm6⟩ := bind_some hm6
                    refine O.sub rfl rfl rfl rfl ht23 ?_
                    refine O.move (v := (.int .i64 (ik1 : Int))) rfl rfl rfl ?_
                    obtain ⟨t24, ht24, hm6⟩ := bind_some hm6
                    refine O.add rfl rfl rfl rfl ht24 ?_
                    obtain ⟨t25, ht25, hm6⟩ := bind_some hm6
                    refine O.sliceLH Try.underlying22 sz3 (H.own 1 rfl) ht25 rfl rfl rfl rfl rfl ?_
                    intro v6 hs2
                    refine O.lenS Try.underlying22 hs2 rfl rfl rfl ?_
                    refine O.move (v := (.int .i64 0)) rfl rfl rfl ?_
                    refine WL.nil ?_
                    obtain ⟨s3, hm7, hm6⟩ := bind_some hm6
                    refine W.via (fun f w => f 1 = (.pointer (some ⟨b1, 0, none⟩)) ∧ f 3 = v2 ∧ f 7 = v4 ∧ f 11 = (.pointer (some ⟨b2, 0, none⟩)) ∧ f 12 = (.int .i64 t12) ∧ f 15 = (.int .i64 t20) ∧ f 16 = (.int .i64 (ik1 : Int)) ∧ f 18 = (.int .i64 s3) ∧ f 96 = v2 ∧ f 97 = (.int .i64 ((t3.length : Nat) : Int)) ∧ f 98 = (.int .i64 (ik1 : Int)) ∧ Inv w0 w [boxI b1 24 [(.string a0.Name), va0_0], ownI (α := Int) v2 3 t3, ownI (α := Int) v4 3 t7, boxI b2 48 [(.int .i64 t11.N), (.int .i64 t11.D)]]) ?_ ?_
                    · skip
                      refine W.block ?_
                      refine W.rangeL (i := 0) hm7 (fun rem ik2 s f w => ∃ z5 : Int, z5 = s ∧ t25.drop ik2 = rem ∧ f 117 = .int .i64 (ik2 : Int) ∧ f 116 = (.int .i64 ((t25.length : Nat) : Int)) ∧ f 1 = (.pointer (some ⟨b1, 0, none⟩)) ∧ f 3 = v2 ∧ f 7 = v4 ∧ f 11 = (.pointer (some ⟨b2, 0, none⟩)) ∧ f 12 = (.int .i64 t12) ∧ f 15 = (.int .i64 t20) ∧ f 16 = (.int .i64 (ik1 : Int)) ∧ f 18 = (.int .i64 z5) ∧ f 96 = v2 ∧ f 97 = (.int .i64 ((t3.length : Nat) : Int)) ∧ f 98 = (.int .i64 (ik1 : Int)) ∧ f 115 = v6 ∧ SliceR w v6 t25 ∧ Inv w0 w [boxI b1 24 [(.string a0.Name), va0_0], ownI (α := Int) v2 3 t3, ownI (α := Int) v4 3 t7, boxI b2 48 [(.int .i64 t11.N), (.int .i64 t11.D)]]) ?_ ?_ ?_
                      · skip
                        exact ⟨_, rfl, List.drop_zero, rfl, rfl, rfl, rfl, rfl, rfl, rfl, rfl, rfl, rfl, rfl, rfl, rfl, rfl, hs2, H⟩
                      · skip
                        rintro yk2 xs ik2 _ st f w ⟨z5, rfl, hdropk2, hf117, hf116, hf1, hf3, hf7, hf11, hf12, hf15, hf16, hf18, hf96, hf97, hf98, hf115, hs5, H⟩ hm8
                        have hltk2 := drop_lt hdropk2; have hixk2 := drop_idx hdropk2
                        obtain ⟨u9, rfl⟩ : ∃ u9, f = (upd (upd (upd (upd (upd (upd (upd (upd (upd (upd (upd (upd (upd (upd u9 117 (.int .i64 (ik2 : Int))) 116 (.int .i64 ((t25.length : Nat) : Int))) 1 (.pointer (some ⟨b1, 0, none⟩))) 3 v2) 7 v4) 11 (.pointer (some ⟨b2, 0, none⟩))) 12 (.int .i64 t12)) 15 (.int .i64 t20)) 16 (.int .i64 (ik1 : Int))) 18 (.int .i64 z5)) 96 v2) 97 (.int .i64 ((t3.length : Nat) : Int))) 98 (.int .i64 (ik1 : Int))) 115 v6) := ⟨f, by rw [upd_self hf117, upd_self hf116, upd_self hf1, upd_self hf3, upd_self hf7, upd_self hf11, upd_self hf12, upd_self hf15, upd_self hf16, upd_self hf18, upd_self hf96, upd_self hf97, upd_self hf98, upd_self hf115]⟩
                        have hinck2 := addI_lt hltk2 hs5.len_le
                        refine W.seq ?_
                        refine W.region ?_
                        refine O.lss rfl rfl rfl rfl ?_
                        refine WL.nil ?_
                        refine W.seq ?_
                        refine W.cond_true (congrArg Value.bool (decide_eq_true hltk2)) ?_
                        refine W.skip ?_
                        refine W.seq ?_
                        refine W.block ?_
                        refine W.seq ?_
                        refine W.region ?_
                        refine O.indexAddr Try.underlying22 sz3 hs5 hixk2 rfl rfl rfl rfl ?_
                        intro p2 hp2
                        refine O.load sc3 rfl rfl rfl (hp2.flat 0 _ rfl) ?_
                        refine O.assign (v := (.int .i64 yk2)) rfl rfl rfl ?_
                        refine WL.nil ?_
                        refine W.region ?_
                        refine O.move (v := (.int .i64 z5)) rfl rfl rfl ?_
                        refine O.move (v := (.int .i64 yk2)) rfl rfl rfl ?_
                        obtain ⟨t26, ht26, hm8⟩ := bind_some hm8
                        refine O.add rfl rfl rfl rfl ht26 ?_
                        refine O.assign (v := (.int .i64 t26)) rfl rfl rfl ?_
                        refine WL.nil ?_
                        refine W.region ?_
                        refine O.add rfl rfl rfl rfl hinck2 ?_
                        refine O.move (v := .int .i64 ((ik2 : Int) + 1)) rfl rfl rfl ?_
                        refine WL.nil ?_
                        obtain rfl := Option.some.inj hm8
                        exact ⟨_, rfl, _, rfl, drop_next hdropk2, rfl, rfl, rfl, rfl, rfl, rfl, rfl, rfl, rfl, rfl, rfl, rfl, rfl, rfl, hs5, H⟩
                      · skip
                        rintro ik2 _ f w ⟨z5, rfl, hdropk2, hf117, hf116, hf1, hf3, hf7, hf11, hf12, hf15, hf16, hf18, hf96, hf97, hf98, hf115, hs5, H⟩ hfin
                        have hltk2 := drop_end hdropk2
                        obtain ⟨u10, rfl⟩ : ∃ u10, f = (upd (upd (upd (upd (upd (upd (upd (upd (upd (upd (upd (upd (upd (upd u10 117 (.int .i64 (ik2 : Int))) 116 (.int .i64 ((t25.length : Nat) : Int))) 1 (.pointer (some ⟨b1, 0, none⟩))) 3 v2) 7 v4) 11 (.pointer (some ⟨b2, 0, none⟩))) 12 (.int .i64 t12)) 15 (.int .i64 t20)) 16 (.int .i64 (ik1 : Int))) 18 (.int .i64 z5)) 96 v2) 97 (.int .i64 ((t3.length : Nat) : Int))) 98 (.int .i64 (ik1 : Int))) 115 v6) := ⟨f, by rw [upd_self hf117, upd_self hf116, upd_self hf1, upd_self hf3, upd_self hf7, upd_self hf11, upd_self hf12, upd_self hf15, upd_self hf16, upd_self hf18, upd_self hf96, upd_self hf97, upd_self hf98, upd_self hf115]⟩
                        refine W.seq ?_
                        refine W.region ?_
                        refine O.lss rfl rfl rfl rfl ?_
                        refine WL.nil ?_
                        refine W.seq ?_
                        refine W.cond_false (congrArg Value.bool (decide_eq_false hltk2)) ?_
                        refine W.exit ?_
                        have hq : z5 = s3 := hfin
                        subst hq
                        refine xT rfl ?_
                        exact ⟨rfl, rfl, rfl, rfl, rfl, rfl, rfl, rfl, rfl, rfl, rfl, H⟩
                    · skip
                      rintro f w ⟨hf1, hf3, hf7, hf11, hf12, hf15, hf16, hf18, hf96, hf97, hf98, H⟩
                      obtain ⟨u11, rfl⟩ : ∃ u11, f = (upd (upd (upd (upd (upd (upd (upd (upd (upd (upd (upd u11 1 (.pointer (some ⟨b1, 0, none⟩))) 3 v2) 7 v4) 11 (.pointer (some ⟨b2, 0, none⟩))) 12 (.int .i64 t12)) 15 (.int .i64 t20)) 16 (.int .i64 (ik1 : Int))) 18 (.int .i64 s3)) 96 v2) 97 (.int .i64 ((t3.length : Nat) : Int))) 98 (.int .i64 (ik1 : Int))) := ⟨f, by rw [upd_self hf1, upd_self hf3, upd_self hf7, upd_self hf11, upd_self hf12, upd_self hf15, upd_self hf16, upd_self hf18, upd_self hf96, upd_self hf97, upd_self hf98]⟩
                      refine W.seq ?_
                      refine W.region ?_
                      refine O.move (v := (.int .i64 (ik1 : Int))) rfl rfl rfl ?_
                      obtain ⟨t27, ht27, hm6⟩ := bind_some hm6
                      refine O.quo rfl rfl rfl rfl ht27 ?_
                      refine O.move (v := v4) rfl rfl rfl ?_
                      refine O.lenS Try.underlying22 (H.own 2 rfl) rfl rfl rfl ?_
                      refine O.geq rfl rfl rfl rfl ?_
                      refine O.move (v := (.bool (decide (((t7.length : Nat) : Int) ≤ t27)))) rfl rfl rfl ?_
                      obtain ⟨b6, hm9, hm6⟩ := bind_some hm6
                      refine WL.cut 8 (fun f w => f 1 = (.pointer (some ⟨b1, 0, none⟩)) ∧ f 3 = v2 ∧ f 7 = v4 ∧ f 11 = (.pointer (some ⟨b2, 0, none⟩)) ∧ f 12 = (.int .i64 t12) ∧ f 15 = (.int .i64 t20) ∧ f 96 = v2 ∧ f 97 = (.int .i64 ((t3.length : Nat) : Int)) ∧ f 98 = (.int .i64 (ik1 : Int)) ∧ f 138 = .bool b6 ∧ Inv w0 w [boxI b1 24 [(.string a0.Name), va0_0], ownI (α := Int) v2 3 t3, ownI (α := Int) v4 3 t7, boxI b2 48 [(.int .i64 t11.N), (.int .i64 t11.D)]]) ?_ ?_
                      · skip
                        rcases ite_some hm9 with ⟨hc11, hm9⟩ | ⟨hc11, hm9⟩
                        · skip
                          refine WL.reset (i := 130) (v := .bool true) (congrArg Value.bool hc11) ?_
                          refine O.skip rfl rfl ?_
                          refine O.skip rfl rfl ?_
                          refine O.skip rfl rfl ?_
                          refine O.skip rfl rfl ?_
                          refine O.skip rfl rfl ?_
                          refine O.skip rfl rfl ?_
                          refine O.skip rfl rfl ?_
                          refine O.pick_true (v := (.bool true)) rfl rfl rfl rfl ?_
                          refine WL.nil ?_
                          have hq : true = b6 := Option.some.inj (show some true = some b6 from hm9)
                          subst hq
                          exact ⟨rfl, rfl, rfl, rfl, rfl, rfl, rfl, rfl, rfl, rfl, H⟩
                        · skip
                          refine WL.reset (i := 130) (v := .bool false) (congrArg Value.bool hc11) ?_
                          refine O.move (v := v4) rfl rfl rfl ?_
                          refine O.move (v := (.int .i64 (ik1 : Int))) rfl rfl rfl ?_
                          obtain ⟨t28, ht28, hm9⟩ := bind_some hm9
                          refine O.quo rfl rfl rfl rfl ht28 ?_
                          obtain ⟨x2, hx2, hm9⟩ := bind_some hm9
                          refine O.indexAddr Try.underlying22 sz3 (H.own 2 rfl) hx2 rfl rfl rfl rfl ?_
                          intro p3 hp3
                          refine O.load sc3 rfl rfl rfl (hp3.flat 0 _ rfl) ?_
                          refine O.move (v := (.int .i64 s3)) rfl rfl rfl ?_
                          refine O.neq rfl rfl rfl rfl ?_
                          refine O.pick_false (v := (.bool (x2 != s3))) rfl rfl rfl rfl ?_
                          refine WL.nil ?_
                          have hq : (x2 != s3) = b6 := Option.some.inj (show some (x2 != s3) = some b6 from hm9)
                          subst hq
                          exact ⟨rfl, rfl, rfl, rfl, rfl, rfl, rfl, rfl, rfl, rfl, H⟩
                      · skip
                        rintro f w ⟨hf1, hf3, hf7, hf11, hf12, hf15, hf96, hf97, hf98, hf138, H⟩
                        obtain ⟨u12, rfl⟩ : ∃ u12, f = (upd (upd (upd (upd (upd (upd (upd (upd (upd (upd u12 1 (.pointer (some ⟨b1, 0, none⟩))) 3 v2) 7 v4) 11 (.pointer (some ⟨b2, 0, none⟩))) 12 (.int .i64 t12)) 15 (.int .i64 t20)) 96 v2) 97 (.int .i64 ((t3.length : Nat) : Int))) 98 (.int .i64 (ik1 : Int))) 138 (.bool b6)) := ⟨f, by rw [upd_self hf1, upd_self hf3, upd_self hf7, upd_self hf11, upd_self hf12, upd_self hf15, upd_self hf96, upd_self hf97, upd_self hf98, upd_self hf138]⟩
                        refine WL.nil ?_
                        rcases ite_some hm6 with ⟨hc12, hm6⟩ | ⟨hc12, hm6⟩
                        · refine W.cond_true (congrArg Value.bool hc12) ?_
                          refine W.seq ?_
                          refine W.region ?_
                          refine O.assign (v := (.bool false)) rfl rfl rfl ?_
                          refine WL.nil ?_
                          refine W.ret ?_
                          obtain rfl := Option.some.inj hm6
                          obtain rfl := Option.some.inj hm5
                          obtain rfl := Option.some.inj hm4
                          refine ⟨_, rfl, ?_⟩
                          rintro rfl
                          have hq : false = r0 := Option.some.inj (show some false = some r0 from hm)
                          subst hq
                          exact ends1 Try.results9 rfl ⟨_, rfl, H.base, rfl⟩
                        · refine W.cond_false (congrArg Value.bool hc12) ?_
                          refine W.skip ?_
                          obtain rfl := Option.some.inj hm6
                          exact ⟨rfl, rfl, rfl, rfl, rfl, rfl, rfl, rfl, rfl, rfl, H⟩
                  · refine W.cond_false (congrArg Value.bool hc10) ?_
                    refine W.skip ?_
                    obtain rfl := Option.some.inj hm6
                    exact ⟨rfl, rfl, rfl, rfl, rfl, rfl, rfl, rfl, rfl, rfl, H⟩
                · skip
                  rintro f w ⟨rfl, hf1, hf3, hf7, hf11, hf12, hf15, hf96, hf97, hf98, H⟩
                  obtain ⟨u13, rfl⟩ : ∃ u13, f = (upd (upd (upd (upd (upd (upd (upd (upd (upd u13 1 (.pointer (some ⟨b1, 0, none⟩))) 3 v2) 7 v4) 11 (.pointer (some ⟨b2, 0, none⟩))) 12 (.int .i64 t12)) 15 (.int .i64 t20)) 96 v2) 97 (.int .i64 ((t3.length : Nat) : Int))) 98 (.int .i64 (ik1 : Int))) := ⟨f, by rw [upd_self hf1, upd_self hf3, upd_self hf7, upd_self hf11, upd_self hf12, upd_self hf15, upd_self hf96, upd_self hf97, upd_self hf98]⟩
                  obtain rfl := Option.some.inj hm5
                  exact ⟨_, rfl, rfl, rfl, rfl, rfl, rfl, rfl, rfl, rfl, rfl, H⟩
              · skip
                rintro f w ⟨s2, rfl, hf1, hf3, hf7, hf11, hf12, hf15, hf96, hf97, hf98, H⟩
                obtain ⟨u14, rfl⟩ : ∃ u14, f = (upd (upd (upd (upd (upd (upd (upd (upd (upd u14 1 (.pointer (some ⟨b1, 0, none⟩))) 3 v2) 7 v4) 11 (.pointer (some ⟨b2, 0, none⟩))) 12 (.int .i64 t12)) 15 (.int .i64 s2)) 96 v2) 97 (.int .i64 ((t3.length : Nat) : Int))) 98 (.int .i64 (ik1 : Int))) := ⟨f, by rw [upd_self hf1, upd_self hf3, upd_self hf7, upd_self hf11, upd_self hf12, upd_self hf15, upd_self hf96, upd_self hf97, upd_self hf98]⟩
                refine W.region ?_
                refine O.add rfl rfl rfl rfl hinck1 ?_
                refine O.move (v := .int .i64 ((ik1 : Int) + 1)) rfl rfl rfl ?_
                refine WL.nil ?_
                obtain rfl := Option.some.inj hm4
                exact ⟨_, rfl, _, rfl, rangeN_next hdropk1, rfl, rfl, rfl, rfl, rfl, rfl, rfl, rfl, rfl, H⟩
            · skip
              rintro ik1 _ f w ⟨z2, rfl, hdropk1, hf98, hf97, hf1, hf3, hf7, hf11, hf12, hf15, hf96, H⟩ hfin
              have hltk1 := rangeN_end hdropk1
              obtain ⟨u15, rfl⟩ : ∃ u15, f = (upd (upd (upd (upd (upd (upd (upd (upd (upd u15 98 (.int .i64 (ik1 : Int))) 97 (.int .i64 ((t3.length : Nat) : Int))) 1 (.pointer (some ⟨b1, 0, none⟩))) 3 v2) 7 v4) 11 (.pointer (some ⟨b2, 0, none⟩))) 12 (.int .i64 t12)) 15 (.int .i64 z2)) 96 v2) := ⟨f, by rw [upd_self hf98, upd_self hf97, upd_self hf1, upd_self hf3, upd_self hf7, upd_self hf11, upd_self hf12, upd_self hf15, upd_self hf96]⟩
              refine W.seq ?_
              refine W.region ?_
              refine O.lss rfl rfl rfl rfl ?_
              refine WL.nil ?_
              refine W.seq ?_
              refine W.cond_false (congrArg Value.bool (decide_eq_false hltk1)) ?_
              refine W.exit ?_
              obtain rfl : Ctl.next z2 = o1 := hfin
              have H := H.keep [0, 1, 3] [boxI b1 24 [(.string a0.Name), va0_0], ownI (α := Int) v2 3 t3, boxI b2 48 [(.int .i64 t11.N), (.int .i64 t11.D)]] rfl (by decide)
              refine xT rfl ?_
              exact ⟨_, rfl, rfl, rfl, rfl, rfl, rfl, H⟩
          · skip
            rintro f w ⟨s1, rfl, hf1, hf3, hf11, hf12, hf15, H⟩
            obtain ⟨u16, rfl⟩ : ∃ u16, f = (upd (upd (upd (upd (upd u16 1 (.pointer (some ⟨b1, 0, none⟩))) 3 v2) 11 (.pointer (some ⟨b2, 0, none⟩))) 12 (.int .i64 t12)) 15 (.int .i64 s1)) := ⟨f, by rw [upd_self hf1, upd_self hf3, upd_self hf11, upd_self hf12, upd_self hf15]⟩
            refine W.seq ?_
            obtain ⟨t29, ht29, hm⟩ := bind_some hm
            obtain ⟨x3, hx3, hm⟩ := bind_some hm
            obtain ⟨p4, hp4, hrp4⟩ := fix_indexAddr Try.underlying22 sz3 (H.arg ha0_0) hx3
            obtain ⟨x4, hx4, hm⟩ := bind_some hm
            obtain ⟨p5, hp5, hrp5⟩ := fix_indexAddr Try.underlying22 sz3 (H.arg ha0_0) hx4
            obtain ⟨t30, ht30, hm⟩ := bind_some hm
            obtain ⟨b7, hm10, hm⟩ := bind_some hm
            refine W.drawN 31 (fun f => f 170 = (.bool b7)) fol (by kernel_rfl) ?_ ?_
            · skip
              refine PL.of (fun _ w8 _ hx => O.move (v := (.int .i64 s1)) rfl rfl rfl (WL.nil ⟨rfl, hx⟩)) ?_
              refine PL.of (fun _ w8 _ hx => O.fieldAddr fd24_1 rfl rfl rfl (WL.nil ⟨rfl, hx⟩)) ?_
              refine PL.of (fun _ w8 _ hx => by have H := H.ext hx; exact O.load sc22 rfl rfl rfl (H.cell 0 rfl 1 _ rfl) (WL.nil ⟨rfl, hx⟩)) ?_
              refine PL.of (fun _ w8 _ hx => O.fieldAddr fd24_1 rfl rfl rfl (WL.nil ⟨rfl, hx⟩)) ?_
              refine PL.of (fun _ w8 _ hx => by have H := H.ext hx; exact O.load sc22 rfl rfl rfl (H.cell 0 rfl 1 _ rfl) (WL.nil ⟨rfl, hx⟩)) ?_
              refine PL.of (fun _ w8 _ hx => by have H := H.ext hx; exact O.lenS Try.underlying22 (H.arg ha0_0) rfl rfl rfl (WL.nil ⟨rfl, hx⟩)) ?_
              refine PL.of (fun _ w8 _ hx => O.sub rfl rfl rfl rfl ht29 (WL.nil ⟨rfl, hx⟩)) ?_
              refine PL.of (fun _ w8 _ hx => hrp4 rfl rfl rfl rfl (WL.nil ⟨rfl, hx⟩)) ?_
              refine PL.of (fun _ w8 _ hx => by have hp4 := hp4.mono hx; exact O.load sc3 rfl rfl rfl (hp4.flat 0 _ rfl) (WL.nil ⟨rfl, hx⟩)) ?_
              refine PL.of (fun _ w8 _ hx => O.fieldAddr fd24_1 rfl rfl rfl (WL.nil ⟨rfl, hx⟩)) ?_
              refine PL.of (fun _ w8 _ hx => by have H := H.ext hx; exact O.load sc22 rfl rfl rfl (H.cell 0 rfl 1 _ rfl) (WL.nil ⟨rfl, hx⟩)) ?_
              refine PL.of (fun _ w8 _ hx => hrp5 rfl rfl rfl rfl (WL.nil ⟨rfl, hx⟩)) ?_
              refine PL.of (fun _ w8 _ hx => by have hp5 := hp5.mono hx; exact O.load sc3 rfl rfl rfl (hp5.flat 0 _ rfl) (WL.nil ⟨rfl, hx⟩)) ?_
              refine PL.of (fun _ w8 _ hx => O.sub rfl rfl rfl rfl ht30 (WL.nil ⟨rfl, hx⟩)) ?_
              refine PL.of (fun _ w8 _ hx => O.eql rfl rfl rfl rfl (WL.nil ⟨rfl, hx⟩)) ?_
              refine PL.of (fun _ w8 _ hx => O.move (v := (.bool (s1 == t30))) rfl rfl rfl (WL.nil ⟨rfl, hx⟩)) ?_
              refine PL.cut 3 (fun f => f 3 = v2 ∧ f 11 = (.pointer (some ⟨b2, 0, none⟩)) ∧ f 15 = (.int .i64 s1) ∧ f 158 = .bool ((s1 == t30) && (t12 == 0))) ?_ ?_
              · skip
                rcases bool_ft (s1 == t30) with hc13 | hc13
                · skip
                  refine PL.reset (i := 155) (v := .bool false) (congrArg Value.bool hc13) ?_
                  refine PL.of (fun _ w8 _ hx => O.skip rfl rfl (WL.nil ⟨rfl, hx⟩)) ?_
                  refine PL.of (fun _ w8 _ hx => O.skip rfl rfl (WL.nil ⟨rfl, hx⟩)) ?_
                  refine PL.of (fun _ w8 _ hx => O.pick_false (v := (.bool false)) rfl rfl rfl rfl (WL.nil ⟨rfl, hx⟩)) ?_
                  refine PL.nil ?_
                  exact ⟨rfl, rfl, rfl, congrArg Value.bool (and_f hc13)⟩
                · skip
                  refine PL.reset (i := 155) (v := .bool true) (congrArg Value.bool hc13) ?_
                  refine PL.of (fun _ w8 _ hx => O.move (v := (.int .i64 t12)) rfl rfl rfl (WL.nil ⟨rfl, hx⟩)) ?_
                  refine PL.of (fun _ w8 _ hx => O.eql rfl rfl rfl rfl (WL.nil ⟨rfl, hx⟩)) ?_
                  refine PL.of (fun _ w8 _ hx => O.pick_true (v := (.bool (t12 == 0))) rfl rfl rfl rfl (WL.nil ⟨rfl, hx⟩)) ?_
                  refine PL.nil ?_
                  exact ⟨rfl, rfl, rfl, congrArg Value.bool (and_t hc13)⟩
              · skip
                rintro f ⟨hf3, hf11, hf15, hf158⟩
                obtain ⟨u17, rfl⟩ : ∃ u17, f = (upd (upd (upd (upd u17 3 v2) 11 (.pointer (some ⟨b2, 0, none⟩))) 15 (.int .i64 s1)) 158 (.bool ((s1 == t30) && (t12 == 0)))) := ⟨f, by rw [upd_self hf3, upd_self hf11, upd_self hf15, upd_self hf158]⟩
                refine PL.of (fun _ w8 _ hx => O.move (v := (.bool ((s1 == t30) && (t12 == 0)))) rfl rfl rfl (WL.nil ⟨rfl, hx⟩)) ?_
                refine PL.cut 11 (fun f => f 170 = .bool b7) ?_ ?_
                · skip
                  rcases ite_some hm10 with ⟨hc14, hm10⟩ | ⟨hc14, hm10⟩
                  · skip
                    refine PL.reset (i := 159) (v := .bool true) (congrArg Value.bool hc14) ?_
                    refine PL.of (fun _ w8 _ hx => O.fieldAddr fd48_0 rfl rfl rfl (WL.nil ⟨rfl, hx⟩)) ?_
                    refine PL.of (fun _ w8 _ hx => by have H := H.ext hx; exact O.load sc3 rfl rfl rfl (H.cell 2 rfl 0 _ rfl) (WL.nil ⟨rfl, hx⟩)) ?_
                    refine PL.of (fun _ w8 _ hx => O.move (v := v2) rfl rfl rfl (WL.nil ⟨rfl, hx⟩)) ?_
                    refine PL.of (fun _ w8 _ hx => by have H := H.ext hx; exact O.lenS Try.underlying22 (H.own 1 rfl) rfl rfl rfl (WL.nil ⟨rfl, hx⟩)) ?_
                    obtain ⟨t31, ht31, hm10⟩ := bind_some hm10
                    refine PL.of (fun _ w8 _ hx => O.mul rfl rfl rfl rfl ht31 (WL.nil ⟨rfl, hx⟩)) ?_
                    refine PL.of (fun _ w8 _ hx => O.move (v := (.int .i64 s1)) rfl rfl rfl (WL.nil ⟨rfl, hx⟩)) ?_
                    refine PL.of (fun _ w8 _ hx => O.fieldAddr fd48_1 rfl rfl rfl (WL.nil ⟨rfl, hx⟩)) ?_
                    refine PL.of (fun _ w8 _ hx => by have H := H.ext hx; exact O.load sc3 rfl rfl rfl (H.cell 2 rfl 1 _ rfl) (WL.nil ⟨rfl, hx⟩)) ?_
                    obtain ⟨t32, ht32, hm10⟩ := bind_some hm10
                    refine PL.of (fun _ w8 _ hx => O.mul rfl rfl rfl rfl ht32 (WL.nil ⟨rfl, hx⟩)) ?_
                    refine PL.of (fun _ w8 _ hx => O.eql rfl rfl rfl rfl (WL.nil ⟨rfl, hx⟩)) ?_
                    refine PL.of (fun _ w8 _ hx => O.pick_true (v := (.bool (t31 == t32))) rfl rfl rfl rfl (WL.nil ⟨rfl, hx⟩)) ?_
                    refine PL.nil ?_
                    have hq : (t31 == t32) = b7 := Option.some.inj (show some (t31 == t32) = some b7 from hm10)
                    subst hq
                    exact rfl
                  · skip
                    refine PL.reset (i := 159) (v := .bool false) (congrArg Value.bool hc14) ?_
                    refine PL.of (fun _ w8 _ hx => O.skip rfl rfl (WL.nil ⟨rfl, hx⟩)) ?_
                    refine PL.of (fun _ w8 _ hx => O.skip rfl rfl (WL.nil ⟨rfl, hx⟩)) ?_
                    refine PL.of (fun _ w8 _ hx => O.skip rfl rfl (WL.nil ⟨rfl, hx⟩)) ?_
                    refine PL.of (fun _ w8 _ hx => O.skip rfl rfl (WL.nil ⟨rfl, hx⟩)) ?_
                    refine PL.of (fun _ w8 _ hx => O.skip rfl rfl (WL.nil ⟨rfl, hx⟩)) ?_
                    refine PL.of (fun _ w8 _ hx => O.skip rfl rfl (WL.nil ⟨rfl, hx⟩)) ?_
                    refine PL.of (fun _ w8 _ hx => O.skip rfl rfl (WL.nil ⟨rfl, hx⟩)) ?_
                    refine PL.of (fun _ w8 _ hx => O.skip rfl rfl (WL.nil ⟨rfl, hx⟩)) ?_
                    refine PL.of (fun _ w8 _ hx => O.skip rfl rfl (WL.nil ⟨rfl, hx⟩)) ?_
                    refine PL.of (fun _ w8 _ hx => O.skip rfl rfl (WL.nil ⟨rfl, hx⟩)) ?_
                    refine PL.of (fun _ w8 _ hx => O.pick_false (v := (.bool false)) rfl rfl rfl rfl (WL.nil ⟨rfl, hx⟩)) ?_
                    refine PL.nil ?_
                    have hq : false = b7 := Option.some.inj (show some false = some b7 from hm10)
                    subst hq
                    exact rfl
                · skip
                  intro f hf170
                  obtain ⟨u18, rfl⟩ : ∃ u18, f = (upd u18 170 (.bool b7)) := ⟨f, by rw [upd_self hf170]⟩
                  refine PL.nil ?_
                  exact rfl
            · skip
              rintro f w hf170 hmd hx
              have H := H.ext hx
              have hp4 := hp4.mono hx
              have hp5 := hp5.mono hx
              obtain ⟨u19, rfl⟩ : ∃ u19, f = (upd u19 170 (.bool b7)) := ⟨f, by rw [upd_self hf170]⟩
              refine O.move (v := (.bool b7)) rfl rfl rfl ?_
              obtain ⟨b8, hm11, hm⟩ := bind_some hm
              refine WL.cut 2 (fun f w => f 173 = .bool b8 ∧ Inv w0 w [boxI b1 24 [(.string a0.Name), va0_0], ownI (α := Int) v2 3 t3, boxI b2 48 [(.int .i64 t11.N), (.int .i64 t11.D)]]) ?_ ?_
              · skip
                rcases ite_some hm11 with ⟨hc15, hm11⟩ | ⟨hc15, hm11⟩
                · skip
                  refine WL.reset (i := 171) (v := .bool true) (congrArg Value.bool hc15) ?_
                  obtain ⟨t33, hy14, hm11⟩ := bind_some hm11
                  refine O.call Try.call14 rfl rfl rfl (c_noongunlaw06_awake  hy14) ?_
                  rintro _ w16 hb14 rfl
                  have hp4 := hp4.mono hb14
                  have hp5 := hp5.mono hb14
                  have H := H.ext hb14
                  refine O.pick_true (v := (.bool t33)) rfl rfl rfl rfl ?_
                  refine WL.nil ?_
                  have hq : t33 = b8 := Option.some.inj (show some t33 = some b8 from hm11)
                  subst hq
                  exact ⟨rfl, H⟩
                · skip
                  refine WL.reset (i := 171) (v := .bool false) (congrArg Value.bool hc15) ?_
                  refine O.skip rfl rfl ?_
                  refine O.pick_false (v := (.bool false)) rfl rfl rfl rfl ?_
                  refine WL.nil ?_
                  have hq : false = b8 := Option.some.inj (show some false = some b8 from hm11)
                  subst hq
                  exact ⟨rfl, H⟩
              · skip
                rintro f w ⟨hf173, H⟩
                obtain ⟨u20, rfl⟩ : ∃ u20, f = (upd u20 173 (.bool b8)) := ⟨f, by rw [upd_self hf173]⟩
                refine O.assign (v := (.bool b8)) rfl rfl rfl ?_
                refine WL.nil ?_
                refine W.ret ?_
                have hq : b8 = r0 := Option.some.inj (show some b8 = some r0 from hm)
                subst hq
                exact ends1 Try.results9 rfl ⟨_, rfl, H.base, rfl⟩

set_option maxRecDepth 20000 in
theorem c_rate_ValidBoxes {w0 : World} (va0 : Value) (a0 : (List GBox)) (ha0 : SliceR w0 va0 a0) {r0 : Bool} (hm : rate_ValidBoxes a0 = some r0) :
    Calls Try.prog 46 #[va0] w0 (Ret w0 fun _ v => v = (.bool r0)) := by
  unfold rate_ValidBoxes at hm
  refine calls_of_W Try.func46 rfl Try.ntmps46 (Nat.le_of_ble_eq_true rfl) ?_
  have H := Inv.start (w := w0)
  refine W.seq ?_
  refine W.region ?_
  refine O.assign (v := (.bool false)) rfl rfl rfl ?_
  refine WL.nil ?_
  refine W.seq ?_
  refine W.region ?_
  refine O.makeMap (α := ByteArray) (β := Bool) H rfl rfl ?_
  intro m1 w1 H hb1
  refine O.assign (v := (.map (some m1))) rfl rfl rfl ?_
  refine WL.nil ?_
  refine W.seq ?_
  refine W.seq ?_
  refine W.region ?_
  refine O.move (v := va0) rfl rfl rfl ?_
  refine O.lenS Try.underlying55 (H.arg ha0) rfl rfl rfl ?_
  refine O.move (v := (.int .i64 0)) rfl rfl rfl ?_
  refine WL.nil ?_
  obtain ⟨o1, hm1, hm⟩ := bind_some hm
  refine W.via (fun f w => o1 = .next () ∧ f 0 = va0 ∧ Inv w0 w []) ?_ ?_
  · skip
    refine W.block ?_
    refine W.rangeL (i := 0) hm1 (fun rem ik1 s f w => ∃ z2 : (List (ByteArray × Bool)), z2 = s ∧ a0.drop ik1 = rem ∧ f 9 = .int .i64 (ik1 : Int) ∧ f 8 = (.int .i64 ((a0.length : Nat) : Int)) ∧ f 0 = va0 ∧ f 3 = (.map (some m1)) ∧ f 7 = va0 ∧ Inv w0 w [mapI (K := ByteArray) (V := Bool) m1 z2]) ?_ ?_ ?_
    · skip
      exact ⟨_, rfl, List.drop_zero, rfl, rfl, rfl, rfl, rfl, H⟩
    · skip
      rintro yk1 xs ik1 _ st f w ⟨z2, rfl, hdropk1, hf9, hf8, hf0, hf3, hf7, H⟩ hm2
      have hltk1 := drop_lt hdropk1; have hixk1 := drop_idx hdropk1
      obtain ⟨u1, rfl⟩ : ∃ u1, f = (upd (upd (upd (upd (upd u1 9 (.int .i64 (ik1 : Int))) 8 (.int .i64 ((a0.length : Nat) : Int))) 0 va0) 3 (.map (some m1))) 7 va0) := ⟨f, by rw [upd_self hf9, upd_self hf8, upd_self hf0, upd_self hf3, upd_self hf7]⟩
      have hinck1 := addI_lt hltk1 (H.arg ha0).len_le
      refine W.seq ?_
      refine W.region ?_
      refine O.lss rfl rfl rfl rfl ?_
      refine WL.nil ?_
      refine W.seq ?_
      refine W.cond_true (congrArg Value.bool (decide_eq_true hltk1)) ?_
      refine W.skip ?_
      refine W.seq ?_
      refine W.block ?_
      refine W.seq ?_
      refine W.region ?_
      obtain ⟨p1, hp1, hrp1⟩ := fix_indexAddr Try.underlying55 sz24 ha0 hixk1
      obtain ⟨v1, hs1, hc1⟩ := GBox_open hp1
      refine hrp1 rfl rfl rfl rfl ?_
      refine O.loadA [(.string yk1.Name), v1] ag24 rfl rfl rfl rfl ((cells_mono hc1 H.base)) ?_
      refine O.alloc [(.string ByteArray.empty), (.slice none 0 0)] ze24 H rfl rfl rfl ?_
      intro b1 w2 H hb2
      have H := H.addNil (α := Int) (E := 3)
      refine O.store 1 0 [(.string yk1.Name), v1] [(.string yk1.Name), v1] sz24 H rfl rfl rfl rfl rfl rfl ⟨⟨rfl, rfl⟩, rfl⟩ (one_cons rfl (one_cons (SliceR.one (H.arg hs1)) one_nil)) ?_
      intro w3 H
      refine WL.nil ?_
      refine W.seq ?_
      refine W.seq ?_
      refine W.region ?_
      refine O.loadA [(.string yk1.Name), v1] ag24 rfl rfl rfl rfl (H.cell 1 rfl) ?_
      obtain ⟨t1, hy1, hm2⟩ := bind_some hm2
      refine O.call Try.call16 rfl rfl rfl (c_rate_ValidBox _ (GBox.mk yk1.Name yk1.Errors) (H.arg hs1) hy1) ?_
      rintro _ w4 hb3 rfl
      have H := H.ext hb3
      refine O.not rfl rfl rfl ?_
      refine O.move (v := (.bool (!t1))) rfl rfl rfl ?_
      refine WL.cut 5 (fun f w => f 0 = va0 ∧ f 3 = (.map (some m1)) ∧ f 5 = (.pointer (some ⟨b1, 0, none⟩)) ∧ f 7 = va0 ∧ f 8 = (.int .i64 ((a0.length : Nat) : Int)) ∧ f 9 = (.int .i64 (ik1 : Int)) ∧ f 21 = .bool ((!t1) || ((mget z2 yk1.Name).getD false)) ∧ Inv w0 w [mapI (K := ByteArray) (V := Bool) m1 z2, boxI b1 24 [(.string yk1.Name), v1], ownI (α := Int) (.slice none 0 0) 3 ([] : List Int)]) ?_ ?_
      · skip
        rcases bool_ft (!t1) with hc2 | hc2
        · skip
          refine WL.reset (i := 16) (v := .bool false) (congrArg Value.bool hc2) ?_
          refine O.move (v := (.map (some m1))) rfl rfl rfl ?_
          refine O.fieldAddr fd24_0 rfl rfl rfl ?_
          refine O.load sc9 rfl rfl rfl (H.cell 1 rfl 0 _ rfl) ?_
          refine O.lookup1 (z := false) yk1.Name Try.underlying102 key9 ze4 (H.map 0 rfl) rfl rfl rfl rfl ?_
          refine O.pick_false (v := (.bool ((mget z2 yk1.Name).getD false))) rfl rfl rfl rfl ?_
          refine WL.nil ?_
          exact ⟨rfl, rfl, rfl, rfl, rfl, rfl, congrArg Value.bool (or_f hc2), H⟩
        · skip
          refine WL.reset (i := 16) (v := .bool true) (congrArg Value.bool hc2) ?_
          refine O.skip rfl rfl ?_
          refine O.skip rfl rfl ?_
          refine O.skip rfl rfl ?_
          refine O.skip rfl rfl ?_
          refine O.pick_true (v := (.bool true)) rfl rfl rfl rfl ?_
          refine WL.nil ?_
          exact ⟨rfl, rfl, rfl, rfl, rfl, rfl, congrArg Value.bool (or_t hc2), H⟩
      · skip
        rintro f w ⟨hf0, hf3, hf5, hf7, hf8, hf9, hf21, H⟩
        obtain ⟨u2, rfl⟩ : ∃ u2, f = (upd (upd (upd (upd (upd (upd (upd u2 0 va0) 3 (.map (some m1))) 5 (.pointer (some ⟨b1, 0, none⟩))) 7 va0) 8 (.int .i64 ((a0.length : Nat) : Int))) 9 (.int .i64 (ik1 : Int))) 21 (.bool ((!t1) || ((mget z2 yk1.Name).getD false)))) := ⟨f, by rw [upd_self hf0, upd_self hf3, upd_self hf5, upd_self hf7, upd_self hf8, upd_self hf9, upd_self hf21]⟩
        refine WL.nil ?_
        rcases ite_some hm2 with ⟨hc3, hm2⟩ | ⟨hc3, hm2⟩
        · refine W.cond_true (congrArg Value.bool hc3) ?_
          refine W.seq ?_
          refine W.region ?_
          refine O.assign (v := (.bool false)) rfl rfl rfl ?_
          refine WL.nil ?_
          refine W.ret ?_
          obtain rfl := Option.some.inj hm2
          refine ⟨_, rfl, ?_⟩
          rintro rfl
          have hq : false = r0 := Option.some.inj (show some false = some r0 from hm)
          subst hq
          exact ends1 Try.results46 rfl ⟨_, rfl, H.base, rfl⟩
        · refine W.cond_false (congrArg Value.bool hc3) ?_
          refine W.skip ?_
          refine W.region ?_
          refine O.move (v := (.map (some m1))) rfl rfl rfl ?_
          refine O.fieldAddr fd24_0 rfl rfl rfl ?_
          refine O.load sc9 rfl rfl rfl (H.cell 1 rfl 0 _ rfl) ?_
          refine O.mapUpdate 0 yk1.Name true Try.underlying102 key9 H rfl rfl rfl rfl rfl ?_
          intro w5 H
          refine WL.nil ?_
          refine W.region ?_
          refine O.add rfl rfl rfl rfl hinck1 ?_
          refine O.move (v := .int .i64 ((ik1 : Int) + 1)) rfl rfl rfl ?_
          refine WL.nil ?_
          have H := H.keep [0] [mapI (K := ByteArray) (V := Bool) m1 (mput z2 yk1.Name true)] rfl (by decide)
          obtain rfl := Option.some.inj hm2
          exact ⟨_, rfl, _, rfl, drop_next hdropk1, rfl, rfl, rfl, rfl, rfl, H⟩
    · skip
      rintro ik1 _ f w ⟨z2, rfl, hdropk1, hf9, hf8, hf0, hf3, hf7, H⟩ hfin
      have hltk1 := drop_end hdropk1
      obtain ⟨u3, rfl⟩ : ∃ u3, f = (upd (upd (upd (upd (upd u3 9 (.int .i64 (ik1 : Int))) 8 (.int .i64 ((a0.length : Nat) : Int))) 0 va0) 3 (.map (some m1))) 7 va0) := ⟨f, by rw [upd_self hf9, upd_self hf8, upd_self hf0, upd_self hf3, upd_self hf7]⟩
      refine W.seq ?_
      refine W.region ?_
      refine O.lss rfl rfl rfl rfl ?_
      refine WL.nil ?_
      refine W.seq ?_
      refine W.cond_false (congrArg Value.bool (decide_eq_false hltk1)) ?_
      refine W.exit ?_
      obtain rfl : Ctl.next () = o1 := hfin
      have H := H.keep [] [] rfl (by decide)
      refine xT rfl ?_
      exact ⟨rfl, rfl, H⟩
  · skip
    rintro f w ⟨rfl, hf0, H⟩
    obtain ⟨u4, rfl⟩ : ∃ u4, f = (upd u4 0 va0) := ⟨f, by rw [upd_self hf0]⟩
    refine W.seq ?_
    refine W.region ?_
    refine O.move (v := va0) rfl rfl rfl ?_
    refine O.lenS Try.underlying55 (H.arg ha0) rfl rfl rfl ?_
    obtain ⟨t2, hy2, hm⟩ := bind_some hm
    refine O.call Try.call59 rfl rfl rfl (c_rate_within _ _ _ hy2) ?_
    rintro _ w6 hb4 rfl
    have H := H.ext hb4
    refine O.assign (v := (.bool t2)) rfl rfl rfl ?_
    refine WL.nil ?_
    refine W.ret ?_
    have hq : t2 = r0 := Option.some.inj (show some t2 = some r0 from hm)
    subst hq
    exact ends1 Try.results46 rfl ⟨_, rfl, H.base, rfl⟩

theorem c_rate_Odd_c1 {w0 : World} (va0_0 : Value) (a0 : GBox) (ha0_0 : SliceR w0 va0_0 a0.Errors) (pc0 : Addr) (vc0 : Value) (c0 : (List GBox)) (hc0 : ∀ j c, [vc0][j]? = some c → w0.cell? (pc0.add j) = some c) (rc0 : SliceR w0 vc0 c0) {r0 : Bool} (hm : rate_Odd_c1 a0 c0 = some r0) :
    Calls Try.prog 72 #[(.agg #[(.string a0.Name), va0_0]), (.pointer (some pc0))] w0 (Ret w0 fun _ v => v = (.bool r0)) := by
  unfold rate_Odd_c1 at hm
  refine calls_of_W Try.func72 rfl Try.ntmps72 (Nat.le_of_ble_eq_true rfl) ?_
  have H := Inv.start (w := w0)
  refine W.seq ?_
  refine W.region ?_
  refine O.box [(.string a0.Name), va0_0] H rfl rfl rfl rfl ?_
  intro b1 w1 H hb1
  refine O.assign (v := (.bool false)) rfl rfl rfl ?_
  refine WL.nil ?_
  refine W.seq ?_
  obtain ⟨x1, hx1, hm⟩ := bind_some hm
  obtain ⟨p1, hp1, hrp1⟩ := fix_indexAddr Try.underlying55 sz24 (H.arg rc0) hx1
  obtain ⟨v1, hs1, hc1⟩ := GBox_open hp1
  refine W.drawN 8 (fun f => f 6 = (.int .i64 ((a0.Errors.length : Nat) : Int)) ∧ f 11 = (.int .i64 ((x1.Errors.length : Nat) : Int))) fol (by kernel_rfl) ?_ ?_
  · skip
    refine PL.of (fun _ w8 _ hx => O.fieldAddr fd24_1 rfl rfl rfl (WL.nil ⟨rfl, hx⟩)) ?_
    refine PL.of (fun _ w8 _ hx => by have H := H.ext hx; exact O.load sc22 rfl rfl rfl (H.cell 0 rfl 1 _ rfl) (WL.nil ⟨rfl, hx⟩)) ?_
    refine PL.of (fun _ w8 _ hx => by have H := H.ext hx; exact O.lenS Try.underlying22 (H.arg ha0_0) rfl rfl rfl (WL.nil ⟨rfl, hx⟩)) ?_
    refine PL.of (fun _ w8 _ hx => by have H := H.ext hx; exact O.load sc55 rfl rfl rfl (cells_mono hc0 H.base 0 _ rfl) (WL.nil ⟨rfl, hx⟩)) ?_
    refine PL.of (fun _ w8 _ hx => hrp1 rfl rfl rfl rfl (WL.nil ⟨rfl, hx⟩)) ?_
    refine PL.of (fun _ w8 _ hx => O.fieldAddr fd24_1 rfl rfl rfl (WL.nil ⟨rfl, hx⟩)) ?_
    refine PL.of (fun _ w8 _ hx => by have hc1 := cells_mono hc1 hx; exact O.load sc22 rfl rfl rfl (hc1 1 _ rfl) (WL.nil ⟨rfl, hx⟩)) ?_
    refine PL.of (fun _ w8 _ hx => by have hs1 := hs1.mono hx; exact O.lenS Try.underlying22 hs1 rfl rfl rfl (WL.nil ⟨rfl, hx⟩)) ?_
    refine PL.nil ?_
    exact ⟨rfl, rfl⟩
  · skip
    rintro f w ⟨hf6, hf11⟩ hmd hx
    have H := H.ext hx
    have hp1 := hp1.mono hx
    have hs1 := hs1.mono hx
    have hc1 := cells_mono hc1 hx
    obtain ⟨u1, rfl⟩ : ∃ u1, f = (upd (upd u1 6 (.int .i64 ((a0.Errors.length : Nat) : Int))) 11 (.int .i64 ((x1.Errors.length : Nat) : Int))) := ⟨f, by rw [upd_self hf6, upd_self hf11]⟩
    refine O.neq rfl rfl rfl rfl ?_
    refine O.assign (v := (.bool (((a0.Errors.length : Nat) : Int) != ((x1.Errors.length : Nat) : Int)))) rfl rfl rfl ?_
    refine WL.nil ?_
    refine W.ret ?_
    have hq : (((a0.Errors.length : Nat) : Int) != ((x1.Errors.length : Nat) : Int)) = r0 := Option.some.inj (show some (((a0.Errors.length : Nat) : Int) != ((x1.Errors.length : Nat) : Int)) = some r0 from hm)
    subst hq
    exact ends1 Try.results72 rfl ⟨_, rfl, H.base, rfl⟩

theorem c_slices_IndexFunc_Box {w0 : World} (va0 : Value) (a0 : (List GBox)) (ha0 : SliceR w0 va0 a0) (va1 : Value) (a1 : GBox → Option (Bool)) (ha1 : ∀ (w : World), Below w0.heap.size w0 w → ∀ (vx0_0 : Value) (x0 : GBox) (_     : SliceR w vx0_0 x0.Errors) (y0 : Bool), a1 x0 = some y0 → CallsV Try.prog va1 #[(.agg #[(.string x0.Name), vx0_0])] w (Ret w fun _ v => v = (.bool y0))) {r0 : Int} (hm : slices_IndexFunc_Box a0 a1 = some r0) :
    Calls Try.prog 95 #[va0, va1] w0 (Ret w0 fun _ v => v = (.int .i64 r0)) := by
  unfold slices_IndexFunc_Box at hm
  refine calls_of_W Try.func95 rfl Try.ntmps95 (Nat.le_of_ble_eq_true rfl) ?_
  have H := Inv.start (w := w0)
  refine W.seq ?_
  refine W.region ?_
  refine O.assign (v := (.int .i64 0)) rfl rfl rfl ?_
  refine WL.nil ?_
  refine W.seq ?_
  refine W.seq ?_
  refine W.region ?_
  refine O.move (v := va0) rfl rfl rfl ?_
  refine O.lenS Try.underlying55 (H.arg ha0) rfl rfl rfl ?_
  refine O.move (v := (.int .i64 0)) rfl rfl rfl ?_
  refine WL.nil ?_
  obtain ⟨o1, hm1, hm⟩ := bind_some hm
  refine W.via (fun f w => o1 = .next () ∧ Inv w0 w []) ?_ ?_
  · skip
    refine W.block ?_
    have hbdik1 := (H.arg ha0).len_le
    refine W.rangeN (i := 0) hm1 (fun rem ik1 s f w => () = s ∧ (ik1 : Int) + rem = max 0 ((a0.length : Nat) : Int) ∧ f 8 = .int .i64 (ik1 : Int) ∧ f 7 = (.int .i64 ((a0.length : Nat) : Int)) ∧ f 0 = va0 ∧ f 1 = va1 ∧ Inv w0 w []) ?_ ?_ ?_
    · skip
      exact ⟨rfl, rangeN_start, rfl, rfl, rfl, rfl, H⟩
    · skip
      rintro k ik1 _ st f w ⟨rfl, hdropk1, hf8, hf7, hf0, hf1, H⟩ hm2
      have hltk1 := rangeN_lt hdropk1
      obtain ⟨u1, rfl⟩ : ∃ u1, f = (upd (upd (upd (upd u1 8 (.int .i64 (ik1 : Int))) 7 (.int .i64 ((a0.length : Nat) : Int))) 0 va0) 1 va1) := ⟨f, by rw [upd_self hf8, upd_self hf7, upd_self hf0, upd_self hf1]⟩
      have hinck1 := addI_lt hltk1 hbdik1
      refine W.seq ?_
      refine W.region ?_
      refine O.lss rfl rfl rfl rfl ?_
      refine WL.nil ?_
      refine W.seq ?_
      refine W.cond_true (congrArg Value.bool (decide_eq_true hltk1)) ?_
      refine W.skip ?_
      refine W.seq ?_
      refine W.block ?_
      refine W.seq ?_
      refine W.region ?_
      refine O.move (v := (.int .i64 (ik1 : Int))) rfl rfl rfl ?_
      refine O.assign (v := (.int .i64 (ik1 : Int))) rfl rfl rfl ?_
      refine WL.nil ?_
      refine W.seq ?_
      refine W.region ?_
      refine O.move (v := va1) rfl rfl rfl ?_
      refine O.move (v := va0) rfl rfl rfl ?_
      refine O.move (v := (.int .i64 (ik1 : Int))) rfl rfl rfl ?_
      obtain ⟨x1, hx1, hm2⟩ := bind_some hm2
      obtain ⟨p1, hp1, hrp1⟩ := fix_indexAddr Try.underlying55 sz24 ha0 hx1
      obtain ⟨v1, hs1, hc1⟩ := GBox_open hp1
      refine hrp1 rfl rfl rfl rfl ?_
      refine O.loadA [(.string x1.Name), v1] ag24 rfl rfl rfl rfl ((cells_mono hc1 H.base)) ?_
      obtain ⟨t1, hy1, hm2⟩ := bind_some hm2
      refine O.callV rfl rfl rfl rfl (ha1 _ H.base _ (GBox.mk x1.Name x1.Errors) (H.arg hs1) _ hy1) ?_
      rintro _ w1 hb1 rfl
      have H := H.ext hb1
      refine WL.nil ?_
      rcases ite_some hm2 with ⟨hc2, hm2⟩ | ⟨hc2, hm2⟩
      · refine W.cond_true (congrArg Value.bool hc2) ?_
        refine W.seq ?_
        refine W.region ?_
        refine O.move (v := (.int .i64 (ik1 : Int))) rfl rfl rfl ?_
        refine O.assign (v := (.int .i64 (ik1 : Int))) rfl rfl rfl ?_
        refine WL.nil ?_
        refine W.ret ?_
        obtain rfl := Option.some.inj hm2
        refine ⟨_, rfl, ?_⟩
        rintro rfl
        have hq : (ik1 : Int) = r0 := Option.some.inj (show some (ik1 : Int) = some r0 from hm)
        subst hq
        exact ends1 Try.results95 rfl ⟨_, rfl, H.base, rfl⟩
      · refine W.cond_false (congrArg Value.bool hc2) ?_
        refine W.skip ?_
        refine W.region ?_
        refine O.add rfl rfl rfl rfl hinck1 ?_
        refine O.move (v := .int .i64 ((ik1 : Int) + 1)) rfl rfl rfl ?_
        refine WL.nil ?_
        obtain rfl := Option.some.inj hm2
        exact ⟨_, rfl, rfl, rangeN_next hdropk1, rfl, rfl, rfl, rfl, H⟩
    · skip
      rintro ik1 _ f w ⟨rfl, hdropk1, hf8, hf7, hf0, hf1, H⟩ hfin
      have hltk1 := rangeN_end hdropk1
      obtain ⟨u2, rfl⟩ : ∃ u2, f = (upd (upd (upd (upd u2 8 (.int .i64 (ik1 : Int))) 7 (.int .i64 ((a0.length : Nat) : Int))) 0 va0) 1 va1) := ⟨f, by rw [upd_self hf8, upd_self hf7, upd_self hf0, upd_self hf1]⟩
      refine W.seq ?_
      refine W.region ?_
      refine O.lss rfl rfl rfl rfl ?_
      refine WL.nil ?_
      refine W.seq ?_
      refine W.cond_false (congrArg Value.bool (decide_eq_false hltk1)) ?_
      refine W.exit ?_
      obtain rfl : Ctl.next () = o1 := hfin
      refine xT rfl ?_
      exact ⟨rfl, H⟩
  · skip
    rintro f w ⟨rfl, H⟩
    refine W.seq ?_
    refine W.region ?_
    refine O.assign (v := (.int .i64 (-1))) rfl rfl rfl ?_
    refine WL.nil ?_
    refine W.ret ?_
    have hq : (-1) = r0 := Option.some.inj (show some (-1) = some r0 from hm)
    subst hq
    exact ends1 Try.results95 rfl ⟨_, rfl, H.base, rfl⟩

theorem c_slices_ContainsFunc_Box {w0 : World} (va0 : Value) (a0 : (List GBox)) (ha0 : SliceR w0 va0 a0) (va1 : Value) (a1 : GBox → Option (Bool)) (ha1 : ∀ (w : World), Below w0.heap.size w0 w → ∀ (vx0_0 : Value) (x0 : GBox) (_     : SliceR w vx0_0 x0.Errors) (y0 : Bool), a1 x0 = some y0 → CallsV Try.prog va1 #[(.agg #[(.string x0.Name), vx0_0])] w (Ret w fun _ v => v = (.bool y0))) {r0 : Bool} (hm : slices_ContainsFunc_Box a0 a1 = some r0) :
    Calls Try.prog 71 #[va0, va1] w0 (Ret w0 fun _ v => v = (.bool r0)) := by
  unfold slices_ContainsFunc_Box at hm
  refine calls_of_W Try.func71 rfl Try.ntmps71 (Nat.le_of_ble_eq_true rfl) ?_
  have H := Inv.start (w := w0)
  refine W.seq ?_
  refine W.region ?_
  refine O.assign (v := (.bool false)) rfl rfl rfl ?_
  refine WL.nil ?_
  refine W.seq ?_
  refine W.region ?_
  refine O.move (v := va0) rfl rfl rfl ?_
  refine O.move (v := va1) rfl rfl rfl ?_
  obtain ⟨t1, hy1, hm⟩ := bind_some hm
  refine O.call Try.call95 rfl rfl rfl (c_slices_IndexFunc_Box _ _ (H.arg ha0) va1 a1 (fun w hw => ha1 w (H.base.trans (hw.mono H.base.size))) hy1) ?_
  rintro _ w1 hb1 rfl
  have H := H.ext hb1
  refine O.geq rfl rfl rfl rfl ?_
  refine O.assign (v := (.bool (decide (0 ≤ t1)))) rfl rfl rfl ?_
  refine WL.nil ?_
  refine W.ret ?_
  have hq : (decide (0 ≤ t1)) = r0 := Option.some.inj (show some (decide (0 ≤ t1)) = some r0 from hm)
  subst hq
  exact ends1 Try.results71 rfl ⟨_, rfl, H.base, rfl⟩

set_option maxRecDepth 20000 in
theorem c_rate_play {w0 : World} (va0_0 : Value) (a0 : GBox) (ha0_0 : SliceR w0 va0_0 a0.Errors) (va1_0 : Value) (a1 : GBox) (ha1_0 : SliceR w0 va1_0 a1.Errors) {r0 : Int} (hm : rate_play a0 a1 = some r0) :
    Calls Try.prog 73 #[(.agg #[(.string a0.Name), va0_0]), (.agg #[(.string a1.Name), va1_0])] w0 (Ret w0 fun _ v => v = (.int .i64 r0)) := by
  unfold rate_play at hm
  refine calls_of_W Try.func73 rfl Try.ntmps73 (Nat.le_of_ble_eq_true rfl) ?_
  have H := Inv.start (w := w0)
  refine W.seq ?_
  refine W.region ?_
  refine O.box [(.string a0.Name), va0_0] H rfl rfl rfl rfl ?_
  intro b1 w1 H hb1
  refine O.box [(.string a1.Name), va1_0] H rfl rfl rfl rfl ?_
  intro b2 w2 H hb2
  refine O.assign (v := (.int .i64 0)) rfl rfl rfl ?_
  refine WL.nil ?_
  refine W.seq ?_
  refine W.region ?_
  have H := H.addNil (α := Int) (E := 3)
  refine O.assign (v := (.slice none 0 0)) rfl rfl rfl ?_
  refine WL.nil ?_
  refine W.seq ?_
  refine W.seq ?_
  refine W.region ?_
  refine O.fieldAddr fd24_1 rfl rfl rfl ?_
  refine O.load sc22 rfl rfl rfl (H.cell 0 rfl 1 _ rfl) ?_
  refine O.lenS Try.underlying22 (H.arg ha0_0) rfl rfl rfl ?_
  refine O.move (v := (.int .i64 0)) rfl rfl rfl ?_
  refine WL.nil ?_
  obtain ⟨s1, hm1, hm⟩ := bind_some hm
  refine W.via (fun f w => ∃ v4 : Value, f 5 = v4 ∧ Inv w0 w [ownI (α := Int) v4 3 s1]) ?_ ?_
  · skip
    refine W.block ?_
    have hbdik1 := (H.arg ha0_0).len_le
    have H := H.keep [1, 2] [boxI b2 24 [(.string a1.Name), va1_0], ownI (α := Int) (.slice none 0 0) 3 ([] : List Int)] rfl (by decide)
    refine W.rangeN (i := 0) hm1 (fun rem ik1 s f w => ∃ z2 : (List Int), ∃ v2 : Value, z2 = s ∧ (ik1 : Int) + rem = max 0 ((a0.Errors.length : Nat) : Int) ∧ f 13 = .int .i64 (ik1 : Int) ∧ f 12 = (.int .i64 ((a0.Errors.length : Nat) : Int)) ∧ f 3 = (.pointer (some ⟨b2, 0, none⟩)) ∧ f 5 = v2 ∧ f 11 = va0_0 ∧ Inv w0 w [boxI b2 24 [(.string a1.Name), va1_0], ownI (α := Int) v2 3 z2]) ?_ ?_ ?_
    · skip
      exact ⟨_, (.slice none 0 0), rfl, rangeN_start, rfl, rfl, rfl, rfl, rfl, H⟩
    · skip
      rintro k ik1 _ st f w ⟨z2, v2, rfl, hdropk1, hf13, hf12, hf3, hf5, hf11, H⟩ hm2
      have hltk1 := rangeN_lt hdropk1
      obtain ⟨u1, rfl⟩ : ∃ u1, f = (upd (upd (upd (upd (upd u1 13 (.int .i64 (ik1 : Int))) 12 (.int .i64 ((a0.Errors.length : Nat) : Int))) 3 (.pointer (some ⟨b2, 0, none⟩))) 5 v2) 11 va0_0) := ⟨f, by rw [upd_self hf13, upd_self hf12, upd_self hf3, upd_self hf5, upd_self hf11]⟩
      have hinck1 := addI_lt hltk1 hbdik1
      refine W.seq ?_
      refine W.region ?_
      refine O.lss rfl rfl rfl rfl ?_
      refine WL.nil ?_
      refine W.seq ?_
      refine W.cond_true (congrArg Value.bool (decide_eq_true hltk1)) ?_
      refine W.skip ?_
      refine W.seq ?_
      refine W.block ?_
      refine W.seq ?_
      refine W.region ?_
      refine O.move (v := (.int .i64 (ik1 : Int))) rfl rfl rfl ?_
      obtain ⟨x1, hx1, hm2⟩ := bind_some hm2
      obtain ⟨p1, hp1, hrp1⟩ := fix_indexAddr Try.underlying22 sz3 ha0_0 hx1
      refine hrp1 rfl rfl rfl rfl ?_
      refine O.load sc3 rfl rfl rfl ((hp1.mono H.base).flat 0 _ rfl) ?_
      refine O.assign (v := (.int .i64 (ik1 : Int))) rfl rfl rfl ?_
      refine O.assign (v := (.int .i64 x1)) rfl rfl rfl ?_
      refine WL.nil ?_
      refine W.region ?_
      refine O.move (v := v2) rfl rfl rfl ?_
      refine O.move (v := (.int .i64 x1)) rfl rfl rfl ?_
      refine O.fieldAddr fd24_1 rfl rfl rfl ?_
      refine O.load sc22 rfl rfl rfl (H.cell 0 rfl 1 _ rfl) ?_
      refine O.move (v := (.int .i64 (ik1 : Int))) rfl rfl rfl ?_
      obtain ⟨x2, hx2, hm2⟩ := bind_some hm2
      obtain ⟨p2, hp2, hrp2⟩ := fix_indexAddr Try.underlying22 sz3 ha1_0 hx2
      refine hrp2 rfl rfl rfl rfl ?_
      refine O.load sc3 rfl rfl rfl ((hp2.mono H.base).flat 0 _ rfl) ?_
      obtain ⟨t1, ht1, hm2⟩ := bind_some hm2
      refine O.sub rfl rfl rfl rfl ht1 ?_
      refine O.buildSlice (α := Int) [(.int .i64 t1)] [t1] Try.underlying22 el3 H rfl rfl rfl rfl rfl rfl rfl ?_
      intro v5 w3 H hb3
      obtain ⟨t2, ht2, hm2⟩ := bind_some hm2
      refine O.append 1 Try.underlying22 el3 rfl H rfl (H.own 2 rfl) ht2 rfl rfl rfl rfl ?_
      intro v6 w4 H
      refine O.assign (v := v6) rfl rfl rfl ?_
      refine WL.nil ?_
      refine W.region ?_
      refine O.add rfl rfl rfl rfl hinck1 ?_
      refine O.move (v := .int .i64 ((ik1 : Int) + 1)) rfl rfl rfl ?_
      refine WL.nil ?_
      have H := H.keep [0, 1] [boxI b2 24 [(.string a1.Name), va1_0], ownI (α := Int) v6 3 t2] rfl (by decide)
      obtain rfl := Option.some.inj hm2
      exact ⟨_, rfl, _, v6, rfl, rangeN_next hdropk1, rfl, rfl, rfl, rfl, rfl, H⟩
    · skip
      rintro ik1 _ f w ⟨z2, v2, rfl, hdropk1, hf13, hf12, hf3, hf5, hf11, H⟩ hfin
      have hltk1 := rangeN_end hdropk1
      obtain ⟨u2, rfl⟩ : ∃ u2, f = (upd (upd (upd (upd (upd u2 13 (.int .i64 (ik1 : Int))) 12 (.int .i64 ((a0.Errors.length : Nat) : Int))) 3 (.pointer (some ⟨b2, 0, none⟩))) 5 v2) 11 va0_0) := ⟨f, by rw [upd_self hf13, upd_self hf12, upd_self hf3, upd_self hf5, upd_self hf11]⟩
      refine W.seq ?_
      refine W.region ?_
      refine O.lss rfl rfl rfl rfl ?_
      refine WL.nil ?_
      refine W.seq ?_
      refine W.cond_false (congrArg Value.bool (decide_eq_false hltk1)) ?_
      refine W.exit ?_
      have hq : z2 = s1 := hfin
      subst hq
      have H := H.keep [1] [ownI (α := Int) v2 3 z2] rfl (by decide)
      refine xT rfl ?_
      exact ⟨v2, rfl, H⟩
  · skip
    rintro f w ⟨v4, hf5, H⟩
    obtain ⟨u3, rfl⟩ : ∃ u3, f = (upd u3 5 v4) := ⟨f, by rw [upd_self hf5]⟩
    refine W.seq ?_
    refine W.region ?_
    refine O.move (v := v4) rfl rfl rfl ?_
    refine O.call Try.call56 rfl rfl rfl (c_slices_Values_int _ _ (H.own 0 rfl)) ?_
    rintro _ w5 hb4 ⟨b3, rfl, hM1⟩
    have H := H.addAll hb4 hM1
    obtain ⟨xs1, hxs1, hm⟩ := bind_some hm
    obtain ⟨⟨t3, t4⟩, hy1, hm⟩ := bind_some hm
    refine O.call Try.call55 rfl rfl rfl (c_rate_ends_int (.func (.func 90) #[] #[(.pointer (some ⟨b3, 0, none⟩))]) xs1 (iterP_mk rfl Try.call90 fun _ _ hk => it_slices_Values_int_c1 _ _ s1 hxs1 fun w hw => ⟨cells_mono (H.cell 1 rfl) (hk w hw), (H.own 0 rfl).mono (hk w hw)⟩) hy1) ?_
    rintro _ w6 hb5 rfl
    have H := H.ext hb5
    refine O.move (v := (.tuple #[(.int .i64 t3), (.int .i64 t4)])) rfl rfl rfl ?_
    refine O.extract (v := (.int .i64 t3)) rfl rfl rfl rfl ?_
    refine O.extract (v := (.int .i64 t4)) rfl rfl rfl rfl ?_
    refine O.assign (v := (.int .i64 t3)) rfl rfl rfl ?_
    refine O.assign (v := (.int .i64 t4)) rfl rfl rfl ?_
    refine WL.nil ?_
    refine W.seq ?_
    refine W.region ?_
    refine O.move (v := (.int .i64 t4)) rfl rfl rfl ?_
    refine O.move (v := (.int .i64 t3)) rfl rfl rfl ?_
    obtain ⟨t5, ht5, hm⟩ := bind_some hm
    refine O.sub rfl rfl rfl rfl ht5 ?_
    refine O.assign (v := (.int .i64 t5)) rfl rfl rfl ?_
    refine WL.nil ?_
    refine W.ret ?_
    have hq : t5 = r0 := Option.some.inj (show some t5 = some r0 from hm)
    subst hq
    exact ends1 Try.results73 rfl ⟨_, rfl, H.base, rfl⟩

theorem c_slices_Index_int {w0 : World} (va0 : Value) (a0 : (List Int)) (ha0 : SliceR w0 va0 a0) (a1 : Int) {r0 : Int} (hm : slices_Index_int a0 a1 = some r0) :
    Calls Try.prog 74 #[va0, (.int .i64 a1)] w0 (Ret w0 fun _ v => v = (.int .i64 r0)) := by
  unfold slices_Index_int at hm
  refine calls_of_W Try.func74 rfl Try.ntmps74 (Nat.le_of_ble_eq_true rfl) ?_
  have H := Inv.start (w := w0)
  refine W.seq ?_
  refine W.region ?_
  refine O.assign (v := (.int .i64 0)) rfl rfl rfl ?_
  refine WL.nil ?_
  refine W.seq ?_
  refine W.seq ?_
  refine W.region ?_
  refine O.move (v := va0) rfl rfl rfl ?_
  refine O.lenS Try.underlying22 (H.arg ha0) rfl rfl rfl ?_
  refine O.move (v := (.int .i64 0)) rfl rfl rfl ?_
  refine WL.nil ?_
  obtain ⟨o1, hm1, hm⟩ := bind_some hm
  refine W.via (fun f w => o1 = .next () ∧ Inv w0 w []) ?_ ?_
  · skip
    refine W.block ?_
    have hbdik1 := (H.arg ha0).len_le
    refine W.rangeN (i := 0) hm1 (fun rem ik1 s f w => () = s ∧ (ik1 : Int) + rem = max 0 ((a0.length : Nat) : Int) ∧ f 8 = .int .i64 (ik1 : Int) ∧ f 7 = (.int .i64 ((a0.length : Nat) : Int)) ∧ f 0 = va0 ∧ f 1 = (.int .i64 a1) ∧ Inv w0 w []) ?_ ?_ ?_
    · skip
      exact ⟨rfl, rangeN_start, rfl, rfl, rfl, rfl, H⟩
    · skip
      rintro k ik1 _ st f w ⟨rfl, hdropk1, hf8, hf7, hf0, hf1, H⟩ hm2
      have hltk1 := rangeN_lt hdropk1
      obtain ⟨u1, rfl⟩ : ∃ u1, f = (upd (upd (upd (upd u1 8 (.int .i64 (ik1 : Int))) 7 (.int .i64 ((a0.length : Nat) : Int))) 0 va0) 1 (.int .i64 a1)) := ⟨f, by rw [upd_self hf8, upd_self hf7, upd_self hf0, upd_self hf1]⟩
      have hinck1 := addI_lt hltk1 hbdik1
      refine W.seq ?_
      refine W.region ?_
      refine O.lss rfl rfl rfl rfl ?_
      refine WL.nil ?_
      refine W.seq ?_
      refine W.cond_true (congrArg Value.bool (decide_eq_true hltk1)) ?_
      refine W.skip ?_
      refine W.seq ?_
      refine W.block ?_
      refine W.seq ?_
      refine W.region ?_
      refine O.move (v := (.int .i64 (ik1 : Int))) rfl rfl rfl ?_
      refine O.assign (v := (.int .i64 (ik1 : Int))) rfl rfl rfl ?_
      refine WL.nil ?_
      refine W.seq ?_
      refine W.region ?_
      refine O.move (v := (.int .i64 a1)) rfl rfl rfl ?_
      refine O.move (v := va0) rfl rfl rfl ?_
      refine O.move (v := (.int .i64 (ik1 : Int))) rfl rfl rfl ?_
      obtain ⟨x1, hx1, hm2⟩ := bind_some hm2
      obtain ⟨p1, hp1, hrp1⟩ := fix_indexAddr Try.underlying22 sz3 ha0 hx1
      refine hrp1 rfl rfl rfl rfl ?_
      refine O.load sc3 rfl rfl rfl ((hp1.mono H.base).flat 0 _ rfl) ?_
      refine O.eql rfl rfl rfl rfl ?_
      refine WL.nil ?_
      rcases ite_some hm2 with ⟨hc1, hm2⟩ | ⟨hc1, hm2⟩
      · refine W.cond_true (congrArg Value.bool hc1) ?_
        refine W.seq ?_
        refine W.region ?_
        refine O.move (v := (.int .i64 (ik1 : Int))) rfl rfl rfl ?_
        refine O.assign (v := (.int .i64 (ik1 : Int))) rfl rfl rfl ?_
        refine WL.nil ?_
        refine W.ret ?_
        obtain rfl := Option.some.inj hm2
        refine ⟨_, rfl, ?_⟩
        rintro rfl
        have hq : (ik1 : Int) = r0 := Option.some.inj (show some (ik1 : Int) = some r0 from hm)
        subst hq
        exact ends1 Try.results74 rfl ⟨_, rfl, H.base, rfl⟩
      · refine W.cond_false (congrArg Value.bool hc1) ?_
        refine W.skip ?_
        refine W.region ?_
        refine O.add rfl rfl rfl rfl hinck1 ?_
        refine O.move (v := .int .i64 ((ik1 : Int) + 1)) rfl rfl rfl ?_
        refine WL.nil ?_
        obtain rfl := Option.some.inj hm2
        exact ⟨_, rfl, rfl, rangeN_next hdropk1, rfl, rfl, rfl, rfl, H⟩
    · skip
      rintro ik1 _ f w ⟨rfl, hdropk1, hf8, hf7, hf0, hf1, H⟩ hfin
      have hltk1 := rangeN_end hdropk1
      obtain ⟨u2, rfl⟩ : ∃ u2, f = (upd (upd (upd (upd u2 8 (.int .i64 (ik1 : Int))) 7 (.int .i64 ((a0.length : Nat) : Int))) 0 va0) 1 (.int .i64 a1)) := ⟨f, by rw [upd_self hf8, upd_self hf7, upd_self hf0, upd_self hf1]⟩
      refine W.seq ?_
      refine W.region ?_
      refine O.lss rfl rfl rfl rfl ?_
      refine WL.nil ?_
      refine W.seq ?_
      refine W.cond_false (congrArg Value.bool (decide_eq_false hltk1)) ?_
      refine W.exit ?_
      obtain rfl : Ctl.next () = o1 := hfin
      refine xT rfl ?_
      exact ⟨rfl, H⟩
  · skip
    rintro f w ⟨rfl, H⟩
    refine W.seq ?_
    refine W.region ?_
    refine O.assign (v := (.int .i64 (-1))) rfl rfl rfl ?_
    refine WL.nil ?_
    refine W.ret ?_
    have hq : (-1) = r0 := Option.some.inj (show some (-1) = some r0 from hm)
    subst hq
    exact ends1 Try.results74 rfl ⟨_, rfl, H.base, rfl⟩

theorem c_slices_Contains_int {w0 : World} (va0 : Value) (a0 : (List Int)) (ha0 : SliceR w0 va0 a0) (a1 : Int) {r0 : Bool} (hm : slices_Contains_int a0 a1 = some r0) :
    Calls Try.prog 75 #[va0, (.int .i64 a1)] w0 (Ret w0 fun _ v => v = (.bool r0)) := by
  unfold slices_Contains_int at hm
  refine calls_of_W Try.func75 rfl Try.ntmps75 (Nat.le_of_ble_eq_true rfl) ?_
  have H := Inv.start (w := w0)
  refine W.seq ?_
  refine W.region ?_
  refine O.assign (v := (.bool false)) rfl rfl rfl ?_
  refine WL.nil ?_
  refine W.seq ?_
  refine W.region ?_
  refine O.move (v := va0) rfl rfl rfl ?_
  refine O.move (v := (.int .i64 a1)) rfl rfl rfl ?_
  obtain ⟨t1, hy1, hm⟩ := bind_some hm
  refine O.call Try.call74 rfl rfl rfl (c_slices_Index_int _ _ (H.arg ha0) _ hy1) ?_
  rintro _ w1 hb1 rfl
  have H := H.ext hb1
  refine O.geq rfl rfl rfl rfl ?_
  refine O.assign (v := (.bool (decide (0 ≤ t1)))) rfl rfl rfl ?_
  refine WL.nil ?_
  refine W.ret ?_
  have hq : (decide (0 ≤ t1)) = r0 := Option.some.inj (show some (decide (0 ≤ t1)) = some r0 from hm)
  subst hq
  exact ends1 Try.results75 rfl ⟨_, rfl, H.base, rfl⟩

set_option maxRecDepth 20000 in
theorem c_rate_Odd {w0 : World} (va0 : Value) (a0 : (List GBox)) (ha0 : SliceR w0 va0 a0) {r0 : Int} {r1 : Int} (hm : rate_Odd a0 = some (r0, r1)) :
    Calls Try.prog 38 #[va0] w0 (Ret w0 fun _ v => v = .tuple #[(.int .i64 r0), (.int .i64 r1)]) := by
  unfold rate_Odd at hm
  refine calls_of_W Try.func38 rfl Try.ntmps38 (Nat.le_of_ble_eq_true rfl) ?_
  have H := Inv.start (w := w0)
  refine W.seq ?_
  refine W.region ?_
  refine O.box [va0] H rfl rfl rfl (SliceR.cells1 (H.arg ha0)) ?_
  intro b1 w1 H hb1
  refine O.assign (v := (.int .i64 0)) rfl rfl rfl ?_
  refine O.assign (v := (.int .i64 0)) rfl rfl rfl ?_
  refine WL.nil ?_
  refine W.seq ?_
  refine W.block ?_
  refine W.seq ?_
  refine W.region ?_
  refine O.load sc55 rfl rfl rfl (H.cell 0 rfl 0 _ rfl) ?_
  obtain ⟨t1, hy1, hm⟩ := bind_some hm
  refine O.call Try.call46 rfl rfl rfl (c_rate_ValidBoxes _ _ (H.arg ha0) hy1) ?_
  rintro _ w2 hb2 rfl
  have H := H.ext hb2
  refine O.not rfl rfl rfl ?_
  refine O.assign (v := (.bool (!t1))) rfl rfl rfl ?_
  refine WL.nil ?_
  rcases ite_some hm with ⟨hc1, hm⟩ | ⟨hc1, hm⟩
  · refine W.cond_true (congrArg Value.bool hc1) ?_
    refine W.seq ?_
    refine W.region ?_
    refine O.assign (v := (.int .i64 0)) rfl rfl rfl ?_
    refine O.assign (v := (.int .i64 1)) rfl rfl rfl ?_
    refine WL.nil ?_
    refine W.ret ?_
    have hq : (0, 1) = (r0, r1) := Option.some.inj (show some (0, 1) = some (r0, r1) from hm)
    obtain ⟨he0, hq0⟩ := Prod.mk.inj hq; clear hq; subst he0
    subst hq0
    exact ends2 Try.results38 rfl rfl ⟨_, rfl, H.base, rfl⟩
  · refine W.cond_false (congrArg Value.bool hc1) ?_
    refine W.seq ?_
    refine W.region ?_
    refine O.load sc55 rfl rfl rfl (H.cell 0 rfl 0 _ rfl) ?_
    refine O.lenS Try.underlying55 (H.arg ha0) rfl rfl rfl ?_
    refine O.neq rfl rfl rfl rfl ?_
    refine O.move (v := (.bool (((a0.length : Nat) : Int) != 3))) rfl rfl rfl ?_
    obtain ⟨b2, hm1, hm⟩ := bind_some hm
    refine WL.cut 4 (fun f w => f 1 = (.pointer (some ⟨b1, 0, none⟩)) ∧ f 20 = .bool b2 ∧ Inv w0 w [boxI b1 55 [va0]]) ?_ ?_
    · skip
      rcases ite_some hm1 with ⟨hc2, hm1⟩ | ⟨hc2, hm1⟩
      · skip
        refine WL.reset (i := 16) (v := .bool true) (congrArg Value.bool hc2) ?_
        refine O.skip rfl rfl ?_
        refine O.skip rfl rfl ?_
        refine O.skip rfl rfl ?_
        refine O.pick_true (v := (.bool true)) rfl rfl rfl rfl ?_
        refine WL.nil ?_
        have hq : true = b2 := Option.some.inj (show some true = some b2 from hm1)
        subst hq
        exact ⟨rfl, rfl, H⟩
      · skip
        refine WL.reset (i := 16) (v := .bool false) (congrArg Value.bool hc2) ?_
        refine O.load sc55 rfl rfl rfl (H.cell 0 rfl 0 _ rfl) ?_
        refine O.makeFunc rfl rfl rfl rfl ?_
        obtain ⟨t2, hy2, hm1⟩ := bind_some hm1
        refine O.call Try.call71 rfl rfl rfl (c_slices_ContainsFunc_Box _ _ (H.arg ha0) _ (fun x0 => rate_Odd_c1 x0 a0) (fun w hw vx0_0 x0 hx0_0 _ hy => callsV_mk Try.call72 (c_rate_Odd_c1 vx0_0 x0 hx0_0 _ _ a0 (cells_mono (H.cell 0 rfl) hw) ((H.arg ha0).mono hw) hy)) hy2) ?_
        rintro _ w3 hb3 rfl
        have H := H.ext hb3
        refine O.pick_false (v := (.bool t2)) rfl rfl rfl rfl ?_
        refine WL.nil ?_
        have hq : t2 = b2 := Option.some.inj (show some t2 = some b2 from hm1)
        subst hq
        exact ⟨rfl, rfl, H⟩
    · skip
      rintro f w ⟨hf1, hf20, H⟩
      obtain ⟨u1, rfl⟩ : ∃ u1, f = (upd (upd u1 1 (.pointer (some ⟨b1, 0, none⟩))) 20 (.bool b2)) := ⟨f, by rw [upd_self hf1, upd_self hf20]⟩
      refine O.assign (v := (.bool b2)) rfl rfl rfl ?_
      refine WL.nil ?_
      rcases ite_some hm with ⟨hc3, hm⟩ | ⟨hc3, hm⟩
      · refine W.cond_true (congrArg Value.bool hc3) ?_
        refine W.seq ?_
        refine W.region ?_
        refine O.assign (v := (.int .i64 0)) rfl rfl rfl ?_
        refine O.assign (v := (.int .i64 7)) rfl rfl rfl ?_
        refine WL.nil ?_
        refine W.ret ?_
        have hq : (0, 7) = (r0, r1) := Option.some.inj (show some (0, 7) = some (r0, r1) from hm)
        obtain ⟨he0, hq0⟩ := Prod.mk.inj hq; clear hq; subst he0
        subst hq0
        exact ends2 Try.results38 rfl rfl ⟨_, rfl, H.base, rfl⟩
      · refine W.cond_false (congrArg Value.bool hc3) ?_
        refine W.skip ?_
        refine W.seq ?_
        obtain ⟨x1, hx1, hm⟩ := bind_some hm
        obtain ⟨p1, hp1, hrp1⟩ := fix_indexAddr Try.underlying55 sz24 (H.arg ha0) hx1
        obtain ⟨v1, hs1, hc4⟩ := GBox_open hp1
        obtain ⟨x2, hx2, hm⟩ := bind_some hm
        obtain ⟨p2, hp2, hrp2⟩ := fix_indexAddr Try.underlying55 sz24 (H.arg ha0) hx2
        obtain ⟨v2, hs2, hc5⟩ := GBox_open hp2
        obtain ⟨t3, hy3, hm⟩ := bind_some hm
        obtain ⟨x3, hx3, hm⟩ := bind_some hm
        obtain ⟨p3, hp3, hrp3⟩ := fix_indexAddr Try.underlying55 sz24 (H.arg ha0) hx3
        obtain ⟨v3, hs3, hc6⟩ := GBox_open hp3
        obtain ⟨x4, hx4, hm⟩ := bind_some hm
        obtain ⟨p4, hp4, hrp4⟩ := fix_indexAddr Try.underlying55 sz24 (H.arg ha0) hx4
        obtain ⟨v4, hs4, hc7⟩ := GBox_open hp4
        obtain ⟨t4, hy4, hm⟩ := bind_some hm
        obtain ⟨x5, hx5, hm⟩ := bind_some hm
        obtain ⟨p5, hp5, hrp5⟩ := fix_indexAddr Try.underlying55 sz24 (H.arg ha0) hx5
        obtain ⟨v5, hs5, hc8⟩ := GBox_open hp5
        obtain ⟨x6, hx6, hm⟩ := bind_some hm
        obtain ⟨p6, hp6, hrp6⟩ := fix_indexAddr Try.underlying55 sz24 (H.arg ha0) hx6
        obtain ⟨v6, hs6, hc9⟩ := GBox_open hp6
        refine W.drawN 20 (fun f => f 27 = (.int .i64 t3) ∧ f 34 = (.int .i64 t4) ∧ f 37 = (.agg #[(.string x5.Name), v5]) ∧ f 40 = (.agg #[(.string x6.Name), v6])) fol (by kernel_rfl) ?_ ?_
        · skip
          refine PL.of (fun _ w8 _ hx => by have H := H.ext hx; exact O.load sc55 rfl rfl rfl (H.cell 0 rfl 0 _ rfl) (WL.nil ⟨rfl, hx⟩)) ?_
          refine PL.of (fun _ w8 _ hx => hrp1 rfl rfl rfl rfl (WL.nil ⟨rfl, hx⟩)) ?_
          refine PL.of (fun _ w8 _ hx => by have hc4 := cells_mono hc4 hx; exact O.loadA [(.string x1.Name), v1] ag24 rfl rfl rfl rfl (hc4) (WL.nil ⟨rfl, hx⟩)) ?_
          refine PL.of (fun _ w8 _ hx => by have H := H.ext hx; exact O.load sc55 rfl rfl rfl (H.cell 0 rfl 0 _ rfl) (WL.nil ⟨rfl, hx⟩)) ?_
          refine PL.of (fun _ w8 _ hx => hrp2 rfl rfl rfl rfl (WL.nil ⟨rfl, hx⟩)) ?_
          refine PL.of (fun _ w8 _ hx => by have hc5 := cells_mono hc5 hx; exact O.loadA [(.string x2.Name), v2] ag24 rfl rfl rfl rfl (hc5) (WL.nil ⟨rfl, hx⟩)) ?_
          refine PL.of (fun _ w8 _ hx => by have hs1 := hs1.mono hx; have hs2 := hs2.mono hx; exact O.call Try.call73 rfl rfl rfl (c_rate_play _ (GBox.mk x1.Name x1.Errors) hs1 _ (GBox.mk x2.Name x2.Errors) hs2 hy3) (by rintro _ _ hb rfl; exact WL.nil ⟨rfl, hx.trans (hb.mono hx.size)⟩)) ?_
          refine PL.of (fun _ w8 _ hx => by have H := H.ext hx; exact O.load sc55 rfl rfl rfl (H.cell 0 rfl 0 _ rfl) (WL.nil ⟨rfl, hx⟩)) ?_
          refine PL.of (fun _ w8 _ hx => hrp3 rfl rfl rfl rfl (WL.nil ⟨rfl, hx⟩)) ?_
          refine PL.of (fun _ w8 _ hx => by have hc6 := cells_mono hc6 hx; exact O.loadA [(.string x3.Name), v3] ag24 rfl rfl rfl rfl (hc6) (WL.nil ⟨rfl, hx⟩)) ?_
          refine PL.of (fun _ w8 _ hx => by have H := H.ext hx; exact O.load sc55 rfl rfl rfl (H.cell 0 rfl 0 _ rfl) (WL.nil ⟨rfl, hx⟩)) ?_
          refine PL.of (fun _ w8 _ hx => hrp4 rfl rfl rfl rfl (WL.nil ⟨rfl, hx⟩)) ?_
          refine PL.of (fun _ w8 _ hx => by have hc7 := cells_mono hc7 hx; exact O.loadA [(.string x4.Name), v4] ag24 rfl rfl rfl rfl (hc7) (WL.nil ⟨rfl, hx⟩)) ?_
          refine PL.of (fun _ w8 _ hx => by have hs3 := hs3.mono hx; have hs4 := hs4.mono hx; exact O.call Try.call73 rfl rfl rfl (c_rate_play _ (GBox.mk x3.Name x3.Errors) hs3 _ (GBox.mk x4.Name x4.Errors) hs4 hy4) (by rintro _ _ hb rfl; exact WL.nil ⟨rfl, hx.trans (hb.mono hx.size)⟩)) ?_
          refine PL.of (fun _ w8 _ hx => by have H := H.ext hx; exact O.load sc55 rfl rfl rfl (H.cell 0 rfl 0 _ rfl) (WL.nil ⟨rfl, hx⟩)) ?_
          refine PL.of (fun _ w8 _ hx => hrp5 rfl rfl rfl rfl (WL.nil ⟨rfl, hx⟩)) ?_
          refine PL.of (fun _ w8 _ hx => by have hc8 := cells_mono hc8 hx; exact O.loadA [(.string x5.Name), v5] ag24 rfl rfl rfl rfl (hc8) (WL.nil ⟨rfl, hx⟩)) ?_
          refine PL.of (fun _ w8 _ hx => by have H := H.ext hx; exact O.load sc55 rfl rfl rfl (H.cell 0 rfl 0 _ rfl) (WL.nil ⟨rfl, hx⟩)) ?_
          refine PL.of (fun _ w8 _ hx => hrp6 rfl rfl rfl rfl (WL.nil ⟨rfl, hx⟩)) ?_
          refine PL.of (fun _ w8 _ hx => by have hc9 := cells_mono hc9 hx; exact O.loadA [(.string x6.Name), v6] ag24 rfl rfl rfl rfl (hc9) (WL.nil ⟨rfl, hx⟩)) ?_
          refine PL.nil ?_
          exact ⟨rfl, rfl, rfl, rfl⟩
        · skip
          rintro f w ⟨hf27, hf34, hf37, hf40⟩ hmd hx
          have H := H.ext hx
          have hp1 := hp1.mono hx
          have hs1 := hs1.mono hx
          have hc4 := cells_mono hc4 hx
          have hp2 := hp2.mono hx
          have hs2 := hs2.mono hx
          have hc5 := cells_mono hc5 hx
          have hp3 := hp3.mono hx
          have hs3 := hs3.mono hx
          have hc6 := cells_mono hc6 hx
          have hp4 := hp4.mono hx
          have hs4 := hs4.mono hx
          have hc7 := cells_mono hc7 hx
          have hp5 := hp5.mono hx
          have hs5 := hs5.mono hx
          have hc8 := cells_mono hc8 hx
          have hp6 := hp6.mono hx
          have hs6 := hs6.mono hx
          have hc9 := cells_mono hc9 hx
          obtain ⟨u2, rfl⟩ : ∃ u2, f = (upd (upd (upd (upd u2 27 (.int .i64 t3)) 34 (.int .i64 t4)) 37 (.agg #[(.string x5.Name), v5])) 40 (.agg #[(.string x6.Name), v6])) := ⟨f, by rw [upd_self hf27, upd_self hf34, upd_self hf37, upd_self hf40]⟩
          obtain ⟨t5, hy5, hm⟩ := bind_some hm
          refine O.call Try.call73 rfl rfl rfl (c_rate_play _ (GBox.mk x5.Name x5.Errors) hs5 _ (GBox.mk x6.Name x6.Errors) hs6 hy5) ?_
          rintro _ w4 hb4 rfl
          have hp1 := hp1.mono hb4
          have hs1 := hs1.mono hb4
          have hc4 := cells_mono hc4 hb4
          have hp2 := hp2.mono hb4
          have hs2 := hs2.mono hb4
          have hc5 := cells_mono hc5 hb4
          have hp3 := hp3.mono hb4
          have hs3 := hs3.mono hb4
          have hc6 := cells_mono hc6 hb4
          have hp4 := hp4.mono hb4
          have hs4 := hs4.mono hb4
          have hc7 := cells_mono hc7 hb4
          have hp5 := hp5.mono hb4
          have hs5 := hs5.mono hb4
          have hc8 := cells_mono hc8 hb4
          have hp6 := hp6.mono hb4
          have hs6 := hs6.mono hb4
          have hc9 := cells_mono hc9 hb4
          have H := H.ext hb4
          refine O.buildSlice (α := Int) [(.int .i64 t3), (.int .i64 t4), (.int .i64 t5)] [t3, t4, t5] Try.underlying22 el3 H rfl rfl rfl rfl rfl rfl rfl ?_
          intro v7 w5 H hb5
          have hp1 := hp1.mono hb5
          have hs1 := hs1.mono hb5
          have hc4 := cells_mono hc4 hb5
          have hp2 := hp2.mono hb5
          have hs2 := hs2.mono hb5
          have hc5 := cells_mono hc5 hb5
          have hp3 := hp3.mono hb5
          have hs3 := hs3.mono hb5
          have hc6 := cells_mono hc6 hb5
          have hp4 := hp4.mono hb5
          have hs4 := hs4.mono hb5
          have hc7 := cells_mono hc7 hb5
          have hp5 := hp5.mono hb5
          have hs5 := hs5.mono hb5
          have hc8 := cells_mono hc8 hb5
          have hp6 := hp6.mono hb5
          have hs6 := hs6.mono hb5
          have hc9 := cells_mono hc9 hb5
          refine O.assign (v := v7) rfl rfl rfl ?_
          refine WL.nil ?_
          refine W.seq ?_
          refine W.region ?_
          refine O.move (v := v7) rfl rfl rfl ?_
          refine O.call Try.call56 rfl rfl rfl (c_slices_Values_int _ _ (H.own 1 rfl)) ?_
          rintro _ w6 hb6 ⟨b3, rfl, hM1⟩
          have hp1 := hp1.mono hb6
          have hs1 := hs1.mono hb6
          have hc4 := cells_mono hc4 hb6
          have hp2 := hp2.mono hb6
          have hs2 := hs2.mono hb6
          have hc5 := cells_mono hc5 hb6
          have hp3 := hp3.mono hb6
          have hs3 := hs3.mono hb6
          have hc6 := cells_mono hc6 hb6
          have hp4 := hp4.mono hb6
          have hs4 := hs4.mono hb6
          have hc7 := cells_mono hc7 hb6
          have hp5 := hp5.mono hb6
          have hs5 := hs5.mono hb6
          have hc8 := cells_mono hc8 hb6
          have hp6 := hp6.mono hb6
          have hs6 := hs6.mono hb6
          have hc9 := cells_mono hc9 hb6
          have H := H.addAll hb6 hM1
          obtain ⟨xs1, hxs1, hm⟩ := bind_some hm
          obtain ⟨⟨t6, t7⟩, hy6, hm⟩ := bind_some hm
          refine O.call Try.call55 rfl rfl rfl (c_rate_ends_int (.func (.func 90) #[] #[(.pointer (some ⟨b3, 0, none⟩))]) xs1 (iterP_mk rfl Try.call90 fun _ _ hk => it_slices_Values_int_c1 _ _ ([t3, t4, t5] : List Int) hxs1 fun w hw => ⟨cells_mono (H.cell 2 rfl) (hk w hw), (H.own 1 rfl).mono (hk w hw)⟩) hy6) ?_
          rintro _ w7 hb7 rfl
          have hp1 := hp1.mono hb7
          have hs1 := hs1.mono hb7
          have hc4 := cells_mono hc4 hb7
          have hp2 := hp2.mono hb7
          have hs2 := hs2.mono hb7
          have hc5 := cells_mono hc5 hb7
          have hp3 := hp3.mono hb7
          have hs3 := hs3.mono hb7
          have hc6 := cells_mono hc6 hb7
          have hp4 := hp4.mono hb7
          have hs4 := hs4.mono hb7
          have hc7 := cells_mono hc7 hb7
          have hp5 := hp5.mono hb7
          have hs5 := hs5.mono hb7
          have hc8 := cells_mono hc8 hb7
          have hp6 := hp6.mono hb7
          have hs6 := hs6.mono hb7
          have hc9 := cells_mono hc9 hb7
          have H := H.ext hb7
          refine O.move (v := (.tuple #[(.int .i64 t6), (.int .i64 t7)])) rfl rfl rfl ?_
          refine O.extract (v := (.int .i64 t6)) rfl rfl rfl rfl ?_
          refine O.extract (v := (.int .i64 t7)) rfl rfl rfl rfl ?_
          refine O.assign (v := (.int .i64 t6)) rfl rfl rfl ?_
          refine O.assign (v := (.int .i64 t7)) rfl rfl rfl ?_
          refine WL.nil ?_
          refine W.seq ?_
          refine W.region ?_
          refine O.move (v := v7) rfl rfl rfl ?_
          refine O.move (v := (.int .i64 t6)) rfl rfl rfl ?_
          obtain ⟨t8, hy7, hm⟩ := bind_some hm
          refine O.call Try.call74 rfl rfl rfl (c_slices_Index_int _ _ (H.own 1 rfl) _ hy7) ?_
          rintro _ w8 hb8 rfl
          have hp1 := hp1.mono hb8
          have hs1 := hs1.mono hb8
          have hc4 := cells_mono hc4 hb8
          have hp2 := hp2.mono hb8
          have hs2 := hs2.mono hb8
          have hc5 := cells_mono hc5 hb8
          have hp3 := hp3.mono hb8
          have hs3 := hs3.mono hb8
          have hc6 := cells_mono hc6 hb8
          have hp4 := hp4.mono hb8
          have hs4 := hs4.mono hb8
          have hc7 := cells_mono hc7 hb8
          have hp5 := hp5.mono hb8
          have hs5 := hs5.mono hb8
          have hc8 := cells_mono hc8 hb8
          have hp6 := hp6.mono hb8
          have hs6 := hs6.mono hb8
          have hc9 := cells_mono hc9 hb8
          have H := H.ext hb8
          refine O.assign (v := (.int .i64 t8)) rfl rfl rfl ?_
          refine WL.nil ?_
          refine W.seq ?_
          refine W.seq ?_
          refine W.region ?_
          refine O.move (v := v7) rfl rfl rfl ?_
          refine O.move (v := (.int .i64 t8)) rfl rfl rfl ?_
          obtain ⟨t9, ht9, hm⟩ := bind_some hm
          refine O.add rfl rfl rfl rfl ht9 ?_
          obtain ⟨t10, ht10, hm⟩ := bind_some hm
          refine O.sliceL Try.underlying22 sz3 (H.own 1 rfl) ht10 rfl rfl rfl rfl ?_
          intro v8 hs7
          refine O.move (v := (.int .i64 t6)) rfl rfl rfl ?_
          obtain ⟨t11, hy8, hm⟩ := bind_some hm
          refine O.call Try.call75 rfl rfl rfl (c_slices_Contains_int _ _ hs7 _ hy8) ?_
          rintro _ w9 hb9 rfl
          have hp1 := hp1.mono hb9
          have hs1 := hs1.mono hb9
          have hc4 := cells_mono hc4 hb9
          have hp2 := hp2.mono hb9
          have hs2 := hs2.mono hb9
          have hc5 := cells_mono hc5 hb9
          have hp3 := hp3.mono hb9
          have hs3 := hs3.mono hb9
          have hc6 := cells_mono hc6 hb9
          have hp4 := hp4.mono hb9
          have hs4 := hs4.mono hb9
          have hc7 := cells_mono hc7 hb9
          have hp5 := hp5.mono hb9
          have hs5 := hs5.mono hb9
          have hc8 := cells_mono hc8 hb9
          have hp6 := hp6.mono hb9
          have hs6 := hs6.mono hb9
          have hc9 := cells_mono hc9 hb9
          have hs7 := hs7.mono hb9
          have H := H.ext hb9
          refine WL.nil ?_
          rcases ite_some hm with ⟨hc10, hm⟩ | ⟨hc10, hm⟩
          · refine W.cond_true (congrArg Value.bool hc10) ?_
            refine W.seq ?_
            refine W.region ?_
            refine O.assign (v := (.int .i64 0)) rfl rfl rfl ?_
            refine O.assign (v := (.int .i64 8)) rfl rfl rfl ?_
            refine WL.nil ?_
            refine W.ret ?_
            have hq : (0, 8) = (r0, r1) := Option.some.inj (show some (0, 8) = some (r0, r1) from hm)
            obtain ⟨he0, hq0⟩ := Prod.mk.inj hq; clear hq; subst he0
            subst hq0
            exact ends2 Try.results38 rfl rfl ⟨_, rfl, H.base, rfl⟩
          · refine W.cond_false (congrArg Value.bool hc10) ?_
            refine W.skip ?_
            refine W.seq ?_
            refine W.region ?_
            refine O.move (v := (.int .i64 t8)) rfl rfl rfl ?_
            refine O.assign (v := (.int .i64 t8)) rfl rfl rfl ?_
            refine O.assign (v := (.int .i64 0)) rfl rfl rfl ?_
            refine WL.nil ?_
            refine W.ret ?_
            have hq : (t8, 0) = (r0, r1) := Option.some.inj (show some (t8, 0) = some (r0, r1) from hm)
            obtain ⟨he0, hq0⟩ := Prod.mk.inj hq; clear hq; subst he0
            subst hq0
            exact ends2 Try.results38 rfl rfl ⟨_, rfl, H.base, rfl⟩

set_option maxRecDepth 20000 in
theorem c_noongunref06_several {w0 : World} (va0 : Value) (a0 : (List GBox)) (ha0 : SliceR w0 va0 a0) {r0 : Bool} (hm : noongunref06_several a0 = some r0) :
    Calls Try.prog 84 #[va0] w0 (Ret w0 fun _ v => v = (.bool r0)) := by
  unfold noongunref06_several at hm
  refine calls_of_W Try.func84 rfl Try.ntmps84 (Nat.le_of_ble_eq_true rfl) ?_
  have H := Inv.start (w := w0)
  refine W.seq ?_
  refine W.region ?_
  refine O.assign (v := (.bool false)) rfl rfl rfl ?_
  refine WL.nil ?_
  refine W.seq ?_
  refine W.seq ?_
  refine W.region ?_
  refine O.move (v := va0) rfl rfl rfl ?_
  refine O.lenS Try.underlying55 (H.arg ha0) rfl rfl rfl ?_
  refine O.move (v := (.int .i64 0)) rfl rfl rfl ?_
  refine WL.nil ?_
  obtain ⟨o1, hm1, hm⟩ := bind_some hm
  refine W.via (fun f w => o1 = .next () ∧ f 0 = va0 ∧ Inv w0 w []) ?_ ?_
  · skip
    refine W.block ?_
    have hbdik1 := (H.arg ha0).len_le
    refine W.rangeN (i := 0) hm1 (fun rem ik1 s f w => () = s ∧ (ik1 : Int) + rem = max 0 ((a0.length : Nat) : Int) ∧ f 9 = .int .i64 (ik1 : Int) ∧ f 8 = (.int .i64 ((a0.length : Nat) : Int)) ∧ f 0 = va0 ∧ f 7 = va0 ∧ Inv w0 w []) ?_ ?_ ?_
    · skip
      exact ⟨rfl, rangeN_start, rfl, rfl, rfl, rfl, H⟩
    · skip
      rintro k ik1 _ st f w ⟨rfl, hdropk1, hf9, hf8, hf0, hf7, H⟩ hm2
      have hltk1 := rangeN_lt hdropk1
      obtain ⟨u1, rfl⟩ : ∃ u1, f = (upd (upd (upd (upd u1 9 (.int .i64 (ik1 : Int))) 8 (.int .i64 ((a0.length : Nat) : Int))) 0 va0) 7 va0) := ⟨f, by rw [upd_self hf9, upd_self hf8, upd_self hf0, upd_self hf7]⟩
      have hinck1 := addI_lt hltk1 hbdik1
      refine W.seq ?_
      refine W.region ?_
      refine O.lss rfl rfl rfl rfl ?_
      refine WL.nil ?_
      refine W.seq ?_
      refine W.cond_true (congrArg Value.bool (decide_eq_true hltk1)) ?_
      refine W.skip ?_
      refine W.seq ?_
      obtain ⟨o2, hm3, hm2⟩ := bind_some hm2
      refine W.via (fun f w => o2 = .next () ∧ f 0 = va0 ∧ f 7 = va0 ∧ f 8 = (.int .i64 ((a0.length : Nat) : Int)) ∧ f 9 = (.int .i64 (ik1 : Int)) ∧ Inv w0 w []) ?_ ?_
      · skip
        refine W.block ?_
        refine W.seq ?_
        refine W.region ?_
        refine O.move (v := (.int .i64 (ik1 : Int))) rfl rfl rfl ?_
        obtain ⟨x1, hx1, hm3⟩ := bind_some hm3
        obtain ⟨p1, hp1, hrp1⟩ := fix_indexAddr Try.underlying55 sz24 ha0 hx1
        obtain ⟨v1, hs1, hc1⟩ := GBox_open hp1
        refine hrp1 rfl rfl rfl rfl ?_
        refine O.loadA [(.string x1.Name), v1] ag24 rfl rfl rfl rfl ((cells_mono hc1 H.base)) ?_
        refine O.alloc [(.string ByteArray.empty), (.slice none 0 0)] ze24 H rfl rfl rfl ?_
        intro b1 w1 H hb1
        have H := H.addNil (α := Int) (E := 3)
        refine O.assign (v := (.int .i64 (ik1 : Int))) rfl rfl rfl ?_
        refine O.store 0 0 [(.string x1.Name), v1] [(.string x1.Name), v1] sz24 H rfl rfl rfl rfl rfl rfl ⟨⟨rfl, rfl⟩, rfl⟩ (one_cons rfl (one_cons (SliceR.one (H.arg hs1)) one_nil)) ?_
        intro w2 H
        refine WL.nil ?_
        refine W.seq ?_
        refine W.seq ?_
        refine W.region ?_
        refine O.loadA [(.string x1.Name), v1] ag24 rfl rfl rfl rfl (H.cell 0 rfl) ?_
        obtain ⟨t1, hy1, hm3⟩ := bind_some hm3
        refine O.call Try.call37 rfl rfl rfl (c_noongunref06_ValidBox _ (GBox.mk x1.Name x1.Errors) (H.arg hs1) hy1) ?_
        rintro _ w3 hb2 rfl
        have H := H.ext hb2
        refine O.not rfl rfl rfl ?_
        refine WL.nil ?_
        rcases ite_some hm3 with ⟨hc2, hm3⟩ | ⟨hc2, hm3⟩
        · refine W.cond_true (congrArg Value.bool hc2) ?_
          refine W.seq ?_
          refine W.region ?_
          refine O.assign (v := (.bool false)) rfl rfl rfl ?_
          refine WL.nil ?_
          refine W.ret ?_
          obtain rfl := Option.some.inj hm3
          obtain rfl := Option.some.inj hm2
          refine ⟨_, rfl, ?_⟩
          rintro rfl
          have hq : false = r0 := Option.some.inj (show some false = some r0 from hm)
          subst hq
          exact ends1 Try.results84 rfl ⟨_, rfl, H.base, rfl⟩
        · refine W.cond_false (congrArg Value.bool hc2) ?_
          refine W.skip ?_
          refine W.seq ?_
          refine W.region ?_
          refine O.move (v := va0) rfl rfl rfl ?_
          refine O.move (v := (.int .i64 (ik1 : Int))) rfl rfl rfl ?_
          obtain ⟨t2, ht2, hm3⟩ := bind_some hm3
          obtain ⟨v2, hs2, hrv2⟩ := fix_sliceH Try.underlying55 sz24 ha0 ht2
          refine hrv2 rfl rfl rfl rfl ?_
          refine O.lenS Try.underlying55 (H.arg hs2) rfl rfl rfl ?_
          refine O.move (v := (.int .i64 0)) rfl rfl rfl ?_
          refine WL.nil ?_
          obtain ⟨o3, hm4, hm3⟩ := bind_some hm3
          refine W.via (fun f w => o3 = .next () ∧ f 0 = va0 ∧ f 7 = va0 ∧ f 8 = (.int .i64 ((a0.length : Nat) : Int)) ∧ f 9 = (.int .i64 (ik1 : Int)) ∧ Inv w0 w []) ?_ ?_
          · skip
            refine W.block ?_
            have H := H.keep [0] [boxI b1 24 [(.string x1.Name), v1]] rfl (by decide)
            refine W.rangeL (i := 0) hm4 (fun rem ik2 s f w => () = s ∧ t2.drop ik2 = rem ∧ f 21 = .int .i64 (ik2 : Int) ∧ f 20 = (.int .i64 ((t2.length : Nat) : Int)) ∧ f 0 = va0 ∧ f 4 = (.pointer (some ⟨b1, 0, none⟩)) ∧ f 7 = va0 ∧ f 8 = (.int .i64 ((a0.length : Nat) : Int)) ∧ f 9 = (.int .i64 (ik1 : Int)) ∧ f 19 = v2 ∧ Inv w0 w [boxI b1 24 [(.string x1.Name), v1]]) ?_ ?_ ?_
            · skip
              exact ⟨rfl, List.drop_zero, rfl, rfl, rfl, rfl, rfl, rfl, rfl, rfl, H⟩
            · skip
              rintro yk2 xs ik2 _ st f w ⟨rfl, hdropk2, hf21, hf20, hf0, hf4, hf7, hf8, hf9, hf19, H⟩ hm5
              have hltk2 := drop_lt hdropk2; have hixk2 := drop_idx hdropk2
              obtain ⟨u2, rfl⟩ : ∃ u2, f = (upd (upd (upd (upd (upd (upd (upd (upd u2 21 (.int .i64 (ik2 : Int))) 20 (.int .i64 ((t2.length : Nat) : Int))) 0 va0) 4 (.pointer (some ⟨b1, 0, none⟩))) 7 va0) 8 (.int .i64 ((a0.length : Nat) : Int))) 9 (.int .i64 (ik1 : Int))) 19 v2) := ⟨f, by rw [upd_self hf21, upd_self hf20, upd_self hf0, upd_self hf4, upd_self hf7, upd_self hf8, upd_self hf9, upd_self hf19]⟩
              have hinck2 := addI_lt hltk2 (H.arg hs2).len_le
              refine W.seq ?_
              refine W.region ?_
              refine O.lss rfl rfl rfl rfl ?_
              refine WL.nil ?_
              refine W.seq ?_
              refine W.cond_true (congrArg Value.bool (decide_eq_true hltk2)) ?_
              refine W.skip ?_
              refine W.seq ?_
              refine W.block ?_
              refine W.seq ?_
              refine W.region ?_
              obtain ⟨p2, hp2, hrp2⟩ := fix_indexAddr Try.underlying55 sz24 hs2 hixk2
              obtain ⟨v3, hs3, hc3⟩ := GBox_open hp2
              refine hrp2 rfl rfl rfl rfl ?_
              refine O.loadA [(.string yk2.Name), v3] ag24 rfl rfl rfl rfl ((cells_mono hc3 H.base)) ?_
              refine O.alloc [(.string ByteArray.empty), (.slice none 0 0)] ze24 H rfl rfl rfl ?_
              intro b2 w4 H hb3
              have H := H.addNil (α := Int) (E := 3)
              refine O.store 1 0 [(.string yk2.Name), v3] [(.string yk2.Name), v3] sz24 H rfl rfl rfl rfl rfl rfl ⟨⟨rfl, rfl⟩, rfl⟩ (one_cons rfl (one_cons (SliceR.one (H.arg hs3)) one_nil)) ?_
              intro w5 H
              refine WL.nil ?_
              refine W.seq ?_
              refine W.region ?_
              refine O.fieldAddr fd24_0 rfl rfl rfl ?_
              refine O.load sc9 rfl rfl rfl (H.cell 0 rfl 0 _ rfl) ?_
              refine O.fieldAddr fd24_0 rfl rfl rfl ?_
              refine O.load sc9 rfl rfl rfl (H.cell 1 rfl 0 _ rfl) ?_
              refine O.eqlS rfl rfl rfl rfl ?_
              refine WL.nil ?_
              rcases ite_some hm5 with ⟨hc4, hm5⟩ | ⟨hc4, hm5⟩
              · refine W.cond_true (congrArg Value.bool hc4) ?_
                refine W.seq ?_
                refine W.region ?_
                refine O.assign (v := (.bool false)) rfl rfl rfl ?_
                refine WL.nil ?_
                refine W.ret ?_
                obtain rfl := Option.some.inj hm5
                refine ⟨_, rfl, ?_⟩
                rintro rfl
                obtain rfl := Option.some.inj hm3
                obtain rfl := Option.some.inj hm2
                refine ⟨_, rfl, ?_⟩
                rintro rfl
                have hq : false = r0 := Option.some.inj (show some false = some r0 from hm)
                subst hq
                exact ends1 Try.results84 rfl ⟨_, rfl, H.base, rfl⟩
              · refine W.cond_false (congrArg Value.bool hc4) ?_
                refine W.skip ?_
                refine W.region ?_
                refine O.add rfl rfl rfl rfl hinck2 ?_
                refine O.move (v := .int .i64 ((ik2 : Int) + 1)) rfl rfl rfl ?_
                refine WL.nil ?_
                have H := H.keep [0] [boxI b1 24 [(.string x1.Name), v1]] rfl (by decide)
                obtain rfl := Option.some.inj hm5
                exact ⟨_, rfl, rfl, drop_next hdropk2, rfl, rfl, rfl, rfl, rfl, rfl, rfl, rfl, H⟩
            · skip
              rintro ik2 _ f w ⟨rfl, hdropk2, hf21, hf20, hf0, hf4, hf7, hf8, hf9, hf19, H⟩ hfin
              have hltk2 := drop_end hdropk2
              obtain ⟨u3, rfl⟩ : ∃ u3, f = (upd (upd (upd (upd (upd (upd (upd (upd u3 21 (.int .i64 (ik2 : Int))) 20 (.int .i64 ((t2.length : Nat) : Int))) 0 va0) 4 (.pointer (some ⟨b1, 0, none⟩))) 7 va0) 8 (.int .i64 ((a0.length : Nat) : Int))) 9 (.int .i64 (ik1 : Int))) 19 v2) := ⟨f, by rw [upd_self hf21, upd_self hf20, upd_self hf0, upd_self hf4, upd_self hf7, upd_self hf8, upd_self hf9, upd_self hf19]⟩
              refine W.seq ?_
              refine W.region ?_
              refine O.lss rfl rfl rfl rfl ?_
              refine WL.nil ?_
              refine W.seq ?_
              refine W.cond_false (congrArg Value.bool (decide_eq_false hltk2)) ?_
              refine W.exit ?_
              obtain rfl : Ctl.next () = o3 := hfin
              have H := H.keep [] [] rfl (by decide)
              refine xT rfl ?_
              exact ⟨rfl, rfl, rfl, rfl, rfl, H⟩
          · skip
            rintro f w ⟨rfl, hf0, hf7, hf8, hf9, H⟩
            obtain ⟨u4, rfl⟩ : ∃ u4, f = (upd (upd (upd (upd u4 0 va0) 7 va0) 8 (.int .i64 ((a0.length : Nat) : Int))) 9 (.int .i64 (ik1 : Int))) := ⟨f, by rw [upd_self hf0, upd_self hf7, upd_self hf8, upd_self hf9]⟩
            obtain rfl := Option.some.inj hm3
            exact ⟨rfl, rfl, rfl, rfl, rfl, H⟩
      · skip
        rintro f w ⟨rfl, hf0, hf7, hf8, hf9, H⟩
        obtain ⟨u5, rfl⟩ : ∃ u5, f = (upd (upd (upd (upd u5 0 va0) 7 va0) 8 (.int .i64 ((a0.length : Nat) : Int))) 9 (.int .i64 (ik1 : Int))) := ⟨f, by rw [upd_self hf0, upd_self hf7, upd_self hf8, upd_self hf9]⟩
        refine W.region ?_
        refine O.add rfl rfl rfl rfl hinck1 ?_
        refine O.move (v := .int .i64 ((ik1 : Int) + 1)) rfl rfl rfl ?_
        refine WL.nil ?_
        obtain rfl := Option.some.inj hm2
        exact ⟨_, rfl, rfl, rangeN_next hdropk1, rfl, rfl, rfl, rfl, H⟩
    · skip
      rintro ik1 _ f w ⟨rfl, hdropk1, hf9, hf8, hf0, hf7, H⟩ hfin
      have hltk1 := rangeN_end hdropk1
      obtain ⟨u6, rfl⟩ : ∃ u6, f = (upd (upd (upd (upd u6 9 (.int .i64 (ik1 : Int))) 8 (.int .i64 ((a0.length : Nat) : Int))) 0 va0) 7 va0) := ⟨f, by rw [upd_self hf9, upd_self hf8, upd_self hf0, upd_self hf7]⟩
      refine W.seq ?_
      refine W.region ?_
      refine O.lss rfl rfl rfl rfl ?_
      refine WL.nil ?_
      refine W.seq ?_
      refine W.cond_false (congrArg Value.bool (decide_eq_false hltk1)) ?_
      refine W.exit ?_
      obtain rfl : Ctl.next () = o1 := hfin
      refine xT rfl ?_
      exact ⟨rfl, rfl, H⟩
  · skip
    rintro f w ⟨rfl, hf0, H⟩
    obtain ⟨u7, rfl⟩ : ∃ u7, f = (upd u7 0 va0) := ⟨f, by rw [upd_self hf0]⟩
    refine W.seq ?_
    refine W.region ?_
    refine O.move (v := va0) rfl rfl rfl ?_
    refine O.lenS Try.underlying55 (H.arg ha0) rfl rfl rfl ?_
    refine O.leq rfl rfl rfl rfl ?_
    refine O.assign (v := (.bool (decide (((a0.length : Nat) : Int) ≤ 16)))) rfl rfl rfl ?_
    refine WL.nil ?_
    refine W.ret ?_
    have hq : (decide (((a0.length : Nat) : Int) ≤ 16)) = r0 := Option.some.inj (show some (decide (((a0.length : Nat) : Int) ≤ 16)) = some r0 from hm)
    subst hq
    exact ends1 Try.results84 rfl ⟨_, rfl, H.base, rfl⟩

theorem c_noongunref06_ValidBoxes {w0 : World} (va0 : Value) (a0 : (List GBox)) (ha0 : SliceR w0 va0 a0) {r0 : Bool} (hm : noongunref06_ValidBoxes a0 = some r0) :
    Calls Try.prog 47 #[va0] w0 (Ret w0 fun _ v => v = (.bool r0)) := by
  unfold noongunref06_ValidBoxes at hm
  refine calls_of_W Try.func47 rfl Try.ntmps47 (Nat.le_of_ble_eq_true rfl) ?_
  have H := Inv.start (w := w0)
  refine W.seq ?_
  refine W.region ?_
  refine O.assign (v := (.bool false)) rfl rfl rfl ?_
  refine WL.nil ?_
  refine W.seq ?_
  refine W.region ?_
  refine O.move (v := va0) rfl rfl rfl ?_
  refine O.lenS Try.underlying55 (H.arg ha0) rfl rfl rfl ?_
  refine O.geq rfl rfl rfl rfl ?_
  refine O.move (v := (.bool (decide (1 ≤ ((a0.length : Nat) : Int))))) rfl rfl rfl ?_
  obtain ⟨b1, hm1, hm⟩ := bind_some hm
  refine WL.cut 3 (fun f w => f 9 = .bool b1 ∧ Inv w0 w []) ?_ ?_
  · skip
    rcases ite_some hm1 with ⟨hc1, hm1⟩ | ⟨hc1, hm1⟩
    · skip
      refine WL.reset (i := 6) (v := .bool true) (congrArg Value.bool hc1) ?_
      refine O.move (v := va0) rfl rfl rfl ?_
      obtain ⟨t1, hy1, hm1⟩ := bind_some hm1
      refine O.call Try.call84 rfl rfl rfl (c_noongunref06_several _ _ (H.arg ha0) hy1) ?_
      rintro _ w1 hb1 rfl
      have H := H.ext hb1
      refine O.pick_true (v := (.bool t1)) rfl rfl rfl rfl ?_
      refine WL.nil ?_
      have hq : t1 = b1 := Option.some.inj (show some t1 = some b1 from hm1)
      subst hq
      exact ⟨rfl, H⟩
    · skip
      refine WL.reset (i := 6) (v := .bool false) (congrArg Value.bool hc1) ?_
      refine O.skip rfl rfl ?_
      refine O.skip rfl rfl ?_
      refine O.pick_false (v := (.bool false)) rfl rfl rfl rfl ?_
      refine WL.nil ?_
      have hq : false = b1 := Option.some.inj (show some false = some b1 from hm1)
      subst hq
      exact ⟨rfl, H⟩
  · skip
    rintro f w ⟨hf9, H⟩
    obtain ⟨u1, rfl⟩ : ∃ u1, f = (upd u1 9 (.bool b1)) := ⟨f, by rw [upd_self hf9]⟩
    refine O.assign (v := (.bool b1)) rfl rfl rfl ?_
    refine WL.nil ?_
    refine W.ret ?_
    have hq : b1 = r0 := Option.some.inj (show some b1 = some r0 from hm)
    subst hq
    exact ends1 Try.results47 rfl ⟨_, rfl, H.base, rfl⟩

set_option maxRecDepth 20000 in
theorem c_noongunref06_play {w0 : World} (va0_0 : Value) (a0 : GBox) (ha0_0 : SliceR w0 va0_0 a0.Errors) (va1_0 : Value) (a1 : GBox) (ha1_0 : SliceR w0 va1_0 a1.Errors) {r0 : Int} (hm : noongunref06_play a0 a1 = some r0) :
    Calls Try.prog 76 #[(.agg #[(.string a0.Name), va0_0]), (.agg #[(.string a1.Name), va1_0])] w0 (Ret w0 fun _ v => v = (.int .i64 r0)) := by
  unfold noongunref06_play at hm
  refine calls_of_W Try.func76 rfl Try.ntmps76 (Nat.le_of_ble_eq_true rfl) ?_
  have H := Inv.start (w := w0)
  refine W.seq ?_
  refine W.region ?_
  refine O.box [(.string a0.Name), va0_0] H rfl rfl rfl rfl ?_
  intro b1 w1 H hb1
  refine O.box [(.string a1.Name), va1_0] H rfl rfl rfl rfl ?_
  intro b2 w2 H hb2
  refine O.assign (v := (.int .i64 0)) rfl rfl rfl ?_
  refine WL.nil ?_
  refine W.seq ?_
  refine W.region ?_
  have H := H.addNil (α := Int) (E := 3)
  refine O.assign (v := (.slice none 0 0)) rfl rfl rfl ?_
  refine WL.nil ?_
  refine W.seq ?_
  refine W.seq ?_
  refine W.region ?_
  refine O.fieldAddr fd24_1 rfl rfl rfl ?_
  refine O.load sc22 rfl rfl rfl (H.cell 0 rfl 1 _ rfl) ?_
  refine O.lenS Try.underlying22 (H.arg ha0_0) rfl rfl rfl ?_
  refine O.move (v := (.int .i64 0)) rfl rfl rfl ?_
  refine WL.nil ?_
  obtain ⟨s1, hm1, hm⟩ := bind_some hm
  refine W.via (fun f w => ∃ v4 : Value, f 5 = v4 ∧ Inv w0 w [ownI (α := Int) v4 3 s1]) ?_ ?_
  · skip
    refine W.block ?_
    have hbdik1 := (H.arg ha0_0).len_le
    have H := H.keep [1, 2] [boxI b2 24 [(.string a1.Name), va1_0], ownI (α := Int) (.slice none 0 0) 3 ([] : List Int)] rfl (by decide)
    refine W.rangeN (i := 0) hm1 (fun rem ik1 s f w => ∃ z2 : (List Int), ∃ v2 : Value, z2 = s ∧ (ik1 : Int) + rem = max 0 ((a0.Errors.length : Nat) : Int) ∧ f 11 = .int .i64 (ik1 : Int) ∧ f 10 = (.int .i64 ((a0.Errors.length : Nat) : Int)) ∧ f 3 = (.pointer (some ⟨b2, 0, none⟩)) ∧ f 5 = v2 ∧ f 9 = va0_0 ∧ Inv w0 w [boxI b2 24 [(.string a1.Name), va1_0], ownI (α := Int) v2 3 z2]) ?_ ?_ ?_
    · skip
      exact ⟨_, (.slice none 0 0), rfl, rangeN_start, rfl, rfl, rfl, rfl, rfl, H⟩
    · skip
      rintro k ik1 _ st f w ⟨z2, v2, rfl, hdropk1, hf11, hf10, hf3, hf5, hf9, H⟩ hm2
      have hltk1 := rangeN_lt hdropk1
      obtain ⟨u1, rfl⟩ : ∃ u1, f = (upd (upd (upd (upd (upd u1 11 (.int .i64 (ik1 : Int))) 10 (.int .i64 ((a0.Errors.length : Nat) : Int))) 3 (.pointer (some ⟨b2, 0, none⟩))) 5 v2) 9 va0_0) := ⟨f, by rw [upd_self hf11, upd_self hf10, upd_self hf3, upd_self hf5, upd_self hf9]⟩
      have hinck1 := addI_lt hltk1 hbdik1
      refine W.seq ?_
      refine W.region ?_
      refine O.lss rfl rfl rfl rfl ?_
      refine WL.nil ?_
      refine W.seq ?_
      refine W.cond_true (congrArg Value.bool (decide_eq_true hltk1)) ?_
      refine W.skip ?_
      refine W.seq ?_
      refine W.block ?_
      refine W.seq ?_
      refine W.region ?_
      refine O.move (v := (.int .i64 (ik1 : Int))) rfl rfl rfl ?_
      obtain ⟨x1, hx1, hm2⟩ := bind_some hm2
      obtain ⟨p1, hp1, hrp1⟩ := fix_indexAddr Try.underlying22 sz3 ha0_0 hx1
      refine hrp1 rfl rfl rfl rfl ?_
      refine O.load sc3 rfl rfl rfl ((hp1.mono H.base).flat 0 _ rfl) ?_
      refine O.assign (v := (.int .i64 (ik1 : Int))) rfl rfl rfl ?_
      refine O.assign (v := (.int .i64 x1)) rfl rfl rfl ?_
      refine WL.nil ?_
      refine W.region ?_
      refine O.move (v := v2) rfl rfl rfl ?_
      refine O.move (v := (.int .i64 x1)) rfl rfl rfl ?_
      refine O.fieldAddr fd24_1 rfl rfl rfl ?_
      refine O.load sc22 rfl rfl rfl (H.cell 0 rfl 1 _ rfl) ?_
      refine O.move (v := (.int .i64 (ik1 : Int))) rfl rfl rfl ?_
      obtain ⟨x2, hx2, hm2⟩ := bind_some hm2
      obtain ⟨p2, hp2, hrp2⟩ := fix_indexAddr Try.underlying22 sz3 ha1_0 hx2
      refine hrp2 rfl rfl rfl rfl ?_
      refine O.load sc3 rfl rfl rfl ((hp2.mono H.base).flat 0 _ rfl) ?_
      obtain ⟨t1, ht1, hm2⟩ := bind_some hm2
      refine O.sub rfl rfl rfl rfl ht1 ?_
      refine O.buildSlice (α := Int) [(.int .i64 t1)] [t1] Try.underlying22 el3 H rfl rfl rfl rfl rfl rfl rfl ?_
      intro v5 w3 H hb3
      obtain ⟨t2, ht2, hm2⟩ := bind_some hm2
      refine O.append 1 Try.underlying22 el3 rfl H rfl (H.own 2 rfl) ht2 rfl rfl rfl rfl ?_
      intro v6 w4 H
      refine O.assign (v := v6) rfl rfl rfl ?_
      refine WL.nil ?_
      refine W.region ?_
      refine O.add rfl rfl rfl rfl hinck1 ?_
      refine O.move (v := .int .i64 ((ik1 : Int) + 1)) rfl rfl rfl ?_
      refine WL.nil ?_
      have H := H.keep [0, 1] [boxI b2 24 [(.string a1.Name), va1_0], ownI (α := Int) v6 3 t2] rfl (by decide)
      obtain rfl := Option.some.inj hm2
      exact ⟨_, rfl, _, v6, rfl, rangeN_next hdropk1, rfl, rfl, rfl, rfl, rfl, H⟩
    · skip
      rintro ik1 _ f w ⟨z2, v2, rfl, hdropk1, hf11, hf10, hf3, hf5, hf9, H⟩ hfin
      have hltk1 := rangeN_end hdropk1
      obtain ⟨u2, rfl⟩ : ∃ u2, f = (upd (upd (upd (upd (upd u2 11 (.int .i64 (ik1 : Int))) 10 (.int .i64 ((a0.Errors.length : Nat) : Int))) 3 (.pointer (some ⟨b2, 0, none⟩))) 5 v2) 9 va0_0) := ⟨f, by rw [upd_self hf11, upd_self hf10, upd_self hf3, upd_self hf5, upd_self hf9]⟩
      refine W.seq ?_
      refine W.region ?_
      refine O.lss rfl rfl rfl rfl ?_
      refine WL.nil ?_
      refine W.seq ?_
      refine W.cond_false (congrArg Value.bool (decide_eq_false hltk1)) ?_
      refine W.exit ?_
      have hq : z2 = s1 := hfin
      subst hq
      have H := H.keep [1] [ownI (α := Int) v2 3 z2] rfl (by decide)
      refine xT rfl ?_
      exact ⟨v2, rfl, H⟩
  · skip
    rintro f w ⟨v4, hf5, H⟩
    obtain ⟨u3, rfl⟩ : ∃ u3, f = (upd u3 5 v4) := ⟨f, by rw [upd_self hf5]⟩
    refine W.seq ?_
    refine W.region ?_
    refine O.move (v := v4) rfl rfl rfl ?_
    obtain ⟨t3, hy1, hm⟩ := bind_some hm
    refine O.call Try.call22 rfl rfl rfl (c_noongunref06_Greatest _ _ (H.own 0 rfl) hy1) ?_
    rintro _ w5 hb4 rfl
    have H := H.ext hb4
    refine O.move (v := v4) rfl rfl rfl ?_
    obtain ⟨t4, hy2, hm⟩ := bind_some hm
    refine O.call Try.call21 rfl rfl rfl (c_noongunref06_Least _ _ (H.own 0 rfl) hy2) ?_
    rintro _ w6 hb5 rfl
    have H := H.ext hb5
    obtain ⟨t5, ht5, hm⟩ := bind_some hm
    refine O.sub rfl rfl rfl rfl ht5 ?_
    refine O.assign (v := (.int .i64 t5)) rfl rfl rfl ?_
    refine WL.nil ?_
    refine W.ret ?_
    have hq : t5 = r0 := Option.some.inj (show some t5 = some r0 from hm)
    subst hq
    exact ends1 Try.results76 rfl ⟨_, rfl, H.base, rfl⟩

set_option maxRecDepth 20000 in
theorem c_noongunref06_Odd {w0 : World} (va0 : Value) (a0 : (List GBox)) (ha0 : SliceR w0 va0 a0) {r0 : Int} {r1 : Int} (hm : noongunref06_Odd a0 = some (r0, r1)) :
    Calls Try.prog 39 #[va0] w0 (Ret w0 fun _ v => v = .tuple #[(.int .i64 r0), (.int .i64 r1)]) := by
  unfold noongunref06_Odd at hm
  refine calls_of_W Try.func39 rfl Try.ntmps39 (Nat.le_of_ble_eq_true rfl) ?_
  have H := Inv.start (w := w0)
  refine W.seq ?_
  refine W.region ?_
  refine O.assign (v := (.int .i64 0)) rfl rfl rfl ?_
  refine O.assign (v := (.int .i64 0)) rfl rfl rfl ?_
  refine WL.nil ?_
  refine W.seq ?_
  refine W.seq ?_
  refine W.region ?_
  refine O.move (v := va0) rfl rfl rfl ?_
  obtain ⟨t1, hy1, hm⟩ := bind_some hm
  refine O.call Try.call47 rfl rfl rfl (c_noongunref06_ValidBoxes _ _ (H.arg ha0) hy1) ?_
  rintro _ w1 hb1 rfl
  have H := H.ext hb1
  refine O.not rfl rfl rfl ?_
  refine WL.nil ?_
  rcases ite_some hm with ⟨hc1, hm⟩ | ⟨hc1, hm⟩
  · refine W.cond_true (congrArg Value.bool hc1) ?_
    refine W.seq ?_
    refine W.region ?_
    refine O.assign (v := (.int .i64 0)) rfl rfl rfl ?_
    refine O.assign (v := (.int .i64 1)) rfl rfl rfl ?_
    refine WL.nil ?_
    refine W.ret ?_
    have hq : (0, 1) = (r0, r1) := Option.some.inj (show some (0, 1) = some (r0, r1) from hm)
    obtain ⟨he0, hq0⟩ := Prod.mk.inj hq; clear hq; subst he0
    subst hq0
    exact ends2 Try.results39 rfl rfl ⟨_, rfl, H.base, rfl⟩
  · refine W.cond_false (congrArg Value.bool hc1) ?_
    refine W.skip ?_
    refine W.seq ?_
    refine W.seq ?_
    obtain ⟨b1, hm1, hm⟩ := bind_some hm
    obtain ⟨b2, hm2, hm⟩ := bind_some hm
    refine W.drawN 29 (fun f => f 0 = va0 ∧ f 38 = (.bool b2)) fol (by kernel_rfl) ?_ ?_
    · skip
      refine PL.of (fun _ w8 _ hx => O.move (v := va0) rfl rfl rfl (WL.nil ⟨rfl, hx⟩)) ?_
      refine PL.of (fun _ w8 _ hx => by have H := H.ext hx; exact O.lenS Try.underlying55 (H.arg ha0) rfl rfl rfl (WL.nil ⟨rfl, hx⟩)) ?_
      refine PL.of (fun _ w8 _ hx => O.neq rfl rfl rfl rfl (WL.nil ⟨rfl, hx⟩)) ?_
      refine PL.of (fun _ w8 _ hx => O.move (v := (.bool (((a0.length : Nat) : Int) != 3))) rfl rfl rfl (WL.nil ⟨rfl, hx⟩)) ?_
      refine PL.cut 12 (fun f => f 0 = va0 ∧ f 25 = .bool b1) ?_ ?_
      · skip
        rcases ite_some hm1 with ⟨hc2, hm1⟩ | ⟨hc2, hm1⟩
        · skip
          refine PL.reset (i := 13) (v := .bool true) (congrArg Value.bool hc2) ?_
          refine PL.of (fun _ w8 _ hx => O.skip rfl rfl (WL.nil ⟨rfl, hx⟩)) ?_
          refine PL.of (fun _ w8 _ hx => O.skip rfl rfl (WL.nil ⟨rfl, hx⟩)) ?_
          refine PL.of (fun _ w8 _ hx => O.skip rfl rfl (WL.nil ⟨rfl, hx⟩)) ?_
          refine PL.of (fun _ w8 _ hx => O.skip rfl rfl (WL.nil ⟨rfl, hx⟩)) ?_
          refine PL.of (fun _ w8 _ hx => O.skip rfl rfl (WL.nil ⟨rfl, hx⟩)) ?_
          refine PL.of (fun _ w8 _ hx => O.skip rfl rfl (WL.nil ⟨rfl, hx⟩)) ?_
          refine PL.of (fun _ w8 _ hx => O.skip rfl rfl (WL.nil ⟨rfl, hx⟩)) ?_
          refine PL.of (fun _ w8 _ hx => O.skip rfl rfl (WL.nil ⟨rfl, hx⟩)) ?_
          refine PL.of (fun _ w8 _ hx => O.skip rfl rfl (WL.nil ⟨rfl, hx⟩)) ?_
          refine PL.of (fun _ w8 _ hx => O.skip rfl rfl (WL.nil ⟨rfl, hx⟩)) ?_
          refine PL.of (fun _ w8 _ hx => O.skip rfl rfl (WL.nil ⟨rfl, hx⟩)) ?_
          refine PL.of (fun _ w8 _ hx => O.pick_true (v := (.bool true)) rfl rfl rfl rfl (WL.nil ⟨rfl, hx⟩)) ?_
          refine PL.nil ?_
          have hq : true = b1 := Option.some.inj (show some true = some b1 from hm1)
          subst hq
          exact ⟨rfl, rfl⟩
        · skip
          refine PL.reset (i := 13) (v := .bool false) (congrArg Value.bool hc2) ?_
          refine PL.of (fun _ w8 _ hx => O.move (v := va0) rfl rfl rfl (WL.nil ⟨rfl, hx⟩)) ?_
          obtain ⟨x1, hx1, hm1⟩ := bind_some hm1
          obtain ⟨p1, hp1, hrp1⟩ := fix_indexAddr Try.underlying55 sz24 (H.arg ha0) hx1
          obtain ⟨v1, hs1, hc3⟩ := GBox_open hp1
          refine PL.of (fun _ w8 _ hx => hrp1 rfl rfl rfl rfl (WL.nil ⟨rfl, hx⟩)) ?_
          refine PL.of (fun _ w8 _ hx => O.fieldAddr fd24_1 rfl rfl rfl (WL.nil ⟨rfl, hx⟩)) ?_
          refine PL.of (fun _ w8 _ hx => by have hc3 := cells_mono hc3 hx; exact O.load sc22 rfl rfl rfl (hc3 1 _ rfl) (WL.nil ⟨rfl, hx⟩)) ?_
          refine PL.of (fun _ w8 _ hx => by have hs1 := hs1.mono hx; exact O.lenS Try.underlying22 hs1 rfl rfl rfl (WL.nil ⟨rfl, hx⟩)) ?_
          refine PL.of (fun _ w8 _ hx => O.move (v := va0) rfl rfl rfl (WL.nil ⟨rfl, hx⟩)) ?_
          obtain ⟨x2, hx2, hm1⟩ := bind_some hm1
          obtain ⟨p2, hp2, hrp2⟩ := fix_indexAddr Try.underlying55 sz24 (H.arg ha0) hx2
          obtain ⟨v2, hs2, hc4⟩ := GBox_open hp2
          refine PL.of (fun _ w8 _ hx => hrp2 rfl rfl rfl rfl (WL.nil ⟨rfl, hx⟩)) ?_
          refine PL.of (fun _ w8 _ hx => O.fieldAddr fd24_1 rfl rfl rfl (WL.nil ⟨rfl, hx⟩)) ?_
          refine PL.of (fun _ w8 _ hx => by have hc4 := cells_mono hc4 hx; exact O.load sc22 rfl rfl rfl (hc4 1 _ rfl) (WL.nil ⟨rfl, hx⟩)) ?_
          refine PL.of (fun _ w8 _ hx => by have hs2 := hs2.mono hx; exact O.lenS Try.underlying22 hs2 rfl rfl rfl (WL.nil ⟨rfl, hx⟩)) ?_
          refine PL.of (fun _ w8 _ hx => O.neq rfl rfl rfl rfl (WL.nil ⟨rfl, hx⟩)) ?_
          refine PL.of (fun _ w8 _ hx => O.pick_false (v := (.bool (((x1.Errors.length : Nat) : Int) != ((x2.Errors.length : Nat) : Int)))) rfl rfl rfl rfl (WL.nil ⟨rfl, hx⟩)) ?_
          refine PL.nil ?_
          have hq : (((x1.Errors.length : Nat) : Int) != ((x2.Errors.length : Nat) : Int)) = b1 := Option.some.inj (show some (((x1.Errors.length : Nat) : Int) != ((x2.Errors.length : Nat) : Int)) = some b1 from hm1)
          subst hq
          exact ⟨rfl, rfl⟩
      · skip
        rintro f ⟨hf0, hf25⟩
        obtain ⟨u1, rfl⟩ : ∃ u1, f = (upd (upd u1 0 va0) 25 (.bool b1)) := ⟨f, by rw [upd_self hf0, upd_self hf25]⟩
        refine PL.of (fun _ w8 _ hx => O.move (v := (.bool b1)) rfl rfl rfl (WL.nil ⟨rfl, hx⟩)) ?_
        refine PL.cut 12 (fun f => f 0 = va0 ∧ f 38 = .bool b2) ?_ ?_
        · skip
          rcases ite_some hm2 with ⟨hc5, hm2⟩ | ⟨hc5, hm2⟩
          · skip
            refine PL.reset (i := 26) (v := .bool true) (congrArg Value.bool hc5) ?_
            refine PL.of (fun _ w8 _ hx => O.skip rfl rfl (WL.nil ⟨rfl, hx⟩)) ?_
            refine PL.of (fun _ w8 _ hx => O.skip rfl rfl (WL.nil ⟨rfl, hx⟩)) ?_
            refine PL.of (fun _ w8 _ hx => O.skip rfl rfl (WL.nil ⟨rfl, hx⟩)) ?_
            refine PL.of (fun _ w8 _ hx => O.skip rfl rfl (WL.nil ⟨rfl, hx⟩)) ?_
            refine PL.of (fun _ w8 _ hx => O.skip rfl rfl (WL.nil ⟨rfl, hx⟩)) ?_
            refine PL.of (fun _ w8 _ hx => O.skip rfl rfl (WL.nil ⟨rfl, hx⟩)) ?_
            refine PL.of (fun _ w8 _ hx => O.skip rfl rfl (WL.nil ⟨rfl, hx⟩)) ?_
            refine PL.of (fun _ w8 _ hx => O.skip rfl rfl (WL.nil ⟨rfl, hx⟩)) ?_
            refine PL.of (fun _ w8 _ hx => O.skip rfl rfl (WL.nil ⟨rfl, hx⟩)) ?_
            refine PL.of (fun _ w8 _ hx => O.skip rfl rfl (WL.nil ⟨rfl, hx⟩)) ?_
            refine PL.of (fun _ w8 _ hx => O.skip rfl rfl (WL.nil ⟨rfl, hx⟩)) ?_
            refine PL.of (fun _ w8 _ hx => O.pick_true (v := (.bool true)) rfl rfl rfl rfl (WL.nil ⟨rfl, hx⟩)) ?_
            refine PL.nil ?_
            have hq : true = b2 := Option.some.inj (show some true = some b2 from hm2)
            subst hq
            exact ⟨rfl, rfl⟩
          · skip
            refine PL.reset (i := 26) (v := .bool false) (congrArg Value.bool hc5) ?_
            refine PL.of (fun _ w8 _ hx => O.move (v := va0) rfl rfl rfl (WL.nil ⟨rfl, hx⟩)) ?_
            obtain ⟨x3, hx3, hm2⟩ := bind_some hm2
            obtain ⟨p3, hp3, hrp3⟩ := fix_indexAddr Try.underlying55 sz24 (H.arg ha0) hx3
            obtain ⟨v3, hs3, hc6⟩ := GBox_open hp3
            refine PL.of (fun _ w8 _ hx => hrp3 rfl rfl rfl rfl (WL.nil ⟨rfl, hx⟩)) ?_
            refine PL.of (fun _ w8 _ hx => O.fieldAddr fd24_1 rfl rfl rfl (WL.nil ⟨rfl, hx⟩)) ?_
            refine PL.of (fun _ w8 _ hx => by have hc6 := cells_mono hc6 hx; exact O.load sc22 rfl rfl rfl (hc6 1 _ rfl) (WL.nil ⟨rfl, hx⟩)) ?_
            refine PL.of (fun _ w8 _ hx => by have hs3 := hs3.mono hx; exact O.lenS Try.underlying22 hs3 rfl rfl rfl (WL.nil ⟨rfl, hx⟩)) ?_
            refine PL.of (fun _ w8 _ hx => O.move (v := va0) rfl rfl rfl (WL.nil ⟨rfl, hx⟩)) ?_
            obtain ⟨x4, hx4, hm2⟩ := bind_some hm2
            obtain ⟨p4, hp4, hrp4⟩ := fix_indexAddr Try.underlying55 sz24 (H.arg ha0) hx4
            obtain ⟨v4, hs4, hc7⟩ := GBox_open hp4
            refine PL.of (fun _ w8 _ hx => hrp4 rfl rfl rfl rfl (WL.nil ⟨rfl, hx⟩)) ?_
            refine PL.of (fun _ w8 _ hx => O.fieldAddr fd24_1 rfl rfl rfl (WL.nil ⟨rfl, hx⟩)) ?_
            refine PL.of (fun _ w8 _ hx => by have hc7 := cells_mono hc7 hx; exact O.load sc22 rfl rfl rfl (hc7 1 _ rfl) (WL.nil ⟨rfl, hx⟩)) ?_
            refine PL.of (fun _ w8 _ hx => by have hs4 := hs4.mono hx; exact O.lenS Try.underlying22 hs4 rfl rfl rfl (WL.nil ⟨rfl, hx⟩)) ?_
            refine PL.of (fun _ w8 _ hx => O.neq rfl rfl rfl rfl (WL.nil ⟨rfl, hx⟩)) ?_
            refine PL.of (fun _ w8 _ hx => O.pick_false (v := (.bool (((x3.Errors.length : Nat) : Int) != ((x4.Errors.length : Nat) : Int)))) rfl rfl rfl rfl (WL.nil ⟨rfl, hx⟩)) ?_
            refine PL.nil ?_
            have hq : (((x3.Errors.length : Nat) : Int) != ((x4.Errors.length : Nat) : Int)) = b2 := Option.some.inj (show some (((x3.Errors.length : Nat) : Int) != ((x4.Errors.length : Nat) : Int)) = some b2 from hm2)
            subst hq
            exact ⟨rfl, rfl⟩
        · skip
          rintro f ⟨hf0, hf38⟩
          obtain ⟨u2, rfl⟩ : ∃ u2, f = (upd (upd u2 0 va0) 38 (.bool b2)) := ⟨f, by rw [upd_self hf0, upd_self hf38]⟩
          refine PL.nil ?_
          exact ⟨rfl, rfl⟩
    · skip
      rintro f w ⟨hf0, hf38⟩ hmd hx
      have H := H.ext hx
      obtain ⟨u3, rfl⟩ : ∃ u3, f = (upd (upd u3 0 va0) 38 (.bool b2)) := ⟨f, by rw [upd_self hf0, upd_self hf38]⟩
      refine WL.nil ?_
      rcases ite_some hm with ⟨hc8, hm⟩ | ⟨hc8, hm⟩
      · refine W.cond_true (congrArg Value.bool hc8) ?_
        refine W.seq ?_
        refine W.region ?_
        refine O.assign (v := (.int .i64 0)) rfl rfl rfl ?_
        refine O.assign (v := (.int .i64 7)) rfl rfl rfl ?_
        refine WL.nil ?_
        refine W.ret ?_
        have hq : (0, 7) = (r0, r1) := Option.some.inj (show some (0, 7) = some (r0, r1) from hm)
        obtain ⟨he0, hq0⟩ := Prod.mk.inj hq; clear hq; subst he0
        subst hq0
        exact ends2 Try.results39 rfl rfl ⟨_, rfl, H.base, rfl⟩
      · refine W.cond_false (congrArg Value.bool hc8) ?_
        refine W.skip ?_
        refine W.seq ?_
        obtain ⟨x5, hx5, hm⟩ := bind_some hm
        obtain ⟨p5, hp5, hrp5⟩ := fix_indexAddr Try.underlying55 sz24 (H.arg ha0) hx5
        obtain ⟨v5, hs5, hc9⟩ := GBox_open hp5
        obtain ⟨x6, hx6, hm⟩ := bind_some hm
        obtain ⟨p6, hp6, hrp6⟩ := fix_indexAddr Try.underlying55 sz24 (H.arg ha0) hx6
        obtain ⟨v6, hs6, hc10⟩ := GBox_open hp6
        obtain ⟨t2, hy2, hm⟩ := bind_some hm
        obtain ⟨x7, hx7, hm⟩ := bind_some hm
        obtain ⟨p7, hp7, hrp7⟩ := fix_indexAddr Try.underlying55 sz24 (H.arg ha0) hx7
        obtain ⟨v7, hs7, hc11⟩ := GBox_open hp7
        obtain ⟨x8, hx8, hm⟩ := bind_some hm
        obtain ⟨p8, hp8, hrp8⟩ := fix_indexAddr Try.underlying55 sz24 (H.arg ha0) hx8
        obtain ⟨v8, hs8, hc12⟩ := GBox_open hp8
        obtain ⟨t3, hy3, hm⟩ := bind_some hm
        obtain ⟨x9, hx9, hm⟩ := bind_some hm
        obtain ⟨p9, hp9, hrp9⟩ := fix_indexAddr Try.underlying55 sz24 (H.arg ha0) hx9
        obtain ⟨v9, hs9, hc13⟩ := GBox_open hp9
        obtain ⟨x10, hx10, hm⟩ := bind_some hm
        obtain ⟨p10, hp10, hrp10⟩ := fix_indexAddr Try.underlying55 sz24 (H.arg ha0) hx10
        obtain ⟨v10, hs10, hc14⟩ := GBox_open hp10
        refine W.drawN 20 (fun f => f 45 = (.int .i64 t2) ∧ f 52 = (.int .i64 t3) ∧ f 55 = (.agg #[(.string x9.Name), v9]) ∧ f 58 = (.agg #[(.string x10.Name), v10])) fol (by kernel_rfl) ?_ ?_
        · skip
          refine PL.of (fun _ w8 _ hx => O.move (v := va0) rfl rfl rfl (WL.nil ⟨rfl, hx⟩)) ?_
          refine PL.of (fun _ w8 _ hx => hrp5 rfl rfl rfl rfl (WL.nil ⟨rfl, hx⟩)) ?_
          refine PL.of (fun _ w8 _ hx => by have hc9 := cells_mono hc9 hx; exact O.loadA [(.string x5.Name), v5] ag24 rfl rfl rfl rfl (hc9) (WL.nil ⟨rfl, hx⟩)) ?_
          refine PL.of (fun _ w8 _ hx => O.move (v := va0) rfl rfl rfl (WL.nil ⟨rfl, hx⟩)) ?_
          refine PL.of (fun _ w8 _ hx => hrp6 rfl rfl rfl rfl (WL.nil ⟨rfl, hx⟩)) ?_
          refine PL.of (fun _ w8 _ hx => by have hc10 := cells_mono hc10 hx; exact O.loadA [(.string x6.Name), v6] ag24 rfl rfl rfl rfl (hc10) (WL.nil ⟨rfl, hx⟩)) ?_
          refine PL.of (fun _ w8 _ hx => by have hs5 := hs5.mono hx; have hs6 := hs6.mono hx; exact O.call Try.call76 rfl rfl rfl (c_noongunref06_play _ (GBox.mk x5.Name x5.Errors) hs5 _ (GBox.mk x6.Name x6.Errors) hs6 hy2) (by rintro _ _ hb rfl; exact WL.nil ⟨rfl, hx.trans (hb.mono hx.size)⟩)) ?_
          refine PL.of (fun _ w8 _ hx => O.move (v := va0) rfl rfl rfl (WL.nil ⟨rfl, hx⟩)) ?_
          refine PL.of (fun _ w8 _ hx => hrp7 rfl rfl rfl rfl (WL.nil ⟨rfl, hx⟩)) ?_
          refine PL.of (fun _ w8 _ hx => by have hc11 := cells_mono hc11 hx; exact O.loadA [(.string x7.Name), v7] ag24 rfl rfl rfl rfl (hc11) (WL.nil ⟨rfl, hx⟩)) ?_
          refine PL.of (fun _ w8 _ hx => O.move (v := va0) rfl rfl rfl (WL.nil ⟨rfl, hx⟩)) ?_
          refine PL.of (fun _ w8 _ hx => hrp8 rfl rfl rfl rfl (WL.nil ⟨rfl, hx⟩)) ?_
          refine PL.of (fun _ w8 _ hx => by have hc12 := cells_mono hc12 hx; exact O.loadA [(.string x8.Name), v8] ag24 rfl rfl rfl rfl (hc12) (WL.nil ⟨rfl, hx⟩)) ?_
          refine PL.of (fun _ w8 _ hx => by have hs7 := hs7.mono hx; have hs8 := hs8.mono hx; exact O.call Try.call76 rfl rfl rfl (c_noongunref06_play _ (GBox.mk x7.Name x7.Errors) hs7 _ (GBox.mk x8.Name x8.Errors) hs8 hy3) (by rintro _ _ hb rfl; exact WL.nil ⟨rfl, hx.trans (hb.mono hx.size)⟩)) ?_
          refine PL.of (fun _ w8 _ hx => O.move (v := va0) rfl rfl rfl (WL.nil ⟨rfl, hx⟩)) ?_
          refine PL.of (fun _ w8 _ hx => hrp9 rfl rfl rfl rfl (WL.nil ⟨rfl, hx⟩)) ?_
          refine PL.of (fun _ w8 _ hx => by have hc13 := cells_mono hc13 hx; exact O.loadA [(.string x9.Name), v9] ag24 rfl rfl rfl rfl (hc13) (WL.nil ⟨rfl, hx⟩)) ?_
          refine PL.of (fun _ w8 _ hx => O.move (v := va0) rfl rfl rfl (WL.nil ⟨rfl, hx⟩)) ?_
          refine PL.of (fun _ w8 _ hx => hrp10 rfl rfl rfl rfl (WL.nil ⟨rfl, hx⟩)) ?_
          refine PL.of (fun _ w8 _ hx => by have hc14 := cells_mono hc14 hx; exact O.loadA [(.string x10.Name), v10] ag24 rfl rfl rfl rfl (hc14) (WL.nil ⟨rfl, hx⟩)) ?_
          refine PL.nil ?_
          exact ⟨rfl, rfl, rfl, rfl⟩
        · skip
          rintro f w ⟨hf45, hf52, hf55, hf58⟩ hmd hx
          have H := H.ext hx
          have hp5 := hp5.mono hx
          have hs5 := hs5.mono hx
          have hc9 := cells_mono hc9 hx
          have hp6 := hp6.mono hx
          have hs6 := hs6.mono hx
          have hc10 := cells_mono hc10 hx
          have hp7 := hp7.mono hx
          have hs7 := hs7.mono hx
          have hc11 := cells_mono hc11 hx
          have hp8 := hp8.mono hx
          have hs8 := hs8.mono hx
          have hc12 := cells_mono hc12 hx
          have hp9 := hp9.mono hx
          have hs9 := hs9.mono hx
          have hc13 := cells_mono hc13 hx
          have hp10 := hp10.mono hx
          have hs10 := hs10.mono hx
          have hc14 := cells_mono hc14 hx
          obtain ⟨u4, rfl⟩ : ∃ u4, f = (upd (upd (upd (upd u4 45 (.int .i64 t2)) 52 (.int .i64 t3)) 55 (.agg #[(.string x9.Name), v9])) 58 (.agg #[(.string x10.Name), v10])) := ⟨f, by rw [upd_self hf45, upd_self hf52, upd_self hf55, upd_self hf58]⟩
          obtain ⟨t4, hy4, hm⟩ := bind_some hm
          refine O.call Try.call76 rfl rfl rfl (c_noongunref06_play _ (GBox.mk x9.Name x9.Errors) hs9 _ (GBox.mk x10.Name x10.Errors) hs10 hy4) ?_
          rintro _ w2 hb2 rfl
          have hp5 := hp5.mono hb2
          have hs5 := hs5.mono hb2
          have hc9 := cells_mono hc9 hb2
          have hp6 := hp6.mono hb2
          have hs6 := hs6.mono hb2
          have hc10 := cells_mono hc10 hb2
          have hp7 := hp7.mono hb2
          have hs7 := hs7.mono hb2
          have hc11 := cells_mono hc11 hb2
          have hp8 := hp8.mono hb2
          have hs8 := hs8.mono hb2
          have hc12 := cells_mono hc12 hb2
          have hp9 := hp9.mono hb2
          have hs9 := hs9.mono hb2
          have hc13 := cells_mono hc13 hb2
          have hp10 := hp10.mono hb2
          have hs10 := hs10.mono hb2
          have hc14 := cells_mono hc14 hb2
          have H := H.ext hb2
          refine O.buildSlice (α := Int) [(.int .i64 t2), (.int .i64 t3), (.int .i64 t4)] [t2, t3, t4] Try.underlying22 el3 H rfl rfl rfl rfl rfl rfl rfl ?_
          intro v11 w3 H hb3
          have hp5 := hp5.mono hb3
          have hs5 := hs5.mono hb3
          have hc9 := cells_mono hc9 hb3
          have hp6 := hp6.mono hb3
          have hs6 := hs6.mono hb3
          have hc10 := cells_mono hc10 hb3
          have hp7 := hp7.mono hb3
          have hs7 := hs7.mono hb3
          have hc11 := cells_mono hc11 hb3
          have hp8 := hp8.mono hb3
          have hs8 := hs8.mono hb3
          have hc12 := cells_mono hc12 hb3
          have hp9 := hp9.mono hb3
          have hs9 := hs9.mono hb3
          have hc13 := cells_mono hc13 hb3
          have hp10 := hp10.mono hb3
          have hs10 := hs10.mono hb3
          have hc14 := cells_mono hc14 hb3
          refine O.assign (v := v11) rfl rfl rfl ?_
          refine WL.nil ?_
          refine W.seq ?_
          refine W.seq ?_
          refine W.region ?_
          refine O.move (v := v11) rfl rfl rfl ?_
          refine O.lenS Try.underlying22 (H.own 0 rfl) rfl rfl rfl ?_
          refine O.move (v := (.int .i64 0)) rfl rfl rfl ?_
          refine WL.nil ?_
          obtain ⟨o1, hm3, hm⟩ := bind_some hm
          refine W.via (fun f w => o1 = .next () ∧ Inv w0 w []) ?_ ?_
          · skip
            refine W.block ?_
            have hbdik1 := (H.own 0 rfl).len_le
            refine W.rangeN (i := 0) hm3 (fun rem ik1 s f w => () = s ∧ (ik1 : Int) + rem = max 0 ((([t2, t3, t4] : List Int).length : Nat) : Int) ∧ f 63 = .int .i64 (ik1 : Int) ∧ f 62 = (.int .i64 ((([t2, t3, t4] : List Int).length : Nat) : Int)) ∧ f 4 = v11 ∧ f 61 = v11 ∧ Inv w0 w [ownI (α := Int) v11 3 ([t2, t3, t4] : List Int)]) ?_ ?_ ?_
            · skip
              exact ⟨rfl, rangeN_start, rfl, rfl, rfl, rfl, H⟩
            · skip
              rintro k ik1 _ st f w ⟨rfl, hdropk1, hf63, hf62, hf4, hf61, H⟩ hm4
              have hltk1 := rangeN_lt hdropk1
              obtain ⟨u5, rfl⟩ : ∃ u5, f = (upd (upd (upd (upd u5 63 (.int .i64 (ik1 : Int))) 62 (.int .i64 ((([t2, t3, t4] : List Int).length : Nat) : Int))) 4 v11) 61 v11) := ⟨f, by rw [upd_self hf63, upd_self hf62, upd_self hf4, upd_self hf61]⟩
              have hinck1 := addI_lt hltk1 hbdik1
              refine W.seq ?_
              refine W.region ?_
              refine O.lss rfl rfl rfl rfl ?_
              refine WL.nil ?_
              refine W.seq ?_
              refine W.cond_true (congrArg Value.bool (decide_eq_true hltk1)) ?_
              refine W.skip ?_
              refine W.seq ?_
              refine W.block ?_
              refine W.seq ?_
              refine W.region ?_
              refine O.move (v := (.int .i64 (ik1 : Int))) rfl rfl rfl ?_
              obtain ⟨x11, hx11, hm4⟩ := bind_some hm4
              refine O.indexAddr Try.underlying22 sz3 (H.own 0 rfl) hx11 rfl rfl rfl rfl ?_
              intro p11 hp11
              refine O.load sc3 rfl rfl rfl (hp11.flat 0 _ rfl) ?_
              refine O.assign (v := (.int .i64 (ik1 : Int))) rfl rfl rfl ?_
              refine O.assign (v := (.int .i64 x11)) rfl rfl rfl ?_
              refine WL.nil ?_
              refine W.seq ?_
              refine W.region ?_
              refine O.move (v := (.int .i64 x11)) rfl rfl rfl ?_
              refine O.move (v := v11) rfl rfl rfl ?_
              refine O.move (v := (.int .i64 (ik1 : Int))) rfl rfl rfl ?_
              obtain ⟨t5, ht5, hm4⟩ := bind_some hm4
              refine O.add rfl rfl rfl rfl ht5 ?_
              obtain ⟨t6, ht6, hm4⟩ := bind_some hm4
              refine O.rem rfl rfl rfl rfl ht6 ?_
              obtain ⟨x12, hx12, hm4⟩ := bind_some hm4
              refine O.indexAddr Try.underlying22 sz3 (H.own 0 rfl) hx12 rfl rfl rfl rfl ?_
              intro p12 hp12
              refine O.load sc3 rfl rfl rfl (hp12.flat 0 _ rfl) ?_
              refine O.lss rfl rfl rfl rfl ?_
              refine O.move (v := (.bool (decide (x11 < x12)))) rfl rfl rfl ?_
              obtain ⟨b3, hm5, hm4⟩ := bind_some hm4
              refine WL.cut 9 (fun f w => f 4 = v11 ∧ f 5 = (.int .i64 (ik1 : Int)) ∧ f 61 = v11 ∧ f 62 = (.int .i64 ((([t2, t3, t4] : List Int).length : Nat) : Int)) ∧ f 63 = (.int .i64 (ik1 : Int)) ∧ f 85 = .bool b3 ∧ Inv w0 w [ownI (α := Int) v11 3 ([t2, t3, t4] : List Int)]) ?_ ?_
              · skip
                rcases ite_some hm5 with ⟨hc15, hm5⟩ | ⟨hc15, hm5⟩
                · skip
                  refine WL.reset (i := 76) (v := .bool true) (congrArg Value.bool hc15) ?_
                  refine O.move (v := (.int .i64 x11)) rfl rfl rfl ?_
                  refine O.move (v := v11) rfl rfl rfl ?_
                  refine O.move (v := (.int .i64 (ik1 : Int))) rfl rfl rfl ?_
                  obtain ⟨t7, ht7, hm5⟩ := bind_some hm5
                  refine O.add rfl rfl rfl rfl ht7 ?_
                  obtain ⟨t8, ht8, hm5⟩ := bind_some hm5
                  refine O.rem rfl rfl rfl rfl ht8 ?_
                  obtain ⟨x13, hx13, hm5⟩ := bind_some hm5
                  refine O.indexAddr Try.underlying22 sz3 (H.own 0 rfl) hx13 rfl rfl rfl rfl ?_
                  intro p13 hp13
                  refine O.load sc3 rfl rfl rfl (hp13.flat 0 _ rfl) ?_
                  refine O.lss rfl rfl rfl rfl ?_
                  refine O.pick_true (v := (.bool (decide (x11 < x13)))) rfl rfl rfl rfl ?_
                  refine WL.nil ?_
                  have hq : (decide (x11 < x13)) = b3 := Option.some.inj (show some (decide (x11 < x13)) = some b3 from hm5)
                  subst hq
                  exact ⟨rfl, rfl, rfl, rfl, rfl, rfl, H⟩
                · skip
                  refine WL.reset (i := 76) (v := .bool false) (congrArg Value.bool hc15) ?_
                  refine O.skip rfl rfl ?_
                  refine O.skip rfl rfl ?_
                  refine O.skip rfl rfl ?_
                  refine O.skip rfl rfl ?_
                  refine O.skip rfl rfl ?_
                  refine O.skip rfl rfl ?_
                  refine O.skip rfl rfl ?_
                  refine O.skip rfl rfl ?_
                  refine O.pick_false (v := (.bool false)) rfl rfl rfl rfl ?_
                  refine WL.nil ?_
                  have hq : false = b3 := Option.some.inj (show some false = some b3 from hm5)
                  subst hq
                  exact ⟨rfl, rfl, rfl, rfl, rfl, rfl, H⟩
              · skip
                rintro f w ⟨hf4, hf5, hf61, hf62, hf63, hf85, H⟩
                obtain ⟨u6, rfl⟩ : ∃ u6, f = (upd (upd (upd (upd (upd (upd u6 4 v11) 5 (.int .i64 (ik1 : Int))) 61 v11) 62 (.int .i64 ((([t2, t3, t4] : List Int).length : Nat) : Int))) 63 (.int .i64 (ik1 : Int))) 85 (.bool b3)) := ⟨f, by rw [upd_self hf4, upd_self hf5, upd_self hf61, upd_self hf62, upd_self hf63, upd_self hf85]⟩
                refine WL.nil ?_
                rcases ite_some hm4 with ⟨hc16, hm4⟩ | ⟨hc16, hm4⟩
                · refine W.cond_true (congrArg Value.bool hc16) ?_
                  refine W.seq ?_
                  refine W.region ?_
                  refine O.move (v := (.int .i64 (ik1 : Int))) rfl rfl rfl ?_
                  refine O.assign (v := (.int .i64 (ik1 : Int))) rfl rfl rfl ?_
                  refine O.assign (v := (.int .i64 0)) rfl rfl rfl ?_
                  refine WL.nil ?_
                  refine W.ret ?_
                  obtain rfl := Option.some.inj hm4
                  refine ⟨_, rfl, ?_⟩
                  rintro rfl
                  have hq : ((ik1 : Int), 0) = (r0, r1) := Option.some.inj (show some ((ik1 : Int), 0) = some (r0, r1) from hm)
                  obtain ⟨he0, hq0⟩ := Prod.mk.inj hq; clear hq; subst he0
                  subst hq0
                  exact ends2 Try.results39 rfl rfl ⟨_, rfl, H.base, rfl⟩
                · refine W.cond_false (congrArg Value.bool hc16) ?_
                  refine W.skip ?_
                  refine W.region ?_
                  refine O.add rfl rfl rfl rfl hinck1 ?_
                  refine O.move (v := .int .i64 ((ik1 : Int) + 1)) rfl rfl rfl ?_
                  refine WL.nil ?_
                  obtain rfl := Option.some.inj hm4
                  exact ⟨_, rfl, rfl, rangeN_next hdropk1, rfl, rfl, rfl, rfl, H⟩
            · skip
              rintro ik1 _ f w ⟨rfl, hdropk1, hf63, hf62, hf4, hf61, H⟩ hfin
              have hltk1 := rangeN_end hdropk1
              obtain ⟨u7, rfl⟩ : ∃ u7, f = (upd (upd (upd (upd u7 63 (.int .i64 (ik1 : Int))) 62 (.int .i64 ((([t2, t3, t4] : List Int).length : Nat) : Int))) 4 v11) 61 v11) := ⟨f, by rw [upd_self hf63, upd_self hf62, upd_self hf4, upd_self hf61]⟩
              refine W.seq ?_
              refine W.region ?_
              refine O.lss rfl rfl rfl rfl ?_
              refine WL.nil ?_
              refine W.seq ?_
              refine W.cond_false (congrArg Value.bool (decide_eq_false hltk1)) ?_
              refine W.exit ?_
              obtain rfl : Ctl.next () = o1 := hfin
              have H := H.keep [] [] rfl (by decide)
              refine xT rfl ?_
              exact ⟨rfl, H⟩
          · skip
            rintro f w ⟨rfl, H⟩
            refine W.seq ?_
            refine W.region ?_
            refine O.assign (v := (.int .i64 0)) rfl rfl rfl ?_
            refine O.assign (v := (.int .i64 8)) rfl rfl rfl ?_
            refine WL.nil ?_
            refine W.ret ?_
            have hq : (0, 8) = (r0, r1) := Option.some.inj (show some (0, 8) = some (r0, r1) from hm)
            obtain ⟨he0, hq0⟩ := Prod.mk.inj hq; clear hq; subst he0
            subst hq0
            exact ends2 Try.results39 rfl rfl ⟨_, rfl, H.base, rfl⟩

theorem c_noongunref06_Arc {w0 : World} (a0 : Int) {r0 : Int} {r1 : Int} {r2 : Int} (hm : noongunref06_Arc a0 = some (r0, r1, r2)) :
    Calls Try.prog 41 #[(.int .i64 a0)] w0 (Ret w0 fun _ v => v = .tuple #[(.int .i64 r0), (.int .i64 r1), (.int .i64 r2)]) := by
  unfold noongunref06_Arc at hm
  refine calls_of_W Try.func41 rfl Try.ntmps41 (Nat.le_of_ble_eq_true rfl) ?_
  have H := Inv.start (w := w0)
  refine W.seq ?_
  refine W.region ?_
  refine O.assign (v := (.int .i64 0)) rfl rfl rfl ?_
  refine O.assign (v := (.int .i64 0)) rfl rfl rfl ?_
  refine O.assign (v := (.int .i64 0)) rfl rfl rfl ?_
  refine WL.nil ?_
  refine W.seq ?_
  refine W.seq ?_
  refine W.region ?_
  refine O.move (v := (.int .i64 a0)) rfl rfl rfl ?_
  refine O.lss rfl rfl rfl rfl ?_
  refine O.move (v := (.bool (decide (a0 < (-1000000000000))))) rfl rfl rfl ?_
  refine WL.cut 3 (fun f w => f 0 = (.int .i64 a0) ∧ f 11 = .bool ((decide (a0 < (-1000000000000))) || (decide (1000000000000 < a0))) ∧ Inv w0 w []) ?_ ?_
  · skip
    rcases bool_ft (decide (a0 < (-1000000000000))) with hc1 | hc1
    · skip
      refine WL.reset (i := 8) (v := .bool false) (congrArg Value.bool hc1) ?_
      refine O.move (v := (.int .i64 a0)) rfl rfl rfl ?_
      refine O.gtr rfl rfl rfl rfl ?_
      refine O.pick_false (v := (.bool (decide (1000000000000 < a0)))) rfl rfl rfl rfl ?_
      refine WL.nil ?_
      exact ⟨rfl, congrArg Value.bool (or_f hc1), H⟩
    · skip
      refine WL.reset (i := 8) (v := .bool true) (congrArg Value.bool hc1) ?_
      refine O.skip rfl rfl ?_
      refine O.skip rfl rfl ?_
      refine O.pick_true (v := (.bool true)) rfl rfl rfl rfl ?_
      refine WL.nil ?_
      exact ⟨rfl, congrArg Value.bool (or_t hc1), H⟩
  · skip
    rintro f w ⟨hf0, hf11, H⟩
    obtain ⟨u1, rfl⟩ : ∃ u1, f = (upd (upd u1 0 (.int .i64 a0)) 11 (.bool ((decide (a0 < (-1000000000000))) || (decide (1000000000000 < a0))))) := ⟨f, by rw [upd_self hf0, upd_self hf11]⟩
    refine WL.nil ?_
    rcases ite_some hm with ⟨hc2, hm⟩ | ⟨hc2, hm⟩
    · refine W.cond_true (congrArg Value.bool hc2) ?_
      refine W.seq ?_
      refine W.region ?_
      refine O.assign (v := (.int .i64 0)) rfl rfl rfl ?_
      refine O.assign (v := (.int .i64 0)) rfl rfl rfl ?_
      refine O.assign (v := (.int .i64 7)) rfl rfl rfl ?_
      refine WL.nil ?_
      refine W.ret ?_
      have hq : (0, 0, 7) = (r0, r1, r2) := Option.some.inj (show some (0, 0, 7) = some (r0, r1, r2) from hm)
      obtain ⟨he0, hq0⟩ := Prod.mk.inj hq; clear hq; subst he0
      obtain ⟨he1, hq1⟩ := Prod.mk.inj hq0; clear hq0; subst he1
      subst hq1
      exact ends3 Try.results41 rfl rfl rfl ⟨_, rfl, H.base, rfl⟩
    · refine W.cond_false (congrArg Value.bool hc2) ?_
      refine W.skip ?_
      refine W.seq ?_
      refine W.region ?_
      refine O.move (v := (.int .i64 a0)) rfl rfl rfl ?_
      obtain ⟨t1, hy1, hm⟩ := bind_some hm
      refine O.call Try.call69 rfl rfl rfl (c_noongunref06_Abs _ hy1) ?_
      rintro _ w1 hb1 rfl
      have H := H.ext hb1
      obtain ⟨t2, ht2, hm⟩ := bind_some hm
      refine O.mul rfl rfl rfl rfl ht2 ?_
      refine O.assign (v := (.int .i64 t2)) rfl rfl rfl ?_
      refine WL.nil ?_
      refine W.seq ?_
      refine W.region ?_
      refine O.move (v := (.int .i64 t2)) rfl rfl rfl ?_
      obtain ⟨t3, ht3, hm⟩ := bind_some hm
      refine O.quo rfl rfl rfl rfl ht3 ?_
      refine O.move (v := (.int .i64 t2)) rfl rfl rfl ?_
      obtain ⟨t4, ht4, hm⟩ := bind_some hm
      refine O.rem rfl rfl rfl rfl ht4 ?_
      refine O.assign (v := (.int .i64 t3)) rfl rfl rfl ?_
      refine O.assign (v := (.int .i64 t4)) rfl rfl rfl ?_
      refine O.assign (v := (.int .i64 0)) rfl rfl rfl ?_
      refine WL.nil ?_
      refine W.ret ?_
      have hq : (t3, t4, 0) = (r0, r1, r2) := Option.some.inj (show some (t3, t4, 0) = some (r0, r1, r2) from hm)
      obtain ⟨he0, hq0⟩ := Prod.mk.inj hq; clear hq; subst he0
      obtain ⟨he1, hq1⟩ := Prod.mk.inj hq0; clear hq0; subst he1
      subst hq1
      exact ends3 Try.results41 rfl rfl rfl ⟨_, rfl, H.base, rfl⟩

set_option maxRecDepth 20000 in
theorem c_rate_Days {w0 : World} (a0 : GSpan) (a1 : Int) {r0 : Int} {r1 : Int} (hm : rate_Days a0 a1 = some (r0, r1)) :
    Calls Try.prog 42 #[(.agg (Flat.cells a0).toArray), (.int .i64 a1)] w0 (Ret w0 fun _ v => v = .tuple #[(.int .i64 r0), (.int .i64 r1)]) := by
  unfold rate_Days at hm
  refine calls_of_W Try.func42 rfl Try.ntmps42 (Nat.le_of_ble_eq_true rfl) ?_
  have H := Inv.start (w := w0)
  refine W.seq ?_
  refine W.region ?_
  refine O.box [(.int .i64 a0.Lo), (.int .i64 a0.Hi)] H rfl rfl rfl rfl ?_
  intro b1 w1 H hb1
  refine O.assign (v := (.int .i64 0)) rfl rfl rfl ?_
  refine O.assign (v := (.int .i64 0)) rfl rfl rfl ?_
  refine WL.nil ?_
  refine W.seq ?_
  refine W.block ?_
  refine W.seq ?_
  refine W.region ?_
  refine O.loadA [(.int .i64 a0.Lo), (.int .i64 a0.Hi)] ag41 rfl rfl rfl rfl (H.cell 0 rfl) ?_
  obtain ⟨t1, hy1, hm⟩ := bind_some hm
  refine O.call Try.call64 rfl rfl rfl (c_span_ValidSpan a0 hy1) ?_
  rintro _ w2 hb2 rfl
  have H := H.ext hb2
  refine O.not rfl rfl rfl ?_
  refine O.assign (v := (.bool (!t1))) rfl rfl rfl ?_
  refine WL.nil ?_
  rcases ite_some hm with ⟨hc1, hm⟩ | ⟨hc1, hm⟩
  · refine W.cond_true (congrArg Value.bool hc1) ?_
    refine W.seq ?_
    refine W.region ?_
    refine O.assign (v := (.int .i64 0)) rfl rfl rfl ?_
    refine O.assign (v := (.int .i64 1)) rfl rfl rfl ?_
    refine WL.nil ?_
    refine W.ret ?_
    have hq : (0, 1) = (r0, r1) := Option.some.inj (show some (0, 1) = some (r0, r1) from hm)
    obtain ⟨he0, hq0⟩ := Prod.mk.inj hq; clear hq; subst he0
    subst hq0
    exact ends2 Try.results42 rfl rfl ⟨_, rfl, H.base, rfl⟩
  · refine W.cond_false (congrArg Value.bool hc1) ?_
    refine W.seq ?_
    refine W.region ?_
    refine O.fieldAddr fd41_0 rfl rfl rfl ?_
    refine O.load sc3 rfl rfl rfl (H.cell 0 rfl 0 _ rfl) ?_
    obtain ⟨t2, hy2, hm⟩ := bind_some hm
    refine O.call Try.call59 rfl rfl rfl (c_rate_within _ _ _ hy2) ?_
    rintro _ w3 hb3 rfl
    have H := H.ext hb3
    refine O.not rfl rfl rfl ?_
    refine O.move (v := (.bool (!t2))) rfl rfl rfl ?_
    obtain ⟨b2, hm1, hm⟩ := bind_some hm
    refine WL.cut 5 (fun f w => f 1 = (.int .i64 a1) ∧ f 2 = (.pointer (some ⟨b1, 0, none⟩)) ∧ f 21 = .bool b2 ∧ Inv w0 w [boxI b1 41 [(.int .i64 a0.Lo), (.int .i64 a0.Hi)]]) ?_ ?_
    · skip
      rcases ite_some hm1 with ⟨hc2, hm1⟩ | ⟨hc2, hm1⟩
      · skip
        refine WL.reset (i := 16) (v := .bool true) (congrArg Value.bool hc2) ?_
        refine O.skip rfl rfl ?_
        refine O.skip rfl rfl ?_
        refine O.skip rfl rfl ?_
        refine O.skip rfl rfl ?_
        refine O.pick_true (v := (.bool true)) rfl rfl rfl rfl ?_
        refine WL.nil ?_
        have hq : true = b2 := Option.some.inj (show some true = some b2 from hm1)
        subst hq
        exact ⟨rfl, rfl, rfl, H⟩
      · skip
        refine WL.reset (i := 16) (v := .bool false) (congrArg Value.bool hc2) ?_
        refine O.fieldAddr fd41_1 rfl rfl rfl ?_
        refine O.load sc3 rfl rfl rfl (H.cell 0 rfl 1 _ rfl) ?_
        obtain ⟨t3, hy3, hm1⟩ := bind_some hm1
        refine O.call Try.call59 rfl rfl rfl (c_rate_within _ _ _ hy3) ?_
        rintro _ w4 hb4 rfl
        have H := H.ext hb4
        refine O.not rfl rfl rfl ?_
        refine O.pick_false (v := (.bool (!t3))) rfl rfl rfl rfl ?_
        refine WL.nil ?_
        have hq : (!t3) = b2 := Option.some.inj (show some (!t3) = some b2 from hm1)
        subst hq
        exact ⟨rfl, rfl, rfl, H⟩
    · skip
      rintro f w ⟨hf1, hf2, hf21, H⟩
      obtain ⟨u1, rfl⟩ : ∃ u1, f = (upd (upd (upd u1 1 (.int .i64 a1)) 2 (.pointer (some ⟨b1, 0, none⟩))) 21 (.bool b2)) := ⟨f, by rw [upd_self hf1, upd_self hf2, upd_self hf21]⟩
      refine O.move (v := (.bool b2)) rfl rfl rfl ?_
      obtain ⟨b3, hm2, hm⟩ := bind_some hm
      refine WL.cut 4 (fun f w => f 1 = (.int .i64 a1) ∧ f 2 = (.pointer (some ⟨b1, 0, none⟩)) ∧ f 26 = .bool b3 ∧ Inv w0 w [boxI b1 41 [(.int .i64 a0.Lo), (.int .i64 a0.Hi)]]) ?_ ?_
      · skip
        rcases ite_some hm2 with ⟨hc3, hm2⟩ | ⟨hc3, hm2⟩
        · skip
          refine WL.reset (i := 22) (v := .bool true) (congrArg Value.bool hc3) ?_
          refine O.skip rfl rfl ?_
          refine O.skip rfl rfl ?_
          refine O.skip rfl rfl ?_
          refine O.pick_true (v := (.bool true)) rfl rfl rfl rfl ?_
          refine WL.nil ?_
          have hq : true = b3 := Option.some.inj (show some true = some b3 from hm2)
          subst hq
          exact ⟨rfl, rfl, rfl, H⟩
        · skip
          refine WL.reset (i := 22) (v := .bool false) (congrArg Value.bool hc3) ?_
          refine O.move (v := (.int .i64 a1)) rfl rfl rfl ?_
          obtain ⟨t4, hy4, hm2⟩ := bind_some hm2
          refine O.call Try.call59 rfl rfl rfl (c_rate_within _ _ _ hy4) ?_
          rintro _ w5 hb5 rfl
          have H := H.ext hb5
          refine O.not rfl rfl rfl ?_
          refine O.pick_false (v := (.bool (!t4))) rfl rfl rfl rfl ?_
          refine WL.nil ?_
          have hq : (!t4) = b3 := Option.some.inj (show some (!t4) = some b3 from hm2)
          subst hq
          exact ⟨rfl, rfl, rfl, H⟩
      · skip
        rintro f w ⟨hf1, hf2, hf26, H⟩
        obtain ⟨u2, rfl⟩ : ∃ u2, f = (upd (upd (upd u2 1 (.int .i64 a1)) 2 (.pointer (some ⟨b1, 0, none⟩))) 26 (.bool b3)) := ⟨f, by rw [upd_self hf1, upd_self hf2, upd_self hf26]⟩
        refine O.assign (v := (.bool b3)) rfl rfl rfl ?_
        refine WL.nil ?_
        rcases ite_some hm with ⟨hc4, hm⟩ | ⟨hc4, hm⟩
        · refine W.cond_true (congrArg Value.bool hc4) ?_
          refine W.seq ?_
          refine W.region ?_
          refine O.assign (v := (.int .i64 0)) rfl rfl rfl ?_
          refine O.assign (v := (.int .i64 7)) rfl rfl rfl ?_
          refine WL.nil ?_
          refine W.ret ?_
          have hq : (0, 7) = (r0, r1) := Option.some.inj (show some (0, 7) = some (r0, r1) from hm)
          obtain ⟨he0, hq0⟩ := Prod.mk.inj hq; clear hq; subst he0
          subst hq0
          exact ends2 Try.results42 rfl rfl ⟨_, rfl, H.base, rfl⟩
        · refine W.cond_false (congrArg Value.bool hc4) ?_
          refine W.skip ?_
          refine W.seq ?_
          refine W.seq ?_
          refine W.region ?_
          refine O.move (v := (.int .i64 0)) rfl rfl rfl ?_
          refine WL.nil ?_
          obtain ⟨o1, hm3, hm⟩ := bind_some hm
          refine W.via (fun f w => o1 = .next () ∧ Inv w0 w []) ?_ ?_
          · skip
            refine W.block ?_
            refine W.rangeN (i := 0) hm3 (fun rem ik1 s f w => () = s ∧ (ik1 : Int) + rem = max 0 401 ∧ f 27 = .int .i64 (ik1 : Int) ∧ f 1 = (.int .i64 a1) ∧ f 2 = (.pointer (some ⟨b1, 0, none⟩)) ∧ Inv w0 w [boxI b1 41 [(.int .i64 a0.Lo), (.int .i64 a0.Hi)]]) ?_ ?_ ?_
            · skip
              exact ⟨rfl, rangeN_start, rfl, rfl, rfl, H⟩
            · skip
              rintro k ik1 _ st f w ⟨rfl, hdropk1, hf27, hf1, hf2, H⟩ hm4
              have hltk1 := rangeN_lt hdropk1
              obtain ⟨u3, rfl⟩ : ∃ u3, f = (upd (upd (upd u3 27 (.int .i64 (ik1 : Int))) 1 (.int .i64 a1)) 2 (.pointer (some ⟨b1, 0, none⟩))) := ⟨f, by rw [upd_self hf27, upd_self hf1, upd_self hf2]⟩
              have hinck1 := addI_lt hltk1 (by decide)
              refine W.seq ?_
              refine W.region ?_
              refine O.lss rfl rfl rfl rfl ?_
              refine WL.nil ?_
              refine W.seq ?_
              refine W.cond_true (congrArg Value.bool (decide_eq_true hltk1)) ?_
              refine W.skip ?_
              refine W.seq ?_
              refine W.block ?_
              refine W.seq ?_
              refine W.region ?_
              refine O.move (v := (.int .i64 (ik1 : Int))) rfl rfl rfl ?_
              refine O.assign (v := (.int .i64 (ik1 : Int))) rfl rfl rfl ?_
              refine WL.nil ?_
              refine W.seq ?_
              refine W.region ?_
              refine O.move (v := (.int .i64 (ik1 : Int))) rfl rfl rfl ?_
              refine O.fieldAddr fd41_1 rfl rfl rfl ?_
              refine O.load sc3 rfl rfl rfl (H.cell 0 rfl 1 _ rfl) ?_
              refine O.fieldAddr fd41_0 rfl rfl rfl ?_
              refine O.load sc3 rfl rfl rfl (H.cell 0 rfl 0 _ rfl) ?_
              obtain ⟨t5, ht5, hm4⟩ := bind_some hm4
              refine O.sub rfl rfl rfl rfl ht5 ?_
              obtain ⟨t6, ht6, hm4⟩ := bind_some hm4
              refine O.mul rfl rfl rfl rfl ht6 ?_
              refine O.move (v := (.int .i64 a1)) rfl rfl rfl ?_
              refine O.gtr rfl rfl rfl rfl ?_
              refine WL.nil ?_
              rcases ite_some hm4 with ⟨hc5, hm4⟩ | ⟨hc5, hm4⟩
              · refine W.cond_true (congrArg Value.bool hc5) ?_
                refine W.seq ?_
                refine W.region ?_
                refine O.move (v := (.int .i64 (ik1 : Int))) rfl rfl rfl ?_
                refine O.assign (v := (.int .i64 (ik1 : Int))) rfl rfl rfl ?_
                refine O.assign (v := (.int .i64 0)) rfl rfl rfl ?_
                refine WL.nil ?_
                refine W.ret ?_
                obtain rfl := Option.some.inj hm4
                refine ⟨_, rfl, ?_⟩
                rintro rfl
                have hq : ((ik1 : Int), 0) = (r0, r1) := Option.some.inj (show some ((ik1 : Int), 0) = some (r0, r1) from hm)
                obtain ⟨he0, hq0⟩ := Prod.mk.inj hq; clear hq; subst he0
                subst hq0
                exact ends2 Try.results42 rfl rfl ⟨_, rfl, H.base, rfl⟩
              · refine W.cond_false (congrArg Value.bool hc5) ?_
                refine W.skip ?_
                refine W.region ?_
                refine O.add rfl rfl rfl rfl hinck1 ?_
                refine O.move (v := .int .i64 ((ik1 : Int) + 1)) rfl rfl rfl ?_
                refine WL.nil ?_
                obtain rfl := Option.some.inj hm4
                exact ⟨_, rfl, rfl, rangeN_next hdropk1, rfl, rfl, rfl, H⟩
            · skip
              rintro ik1 _ f w ⟨rfl, hdropk1, hf27, hf1, hf2, H⟩ hfin
              have hltk1 := rangeN_end hdropk1
              obtain ⟨u4, rfl⟩ : ∃ u4, f = (upd (upd (upd u4 27 (.int .i64 (ik1 : Int))) 1 (.int .i64 a1)) 2 (.pointer (some ⟨b1, 0, none⟩))) := ⟨f, by rw [upd_self hf27, upd_self hf1, upd_self hf2]⟩
              refine W.seq ?_
              refine W.region ?_
              refine O.lss rfl rfl rfl rfl ?_
              refine WL.nil ?_
              refine W.seq ?_
              refine W.cond_false (congrArg Value.bool (decide_eq_false hltk1)) ?_
              refine W.exit ?_
              obtain rfl : Ctl.next () = o1 := hfin
              have H := H.keep [] [] rfl (by decide)
              refine xT rfl ?_
              exact ⟨rfl, H⟩
          · skip
            rintro f w ⟨rfl, H⟩
            refine W.seq ?_
            refine W.region ?_
            refine O.assign (v := (.int .i64 0)) rfl rfl rfl ?_
            refine O.assign (v := (.int .i64 8)) rfl rfl rfl ?_
            refine WL.nil ?_
            refine W.ret ?_
            have hq : (0, 8) = (r0, r1) := Option.some.inj (show some (0, 8) = some (r0, r1) from hm)
            obtain ⟨he0, hq0⟩ := Prod.mk.inj hq; clear hq; subst he0
            subst hq0
            exact ends2 Try.results42 rfl rfl ⟨_, rfl, H.base, rfl⟩

set_option maxRecDepth 20000 in
theorem c_noongunref06_Days {w0 : World} (a0 : GSpan) (a1 : Int) {r0 : Int} {r1 : Int} (hm : noongunref06_Days a0 a1 = some (r0, r1)) :
    Calls Try.prog 43 #[(.agg (Flat.cells a0).toArray), (.int .i64 a1)] w0 (Ret w0 fun _ v => v = .tuple #[(.int .i64 r0), (.int .i64 r1)]) := by
  unfold noongunref06_Days at hm
  refine calls_of_W Try.func43 rfl Try.ntmps43 (Nat.le_of_ble_eq_true rfl) ?_
  have H := Inv.start (w := w0)
  refine W.seq ?_
  refine W.region ?_
  refine O.box [(.int .i64 a0.Lo), (.int .i64 a0.Hi)] H rfl rfl rfl rfl ?_
  intro b1 w1 H hb1
  refine O.assign (v := (.int .i64 0)) rfl rfl rfl ?_
  refine O.assign (v := (.int .i64 0)) rfl rfl rfl ?_
  refine WL.nil ?_
  refine W.seq ?_
  refine W.seq ?_
  refine W.region ?_
  refine O.fieldAddr fd41_0 rfl rfl rfl ?_
  refine O.load sc3 rfl rfl rfl (H.cell 0 rfl 0 _ rfl) ?_
  refine O.fieldAddr fd41_1 rfl rfl rfl ?_
  refine O.load sc3 rfl rfl rfl (H.cell 0 rfl 1 _ rfl) ?_
  refine O.gtr rfl rfl rfl rfl ?_
  refine O.move (v := (.bool (decide (a0.Hi < a0.Lo)))) rfl rfl rfl ?_
  refine WL.cut 4 (fun f w => f 1 = (.int .i64 a1) ∧ f 2 = (.pointer (some ⟨b1, 0, none⟩)) ∧ f 16 = .bool ((decide (a0.Hi < a0.Lo)) || (decide (a0.Lo < (-1000000000000)))) ∧ Inv w0 w [boxI b1 41 [(.int .i64 a0.Lo), (.int .i64 a0.Hi)]]) ?_ ?_
  · skip
    rcases bool_ft (decide (a0.Hi < a0.Lo)) with hc1 | hc1
    · skip
      refine WL.reset (i := 12) (v := .bool false) (congrArg Value.bool hc1) ?_
      refine O.fieldAddr fd41_0 rfl rfl rfl ?_
      refine O.load sc3 rfl rfl rfl (H.cell 0 rfl 0 _ rfl) ?_
      refine O.lss rfl rfl rfl rfl ?_
      refine O.pick_false (v := (.bool (decide (a0.Lo < (-1000000000000))))) rfl rfl rfl rfl ?_
      refine WL.nil ?_
      exact ⟨rfl, rfl, congrArg Value.bool (or_f hc1), H⟩
    · skip
      refine WL.reset (i := 12) (v := .bool true) (congrArg Value.bool hc1) ?_
      refine O.skip rfl rfl ?_
      refine O.skip rfl rfl ?_
      refine O.skip rfl rfl ?_
      refine O.pick_true (v := (.bool true)) rfl rfl rfl rfl ?_
      refine WL.nil ?_
      exact ⟨rfl, rfl, congrArg Value.bool (or_t hc1), H⟩
  · skip
    rintro f w ⟨hf1, hf2, hf16, H⟩
    obtain ⟨u1, rfl⟩ : ∃ u1, f = (upd (upd (upd u1 1 (.int .i64 a1)) 2 (.pointer (some ⟨b1, 0, none⟩))) 16 (.bool ((decide (a0.Hi < a0.Lo)) || (decide (a0.Lo < (-1000000000000)))))) := ⟨f, by rw [upd_self hf1, upd_self hf2, upd_self hf16]⟩
    refine O.move (v := (.bool ((decide (a0.Hi < a0.Lo)) || (decide (a0.Lo < (-1000000000000)))))) rfl rfl rfl ?_
    refine WL.cut 4 (fun f w => f 1 = (.int .i64 a1) ∧ f 2 = (.pointer (some ⟨b1, 0, none⟩)) ∧ f 21 = .bool (((decide (a0.Hi < a0.Lo)) || (decide (a0.Lo < (-1000000000000)))) || (decide (1000000000000 < a0.Hi))) ∧ Inv w0 w [boxI b1 41 [(.int .i64 a0.Lo), (.int .i64 a0.Hi)]]) ?_ ?_
    · skip
      rcases bool_ft ((decide (a0.Hi < a0.Lo)) || (decide (a0.Lo < (-1000000000000)))) with hc2 | hc2
      · skip
        refine WL.reset (i := 17) (v := .bool false) (congrArg Value.bool hc2) ?_
        refine O.fieldAddr fd41_1 rfl rfl rfl ?_
        refine O.load sc3 rfl rfl rfl (H.cell 0 rfl 1 _ rfl) ?_
        refine O.gtr rfl rfl rfl rfl ?_
        refine O.pick_false (v := (.bool (decide (1000000000000 < a0.Hi)))) rfl rfl rfl rfl ?_
        refine WL.nil ?_
        exact ⟨rfl, rfl, congrArg Value.bool (or_f hc2), H⟩
      · skip
        refine WL.reset (i := 17) (v := .bool true) (congrArg Value.bool hc2) ?_
        refine O.skip rfl rfl ?_
        refine O.skip rfl rfl ?_
        refine O.skip rfl rfl ?_
        refine O.pick_true (v := (.bool true)) rfl rfl rfl rfl ?_
        refine WL.nil ?_
        exact ⟨rfl, rfl, congrArg Value.bool (or_t hc2), H⟩
    · skip
      rintro f w ⟨hf1, hf2, hf21, H⟩
      obtain ⟨u2, rfl⟩ : ∃ u2, f = (upd (upd (upd u2 1 (.int .i64 a1)) 2 (.pointer (some ⟨b1, 0, none⟩))) 21 (.bool (((decide (a0.Hi < a0.Lo)) || (decide (a0.Lo < (-1000000000000)))) || (decide (1000000000000 < a0.Hi))))) := ⟨f, by rw [upd_self hf1, upd_self hf2, upd_self hf21]⟩
      refine WL.nil ?_
      rcases ite_some hm with ⟨hc3, hm⟩ | ⟨hc3, hm⟩
      · refine W.cond_true (congrArg Value.bool hc3) ?_
        refine W.seq ?_
        refine W.region ?_
        refine O.assign (v := (.int .i64 0)) rfl rfl rfl ?_
        refine O.assign (v := (.int .i64 1)) rfl rfl rfl ?_
        refine WL.nil ?_
        refine W.ret ?_
        have hq : (0, 1) = (r0, r1) := Option.some.inj (show some (0, 1) = some (r0, r1) from hm)
        obtain ⟨he0, hq0⟩ := Prod.mk.inj hq; clear hq; subst he0
        subst hq0
        exact ends2 Try.results43 rfl rfl ⟨_, rfl, H.base, rfl⟩
      · refine W.cond_false (congrArg Value.bool hc3) ?_
        refine W.skip ?_
        refine W.seq ?_
        refine W.seq ?_
        refine W.region ?_
        refine O.fieldAddr fd41_0 rfl rfl rfl ?_
        refine O.load sc3 rfl rfl rfl (H.cell 0 rfl 0 _ rfl) ?_
        refine O.lss rfl rfl rfl rfl ?_
        refine O.move (v := (.bool (decide (a0.Lo < (-1000000))))) rfl rfl rfl ?_
        refine WL.cut 4 (fun f w => f 1 = (.int .i64 a1) ∧ f 2 = (.pointer (some ⟨b1, 0, none⟩)) ∧ f 29 = .bool ((decide (a0.Lo < (-1000000))) || (decide (1000000 < a0.Hi))) ∧ Inv w0 w [boxI b1 41 [(.int .i64 a0.Lo), (.int .i64 a0.Hi)]]) ?_ ?_
        · skip
          rcases bool_ft (decide (a0.Lo < (-1000000))) with hc4 | hc4
          · skip
            refine WL.reset (i := 25) (v := .bool false) (congrArg Value.bool hc4) ?_
            refine O.fieldAddr fd41_1 rfl rfl rfl ?_
            refine O.load sc3 rfl rfl rfl (H.cell 0 rfl 1 _ rfl) ?_
            refine O.gtr rfl rfl rfl rfl ?_
            refine O.pick_false (v := (.bool (decide (1000000 < a0.Hi)))) rfl rfl rfl rfl ?_
            refine WL.nil ?_
            exact ⟨rfl, rfl, congrArg Value.bool (or_f hc4), H⟩
          · skip
            refine WL.reset (i := 25) (v := .bool true) (congrArg Value.bool hc4) ?_
            refine O.skip rfl rfl ?_
            refine O.skip rfl rfl ?_
            refine O.skip rfl rfl ?_
            refine O.pick_true (v := (.bool true)) rfl rfl rfl rfl ?_
            refine WL.nil ?_
            exact ⟨rfl, rfl, congrArg Value.bool (or_t hc4), H⟩
        · skip
          rintro f w ⟨hf1, hf2, hf29, H⟩
          obtain ⟨u3, rfl⟩ : ∃ u3, f = (upd (upd (upd u3 1 (.int .i64 a1)) 2 (.pointer (some ⟨b1, 0, none⟩))) 29 (.bool ((decide (a0.Lo < (-1000000))) || (decide (1000000 < a0.Hi))))) := ⟨f, by rw [upd_self hf1, upd_self hf2, upd_self hf29]⟩
          refine O.move (v := (.bool ((decide (a0.Lo < (-1000000))) || (decide (1000000 < a0.Hi))))) rfl rfl rfl ?_
          refine WL.cut 3 (fun f w => f 1 = (.int .i64 a1) ∧ f 2 = (.pointer (some ⟨b1, 0, none⟩)) ∧ f 33 = .bool (((decide (a0.Lo < (-1000000))) || (decide (1000000 < a0.Hi))) || (decide (a1 < 0))) ∧ Inv w0 w [boxI b1 41 [(.int .i64 a0.Lo), (.int .i64 a0.Hi)]]) ?_ ?_
          · skip
            rcases bool_ft ((decide (a0.Lo < (-1000000))) || (decide (1000000 < a0.Hi))) with hc5 | hc5
            · skip
              refine WL.reset (i := 30) (v := .bool false) (congrArg Value.bool hc5) ?_
              refine O.move (v := (.int .i64 a1)) rfl rfl rfl ?_
              refine O.lss rfl rfl rfl rfl ?_
              refine O.pick_false (v := (.bool (decide (a1 < 0)))) rfl rfl rfl rfl ?_
              refine WL.nil ?_
              exact ⟨rfl, rfl, congrArg Value.bool (or_f hc5), H⟩
            · skip
              refine WL.reset (i := 30) (v := .bool true) (congrArg Value.bool hc5) ?_
              refine O.skip rfl rfl ?_
              refine O.skip rfl rfl ?_
              refine O.pick_true (v := (.bool true)) rfl rfl rfl rfl ?_
              refine WL.nil ?_
              exact ⟨rfl, rfl, congrArg Value.bool (or_t hc5), H⟩
          · skip
            rintro f w ⟨hf1, hf2, hf33, H⟩
            obtain ⟨u4, rfl⟩ : ∃ u4, f = (upd (upd (upd u4 1 (.int .i64 a1)) 2 (.pointer (some ⟨b1, 0, none⟩))) 33 (.bool (((decide (a0.Lo < (-1000000))) || (decide (1000000 < a0.Hi))) || (decide (a1 < 0))))) := ⟨f, by rw [upd_self hf1, upd_self hf2, upd_self hf33]⟩
            refine O.move (v := (.bool (((decide (a0.Lo < (-1000000))) || (decide (1000000 < a0.Hi))) || (decide (a1 < 0))))) rfl rfl rfl ?_
            refine WL.cut 3 (fun f w => f 1 = (.int .i64 a1) ∧ f 2 = (.pointer (some ⟨b1, 0, none⟩)) ∧ f 37 = .bool ((((decide (a0.Lo < (-1000000))) || (decide (1000000 < a0.Hi))) || (decide (a1 < 0))) || (decide (1000000000 < a1))) ∧ Inv w0 w [boxI b1 41 [(.int .i64 a0.Lo), (.int .i64 a0.Hi)]]) ?_ ?_
            · skip
              rcases bool_ft (((decide (a0.Lo < (-1000000))) || (decide (1000000 < a0.Hi))) || (decide (a1 < 0))) with hc6 | hc6
              · skip
                refine WL.reset (i := 34) (v := .bool false) (congrArg Value.bool hc6) ?_
                refine O.move (v := (.int .i64 a1)) rfl rfl rfl ?_
                refine O.gtr rfl rfl rfl rfl ?_
                refine O.pick_false (v := (.bool (decide (1000000000 < a1)))) rfl rfl rfl rfl ?_
                refine WL.nil ?_
                exact ⟨rfl, rfl, congrArg Value.bool (or_f hc6), H⟩
              · skip
                refine WL.reset (i := 34) (v := .bool true) (congrArg Value.bool hc6) ?_
                refine O.skip rfl rfl ?_
                refine O.skip rfl rfl ?_
                refine O.pick_true (v := (.bool true)) rfl rfl rfl rfl ?_
                refine WL.nil ?_
                exact ⟨rfl, rfl, congrArg Value.bool (or_t hc6), H⟩
            · skip
              rintro f w ⟨hf1, hf2, hf37, H⟩
              obtain ⟨u5, rfl⟩ : ∃ u5, f = (upd (upd (upd u5 1 (.int .i64 a1)) 2 (.pointer (some ⟨b1, 0, none⟩))) 37 (.bool ((((decide (a0.Lo < (-1000000))) || (decide (1000000 < a0.Hi))) || (decide (a1 < 0))) || (decide (1000000000 < a1))))) := ⟨f, by rw [upd_self hf1, upd_self hf2, upd_self hf37]⟩
              refine WL.nil ?_
              rcases ite_some hm with ⟨hc7, hm⟩ | ⟨hc7, hm⟩
              · refine W.cond_true (congrArg Value.bool hc7) ?_
                refine W.seq ?_
                refine W.region ?_
                refine O.assign (v := (.int .i64 0)) rfl rfl rfl ?_
                refine O.assign (v := (.int .i64 7)) rfl rfl rfl ?_
                refine WL.nil ?_
                refine W.ret ?_
                have hq : (0, 7) = (r0, r1) := Option.some.inj (show some (0, 7) = some (r0, r1) from hm)
                obtain ⟨he0, hq0⟩ := Prod.mk.inj hq; clear hq; subst he0
                subst hq0
                exact ends2 Try.results43 rfl rfl ⟨_, rfl, H.base, rfl⟩
              · refine W.cond_false (congrArg Value.bool hc7) ?_
                refine W.skip ?_
                refine W.seq ?_
                refine W.seq ?_
                refine W.region ?_
                refine O.move (v := (.int .i64 0)) rfl rfl rfl ?_
                refine WL.nil ?_
                obtain ⟨o1, hm1, hm⟩ := bind_some hm
                refine W.via (fun f w => o1 = .next () ∧ Inv w0 w []) ?_ ?_
                · skip
                  refine W.block ?_
                  refine W.rangeN (i := 0) hm1 (fun rem ik1 s f w => () = s ∧ (ik1 : Int) + rem = max 0 401 ∧ f 38 = .int .i64 (ik1 : Int) ∧ f 1 = (.int .i64 a1) ∧ f 2 = (.pointer (some ⟨b1, 0, none⟩)) ∧ Inv w0 w [boxI b1 41 [(.int .i64 a0.Lo), (.int .i64 a0.Hi)]]) ?_ ?_ ?_
                  · skip
                    exact ⟨rfl, rangeN_start, rfl, rfl, rfl, H⟩
                  · skip
                    rintro k ik1 _ st f w ⟨rfl, hdropk1, hf38, hf1, hf2, H⟩ hm2
                    have hltk1 := rangeN_lt hdropk1
                    obtain ⟨u6, rfl⟩ : ∃ u6, f = (upd (upd (upd u6 38 (.int .i64 (ik1 : Int))) 1 (.int .i64 a1)) 2 (.pointer (some ⟨b1, 0, none⟩))) := ⟨f, by rw [upd_self hf38, upd_self hf1, upd_self hf2]⟩
                    have hinck1 := addI_lt hltk1 (by decide)
                    refine W.seq ?_
                    refine W.region ?_
                    refine O.lss rfl rfl rfl rfl ?_
                    refine WL.nil ?_
                    refine W.seq ?_
                    refine W.cond_true (congrArg Value.bool (decide_eq_true hltk1)) ?_
                    refine W.skip ?_
                    refine W.seq ?_
                    refine W.block ?_
                    refine W.seq ?_
                    refine W.region ?_
                    refine O.move (v := (.int .i64 (ik1 : Int))) rfl rfl rfl ?_
                    refine O.assign (v := (.int .i64 (ik1 : Int))) rfl rfl rfl ?_
                    refine WL.nil ?_
                    refine W.seq ?_
                    refine W.region ?_
                    refine O.move (v := (.int .i64 (ik1 : Int))) rfl rfl rfl ?_
                    refine O.fieldAddr fd41_1 rfl rfl rfl ?_
                    refine O.load sc3 rfl rfl rfl (H.cell 0 rfl 1 _ rfl) ?_
                    refine O.fieldAddr fd41_0 rfl rfl rfl ?_
                    refine O.load sc3 rfl rfl rfl (H.cell 0 rfl 0 _ rfl) ?_
                    obtain ⟨t1, ht1, hm2⟩ := bind_some hm2
                    refine O.sub rfl rfl rfl rfl ht1 ?_
                    obtain ⟨t2, ht2, hm2⟩ := bind_some hm2
                    refine O.mul rfl rfl rfl rfl ht2 ?_
                    refine O.move (v := (.int .i64 a1)) rfl rfl rfl ?_
                    refine O.gtr rfl rfl rfl rfl ?_
                    refine WL.nil ?_
                    rcases ite_some hm2 with ⟨hc8, hm2⟩ | ⟨hc8, hm2⟩
                    · refine W.cond_true (congrArg Value.bool hc8) ?_
                      refine W.seq ?_
                      refine W.region ?_
                      refine O.move (v := (.int .i64 (ik1 : Int))) rfl rfl rfl ?_
                      refine O.assign (v := (.int .i64 (ik1 : Int))) rfl rfl rfl ?_
                      refine O.assign (v := (.int .i64 0)) rfl rfl rfl ?_
                      refine WL.nil ?_
                      refine W.ret ?_
                      obtain rfl := Option.some.inj hm2
                      refine ⟨_, rfl, ?_⟩
                      rintro rfl
                      have hq : ((ik1 : Int), 0) = (r0, r1) := Option.some.inj (show some ((ik1 : Int), 0) = some (r0, r1) from hm)
                      obtain ⟨he0, hq0⟩ := Prod.mk.inj hq; clear hq; subst he0
                      subst hq0
                      exact ends2 Try.results43 rfl rfl ⟨_, rfl, H.base, rfl⟩
                    · refine W.cond_false (congrArg Value.bool hc8) ?_
                      refine W.skip ?_
                      refine W.region ?_
                      refine O.add rfl rfl rfl rfl hinck1 ?_
                      refine O.move (v := .int .i64 ((ik1 : Int) + 1)) rfl rfl rfl ?_
                      refine WL.nil ?_
                      obtain rfl := Option.some.inj hm2
                      exact ⟨_, rfl, rfl, rangeN_next hdropk1, rfl, rfl, rfl, H⟩
                  · skip
                    rintro ik1 _ f w ⟨rfl, hdropk1, hf38, hf1, hf2, H⟩ hfin
                    have hltk1 := rangeN_end hdropk1
                    obtain ⟨u7, rfl⟩ : ∃ u7, f = (upd (upd (upd u7 38 (.int .i64 (ik1 : Int))) 1 (.int .i64 a1)) 2 (.pointer (some ⟨b1, 0, none⟩))) := ⟨f, by rw [upd_self hf38, upd_self hf1, upd_self hf2]⟩
                    refine W.seq ?_
                    refine W.region ?_
                    refine O.lss rfl rfl rfl rfl ?_
                    refine WL.nil ?_
                    refine W.seq ?_
                    refine W.cond_false (congrArg Value.bool (decide_eq_false hltk1)) ?_
                    refine W.exit ?_
                    obtain rfl : Ctl.next () = o1 := hfin
                    have H := H.keep [] [] rfl (by decide)
                    refine xT rfl ?_
                    exact ⟨rfl, H⟩
                · skip
                  rintro f w ⟨rfl, H⟩
                  refine W.seq ?_
                  refine W.region ?_
                  refine O.assign (v := (.int .i64 0)) rfl rfl rfl ?_
                  refine O.assign (v := (.int .i64 8)) rfl rfl rfl ?_
                  refine WL.nil ?_
                  refine W.ret ?_
                  have hq : (0, 8) = (r0, r1) := Option.some.inj (show some (0, 8) = some (r0, r1) from hm)
                  obtain ⟨he0, hq0⟩ := Prod.mk.inj hq; clear hq; subst he0
                  subst hq0
                  exact ends2 Try.results43 rfl rfl ⟨_, rfl, H.base, rfl⟩

set_option maxRecDepth 20000 in
theorem c_noongunlaw06_RateOdd {w0 : World} (va0 : Value) (a0 : (List GBox)) (ha0 : SliceR w0 va0 a0) (a1 : Int) (a2 : GSpan) (a3 : Int) {r0 : Bool} (hm : noongunlaw06_RateOdd a0 a1 a2 a3 = some r0) :
    Calls Try.prog 10 #[va0, (.int .i64 a1), (.agg (Flat.cells a2).toArray), (.int .i64 a3)] w0 (Ret w0 fun _ v => v = (.bool r0)) := by
  unfold noongunlaw06_RateOdd at hm
  refine calls_of_W Try.func10 rfl Try.ntmps10 (Nat.le_of_ble_eq_true rfl) ?_
  have H := Inv.start (w := w0)
  refine W.seq ?_
  refine W.region ?_
  refine O.box [(.int .i64 a2.Lo), (.int .i64 a2.Hi)] H rfl rfl rfl rfl ?_
  intro b1 w1 H hb1
  refine O.assign (v := (.bool false)) rfl rfl rfl ?_
  refine WL.nil ?_
  refine W.seq ?_
  refine W.seq ?_
  refine W.region ?_
  refine O.move (v := va0) rfl rfl rfl ?_
  obtain ⟨t1, hy1, hm⟩ := bind_some hm
  refine O.call Try.call13 rfl rfl rfl (c_noongunlaw06_fit _ _ (H.arg ha0) hy1) ?_
  rintro _ w2 hb2 rfl
  have H := H.ext hb2
  refine O.not rfl rfl rfl ?_
  refine WL.nil ?_
  rcases ite_some hm with ⟨hc1, hm⟩ | ⟨hc1, hm⟩
  · refine W.cond_true (congrArg Value.bool hc1) ?_
    refine W.seq ?_
    refine W.region ?_
    obtain ⟨t2, hy2, hm⟩ := bind_some hm
    refine O.call Try.call14 rfl rfl rfl (c_noongunlaw06_awake  hy2) ?_
    rintro _ w3 hb3 rfl
    have H := H.ext hb3
    refine O.assign (v := (.bool t2)) rfl rfl rfl ?_
    refine WL.nil ?_
    refine W.ret ?_
    have hq : t2 = r0 := Option.some.inj (show some t2 = some r0 from hm)
    subst hq
    exact ends1 Try.results10 rfl ⟨_, rfl, H.base, rfl⟩
  · refine W.cond_false (congrArg Value.bool hc1) ?_
    refine W.skip ?_
    refine W.seq ?_
    refine W.region ?_
    refine O.move (v := va0) rfl rfl rfl ?_
    obtain ⟨⟨t3, t4⟩, hy3, hm⟩ := bind_some hm
    refine O.call Try.call38 rfl rfl rfl (c_rate_Odd _ _ (H.arg ha0) hy3) ?_
    rintro _ w4 hb4 rfl
    have H := H.ext hb4
    refine O.move (v := (.tuple #[(.int .i64 t3), (.int .i64 t4)])) rfl rfl rfl ?_
    refine O.extract (v := (.int .i64 t3)) rfl rfl rfl rfl ?_
    refine O.extract (v := (.int .i64 t4)) rfl rfl rfl rfl ?_
    refine O.assign (v := (.int .i64 t3)) rfl rfl rfl ?_
    refine O.assign (v := (.int .i64 t4)) rfl rfl rfl ?_
    refine WL.nil ?_
    refine W.seq ?_
    refine W.region ?_
    refine O.move (v := va0) rfl rfl rfl ?_
    obtain ⟨⟨t5, t6⟩, hy4, hm⟩ := bind_some hm
    refine O.call Try.call39 rfl rfl rfl (c_noongunref06_Odd _ _ (H.arg ha0) hy4) ?_
    rintro _ w5 hb5 rfl
    have H := H.ext hb5
    refine O.move (v := (.tuple #[(.int .i64 t5), (.int .i64 t6)])) rfl rfl rfl ?_
    refine O.extract (v := (.int .i64 t5)) rfl rfl rfl rfl ?_
    refine O.extract (v := (.int .i64 t6)) rfl rfl rfl rfl ?_
    refine O.assign (v := (.int .i64 t5)) rfl rfl rfl ?_
    refine O.assign (v := (.int .i64 t6)) rfl rfl rfl ?_
    refine WL.nil ?_
    refine W.seq ?_
    refine W.region ?_
    refine O.move (v := (.int .i64 a1)) rfl rfl rfl ?_
    obtain ⟨⟨t7, t8, t9⟩, hy5, hm⟩ := bind_some hm
    refine O.call Try.call40 rfl rfl rfl (c_rate_Arc _ hy5) ?_
    rintro _ w6 hb6 rfl
    have H := H.ext hb6
    refine O.move (v := (.tuple #[(.int .i64 t7), (.int .i64 t8), (.int .i64 t9)])) rfl rfl rfl ?_
    refine O.extract (v := (.int .i64 t7)) rfl rfl rfl rfl ?_
    refine O.extract (v := (.int .i64 t8)) rfl rfl rfl rfl ?_
    refine O.extract (v := (.int .i64 t9)) rfl rfl rfl rfl ?_
    refine O.assign (v := (.int .i64 t7)) rfl rfl rfl ?_
    refine O.assign (v := (.int .i64 t8)) rfl rfl rfl ?_
    refine O.assign (v := (.int .i64 t9)) rfl rfl rfl ?_
    refine WL.nil ?_
    refine W.seq ?_
    refine W.region ?_
    refine O.move (v := (.int .i64 a1)) rfl rfl rfl ?_
    obtain ⟨⟨t10, t11, t12⟩, hy6, hm⟩ := bind_some hm
    refine O.call Try.call41 rfl rfl rfl (c_noongunref06_Arc _ hy6) ?_
    rintro _ w7 hb7 rfl
    have H := H.ext hb7
    refine O.move (v := (.tuple #[(.int .i64 t10), (.int .i64 t11), (.int .i64 t12)])) rfl rfl rfl ?_
    refine O.extract (v := (.int .i64 t10)) rfl rfl rfl rfl ?_
    refine O.extract (v := (.int .i64 t11)) rfl rfl rfl rfl ?_
    refine O.extract (v := (.int .i64 t12)) rfl rfl rfl rfl ?_
    refine O.assign (v := (.int .i64 t10)) rfl rfl rfl ?_
    refine O.assign (v := (.int .i64 t11)) rfl rfl rfl ?_
    refine O.assign (v := (.int .i64 t12)) rfl rfl rfl ?_
    refine WL.nil ?_
    refine W.seq ?_
    refine W.region ?_
    refine O.loadA [(.int .i64 a2.Lo), (.int .i64 a2.Hi)] ag41 rfl rfl rfl rfl (H.cell 0 rfl) ?_
    refine O.move (v := (.int .i64 a3)) rfl rfl rfl ?_
    obtain ⟨⟨t13, t14⟩, hy7, hm⟩ := bind_some hm
    refine O.call Try.call42 rfl rfl rfl (c_rate_Days a2 _ hy7) ?_
    rintro _ w8 hb8 rfl
    have H := H.ext hb8
    refine O.move (v := (.tuple #[(.int .i64 t13), (.int .i64 t14)])) rfl rfl rfl ?_
    refine O.extract (v := (.int .i64 t13)) rfl rfl rfl rfl ?_
    refine O.extract (v := (.int .i64 t14)) rfl rfl rfl rfl ?_
    refine O.assign (v := (.int .i64 t13)) rfl rfl rfl ?_
    refine O.assign (v := (.int .i64 t14)) rfl rfl rfl ?_
    refine WL.nil ?_
    refine W.seq ?_
    refine W.region ?_
    refine O.loadA [(.int .i64 a2.Lo), (.int .i64 a2.Hi)] ag41 rfl rfl rfl rfl (H.cell 0 rfl) ?_
    refine O.move (v := (.int .i64 a3)) rfl rfl rfl ?_
    obtain ⟨⟨t15, t16⟩, hy8, hm⟩ := bind_some hm
    refine O.call Try.call43 rfl rfl rfl (c_noongunref06_Days a2 _ hy8) ?_
    rintro _ w9 hb9 rfl
    have H := H.ext hb9
    refine O.move (v := (.tuple #[(.int .i64 t15), (.int .i64 t16)])) rfl rfl rfl ?_
    refine O.extract (v := (.int .i64 t15)) rfl rfl rfl rfl ?_
    refine O.extract (v := (.int .i64 t16)) rfl rfl rfl rfl ?_
    refine O.assign (v := (.int .i64 t15)) rfl rfl rfl ?_
    refine O.assign (v := (.int .i64 t16)) rfl rfl rfl ?_
    refine WL.nil ?_
    refine W.seq ?_
    refine W.region ?_
    refine O.move (v := (.int .i64 t3)) rfl rfl rfl ?_
    refine O.move (v := (.int .i64 t5)) rfl rfl rfl ?_
    refine O.eql rfl rfl rfl rfl ?_
    refine O.move (v := (.bool (t3 == t5))) rfl rfl rfl ?_
    refine WL.cut 4 (fun f w => f 13 = (.int .i64 t7) ∧ f 14 = (.int .i64 t8) ∧ f 15 = (.int .i64 t9) ∧ f 16 = (.int .i64 t10) ∧ f 17 = (.int .i64 t11) ∧ f 18 = (.int .i64 t12) ∧ f 19 = (.int .i64 t13) ∧ f 20 = (.int .i64 t14) ∧ f 21 = (.int .i64 t15) ∧ f 22 = (.int .i64 t16) ∧ f 68 = .bool ((t3 == t5) && (t4 == t6)) ∧ Inv w0 w [boxI b1 41 [(.int .i64 a2.Lo), (.int .i64 a2.Hi)]]) ?_ ?_
    · skip
      rcases bool_ft (t3 == t5) with hc2 | hc2
      · skip
        refine WL.reset (i := 64) (v := .bool false) (congrArg Value.bool hc2) ?_
        refine O.skip rfl rfl ?_
        refine O.skip rfl rfl ?_
        refine O.skip rfl rfl ?_
        refine O.pick_false (v := (.bool false)) rfl rfl rfl rfl ?_
        refine WL.nil ?_
        exact ⟨rfl, rfl, rfl, rfl, rfl, rfl, rfl, rfl, rfl, rfl, congrArg Value.bool (and_f hc2), H⟩
      · skip
        refine WL.reset (i := 64) (v := .bool true) (congrArg Value.bool hc2) ?_
        refine O.move (v := (.int .i64 t4)) rfl rfl rfl ?_
        refine O.move (v := (.int .i64 t6)) rfl rfl rfl ?_
        refine O.eql rfl rfl rfl rfl ?_
        refine O.pick_true (v := (.bool (t4 == t6))) rfl rfl rfl rfl ?_
        refine WL.nil ?_
        exact ⟨rfl, rfl, rfl, rfl, rfl, rfl, rfl, rfl, rfl, rfl, congrArg Value.bool (and_t hc2), H⟩
    · skip
      rintro f w ⟨hf13, hf14, hf15, hf16, hf17, hf18, hf19, hf20, hf21, hf22, hf68, H⟩
      obtain ⟨u1, rfl⟩ : ∃ u1, f = (upd (upd (upd (upd (upd (upd (upd (upd (upd (upd (upd u1 13 (.int .i64 t7)) 14 (.int .i64 t8)) 15 (.int .i64 t9)) 16 (.int .i64 t10)) 17 (.int .i64 t11)) 18 (.int .i64 t12)) 19 (.int .i64 t13)) 20 (.int .i64 t14)) 21 (.int .i64 t15)) 22 (.int .i64 t16)) 68 (.bool ((t3 == t5) && (t4 == t6)))) := ⟨f, by rw [upd_self hf13, upd_self hf14, upd_self hf15, upd_self hf16, upd_self hf17, upd_self hf18, upd_self hf19, upd_self hf20, upd_self hf21, upd_self hf22, upd_self hf68]⟩
      refine O.move (v := (.bool ((t3 == t5) && (t4 == t6)))) rfl rfl rfl ?_
      refine WL.cut 4 (fun f w => f 14 = (.int .i64 t8) ∧ f 15 = (.int .i64 t9) ∧ f 17 = (.int .i64 t11) ∧ f 18 = (.int .i64 t12) ∧ f 19 = (.int .i64 t13) ∧ f 20 = (.int .i64 t14) ∧ f 21 = (.int .i64 t15) ∧ f 22 = (.int .i64 t16) ∧ f 73 = .bool (((t3 == t5) && (t4 == t6)) && (t7 == t10)) ∧ Inv w0 w [boxI b1 41 [(.int .i64 a2.Lo), (.int .i64 a2.Hi)]]) ?_ ?_
      · skip
        rcases bool_ft ((t3 == t5) && (t4 == t6)) with hc3 | hc3
        · skip
          refine WL.reset (i := 69) (v := .bool false) (congrArg Value.bool hc3) ?_
          refine O.skip rfl rfl ?_
          refine O.skip rfl rfl ?_
          refine O.skip rfl rfl ?_
          refine O.pick_false (v := (.bool false)) rfl rfl rfl rfl ?_
          refine WL.nil ?_
          exact ⟨rfl, rfl, rfl, rfl, rfl, rfl, rfl, rfl, congrArg Value.bool (and_f hc3), H⟩
        · skip
          refine WL.reset (i := 69) (v := .bool true) (congrArg Value.bool hc3) ?_
          refine O.move (v := (.int .i64 t7)) rfl rfl rfl ?_
          refine O.move (v := (.int .i64 t10)) rfl rfl rfl ?_
          refine O.eql rfl rfl rfl rfl ?_
          refine O.pick_true (v := (.bool (t7 == t10))) rfl rfl rfl rfl ?_
          refine WL.nil ?_
          exact ⟨rfl, rfl, rfl, rfl, rfl, rfl, rfl, rfl, congrArg Value.bool (and_t hc3), H⟩
      · skip
        rintro f w ⟨hf14, hf15, hf17, hf18, hf19, hf20, hf21, hf22, hf73, H⟩
        obtain ⟨u2, rfl⟩ : ∃ u2, f = (upd (upd (upd (upd (upd (upd (upd (upd (upd u2 14 (.int .i64 t8)) 15 (.int .i64 t9)) 17 (.int .i64 t11)) 18 (.int .i64 t12)) 19 (.int .i64 t13)) 20 (.int .i64 t14)) 21 (.int .i64 t15)) 22 (.int .i64 t16)) 73 (.bool (((t3 == t5) && (t4 == t6)) && (t7 == t10)))) := ⟨f, by rw [upd_self hf14, upd_self hf15, upd_self hf17, upd_self hf18, upd_self hf19, upd_self hf20, upd_self hf21, upd_self hf22, upd_self hf73]⟩
        refine O.move (v := (.bool (((t3 == t5) && (t4 == t6)) && (t7 == t10)))) rfl rfl rfl ?_
        refine WL.cut 4 (fun f w => f 15 = (.int .i64 t9) ∧ f 18 = (.int .i64 t12) ∧ f 19 = (.int .i64 t13) ∧ f 20 = (.int .i64 t14) ∧ f 21 = (.int .i64 t15) ∧ f 22 = (.int .i64 t16) ∧ f 78 = .bool ((((t3 == t5) && (t4 == t6)) && (t7 == t10)) && (t8 == t11)) ∧ Inv w0 w [boxI b1 41 [(.int .i64 a2.Lo), (.int .i64 a2.Hi)]]) ?_ ?_
        · skip
          rcases bool_ft (((t3 == t5) && (t4 == t6)) && (t7 == t10)) with hc4 | hc4
          · skip
            refine WL.reset (i := 74) (v := .bool false) (congrArg Value.bool hc4) ?_
            refine O.skip rfl rfl ?_
            refine O.skip rfl rfl ?_
            refine O.skip rfl rfl ?_
            refine O.pick_false (v := (.bool false)) rfl rfl rfl rfl ?_
            refine WL.nil ?_
            exact ⟨rfl, rfl, rfl, rfl, rfl, rfl, congrArg Value.bool (and_f hc4), H⟩
          · skip
            refine WL.reset (i := 74) (v := .bool true) (congrArg Value.bool hc4) ?_
            refine O.move (v := (.int .i64 t8)) rfl rfl rfl ?_
            refine O.move (v := (.int .i64 t11)) rfl rfl rfl ?_
            refine O.eql rfl rfl rfl rfl ?_
            refine O.pick_true (v := (.bool (t8 == t11))) rfl rfl rfl rfl ?_
            refine WL.nil ?_
            exact ⟨rfl, rfl, rfl, rfl, rfl, rfl, congrArg Value.bool (and_t hc4), H⟩
        · skip
          rintro f w ⟨hf15, hf18, hf19, hf20, hf21, hf22, hf78, H⟩
          obtain ⟨u3, rfl⟩ : ∃ u3, f = (upd (upd (upd (upd (upd (upd (upd u3 15 (.int .i64 t9)) 18 (.int .i64 t12)) 19 (.int .i64 t13)) 20 (.int .i64 t14)) 21 (.int .i64 t15)) 22 (.int .i64 t16)) 78 (.bool ((((t3 == t5) && (t4 == t6)) && (t7 == t10)) && (t8 == t11)))) := ⟨f, by rw [upd_self hf15, upd_self hf18, upd_self hf19, upd_self hf20, upd_self hf21, upd_self hf22, upd_self hf78]⟩
          refine O.move (v := (.bool ((((t3 == t5) && (t4 == t6)) && (t7 == t10)) && (t8 == t11)))) rfl rfl rfl ?_
          refine WL.cut 4 (fun f w => f 19 = (.int .i64 t13) ∧ f 20 = (.int .i64 t14) ∧ f 21 = (.int .i64 t15) ∧ f 22 = (.int .i64 t16) ∧ f 83 = .bool (((((t3 == t5) && (t4 == t6)) && (t7 == t10)) && (t8 == t11)) && (t9 == t12)) ∧ Inv w0 w [boxI b1 41 [(.int .i64 a2.Lo), (.int .i64 a2.Hi)]]) ?_ ?_
          · skip
            rcases bool_ft ((((t3 == t5) && (t4 == t6)) && (t7 == t10)) && (t8 == t11)) with hc5 | hc5
            · skip
              refine WL.reset (i := 79) (v := .bool false) (congrArg Value.bool hc5) ?_
              refine O.skip rfl rfl ?_
              refine O.skip rfl rfl ?_
              refine O.skip rfl rfl ?_
              refine O.pick_false (v := (.bool false)) rfl rfl rfl rfl ?_
              refine WL.nil ?_
              exact ⟨rfl, rfl, rfl, rfl, congrArg Value.bool (and_f hc5), H⟩
            · skip
              refine WL.reset (i := 79) (v := .bool true) (congrArg Value.bool hc5) ?_
              refine O.move (v := (.int .i64 t9)) rfl rfl rfl ?_
              refine O.move (v := (.int .i64 t12)) rfl rfl rfl ?_
              refine O.eql rfl rfl rfl rfl ?_
              refine O.pick_true (v := (.bool (t9 == t12))) rfl rfl rfl rfl ?_
              refine WL.nil ?_
              exact ⟨rfl, rfl, rfl, rfl, congrArg Value.bool (and_t hc5), H⟩
          · skip
            rintro f w ⟨hf19, hf20, hf21, hf22, hf83, H⟩
            obtain ⟨u4, rfl⟩ : ∃ u4, f = (upd (upd (upd (upd (upd u4 19 (.int .i64 t13)) 20 (.int .i64 t14)) 21 (.int .i64 t15)) 22 (.int .i64 t16)) 83 (.bool (((((t3 == t5) && (t4 == t6)) && (t7 == t10)) && (t8 == t11)) && (t9 == t12)))) := ⟨f, by rw [upd_self hf19, upd_self hf20, upd_self hf21, upd_self hf22, upd_self hf83]⟩
            refine O.move (v := (.bool (((((t3 == t5) && (t4 == t6)) && (t7 == t10)) && (t8 == t11)) && (t9 == t12)))) rfl rfl rfl ?_
            refine WL.cut 4 (fun f w => f 20 = (.int .i64 t14) ∧ f 22 = (.int .i64 t16) ∧ f 88 = .bool ((((((t3 == t5) && (t4 == t6)) && (t7 == t10)) && (t8 == t11)) && (t9 == t12)) && (t13 == t15)) ∧ Inv w0 w [boxI b1 41 [(.int .i64 a2.Lo), (.int .i64 a2.Hi)]]) ?_ ?_
            · skip
              rcases bool_ft (((((t3 == t5) && (t4 == t6)) && (t7 == t10)) && (t8 == t11)) && (t9 == t12)) with hc6 | hc6
              · skip
                refine WL.reset (i := 84) (v := .bool false) (congrArg Value.bool hc6) ?_
                refine O.skip rfl rfl ?_
                refine O.skip rfl rfl ?_
                refine O.skip rfl rfl ?_
                refine O.pick_false (v := (.bool false)) rfl rfl rfl rfl ?_
                refine WL.nil ?_
                exact ⟨rfl, rfl, congrArg Value.bool (and_f hc6), H⟩
              · skip
                refine WL.reset (i := 84) (v := .bool true) (congrArg Value.bool hc6) ?_
                refine O.move (v := (.int .i64 t13)) rfl rfl rfl ?_
                refine O.move (v := (.int .i64 t15)) rfl rfl rfl ?_
                refine O.eql rfl rfl rfl rfl ?_
                refine O.pick_true (v := (.bool (t13 == t15))) rfl rfl rfl rfl ?_
                refine WL.nil ?_
                exact ⟨rfl, rfl, congrArg Value.bool (and_t hc6), H⟩
            · skip
              rintro f w ⟨hf20, hf22, hf88, H⟩
              obtain ⟨u5, rfl⟩ : ∃ u5, f = (upd (upd (upd u5 20 (.int .i64 t14)) 22 (.int .i64 t16)) 88 (.bool ((((((t3 == t5) && (t4 == t6)) && (t7 == t10)) && (t8 == t11)) && (t9 == t12)) && (t13 == t15)))) := ⟨f, by rw [upd_self hf20, upd_self hf22, upd_self hf88]⟩
              refine O.move (v := (.bool ((((((t3 == t5) && (t4 == t6)) && (t7 == t10)) && (t8 == t11)) && (t9 == t12)) && (t13 == t15)))) rfl rfl rfl ?_
              refine WL.cut 4 (fun f w => f 93 = .bool (((((((t3 == t5) && (t4 == t6)) && (t7 == t10)) && (t8 == t11)) && (t9 == t12)) && (t13 == t15)) && (t14 == t16)) ∧ Inv w0 w [boxI b1 41 [(.int .i64 a2.Lo), (.int .i64 a2.Hi)]]) ?_ ?_
              · skip
                rcases bool_ft ((((((t3 == t5) && (t4 == t6)) && (t7 == t10)) && (t8 == t11)) && (t9 == t12)) && (t13 == t15)) with hc7 | hc7
                · skip
                  refine WL.reset (i := 89) (v := .bool false) (congrArg Value.bool hc7) ?_
                  refine O.skip rfl rfl ?_
                  refine O.skip rfl rfl ?_
                  refine O.skip rfl rfl ?_
                  refine O.pick_false (v := (.bool false)) rfl rfl rfl rfl ?_
                  refine WL.nil ?_
                  exact ⟨congrArg Value.bool (and_f hc7), H⟩
                · skip
                  refine WL.reset (i := 89) (v := .bool true) (congrArg Value.bool hc7) ?_
                  refine O.move (v := (.int .i64 t14)) rfl rfl rfl ?_
                  refine O.move (v := (.int .i64 t16)) rfl rfl rfl ?_
                  refine O.eql rfl rfl rfl rfl ?_
                  refine O.pick_true (v := (.bool (t14 == t16))) rfl rfl rfl rfl ?_
                  refine WL.nil ?_
                  exact ⟨congrArg Value.bool (and_t hc7), H⟩
              · skip
                rintro f w ⟨hf93, H⟩
                obtain ⟨u6, rfl⟩ : ∃ u6, f = (upd u6 93 (.bool (((((((t3 == t5) && (t4 == t6)) && (t7 == t10)) && (t8 == t11)) && (t9 == t12)) && (t13 == t15)) && (t14 == t16)))) := ⟨f, by rw [upd_self hf93]⟩
                refine O.move (v := (.bool (((((((t3 == t5) && (t4 == t6)) && (t7 == t10)) && (t8 == t11)) && (t9 == t12)) && (t13 == t15)) && (t14 == t16)))) rfl rfl rfl ?_
                obtain ⟨b2, hm1, hm⟩ := bind_some hm
                refine WL.cut 2 (fun f w => f 96 = .bool b2 ∧ Inv w0 w [boxI b1 41 [(.int .i64 a2.Lo), (.int .i64 a2.Hi)]]) ?_ ?_
                · skip
                  rcases ite_some hm1 with ⟨hc8, hm1⟩ | ⟨hc8, hm1⟩
                  · skip
                    refine WL.reset (i := 94) (v := .bool true) (congrArg Value.bool hc8) ?_
                    obtain ⟨t17, hy9, hm1⟩ := bind_some hm1
                    refine O.call Try.call14 rfl rfl rfl (c_noongunlaw06_awake  hy9) ?_
                    rintro _ w10 hb10 rfl
                    have H := H.ext hb10
                    refine O.pick_true (v := (.bool t17)) rfl rfl rfl rfl ?_
                    refine WL.nil ?_
                    have hq : t17 = b2 := Option.some.inj (show some t17 = some b2 from hm1)
                    subst hq
                    exact ⟨rfl, H⟩
                  · skip
                    refine WL.reset (i := 94) (v := .bool false) (congrArg Value.bool hc8) ?_
                    refine O.skip rfl rfl ?_
                    refine O.pick_false (v := (.bool false)) rfl rfl rfl rfl ?_
                    refine WL.nil ?_
                    have hq : false = b2 := Option.some.inj (show some false = some b2 from hm1)
                    subst hq
                    exact ⟨rfl, H⟩
                · skip
                  rintro f w ⟨hf96, H⟩
                  obtain ⟨u7, rfl⟩ : ∃ u7, f = (upd u7 96 (.bool b2)) := ⟨f, by rw [upd_self hf96]⟩
                  refine O.assign (v := (.bool b2)) rfl rfl rfl ?_
                  refine WL.nil ?_
                  refine W.ret ?_
                  have hq : b2 = r0 := Option.some.inj (show some b2 = some r0 from hm)
                  subst hq
                  exact ends1 Try.results10 rfl ⟨_, rfl, H.base, rfl⟩

theorem c_rate_Bought_c1 {w0 : World} (a0 : Int) {r0 : Bool} (hm : rate_Bought_c1 a0 = some r0) :
    Calls Try.prog 77 #[(.int .i64 a0)] w0 (Ret w0 fun _ v => v = (.bool r0)) := by
  unfold rate_Bought_c1 at hm
  refine calls_of_W Try.func77 rfl Try.ntmps77 (Nat.le_of_ble_eq_true rfl) ?_
  have H := Inv.start (w := w0)
  refine W.seq ?_
  refine W.region ?_
  refine O.assign (v := (.bool false)) rfl rfl rfl ?_
  refine WL.nil ?_
  refine W.seq ?_
  refine W.region ?_
  refine O.move (v := (.int .i64 a0)) rfl rfl rfl ?_
  obtain ⟨t1, hy1, hm⟩ := bind_some hm
  refine O.call Try.call59 rfl rfl rfl (c_rate_within _ _ _ hy1) ?_
  rintro _ w1 hb1 rfl
  have H := H.ext hb1
  refine O.not rfl rfl rfl ?_
  refine O.assign (v := (.bool (!t1))) rfl rfl rfl ?_
  refine WL.nil ?_
  refine W.ret ?_
  have hq : (!t1) = r0 := Option.some.inj (show some (!t1) = some r0 from hm)
  subst hq
  exact ends1 Try.results77 rfl ⟨_, rfl, H.base, rfl⟩

theorem c_rate_Bought_c2 {w0 : World} (a0 : GTrial) {r0 : Bool} (hm : rate_Bought_c2 a0 = some r0) :
    Calls Try.prog 78 #[(.agg (Flat.cells a0).toArray)] w0 (Ret w0 fun _ v => v = (.bool r0)) := by
  unfold rate_Bought_c2 at hm
  refine calls_of_W Try.func78 rfl Try.ntmps78 (Nat.le_of_ble_eq_true rfl) ?_
  have H := Inv.start (w := w0)
  refine W.seq ?_
  refine W.region ?_
  refine O.box [(.string a0.Name), (.int .i64 a0.Least), (.int .i64 a0.Greatest), (.int .i64 a0.Leap), (.int .i64 a0.Number)] H rfl rfl rfl rfl ?_
  intro b1 w1 H hb1
  refine O.assign (v := (.bool false)) rfl rfl rfl ?_
  refine WL.nil ?_
  refine W.seq ?_
  refine W.region ?_
  refine O.fieldAddr fd28_4 rfl rfl rfl ?_
  refine O.load sc3 rfl rfl rfl (H.cell 0 rfl 4 _ rfl) ?_
  obtain ⟨t1, hy1, hm⟩ := bind_some hm
  refine O.call Try.call59 rfl rfl rfl (c_rate_within _ _ _ hy1) ?_
  rintro _ w2 hb2 rfl
  have H := H.ext hb2
  refine O.not rfl rfl rfl ?_
  refine O.assign (v := (.bool (!t1))) rfl rfl rfl ?_
  refine WL.nil ?_
  refine W.ret ?_
  have hq : (!t1) = r0 := Option.some.inj (show some (!t1) = some r0 from hm)
  subst hq
  exact ends1 Try.results78 rfl ⟨_, rfl, H.base, rfl⟩

theorem c_slices_IndexFunc_Trial {w0 : World} (va0 : Value) (a0 : (List GTrial)) (ha0 : SliceR w0 va0 a0) (va1 : Value) (a1 : GTrial → Option (Bool)) (ha1 : ∀ (w : World), Below w0.heap.size w0 w → ∀ (x0 : GTrial) (y0 : Bool), a1 x0 = some y0 → CallsV Try.prog va1 #[(.agg (Flat.cells x0).toArray)] w (Ret w fun _ v => v = (.bool y0))) {r0 : Int} (hm : slices_IndexFunc_Trial a0 a1 = some r0) :
    Calls Try.prog 96 #[va0, va1] w0 (Ret w0 fun _ v => v = (.int .i64 r0)) := by
  unfold slices_IndexFunc_Trial at hm
  refine calls_of_W Try.func96 rfl Try.ntmps96 (Nat.le_of_ble_eq_true rfl) ?_
  have H := Inv.start (w := w0)
  refine W.seq ?_
  refine W.region ?_
  refine O.assign (v := (.int .i64 0)) rfl rfl rfl ?_
  refine WL.nil ?_
  refine W.seq ?_
  refine W.seq ?_
  refine W.region ?_
  refine O.move (v := va0) rfl rfl rfl ?_
  refine O.lenS Try.underlying62 (H.arg ha0) rfl rfl rfl ?_
  refine O.move (v := (.int .i64 0)) rfl rfl rfl ?_
  refine WL.nil ?_
  obtain ⟨o1, hm1, hm⟩ := bind_some hm
  refine W.via (fun f w => o1 = .next () ∧ Inv w0 w []) ?_ ?_
  · skip
    refine W.block ?_
    have hbdik1 := (H.arg ha0).len_le
    refine W.rangeN (i := 0) hm1 (fun rem ik1 s f w => () = s ∧ (ik1 : Int) + rem = max 0 ((a0.length : Nat) : Int) ∧ f 8 = .int .i64 (ik1 : Int) ∧ f 7 = (.int .i64 ((a0.length : Nat) : Int)) ∧ f 0 = va0 ∧ f 1 = va1 ∧ Inv w0 w []) ?_ ?_ ?_
    · skip
      exact ⟨rfl, rangeN_start, rfl, rfl, rfl, rfl, H⟩
    · skip
      rintro k ik1 _ st f w ⟨rfl, hdropk1, hf8, hf7, hf0, hf1, H⟩ hm2
      have hltk1 := rangeN_lt hdropk1
      obtain ⟨u1, rfl⟩ : ∃ u1, f = (upd (upd (upd (upd u1 8 (.int .i64 (ik1 : Int))) 7 (.int .i64 ((a0.length : Nat) : Int))) 0 va0) 1 va1) := ⟨f, by rw [upd_self hf8, upd_self hf7, upd_self hf0, upd_self hf1]⟩
      have hinck1 := addI_lt hltk1 hbdik1
      refine W.seq ?_
      refine W.region ?_
      refine O.lss rfl rfl rfl rfl ?_
      refine WL.nil ?_
      refine W.seq ?_
      refine W.cond_true (congrArg Value.bool (decide_eq_true hltk1)) ?_
      refine W.skip ?_
      refine W.seq ?_
      refine W.block ?_
      refine W.seq ?_
      refine W.region ?_
      refine O.move (v := (.int .i64 (ik1 : Int))) rfl rfl rfl ?_
      refine O.assign (v := (.int .i64 (ik1 : Int))) rfl rfl rfl ?_
      refine WL.nil ?_
      refine W.seq ?_
      refine W.region ?_
      refine O.move (v := va1) rfl rfl rfl ?_
      refine O.move (v := va0) rfl rfl rfl ?_
      refine O.move (v := (.int .i64 (ik1 : Int))) rfl rfl rfl ?_
      obtain ⟨x1, hx1, hm2⟩ := bind_some hm2
      obtain ⟨p1, hp1, hrp1⟩ := fix_indexAddr Try.underlying62 sz28 ha0 hx1
      refine hrp1 rfl rfl rfl rfl ?_
      refine O.loadA [(.string x1.Name), (.int .i64 x1.Least), (.int .i64 x1.Greatest), (.int .i64 x1.Leap), (.int .i64 x1.Number)] ag28 rfl rfl rfl rfl ((hp1.mono H.base).flat) ?_
      obtain ⟨t1, hy1, hm2⟩ := bind_some hm2
      refine O.callV rfl rfl rfl rfl (ha1 _ H.base x1 _ hy1) ?_
      rintro _ w1 hb1 rfl
      have H := H.ext hb1
      refine WL.nil ?_
      rcases ite_some hm2 with ⟨hc1, hm2⟩ | ⟨hc1, hm2⟩
      · refine W.cond_true (congrArg Value.bool hc1) ?_
        refine W.seq ?_
        refine W.region ?_
        refine O.move (v := (.int .i64 (ik1 : Int))) rfl rfl rfl ?_
        refine O.assign (v := (.int .i64 (ik1 : Int))) rfl rfl rfl ?_
        refine WL.nil ?_
        refine W.ret ?_
        obtain rfl := Option.some.inj hm2
        refine ⟨_, rfl, ?_⟩
        rintro rfl
        have hq : (ik1 : Int) = r0 := Option.some.inj (show some (ik1 : Int) = some r0 from hm)
        subst hq
        exact ends1 Try.results96 rfl ⟨_, rfl, H.base, rfl⟩
      · refine W.cond_false (congrArg Value.bool hc1) ?_
        refine W.skip ?_
        refine W.region ?_
        refine O.add rfl rfl rfl rfl hinck1 ?_
        refine O.move (v := .int .i64 ((ik1 : Int) + 1)) rfl rfl rfl ?_
        refine WL.nil ?_
        obtain rfl := Option.some.inj hm2
        exact ⟨_, rfl, rfl, rangeN_next hdropk1, rfl, rfl, rfl, rfl, H⟩
    · skip
      rintro ik1 _ f w ⟨rfl, hdropk1, hf8, hf7, hf0, hf1, H⟩ hfin
      have hltk1 := rangeN_end hdropk1
      obtain ⟨u2, rfl⟩ : ∃ u2, f = (upd (upd (upd (upd u2 8 (.int .i64 (ik1 : Int))) 7 (.int .i64 ((a0.length : Nat) : Int))) 0 va0) 1 va1) := ⟨f, by rw [upd_self hf8, upd_self hf7, upd_self hf0, upd_self hf1]⟩
      refine W.seq ?_
      refine W.region ?_
      refine O.lss rfl rfl rfl rfl ?_
      refine WL.nil ?_
      refine W.seq ?_
      refine W.cond_false (congrArg Value.bool (decide_eq_false hltk1)) ?_
      refine W.exit ?_
      obtain rfl : Ctl.next () = o1 := hfin
      refine xT rfl ?_
      exact ⟨rfl, H⟩
  · skip
    rintro f w ⟨rfl, H⟩
    refine W.seq ?_
    refine W.region ?_
    refine O.assign (v := (.int .i64 (-1))) rfl rfl rfl ?_
    refine WL.nil ?_
    refine W.ret ?_
    have hq : (-1) = r0 := Option.some.inj (show some (-1) = some r0 from hm)
    subst hq
    exact ends1 Try.results96 rfl ⟨_, rfl, H.base, rfl⟩

theorem c_slices_ContainsFunc_Trial {w0 : World} (va0 : Value) (a0 : (List GTrial)) (ha0 : SliceR w0 va0 a0) (va1 : Value) (a1 : GTrial → Option (Bool)) (ha1 : ∀ (w : World), Below w0.heap.size w0 w → ∀ (x0 : GTrial) (y0 : Bool), a1 x0 = some y0 → CallsV Try.prog va1 #[(.agg (Flat.cells x0).toArray)] w (Ret w fun _ v => v = (.bool y0))) {r0 : Bool} (hm : slices_ContainsFunc_Trial a0 a1 = some r0) :
    Calls Try.prog 79 #[va0, va1] w0 (Ret w0 fun _ v => v = (.bool r0)) := by
  unfold slices_ContainsFunc_Trial at hm
  refine calls_of_W Try.func79 rfl Try.ntmps79 (Nat.le_of_ble_eq_true rfl) ?_
  have H := Inv.start (w := w0)
  refine W.seq ?_
  refine W.region ?_
  refine O.assign (v := (.bool false)) rfl rfl rfl ?_
  refine WL.nil ?_
  refine W.seq ?_
  refine W.region ?_
  refine O.move (v := va0) rfl rfl rfl ?_
  refine O.move (v := va1) rfl rfl rfl ?_
  obtain ⟨t1, hy1, hm⟩ := bind_some hm
  refine O.call Try.call96 rfl rfl rfl (c_slices_IndexFunc_Trial _ _ (H.arg ha0) va1 a1 (fun w hw => ha1 w (H.base.trans (hw.mono H.base.size))) hy1) ?_
  rintro _ w1 hb1 rfl
  have H := H.ext hb1
  refine O.geq rfl rfl rfl rfl ?_
  refine O.assign (v := (.bool (decide (0 ≤ t1)))) rfl rfl rfl ?_
  refine WL.nil ?_
  refine W.ret ?_
  have hq : (decide (0 ≤ t1)) = r0 := Option.some.inj (show some (decide (0 ≤ t1)) = some r0 from hm)
  subst hq
  exact ends1 Try.results79 rfl ⟨_, rfl, H.base, rfl⟩

theorem c_cmp_isNaN_int {w0 : World} (a0 : Int) {r0 : Bool} (hm : cmp_isNaN_int a0 = some r0) :
    Calls Try.prog 100 #[(.int .i64 a0)] w0 (Ret w0 fun _ v => v = (.bool r0)) := by
  unfold cmp_isNaN_int at hm
  refine calls_of_W Try.func100 rfl Try.ntmps100 (Nat.le_of_ble_eq_true rfl) ?_
  have H := Inv.start (w := w0)
  refine W.seq ?_
  refine W.region ?_
  refine O.assign (v := (.bool false)) rfl rfl rfl ?_
  refine WL.nil ?_
  refine W.seq ?_
  refine W.region ?_
  refine O.move (v := (.int .i64 a0)) rfl rfl rfl ?_
  refine O.move (v := (.int .i64 a0)) rfl rfl rfl ?_
  refine O.neq rfl rfl rfl rfl ?_
  refine O.assign (v := (.bool (a0 != a0))) rfl rfl rfl ?_
  refine WL.nil ?_
  refine W.ret ?_
  have hq : (a0 != a0) = r0 := Option.some.inj (show some (a0 != a0) = some r0 from hm)
  subst hq
  exact ends1 Try.results100 rfl ⟨_, rfl, H.base, rfl⟩

set_option maxRecDepth 20000 in
theorem c_cmp_Compare_int {w0 : World} (a0 : Int) (a1 : Int) {r0 : Int} (hm : cmp_Compare_int a0 a1 = some r0) :
    Calls Try.prog 88 #[(.int .i64 a0), (.int .i64 a1)] w0 (Ret w0 fun _ v => v = (.int .i64 r0)) := by
  unfold cmp_Compare_int at hm
  refine calls_of_W Try.func88 rfl Try.ntmps88 (Nat.le_of_ble_eq_true rfl) ?_
  have H := Inv.start (w := w0)
  refine W.seq ?_
  refine W.region ?_
  refine O.assign (v := (.int .i64 0)) rfl rfl rfl ?_
  refine WL.nil ?_
  refine W.seq ?_
  refine W.region ?_
  refine O.move (v := (.int .i64 a0)) rfl rfl rfl ?_
  obtain ⟨t1, hy1, hm⟩ := bind_some hm
  refine O.call Try.call100 rfl rfl rfl (c_cmp_isNaN_int _ hy1) ?_
  rintro _ w1 hb1 rfl
  have H := H.ext hb1
  refine O.assign (v := (.bool t1)) rfl rfl rfl ?_
  refine WL.nil ?_
  refine W.seq ?_
  refine W.region ?_
  refine O.move (v := (.int .i64 a1)) rfl rfl rfl ?_
  obtain ⟨t2, hy2, hm⟩ := bind_some hm
  refine O.call Try.call100 rfl rfl rfl (c_cmp_isNaN_int _ hy2) ?_
  rintro _ w2 hb2 rfl
  have H := H.ext hb2
  refine O.assign (v := (.bool t2)) rfl rfl rfl ?_
  refine WL.nil ?_
  refine W.seq ?_
  refine W.seq ?_
  refine W.region ?_
  refine O.move (v := (.bool t1)) rfl rfl rfl ?_
  refine WL.nil ?_
  rcases ite_some hm with ⟨hc1, hm⟩ | ⟨hc1, hm⟩
  · refine W.cond_true (congrArg Value.bool hc1) ?_
    refine W.seq ?_
    refine W.seq ?_
    refine W.region ?_
    refine O.move (v := (.bool t2)) rfl rfl rfl ?_
    refine WL.nil ?_
    rcases ite_some hm with ⟨hc2, hm⟩ | ⟨hc2, hm⟩
    · refine W.cond_true (congrArg Value.bool hc2) ?_
      refine W.seq ?_
      refine W.region ?_
      refine O.assign (v := (.int .i64 0)) rfl rfl rfl ?_
      refine WL.nil ?_
      refine W.ret ?_
      have hq : 0 = r0 := Option.some.inj (show some 0 = some r0 from hm)
      subst hq
      exact ends1 Try.results88 rfl ⟨_, rfl, H.base, rfl⟩
    · refine W.cond_false (congrArg Value.bool hc2) ?_
      refine W.skip ?_
      refine W.seq ?_
      refine W.region ?_
      refine O.assign (v := (.int .i64 (-1))) rfl rfl rfl ?_
      refine WL.nil ?_
      refine W.ret ?_
      have hq : (-1) = r0 := Option.some.inj (show some (-1) = some r0 from hm)
      subst hq
      exact ends1 Try.results88 rfl ⟨_, rfl, H.base, rfl⟩
  · refine W.cond_false (congrArg Value.bool hc1) ?_
    refine W.skip ?_
    refine W.seq ?_
    refine W.seq ?_
    refine W.region ?_
    refine O.move (v := (.bool t2)) rfl rfl rfl ?_
    refine WL.nil ?_
    rcases ite_some hm with ⟨hc3, hm⟩ | ⟨hc3, hm⟩
    · refine W.cond_true (congrArg Value.bool hc3) ?_
      refine W.seq ?_
      refine W.region ?_
      refine O.assign (v := (.int .i64 1)) rfl rfl rfl ?_
      refine WL.nil ?_
      refine W.ret ?_
      have hq : 1 = r0 := Option.some.inj (show some 1 = some r0 from hm)
      subst hq
      exact ends1 Try.results88 rfl ⟨_, rfl, H.base, rfl⟩
    · refine W.cond_false (congrArg Value.bool hc3) ?_
      refine W.skip ?_
      refine W.seq ?_
      refine W.seq ?_
      refine W.region ?_
      refine O.move (v := (.int .i64 a0)) rfl rfl rfl ?_
      refine O.move (v := (.int .i64 a1)) rfl rfl rfl ?_
      refine O.lss rfl rfl rfl rfl ?_
      refine WL.nil ?_
      rcases ite_some hm with ⟨hc4, hm⟩ | ⟨hc4, hm⟩
      · refine W.cond_true (congrArg Value.bool hc4) ?_
        refine W.seq ?_
        refine W.region ?_
        refine O.assign (v := (.int .i64 (-1))) rfl rfl rfl ?_
        refine WL.nil ?_
        refine W.ret ?_
        have hq : (-1) = r0 := Option.some.inj (show some (-1) = some r0 from hm)
        subst hq
        exact ends1 Try.results88 rfl ⟨_, rfl, H.base, rfl⟩
      · refine W.cond_false (congrArg Value.bool hc4) ?_
        refine W.skip ?_
        refine W.seq ?_
        refine W.seq ?_
        refine W.region ?_
        refine O.move (v := (.int .i64 a0)) rfl rfl rfl ?_
        refine O.move (v := (.int .i64 a1)) rfl rfl rfl ?_
        refine O.gtr rfl rfl rfl rfl ?_
        refine WL.nil ?_
        rcases ite_some hm with ⟨hc5, hm⟩ | ⟨hc5, hm⟩
        · refine W.cond_true (congrArg Value.bool hc5) ?_
          refine W.seq ?_
          refine W.region ?_
          refine O.assign (v := (.int .i64 1)) rfl rfl rfl ?_
          refine WL.nil ?_
          refine W.ret ?_
          have hq : 1 = r0 := Option.some.inj (show some 1 = some r0 from hm)
          subst hq
          exact ends1 Try.results88 rfl ⟨_, rfl, H.base, rfl⟩
        · refine W.cond_false (congrArg Value.bool hc5) ?_
          refine W.skip ?_
          refine W.seq ?_
          refine W.region ?_
          refine O.assign (v := (.int .i64 0)) rfl rfl rfl ?_
          refine WL.nil ?_
          refine W.ret ?_
          have hq : 0 = r0 := Option.some.inj (show some 0 = some r0 from hm)
          subst hq
          exact ends1 Try.results88 rfl ⟨_, rfl, H.base, rfl⟩

end Go.Proofs
