/-
  The walks: each function does what its model says, where the model has a value. No other condition.
-/
import Derived.Test.YtohbkbimgfkblaaW0
namespace Go.Proofs
open Go.Fw Go.RowKit
set_option maxRecDepth 20000 in
theorem c_noongunlaw06_RateHolds {w0 : World} (va0_0 : Value) (a0 : GBox) (ha0_0 : SliceR w0 va0_0 a0.Errors) (a1 : Int) (va2 : Value) (a2 : (List Int)) (ha2 : SliceR w0 va2 a2) {r0 : Bool} (hm : noongunlaw06_RateHolds a0 a1 a2 = some r0) :
    Calls Try.prog 5 #[(.agg #[(.string a0.Name), va0_0]), (.int .i64 a1), va2] w0 (Ret w0 fun _ v => v = (.bool r0)) := by
  unfold noongunlaw06_RateHolds at hm
  refine calls_of_W Try.func5 rfl Try.ntmps5 (Nat.le_of_ble_eq_true rfl) ?_
  have H := Inv.start (w := w0)
  refine W.seq ?_
  refine W.region ?_
  refine O.box [(.string a0.Name), va0_0] H rfl rfl rfl rfl ?_
  intro b1 w1 H hb1
  refine O.assign (v := (.bool false)) rfl rfl rfl ?_
  refine WL.nil ?_
  refine W.seq ?_
  refine W.seq ?_
  refine W.region ?_
  refine O.loadA [(.string a0.Name), va0_0] ag24 rfl rfl rfl rfl (H.cell 0 rfl) ?_
  refine O.buildSliceR (α := GBox) [(.agg #[(.string a0.Name), va0_0])] [(GBox.mk a0.Name a0.Errors)] Try.underlying55 el24 (RepL.cons (α := GBox) (v := (.agg #[(.string a0.Name), va0_0])) (GBox_rep (H.arg ha0_0)) RepL.nil) rfl rfl rfl rfl rfl ?_
  intro v1 w2 hb2 hs1
  have H := H.ext hb2
  obtain ⟨t1, ht1, hm⟩ := bind_some hm
  refine O.call Try.call13 rfl rfl rfl (c_noongunlaw06_fit _ _ hs1 ht1) ?_
  rintro _ w3 hb3 rfl
  have hs1 := hs1.mono hb3
  have H := H.ext hb3
  refine O.not rfl rfl rfl ?_
  refine O.move (v := (.bool (!t1))) rfl rfl rfl ?_
  refine WL.cut 4 (fun f w => f 1 = (.int .i64 a1) ∧ f 2 = va2 ∧ f 3 = (.pointer (some ⟨b1, 0, none⟩)) ∧ f 24 = .bool ((!t1) || (decide (20 < ((a2.length : Nat) : Int)))) ∧ Inv w0 w [boxI b1 24 [(.string a0.Name), va0_0]]) ?_ ?_
  · skip
    rcases bool_ft (!t1) with hc1 | hc1
    · skip
      refine WL.reset (i := 20) (v := .bool false) (congrArg Value.bool hc1) ?_
      refine O.move (v := va2) rfl rfl rfl ?_
      refine O.lenS Try.underlying22 (H.arg ha2) rfl rfl rfl ?_
      refine O.gtr rfl rfl rfl rfl ?_
      refine O.pick_false (v := (.bool (decide (20 < ((a2.length : Nat) : Int))))) rfl rfl rfl rfl ?_
      refine WL.nil ?_
      exact ⟨rfl, rfl, rfl, congrArg Value.bool (or_f hc1), H⟩
    · skip
      refine WL.reset (i := 20) (v := .bool true) (congrArg Value.bool hc1) ?_
      refine O.skip rfl rfl ?_
      refine O.skip rfl rfl ?_
      refine O.skip rfl rfl ?_
      refine O.pick_true (v := (.bool true)) rfl rfl rfl rfl ?_
      refine WL.nil ?_
      exact ⟨rfl, rfl, rfl, congrArg Value.bool (or_t hc1), H⟩
  · skip
    rintro f w ⟨hf1, hf2, hf3, hf24, H⟩
    obtain ⟨u1, rfl⟩ : ∃ u1, f = (upd (upd (upd (upd u1 1 (.int .i64 a1)) 2 va2) 3 (.pointer (some ⟨b1, 0, none⟩))) 24 (.bool ((!t1) || (decide (20 < ((a2.length : Nat) : Int)))))) := ⟨f, by rw [upd_self hf1, upd_self hf2, upd_self hf3, upd_self hf24]⟩
    refine O.move (v := (.bool ((!t1) || (decide (20 < ((a2.length : Nat) : Int)))))) rfl rfl rfl ?_
    refine WL.cut 3 (fun f w => f 1 = (.int .i64 a1) ∧ f 2 = va2 ∧ f 3 = (.pointer (some ⟨b1, 0, none⟩)) ∧ f 28 = .bool (((!t1) || (decide (20 < ((a2.length : Nat) : Int)))) || (decide (a1 < 1))) ∧ Inv w0 w [boxI b1 24 [(.string a0.Name), va0_0]]) ?_ ?_
    · skip
      rcases bool_ft ((!t1) || (decide (20 < ((a2.length : Nat) : Int)))) with hc2 | hc2
      · skip
        refine WL.reset (i := 25) (v := .bool false) (congrArg Value.bool hc2) ?_
        refine O.move (v := (.int .i64 a1)) rfl rfl rfl ?_
        refine O.lss rfl rfl rfl rfl ?_
        refine O.pick_false (v := (.bool (decide (a1 < 1)))) rfl rfl rfl rfl ?_
        refine WL.nil ?_
        exact ⟨rfl, rfl, rfl, congrArg Value.bool (or_f hc2), H⟩
      · skip
        refine WL.reset (i := 25) (v := .bool true) (congrArg Value.bool hc2) ?_
        refine O.skip rfl rfl ?_
        refine O.skip rfl rfl ?_
        refine O.pick_true (v := (.bool true)) rfl rfl rfl rfl ?_
        refine WL.nil ?_
        exact ⟨rfl, rfl, rfl, congrArg Value.bool (or_t hc2), H⟩
    · skip
      rintro f w ⟨hf1, hf2, hf3, hf28, H⟩
      obtain ⟨u2, rfl⟩ : ∃ u2, f = (upd (upd (upd (upd u2 1 (.int .i64 a1)) 2 va2) 3 (.pointer (some ⟨b1, 0, none⟩))) 28 (.bool (((!t1) || (decide (20 < ((a2.length : Nat) : Int)))) || (decide (a1 < 1))))) := ⟨f, by rw [upd_self hf1, upd_self hf2, upd_self hf3, upd_self hf28]⟩
      refine WL.nil ?_
      rcases ite_some hm with ⟨hc3, hm⟩ | ⟨hc3, hm⟩
      · refine W.cond_true (congrArg Value.bool hc3) ?_
        refine W.seq ?_
        refine W.region ?_
        obtain ⟨t2, ht2, hm⟩ := bind_some hm
        refine O.call Try.call14 rfl rfl rfl (c_noongunlaw06_awake  ht2) ?_
        rintro _ w4 hb4 rfl
        have H := H.ext hb4
        refine O.assign (v := (.bool t2)) rfl rfl rfl ?_
        refine WL.nil ?_
        refine W.ret ?_
        have hq : t2 = r0 := Option.some.inj (show some t2 = some r0 from hm)
        subst hq
        exact ends1 Try.results5 rfl ⟨_, rfl, H.base, rfl⟩
      · refine W.cond_false (congrArg Value.bool hc3) ?_
        refine W.skip ?_
        refine W.seq ?_
        refine W.region ?_
        refine O.loadA [(.string a0.Name), va0_0] ag24 rfl rfl rfl rfl (H.cell 0 rfl) ?_
        obtain ⟨⟨t3, t4⟩, ht3, hm⟩ := bind_some hm
        refine O.call Try.call20 rfl rfl rfl (c_rate_Daily _ (GBox.mk a0.Name a0.Errors) (H.arg ha0_0) ht3) ?_
        rintro _ w5 hb5 ⟨v2, rfl, ho1⟩
        have H := H.addOwn hb5 ho1
        refine O.move (v := (.tuple #[v2, (.int .i64 t4)])) rfl rfl rfl ?_
        refine O.extract (v := v2) rfl rfl rfl rfl ?_
        refine O.extract (v := (.int .i64 t4)) rfl rfl rfl rfl ?_
        refine O.assign (v := v2) rfl rfl rfl ?_
        refine O.assign (v := (.int .i64 t4)) rfl rfl rfl ?_
        refine WL.nil ?_
        refine W.seq ?_
        refine W.seq ?_
        refine W.region ?_
        refine O.move (v := (.int .i64 t4)) rfl rfl rfl ?_
        refine O.neq rfl rfl rfl rfl ?_
        refine O.move (v := (.bool (t4 != 0))) rfl rfl rfl ?_
        refine WL.cut 5 (fun f w => f 1 = (.int .i64 a1) ∧ f 2 = va2 ∧ f 3 = (.pointer (some ⟨b1, 0, none⟩)) ∧ f 7 = v2 ∧ f 42 = .bool ((t4 != 0) || (decide (((t3.length : Nat) : Int) < a1))) ∧ Inv w0 w [boxI b1 24 [(.string a0.Name), va0_0], ownI (α := Int) v2 3 t3]) ?_ ?_
        · skip
          rcases bool_ft (t4 != 0) with hc4 | hc4
          · skip
            refine WL.reset (i := 37) (v := .bool false) (congrArg Value.bool hc4) ?_
            refine O.move (v := (.int .i64 a1)) rfl rfl rfl ?_
            refine O.move (v := v2) rfl rfl rfl ?_
            refine O.lenS Try.underlying22 (H.own 1 rfl) rfl rfl rfl ?_
            refine O.gtr rfl rfl rfl rfl ?_
            refine O.pick_false (v := (.bool (decide (((t3.length : Nat) : Int) < a1)))) rfl rfl rfl rfl ?_
            refine WL.nil ?_
            exact ⟨rfl, rfl, rfl, rfl, congrArg Value.bool (or_f hc4), H⟩
          · skip
            refine WL.reset (i := 37) (v := .bool true) (congrArg Value.bool hc4) ?_
            refine O.skip rfl rfl ?_
            refine O.skip rfl rfl ?_
            refine O.skip rfl rfl ?_
            refine O.skip rfl rfl ?_
            refine O.pick_true (v := (.bool true)) rfl rfl rfl rfl ?_
            refine WL.nil ?_
            exact ⟨rfl, rfl, rfl, rfl, congrArg Value.bool (or_t hc4), H⟩
        · skip
          rintro f w ⟨hf1, hf2, hf3, hf7, hf42, H⟩
          obtain ⟨u3, rfl⟩ : ∃ u3, f = (upd (upd (upd (upd (upd u3 1 (.int .i64 a1)) 2 va2) 3 (.pointer (some ⟨b1, 0, none⟩))) 7 v2) 42 (.bool ((t4 != 0) || (decide (((t3.length : Nat) : Int) < a1))))) := ⟨f, by rw [upd_self hf1, upd_self hf2, upd_self hf3, upd_self hf7, upd_self hf42]⟩
          refine WL.nil ?_
          rcases ite_some hm with ⟨hc5, hm⟩ | ⟨hc5, hm⟩
          · refine W.cond_true (congrArg Value.bool hc5) ?_
            refine W.seq ?_
            refine W.region ?_
            obtain ⟨t5, ht4, hm⟩ := bind_some hm
            refine O.call Try.call14 rfl rfl rfl (c_noongunlaw06_awake  ht4) ?_
            rintro _ w6 hb6 rfl
            have H := H.ext hb6
            refine O.assign (v := (.bool t5)) rfl rfl rfl ?_
            refine WL.nil ?_
            refine W.ret ?_
            have hq : t5 = r0 := Option.some.inj (show some t5 = some r0 from hm)
            subst hq
            exact ends1 Try.results5 rfl ⟨_, rfl, H.base, rfl⟩
          · refine W.cond_false (congrArg Value.bool hc5) ?_
            refine W.skip ?_
            refine W.seq ?_
            obtain ⟨t6, ht6, hm⟩ := bind_some hm
            obtain ⟨t7, ht7, hm⟩ := bind_some hm
            obtain ⟨v3, hs2, hrv3⟩ := fix_sliceL Try.underlying22 sz3 (H.own 1 rfl) ht7
            obtain ⟨t8, ht5, hm⟩ := bind_some hm
            obtain ⟨t9, ht9, hm⟩ := bind_some hm
            obtain ⟨t10, ht10, hm⟩ := bind_some hm
            obtain ⟨v4, hs3, hrv4⟩ := fix_sliceL Try.underlying22 sz3 (H.own 1 rfl) ht10
            refine W.drawG 13 false [] (fun _ w9 => Below (World.heap w).size w w9) (fun f => f 1 = (.int .i64 a1) ∧ f 2 = va2 ∧ f 3 = (.pointer (some ⟨b1, 0, none⟩)) ∧ f 50 = (.int .i64 t8) ∧ f 56 = v4) fol (by kernel_rfl) (fun _ => ⟨rfl, rfl, rfl, Nat.le_refl _, fun _ _ => rfl⟩) ?_ ?_ ?_
            · skip
              refine PL.of (fun _ wk _ hx => O.move (v := v2) rfl rfl rfl (WL.nil ⟨rfl, hx⟩)) ?_
              refine PL.of (fun _ wk _ hx => O.move (v := v2) rfl rfl rfl (WL.nil ⟨rfl, hx⟩)) ?_
              refine PL.of (fun _ wk _ hx => by have H := H.ext hx; exact O.lenS Try.underlying22 (H.own 1 rfl) rfl rfl rfl (WL.nil ⟨rfl, hx⟩)) ?_
              refine PL.of (fun _ wk _ hx => O.move (v := (.int .i64 a1)) rfl rfl rfl (WL.nil ⟨rfl, hx⟩)) ?_
              refine PL.of (fun _ wk _ hx => O.sub rfl rfl rfl rfl ht6 (WL.nil ⟨rfl, hx⟩)) ?_
              refine PL.of (fun _ wk _ hx => hrv3 rfl rfl rfl rfl (WL.nil ⟨rfl, hx⟩)) ?_
              refine PL.of (fun _ wk _ hx => by have hs2 := hs2.mono hx; exact O.call Try.call21 rfl rfl rfl (c_noongunref06_Least _ _ hs2 ht5) (by rintro _ _ hb rfl; exact WL.nil ⟨rfl, hx.trans (hb.mono hx.size)⟩)) ?_
              refine PL.of (fun _ wk _ hx => O.move (v := v2) rfl rfl rfl (WL.nil ⟨rfl, hx⟩)) ?_
              refine PL.of (fun _ wk _ hx => O.move (v := v2) rfl rfl rfl (WL.nil ⟨rfl, hx⟩)) ?_
              refine PL.of (fun _ wk _ hx => by have H := H.ext hx; exact O.lenS Try.underlying22 (H.own 1 rfl) rfl rfl rfl (WL.nil ⟨rfl, hx⟩)) ?_
              refine PL.of (fun _ wk _ hx => O.move (v := (.int .i64 a1)) rfl rfl rfl (WL.nil ⟨rfl, hx⟩)) ?_
              refine PL.of (fun _ wk _ hx => O.sub rfl rfl rfl rfl ht9 (WL.nil ⟨rfl, hx⟩)) ?_
              refine PL.of (fun _ wk _ hx => hrv4 rfl rfl rfl rfl (WL.nil ⟨rfl, hx⟩)) ?_
              refine PL.nil ?_
              exact ⟨rfl, rfl, rfl, rfl, rfl⟩
            · skip
              intro h; cases h
            · skip
              rintro f w ⟨hf1, hf2, hf3, hf50, hf56⟩ hmd hx
              have H := H.ext hx
              have hs2 := hs2.mono hx
              have hs3 := hs3.mono hx
              obtain ⟨u4, rfl⟩ : ∃ u4, f = (upd (upd (upd (upd (upd u4 1 (.int .i64 a1)) 2 va2) 3 (.pointer (some ⟨b1, 0, none⟩))) 50 (.int .i64 t8)) 56 v4) := ⟨f, by rw [upd_self hf1, upd_self hf2, upd_self hf3, upd_self hf50, upd_self hf56]⟩
              obtain ⟨t11, ht6, hm⟩ := bind_some hm
              refine O.call Try.call22 rfl rfl rfl (c_noongunref06_Greatest _ _ hs3 ht6) ?_
              rintro _ w7 hb7 rfl
              have hs2 := hs2.mono hb7
              have hs3 := hs3.mono hb7
              have H := H.ext hb7
              refine O.assign (v := (.int .i64 t8)) rfl rfl rfl ?_
              refine O.assign (v := (.int .i64 t11)) rfl rfl rfl ?_
              refine WL.nil ?_
              refine W.seq ?_
              refine W.region ?_
              refine O.fieldAddr fd24_1 rfl rfl rfl ?_
              refine O.load sc22 rfl rfl rfl (H.cell 0 rfl 1 _ rfl) ?_
              refine O.fieldAddr fd24_1 rfl rfl rfl ?_
              refine O.load sc22 rfl rfl rfl (H.cell 0 rfl 1 _ rfl) ?_
              refine O.lenS Try.underlying22 (H.arg ha0_0) rfl rfl rfl ?_
              obtain ⟨t12, ht12, hm⟩ := bind_some hm
              refine O.sub rfl rfl rfl rfl ht12 ?_
              obtain ⟨x1, hx1, hm⟩ := bind_some hm
              obtain ⟨p1, hp1, hrp1⟩ := fix_indexAddr Try.underlying22 sz3 ha0_0 hx1
              refine hrp1 rfl rfl rfl rfl ?_
              refine O.load sc3 rfl rfl rfl ((hp1.mono H.base).flat 0 _ rfl) ?_
              refine O.assign (v := (.int .i64 x1)) rfl rfl rfl ?_
              refine WL.nil ?_
              refine W.seq ?_
              refine W.seq ?_
              refine W.region ?_
              refine O.move (v := va2) rfl rfl rfl ?_
              refine O.lenS Try.underlying22 (H.arg ha2) rfl rfl rfl ?_
              refine O.move (v := (.int .i64 0)) rfl rfl rfl ?_
              refine WL.nil ?_
              obtain ⟨o1, hm1, hm⟩ := bind_some hm
              refine W.via (fun f w => o1 = .next () ∧ Inv w0 w []) ?_ ?_
              · skip
                refine W.block ?_
                have hbdik1 := (H.arg ha2).len_le
                have H := H.keep [0] [boxI b1 24 [(.string a0.Name), va0_0]] rfl (by decide)
                refine W.rangeN (i := 0) hm1 (fun rem ik1 s f w => ∃ z2 : Int, z2 = s ∧ (ik1 : Int) + rem = max 0 ((a2.length : Nat) : Int) ∧ f 68 = .int .i64 (ik1 : Int) ∧ f 67 = (.int .i64 ((a2.length : Nat) : Int)) ∧ f 1 = (.int .i64 a1) ∧ f 3 = (.pointer (some ⟨b1, 0, none⟩)) ∧ f 9 = (.int .i64 t8) ∧ f 10 = (.int .i64 t11) ∧ f 11 = (.int .i64 z2) ∧ f 66 = va2 ∧ Inv w0 w [boxI b1 24 [(.string a0.Name), va0_0]]) ?_ ?_ ?_
                · skip
                  exact ⟨_, rfl, rangeN_start, rfl, rfl, rfl, rfl, rfl, rfl, rfl, rfl, H⟩
                · skip
                  rintro k ik1 _ st f w ⟨z2, rfl, hdropk1, hf68, hf67, hf1, hf3, hf9, hf10, hf11, hf66, H⟩ hm2
                  have hltk1 := rangeN_lt hdropk1
                  obtain ⟨u5, rfl⟩ : ∃ u5, f = (upd (upd (upd (upd (upd (upd (upd (upd u5 68 (.int .i64 (ik1 : Int))) 67 (.int .i64 ((a2.length : Nat) : Int))) 1 (.int .i64 a1)) 3 (.pointer (some ⟨b1, 0, none⟩))) 9 (.int .i64 t8)) 10 (.int .i64 t11)) 11 (.int .i64 z2)) 66 va2) := ⟨f, by rw [upd_self hf68, upd_self hf67, upd_self hf1, upd_self hf3, upd_self hf9, upd_self hf10, upd_self hf11, upd_self hf66]⟩
                  have hinck1 := addI_lt hltk1 hbdik1
                  refine W.seq ?_
                  refine W.region ?_
                  refine O.lss rfl rfl rfl rfl ?_
                  refine WL.nil ?_
                  refine W.seq ?_
                  refine W.cond_true (congrArg Value.bool (decide_eq_true hltk1)) ?_
                  refine W.skip ?_
                  refine W.seq ?_
                  refine W.block ?_
                  refine W.seq ?_
                  refine W.region ?_
                  refine O.move (v := (.int .i64 (ik1 : Int))) rfl rfl rfl ?_
                  obtain ⟨x2, hx2, hm2⟩ := bind_some hm2
                  obtain ⟨p2, hp2, hrp2⟩ := fix_indexAddr Try.underlying22 sz3 ha2 hx2
                  refine hrp2 rfl rfl rfl rfl ?_
                  refine O.load sc3 rfl rfl rfl ((hp2.mono H.base).flat 0 _ rfl) ?_
                  refine O.assign (v := (.int .i64 (ik1 : Int))) rfl rfl rfl ?_
                  refine O.assign (v := (.int .i64 x2)) rfl rfl rfl ?_
                  refine WL.nil ?_
                  refine W.seq ?_
                  refine W.region ?_
                  refine O.move (v := (.int .i64 z2)) rfl rfl rfl ?_
                  refine O.move (v := (.int .i64 t8)) rfl rfl rfl ?_
                  refine O.move (v := (.int .i64 t11)) rfl rfl rfl ?_
                  refine O.move (v := (.int .i64 x2)) rfl rfl rfl ?_
                  refine O.min2 rfl rfl rfl rfl ?_
                  refine O.max2 rfl rfl rfl rfl ?_
                  obtain ⟨t13, ht13, hm2⟩ := bind_some hm2
                  refine O.add rfl rfl rfl rfl ht13 ?_
                  refine O.assign (v := (.int .i64 t13)) rfl rfl rfl ?_
                  refine WL.nil ?_
                  refine W.seq ?_
                  refine W.region ?_
                  refine O.loadA [(.string a0.Name), va0_0] ag24 rfl rfl rfl rfl (H.cell 0 rfl) ?_
                  refine O.move (v := (.int .i64 a1)) rfl rfl rfl ?_
                  refine O.move (v := (.int .i64 (ik1 : Int))) rfl rfl rfl ?_
                  obtain ⟨t14, ht14, hm2⟩ := bind_some hm2
                  refine O.add rfl rfl rfl rfl ht14 ?_
                  obtain ⟨⟨t15, t16⟩, ht7, hm2⟩ := bind_some hm2
                  refine O.call Try.call23 rfl rfl rfl (c_rate_Ahead _ (GBox.mk a0.Name a0.Errors) (H.arg ha0_0) _ _ ht7) ?_
                  rintro _ w8 hb8 rfl
                  have H := H.ext hb8
                  refine O.move (v := (.tuple #[(.agg (Flat.cells t15).toArray), (.int .i64 t16)])) rfl rfl rfl ?_
                  refine O.extract (v := (.agg (Flat.cells t15).toArray)) rfl rfl rfl rfl ?_
                  refine O.extract (v := (.int .i64 t16)) rfl rfl rfl rfl ?_
                  refine O.alloc [(.int .i64 0), (.int .i64 0)] ze41 H rfl rfl rfl ?_
                  intro b2 w9 H hb9
                  refine O.store 1 0 [(.int .i64 t15.Lo), (.int .i64 t15.Hi)] [(.int .i64 t15.Lo), (.int .i64 t15.Hi)] sz41 H rfl rfl rfl rfl rfl rfl ⟨⟨rfl, rfl⟩, rfl⟩ (one_cons rfl (one_cons rfl one_nil)) ?_
                  intro w10 H
                  refine O.assign (v := (.int .i64 t16)) rfl rfl rfl ?_
                  refine WL.nil ?_
                  refine W.seq ?_
                  refine W.region ?_
                  refine O.move (v := (.int .i64 t16)) rfl rfl rfl ?_
                  refine O.neq rfl rfl rfl rfl ?_
                  refine O.move (v := (.bool (t16 != 0))) rfl rfl rfl ?_
                  refine WL.cut 5 (fun f w => f 1 = (.int .i64 a1) ∧ f 3 = (.pointer (some ⟨b1, 0, none⟩)) ∧ f 9 = (.int .i64 t8) ∧ f 10 = (.int .i64 t11) ∧ f 11 = (.int .i64 t13) ∧ f 14 = (.pointer (some ⟨b2, 0, none⟩)) ∧ f 66 = va2 ∧ f 67 = (.int .i64 ((a2.length : Nat) : Int)) ∧ f 68 = (.int .i64 (ik1 : Int)) ∧ f 95 = .bool ((t16 != 0) || (decide (t13 < t15.Lo))) ∧ Inv w0 w [boxI b1 24 [(.string a0.Name), va0_0], boxI b2 41 [(.int .i64 t15.Lo), (.int .i64 t15.Hi)]]) ?_ ?_
                  · skip
                    rcases bool_ft (t16 != 0) with hc6 | hc6
                    · skip
                      refine WL.reset (i := 90) (v := .bool false) (congrArg Value.bool hc6) ?_
                      refine O.move (v := (.int .i64 t13)) rfl rfl rfl ?_
                      refine O.fieldAddr fd41_0 rfl rfl rfl ?_
                      refine O.load sc3 rfl rfl rfl (H.cell 1 rfl 0 _ rfl) ?_
                      refine O.lss rfl rfl rfl rfl ?_
                      refine O.pick_false (v := (.bool (decide (t13 < t15.Lo)))) rfl rfl rfl rfl ?_
                      refine WL.nil ?_
                      exact ⟨rfl, rfl, rfl, rfl, rfl, rfl, rfl, rfl, rfl, congrArg Value.bool (or_f hc6), H⟩
                    · skip
                      refine WL.reset (i := 90) (v := .bool true) (congrArg Value.bool hc6) ?_
                      refine O.skip rfl rfl ?_
                      refine O.skip rfl rfl ?_
                      refine O.skip rfl rfl ?_
                      refine O.skip rfl rfl ?_
                      refine O.pick_true (v := (.bool true)) rfl rfl rfl rfl ?_
                      refine WL.nil ?_
                      exact ⟨rfl, rfl, rfl, rfl, rfl, rfl, rfl, rfl, rfl, congrArg Value.bool (or_t hc6), H⟩
                  · skip
                    rintro f w ⟨hf1, hf3, hf9, hf10, hf11, hf14, hf66, hf67, hf68, hf95, H⟩
                    obtain ⟨u6, rfl⟩ : ∃ u6, f = (upd (upd (upd (upd (upd (upd (upd (upd (upd (upd u6 1 (.int .i64 a1)) 3 (.pointer (some ⟨b1, 0, none⟩))) 9 (.int .i64 t8)) 10 (.int .i64 t11)) 11 (.int .i64 t13)) 14 (.pointer (some ⟨b2, 0, none⟩))) 66 va2) 67 (.int .i64 ((a2.length : Nat) : Int))) 68 (.int .i64 (ik1 : Int))) 95 (.bool ((t16 != 0) || (decide (t13 < t15.Lo))))) := ⟨f, by rw [upd_self hf1, upd_self hf3, upd_self hf9, upd_self hf10, upd_self hf11, upd_self hf14, upd_self hf66, upd_self hf67, upd_self hf68, upd_self hf95]⟩
                    refine O.move (v := (.bool ((t16 != 0) || (decide (t13 < t15.Lo))))) rfl rfl rfl ?_
                    refine WL.cut 5 (fun f w => f 1 = (.int .i64 a1) ∧ f 3 = (.pointer (some ⟨b1, 0, none⟩)) ∧ f 9 = (.int .i64 t8) ∧ f 10 = (.int .i64 t11) ∧ f 11 = (.int .i64 t13) ∧ f 66 = va2 ∧ f 67 = (.int .i64 ((a2.length : Nat) : Int)) ∧ f 68 = (.int .i64 (ik1 : Int)) ∧ f 101 = .bool (((t16 != 0) || (decide (t13 < t15.Lo))) || (decide (t15.Hi < t13))) ∧ Inv w0 w [boxI b1 24 [(.string a0.Name), va0_0], boxI b2 41 [(.int .i64 t15.Lo), (.int .i64 t15.Hi)]]) ?_ ?_
                    · skip
                      rcases bool_ft ((t16 != 0) || (decide (t13 < t15.Lo))) with hc7 | hc7
                      · skip
                        refine WL.reset (i := 96) (v := .bool false) (congrArg Value.bool hc7) ?_
                        refine O.move (v := (.int .i64 t13)) rfl rfl rfl ?_
                        refine O.fieldAddr fd41_1 rfl rfl rfl ?_
                        refine O.load sc3 rfl rfl rfl (H.cell 1 rfl 1 _ rfl) ?_
                        refine O.gtr rfl rfl rfl rfl ?_
                        refine O.pick_false (v := (.bool (decide (t15.Hi < t13)))) rfl rfl rfl rfl ?_
                        refine WL.nil ?_
                        exact ⟨rfl, rfl, rfl, rfl, rfl, rfl, rfl, rfl, congrArg Value.bool (or_f hc7), H⟩
                      · skip
                        refine WL.reset (i := 96) (v := .bool true) (congrArg Value.bool hc7) ?_
                        refine O.skip rfl rfl ?_
                        refine O.skip rfl rfl ?_
                        refine O.skip rfl rfl ?_
                        refine O.skip rfl rfl ?_
                        refine O.pick_true (v := (.bool true)) rfl rfl rfl rfl ?_
                        refine WL.nil ?_
                        exact ⟨rfl, rfl, rfl, rfl, rfl, rfl, rfl, rfl, congrArg Value.bool (or_t hc7), H⟩
                    · skip
                      rintro f w ⟨hf1, hf3, hf9, hf10, hf11, hf66, hf67, hf68, hf101, H⟩
                      obtain ⟨u7, rfl⟩ : ∃ u7, f = (upd (upd (upd (upd (upd (upd (upd (upd (upd u7 1 (.int .i64 a1)) 3 (.pointer (some ⟨b1, 0, none⟩))) 9 (.int .i64 t8)) 10 (.int .i64 t11)) 11 (.int .i64 t13)) 66 va2) 67 (.int .i64 ((a2.length : Nat) : Int))) 68 (.int .i64 (ik1 : Int))) 101 (.bool (((t16 != 0) || (decide (t13 < t15.Lo))) || (decide (t15.Hi < t13))))) := ⟨f, by rw [upd_self hf1, upd_self hf3, upd_self hf9, upd_self hf10, upd_self hf11, upd_self hf66, upd_self hf67, upd_self hf68, upd_self hf101]⟩
                      refine WL.nil ?_
                      rcases ite_some hm2 with ⟨hc8, hm2⟩ | ⟨hc8, hm2⟩
                      · refine W.cond_true (congrArg Value.bool hc8) ?_
                        refine W.seq ?_
                        refine W.region ?_
                        refine O.assign (v := (.bool false)) rfl rfl rfl ?_
                        refine WL.nil ?_
                        refine W.ret ?_
                        obtain rfl := Option.some.inj hm2
                        refine ⟨_, rfl, ?_⟩
                        rintro rfl
                        have hq : false = r0 := Option.some.inj (show some false = some r0 from hm)
                        subst hq
                        exact ends1 Try.results5 rfl ⟨_, rfl, H.base, rfl⟩
                      · refine W.cond_false (congrArg Value.bool hc8) ?_
                        refine W.skip ?_
                        refine W.region ?_
                        refine O.add rfl rfl rfl rfl hinck1 ?_
                        refine O.move (v := .int .i64 ((ik1 : Int) + 1)) rfl rfl rfl ?_
                        refine WL.nil ?_
                        have H := H.keep [0] [boxI b1 24 [(.string a0.Name), va0_0]] rfl (by decide)
                        obtain rfl := Option.some.inj hm2
                        exact ⟨_, rfl, _, rfl, rangeN_next hdropk1, rfl, rfl, rfl, rfl, rfl, rfl, rfl, rfl, H⟩
                · skip
                  rintro ik1 _ f w ⟨z2, rfl, hdropk1, hf68, hf67, hf1, hf3, hf9, hf10, hf11, hf66, H⟩ hfin
                  have hltk1 := rangeN_end hdropk1
                  obtain ⟨u8, rfl⟩ : ∃ u8, f = (upd (upd (upd (upd (upd (upd (upd (upd u8 68 (.int .i64 (ik1 : Int))) 67 (.int .i64 ((a2.length : Nat) : Int))) 1 (.int .i64 a1)) 3 (.pointer (some ⟨b1, 0, none⟩))) 9 (.int .i64 t8)) 10 (.int .i64 t11)) 11 (.int .i64 z2)) 66 va2) := ⟨f, by rw [upd_self hf68, upd_self hf67, upd_self hf1, upd_self hf3, upd_self hf9, upd_self hf10, upd_self hf11, upd_self hf66]⟩
                  refine W.seq ?_
                  refine W.region ?_
                  refine O.lss rfl rfl rfl rfl ?_
                  refine WL.nil ?_
                  refine W.seq ?_
                  refine W.cond_false (congrArg Value.bool (decide_eq_false hltk1)) ?_
                  refine W.exit ?_
                  obtain rfl : Ctl.next () = o1 := hfin
                  have H := H.keep [] [] rfl (by decide)
                  refine xT rfl ?_
                  exact ⟨rfl, H⟩
              · skip
                rintro f w ⟨rfl, H⟩
                refine W.seq ?_
                refine W.region ?_
                obtain ⟨t17, ht8, hm⟩ := bind_some hm
                refine O.call Try.call14 rfl rfl rfl (c_noongunlaw06_awake  ht8) ?_
                rintro _ w11 hb10 rfl
                have H := H.ext hb10
                refine O.assign (v := (.bool t17)) rfl rfl rfl ?_
                refine WL.nil ?_
                refine W.ret ?_
                have hq : t17 = r0 := Option.some.inj (show some t17 = some r0 from hm)
                subst hq
                exact ends1 Try.results5 rfl ⟨_, rfl, H.base, rfl⟩

end Go.Proofs
