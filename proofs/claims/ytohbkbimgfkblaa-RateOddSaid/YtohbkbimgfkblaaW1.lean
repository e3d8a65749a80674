/-
  The walks: each function does what its model says, where the model has a value. No other condition.
-/
import Derived.Test.YtohbkbimgfkblaaW0
namespace Go.Proofs
open Go.Fw Go.RowKit
set_option maxRecDepth 20000 in
theorem c_noongunlaw06_RateHolds {w0 : World} (va0_0 : Value) (a0 : GBox) (ha0_0 : SliceR w0 va0_0 a0.Errors) (a1 : Int) (va2 : Value) (a2 : (List Int)) (ha2 : SliceR w0 va2 a2) {r0 : Bool} (hm : noongunlaw06_RateHolds a0 a1 a2 = some r0) :
    Calls Try.prog 5 #[(.agg #[(.string a0.Name), va0_0]), (.int .i64 a1), va2] w0 (Ret w0 fun _ v => v = (.bool r0)) := by
  unfold noongunlaw06_RateHolds at hm
  refine calls_of_W Try.func5 rfl Try.ntmps5 (Nat.le_of_ble_eq_true rfl) ?_
  have H := Inv.start (w := w0)
  refine W.seq ?_
  refine W.region ?_
  refine O.box [(.string a0.Name), va0_0] H rfl rfl rfl rfl ?_
  intro b1 w1 H hb1
  refine O.assign (v := (.bool false)) rfl rfl rfl ?_
  refine WL.nil ?_
  refine W.seq ?_
  refine W.seq ?_
  refine W.region ?_
  refine O.loadA [(.string a0.Name), va0_0] ag24 rfl rfl rfl rfl (H.cell 0 rfl) ?_
  refine O.buildSliceR (α := GBox) [(.agg #[(.string a0.Name), va0_0])] [(GBox.mk a0.Name a0.Errors)] Try.underlying55 el24 (RepL.cons (α := GBox) (v := (.agg #[(.string a0.Name), va0_0])) (GBox_rep (H.arg ha0_0)) RepL.nil) rfl rfl rfl rfl rfl ?_
  intro v1 w2 hb2 hs1
  have H := H.ext hb2
  obtain ⟨t1, hy1, hm⟩ := bind_some hm
  refine O.call Try.call13 rfl rfl rfl (c_noongunlaw06_fit _ _ hs1 hy1) ?_
  rintro _ w3 hb3 rfl
  have hs1 := hs1.mono hb3
  have H := H.ext hb3
  refine O.not rfl rfl rfl ?_
  refine O.move (v := (.bool (!t1))) rfl rfl rfl ?_
  refine WL.cut 4 (fun f w => f 1 = (.int .i64 a1) ∧ f 2 = va2 ∧ f 3 = (.pointer (some ⟨b1, 0, none⟩)) ∧ f 24 = .bool ((!t1) || (decide (20 < ((a2.length : Nat) : Int)))) ∧ Inv w0 w [boxI b1 24 [(.string a0.Name), va0_0]]) ?_ ?_
  · skip
    rcases bool_ft (!t1) with hc1 | hc1
    · skip
      refine WL.reset (i := 20) (v := .bool false) (congrArg Value.bool hc1) ?_
      refine O.move (v := va2) rfl rfl rfl ?_
      refine O.lenS Try.underlying22 (H.arg ha2) rfl rfl rfl ?_
      refine O.gtr rfl rfl rfl rfl ?_
      refine O.pick_false (v := (.bool (decide (20 < ((a2.length : Nat) : Int))))) rfl rfl rfl rfl ?_
      refine WL.nil ?_
      exact ⟨rfl, rfl, rfl, congrArg Value.bool (or_f hc1), H⟩
    · skip
      refine WL.reset (i := 20) (v := .bool true) (congrArg Value.bool hc1) ?_
      refine O.skip rfl rfl ?_
      refine O.skip rfl rfl ?_
      refine O.skip rfl rfl ?_
      refine O.pick_true (v := (.bool true)) rfl rfl rfl rfl ?_
      refine WL.nil ?_
      exact ⟨rfl, rfl, rfl, congrArg Value.bool (or_t hc1), H⟩
  · skip
    rintro f w ⟨hf1, hf2, hf3, hf24, H⟩
    obtain ⟨u1, rfl⟩ : ∃ u1, f = (upd (upd (upd (upd u1 1 (.int .i64 a1)) 2 va2) 3 (.pointer (some ⟨b1, 0, none⟩))) 24 (.bool ((!t1) || (decide (20 < ((a2.length : Nat) : Int)))))) := ⟨f, by rw [upd_self hf1, upd_self hf2, upd_self hf3, upd_self hf24]⟩
    refine O.move (v := (.bool ((!t1) || (decide (20 < ((a2.length : Nat) : Int)))))) rfl rfl rfl ?_
    refine WL.cut 3 (fun f w => f 1 = (.int .i64 a1) ∧ f 2 = va2 ∧ f 3 = (.pointer (some ⟨b1, 0, none⟩)) ∧ f 28 = .bool (((!t1) || (decide (20 < ((a2.length : Nat) : Int)))) || (decide (a1 < 1))) ∧ Inv w0 w [boxI b1 24 [(.string a0.Name), va0_0]]) ?_ ?_
    · skip
      rcases bool_ft ((!t1) || (decide (20 < ((a2.length : Nat) : Int)))) with hc2 | hc2
      · skip
        refine WL.reset (i := 25) (v := .bool false) (congrArg Value.bool hc2) ?_
        refine O.move (v := (.int .i64 a1)) rfl rfl rfl ?_
        refine O.lss rfl rfl rfl rfl ?_
        refine O.pick_false (v := (.bool (decide (a1 < 1)))) rfl rfl rfl rfl ?_
        refine WL.nil ?_
        exact ⟨rfl, rfl, rfl, congrArg Value.bool (or_f hc2), H⟩
      · skip
        refine WL.reset (i := 25) (v := .bool true) (congrArg Value.bool hc2) ?_
        refine O.skip rfl rfl ?_
        refine O.skip rfl rfl ?_
        refine O.pick_true (v := (.bool true)) rfl rfl rfl rfl ?_
        refine WL.nil ?_
        exact ⟨rfl, rfl, rfl, congrArg Value.bool (or_t hc2), H⟩
    · skip
      rintro f w ⟨hf1, hf2, hf3, hf28, H⟩
      obtain ⟨u2, rfl⟩ : ∃ u2, f = (upd (upd (upd (upd u2 1 (.int .i64 a1)) 2 va2) 3 (.pointer (some ⟨b1, 0, none⟩))) 28 (.bool (((!t1) || (decide (20 < ((a2.length : Nat) : Int)))) || (decide (a1 < 1))))) := ⟨f, by rw [upd_self hf1, upd_self hf2, upd_self hf3, upd_self hf28]⟩
      refine WL.nil ?_
      rcases ite_some hm with ⟨hc3, hm⟩ | ⟨hc3, hm⟩
      · refine W.cond_true (congrArg Value.bool hc3) ?_
        refine W.seq ?_
        refine W.region ?_
        obtain ⟨t2, hy2, hm⟩ := bind_some hm
        refine O.call Try.call14 rfl rfl rfl (c_noongunlaw06_awake  hy2) ?_
        rintro _ w4 hb4 rfl
        have H := H.ext hb4
        refine O.assign (v := (.bool t2)) rfl rfl rfl ?_
        refine WL.nil ?_
        refine W.ret ?_
        have hq : t2 = r0 := Option.some.inj (show some t2 = some r0 from hm)
        subst hq
        exact ends1 Try.results5 rfl ⟨_, rfl, H.base, rfl⟩
      · refine W.cond_false (congrArg Value.bool hc3) ?_
        refine W.skip ?_
        refine W.seq ?_
        refine W.region ?_
        refine O.loadA [(.string a0.Name), va0_0] ag24 rfl rfl rfl rfl (H.cell 0 rfl) ?_
        obtain ⟨⟨t3, t4⟩, hy3, hm⟩ := bind_some hm
        refine O.call Try.call20 rfl rfl rfl (c_rate_Daily _ (GBox.mk a0.Name a0.Errors) (H.arg ha0_0) hy3) ?_
        rintro _ w5 hb5 ⟨v2, rfl, ho1⟩
        have H := H.addOwn hb5 ho1
        refine O.move (v := (.tuple #[v2, (.int .i64 t4)])) rfl rfl rfl ?_
        refine O.extract (v := v2) rfl rfl rfl rfl ?_
        refine O.extract (v := (.int .i64 t4)) rfl rfl rfl rfl ?_
        refine O.assign (v := v2) rfl rfl rfl ?_
        refine O.assign (v := (.int .i64 t4)) rfl rfl rfl ?_
        refine WL.nil ?_
        refine W.seq ?_
        refine W.seq ?_
        refine W.region ?_
        refine O.move (v := (.int .i64 t4)) rfl rfl rfl ?_
        refine O.neq rfl rfl rfl rfl ?_
        refine O.move (v := (.bool (t4 != 0))) rfl rfl rfl ?_
        refine WL.cut 5 (fun f w => f 1 = (.int .i64 a1) ∧ f 2 = va2 ∧ f 3 = (.pointer (some ⟨b1, 0, none⟩)) ∧ f 7 = v2 ∧ f 42 = .bool ((t4 != 0) || (decide (((t3.length : Nat) : Int) < a1))) ∧ Inv w0 w [boxI b1 24 [(.string a0.Name), va0_0], ownI (α := Int) v2 3 t3]) ?_ ?_
        · skip
          rcases bool_ft (t4 != 0) with hc4 | hc4
          · skip
            refine WL.reset (i := 37) (v := .bool false) (congrArg Value.bool hc4) ?_
            refine O.move (v := (.int .i64 a1)) rfl rfl rfl ?_
            refine O.move (v := v2) rfl rfl rfl ?_
            refine O.lenS Try.underlying22 (H.own 1 rfl) rfl rfl rfl ?_
            refine O.gtr rfl rfl rfl rfl ?_
            refine O.pick_false (v := (.bool (decide (((t3.length : Nat) : Int) < a1)))) rfl rfl rfl rfl ?_
            refine WL.nil ?_
            exact ⟨rfl, rfl, rfl, rfl, congrArg Value.bool (or_f hc4), H⟩
          · skip
            refine WL.reset (i := 37) (v := .bool true) (congrArg Value.bool hc4) ?_
            refine O.skip rfl rfl ?_
            refine O.skip rfl rfl ?_
            refine O.skip rfl rfl ?_
            refine O.skip rfl rfl ?_
            refine O.pick_true (v := (.bool true)) rfl rfl rfl rfl ?_
            refine WL.nil ?_
            exact ⟨rfl, rfl, rfl, rfl, congrArg Value.bool (or_t hc4), H⟩
        · skip
          rintro f w ⟨hf1, hf2, hf3, hf7, hf42, H⟩
          obtain ⟨u3, rfl⟩ : ∃ u3, f = (upd (upd (upd (upd (upd u3 1 (.int .i64 a1)) 2 va2) 3 (.pointer (some ⟨b1, 0, none⟩))) 7 v2) 42 (.bool ((t4 != 0) || (decide (((t3.length : Nat) : Int) < a1))))) := ⟨f, by rw [upd_self hf1, upd_self hf2, upd_self hf3, upd_self hf7, upd_self hf42]⟩
          refine WL.nil ?_
          rcases ite_some hm with ⟨hc5, hm⟩ | ⟨hc5, hm⟩
          · refine W.cond_true (congrArg Value.bool hc5) ?_
            refine W.seq ?_
            refine W.region ?_
            obtain ⟨t5, hy4, hm⟩ := bind_some hm
            refine O.call Try.call14 rfl rfl rfl (c_noongunlaw06_awake  hy4) ?_
            rintro _ w6 hb6 rfl
            have H := H.ext hb6
            refine O.assign (v := (.bool t5)) rfl rfl rfl ?_
            refine WL.nil ?_
            refine W.ret ?_
            have hq : t5 = r0 := Option.some.inj (show some t5 = some r0 from hm)
            subst hq
            exact ends1 Try.results5 rfl ⟨_, rfl, H.base, rfl⟩
          · refine W.cond_false (congrArg Value.bool hc5) ?_
            refine W.skip ?_
            refine W.seq ?_
            obtain ⟨t6, ht6, hm⟩ := bind_some hm
            obtain ⟨t7, ht7, hm⟩ := bind_some hm
            obtain ⟨v3, hs2, hrv3⟩ := fix_sliceL Try.underlying22 sz3 (H.own 1 rfl) ht7
            obtain ⟨t8, hy5, hm⟩ := bind_some hm
            obtain ⟨t9, ht9, hm⟩ := bind_some hm
            obtain ⟨t10, ht10, hm⟩ := bind_some hm
            obtain ⟨v4, hs3, hrv4⟩ := fix_sliceL Try.underlying22 sz3 (H.own 1 rfl) ht10
            refine W.drawN 13 (fun f => f 1 = (.int .i64 a1) ∧ f 2 = va2 ∧ f 3 = (.pointer (some ⟨b1, 0, none⟩)) ∧ f 50 = (.int .i64 t8) ∧ f 56 = v4) fol (by kernel_rfl) ?_ ?_
            · skip
              refine PL.of (fun _ w8 _ hx => O.move (v := v2) rfl rfl rfl (WL.nil ⟨rfl, hx⟩)) ?_
              refine PL.of (fun _ w8 _ hx => O.move (v := v2) rfl rfl rfl (WL.nil ⟨rfl, hx⟩)) ?_
              refine PL.of (fun _ w8 _ hx => by have H := H.ext hx; exact O.lenS Try.underlying22 (H.own 1 rfl) rfl rfl rfl (WL.nil ⟨rfl, hx⟩)) ?_
              refine PL.of (fun _ w8 _ hx => O.move (v := (.int .i64 a1)) rfl rfl rfl (WL.nil ⟨rfl, hx⟩)) ?_
              refine PL.of (fun _ w8 _ hx => O.sub rfl rfl rfl rfl ht6 (WL.nil ⟨rfl, hx⟩)) ?_
              refine PL.of (fun _ w8 _ hx => hrv3 rfl rfl rfl rfl (WL.nil ⟨rfl, hx⟩)) ?_
              refine PL.of (fun _ w8 _ hx => by have hs2 := hs2.mono hx; exact O.call Try.call21 rfl rfl rfl (c_noongunref06_Least _ _ hs2 hy5) (by rintro _ _ hb rfl; exact WL.nil ⟨rfl, hx.trans (hb.mono hx.size)⟩)) ?_
              refine PL.of (fun _ w8 _ hx => O.move (v := v2) rfl rfl rfl (WL.nil ⟨rfl, hx⟩)) ?_
              refine PL.of (fun _ w8 _ hx => O.move (v := v2) rfl rfl rfl (WL.nil ⟨rfl, hx⟩)) ?_
              refine PL.of (fun _ w8 _ hx => by have H := H.ext hx; exact O.lenS Try.underlying22 (H.own 1 rfl) rfl rfl rfl (WL.nil ⟨rfl, hx⟩)) ?_
              refine PL.of (fun _ w8 _ hx => O.move (v := (.int .i64 a1)) rfl rfl rfl (WL.nil ⟨rfl, hx⟩)) ?_
              refine PL.of (fun _ w8 _ hx => O.sub rfl rfl rfl rfl ht9 (WL.nil ⟨rfl, hx⟩)) ?_
              refine PL.of (fun _ w8 _ hx => hrv4 rfl rfl rfl rfl (WL.nil ⟨rfl, hx⟩)) ?_
              refine PL.nil ?_
              exact ⟨rfl, rfl, rfl, rfl, rfl⟩
            · skip
              rintro f w ⟨hf1, hf2, hf3, hf50, hf56⟩ hmd hx
              have H := H.ext hx
              have hs2 := hs2.mono hx
              have hs3 := hs3.mono hx
              obtain ⟨u4, rfl⟩ : ∃ u4, f = (upd (upd (upd (upd (upd u4 1 (.int .i64 a1)) 2 va2) 3 (.pointer (some ⟨b1, 0, none⟩))) 50 (.int .i64 t8)) 56 v4) := ⟨f, by rw [upd_self hf1, upd_self hf2, upd_self hf3, upd_self hf50, upd_self hf56]⟩
              obtain ⟨t11, hy6, hm⟩ := bind_some hm
              refine O.call Try.call22 rfl rfl rfl (c_noongunref06_Greatest _ _ hs3 hy6) ?_
              rintro _ w7 hb7 rfl
              have hs2 := hs2.mono hb7
              have hs3 := hs3.mono hb7
              have H := H.ext hb7
              refine O.assign (v := (.int .i64 t8)) rfl rfl rfl ?_
              refine O.assign (v := (.int .i64 t11)) rfl rfl rfl ?_
              refine WL.nil ?_
              refine W.seq ?_
              refine W.region ?_
              refine O.fieldAddr fd24_1 rfl rfl rfl ?_
              refine O.load sc22 rfl rfl rfl (H.cell 0 rfl 1 _ rfl) ?_
              refine O.fieldAddr fd24_1 rfl rfl rfl ?_
              refine O.load sc22 rfl rfl rfl (H.cell 0 rfl 1 _ rfl) ?_
              refine O.lenS Try.underlying22 (H.arg ha0_0) rfl rfl rfl ?_
              obtain ⟨t12, ht12, hm⟩ := bind_some hm
              refine O.sub rfl rfl rfl rfl ht12 ?_
              obtain ⟨x1, hx1, hm⟩ := bind_some hm
              obtain ⟨p1, hp1, hrp1⟩ := fix_indexAddr Try.underlying22 sz3 ha0_0 hx1
              refine hrp1 rfl rfl rfl rfl ?_
              refine O.load sc3 rfl rfl rfl ((hp1.mono H.base).flat 0 _ rfl) ?_
              refine O.assign (v := (.int .i64 x1)) rfl rfl rfl ?_
              refine WL.nil ?_
              refine W.seq ?_
              refine W.seq ?_
              refine W.region ?_
              refine O.move (v := va2) rfl rfl rfl ?_
              refine O.lenS Try.underlying22 (H.arg ha2) rfl rfl rfl ?_
              refine O.move (v := (.int .i64 0)) rfl rfl rfl ?_
              refine WL.nil ?_
              obtain ⟨o1, hm1, hm⟩ := bind_some hm
              refine W.via (fun f w => o1 = .next () ∧ Inv w0 w []) ?_ ?_
              · skip
                refine W.block ?_
                have hbdik1 := (H.arg ha2).len_le
                have H := H.keep [0] [boxI b1 24 [(.string a0.Name), va0_0]] rfl (by decide)
                refine W.rangeN (i := 0) hm1 (fun rem ik1 s f w => ∃ z2 : Int, z2 = s ∧ (ik1 : Int) + rem = max 0 ((a2.length : Nat) : Int) ∧ f 68 = .int .i64 (ik1 : Int) ∧ f 67 = (.int .i64 ((a2.length : Nat) : Int)) ∧ f 1 = (.int .i64 a1) ∧ f 3 = (.pointer (some ⟨b1, 0, none⟩)) ∧ f 9 = (.int .i64 t8) ∧ f 10 = (.int .i64 t11) ∧ f 11 = (.int .i64 z2) ∧ f 66 = va2 ∧ Inv w0 w [boxI b1 24 [(.string a0.Name), va0_0]]) ?_ ?_ ?_
                · skip
                  exact ⟨_, rfl, rangeN_start, rfl, rfl, rfl, rfl, rfl, rfl, rfl, rfl, H⟩
                · skip
                  rintro k ik1 _ st f w ⟨z2, rfl, hdropk1, hf68, hf67, hf1, hf3, hf9, hf10, hf11, hf66, H⟩ hm2
                  have hltk1 := rangeN_lt hdropk1
                  obtain ⟨u5, rfl⟩ : ∃ u5, f = (upd (upd (upd (upd (upd (upd (upd (upd u5 68 (.int .i64 (ik1 : Int))) 67 (.int .i64 ((a2.length : Nat) : Int))) 1 (.int .i64 a1)) 3 (.pointer (some ⟨b1, 0, none⟩))) 9 (.int .i64 t8)) 10 (.int .i64 t11)) 11 (.int .i64 z2)) 66 va2) := ⟨f, by rw [upd_self hf68, upd_self hf67, upd_self hf1, upd_self hf3, upd_self hf9, upd_self hf10, upd_self hf11, upd_self hf66]⟩
                  have hinck1 := addI_lt hltk1 hbdik1
                  refine W.seq ?_
                  refine W.region ?_
                  refine O.lss rfl rfl rfl rfl ?_
                  refine WL.nil ?_
                  refine W.seq ?_
                  refine W.cond_true (congrArg Value.bool (decide_eq_true hltk1)) ?_
                  refine W.skip ?_
                  refine W.seq ?_
                  refine W.block ?_
                  refine W.seq ?_
                  refine W.region ?_
                  refine O.move (v := (.int .i64 (ik1 : Int))) rfl rfl rfl ?_
                  obtain ⟨x2, hx2, hm2⟩ := bind_some hm2
                  obtain ⟨p2, hp2, hrp2⟩ := fix_indexAddr Try.underlying22 sz3 ha2 hx2
                  refine hrp2 rfl rfl rfl rfl ?_
                  refine O.load sc3 rfl rfl rfl ((hp2.mono H.base).flat 0 _ rfl) ?_
                  refine O.assign (v := (.int .i64 (ik1 : Int))) rfl rfl rfl ?_
                  refine O.assign (v := (.int .i64 x2)) rfl rfl rfl ?_
                  refine WL.nil ?_
                  refine W.seq ?_
                  refine W.region ?_
                  refine O.move (v := (.int .i64 z2)) rfl rfl rfl ?_
                  refine O.move (v := (.int .i64 t8)) rfl rfl rfl ?_
                  refine O.move (v := (.int .i64 t11)) rfl rfl rfl ?_
                  refine O.move (v := (.int .i64 x2)) rfl rfl rfl ?_
                  refine O.min2 rfl rfl rfl rfl ?_
                  refine O.max2 rfl rfl rfl rfl ?_
                  obtain ⟨t13, ht13, hm2⟩ := bind_some hm2
                  refine O.add rfl rfl rfl rfl ht13 ?_
                  refine O.assign (v := (.int .i64 t13)) rfl rfl rfl ?_
                  refine WL.nil ?_
                  refine W.seq ?_
                  refine W.region ?_
                  refine O.loadA [(.string a0.Name), va0_0] ag24 rfl rfl rfl rfl (H.cell 0 rfl) ?_
                  refine O.move (v := (.int .i64 a1)) rfl rfl rfl ?_
                  refine O.move (v := (.int .i64 (ik1 : Int))) rfl rfl rfl ?_
                  obtain ⟨t14, ht14, hm2⟩ := bind_some hm2
                  refine O.add rfl rfl rfl rfl ht14 ?_
                  obtain ⟨⟨t15, t16⟩, hy7, hm2⟩ := bind_some hm2
                  refine O.call Try.call23 rfl rfl rfl (c_rate_Ahead _ (GBox.mk a0.Name a0.Errors) (H.arg ha0_0) _ _ hy7) ?_
                  rintro _ w8 hb8 rfl
                  have H := H.ext hb8
                  refine O.move (v := (.tuple #[(.agg (Flat.cells t15).toArray), (.int .i64 t16)])) rfl rfl rfl ?_
                  refine O.extract (v := (.agg (Flat.cells t15).toArray)) rfl rfl rfl rfl ?_
                  refine O.extract (v := (.int .i64 t16)) rfl rfl rfl rfl ?_
                  refine O.alloc [(.int .i64 0), (.int .i64 0)] ze41 H rfl rfl rfl ?_
                  intro b2 w9 H hb9
                  refine O.store 1 0 [(.int .i64 t15.Lo), (.int .i64 t15.Hi)] [(.int .i64 t15.Lo), (.int .i64 t15.Hi)] sz41 H rfl rfl rfl rfl rfl rfl ⟨⟨rfl, rfl⟩, rfl⟩ (one_cons rfl (one_cons rfl one_nil)) ?_
                  intro w10 H
                  refine O.assign (v := (.int .i64 t16)) rfl rfl rfl ?_
                  refine WL.nil ?_
                  refine W.seq ?_
                  refine W.region ?_
                  refine O.move (v := (.int .i64 t16)) rfl rfl rfl ?_
                  refine O.neq rfl rfl rfl rfl ?_
                  refine O.move (v := (.bool (t16 != 0))) rfl rfl rfl ?_
                  refine WL.cut 5 (fun f w => f 1 = (.int .i64 a1) ∧ f 3 = (.pointer (some ⟨b1, 0, none⟩)) ∧ f 9 = (.int .i64 t8) ∧ f 10 = (.int .i64 t11) ∧ f 11 = (.int .i64 t13) ∧ f 14 = (.pointer (some ⟨b2, 0, none⟩)) ∧ f 66 = va2 ∧ f 67 = (.int .i64 ((a2.length : Nat) : Int)) ∧ f 68 = (.int .i64 (ik1 : Int)) ∧ f 95 = .bool ((t16 != 0) || (decide (t13 < t15.Lo))) ∧ Inv w0 w [boxI b1 24 [(.string a0.Name), va0_0], boxI b2 41 [(.int .i64 t15.Lo), (.int .i64 t15.Hi)]]) ?_ ?_
                  · skip
                    rcases bool_ft (t16 != 0) with hc6 | hc6
                    · skip
                      refine WL.reset (i := 90) (v := .bool false) (congrArg Value.bool hc6) ?_
                      refine O.move (v := (.int .i64 t13)) rfl rfl rfl ?_
                      refine O.fieldAddr fd41_0 rfl rfl rfl ?_
                      refine O.load sc3 rfl rfl rfl (H.cell 1 rfl 0 _ rfl) ?_
                      refine O.lss rfl rfl rfl rfl ?_
                      refine O.pick_false (v := (.bool (decide (t13 < t15.Lo)))) rfl rfl rfl rfl ?_
                      refine WL.nil ?_
                      exact ⟨rfl, rfl, rfl, rfl, rfl, rfl, rfl, rfl, rfl, congrArg Value.bool (or_f hc6), H⟩
                    · skip
                      refine WL.reset (i := 90) (v := .bool true) (congrArg Value.bool hc6) ?_
                      refine O.skip rfl rfl ?_
                      refine O.skip rfl rfl ?_
                      refine O.skip rfl rfl ?_
                      refine O.skip rfl rfl ?_
                      refine O.pick_true (v := (.bool true)) rfl rfl rfl rfl ?_
                      refine WL.nil ?_
                      exact ⟨rfl, rfl, rfl, rfl, rfl, rfl, rfl, rfl, rfl, congrArg Value.bool (or_t hc6), H⟩
                  · skip
                    rintro f w ⟨hf1, hf3, hf9, hf10, hf11, hf14, hf66, hf67, hf68, hf95, H⟩
                    obtain ⟨u6, rfl⟩ : ∃ u6, f = (upd (upd (upd (upd (upd (upd (upd (upd (upd (upd u6 1 (.int .i64 a1)) 3 (.pointer (some ⟨b1, 0, none⟩))) 9 (.int .i64 t8)) 10 (.int .i64 t11)) 11 (.int .i64 t13)) 14 (.pointer (some ⟨b2, 0, none⟩))) 66 va2) 67 (.int .i64 ((a2.length : Nat) : Int))) 68 (.int .i64 (ik1 : Int))) 95 (.bool ((t16 != 0) || (decide (t13 < t15.Lo))))) := ⟨f, by rw [upd_self hf1, upd_self hf3, upd_self hf9, upd_self hf10, upd_self hf11, upd_self hf14, upd_self hf66, upd_self hf67, upd_self hf68, upd_self hf95]⟩
                    refine O.move (v := (.bool ((t16 != 0) || (decide (t13 < t15.Lo))))) rfl rfl rfl ?_
                    refine WL.cut 5 (fun f w => f 1 = (.int .i64 a1) ∧ f 3 = (.pointer (some ⟨b1, 0, none⟩)) ∧ f 9 = (.int .i64 t8) ∧ f 10 = (.int .i64 t11) ∧ f 11 = (.int .i64 t13) ∧ f 66 = va2 ∧ f 67 = (.int .i64 ((a2.length : Nat) : Int)) ∧ f 68 = (.int .i64 (ik1 : Int)) ∧ f 101 = .bool (((t16 != 0) || (decide (t13 < t15.Lo))) || (decide (t15.Hi < t13))) ∧ Inv w0 w [boxI b1 24 [(.string a0.Name), va0_0], boxI b2 41 [(.int .i64 t15.Lo), (.int .i64 t15.Hi)]]) ?_ ?_
                    · skip
                      rcases bool_ft ((t16 != 0) || (decide (t13 < t15.Lo))) with hc7 | hc7
                      · skip
                        refine WL.reset (i := 96) (v := .bool false) (congrArg Value.bool hc7) ?_
                        refine O.move (v := (.int .i64 t13)) rfl rfl rfl ?_
                        refine O.fieldAddr fd41_1 rfl rfl rfl ?_
                        refine O.load sc3 rfl rfl rfl (H.cell 1 rfl 1 _ rfl) ?_
                        refine O.gtr rfl rfl rfl rfl ?_
                        refine O.pick_false (v := (.bool (decide (t15.Hi < t13)))) rfl rfl rfl rfl ?_
                        refine WL.nil ?_
                        exact ⟨rfl, rfl, rfl, rfl, rfl, rfl, rfl, rfl, congrArg Value.bool (or_f hc7), H⟩
                      · skip
                        refine WL.reset (i := 96) (v := .bool true) (congrArg Value.bool hc7) ?_
                        refine O.skip rfl rfl ?_
                        refine O.skip rfl rfl ?_
                        refine O.skip rfl rfl ?_
                        refine O.skip rfl rfl ?_
                        refine O.pick_true (v := (.bool true)) rfl rfl rfl rfl ?_
                        refine WL.nil ?_
                        exact ⟨rfl, rfl, rfl, rfl, rfl, rfl, rfl, rfl, congrArg Value.bool (or_t hc7), H⟩
                    · skip
                      rintro f w ⟨hf1, hf3, hf9, hf10, hf11, hf66, hf67, hf68, hf101, H⟩
                      obtain ⟨u7, rfl⟩ : ∃ u7, f = (upd (upd (upd (upd (upd (upd (upd (upd (upd u7 1 (.int .i64 a1)) 3 (.pointer (some ⟨b1, 0, none⟩))) 9 (.int .i64 t8)) 10 (.int .i64 t11)) 11 (.int .i64 t13)) 66 va2) 67 (.int .i64 ((a2.length : Nat) : Int))) 68 (.int .i64 (ik1 : Int))) 101 (.bool (((t16 != 0) || (decide (t13 < t15.Lo))) || (decide (t15.Hi < t13))))) := ⟨f, by rw [upd_self hf1, upd_self hf3, upd_self hf9, upd_self hf10, upd_self hf11, upd_self hf66, upd_self hf67, upd_self hf68, upd_self hf101]⟩
                      refine WL.nil ?_
                      rcases ite_some hm2 with ⟨hc8, hm2⟩ | ⟨hc8, hm2⟩
                      · refine W.cond_true (congrArg Value.bool hc8) ?_
                        refine W.seq ?_
                        refine W.region ?_
                        refine O.assign (v := (.bool false)) rfl rfl rfl ?_
                        refine WL.nil ?_
                        refine W.ret ?_
                        obtain rfl := Option.some.inj hm2
                        refine ⟨_, rfl, ?_⟩
                        rintro rfl
                        have hq : false = r0 := Option.some.inj (show some false = some r0 from hm)
                        subst hq
                        exact ends1 Try.results5 rfl ⟨_, rfl, H.base, rfl⟩
                      · refine W.cond_false (congrArg Value.bool hc8) ?_
                        refine W.skip ?_
                        refine W.region ?_
                        refine O.add rfl rfl rfl rfl hinck1 ?_
                        refine O.move (v := .int .i64 ((ik1 : Int) + 1)) rfl rfl rfl ?_
                        refine WL.nil ?_
                        have H := H.keep [0] [boxI b1 24 [(.string a0.Name), va0_0]] rfl (by decide)
                        obtain rfl := Option.some.inj hm2
                        exact ⟨_, rfl, _, rfl, rangeN_next hdropk1, rfl, rfl, rfl, rfl, rfl, rfl, rfl, rfl, H⟩
                · skip
                  rintro ik1 _ f w ⟨z2, rfl, hdropk1, hf68, hf67, hf1, hf3, hf9, hf10, hf11, hf66, H⟩ hfin
                  have hltk1 := rangeN_end hdropk1
                  obtain ⟨u8, rfl⟩ : ∃ u8, f = (upd (upd (upd (upd (upd (upd (upd (upd u8 68 (.int .i64 (ik1 : Int))) 67 (.int .i64 ((a2.length : Nat) : Int))) 1 (.int .i64 a1)) 3 (.pointer (some ⟨b1, 0, none⟩))) 9 (.int .i64 t8)) 10 (.int .i64 t11)) 11 (.int .i64 z2)) 66 va2) := ⟨f, by rw [upd_self hf68, upd_self hf67, upd_self hf1, upd_self hf3, upd_self hf9, upd_self hf10, upd_self hf11, upd_self hf66]⟩
                  refine W.seq ?_
                  refine W.region ?_
                  refine O.lss rfl rfl rfl rfl ?_
                  refine WL.nil ?_
                  refine W.seq ?_
                  refine W.cond_false (congrArg Value.bool (decide_eq_false hltk1)) ?_
                  refine W.exit ?_
                  obtain rfl : Ctl.next () = o1 := hfin
                  have H := H.keep [] [] rfl (by decide)
                  refine xT rfl ?_
                  exact ⟨rfl, H⟩
              · skip
                rintro f w ⟨rfl, H⟩
                refine W.seq ?_
                refine W.region ?_
                obtain ⟨t17, hy8, hm⟩ := bind_some hm
                refine O.call Try.call14 rfl rfl rfl (c_noongunlaw06_awake  hy8) ?_
                rintro _ w11 hb10 rfl
                have H := H.ext hb10
                refine O.assign (v := (.bool t17)) rfl rfl rfl ?_
                refine WL.nil ?_
                refine W.ret ?_
                have hq : t17 = r0 := Option.some.inj (show some t17 = some r0 from hm)
                subst hq
                exact ends1 Try.results5 rfl ⟨_, rfl, H.base, rfl⟩

theorem c_slices_Clone_int {w0 : World} (va0 : Value) (a0 : (List Int)) (ha0 : SliceR w0 va0 a0) {r0 : (List Int)} (hm : slices_Clone_int a0 = some r0) :
    Calls Try.prog 65 #[va0] w0 (Ret w0 fun w v => OwnR w0 w v 3 r0) := by
  unfold slices_Clone_int at hm
  refine calls_of_W Try.func65 rfl Try.ntmps65 (Nat.le_of_ble_eq_true rfl) ?_
  have H := Inv.start (w := w0)
  refine W.seq ?_
  refine W.region ?_
  have H := H.addNil (α := Int) (E := 3)
  refine O.assign (v := (.slice none 0 0)) rfl rfl rfl ?_
  refine WL.nil ?_
  refine W.seq ?_
  refine W.seq ?_
  refine W.region ?_
  refine O.move (v := va0) rfl rfl rfl ?_
  rcases ha0.nil_or with ⟨rfl, rfl⟩ | ⟨ad, cap, rfl⟩
  · skip
    replace hm : (some ([] : List Int)) = some r0 := by simpa [appI] using hm
    refine O.eqlNil Try.underlying22 rfl rfl rfl rfl ?_
    refine WL.reset (i := 4) (v := .bool true) rfl ?_
    refine WL.nil ?_
    refine W.cond_true rfl ?_
    refine W.seq ?_
    refine W.region ?_
    have H := H.addNil (α := Int) (E := 3)
    refine O.assign (v := (.slice none 0 0)) rfl rfl rfl ?_
    refine WL.nil ?_
    refine W.ret ?_
    have hq : ([] : List Int) = r0 := Option.some.inj (show some ([] : List Int) = some r0 from hm)
    subst hq
    exact ends1 Try.results65 rfl ⟨_, rfl, H.base, H.ownR 1 rfl⟩
  · skip
    refine O.eqlNil Try.underlying22 rfl rfl rfl rfl ?_
    refine WL.reset (i := 4) (v := .bool false) rfl ?_
    refine WL.nil ?_
    refine W.cond_false rfl ?_
    refine W.skip ?_
    refine W.seq ?_
    refine W.region ?_
    refine O.buildEmpty (α := Int) Try.underlying22 el3 H rfl rfl ?_
    intro b1 w1 H hb1
    refine O.move (v := (.slice (some ad) a0.length cap)) rfl rfl rfl ?_
    obtain ⟨t1, ht1, hm⟩ := bind_some hm
    refine O.append 1 Try.underlying22 el3 rfl H rfl (H.arg ha0) ht1 rfl rfl rfl rfl ?_
    intro v1 w2 H
    refine O.assign (v := v1) rfl rfl rfl ?_
    refine WL.nil ?_
    refine W.ret ?_
    have hq : t1 = r0 := Option.some.inj (show some t1 = some r0 from hm)
    subst hq
    exact ends1 Try.results65 rfl ⟨_, rfl, H.base, H.ownR 1 rfl⟩

set_option maxRecDepth 20000 in
theorem c_rate_Joined {w0 : World} (va0_0 : Value) (a0 : GBox) (ha0_0 : SliceR w0 va0_0 a0.Errors) (va1_0 : Value) (a1 : GBox) (ha1_0 : SliceR w0 va1_0 a1.Errors) {r0 : GBox} {r1 : Int} (hm : rate_Joined a0 a1 = some (r0, r1)) :
    Calls Try.prog 24 #[(.agg #[(.string a0.Name), va0_0]), (.agg #[(.string a1.Name), va1_0])] w0 (Ret w0 fun w v => ∃ vr0_0 : Value, v = .tuple #[(.agg #[(.string r0.Name), vr0_0]), (.int .i64 r1)] ∧ OwnR w0 w vr0_0 3 r0.Errors) := by
  unfold rate_Joined at hm
  refine calls_of_W Try.func24 rfl Try.ntmps24 (Nat.le_of_ble_eq_true rfl) ?_
  have H := Inv.start (w := w0)
  refine W.seq ?_
  refine W.region ?_
  refine O.box [(.string a0.Name), va0_0] H rfl rfl rfl rfl ?_
  intro b1 w1 H hb1
  refine O.box [(.string a1.Name), va1_0] H rfl rfl rfl rfl ?_
  intro b2 w2 H hb2
  refine O.alloc [(.string ByteArray.empty), (.slice none 0 0)] ze24 H rfl rfl rfl ?_
  intro b3 w3 H hb3
  have H := H.addNil (α := Int) (E := 3)
  refine O.assign (v := (.int .i64 0)) rfl rfl rfl ?_
  refine WL.nil ?_
  refine W.seq ?_
  refine W.seq ?_
  refine W.region ?_
  refine O.loadA [(.string a0.Name), va0_0] ag24 rfl rfl rfl rfl (H.cell 0 rfl) ?_
  obtain ⟨t1, hy1, hm⟩ := bind_some hm
  refine O.call Try.call16 rfl rfl rfl (c_rate_ValidBox _ (GBox.mk a0.Name a0.Errors) (H.arg ha0_0) hy1) ?_
  rintro _ w4 hb4 rfl
  have H := H.ext hb4
  refine O.not rfl rfl rfl ?_
  refine O.move (v := (.bool (!t1))) rfl rfl rfl ?_
  obtain ⟨b4, hm1, hm⟩ := bind_some hm
  refine WL.cut 4 (fun f w => f 2 = (.pointer (some ⟨b1, 0, none⟩)) ∧ f 3 = (.pointer (some ⟨b2, 0, none⟩)) ∧ f 4 = (.pointer (some ⟨b3, 0, none⟩)) ∧ f 17 = .bool b4 ∧ Inv w0 w [boxI b1 24 [(.string a0.Name), va0_0], boxI b2 24 [(.string a1.Name), va1_0], boxI b3 24 [(.string ByteArray.empty), (.slice none 0 0)], ownI (α := Int) (.slice none 0 0) 3 ([] : List Int)]) ?_ ?_
  · skip
    rcases ite_some hm1 with ⟨hc1, hm1⟩ | ⟨hc1, hm1⟩
    · skip
      refine WL.reset (i := 13) (v := .bool true) (congrArg Value.bool hc1) ?_
      refine O.skip rfl rfl ?_
      refine O.skip rfl rfl ?_
      refine O.skip rfl rfl ?_
      refine O.pick_true (v := (.bool true)) rfl rfl rfl rfl ?_
      refine WL.nil ?_
      have hq : true = b4 := Option.some.inj (show some true = some b4 from hm1)
      subst hq
      exact ⟨rfl, rfl, rfl, rfl, H⟩
    · skip
      refine WL.reset (i := 13) (v := .bool false) (congrArg Value.bool hc1) ?_
      refine O.loadA [(.string a1.Name), va1_0] ag24 rfl rfl rfl rfl (H.cell 1 rfl) ?_
      obtain ⟨t2, hy2, hm1⟩ := bind_some hm1
      refine O.call Try.call16 rfl rfl rfl (c_rate_ValidBox _ (GBox.mk a1.Name a1.Errors) (H.arg ha1_0) hy2) ?_
      rintro _ w5 hb5 rfl
      have H := H.ext hb5
      refine O.not rfl rfl rfl ?_
      refine O.pick_false (v := (.bool (!t2))) rfl rfl rfl rfl ?_
      refine WL.nil ?_
      have hq : (!t2) = b4 := Option.some.inj (show some (!t2) = some b4 from hm1)
      subst hq
      exact ⟨rfl, rfl, rfl, rfl, H⟩
  · skip
    rintro f w ⟨hf2, hf3, hf4, hf17, H⟩
    obtain ⟨u1, rfl⟩ : ∃ u1, f = (upd (upd (upd (upd u1 2 (.pointer (some ⟨b1, 0, none⟩))) 3 (.pointer (some ⟨b2, 0, none⟩))) 4 (.pointer (some ⟨b3, 0, none⟩))) 17 (.bool b4)) := ⟨f, by rw [upd_self hf2, upd_self hf3, upd_self hf4, upd_self hf17]⟩
    refine WL.nil ?_
    rcases ite_some hm with ⟨hc2, hm⟩ | ⟨hc2, hm⟩
    · refine W.cond_true (congrArg Value.bool hc2) ?_
      refine W.seq ?_
      refine W.region ?_
      refine O.build (v := (.agg #[(.string ByteArray.empty), (.slice none 0 0)])) (fun w => bd24_  w) rfl rfl rfl ?_
      have H := H.addNil (α := Int) (E := 3)
      refine O.store 2 0 [(.string ByteArray.empty), (.slice none 0 0)] [(.string ByteArray.empty), (.slice none 0 0)] sz24 H rfl rfl rfl rfl rfl rfl ⟨⟨rfl, rfl⟩, rfl⟩ (one_cons rfl (one_cons rfl one_nil)) ?_
      intro w6 H
      refine O.assign (v := (.int .i64 1)) rfl rfl rfl ?_
      refine WL.nil ?_
      refine W.ret ?_
      have hq : ((GBox.mk ByteArray.empty ([] : List Int)), 1) = (r0, r1) := Option.some.inj (show some ((GBox.mk ByteArray.empty ([] : List Int)), 1) = some (r0, r1) from hm)
      obtain ⟨he0, hq0⟩ := Prod.mk.inj hq; clear hq; subst he0
      subst hq0
      exact ends2 Try.results24 ⟨_, rfl, run_loadVar_agg ag24 rfl (H.cell 2 rfl)⟩ rfl ⟨_, rfl, H.base, ⟨_, rfl, H.ownR 4 rfl⟩⟩
    · refine W.cond_false (congrArg Value.bool hc2) ?_
      refine W.skip ?_
      refine W.seq ?_
      obtain ⟨t3, hy3, hm⟩ := bind_some hm
      obtain ⟨wd1, rfl⟩ : ∃ x, x = w := ⟨w, rfl⟩
      refine W.draw 7 (fun k v wk => match k with | 0 => v = (.pointer (some (Addr.add (Addr.mk b1 0 none) 0))) | 1 => v = (.string a0.Name) | 2 => v = (.pointer (some (Addr.add (Addr.mk b1 0 none) 1))) | 3 => v = va0_0 | 4 => OwnR wd1 wk v 3 t3 | 5 => ∃ v1 : Value, v = (.agg #[(.string a0.Name), v1]) ∧ OwnR wd1 wk v1 3 t3 | 6 => ∃ b : Nat, v = .pointer (some ⟨b, 0, none⟩) ∧ Inv wd1 wk [boxI b 24 [(.string ByteArray.empty), (.slice none 0 0)]] | _ => True) (by intro k v w w' h hb; match k, h with | 0, h => exact h | 1, h => exact h | 2, h => exact h | 3, h => exact h | 4, h => exact OwnR.mono h hb | 5, ⟨b, e, h⟩ => exact ⟨b, e, OwnR.mono h hb⟩ | 6, ⟨b, e, h⟩ => exact ⟨b, e, h.ext hb⟩ | _ + 7, h => exact h) fol (by kernel_rfl) ?_ ?_
      · skip
        refine ⟨⟨⟨⟨⟨⟨⟨trivial, ?_⟩, ?_⟩, ?_⟩, ?_⟩, ?_⟩, ?_⟩, ?_⟩
        · skip
          intro f wk hx hf hd
          have H := H.ext hx
          have hf2 : f 2 = (.pointer (some ⟨b1, 0, none⟩)) := hf 2 rfl
          obtain ⟨u2, rfl⟩ : ∃ u2, f = (upd u2 2 (.pointer (some ⟨b1, 0, none⟩))) := ⟨f, by rw [upd_self hf2]⟩
          refine O.fieldAddr fd24_0 rfl rfl rfl ?_
          refine WL.nil ?_
          exact ⟨Below.refl _ _, _, rfl, rfl⟩
        · skip
          intro f wk hx hf hd
          have H := H.ext hx
          have hf19 : f 19 = (.pointer (some (Addr.add (Addr.mk b1 0 none) 0))) := hd 0 rfl
          obtain ⟨u3, rfl⟩ : ∃ u3, f = (upd u3 19 (.pointer (some (Addr.add (Addr.mk b1 0 none) 0)))) := ⟨f, by rw [upd_self hf19]⟩
          refine O.load sc9 rfl rfl rfl (H.cell 0 rfl 0 _ rfl) ?_
          refine WL.nil ?_
          exact ⟨Below.refl _ _, _, rfl, rfl⟩
        · skip
          intro f wk hx hf hd
          have H := H.ext hx
          have hf2 : f 2 = (.pointer (some ⟨b1, 0, none⟩)) := hf 2 rfl
          obtain ⟨u4, rfl⟩ : ∃ u4, f = (upd u4 2 (.pointer (some ⟨b1, 0, none⟩))) := ⟨f, by rw [upd_self hf2]⟩
          refine O.fieldAddr fd24_1 rfl rfl rfl ?_
          refine WL.nil ?_
          exact ⟨Below.refl _ _, _, rfl, rfl⟩
        · skip
          intro f wk hx hf hd
          have H := H.ext hx
          have hf21 : f 21 = (.pointer (some (Addr.add (Addr.mk b1 0 none) 1))) := hd 2 rfl
          obtain ⟨u5, rfl⟩ : ∃ u5, f = (upd u5 21 (.pointer (some (Addr.add (Addr.mk b1 0 none) 1)))) := ⟨f, by rw [upd_self hf21]⟩
          refine O.load sc22 rfl rfl rfl (H.cell 0 rfl 1 _ rfl) ?_
          refine WL.nil ?_
          exact ⟨Below.refl _ _, _, rfl, rfl⟩
        · skip
          intro f wk hx hf hd
          have H := H.ext hx
          have hf22 : f 22 = va0_0 := hd 3 rfl
          obtain ⟨u6, rfl⟩ : ∃ u6, f = (upd u6 22 va0_0) := ⟨f, by rw [upd_self hf22]⟩
          refine O.call Try.call65 rfl rfl rfl (c_slices_Clone_int _ _ (H.arg ha0_0) hy3) ?_
          rintro v1 w7 hb6 ho1
          have H := H.addOwn hb6 ho1
          refine WL.nil ?_
          exact ⟨hb6, _, rfl, OwnR.base ho1 hx.size⟩
        · skip
          intro f wk hx hf hd
          have H := H.ext hx
          have hf20 : f 20 = (.string a0.Name) := hd 1 rfl
          have ho23 : OwnR wd1 wk (f 23) 3 t3 := hd 4 rfl
          obtain ⟨v1, hf23⟩ : ∃ v1, f 23 = v1 := ⟨_, rfl⟩
          rw [hf23] at ho23
          obtain ⟨u7, rfl⟩ : ∃ u7, f = (upd (upd u7 20 (.string a0.Name)) 23 v1) := ⟨f, by rw [upd_self hf20, upd_self hf23]⟩
          obtain ⟨ad1, cap1, hvad1, _⟩ := ho23.sliceR.shape
          refine O.build (v := (.agg #[(.string a0.Name), v1])) (fun w => by rw [hvad1]; exact bd24_0_1 _ _ _ _ w) rfl rfl rfl ?_
          refine WL.nil ?_
          exact ⟨Below.refl _ _, _, rfl, ⟨_, rfl, ho23⟩⟩
        · skip
          intro f wk hx hf hd
          have H := H.ext hx
          refine O.alloc [(.string ByteArray.empty), (.slice none 0 0)] ze24 (Inv.start (w := _)) rfl rfl rfl ?_
          intro b5 w8 H hb7
          refine WL.nil ?_
          exact ⟨hb7, _, rfl, ⟨_, rfl, H.rebase hx⟩⟩
      · skip
        intro f wk hx hf hmd hd
        have hf2 : f 2 = (.pointer (some ⟨b1, 0, none⟩)) := hf 2 rfl
        have hf3 : f 3 = (.pointer (some ⟨b2, 0, none⟩)) := hf 3 rfl
        have hf4 : f 4 = (.pointer (some ⟨b3, 0, none⟩)) := hf 4 rfl
        obtain ⟨b5, hf6, ho6⟩ : ∃ b : Nat, f 6 = .pointer (some ⟨b, 0, none⟩) ∧ Inv wd1 wk [boxI b 24 [(.string ByteArray.empty), (.slice none 0 0)]] := hd 6 rfl
        obtain ⟨v1, hf24, ho24⟩ : ∃ v1 : Value, f 24 = (.agg #[(.string a0.Name), v1]) ∧ OwnR wd1 wk v1 3 t3 := hd 5 rfl
        have H := H.addAll hx (Inv.two (Inv.start.addOwn hx ho24) ho6 (own_box_apart (by decide) ho24 ho6))
        obtain ⟨u8, rfl⟩ : ∃ u8, f = (upd (upd (upd (upd (upd u8 2 (.pointer (some ⟨b1, 0, none⟩))) 3 (.pointer (some ⟨b2, 0, none⟩))) 4 (.pointer (some ⟨b3, 0, none⟩))) 6 (.pointer (some ⟨b5, 0, none⟩))) 24 (.agg #[(.string a0.Name), v1])) := ⟨f, by rw [upd_self hf2, upd_self hf3, upd_self hf4, upd_self hf6, upd_self hf24]⟩
        refine O.store 5 0 [(.string a0.Name), v1] [(.string a0.Name), v1] sz24 H rfl rfl rfl rfl rfl rfl ⟨⟨rfl, rfl⟩, rfl⟩ (one_cons rfl (one_cons (SliceR.one (H.own 4 rfl)) one_nil)) ?_
        intro w9 H
        refine WL.nil ?_
        refine W.seq ?_
        obtain ⟨t4, ht4, hm⟩ := bind_some hm
        obtain ⟨x1, hx1, hm⟩ := bind_some hm
        obtain ⟨p1, hp1, hrp1⟩ := fix_indexAddr Try.underlying22 sz3 (H.arg ha0_0) hx1
        obtain ⟨x2, hx2, hm⟩ := bind_some hm
        obtain ⟨p2, hp2, hrp2⟩ := fix_indexAddr Try.underlying22 sz3 (H.arg ha1_0) hx2
        refine W.drawN 12 (fun f => f 3 = (.pointer (some ⟨b2, 0, none⟩)) ∧ f 4 = (.pointer (some ⟨b3, 0, none⟩)) ∧ f 6 = (.pointer (some ⟨b5, 0, none⟩)) ∧ f 32 = (.int .i64 x1) ∧ f 36 = (.int .i64 x2)) fol (by kernel_rfl) ?_ ?_
        · skip
          refine PL.of (fun _ w8 _ hx => O.fieldAddr fd24_1 rfl rfl rfl (WL.nil ⟨rfl, hx⟩)) ?_
          refine PL.of (fun _ w8 _ hx => by have H := H.ext hx; exact O.load sc22 rfl rfl rfl (H.cell 0 rfl 1 _ rfl) (WL.nil ⟨rfl, hx⟩)) ?_
          refine PL.of (fun _ w8 _ hx => O.fieldAddr fd24_1 rfl rfl rfl (WL.nil ⟨rfl, hx⟩)) ?_
          refine PL.of (fun _ w8 _ hx => by have H := H.ext hx; exact O.load sc22 rfl rfl rfl (H.cell 0 rfl 1 _ rfl) (WL.nil ⟨rfl, hx⟩)) ?_
          refine PL.of (fun _ w8 _ hx => by have H := H.ext hx; exact O.lenS Try.underlying22 (H.arg ha0_0) rfl rfl rfl (WL.nil ⟨rfl, hx⟩)) ?_
          refine PL.of (fun _ w8 _ hx => O.sub rfl rfl rfl rfl ht4 (WL.nil ⟨rfl, hx⟩)) ?_
          refine PL.of (fun _ w8 _ hx => hrp1 rfl rfl rfl rfl (WL.nil ⟨rfl, hx⟩)) ?_
          refine PL.of (fun _ w8 _ hx => by have hp1 := hp1.mono hx; exact O.load sc3 rfl rfl rfl (hp1.flat 0 _ rfl) (WL.nil ⟨rfl, hx⟩)) ?_
          refine PL.of (fun _ w8 _ hx => O.fieldAddr fd24_1 rfl rfl rfl (WL.nil ⟨rfl, hx⟩)) ?_
          refine PL.of (fun _ w8 _ hx => by have H := H.ext hx; exact O.load sc22 rfl rfl rfl (H.cell 1 rfl 1 _ rfl) (WL.nil ⟨rfl, hx⟩)) ?_
          refine PL.of (fun _ w8 _ hx => hrp2 rfl rfl rfl rfl (WL.nil ⟨rfl, hx⟩)) ?_
          refine PL.of (fun _ w8 _ hx => by have hp2 := hp2.mono hx; exact O.load sc3 rfl rfl rfl (hp2.flat 0 _ rfl) (WL.nil ⟨rfl, hx⟩)) ?_
          refine PL.nil ?_
          exact ⟨rfl, rfl, rfl, rfl, rfl⟩
        · skip
          rintro f w ⟨hf3, hf4, hf6, hf32, hf36⟩ hmd hx
          have H := H.ext hx
          have hp1 := hp1.mono hx
          have hp2 := hp2.mono hx
          obtain ⟨u9, rfl⟩ : ∃ u9, f = (upd (upd (upd (upd (upd u9 3 (.pointer (some ⟨b2, 0, none⟩))) 4 (.pointer (some ⟨b3, 0, none⟩))) 6 (.pointer (some ⟨b5, 0, none⟩))) 32 (.int .i64 x1)) 36 (.int .i64 x2)) := ⟨f, by rw [upd_self hf3, upd_self hf4, upd_self hf6, upd_self hf32, upd_self hf36]⟩
          obtain ⟨t5, ht5, hm⟩ := bind_some hm
          refine O.sub rfl rfl rfl rfl ht5 ?_
          refine O.assign (v := (.int .i64 t5)) rfl rfl rfl ?_
          refine WL.nil ?_
          refine W.seq ?_
          refine W.seq ?_
          refine W.region ?_
          refine O.fieldAddr fd24_1 rfl rfl rfl ?_
          refine O.load sc22 rfl rfl rfl (H.cell 1 rfl 1 _ rfl) ?_
          obtain ⟨t6, ht6, hm⟩ := bind_some hm
          obtain ⟨v2, hs1, hrv2⟩ := fix_sliceL Try.underlying22 sz3 ha1_0 ht6
          refine hrv2 rfl rfl rfl rfl ?_
          refine O.lenS Try.underlying22 (H.arg hs1) rfl rfl rfl ?_
          refine O.move (v := (.int .i64 0)) rfl rfl rfl ?_
          refine WL.nil ?_
          obtain ⟨s1, hm2, hm⟩ := bind_some hm
          refine W.via (fun f w => ∃ v6 : Value, f 4 = (.pointer (some ⟨b3, 0, none⟩)) ∧ f 6 = (.pointer (some ⟨b5, 0, none⟩)) ∧ Inv w0 w [boxI b3 24 [(.string ByteArray.empty), (.slice none 0 0)], ownI (α := Int) (.slice none 0 0) 3 ([] : List Int), ownI (α := Int) v6 3 s1, boxI b5 24 [(.string a0.Name), v6]]) ?_ ?_
          · skip
            refine W.block ?_
            have H := H.keep [2, 3, 4, 5] [boxI b3 24 [(.string ByteArray.empty), (.slice none 0 0)], ownI (α := Int) (.slice none 0 0) 3 ([] : List Int), ownI (α := Int) v1 3 t3, boxI b5 24 [(.string a0.Name), v1]] rfl (by decide)
            refine W.rangeL (i := 0) hm2 (fun rem ik1 s f w => ∃ z2 : (List Int), ∃ v4 : Value, z2 = s ∧ t6.drop ik1 = rem ∧ f 42 = .int .i64 (ik1 : Int) ∧ f 41 = (.int .i64 ((t6.length : Nat) : Int)) ∧ f 4 = (.pointer (some ⟨b3, 0, none⟩)) ∧ f 6 = (.pointer (some ⟨b5, 0, none⟩)) ∧ f 7 = (.int .i64 t5) ∧ f 40 = v2 ∧ Inv w0 w [boxI b3 24 [(.string ByteArray.empty), (.slice none 0 0)], ownI (α := Int) (.slice none 0 0) 3 ([] : List Int), ownI (α := Int) v4 3 z2, boxI b5 24 [(.string a0.Name), v4]]) ?_ ?_ ?_
            · skip
              exact ⟨_, v1, rfl, List.drop_zero, rfl, rfl, rfl, rfl, rfl, rfl, H⟩
            · skip
              rintro yk1 xs ik1 _ st f w ⟨z2, v4, rfl, hdropk1, hf42, hf41, hf4, hf6, hf7, hf40, H⟩ hm3
              have hltk1 := drop_lt hdropk1; have hixk1 := drop_idx hdropk1
              obtain ⟨u10, rfl⟩ : ∃ u10, f = (upd (upd (upd (upd (upd (upd u10 42 (.int .i64 (ik1 : Int))) 41 (.int .i64 ((t6.length : Nat) : Int))) 4 (.pointer (some ⟨b3, 0, none⟩))) 6 (.pointer (some ⟨b5, 0, none⟩))) 7 (.int .i64 t5)) 40 v2) := ⟨f, by rw [upd_self hf42, upd_self hf41, upd_self hf4, upd_self hf6, upd_self hf7, upd_self hf40]⟩
              have hinck1 := addI_lt hltk1 (H.arg hs1).len_le
              refine W.seq ?_
              refine W.region ?_
              refine O.lss rfl rfl rfl rfl ?_
              refine WL.nil ?_
              refine W.seq ?_
              refine W.cond_true (congrArg Value.bool (decide_eq_true hltk1)) ?_
              refine W.skip ?_
              refine W.seq ?_
              refine W.block ?_
              refine W.seq ?_
              refine W.region ?_
              obtain ⟨p3, hp3, hrp3⟩ := fix_indexAddr Try.underlying22 sz3 hs1 hixk1
              refine hrp3 rfl rfl rfl rfl ?_
              refine O.load sc3 rfl rfl rfl ((hp3.mono H.base).flat 0 _ rfl) ?_
              refine O.assign (v := (.int .i64 yk1)) rfl rfl rfl ?_
              refine WL.nil ?_
              refine W.region ?_
              refine O.fieldAddr fd24_1 rfl rfl rfl ?_
              refine O.load sc22 rfl rfl rfl (H.cell 3 rfl 1 _ rfl) ?_
              refine O.move (v := (.int .i64 yk1)) rfl rfl rfl ?_
              refine O.move (v := (.int .i64 t5)) rfl rfl rfl ?_
              obtain ⟨t7, ht7, hm3⟩ := bind_some hm3
              refine O.add rfl rfl rfl rfl ht7 ?_
              refine O.buildSlice (α := Int) [(.int .i64 t7)] [t7] Try.underlying22 el3 H rfl rfl rfl rfl rfl rfl rfl ?_
              intro v7 w10 H hb8
              obtain ⟨t8, ht8, hm3⟩ := bind_some hm3
              refine O.append 2 Try.underlying22 el3 rfl H rfl (H.own 4 rfl) ht8 rfl rfl rfl rfl ?_
              intro v8 w11 H
              refine O.fieldAddr fd24_1 rfl rfl rfl ?_
              refine O.store 3 1 [v8] [(.string a0.Name), v8] sz22 H rfl rfl rfl rfl rfl (SliceR.cells1 (H.own 2 rfl)) ⟨⟨rfl, rfl⟩, rfl⟩ (one_cons (SliceR.one (H.own 2 rfl)) one_nil) ?_
              intro w12 H
              refine WL.nil ?_
              refine W.region ?_
              refine O.add rfl rfl rfl rfl hinck1 ?_
              refine O.move (v := .int .i64 ((ik1 : Int) + 1)) rfl rfl rfl ?_
              refine WL.nil ?_
              have H := H.keep [0, 1, 2, 3] [boxI b3 24 [(.string ByteArray.empty), (.slice none 0 0)], ownI (α := Int) (.slice none 0 0) 3 ([] : List Int), ownI (α := Int) v8 3 t8, boxI b5 24 [(.string a0.Name), v8]] rfl (by decide)
              obtain rfl := Option.some.inj hm3
              exact ⟨_, rfl, _, v8, rfl, drop_next hdropk1, rfl, rfl, rfl, rfl, rfl, rfl, H⟩
            · skip
              rintro ik1 _ f w ⟨z2, v4, rfl, hdropk1, hf42, hf41, hf4, hf6, hf7, hf40, H⟩ hfin
              have hltk1 := drop_end hdropk1
              obtain ⟨u11, rfl⟩ : ∃ u11, f = (upd (upd (upd (upd (upd (upd u11 42 (.int .i64 (ik1 : Int))) 41 (.int .i64 ((t6.length : Nat) : Int))) 4 (.pointer (some ⟨b3, 0, none⟩))) 6 (.pointer (some ⟨b5, 0, none⟩))) 7 (.int .i64 t5)) 40 v2) := ⟨f, by rw [upd_self hf42, upd_self hf41, upd_self hf4, upd_self hf6, upd_self hf7, upd_self hf40]⟩
              refine W.seq ?_
              refine W.region ?_
              refine O.lss rfl rfl rfl rfl ?_
              refine WL.nil ?_
              refine W.seq ?_
              refine W.cond_false (congrArg Value.bool (decide_eq_false hltk1)) ?_
              refine W.exit ?_
              have hq : z2 = s1 := hfin
              subst hq
              refine xT rfl ?_
              exact ⟨v4, rfl, rfl, H⟩
          · skip
            rintro f w ⟨v6, hf4, hf6, H⟩
            obtain ⟨u12, rfl⟩ : ∃ u12, f = (upd (upd u12 4 (.pointer (some ⟨b3, 0, none⟩))) 6 (.pointer (some ⟨b5, 0, none⟩))) := ⟨f, by rw [upd_self hf4, upd_self hf6]⟩
            refine W.seq ?_
            refine W.region ?_
            refine O.loadA [(.string a0.Name), v6] ag24 rfl rfl rfl rfl (H.cell 3 rfl) ?_
            obtain ⟨⟨t9, t10⟩, hy4, hm⟩ := bind_some hm
            refine O.call Try.call62 rfl rfl rfl (c_rate_told _ (GBox.mk a0.Name s1) (H.own 2 rfl) hy4) ?_
            rintro _ w13 hb9 ⟨v9, rfl, ho2⟩
            have H := H.ext hb9
            have H := H.pass 2 rfl ho2
            refine O.extract (v := (.agg #[(.string t9.Name), v9])) rfl rfl rfl rfl ?_
            refine O.extract (v := (.int .i64 t10)) rfl rfl rfl rfl ?_
            refine O.store 0 0 [(.string t9.Name), v9] [(.string t9.Name), v9] sz24 H rfl rfl rfl rfl rfl rfl ⟨⟨rfl, rfl⟩, rfl⟩ (one_cons rfl (one_cons (SliceR.one (H.own 2 rfl)) one_nil)) ?_
            intro w14 H
            refine O.assign (v := (.int .i64 t10)) rfl rfl rfl ?_
            refine WL.nil ?_
            refine W.ret ?_
            have hq : ((GBox.mk t9.Name t9.Errors), t10) = (r0, r1) := Option.some.inj (show some ((GBox.mk t9.Name t9.Errors), t10) = some (r0, r1) from hm)
            obtain ⟨he0, hq0⟩ := Prod.mk.inj hq; clear hq; subst he0
            subst hq0
            exact ends2 Try.results24 ⟨_, rfl, run_loadVar_agg ag24 rfl (H.cell 0 rfl)⟩ rfl ⟨_, rfl, H.base, ⟨_, rfl, H.ownR 2 rfl⟩⟩

set_option maxRecDepth 20000 in
theorem c_noongunref06_rates {w0 : World} (va0_0 : Value) (a0 : GBox) (ha0_0 : SliceR w0 va0_0 a0.Errors) (a1 : Int) {r0 : (List Int)} (hm : noongunref06_rates a0 a1 = some r0) :
    Calls Try.prog 66 #[(.agg #[(.string a0.Name), va0_0]), (.int .i64 a1)] w0 (Ret w0 fun w v => OwnR w0 w v 3 r0) := by
  unfold noongunref06_rates at hm
  refine calls_of_W Try.func66 rfl Try.ntmps66 (Nat.le_of_ble_eq_true rfl) ?_
  have H := Inv.start (w := w0)
  refine W.seq ?_
  refine W.region ?_
  refine O.box [(.string a0.Name), va0_0] H rfl rfl rfl rfl ?_
  intro b1 w1 H hb1
  have H := H.addNil (α := Int) (E := 3)
  refine O.assign (v := (.slice none 0 0)) rfl rfl rfl ?_
  refine WL.nil ?_
  refine W.seq ?_
  refine W.region ?_
  have H := H.addNil (α := Int) (E := 3)
  refine O.assign (v := (.slice none 0 0)) rfl rfl rfl ?_
  refine WL.nil ?_
  refine W.seq ?_
  refine W.seq ?_
  refine W.region ?_
  refine O.move (v := (.int .i64 a1)) rfl rfl rfl ?_
  refine O.assign (v := (.int .i64 a1)) rfl rfl rfl ?_
  refine WL.nil ?_
  obtain ⟨s1, hm1, hm⟩ := bind_some hm
  refine W.via (fun f w => ∃ v4 : Value, f 5 = v4 ∧ Inv w0 w [ownI (α := Int) v4 3 s1]) ?_ ?_
  · skip
    refine W.block ?_
    have H := H.keep [0, 2] [boxI b1 24 [(.string a0.Name), va0_0], ownI (α := Int) (.slice none 0 0) 3 ([] : List Int)] rfl (by decide)
    refine W.loopR hm1 (fun s f w => ∃ z3 : Int, ∃ z4 : (List Int), ∃ v2 : Value, (z3, z4) = s ∧ f 1 = (.int .i64 a1) ∧ f 2 = (.pointer (some ⟨b1, 0, none⟩)) ∧ f 5 = v2 ∧ f 6 = (.int .i64 z3) ∧ Inv w0 w [boxI b1 24 [(.string a0.Name), va0_0], ownI (α := Int) v2 3 z4]) ?_ ?_
    · skip
      exact ⟨_, _, (.slice none 0 0), rfl, rfl, rfl, rfl, rfl, H⟩
    · skip
      rintro _ st f w ⟨z3, z4, v2, rfl, hf1, hf2, hf5, hf6, H⟩ hm2
      obtain ⟨u1, rfl⟩ : ∃ u1, f = (upd (upd (upd (upd u1 1 (.int .i64 a1)) 2 (.pointer (some ⟨b1, 0, none⟩))) 5 v2) 6 (.int .i64 z3)) := ⟨f, by rw [upd_self hf1, upd_self hf2, upd_self hf5, upd_self hf6]⟩
      refine W.seq ?_
      refine W.seq ?_
      refine W.region ?_
      refine O.move (v := (.int .i64 z3)) rfl rfl rfl ?_
      refine O.fieldAddr fd24_1 rfl rfl rfl ?_
      refine O.load sc22 rfl rfl rfl (H.cell 0 rfl 1 _ rfl) ?_
      refine O.lenS Try.underlying22 (H.arg ha0_0) rfl rfl rfl ?_
      refine O.lss rfl rfl rfl rfl ?_
      refine WL.nil ?_
      rcases ite_some hm2 with ⟨hc1, hm2⟩ | ⟨hc1, hm2⟩
      · refine W.cond_true (congrArg Value.bool hc1) ?_
        refine W.skip ?_
        refine W.seq ?_
        refine W.block ?_
        obtain ⟨x1, hx1, hm2⟩ := bind_some hm2
        obtain ⟨t1, ht1, hm2⟩ := bind_some hm2
        obtain ⟨x2, hx2, hm2⟩ := bind_some hm2
        obtain ⟨t2, ht2, hm2⟩ := bind_some hm2
        obtain ⟨wd1, rfl⟩ : ∃ x, x = w := ⟨w, rfl⟩
        refine W.draw 15 (fun k v wk => match k with | 0 => v = v2 | 1 => v = (.pointer (some (Addr.add (Addr.mk b1 0 none) 1))) | 2 => v = va0_0 | 3 => v = (.int .i64 z3) | 4 => ∃ p1 : Addr, v = (.pointer (some p1)) ∧ ElemAt wk p1 x1 | 5 => v = (.int .i64 x1) | 6 => v = (.pointer (some (Addr.add (Addr.mk b1 0 none) 1))) | 7 => v = va0_0 | 8 => v = (.int .i64 z3) | 9 => v = (.int .i64 a1) | 10 => v = (.int .i64 t1) | 11 => ∃ p2 : Addr, v = (.pointer (some p2)) ∧ ElemAt wk p2 x2 | 12 => v = (.int .i64 x2) | 13 => v = (.int .i64 t2) | 14 => OwnR wd1 wk v 3 ([t2] : List Int) | _ => True) (by intro k v w w' h hb; match k, h with | 0, h => exact h | 1, h => exact h | 2, h => exact h | 3, h => exact h | 4, ⟨p, e, hp⟩ => exact ⟨p, e, hp.mono hb⟩ | 5, h => exact h | 6, h => exact h | 7, h => exact h | 8, h => exact h | 9, h => exact h | 10, h => exact h | 11, ⟨p, e, hp⟩ => exact ⟨p, e, hp.mono hb⟩ | 12, h => exact h | 13, h => exact h | 14, h => exact OwnR.mono h hb | _ + 15, h => exact h) fol (by kernel_rfl) ?_ ?_
        · skip
          refine ⟨⟨⟨⟨⟨⟨⟨⟨⟨⟨⟨⟨⟨⟨⟨trivial, ?_⟩, ?_⟩, ?_⟩, ?_⟩, ?_⟩, ?_⟩, ?_⟩, ?_⟩, ?_⟩, ?_⟩, ?_⟩, ?_⟩, ?_⟩, ?_⟩, ?_⟩
          · skip
            intro f wk hx hf hd
            have H := H.ext hx
            have hf5 : f 5 = v2 := hf 5 rfl
            obtain ⟨u2, rfl⟩ : ∃ u2, f = (upd u2 5 v2) := ⟨f, by rw [upd_self hf5]⟩
            refine O.move (v := v2) rfl rfl rfl ?_
            refine WL.nil ?_
            exact ⟨Below.refl _ _, _, rfl, rfl⟩
          · skip
            intro f wk hx hf hd
            have H := H.ext hx
            have hf2 : f 2 = (.pointer (some ⟨b1, 0, none⟩)) := hf 2 rfl
            obtain ⟨u3, rfl⟩ : ∃ u3, f = (upd u3 2 (.pointer (some ⟨b1, 0, none⟩))) := ⟨f, by rw [upd_self hf2]⟩
            refine O.fieldAddr fd24_1 rfl rfl rfl ?_
            refine WL.nil ?_
            exact ⟨Below.refl _ _, _, rfl, rfl⟩
          · skip
            intro f wk hx hf hd
            have H := H.ext hx
            have hf17 : f 17 = (.pointer (some (Addr.add (Addr.mk b1 0 none) 1))) := hd 1 rfl
            obtain ⟨u4, rfl⟩ : ∃ u4, f = (upd u4 17 (.pointer (some (Addr.add (Addr.mk b1 0 none) 1)))) := ⟨f, by rw [upd_self hf17]⟩
            refine O.load sc22 rfl rfl rfl (H.cell 0 rfl 1 _ rfl) ?_
            refine WL.nil ?_
            exact ⟨Below.refl _ _, _, rfl, rfl⟩
          · skip
            intro f wk hx hf hd
            have H := H.ext hx
            have hf6 : f 6 = (.int .i64 z3) := hf 6 rfl
            obtain ⟨u5, rfl⟩ : ∃ u5, f = (upd u5 6 (.int .i64 z3)) := ⟨f, by rw [upd_self hf6]⟩
            refine O.move (v := (.int .i64 z3)) rfl rfl rfl ?_
            refine WL.nil ?_
            exact ⟨Below.refl _ _, _, rfl, rfl⟩
          · skip
            intro f wk hx hf hd
            have H := H.ext hx
            have hf18 : f 18 = va0_0 := hd 2 rfl
            have hf19 : f 19 = (.int .i64 z3) := hd 3 rfl
            obtain ⟨u6, rfl⟩ : ∃ u6, f = (upd (upd u6 18 va0_0) 19 (.int .i64 z3)) := ⟨f, by rw [upd_self hf18, upd_self hf19]⟩
            refine O.indexAddr Try.underlying22 sz3 (H.arg ha0_0) hx1 rfl rfl rfl rfl ?_
            intro p1 hp1
            refine WL.nil ?_
            exact ⟨Below.refl _ _, _, rfl, ⟨_, rfl, hp1⟩⟩
          · skip
            intro f wk hx hf hd
            have H := H.ext hx
            obtain ⟨p1, hf20, hp1⟩ : ∃ p1 : Addr, f 20 = (.pointer (some p1)) ∧ ElemAt wk p1 x1 := hd 4 rfl
            obtain ⟨u7, rfl⟩ : ∃ u7, f = (upd u7 20 (.pointer (some p1))) := ⟨f, by rw [upd_self hf20]⟩
            refine O.load sc3 rfl rfl rfl (hp1.flat 0 _ rfl) ?_
            refine WL.nil ?_
            exact ⟨Below.refl _ _, _, rfl, rfl⟩
          · skip
            intro f wk hx hf hd
            have H := H.ext hx
            have hf2 : f 2 = (.pointer (some ⟨b1, 0, none⟩)) := hf 2 rfl
            obtain ⟨u8, rfl⟩ : ∃ u8, f = (upd u8 2 (.pointer (some ⟨b1, 0, none⟩))) := ⟨f, by rw [upd_self hf2]⟩
            refine O.fieldAddr fd24_1 rfl rfl rfl ?_
            refine WL.nil ?_
            exact ⟨Below.refl _ _, _, rfl, rfl⟩
          · skip
            intro f wk hx hf hd
            have H := H.ext hx
            have hf22 : f 22 = (.pointer (some (Addr.add (Addr.mk b1 0 none) 1))) := hd 6 rfl
            obtain ⟨u9, rfl⟩ : ∃ u9, f = (upd u9 22 (.pointer (some (Addr.add (Addr.mk b1 0 none) 1)))) := ⟨f, by rw [upd_self hf22]⟩
            refine O.load sc22 rfl rfl rfl (H.cell 0 rfl 1 _ rfl) ?_
            refine WL.nil ?_
            exact ⟨Below.refl _ _, _, rfl, rfl⟩
          · skip
            intro f wk hx hf hd
            have H := H.ext hx
            have hf6 : f 6 = (.int .i64 z3) := hf 6 rfl
            obtain ⟨u10, rfl⟩ : ∃ u10, f = (upd u10 6 (.int .i64 z3)) := ⟨f, by rw [upd_self hf6]⟩
            refine O.move (v := (.int .i64 z3)) rfl rfl rfl ?_
            refine WL.nil ?_
            exact ⟨Below.refl _ _, _, rfl, rfl⟩
          · skip
            intro f wk hx hf hd
            have H := H.ext hx
            have hf1 : f 1 = (.int .i64 a1) := hf 1 rfl
            obtain ⟨u11, rfl⟩ : ∃ u11, f = (upd u11 1 (.int .i64 a1)) := ⟨f, by rw [upd_self hf1]⟩
            refine O.move (v := (.int .i64 a1)) rfl rfl rfl ?_
            refine WL.nil ?_
            exact ⟨Below.refl _ _, _, rfl, rfl⟩
          · skip
            intro f wk hx hf hd
            have H := H.ext hx
            have hf24 : f 24 = (.int .i64 z3) := hd 8 rfl
            have hf25 : f 25 = (.int .i64 a1) := hd 9 rfl
            obtain ⟨u12, rfl⟩ : ∃ u12, f = (upd (upd u12 24 (.int .i64 z3)) 25 (.int .i64 a1)) := ⟨f, by rw [upd_self hf24, upd_self hf25]⟩
            refine O.sub rfl rfl rfl rfl ht1 ?_
            refine WL.nil ?_
            exact ⟨Below.refl _ _, _, rfl, rfl⟩
          · skip
            intro f wk hx hf hd
            have H := H.ext hx
            have hf23 : f 23 = va0_0 := hd 7 rfl
            have hf26 : f 26 = (.int .i64 t1) := hd 10 rfl
            obtain ⟨u13, rfl⟩ : ∃ u13, f = (upd (upd u13 23 va0_0) 26 (.int .i64 t1)) := ⟨f, by rw [upd_self hf23, upd_self hf26]⟩
            refine O.indexAddr Try.underlying22 sz3 (H.arg ha0_0) hx2 rfl rfl rfl rfl ?_
            intro p2 hp2
            refine WL.nil ?_
            exact ⟨Below.refl _ _, _, rfl, ⟨_, rfl, hp2⟩⟩
          · skip
            intro f wk hx hf hd
            have H := H.ext hx
            obtain ⟨p2, hf27, hp2⟩ : ∃ p2 : Addr, f 27 = (.pointer (some p2)) ∧ ElemAt wk p2 x2 := hd 11 rfl
            obtain ⟨u14, rfl⟩ : ∃ u14, f = (upd u14 27 (.pointer (some p2))) := ⟨f, by rw [upd_self hf27]⟩
            refine O.load sc3 rfl rfl rfl (hp2.flat 0 _ rfl) ?_
            refine WL.nil ?_
            exact ⟨Below.refl _ _, _, rfl, rfl⟩
          · skip
            intro f wk hx hf hd
            have H := H.ext hx
            have hf21 : f 21 = (.int .i64 x1) := hd 5 rfl
            have hf28 : f 28 = (.int .i64 x2) := hd 12 rfl
            obtain ⟨u15, rfl⟩ : ∃ u15, f = (upd (upd u15 21 (.int .i64 x1)) 28 (.int .i64 x2)) := ⟨f, by rw [upd_self hf21, upd_self hf28]⟩
            refine O.sub rfl rfl rfl rfl ht2 ?_
            refine WL.nil ?_
            exact ⟨Below.refl _ _, _, rfl, rfl⟩
          · skip
            intro f wk hx hf hd
            have H := H.ext hx
            have hf29 : f 29 = (.int .i64 t2) := hd 13 rfl
            obtain ⟨u16, rfl⟩ : ∃ u16, f = (upd u16 29 (.int .i64 t2)) := ⟨f, by rw [upd_self hf29]⟩
            refine O.buildSlice (α := Int) [(.int .i64 t2)] [t2] Try.underlying22 el3 (Inv.start (w := _)) rfl rfl rfl rfl rfl rfl rfl ?_
            intro v5 w2 H hb2
            refine WL.nil ?_
            exact ⟨hb2, _, rfl, (H.ownR 0 rfl).base hx.size⟩
        · skip
          intro f wk hx hf hmd hd
          have hf1 : f 1 = (.int .i64 a1) := hf 1 rfl
          have hf2 : f 2 = (.pointer (some ⟨b1, 0, none⟩)) := hf 2 rfl
          have hf6 : f 6 = (.int .i64 z3) := hf 6 rfl
          have hf16 : f 16 = v2 := hd 0 rfl
          have ho30 : OwnR wd1 wk (f 30) 3 ([t2] : List Int) := hd 14 rfl
          obtain ⟨v5, hf30⟩ : ∃ v5, f 30 = v5 := ⟨_, rfl⟩
          rw [hf30] at ho30
          have H := H.addOwn hx ho30
          obtain ⟨u17, rfl⟩ : ∃ u17, f = (upd (upd (upd (upd (upd u17 1 (.int .i64 a1)) 2 (.pointer (some ⟨b1, 0, none⟩))) 6 (.int .i64 z3)) 16 v2) 30 v5) := ⟨f, by rw [upd_self hf1, upd_self hf2, upd_self hf6, upd_self hf16, upd_self hf30]⟩
          obtain ⟨t3, ht3, hm2⟩ := bind_some hm2
          refine O.append 1 Try.underlying22 el3 rfl H rfl (H.own 2 rfl) ht3 rfl rfl rfl rfl ?_
          intro v6 w3 H
          refine O.assign (v := v6) rfl rfl rfl ?_
          refine WL.nil ?_
          refine W.region ?_
          refine O.move (v := (.int .i64 z3)) rfl rfl rfl ?_
          refine O.move (v := (.int .i64 a1)) rfl rfl rfl ?_
          obtain ⟨t4, ht4, hm2⟩ := bind_some hm2
          refine O.add rfl rfl rfl rfl ht4 ?_
          refine O.assign (v := (.int .i64 t4)) rfl rfl rfl ?_
          refine WL.nil ?_
          have H := H.keep [0, 1] [boxI b1 24 [(.string a0.Name), va0_0], ownI (α := Int) v6 3 t3] rfl (by decide)
          obtain rfl := Option.some.inj hm2
          exact ⟨_, rfl, _, _, v6, rfl, rfl, rfl, rfl, rfl, H⟩
      · refine W.cond_false (congrArg Value.bool hc1) ?_
        refine W.exit ?_
        obtain rfl := Option.some.inj hm2
        refine ⟨_, rfl, ?_⟩
        intro hy
        have hq : z4 = s1 := hy
        subst hq
        have H := H.keep [1] [ownI (α := Int) v2 3 z4] rfl (by decide)
        refine xT rfl ?_
        exact ⟨v2, rfl, H⟩
  · skip
    rintro f w ⟨v4, hf5, H⟩
    obtain ⟨u18, rfl⟩ : ∃ u18, f = (upd u18 5 v4) := ⟨f, by rw [upd_self hf5]⟩
    refine W.seq ?_
    refine W.region ?_
    refine O.move (v := v4) rfl rfl rfl ?_
    refine O.assign (v := v4) rfl rfl rfl ?_
    refine WL.nil ?_
    refine W.ret ?_
    have hq : s1 = r0 := Option.some.inj (show some s1 = some r0 from hm)
    subst hq
    exact ends1 Try.results66 rfl ⟨_, rfl, H.base, H.ownR 0 rfl⟩

set_option maxRecDepth 20000 in
theorem c_noongunref06_Joined {w0 : World} (va0_0 : Value) (a0 : GBox) (ha0_0 : SliceR w0 va0_0 a0.Errors) (va1_0 : Value) (a1 : GBox) (ha1_0 : SliceR w0 va1_0 a1.Errors) {r0 : GBox} {r1 : Int} (hm : noongunref06_Joined a0 a1 = some (r0, r1)) :
    Calls Try.prog 25 #[(.agg #[(.string a0.Name), va0_0]), (.agg #[(.string a1.Name), va1_0])] w0 (Ret w0 fun w v => ∃ vr0_0 : Value, v = .tuple #[(.agg #[(.string r0.Name), vr0_0]), (.int .i64 r1)] ∧ OwnR w0 w vr0_0 3 r0.Errors) := by
  unfold noongunref06_Joined at hm
  refine calls_of_W Try.func25 rfl Try.ntmps25 (Nat.le_of_ble_eq_true rfl) ?_
  have H := Inv.start (w := w0)
  refine W.seq ?_
  refine W.region ?_
  refine O.box [(.string a0.Name), va0_0] H rfl rfl rfl rfl ?_
  intro b1 w1 H hb1
  refine O.box [(.string a1.Name), va1_0] H rfl rfl rfl rfl ?_
  intro b2 w2 H hb2
  refine O.alloc [(.string ByteArray.empty), (.slice none 0 0)] ze24 H rfl rfl rfl ?_
  intro b3 w3 H hb3
  have H := H.addNil (α := Int) (E := 3)
  refine O.assign (v := (.int .i64 0)) rfl rfl rfl ?_
  refine WL.nil ?_
  refine W.seq ?_
  refine W.seq ?_
  refine W.region ?_
  refine O.loadA [(.string a0.Name), va0_0] ag24 rfl rfl rfl rfl (H.cell 0 rfl) ?_
  obtain ⟨t1, hy1, hm⟩ := bind_some hm
  refine O.call Try.call37 rfl rfl rfl (c_noongunref06_ValidBox _ (GBox.mk a0.Name a0.Errors) (H.arg ha0_0) hy1) ?_
  rintro _ w4 hb4 rfl
  have H := H.ext hb4
  refine O.not rfl rfl rfl ?_
  refine O.move (v := (.bool (!t1))) rfl rfl rfl ?_
  obtain ⟨b4, hm1, hm⟩ := bind_some hm
  refine WL.cut 4 (fun f w => f 2 = (.pointer (some ⟨b1, 0, none⟩)) ∧ f 3 = (.pointer (some ⟨b2, 0, none⟩)) ∧ f 4 = (.pointer (some ⟨b3, 0, none⟩)) ∧ f 16 = .bool b4 ∧ Inv w0 w [boxI b1 24 [(.string a0.Name), va0_0], boxI b2 24 [(.string a1.Name), va1_0], boxI b3 24 [(.string ByteArray.empty), (.slice none 0 0)], ownI (α := Int) (.slice none 0 0) 3 ([] : List Int)]) ?_ ?_
  · skip
    rcases ite_some hm1 with ⟨hc1, hm1⟩ | ⟨hc1, hm1⟩
    · skip
      refine WL.reset (i := 12) (v := .bool true) (congrArg Value.bool hc1) ?_
      refine O.skip rfl rfl ?_
      refine O.skip rfl rfl ?_
      refine O.skip rfl rfl ?_
      refine O.pick_true (v := (.bool true)) rfl rfl rfl rfl ?_
      refine WL.nil ?_
      have hq : true = b4 := Option.some.inj (show some true = some b4 from hm1)
      subst hq
      exact ⟨rfl, rfl, rfl, rfl, H⟩
    · skip
      refine WL.reset (i := 12) (v := .bool false) (congrArg Value.bool hc1) ?_
      refine O.loadA [(.string a1.Name), va1_0] ag24 rfl rfl rfl rfl (H.cell 1 rfl) ?_
      obtain ⟨t2, hy2, hm1⟩ := bind_some hm1
      refine O.call Try.call37 rfl rfl rfl (c_noongunref06_ValidBox _ (GBox.mk a1.Name a1.Errors) (H.arg ha1_0) hy2) ?_
      rintro _ w5 hb5 rfl
      have H := H.ext hb5
      refine O.not rfl rfl rfl ?_
      refine O.pick_false (v := (.bool (!t2))) rfl rfl rfl rfl ?_
      refine WL.nil ?_
      have hq : (!t2) = b4 := Option.some.inj (show some (!t2) = some b4 from hm1)
      subst hq
      exact ⟨rfl, rfl, rfl, rfl, H⟩
  · skip
    rintro f w ⟨hf2, hf3, hf4, hf16, H⟩
    obtain ⟨u1, rfl⟩ : ∃ u1, f = (upd (upd (upd (upd u1 2 (.pointer (some ⟨b1, 0, none⟩))) 3 (.pointer (some ⟨b2, 0, none⟩))) 4 (.pointer (some ⟨b3, 0, none⟩))) 16 (.bool b4)) := ⟨f, by rw [upd_self hf2, upd_self hf3, upd_self hf4, upd_self hf16]⟩
    refine WL.nil ?_
    rcases ite_some hm with ⟨hc2, hm⟩ | ⟨hc2, hm⟩
    · refine W.cond_true (congrArg Value.bool hc2) ?_
      refine W.seq ?_
      refine W.region ?_
      refine O.build (v := (.agg #[(.string ByteArray.empty), (.slice none 0 0)])) (fun w => bd24_  w) rfl rfl rfl ?_
      have H := H.addNil (α := Int) (E := 3)
      refine O.store 2 0 [(.string ByteArray.empty), (.slice none 0 0)] [(.string ByteArray.empty), (.slice none 0 0)] sz24 H rfl rfl rfl rfl rfl rfl ⟨⟨rfl, rfl⟩, rfl⟩ (one_cons rfl (one_cons rfl one_nil)) ?_
      intro w6 H
      refine O.assign (v := (.int .i64 1)) rfl rfl rfl ?_
      refine WL.nil ?_
      refine W.ret ?_
      have hq : ((GBox.mk ByteArray.empty ([] : List Int)), 1) = (r0, r1) := Option.some.inj (show some ((GBox.mk ByteArray.empty ([] : List Int)), 1) = some (r0, r1) from hm)
      obtain ⟨he0, hq0⟩ := Prod.mk.inj hq; clear hq; subst he0
      subst hq0
      exact ends2 Try.results25 ⟨_, rfl, run_loadVar_agg ag24 rfl (H.cell 2 rfl)⟩ rfl ⟨_, rfl, H.base, ⟨_, rfl, H.ownR 4 rfl⟩⟩
    · refine W.cond_false (congrArg Value.bool hc2) ?_
      refine W.skip ?_
      refine W.seq ?_
      obtain ⟨t3, ht3, hm⟩ := bind_some hm
      obtain ⟨wd1, rfl⟩ : ∃ x, x = w := ⟨w, rfl⟩
      refine W.draw 8 (fun k v wk => match k with | 0 => v = (.pointer (some (Addr.add (Addr.mk b1 0 none) 0))) | 1 => v = (.string a0.Name) | 2 => ∃ b : Nat, v = .slice (some ⟨b, 0, none⟩) 0 0 ∧ OwnR wd1 wk v 3 ([] : List Int) | 3 => v = (.pointer (some (Addr.add (Addr.mk b1 0 none) 1))) | 4 => v = va0_0 | 5 => OwnR wd1 wk v 3 t3 | 6 => ∃ v1 : Value, v = (.agg #[(.string a0.Name), v1]) ∧ OwnR wd1 wk v1 3 t3 | 7 => ∃ b : Nat, v = .pointer (some ⟨b, 0, none⟩) ∧ Inv wd1 wk [boxI b 24 [(.string ByteArray.empty), (.slice none 0 0)]] | _ => True) (by intro k v w w' h hb; match k, h with | 0, h => exact h | 1, h => exact h | 2, ⟨b, e, h⟩ => exact ⟨b, e, OwnR.mono h hb⟩ | 3, h => exact h | 4, h => exact h | 5, h => exact OwnR.mono h hb | 6, ⟨b, e, h⟩ => exact ⟨b, e, OwnR.mono h hb⟩ | 7, ⟨b, e, h⟩ => exact ⟨b, e, h.ext hb⟩ | _ + 8, h => exact h) fol (by kernel_rfl) ?_ ?_
      · skip
        refine ⟨⟨⟨⟨⟨⟨⟨⟨trivial, ?_⟩, ?_⟩, ?_⟩, ?_⟩, ?_⟩, ?_⟩, ?_⟩, ?_⟩
        · skip
          intro f wk hx hf hd
          have H := H.ext hx
          have hf2 : f 2 = (.pointer (some ⟨b1, 0, none⟩)) := hf 2 rfl
          obtain ⟨u2, rfl⟩ : ∃ u2, f = (upd u2 2 (.pointer (some ⟨b1, 0, none⟩))) := ⟨f, by rw [upd_self hf2]⟩
          refine O.fieldAddr fd24_0 rfl rfl rfl ?_
          refine WL.nil ?_
          exact ⟨Below.refl _ _, _, rfl, rfl⟩
        · skip
          intro f wk hx hf hd
          have H := H.ext hx
          have hf18 : f 18 = (.pointer (some (Addr.add (Addr.mk b1 0 none) 0))) := hd 0 rfl
          obtain ⟨u3, rfl⟩ : ∃ u3, f = (upd u3 18 (.pointer (some (Addr.add (Addr.mk b1 0 none) 0)))) := ⟨f, by rw [upd_self hf18]⟩
          refine O.load sc9 rfl rfl rfl (H.cell 0 rfl 0 _ rfl) ?_
          refine WL.nil ?_
          exact ⟨Below.refl _ _, _, rfl, rfl⟩
        · skip
          intro f wk hx hf hd
          have H := H.ext hx
          refine O.buildEmpty (α := Int) Try.underlying22 el3 (Inv.start (w := _)) rfl rfl ?_
          intro b5 w7 H hb6
          refine WL.nil ?_
          exact ⟨hb6, _, rfl, ⟨_, rfl, (H.ownR 0 rfl).base hx.size⟩⟩
        · skip
          intro f wk hx hf hd
          have H := H.ext hx
          have hf2 : f 2 = (.pointer (some ⟨b1, 0, none⟩)) := hf 2 rfl
          obtain ⟨u4, rfl⟩ : ∃ u4, f = (upd u4 2 (.pointer (some ⟨b1, 0, none⟩))) := ⟨f, by rw [upd_self hf2]⟩
          refine O.fieldAddr fd24_1 rfl rfl rfl ?_
          refine WL.nil ?_
          exact ⟨Below.refl _ _, _, rfl, rfl⟩
        · skip
          intro f wk hx hf hd
          have H := H.ext hx
          have hf21 : f 21 = (.pointer (some (Addr.add (Addr.mk b1 0 none) 1))) := hd 3 rfl
          obtain ⟨u5, rfl⟩ : ∃ u5, f = (upd u5 21 (.pointer (some (Addr.add (Addr.mk b1 0 none) 1)))) := ⟨f, by rw [upd_self hf21]⟩
          refine O.load sc22 rfl rfl rfl (H.cell 0 rfl 1 _ rfl) ?_
          refine WL.nil ?_
          exact ⟨Below.refl _ _, _, rfl, rfl⟩
        · skip
          intro f wk hx hf hd
          have H := H.ext hx
          obtain ⟨b5, hf20, ho20⟩ : ∃ b : Nat, f 20 = .slice (some ⟨b, 0, none⟩) 0 0 ∧ OwnR wd1 wk (f 20) 3 ([] : List Int) := hd 2 rfl
          rw [hf20] at ho20
          have hf22 : f 22 = va0_0 := hd 4 rfl
          obtain ⟨u6, rfl⟩ : ∃ u6, f = (upd (upd u6 20 (.slice (some ⟨b5, 0, none⟩) 0 0)) 22 va0_0) := ⟨f, by rw [upd_self hf20, upd_self hf22]⟩
          refine O.appendEmpty Try.underlying22 el3 rfl hx ho20 (H.arg ha0_0) ht3 rfl rfl rfl rfl ?_
          intro v1 _ hb7 ho1
          refine WL.nil ?_
          exact ⟨hb7, _, rfl, ho1⟩
        · skip
          intro f wk hx hf hd
          have H := H.ext hx
          have hf19 : f 19 = (.string a0.Name) := hd 1 rfl
          have ho23 : OwnR wd1 wk (f 23) 3 t3 := hd 5 rfl
          obtain ⟨v1, hf23⟩ : ∃ v1, f 23 = v1 := ⟨_, rfl⟩
          rw [hf23] at ho23
          obtain ⟨u7, rfl⟩ : ∃ u7, f = (upd (upd u7 19 (.string a0.Name)) 23 v1) := ⟨f, by rw [upd_self hf19, upd_self hf23]⟩
          obtain ⟨ad1, cap1, hvad1, _⟩ := ho23.sliceR.shape
          refine O.build (v := (.agg #[(.string a0.Name), v1])) (fun w => by rw [hvad1]; exact bd24_0_1 _ _ _ _ w) rfl rfl rfl ?_
          refine WL.nil ?_
          exact ⟨Below.refl _ _, _, rfl, ⟨_, rfl, ho23⟩⟩
        · skip
          intro f wk hx hf hd
          have H := H.ext hx
          refine O.alloc [(.string ByteArray.empty), (.slice none 0 0)] ze24 (Inv.start (w := _)) rfl rfl rfl ?_
          intro b6 w8 H hb8
          refine WL.nil ?_
          exact ⟨hb8, _, rfl, ⟨_, rfl, H.rebase hx⟩⟩
      · skip
        intro f wk hx hf hmd hd
        have hf3 : f 3 = (.pointer (some ⟨b2, 0, none⟩)) := hf 3 rfl
        have hf4 : f 4 = (.pointer (some ⟨b3, 0, none⟩)) := hf 4 rfl
        obtain ⟨b6, hf6, ho6⟩ : ∃ b : Nat, f 6 = .pointer (some ⟨b, 0, none⟩) ∧ Inv wd1 wk [boxI b 24 [(.string ByteArray.empty), (.slice none 0 0)]] := hd 7 rfl
        obtain ⟨v1, hf24, ho24⟩ : ∃ v1 : Value, f 24 = (.agg #[(.string a0.Name), v1]) ∧ OwnR wd1 wk v1 3 t3 := hd 6 rfl
        have H := H.addAll hx (Inv.two (Inv.start.addOwn hx ho24) ho6 (own_box_apart (by decide) ho24 ho6))
        obtain ⟨u8, rfl⟩ : ∃ u8, f = (upd (upd (upd (upd u8 3 (.pointer (some ⟨b2, 0, none⟩))) 4 (.pointer (some ⟨b3, 0, none⟩))) 6 (.pointer (some ⟨b6, 0, none⟩))) 24 (.agg #[(.string a0.Name), v1])) := ⟨f, by rw [upd_self hf3, upd_self hf4, upd_self hf6, upd_self hf24]⟩
        refine O.store 5 0 [(.string a0.Name), v1] [(.string a0.Name), v1] sz24 H rfl rfl rfl rfl rfl rfl ⟨⟨rfl, rfl⟩, rfl⟩ (one_cons rfl (one_cons (SliceR.one (H.own 4 rfl)) one_nil)) ?_
        intro w9 H
        refine WL.nil ?_
        refine W.seq ?_
        refine W.seq ?_
        refine W.region ?_
        refine O.loadA [(.string a1.Name), va1_0] ag24 rfl rfl rfl rfl (H.cell 1 rfl) ?_
        obtain ⟨t4, hy3, hm⟩ := bind_some hm
        refine O.call Try.call66 rfl rfl rfl (c_noongunref06_rates _ (GBox.mk a1.Name a1.Errors) (H.arg ha1_0) _ hy3) ?_
        rintro v2 w10 hb9 ho2
        have H := H.addOwn hb9 ho2
        refine O.lenS Try.underlying22 (H.own 6 rfl) rfl rfl rfl ?_
        refine O.move (v := (.int .i64 0)) rfl rfl rfl ?_
        refine WL.nil ?_
        obtain ⟨s1, hm2, hm⟩ := bind_some hm
        refine W.via (fun f w => ∃ v6 : Value, f 4 = (.pointer (some ⟨b3, 0, none⟩)) ∧ f 6 = (.pointer (some ⟨b6, 0, none⟩)) ∧ Inv w0 w [boxI b3 24 [(.string ByteArray.empty), (.slice none 0 0)], ownI (α := Int) (.slice none 0 0) 3 ([] : List Int), ownI (α := Int) v6 3 s1, boxI b6 24 [(.string a0.Name), v6]]) ?_ ?_
        · skip
          refine W.block ?_
          have H := H.keep [2, 3, 4, 5, 6] [boxI b3 24 [(.string ByteArray.empty), (.slice none 0 0)], ownI (α := Int) (.slice none 0 0) 3 ([] : List Int), ownI (α := Int) v1 3 t3, boxI b6 24 [(.string a0.Name), v1], ownI (α := Int) v2 3 t4] rfl (by decide)
          refine W.rangeL (i := 0) hm2 (fun rem ik1 s f w => ∃ z2 : (List Int), ∃ v4 : Value, z2 = s ∧ t4.drop ik1 = rem ∧ f 28 = .int .i64 (ik1 : Int) ∧ f 27 = (.int .i64 ((t4.length : Nat) : Int)) ∧ f 4 = (.pointer (some ⟨b3, 0, none⟩)) ∧ f 6 = (.pointer (some ⟨b6, 0, none⟩)) ∧ f 26 = v2 ∧ Inv w0 w [boxI b3 24 [(.string ByteArray.empty), (.slice none 0 0)], ownI (α := Int) (.slice none 0 0) 3 ([] : List Int), ownI (α := Int) v4 3 z2, boxI b6 24 [(.string a0.Name), v4], ownI (α := Int) v2 3 t4]) ?_ ?_ ?_
          · skip
            exact ⟨_, v1, rfl, List.drop_zero, rfl, rfl, rfl, rfl, rfl, H⟩
          · skip
            rintro yk1 xs ik1 _ st f w ⟨z2, v4, rfl, hdropk1, hf28, hf27, hf4, hf6, hf26, H⟩ hm3
            have hltk1 := drop_lt hdropk1; have hixk1 := drop_idx hdropk1
            obtain ⟨u9, rfl⟩ : ∃ u9, f = (upd (upd (upd (upd (upd u9 28 (.int .i64 (ik1 : Int))) 27 (.int .i64 ((t4.length : Nat) : Int))) 4 (.pointer (some ⟨b3, 0, none⟩))) 6 (.pointer (some ⟨b6, 0, none⟩))) 26 v2) := ⟨f, by rw [upd_self hf28, upd_self hf27, upd_self hf4, upd_self hf6, upd_self hf26]⟩
            have hinck1 := addI_lt hltk1 (H.own 4 rfl).len_le
            refine W.seq ?_
            refine W.region ?_
            refine O.lss rfl rfl rfl rfl ?_
            refine WL.nil ?_
            refine W.seq ?_
            refine W.cond_true (congrArg Value.bool (decide_eq_true hltk1)) ?_
            refine W.skip ?_
            refine W.seq ?_
            refine W.block ?_
            refine W.seq ?_
            refine W.region ?_
            refine O.indexAddr Try.underlying22 sz3 (H.own 4 rfl) hixk1 rfl rfl rfl rfl ?_
            intro p1 hp1
            refine O.load sc3 rfl rfl rfl (hp1.flat 0 _ rfl) ?_
            refine O.assign (v := (.int .i64 yk1)) rfl rfl rfl ?_
            refine WL.nil ?_
            obtain ⟨t5, ht5, hm3⟩ := bind_some hm3
            obtain ⟨x1, hx1, hm3⟩ := bind_some hm3
            obtain ⟨t6, ht6, hm3⟩ := bind_some hm3
            obtain ⟨wd2, rfl⟩ : ∃ x, x = w := ⟨w, rfl⟩
            refine W.draw 13 (fun k v wk => match k with | 0 => v = (.pointer (some (Addr.add (Addr.mk b6 0 none) 1))) | 1 => v = v4 | 2 => v = (.pointer (some (Addr.add (Addr.mk b6 0 none) 1))) | 3 => v = v4 | 4 => v = (.pointer (some (Addr.add (Addr.mk b6 0 none) 1))) | 5 => v = v4 | 6 => v = (.int .i64 ((z2.length : Nat) : Int)) | 7 => v = (.int .i64 t5) | 8 => ∃ p2 : Addr, v = (.pointer (some p2)) ∧ ElemAt wk p2 x1 | 9 => v = (.int .i64 x1) | 10 => v = (.int .i64 yk1) | 11 => v = (.int .i64 t6) | 12 => OwnR wd2 wk v 3 ([t6] : List Int) | _ => True) (by intro k v w w' h hb; match k, h with | 0, h => exact h | 1, h => exact h | 2, h => exact h | 3, h => exact h | 4, h => exact h | 5, h => exact h | 6, h => exact h | 7, h => exact h | 8, ⟨p, e, hp⟩ => exact ⟨p, e, hp.mono hb⟩ | 9, h => exact h | 10, h => exact h | 11, h => exact h | 12, h => exact OwnR.mono h hb | _ + 13, h => exact h) fol (by kernel_rfl) ?_ ?_
            · skip
              refine ⟨⟨⟨⟨⟨⟨⟨⟨⟨⟨⟨⟨⟨trivial, ?_⟩, ?_⟩, ?_⟩, ?_⟩, ?_⟩, ?_⟩, ?_⟩, ?_⟩, ?_⟩, ?_⟩, ?_⟩, ?_⟩, ?_⟩
              · skip
                intro f wk hx hf hd
                have H := H.ext hx
                have hf6 : f 6 = (.pointer (some ⟨b6, 0, none⟩)) := hf 6 rfl
                obtain ⟨u10, rfl⟩ : ∃ u10, f = (upd u10 6 (.pointer (some ⟨b6, 0, none⟩))) := ⟨f, by rw [upd_self hf6]⟩
                refine O.fieldAddr fd24_1 rfl rfl rfl ?_
                refine WL.nil ?_
                exact ⟨Below.refl _ _, _, rfl, rfl⟩
              · skip
                intro f wk hx hf hd
                have H := H.ext hx
                have hf32 : f 32 = (.pointer (some (Addr.add (Addr.mk b6 0 none) 1))) := hd 0 rfl
                obtain ⟨u11, rfl⟩ : ∃ u11, f = (upd u11 32 (.pointer (some (Addr.add (Addr.mk b6 0 none) 1)))) := ⟨f, by rw [upd_self hf32]⟩
                refine O.load sc22 rfl rfl rfl (H.cell 3 rfl 1 _ rfl) ?_
                refine WL.nil ?_
                exact ⟨Below.refl _ _, _, rfl, rfl⟩
              · skip
                intro f wk hx hf hd
                have H := H.ext hx
                have hf6 : f 6 = (.pointer (some ⟨b6, 0, none⟩)) := hf 6 rfl
                obtain ⟨u12, rfl⟩ : ∃ u12, f = (upd u12 6 (.pointer (some ⟨b6, 0, none⟩))) := ⟨f, by rw [upd_self hf6]⟩
                refine O.fieldAddr fd24_1 rfl rfl rfl ?_
                refine WL.nil ?_
                exact ⟨Below.refl _ _, _, rfl, rfl⟩
              · skip
                intro f wk hx hf hd
                have H := H.ext hx
                have hf34 : f 34 = (.pointer (some (Addr.add (Addr.mk b6 0 none) 1))) := hd 2 rfl
                obtain ⟨u13, rfl⟩ : ∃ u13, f = (upd u13 34 (.pointer (some (Addr.add (Addr.mk b6 0 none) 1)))) := ⟨f, by rw [upd_self hf34]⟩
                refine O.load sc22 rfl rfl rfl (H.cell 3 rfl 1 _ rfl) ?_
                refine WL.nil ?_
                exact ⟨Below.refl _ _, _, rfl, rfl⟩
              · skip
                intro f wk hx hf hd
                have H := H.ext hx
                have hf6 : f 6 = (.pointer (some ⟨b6, 0, none⟩)) := hf 6 rfl
                obtain ⟨u14, rfl⟩ : ∃ u14, f = (upd u14 6 (.pointer (some ⟨b6, 0, none⟩))) := ⟨f, by rw [upd_self hf6]⟩
                refine O.fieldAddr fd24_1 rfl rfl rfl ?_
                refine WL.nil ?_
                exact ⟨Below.refl _ _, _, rfl, rfl⟩
              · skip
                intro f wk hx hf hd
                have H := H.ext hx
                have hf36 : f 36 = (.pointer (some (Addr.add (Addr.mk b6 0 none) 1))) := hd 4 rfl
                obtain ⟨u15, rfl⟩ : ∃ u15, f = (upd u15 36 (.pointer (some (Addr.add (Addr.mk b6 0 none) 1)))) := ⟨f, by rw [upd_self hf36]⟩
                refine O.load sc22 rfl rfl rfl (H.cell 3 rfl 1 _ rfl) ?_
                refine WL.nil ?_
                exact ⟨Below.refl _ _, _, rfl, rfl⟩
              · skip
                intro f wk hx hf hd
                have H := H.ext hx
                have hf37 : f 37 = v4 := hd 5 rfl
                obtain ⟨u16, rfl⟩ : ∃ u16, f = (upd u16 37 v4) := ⟨f, by rw [upd_self hf37]⟩
                refine O.lenS Try.underlying22 (H.own 2 rfl) rfl rfl rfl ?_
                refine WL.nil ?_
                exact ⟨Below.refl _ _, _, rfl, rfl⟩
              · skip
                intro f wk hx hf hd
                have H := H.ext hx
                have hf38 : f 38 = (.int .i64 ((z2.length : Nat) : Int)) := hd 6 rfl
                obtain ⟨u17, rfl⟩ : ∃ u17, f = (upd u17 38 (.int .i64 ((z2.length : Nat) : Int))) := ⟨f, by rw [upd_self hf38]⟩
                refine O.sub rfl rfl rfl rfl ht5 ?_
                refine WL.nil ?_
                exact ⟨Below.refl _ _, _, rfl, rfl⟩
              · skip
                intro f wk hx hf hd
                have H := H.ext hx
                have hf35 : f 35 = v4 := hd 3 rfl
                have hf39 : f 39 = (.int .i64 t5) := hd 7 rfl
                obtain ⟨u18, rfl⟩ : ∃ u18, f = (upd (upd u18 35 v4) 39 (.int .i64 t5)) := ⟨f, by rw [upd_self hf35, upd_self hf39]⟩
                refine O.indexAddr Try.underlying22 sz3 (H.own 2 rfl) hx1 rfl rfl rfl rfl ?_
                intro p2 hp2
                refine WL.nil ?_
                exact ⟨Below.refl _ _, _, rfl, ⟨_, rfl, hp2⟩⟩
              · skip
                intro f wk hx hf hd
                have H := H.ext hx
                obtain ⟨p2, hf40, hp2⟩ : ∃ p2 : Addr, f 40 = (.pointer (some p2)) ∧ ElemAt wk p2 x1 := hd 8 rfl
                obtain ⟨u19, rfl⟩ : ∃ u19, f = (upd u19 40 (.pointer (some p2))) := ⟨f, by rw [upd_self hf40]⟩
                refine O.load sc3 rfl rfl rfl (hp2.flat 0 _ rfl) ?_
                refine WL.nil ?_
                exact ⟨Below.refl _ _, _, rfl, rfl⟩
              · skip
                intro f wk hx hf hd
                have H := H.ext hx
                have hf8 : f 8 = (.int .i64 yk1) := hf 8 rfl
                obtain ⟨u20, rfl⟩ : ∃ u20, f = (upd u20 8 (.int .i64 yk1)) := ⟨f, by rw [upd_self hf8]⟩
                refine O.move (v := (.int .i64 yk1)) rfl rfl rfl ?_
                refine WL.nil ?_
                exact ⟨Below.refl _ _, _, rfl, rfl⟩
              · skip
                intro f wk hx hf hd
                have H := H.ext hx
                have hf41 : f 41 = (.int .i64 x1) := hd 9 rfl
                have hf42 : f 42 = (.int .i64 yk1) := hd 10 rfl
                obtain ⟨u21, rfl⟩ : ∃ u21, f = (upd (upd u21 41 (.int .i64 x1)) 42 (.int .i64 yk1)) := ⟨f, by rw [upd_self hf41, upd_self hf42]⟩
                refine O.add rfl rfl rfl rfl ht6 ?_
                refine WL.nil ?_
                exact ⟨Below.refl _ _, _, rfl, rfl⟩
              · skip
                intro f wk hx hf hd
                have H := H.ext hx
                have hf43 : f 43 = (.int .i64 t6) := hd 11 rfl
                obtain ⟨u22, rfl⟩ : ∃ u22, f = (upd u22 43 (.int .i64 t6)) := ⟨f, by rw [upd_self hf43]⟩
                refine O.buildSlice (α := Int) [(.int .i64 t6)] [t6] Try.underlying22 el3 (Inv.start (w := _)) rfl rfl rfl rfl rfl rfl rfl ?_
                intro v7 w11 H hb10
                refine WL.nil ?_
                exact ⟨hb10, _, rfl, (H.ownR 0 rfl).base hx.size⟩
            · skip
              intro f wk hx hf hmd hd
              have hf4 : f 4 = (.pointer (some ⟨b3, 0, none⟩)) := hf 4 rfl
              have hf6 : f 6 = (.pointer (some ⟨b6, 0, none⟩)) := hf 6 rfl
              have hf26 : f 26 = v2 := hf 26 rfl
              have hf27 : f 27 = (.int .i64 ((t4.length : Nat) : Int)) := hf 27 rfl
              have hf28 : f 28 = (.int .i64 (ik1 : Int)) := hf 28 rfl
              have hf33 : f 33 = v4 := hd 1 rfl
              have ho44 : OwnR wd2 wk (f 44) 3 ([t6] : List Int) := hd 12 rfl
              obtain ⟨v7, hf44⟩ : ∃ v7, f 44 = v7 := ⟨_, rfl⟩
              rw [hf44] at ho44
              have H := H.addOwn hx ho44
              have hp1 := hp1.mono hx
              obtain ⟨u23, rfl⟩ : ∃ u23, f = (upd (upd (upd (upd (upd (upd (upd u23 4 (.pointer (some ⟨b3, 0, none⟩))) 6 (.pointer (some ⟨b6, 0, none⟩))) 26 v2) 27 (.int .i64 ((t4.length : Nat) : Int))) 28 (.int .i64 (ik1 : Int))) 33 v4) 44 v7) := ⟨f, by rw [upd_self hf4, upd_self hf6, upd_self hf26, upd_self hf27, upd_self hf28, upd_self hf33, upd_self hf44]⟩
              obtain ⟨t7, ht7, hm3⟩ := bind_some hm3
              refine O.append 2 Try.underlying22 el3 rfl H rfl (H.own 5 rfl) ht7 rfl rfl rfl rfl ?_
              intro v8 w12 H
              clear hp1
              refine O.fieldAddr fd24_1 rfl rfl rfl ?_
              refine O.store 3 1 [v8] [(.string a0.Name), v8] sz22 H rfl rfl rfl rfl rfl (SliceR.cells1 (H.own 2 rfl)) ⟨⟨rfl, rfl⟩, rfl⟩ (one_cons (SliceR.one (H.own 2 rfl)) one_nil) ?_
              intro w13 H
              refine WL.nil ?_
              refine W.region ?_
              refine O.add rfl rfl rfl rfl hinck1 ?_
              refine O.move (v := .int .i64 ((ik1 : Int) + 1)) rfl rfl rfl ?_
              refine WL.nil ?_
              have H := H.keep [0, 1, 2, 3, 4] [boxI b3 24 [(.string ByteArray.empty), (.slice none 0 0)], ownI (α := Int) (.slice none 0 0) 3 ([] : List Int), ownI (α := Int) v8 3 t7, boxI b6 24 [(.string a0.Name), v8], ownI (α := Int) v2 3 t4] rfl (by decide)
              obtain rfl := Option.some.inj hm3
              exact ⟨_, rfl, _, v8, rfl, drop_next hdropk1, rfl, rfl, rfl, rfl, rfl, H⟩
          · skip
            rintro ik1 _ f w ⟨z2, v4, rfl, hdropk1, hf28, hf27, hf4, hf6, hf26, H⟩ hfin
            have hltk1 := drop_end hdropk1
            obtain ⟨u24, rfl⟩ : ∃ u24, f = (upd (upd (upd (upd (upd u24 28 (.int .i64 (ik1 : Int))) 27 (.int .i64 ((t4.length : Nat) : Int))) 4 (.pointer (some ⟨b3, 0, none⟩))) 6 (.pointer (some ⟨b6, 0, none⟩))) 26 v2) := ⟨f, by rw [upd_self hf28, upd_self hf27, upd_self hf4, upd_self hf6, upd_self hf26]⟩
            refine W.seq ?_
            refine W.region ?_
            refine O.lss rfl rfl rfl rfl ?_
            refine WL.nil ?_
            refine W.seq ?_
            refine W.cond_false (congrArg Value.bool (decide_eq_false hltk1)) ?_
            refine W.exit ?_
            have hq : z2 = s1 := hfin
            subst hq
            have H := H.keep [0, 1, 2, 3] [boxI b3 24 [(.string ByteArray.empty), (.slice none 0 0)], ownI (α := Int) (.slice none 0 0) 3 ([] : List Int), ownI (α := Int) v4 3 z2, boxI b6 24 [(.string a0.Name), v4]] rfl (by decide)
            refine xT rfl ?_
            exact ⟨v4, rfl, rfl, H⟩
        · skip
          rintro f w ⟨v6, hf4, hf6, H⟩
          obtain ⟨u25, rfl⟩ : ∃ u25, f = (upd (upd u25 4 (.pointer (some ⟨b3, 0, none⟩))) 6 (.pointer (some ⟨b6, 0, none⟩))) := ⟨f, by rw [upd_self hf4, upd_self hf6]⟩
          refine W.seq ?_
          refine W.seq ?_
          refine W.region ?_
          refine O.loadA [(.string a0.Name), v6] ag24 rfl rfl rfl rfl (H.cell 3 rfl) ?_
          obtain ⟨t8, hy4, hm⟩ := bind_some hm
          refine O.call Try.call37 rfl rfl rfl (c_noongunref06_ValidBox _ (GBox.mk a0.Name s1) (H.own 2 rfl) hy4) ?_
          rintro _ w14 hb11 rfl
          have H := H.ext hb11
          refine O.not rfl rfl rfl ?_
          refine WL.nil ?_
          rcases ite_some hm with ⟨hc3, hm⟩ | ⟨hc3, hm⟩
          · refine W.cond_true (congrArg Value.bool hc3) ?_
            refine W.seq ?_
            refine W.region ?_
            refine O.build (v := (.agg #[(.string ByteArray.empty), (.slice none 0 0)])) (fun w => bd24_  w) rfl rfl rfl ?_
            have H := H.addNil (α := Int) (E := 3)
            refine O.store 0 0 [(.string ByteArray.empty), (.slice none 0 0)] [(.string ByteArray.empty), (.slice none 0 0)] sz24 H rfl rfl rfl rfl rfl rfl ⟨⟨rfl, rfl⟩, rfl⟩ (one_cons rfl (one_cons rfl one_nil)) ?_
            intro w15 H
            refine O.assign (v := (.int .i64 4)) rfl rfl rfl ?_
            refine WL.nil ?_
            refine W.ret ?_
            have hq : ((GBox.mk ByteArray.empty ([] : List Int)), 4) = (r0, r1) := Option.some.inj (show some ((GBox.mk ByteArray.empty ([] : List Int)), 4) = some (r0, r1) from hm)
            obtain ⟨he0, hq0⟩ := Prod.mk.inj hq; clear hq; subst he0
            subst hq0
            exact ends2 Try.results25 ⟨_, rfl, run_loadVar_agg ag24 rfl (H.cell 0 rfl)⟩ rfl ⟨_, rfl, H.base, ⟨_, rfl, H.ownR 4 rfl⟩⟩
          · refine W.cond_false (congrArg Value.bool hc3) ?_
            refine W.skip ?_
            refine W.seq ?_
            refine W.region ?_
            refine O.loadA [(.string a0.Name), v6] ag24 rfl rfl rfl rfl (H.cell 3 rfl) ?_
            refine O.store 0 0 [(.string a0.Name), v6] [(.string a0.Name), v6] sz24 H rfl rfl rfl rfl rfl rfl ⟨⟨rfl, rfl⟩, rfl⟩ (one_cons rfl (one_cons (SliceR.one (H.own 2 rfl)) one_nil)) ?_
            intro w16 H
            refine O.assign (v := (.int .i64 0)) rfl rfl rfl ?_
            refine WL.nil ?_
            refine W.ret ?_
            have hq : ((GBox.mk a0.Name s1), 0) = (r0, r1) := Option.some.inj (show some ((GBox.mk a0.Name s1), 0) = some (r0, r1) from hm)
            obtain ⟨he0, hq0⟩ := Prod.mk.inj hq; clear hq; subst he0
            subst hq0
            exact ends2 Try.results25 ⟨_, rfl, run_loadVar_agg ag24 rfl (H.cell 0 rfl)⟩ rfl ⟨_, rfl, H.base, ⟨_, rfl, H.ownR 2 rfl⟩⟩

set_option maxRecDepth 20000 in
theorem c_noongunlaw06_RateJoined {w0 : World} (va0_0 : Value) (a0 : GBox) (ha0_0 : SliceR w0 va0_0 a0.Errors) (va1_0 : Value) (a1 : GBox) (ha1_0 : SliceR w0 va1_0 a1.Errors) {r0 : Bool} (hm : noongunlaw06_RateJoined a0 a1 = some r0) :
    Calls Try.prog 6 #[(.agg #[(.string a0.Name), va0_0]), (.agg #[(.string a1.Name), va1_0])] w0 (Ret w0 fun _ v => v = (.bool r0)) := by
  unfold noongunlaw06_RateJoined at hm
  refine calls_of_W Try.func6 rfl Try.ntmps6 (Nat.le_of_ble_eq_true rfl) ?_
  have H := Inv.start (w := w0)
  refine W.seq ?_
  refine W.region ?_
  refine O.box [(.string a0.Name), va0_0] H rfl rfl rfl rfl ?_
  intro b1 w1 H hb1
  refine O.box [(.string a1.Name), va1_0] H rfl rfl rfl rfl ?_
  intro b2 w2 H hb2
  refine O.assign (v := (.bool false)) rfl rfl rfl ?_
  refine WL.nil ?_
  refine W.seq ?_
  refine W.seq ?_
  refine W.region ?_
  refine O.loadA [(.string a0.Name), va0_0] ag24 rfl rfl rfl rfl (H.cell 0 rfl) ?_
  refine O.loadA [(.string a1.Name), va1_0] ag24 rfl rfl rfl rfl (H.cell 1 rfl) ?_
  refine O.buildSliceR (α := GBox) [(.agg #[(.string a0.Name), va0_0]), (.agg #[(.string a1.Name), va1_0])] [(GBox.mk a0.Name a0.Errors), (GBox.mk a1.Name a1.Errors)] Try.underlying55 el24 (RepL.cons (α := GBox) (v := (.agg #[(.string a0.Name), va0_0])) (GBox_rep (H.arg ha0_0)) (RepL.cons (α := GBox) (v := (.agg #[(.string a1.Name), va1_0])) (GBox_rep (H.arg ha1_0)) RepL.nil)) rfl rfl rfl rfl rfl ?_
  intro v1 w3 hb3 hs1
  have H := H.ext hb3
  obtain ⟨t1, hy1, hm⟩ := bind_some hm
  refine O.call Try.call13 rfl rfl rfl (c_noongunlaw06_fit _ _ hs1 hy1) ?_
  rintro _ w4 hb4 rfl
  have hs1 := hs1.mono hb4
  have H := H.ext hb4
  refine O.not rfl rfl rfl ?_
  refine WL.nil ?_
  rcases ite_some hm with ⟨hc1, hm⟩ | ⟨hc1, hm⟩
  · refine W.cond_true (congrArg Value.bool hc1) ?_
    refine W.seq ?_
    refine W.region ?_
    obtain ⟨t2, hy2, hm⟩ := bind_some hm
    refine O.call Try.call14 rfl rfl rfl (c_noongunlaw06_awake  hy2) ?_
    rintro _ w5 hb5 rfl
    have hs1 := hs1.mono hb5
    have H := H.ext hb5
    refine O.assign (v := (.bool t2)) rfl rfl rfl ?_
    refine WL.nil ?_
    refine W.ret ?_
    have hq : t2 = r0 := Option.some.inj (show some t2 = some r0 from hm)
    subst hq
    exact ends1 Try.results6 rfl ⟨_, rfl, H.base, rfl⟩
  · refine W.cond_false (congrArg Value.bool hc1) ?_
    refine W.skip ?_
    refine W.seq ?_
    refine W.region ?_
    refine O.loadA [(.string a0.Name), va0_0] ag24 rfl rfl rfl rfl (H.cell 0 rfl) ?_
    refine O.loadA [(.string a1.Name), va1_0] ag24 rfl rfl rfl rfl (H.cell 1 rfl) ?_
    obtain ⟨⟨t3, t4⟩, hy3, hm⟩ := bind_some hm
    refine O.call Try.call24 rfl rfl rfl (c_rate_Joined _ (GBox.mk a0.Name a0.Errors) (H.arg ha0_0) _ (GBox.mk a1.Name a1.Errors) (H.arg ha1_0) hy3) ?_
    rintro _ w6 hb6 ⟨v2, rfl, ho1⟩
    have hs1 := hs1.mono hb6
    have H := H.addOwn hb6 ho1
    refine O.move (v := (.tuple #[(.agg #[(.string t3.Name), v2]), (.int .i64 t4)])) rfl rfl rfl ?_
    refine O.extract (v := (.agg #[(.string t3.Name), v2])) rfl rfl rfl rfl ?_
    refine O.extract (v := (.int .i64 t4)) rfl rfl rfl rfl ?_
    refine O.alloc [(.string ByteArray.empty), (.slice none 0 0)] ze24 H rfl rfl rfl ?_
    intro b3 w7 H hb7
    have hs1 := hs1.mono hb7
    have H := H.addNil (α := Int) (E := 3)
    refine O.store 3 0 [(.string t3.Name), v2] [(.string t3.Name), v2] sz24 H rfl rfl rfl rfl rfl rfl ⟨⟨rfl, rfl⟩, rfl⟩ (one_cons rfl (one_cons (SliceR.one (H.own 2 rfl)) one_nil)) ?_
    intro w8 H
    clear hs1
    refine O.assign (v := (.int .i64 t4)) rfl rfl rfl ?_
    refine WL.nil ?_
    refine W.seq ?_
    refine W.region ?_
    refine O.loadA [(.string a0.Name), va0_0] ag24 rfl rfl rfl rfl (H.cell 0 rfl) ?_
    refine O.loadA [(.string a1.Name), va1_0] ag24 rfl rfl rfl rfl (H.cell 1 rfl) ?_
    obtain ⟨⟨t5, t6⟩, hy4, hm⟩ := bind_some hm
    refine O.call Try.call25 rfl rfl rfl (c_noongunref06_Joined _ (GBox.mk a0.Name a0.Errors) (H.arg ha0_0) _ (GBox.mk a1.Name a1.Errors) (H.arg ha1_0) hy4) ?_
    rintro _ w9 hb8 ⟨v3, rfl, ho3⟩
    have H := H.addOwn hb8 ho3
    refine O.move (v := (.tuple #[(.agg #[(.string t5.Name), v3]), (.int .i64 t6)])) rfl rfl rfl ?_
    refine O.extract (v := (.agg #[(.string t5.Name), v3])) rfl rfl rfl rfl ?_
    refine O.extract (v := (.int .i64 t6)) rfl rfl rfl rfl ?_
    refine O.alloc [(.string ByteArray.empty), (.slice none 0 0)] ze24 H rfl rfl rfl ?_
    intro b4 w10 H hb9
    have H := H.addNil (α := Int) (E := 3)
    refine O.store 6 0 [(.string t5.Name), v3] [(.string t5.Name), v3] sz24 H rfl rfl rfl rfl rfl rfl ⟨⟨rfl, rfl⟩, rfl⟩ (one_cons rfl (one_cons (SliceR.one (H.own 5 rfl)) one_nil)) ?_
    intro w11 H
    refine O.assign (v := (.int .i64 t6)) rfl rfl rfl ?_
    refine WL.nil ?_
    refine W.seq ?_
    refine W.seq ?_
    refine W.region ?_
    refine O.loadA [(.string t3.Name), v2] ag24 rfl rfl rfl rfl (H.cell 3 rfl) ?_
    refine O.loadA [(.string t5.Name), v3] ag24 rfl rfl rfl rfl (H.cell 6 rfl) ?_
    obtain ⟨t7, hy5, hm⟩ := bind_some hm
    refine O.call Try.call19 rfl rfl rfl (c_noongunref06_SameBox _ (GBox.mk t3.Name t3.Errors) (H.own 2 rfl) _ (GBox.mk t5.Name t5.Errors) (H.own 5 rfl) hy5) ?_
    rintro _ w12 hb10 rfl
    have H := H.ext hb10
    refine O.not rfl rfl rfl ?_
    refine O.move (v := (.bool (!t7))) rfl rfl rfl ?_
    refine WL.cut 4 (fun f w => f 2 = (.pointer (some ⟨b1, 0, none⟩)) ∧ f 3 = (.pointer (some ⟨b2, 0, none⟩)) ∧ f 5 = (.pointer (some ⟨b3, 0, none⟩)) ∧ f 6 = (.int .i64 t4) ∧ f 41 = .bool ((!t7) || (t4 != t6)) ∧ Inv w0 w [boxI b1 24 [(.string a0.Name), va0_0], boxI b2 24 [(.string a1.Name), va1_0], ownI (α := Int) v2 3 t3.Errors, boxI b3 24 [(.string t3.Name), v2], ownI (α := Int) (.slice none 0 0) 3 ([] : List Int), ownI (α := Int) v3 3 t5.Errors, boxI b4 24 [(.string t5.Name), v3], ownI (α := Int) (.slice none 0 0) 3 ([] : List Int)]) ?_ ?_
    · skip
      rcases bool_ft (!t7) with hc2 | hc2
      · skip
        refine WL.reset (i := 37) (v := .bool false) (congrArg Value.bool hc2) ?_
        refine O.move (v := (.int .i64 t4)) rfl rfl rfl ?_
        refine O.move (v := (.int .i64 t6)) rfl rfl rfl ?_
        refine O.neq rfl rfl rfl rfl ?_
        refine O.pick_false (v := (.bool (t4 != t6))) rfl rfl rfl rfl ?_
        refine WL.nil ?_
        exact ⟨rfl, rfl, rfl, rfl, congrArg Value.bool (or_f hc2), H⟩
      · skip
        refine WL.reset (i := 37) (v := .bool true) (congrArg Value.bool hc2) ?_
        refine O.skip rfl rfl ?_
        refine O.skip rfl rfl ?_
        refine O.skip rfl rfl ?_
        refine O.pick_true (v := (.bool true)) rfl rfl rfl rfl ?_
        refine WL.nil ?_
        exact ⟨rfl, rfl, rfl, rfl, congrArg Value.bool (or_t hc2), H⟩
    · skip
      rintro f w ⟨hf2, hf3, hf5, hf6, hf41, H⟩
      obtain ⟨u1, rfl⟩ : ∃ u1, f = (upd (upd (upd (upd (upd u1 2 (.pointer (some ⟨b1, 0, none⟩))) 3 (.pointer (some ⟨b2, 0, none⟩))) 5 (.pointer (some ⟨b3, 0, none⟩))) 6 (.int .i64 t4)) 41 (.bool ((!t7) || (t4 != t6)))) := ⟨f, by rw [upd_self hf2, upd_self hf3, upd_self hf5, upd_self hf6, upd_self hf41]⟩
      refine WL.nil ?_
      rcases ite_some hm with ⟨hc3, hm⟩ | ⟨hc3, hm⟩
      · refine W.cond_true (congrArg Value.bool hc3) ?_
        refine W.seq ?_
        refine W.region ?_
        refine O.assign (v := (.bool false)) rfl rfl rfl ?_
        refine WL.nil ?_
        refine W.ret ?_
        have hq : false = r0 := Option.some.inj (show some false = some r0 from hm)
        subst hq
        exact ends1 Try.results6 rfl ⟨_, rfl, H.base, rfl⟩
      · refine W.cond_false (congrArg Value.bool hc3) ?_
        refine W.skip ?_
        refine W.seq ?_
        refine W.seq ?_
        refine W.region ?_
        refine O.move (v := (.int .i64 t4)) rfl rfl rfl ?_
        refine O.neq rfl rfl rfl rfl ?_
        refine WL.nil ?_
        rcases ite_some hm with ⟨hc4, hm⟩ | ⟨hc4, hm⟩
        · refine W.cond_true (congrArg Value.bool hc4) ?_
          refine W.seq ?_
          refine W.region ?_
          obtain ⟨t8, hy6, hm⟩ := bind_some hm
          refine O.call Try.call14 rfl rfl rfl (c_noongunlaw06_awake  hy6) ?_
          rintro _ w13 hb11 rfl
          have H := H.ext hb11
          refine O.assign (v := (.bool t8)) rfl rfl rfl ?_
          refine WL.nil ?_
          refine W.ret ?_
          have hq : t8 = r0 := Option.some.inj (show some t8 = some r0 from hm)
          subst hq
          exact ends1 Try.results6 rfl ⟨_, rfl, H.base, rfl⟩
        · refine W.cond_false (congrArg Value.bool hc4) ?_
          refine W.skip ?_
          refine W.seq ?_
          refine W.region ?_
          refine O.loadA [(.string a0.Name), va0_0] ag24 rfl rfl rfl rfl (H.cell 0 rfl) ?_
          obtain ⟨⟨t9, t10⟩, hy7, hm⟩ := bind_some hm
          refine O.call Try.call20 rfl rfl rfl (c_rate_Daily _ (GBox.mk a0.Name a0.Errors) (H.arg ha0_0) hy7) ?_
          rintro _ w14 hb12 ⟨v4, rfl, ho5⟩
          have H := H.addOwn hb12 ho5
          refine O.move (v := (.tuple #[v4, (.int .i64 t10)])) rfl rfl rfl ?_
          refine O.extract (v := v4) rfl rfl rfl rfl ?_
          refine O.extract (v := (.int .i64 t10)) rfl rfl rfl rfl ?_
          refine O.assign (v := v4) rfl rfl rfl ?_
          refine O.assign (v := (.int .i64 t10)) rfl rfl rfl ?_
          refine WL.nil ?_
          refine W.seq ?_
          refine W.region ?_
          refine O.loadA [(.string a1.Name), va1_0] ag24 rfl rfl rfl rfl (H.cell 1 rfl) ?_
          obtain ⟨⟨t11, t12⟩, hy8, hm⟩ := bind_some hm
          refine O.call Try.call20 rfl rfl rfl (c_rate_Daily _ (GBox.mk a1.Name a1.Errors) (H.arg ha1_0) hy8) ?_
          rintro _ w15 hb13 ⟨v5, rfl, ho6⟩
          have H := H.addOwn hb13 ho6
          refine O.move (v := (.tuple #[v5, (.int .i64 t12)])) rfl rfl rfl ?_
          refine O.extract (v := v5) rfl rfl rfl rfl ?_
          refine O.extract (v := (.int .i64 t12)) rfl rfl rfl rfl ?_
          refine O.assign (v := v5) rfl rfl rfl ?_
          refine O.assign (v := (.int .i64 t12)) rfl rfl rfl ?_
          refine WL.nil ?_
          refine W.seq ?_
          refine W.region ?_
          refine O.loadA [(.string t3.Name), v2] ag24 rfl rfl rfl rfl (H.cell 3 rfl) ?_
          obtain ⟨⟨t13, t14⟩, hy9, hm⟩ := bind_some hm
          refine O.call Try.call20 rfl rfl rfl (c_rate_Daily _ (GBox.mk t3.Name t3.Errors) (H.own 2 rfl) hy9) ?_
          rintro _ w16 hb14 ⟨v6, rfl, ho7⟩
          have H := H.addOwn hb14 ho7
          refine O.move (v := (.tuple #[v6, (.int .i64 t14)])) rfl rfl rfl ?_
          refine O.extract (v := v6) rfl rfl rfl rfl ?_
          refine O.extract (v := (.int .i64 t14)) rfl rfl rfl rfl ?_
          refine O.assign (v := v6) rfl rfl rfl ?_
          refine O.assign (v := (.int .i64 t14)) rfl rfl rfl ?_
          refine WL.nil ?_
          refine W.seq ?_
          refine W.region ?_
          refine O.move (v := (.int .i64 t10)) rfl rfl rfl ?_
          refine O.eql rfl rfl rfl rfl ?_
          refine O.move (v := (.bool (t10 == 0))) rfl rfl rfl ?_
          refine WL.cut 3 (fun f w => f 9 = v4 ∧ f 11 = v5 ∧ f 13 = v6 ∧ f 14 = (.int .i64 t14) ∧ f 65 = .bool ((t10 == 0) && (t12 == 0)) ∧ Inv w0 w [boxI b1 24 [(.string a0.Name), va0_0], boxI b2 24 [(.string a1.Name), va1_0], ownI (α := Int) v2 3 t3.Errors, boxI b3 24 [(.string t3.Name), v2], ownI (α := Int) (.slice none 0 0) 3 ([] : List Int), ownI (α := Int) v3 3 t5.Errors, boxI b4 24 [(.string t5.Name), v3], ownI (α := Int) (.slice none 0 0) 3 ([] : List Int), ownI (α := Int) v4 3 t9, ownI (α := Int) v5 3 t11, ownI (α := Int) v6 3 t13]) ?_ ?_
          · skip
            rcases bool_ft (t10 == 0) with hc5 | hc5
            · skip
              refine WL.reset (i := 62) (v := .bool false) (congrArg Value.bool hc5) ?_
              refine O.skip rfl rfl ?_
              refine O.skip rfl rfl ?_
              refine O.pick_false (v := (.bool false)) rfl rfl rfl rfl ?_
              refine WL.nil ?_
              exact ⟨rfl, rfl, rfl, rfl, congrArg Value.bool (and_f hc5), H⟩
            · skip
              refine WL.reset (i := 62) (v := .bool true) (congrArg Value.bool hc5) ?_
              refine O.move (v := (.int .i64 t12)) rfl rfl rfl ?_
              refine O.eql rfl rfl rfl rfl ?_
              refine O.pick_true (v := (.bool (t12 == 0))) rfl rfl rfl rfl ?_
              refine WL.nil ?_
              exact ⟨rfl, rfl, rfl, rfl, congrArg Value.bool (and_t hc5), H⟩
          · skip
            rintro f w ⟨hf9, hf11, hf13, hf14, hf65, H⟩
            obtain ⟨u2, rfl⟩ : ∃ u2, f = (upd (upd (upd (upd (upd u2 9 v4) 11 v5) 13 v6) 14 (.int .i64 t14)) 65 (.bool ((t10 == 0) && (t12 == 0)))) := ⟨f, by rw [upd_self hf9, upd_self hf11, upd_self hf13, upd_self hf14, upd_self hf65]⟩
            refine O.move (v := (.bool ((t10 == 0) && (t12 == 0)))) rfl rfl rfl ?_
            refine WL.cut 3 (fun f w => f 9 = v4 ∧ f 11 = v5 ∧ f 13 = v6 ∧ f 69 = .bool (((t10 == 0) && (t12 == 0)) && (t14 == 0)) ∧ Inv w0 w [boxI b1 24 [(.string a0.Name), va0_0], boxI b2 24 [(.string a1.Name), va1_0], ownI (α := Int) v2 3 t3.Errors, boxI b3 24 [(.string t3.Name), v2], ownI (α := Int) (.slice none 0 0) 3 ([] : List Int), ownI (α := Int) v3 3 t5.Errors, boxI b4 24 [(.string t5.Name), v3], ownI (α := Int) (.slice none 0 0) 3 ([] : List Int), ownI (α := Int) v4 3 t9, ownI (α := Int) v5 3 t11, ownI (α := Int) v6 3 t13]) ?_ ?_
            · skip
              rcases bool_ft ((t10 == 0) && (t12 == 0)) with hc6 | hc6
              · skip
                refine WL.reset (i := 66) (v := .bool false) (congrArg Value.bool hc6) ?_
                refine O.skip rfl rfl ?_
                refine O.skip rfl rfl ?_
                refine O.pick_false (v := (.bool false)) rfl rfl rfl rfl ?_
                refine WL.nil ?_
                exact ⟨rfl, rfl, rfl, congrArg Value.bool (and_f hc6), H⟩
              · skip
                refine WL.reset (i := 66) (v := .bool true) (congrArg Value.bool hc6) ?_
                refine O.move (v := (.int .i64 t14)) rfl rfl rfl ?_
                refine O.eql rfl rfl rfl rfl ?_
                refine O.pick_true (v := (.bool (t14 == 0))) rfl rfl rfl rfl ?_
                refine WL.nil ?_
                exact ⟨rfl, rfl, rfl, congrArg Value.bool (and_t hc6), H⟩
            · skip
              rintro f w ⟨hf9, hf11, hf13, hf69, H⟩
              obtain ⟨u3, rfl⟩ : ∃ u3, f = (upd (upd (upd (upd u3 9 v4) 11 v5) 13 v6) 69 (.bool (((t10 == 0) && (t12 == 0)) && (t14 == 0)))) := ⟨f, by rw [upd_self hf9, upd_self hf11, upd_self hf13, upd_self hf69]⟩
              refine O.move (v := (.bool (((t10 == 0) && (t12 == 0)) && (t14 == 0)))) rfl rfl rfl ?_
              obtain ⟨b5, hm1, hm⟩ := bind_some hm
              refine WL.cut 8 (fun f w => f 78 = .bool b5 ∧ Inv w0 w [boxI b1 24 [(.string a0.Name), va0_0], boxI b2 24 [(.string a1.Name), va1_0], ownI (α := Int) v2 3 t3.Errors, boxI b3 24 [(.string t3.Name), v2], ownI (α := Int) (.slice none 0 0) 3 ([] : List Int), ownI (α := Int) v3 3 t5.Errors, boxI b4 24 [(.string t5.Name), v3], ownI (α := Int) (.slice none 0 0) 3 ([] : List Int), ownI (α := Int) v4 3 t9, ownI (α := Int) v5 3 t11, ownI (α := Int) v6 3 t13]) ?_ ?_
              · skip
                rcases ite_some hm1 with ⟨hc7, hm1⟩ | ⟨hc7, hm1⟩
                · skip
                  refine WL.reset (i := 70) (v := .bool true) (congrArg Value.bool hc7) ?_
                  refine O.move (v := v6) rfl rfl rfl ?_
                  refine O.buildEmpty (α := Int) Try.underlying22 el3 H rfl rfl ?_
                  intro b6 w17 H hb15
                  refine O.move (v := v4) rfl rfl rfl ?_
                  obtain ⟨t15, ht15, hm1⟩ := bind_some hm1
                  refine O.append 11 Try.underlying22 el3 rfl H rfl (H.own 8 rfl) ht15 rfl rfl rfl rfl ?_
                  intro v7 w18 H
                  refine O.move (v := v5) rfl rfl rfl ?_
                  obtain ⟨t16, ht16, hm1⟩ := bind_some hm1
                  refine O.append 11 Try.underlying22 el3 rfl H rfl (H.own 9 rfl) ht16 rfl rfl rfl rfl ?_
                  intro v8 w19 H
                  obtain ⟨t17, hy10, hm1⟩ := bind_some hm1
                  refine O.call Try.call26 rfl rfl rfl (c_noongunref06_SameInts _ _ (H.own 10 rfl) _ _ (H.own 11 rfl) hy10) ?_
                  rintro _ w20 hb16 rfl
                  have H := H.ext hb16
                  refine O.pick_true (v := (.bool t17)) rfl rfl rfl rfl ?_
                  refine WL.nil ?_
                  have H := H.keep [0, 1, 2, 3, 4, 5, 6, 7, 8, 9, 10] [boxI b1 24 [(.string a0.Name), va0_0], boxI b2 24 [(.string a1.Name), va1_0], ownI (α := Int) v2 3 t3.Errors, boxI b3 24 [(.string t3.Name), v2], ownI (α := Int) (.slice none 0 0) 3 ([] : List Int), ownI (α := Int) v3 3 t5.Errors, boxI b4 24 [(.string t5.Name), v3], ownI (α := Int) (.slice none 0 0) 3 ([] : List Int), ownI (α := Int) v4 3 t9, ownI (α := Int) v5 3 t11, ownI (α := Int) v6 3 t13] rfl (by decide)
                  have hq : t17 = b5 := Option.some.inj (show some t17 = some b5 from hm1)
                  subst hq
                  exact ⟨rfl, H⟩
                · skip
                  refine WL.reset (i := 70) (v := .bool false) (congrArg Value.bool hc7) ?_
                  refine O.skip rfl rfl ?_
                  refine O.skip rfl rfl ?_
                  refine O.skip rfl rfl ?_
                  refine O.skip rfl rfl ?_
                  refine O.skip rfl rfl ?_
                  refine O.skip rfl rfl ?_
                  refine O.skip rfl rfl ?_
                  refine O.pick_false (v := (.bool false)) rfl rfl rfl rfl ?_
                  refine WL.nil ?_
                  have hq : false = b5 := Option.some.inj (show some false = some b5 from hm1)
                  subst hq
                  exact ⟨rfl, H⟩
              · skip
                rintro f w ⟨hf78, H⟩
                obtain ⟨u4, rfl⟩ : ∃ u4, f = (upd u4 78 (.bool b5)) := ⟨f, by rw [upd_self hf78]⟩
                refine O.move (v := (.bool b5)) rfl rfl rfl ?_
                obtain ⟨b7, hm2, hm⟩ := bind_some hm
                refine WL.cut 2 (fun f w => f 81 = .bool b7 ∧ Inv w0 w [boxI b1 24 [(.string a0.Name), va0_0], boxI b2 24 [(.string a1.Name), va1_0], ownI (α := Int) v2 3 t3.Errors, boxI b3 24 [(.string t3.Name), v2], ownI (α := Int) (.slice none 0 0) 3 ([] : List Int), ownI (α := Int) v3 3 t5.Errors, boxI b4 24 [(.string t5.Name), v3], ownI (α := Int) (.slice none 0 0) 3 ([] : List Int), ownI (α := Int) v4 3 t9, ownI (α := Int) v5 3 t11, ownI (α := Int) v6 3 t13]) ?_ ?_
                · skip
                  rcases ite_some hm2 with ⟨hc8, hm2⟩ | ⟨hc8, hm2⟩
                  · skip
                    refine WL.reset (i := 79) (v := .bool true) (congrArg Value.bool hc8) ?_
                    obtain ⟨t18, hy11, hm2⟩ := bind_some hm2
                    refine O.call Try.call14 rfl rfl rfl (c_noongunlaw06_awake  hy11) ?_
                    rintro _ w21 hb17 rfl
                    have H := H.ext hb17
                    refine O.pick_true (v := (.bool t18)) rfl rfl rfl rfl ?_
                    refine WL.nil ?_
                    have hq : t18 = b7 := Option.some.inj (show some t18 = some b7 from hm2)
                    subst hq
                    exact ⟨rfl, H⟩
                  · skip
                    refine WL.reset (i := 79) (v := .bool false) (congrArg Value.bool hc8) ?_
                    refine O.skip rfl rfl ?_
                    refine O.pick_false (v := (.bool false)) rfl rfl rfl rfl ?_
                    refine WL.nil ?_
                    have hq : false = b7 := Option.some.inj (show some false = some b7 from hm2)
                    subst hq
                    exact ⟨rfl, H⟩
                · skip
                  rintro f w ⟨hf81, H⟩
                  obtain ⟨u5, rfl⟩ : ∃ u5, f = (upd u5 81 (.bool b7)) := ⟨f, by rw [upd_self hf81]⟩
                  refine O.assign (v := (.bool b7)) rfl rfl rfl ?_
                  refine WL.nil ?_
                  refine W.ret ?_
                  have hq : b7 = r0 := Option.some.inj (show some b7 = some r0 from hm)
                  subst hq
                  exact ends1 Try.results6 rfl ⟨_, rfl, H.base, rfl⟩

theorem c_span_divisor {w0 : World} (a0 : Int) (a1 : Int) {r0 : Int} (hm : span_divisor a0 a1 = some r0) :
    Calls Try.prog 114 #[(.int .i64 a0), (.int .i64 a1)] w0 (Ret w0 fun _ v => v = (.int .i64 r0)) := by
  unfold span_divisor at hm
  refine calls_of_W Try.func114 rfl Try.ntmps114 (Nat.le_of_ble_eq_true rfl) ?_
  have H := Inv.start (w := w0)
  refine W.seq ?_
  refine W.region ?_
  refine O.assign (v := (.int .i64 0)) rfl rfl rfl ?_
  refine WL.nil ?_
  refine W.seq ?_
  obtain ⟨s1, hm1, hm⟩ := bind_some hm
  refine W.via (fun f w => f 0 = (.int .i64 s1) ∧ Inv w0 w []) ?_ ?_
  · skip
    refine W.block ?_
    refine W.loopR hm1 (fun s f w => ∃ z3 : Int, ∃ z4 : Int, (z3, z4) = s ∧ f 0 = (.int .i64 z3) ∧ f 1 = (.int .i64 z4) ∧ Inv w0 w []) ?_ ?_
    · skip
      exact ⟨_, _, rfl, rfl, rfl, H⟩
    · skip
      rintro _ st f w ⟨z3, z4, rfl, hf0, hf1, H⟩ hm2
      obtain ⟨u1, rfl⟩ : ∃ u1, f = (upd (upd u1 0 (.int .i64 z3)) 1 (.int .i64 z4)) := ⟨f, by rw [upd_self hf0, upd_self hf1]⟩
      refine W.seq ?_
      refine W.seq ?_
      refine W.region ?_
      refine O.move (v := (.int .i64 z4)) rfl rfl rfl ?_
      refine O.neq rfl rfl rfl rfl ?_
      refine WL.nil ?_
      rcases ite_some hm2 with ⟨hc1, hm2⟩ | ⟨hc1, hm2⟩
      · refine W.cond_true (congrArg Value.bool hc1) ?_
        refine W.skip ?_
        refine W.block ?_
        obtain ⟨t1, ht1, hm2⟩ := bind_some hm2
        refine W.drawN 5 (fun f => f 0 = (.int .i64 z4) ∧ f 10 = (.int .i64 t1)) fol (by kernel_rfl) ?_ ?_
        · skip
          refine PL.of (fun _ w8 _ hx => O.move (v := (.int .i64 z4)) rfl rfl rfl (WL.nil ⟨rfl, hx⟩)) ?_
          refine PL.of (fun _ w8 _ hx => O.move (v := (.int .i64 z3)) rfl rfl rfl (WL.nil ⟨rfl, hx⟩)) ?_
          refine PL.of (fun _ w8 _ hx => O.move (v := (.int .i64 z4)) rfl rfl rfl (WL.nil ⟨rfl, hx⟩)) ?_
          refine PL.of (fun _ w8 _ hx => O.rem rfl rfl rfl rfl ht1 (WL.nil ⟨rfl, hx⟩)) ?_
          refine PL.of (fun _ w8 _ hx => O.assign (v := (.int .i64 z4)) rfl rfl rfl (WL.nil ⟨rfl, hx⟩)) ?_
          refine PL.nil ?_
          exact ⟨rfl, rfl⟩
        · skip
          rintro f w ⟨hf0, hf10⟩ hmd hx
          have H := H.ext hx
          obtain ⟨u2, rfl⟩ : ∃ u2, f = (upd (upd u2 0 (.int .i64 z4)) 10 (.int .i64 t1)) := ⟨f, by rw [upd_self hf0, upd_self hf10]⟩
          refine O.assign (v := (.int .i64 t1)) rfl rfl rfl ?_
          refine WL.nil ?_
          obtain rfl := Option.some.inj hm2
          exact ⟨_, rfl, _, _, rfl, rfl, rfl, H⟩
      · refine W.cond_false (congrArg Value.bool hc1) ?_
        refine W.exit ?_
        obtain rfl := Option.some.inj hm2
        refine ⟨_, rfl, ?_⟩
        intro hy
        have hq : z3 = s1 := hy
        subst hq
        refine xT rfl ?_
        exact ⟨rfl, H⟩
  · skip
    rintro f w ⟨hf0, H⟩
    obtain ⟨u3, rfl⟩ : ∃ u3, f = (upd u3 0 (.int .i64 s1)) := ⟨f, by rw [upd_self hf0]⟩
    refine W.seq ?_
    refine W.region ?_
    refine O.move (v := (.int .i64 s1)) rfl rfl rfl ?_
    refine O.move (v := (.int .i64 s1)) rfl rfl rfl ?_
    refine O.negW rfl rfl rfl ?_
    refine O.max2 rfl rfl rfl rfl ?_
    refine O.assign (v := (.int .i64 (max s1 (negW s1)))) rfl rfl rfl ?_
    refine WL.nil ?_
    refine W.ret ?_
    have hq : (max s1 (negW s1)) = r0 := Option.some.inj (show some (max s1 (negW s1)) = some r0 from hm)
    subst hq
    exact ends1 Try.results114 rfl ⟨_, rfl, H.base, rfl⟩

theorem c_span_quotient_reduce {w0 : World} (b0 : Nat) (a0 : GQuotient) (hb0 : w0.heap[b0]? = some (.cells (Flat.cells a0).toArray 118 (0, 0))) {r0 : GQuotient} (hm : span_quotient_reduce a0 = some r0) :
    Calls Try.prog 102 #[(.pointer (some ⟨b0, 0, none⟩))] w0 (fun e w => ∃ v, e = .returned v ∧ InvD (fun x => x = b0) w0 w [boxI b0 118 (Flat.cells r0)] ∧ v = .tuple #[]) := by
  unfold span_quotient_reduce at hm
  refine calls_of_W Try.func102 rfl Try.ntmps102 (Nat.le_of_ble_eq_true rfl) ?_
  have H : InvD (fun x => x = b0) w0 w0 [boxI b0 118 [(.int .i64 a0.n), (.int .i64 a0.d)]] := InvD.startX hb0
  refine W.seq ?_
  refine W.drawN 8 (fun f => f 0 = (.pointer (some ⟨b0, 0, none⟩)) ∧ f 6 = (.int .i64 a0.n) ∧ f 10 = (.int .i64 a0.d)) fol (by kernel_rfl) ?_ ?_
  · skip
    refine PL.of (fun _ w8 _ hx => O.move (v := (.pointer (some ⟨b0, 0, none⟩))) rfl rfl rfl (WL.nil ⟨rfl, hx⟩)) ?_
    refine PL.of (fun _ w8 _ hx => O.nilCheck rfl rfl rfl (WL.nil ⟨rfl, hx⟩)) ?_
    refine PL.of (fun _ w8 _ hx => O.fieldAddr fd118_0 rfl rfl rfl (WL.nil ⟨rfl, hx⟩)) ?_
    refine PL.of (fun _ w8 _ hx => by have H := H.ext hx; exact O.load sc3 rfl rfl rfl (H.cell 0 rfl 0 _ rfl) (WL.nil ⟨rfl, hx⟩)) ?_
    refine PL.of (fun _ w8 _ hx => O.move (v := (.pointer (some ⟨b0, 0, none⟩))) rfl rfl rfl (WL.nil ⟨rfl, hx⟩)) ?_
    refine PL.of (fun _ w8 _ hx => O.nilCheck rfl rfl rfl (WL.nil ⟨rfl, hx⟩)) ?_
    refine PL.of (fun _ w8 _ hx => O.fieldAddr fd118_1 rfl rfl rfl (WL.nil ⟨rfl, hx⟩)) ?_
    refine PL.of (fun _ w8 _ hx => by have H := H.ext hx; exact O.load sc3 rfl rfl rfl (H.cell 0 rfl 1 _ rfl) (WL.nil ⟨rfl, hx⟩)) ?_
    refine PL.nil ?_
    exact ⟨rfl, rfl, rfl⟩
  · skip
    rintro f w ⟨hf0, hf6, hf10⟩ hmd hx
    have H := H.ext hx
    obtain ⟨u1, rfl⟩ : ∃ u1, f = (upd (upd (upd u1 0 (.pointer (some ⟨b0, 0, none⟩))) 6 (.int .i64 a0.n)) 10 (.int .i64 a0.d)) := ⟨f, by rw [upd_self hf0, upd_self hf6, upd_self hf10]⟩
    obtain ⟨t1, hy1, hm⟩ := bind_some hm
    refine O.call Try.call114 rfl rfl rfl (c_span_divisor _ _ hy1) ?_
    rintro _ w1 hb1 rfl
    have H := H.ext hb1
    refine O.assign (v := (.int .i64 t1)) rfl rfl rfl ?_
    refine WL.nil ?_
    refine W.seq ?_
    refine W.seq ?_
    refine W.region ?_
    refine O.move (v := (.pointer (some ⟨b0, 0, none⟩))) rfl rfl rfl ?_
    refine O.nilCheck rfl rfl rfl ?_
    refine O.fieldAddr fd118_1 rfl rfl rfl ?_
    refine O.load sc3 rfl rfl rfl (H.cell 0 rfl 1 _ rfl) ?_
    refine O.lss rfl rfl rfl rfl ?_
    refine WL.nil ?_
    obtain ⟨s1, hm1, hm⟩ := bind_some hm
    refine W.via (fun f w => f 0 = (.pointer (some ⟨b0, 0, none⟩)) ∧ f 2 = (.int .i64 s1) ∧ InvD (fun x => x = b0) w0 w [boxI b0 118 [(.int .i64 a0.n), (.int .i64 a0.d)]]) ?_ ?_
    · skip
      rcases ite_some hm1 with ⟨hc1, hm1⟩ | ⟨hc1, hm1⟩
      · refine W.cond_true (congrArg Value.bool hc1) ?_
        refine W.region ?_
        refine O.move (v := (.int .i64 t1)) rfl rfl rfl ?_
        refine O.negW rfl rfl rfl ?_
        refine O.assign (v := (.int .i64 (negW t1))) rfl rfl rfl ?_
        refine WL.nil ?_
        have hq : (negW t1) = s1 := Option.some.inj (show some (negW t1) = some s1 from hm1)
        subst hq
        exact ⟨rfl, rfl, H⟩
      · refine W.cond_false (congrArg Value.bool hc1) ?_
        refine W.skip ?_
        have hq : t1 = s1 := Option.some.inj (show some t1 = some s1 from hm1)
        subst hq
        exact ⟨rfl, rfl, H⟩
    · skip
      rintro f w ⟨hf0, hf2, H⟩
      obtain ⟨u2, rfl⟩ : ∃ u2, f = (upd (upd u2 0 (.pointer (some ⟨b0, 0, none⟩))) 2 (.int .i64 s1)) := ⟨f, by rw [upd_self hf0, upd_self hf2]⟩
      obtain ⟨t2, ht2, hm⟩ := bind_some hm
      obtain ⟨t3, ht3, hm⟩ := bind_some hm
      refine W.drawS 16 [1, 12, 13] (fun w9 => InvD (fun x => x = b0) w0 w9 [boxI b0 118 [(.int .i64 t2), (.int .i64 a0.d)]]) (fun f => f 0 = (.pointer (some ⟨b0, 0, none⟩)) ∧ f 20 = (.pointer (some ⟨b0, 0, none⟩)) ∧ f 26 = (.int .i64 t2) ∧ f 32 = (.int .i64 t3) ∧ f 34 = (.pointer (some (Addr.add (Addr.mk b0 0 none) 0)))) fol (by kernel_rfl) rfl ?_ ?_ ?_
      · skip
        refine PL.of (fun b w8 hb hx => match b, hb, hx with | none, _, hx => by exact O.move (v := (.pointer (some ⟨b0, 0, none⟩))) rfl rfl rfl (WL.nil ⟨rfl, hx⟩) | some _, hb, _ => absurd (hb rfl) (by decide)) ?_
        refine PL.of (fun b w8 _ hx => match b, hx with | none, hx => by exact O.move (v := (.pointer (some ⟨b0, 0, none⟩))) rfl rfl rfl (WL.nil ⟨rfl, hx⟩) | some _, H => O.move (v := (.pointer (some ⟨b0, 0, none⟩))) rfl rfl rfl (WL.nil ⟨rfl, H⟩)) ?_
        refine PL.of (fun b w8 hb hx => match b, hb, hx with | none, _, hx => by exact O.move (v := (.pointer (some ⟨b0, 0, none⟩))) rfl rfl rfl (WL.nil ⟨rfl, hx⟩) | some _, hb, _ => absurd (hb rfl) (by decide)) ?_
        refine PL.of (fun b w8 hb hx => match b, hb, hx with | none, _, hx => by exact O.nilCheck rfl rfl rfl (WL.nil ⟨rfl, hx⟩) | some _, hb, _ => absurd (hb rfl) (by decide)) ?_
        refine PL.of (fun b w8 hb hx => match b, hb, hx with | none, _, hx => by exact O.fieldAddr fd118_0 rfl rfl rfl (WL.nil ⟨rfl, hx⟩) | some _, hb, _ => absurd (hb rfl) (by decide)) ?_
        refine PL.of (fun b w8 hb hx => match b, hb, hx with | none, _, hx => by have H := H.ext hx; exact O.load sc3 rfl rfl rfl (H.cell 0 rfl 0 _ rfl) (WL.nil ⟨rfl, hx⟩) | some _, hb, _ => absurd (hb rfl) (by decide)) ?_
        refine PL.of (fun b w8 hb hx => match b, hb, hx with | none, _, hx => by exact O.move (v := (.int .i64 s1)) rfl rfl rfl (WL.nil ⟨rfl, hx⟩) | some _, hb, _ => absurd (hb rfl) (by decide)) ?_
        refine PL.of (fun b w8 hb hx => match b, hb, hx with | none, _, hx => by exact O.quo rfl rfl rfl rfl ht2 (WL.nil ⟨rfl, hx⟩) | some _, hb, _ => absurd (hb rfl) (by decide)) ?_
        refine PL.of (fun b w8 hb hx => match b, hb, hx with | none, _, hx => by exact O.move (v := (.pointer (some ⟨b0, 0, none⟩))) rfl rfl rfl (WL.nil ⟨rfl, hx⟩) | some _, hb, _ => absurd (hb rfl) (by decide)) ?_
        refine PL.of (fun b w8 hb hx => match b, hb, hx with | none, _, hx => by exact O.nilCheck rfl rfl rfl (WL.nil ⟨rfl, hx⟩) | some _, hb, _ => absurd (hb rfl) (by decide)) ?_
        refine PL.of (fun b w8 hb hx => match b, hb, hx with | none, _, hx => by exact O.fieldAddr fd118_1 rfl rfl rfl (WL.nil ⟨rfl, hx⟩) | some _, hb, _ => absurd (hb rfl) (by decide)) ?_
        refine PL.of (fun b w8 hb hx => match b, hb, hx with | none, _, hx => by have H := H.ext hx; exact O.load sc3 rfl rfl rfl (H.cell 0 rfl 1 _ rfl) (WL.nil ⟨rfl, hx⟩) | some _, hb, _ => absurd (hb rfl) (by decide)) ?_
        refine PL.of (fun b w8 _ hx => match b, hx with | none, hx => by exact O.move (v := (.int .i64 s1)) rfl rfl rfl (WL.nil ⟨rfl, hx⟩) | some _, H => O.move (v := (.int .i64 s1)) rfl rfl rfl (WL.nil ⟨rfl, H⟩)) ?_
        refine PL.of (fun b w8 _ hx => match b, hx with | none, hx => by exact O.quo rfl rfl rfl rfl ht3 (WL.nil ⟨rfl, hx⟩) | some _, H => O.quo rfl rfl rfl rfl ht3 (WL.nil ⟨rfl, H⟩)) ?_
        refine PL.of (fun b w8 hb hx => match b, hb, hx with | none, _, hx => by exact O.nilCheck rfl rfl rfl (WL.nil ⟨rfl, hx⟩) | some _, hb, _ => absurd (hb rfl) (by decide)) ?_
        refine PL.of (fun b w8 hb hx => match b, hb, hx with | none, _, hx => by exact O.fieldAddr fd118_0 rfl rfl rfl (WL.nil ⟨rfl, hx⟩) | some _, hb, _ => absurd (hb rfl) (by decide)) ?_
        refine PL.nil ?_
        exact ⟨rfl, rfl, rfl, rfl, rfl⟩
      · skip
        rintro f ⟨hf0, hf20, hf26, hf32, hf34⟩ w hx
        obtain ⟨u3, rfl⟩ : ∃ u3, f = (upd (upd (upd (upd (upd u3 0 (.pointer (some ⟨b0, 0, none⟩))) 20 (.pointer (some ⟨b0, 0, none⟩))) 26 (.int .i64 t2)) 32 (.int .i64 t3)) 34 (.pointer (some (Addr.add (Addr.mk b0 0 none) 0)))) := ⟨f, by rw [upd_self hf0, upd_self hf20, upd_self hf26, upd_self hf32, upd_self hf34]⟩
        have H := H.ext hx
        exact O.store 0 0 [(.int .i64 t2)] [(.int .i64 t2), (.int .i64 a0.d)] sz3 H rfl rfl rfl rfl rfl rfl ⟨⟨rfl, rfl⟩, rfl⟩ (one_cons rfl one_nil) (fun _ H => WL.nil ⟨rfl, H⟩)
      · skip
        rintro f w ⟨hf0, hf20, hf26, hf32, hf34⟩ hmd H
        obtain ⟨u4, rfl⟩ : ∃ u4, f = (upd (upd (upd (upd (upd u4 0 (.pointer (some ⟨b0, 0, none⟩))) 20 (.pointer (some ⟨b0, 0, none⟩))) 26 (.int .i64 t2)) 32 (.int .i64 t3)) 34 (.pointer (some (Addr.add (Addr.mk b0 0 none) 0)))) := ⟨f, by rw [upd_self hf0, upd_self hf20, upd_self hf26, upd_self hf32, upd_self hf34]⟩
        refine O.nilCheck rfl rfl rfl ?_
        refine O.fieldAddr fd118_1 rfl rfl rfl ?_
        refine O.store 0 1 [(.int .i64 t3)] [(.int .i64 t2), (.int .i64 t3)] sz3 H rfl rfl rfl rfl rfl rfl ⟨⟨rfl, rfl⟩, rfl⟩ (one_cons rfl one_nil) ?_
        intro w2 H
        refine WL.nil ?_
        have hq : (GQuotient.mk t2 t3) = r0 := Option.some.inj (show some (GQuotient.mk t2 t3) = some r0 from hm)
        subst hq
        exact ends0 Try.results102  ⟨_, rfl, H.pick [0] [boxI b0 118 [(.int .i64 t2), (.int .i64 t3)]] rfl (by decide), rfl⟩

set_option maxRecDepth 20000 in
theorem c_span_ValidRatio {w0 : World} (a0 : GRatio) {r0 : Bool} (hm : span_ValidRatio a0 = some r0) :
    Calls Try.prog 103 #[(.agg (Flat.cells a0).toArray)] w0 (Ret w0 fun _ v => v = (.bool r0)) := by
  unfold span_ValidRatio at hm
  refine calls_of_W Try.func103 rfl Try.ntmps103 (Nat.le_of_ble_eq_true rfl) ?_
  have H := Inv.start (w := w0)
  refine W.seq ?_
  refine W.region ?_
  refine O.box [(.int .i64 a0.N), (.int .i64 a0.D)] H rfl rfl rfl rfl ?_
  intro b1 w1 H hb1
  refine O.assign (v := (.bool false)) rfl rfl rfl ?_
  refine WL.nil ?_
  refine W.seq ?_
  refine W.region ?_
  refine O.fieldAddr fd48_1 rfl rfl rfl ?_
  refine O.load sc3 rfl rfl rfl (H.cell 0 rfl 1 _ rfl) ?_
  refine O.geq rfl rfl rfl rfl ?_
  refine O.move (v := (.bool (decide (1 ≤ a0.D)))) rfl rfl rfl ?_
  refine WL.cut 4 (fun f w => f 1 = (.pointer (some ⟨b1, 0, none⟩)) ∧ f 10 = .bool ((decide (1 ≤ a0.D)) && (decide (a0.D ≤ 1000000000))) ∧ Inv w0 w [boxI b1 48 [(.int .i64 a0.N), (.int .i64 a0.D)]]) ?_ ?_
  · skip
    rcases bool_ft (decide (1 ≤ a0.D)) with hc1 | hc1
    · skip
      refine WL.reset (i := 6) (v := .bool false) (congrArg Value.bool hc1) ?_
      refine O.skip rfl rfl ?_
      refine O.skip rfl rfl ?_
      refine O.skip rfl rfl ?_
      refine O.pick_false (v := (.bool false)) rfl rfl rfl rfl ?_
      refine WL.nil ?_
      exact ⟨rfl, congrArg Value.bool (and_f hc1), H⟩
    · skip
      refine WL.reset (i := 6) (v := .bool true) (congrArg Value.bool hc1) ?_
      refine O.fieldAddr fd48_1 rfl rfl rfl ?_
      refine O.load sc3 rfl rfl rfl (H.cell 0 rfl 1 _ rfl) ?_
      refine O.leq rfl rfl rfl rfl ?_
      refine O.pick_true (v := (.bool (decide (a0.D ≤ 1000000000)))) rfl rfl rfl rfl ?_
      refine WL.nil ?_
      exact ⟨rfl, congrArg Value.bool (and_t hc1), H⟩
  · skip
    rintro f w ⟨hf1, hf10, H⟩
    obtain ⟨u1, rfl⟩ : ∃ u1, f = (upd (upd u1 1 (.pointer (some ⟨b1, 0, none⟩))) 10 (.bool ((decide (1 ≤ a0.D)) && (decide (a0.D ≤ 1000000000))))) := ⟨f, by rw [upd_self hf1, upd_self hf10]⟩
    refine O.move (v := (.bool ((decide (1 ≤ a0.D)) && (decide (a0.D ≤ 1000000000))))) rfl rfl rfl ?_
    refine WL.cut 4 (fun f w => f 1 = (.pointer (some ⟨b1, 0, none⟩)) ∧ f 15 = .bool (((decide (1 ≤ a0.D)) && (decide (a0.D ≤ 1000000000))) && (decide ((-1000000000) ≤ a0.N))) ∧ Inv w0 w [boxI b1 48 [(.int .i64 a0.N), (.int .i64 a0.D)]]) ?_ ?_
    · skip
      rcases bool_ft ((decide (1 ≤ a0.D)) && (decide (a0.D ≤ 1000000000))) with hc2 | hc2
      · skip
        refine WL.reset (i := 11) (v := .bool false) (congrArg Value.bool hc2) ?_
        refine O.skip rfl rfl ?_
        refine O.skip rfl rfl ?_
        refine O.skip rfl rfl ?_
        refine O.pick_false (v := (.bool false)) rfl rfl rfl rfl ?_
        refine WL.nil ?_
        exact ⟨rfl, congrArg Value.bool (and_f hc2), H⟩
      · skip
        refine WL.reset (i := 11) (v := .bool true) (congrArg Value.bool hc2) ?_
        refine O.fieldAddr fd48_0 rfl rfl rfl ?_
        refine O.load sc3 rfl rfl rfl (H.cell 0 rfl 0 _ rfl) ?_
        refine O.geq rfl rfl rfl rfl ?_
        refine O.pick_true (v := (.bool (decide ((-1000000000) ≤ a0.N)))) rfl rfl rfl rfl ?_
        refine WL.nil ?_
        exact ⟨rfl, congrArg Value.bool (and_t hc2), H⟩
    · skip
      rintro f w ⟨hf1, hf15, H⟩
      obtain ⟨u2, rfl⟩ : ∃ u2, f = (upd (upd u2 1 (.pointer (some ⟨b1, 0, none⟩))) 15 (.bool (((decide (1 ≤ a0.D)) && (decide (a0.D ≤ 1000000000))) && (decide ((-1000000000) ≤ a0.N))))) := ⟨f, by rw [upd_self hf1, upd_self hf15]⟩
      refine O.move (v := (.bool (((decide (1 ≤ a0.D)) && (decide (a0.D ≤ 1000000000))) && (decide ((-1000000000) ≤ a0.N))))) rfl rfl rfl ?_
      refine WL.cut 4 (fun f w => f 1 = (.pointer (some ⟨b1, 0, none⟩)) ∧ f 20 = .bool ((((decide (1 ≤ a0.D)) && (decide (a0.D ≤ 1000000000))) && (decide ((-1000000000) ≤ a0.N))) && (decide (a0.N ≤ 1000000000))) ∧ Inv w0 w [boxI b1 48 [(.int .i64 a0.N), (.int .i64 a0.D)]]) ?_ ?_
      · skip
        rcases bool_ft (((decide (1 ≤ a0.D)) && (decide (a0.D ≤ 1000000000))) && (decide ((-1000000000) ≤ a0.N))) with hc3 | hc3
        · skip
          refine WL.reset (i := 16) (v := .bool false) (congrArg Value.bool hc3) ?_
          refine O.skip rfl rfl ?_
          refine O.skip rfl rfl ?_
          refine O.skip rfl rfl ?_
          refine O.pick_false (v := (.bool false)) rfl rfl rfl rfl ?_
          refine WL.nil ?_
          exact ⟨rfl, congrArg Value.bool (and_f hc3), H⟩
        · skip
          refine WL.reset (i := 16) (v := .bool true) (congrArg Value.bool hc3) ?_
          refine O.fieldAddr fd48_0 rfl rfl rfl ?_
          refine O.load sc3 rfl rfl rfl (H.cell 0 rfl 0 _ rfl) ?_
          refine O.leq rfl rfl rfl rfl ?_
          refine O.pick_true (v := (.bool (decide (a0.N ≤ 1000000000)))) rfl rfl rfl rfl ?_
          refine WL.nil ?_
          exact ⟨rfl, congrArg Value.bool (and_t hc3), H⟩
      · skip
        rintro f w ⟨hf1, hf20, H⟩
        obtain ⟨u3, rfl⟩ : ∃ u3, f = (upd (upd u3 1 (.pointer (some ⟨b1, 0, none⟩))) 20 (.bool ((((decide (1 ≤ a0.D)) && (decide (a0.D ≤ 1000000000))) && (decide ((-1000000000) ≤ a0.N))) && (decide (a0.N ≤ 1000000000))))) := ⟨f, by rw [upd_self hf1, upd_self hf20]⟩
        refine O.move (v := (.bool ((((decide (1 ≤ a0.D)) && (decide (a0.D ≤ 1000000000))) && (decide ((-1000000000) ≤ a0.N))) && (decide (a0.N ≤ 1000000000))))) rfl rfl rfl ?_
        obtain ⟨b2, hm1, hm⟩ := bind_some hm
        refine WL.cut 7 (fun f w => f 28 = .bool b2 ∧ Inv w0 w [boxI b1 48 [(.int .i64 a0.N), (.int .i64 a0.D)]]) ?_ ?_
        · skip
          rcases ite_some hm1 with ⟨hc4, hm1⟩ | ⟨hc4, hm1⟩
          · skip
            refine WL.reset (i := 21) (v := .bool true) (congrArg Value.bool hc4) ?_
            refine O.fieldAddr fd48_0 rfl rfl rfl ?_
            refine O.load sc3 rfl rfl rfl (H.cell 0 rfl 0 _ rfl) ?_
            refine O.fieldAddr fd48_1 rfl rfl rfl ?_
            refine O.load sc3 rfl rfl rfl (H.cell 0 rfl 1 _ rfl) ?_
            obtain ⟨t1, hy1, hm1⟩ := bind_some hm1
            refine O.call Try.call114 rfl rfl rfl (c_span_divisor _ _ hy1) ?_
            rintro _ w2 hb2 rfl
            have H := H.ext hb2
            refine O.eql rfl rfl rfl rfl ?_
            refine O.pick_true (v := (.bool (t1 == 1))) rfl rfl rfl rfl ?_
            refine WL.nil ?_
            have hq : (t1 == 1) = b2 := Option.some.inj (show some (t1 == 1) = some b2 from hm1)
            subst hq
            exact ⟨rfl, H⟩
          · skip
            refine WL.reset (i := 21) (v := .bool false) (congrArg Value.bool hc4) ?_
            refine O.skip rfl rfl ?_
            refine O.skip rfl rfl ?_
            refine O.skip rfl rfl ?_
            refine O.skip rfl rfl ?_
            refine O.skip rfl rfl ?_
            refine O.skip rfl rfl ?_
            refine O.pick_false (v := (.bool false)) rfl rfl rfl rfl ?_
            refine WL.nil ?_
            have hq : false = b2 := Option.some.inj (show some false = some b2 from hm1)
            subst hq
            exact ⟨rfl, H⟩
        · skip
          rintro f w ⟨hf28, H⟩
          obtain ⟨u4, rfl⟩ : ∃ u4, f = (upd u4 28 (.bool b2)) := ⟨f, by rw [upd_self hf28]⟩
          refine O.assign (v := (.bool b2)) rfl rfl rfl ?_
          refine WL.nil ?_
          refine W.ret ?_
          have hq : b2 = r0 := Option.some.inj (show some b2 = some r0 from hm)
          subst hq
          exact ends1 Try.results103 rfl ⟨_, rfl, H.base, rfl⟩

theorem c_span_lowest {w0 : World} (a0 : Int) (a1 : Int) {r0 : GRatio} {r1 : Int} (hm : span_lowest a0 a1 = some (r0, r1)) :
    Calls Try.prog 94 #[(.int .i64 a0), (.int .i64 a1)] w0 (Ret w0 fun _ v => v = .tuple #[(.agg (Flat.cells r0).toArray), (.int .i64 r1)]) := by
  unfold span_lowest at hm
  refine calls_of_W Try.func94 rfl Try.ntmps94 (Nat.le_of_ble_eq_true rfl) ?_
  have H := Inv.start (w := w0)
  refine W.seq ?_
  refine W.region ?_
  refine O.alloc [(.int .i64 0), (.int .i64 0)] ze48 H rfl rfl rfl ?_
  intro b1 w1 H hb1
  refine O.assign (v := (.int .i64 0)) rfl rfl rfl ?_
  refine WL.nil ?_
  refine W.seq ?_
  refine W.region ?_
  refine O.move (v := (.int .i64 a0)) rfl rfl rfl ?_
  refine O.move (v := (.int .i64 a1)) rfl rfl rfl ?_
  refine O.build (v := (.agg (Flat.cells (GQuotient.mk a0 a1)).toArray)) (fun w => bd118_0_1 _ _ w) rfl rfl rfl ?_
  refine O.alloc [(.int .i64 0), (.int .i64 0)] ze118 H rfl rfl rfl ?_
  intro b2 w2 H hb2
  refine O.store 1 0 [(.int .i64 a0), (.int .i64 a1)] [(.int .i64 a0), (.int .i64 a1)] sz118 H rfl rfl rfl rfl rfl rfl ⟨⟨rfl, rfl⟩, rfl⟩ (one_cons rfl (one_cons rfl one_nil)) ?_
  intro w3 H
  refine WL.nil ?_
  refine W.seq ?_
  refine W.region ?_
  refine O.makeFunc rfl rfl rfl rfl ?_
  refine O.assign (v := (.func (.func 102) #[(.pointer (some ⟨b2, 0, none⟩))] #[])) rfl rfl rfl ?_
  refine WL.nil ?_
  refine W.seq ?_
  refine W.region ?_
  refine O.move (v := (.func (.func 102) #[(.pointer (some ⟨b2, 0, none⟩))] #[])) rfl rfl rfl ?_
  obtain ⟨t1, hy1, hm⟩ := bind_some hm
  refine O.callXV 1 H rfl Try.call102 rfl rfl rfl rfl (c_span_quotient_reduce _ (GQuotient.mk a0 a1) (H.boxAt 1 rfl) hy1) ?_
  rintro _ w4 H rfl
  refine WL.nil ?_
  refine W.seq ?_
  refine W.seq ?_
  refine W.region ?_
  refine O.fieldAddr fd118_0 rfl rfl rfl ?_
  refine O.load sc3 rfl rfl rfl (H.cell 1 rfl 0 _ rfl) ?_
  refine O.fieldAddr fd118_1 rfl rfl rfl ?_
  refine O.load sc3 rfl rfl rfl (H.cell 1 rfl 1 _ rfl) ?_
  refine O.build (v := (.agg (Flat.cells (GRatio.mk t1.n t1.d)).toArray)) (fun w => bd48_0_1 _ _ w) rfl rfl rfl ?_
  refine O.alloc [(.int .i64 0), (.int .i64 0)] ze48 H rfl rfl rfl ?_
  intro b3 w5 H hb3
  refine O.store 2 0 [(.int .i64 t1.n), (.int .i64 t1.d)] [(.int .i64 t1.n), (.int .i64 t1.d)] sz48 H rfl rfl rfl rfl rfl rfl ⟨⟨rfl, rfl⟩, rfl⟩ (one_cons rfl (one_cons rfl one_nil)) ?_
  intro w6 H
  refine WL.nil ?_
  refine W.seq ?_
  refine W.region ?_
  refine O.loadA [(.int .i64 t1.n), (.int .i64 t1.d)] ag48 rfl rfl rfl rfl (H.cell 2 rfl) ?_
  obtain ⟨t2, hy2, hm⟩ := bind_some hm
  refine O.call Try.call103 rfl rfl rfl (c_span_ValidRatio (GRatio.mk t1.n t1.d) hy2) ?_
  rintro _ w7 hb4 rfl
  have H := H.ext hb4
  refine WL.nil ?_
  rcases ite_some hm with ⟨hc1, hm⟩ | ⟨hc1, hm⟩
  · refine W.cond_true (congrArg Value.bool hc1) ?_
    refine W.seq ?_
    refine W.region ?_
    refine O.loadA [(.int .i64 t1.n), (.int .i64 t1.d)] ag48 rfl rfl rfl rfl (H.cell 2 rfl) ?_
    refine O.store 0 0 [(.int .i64 t1.n), (.int .i64 t1.d)] [(.int .i64 t1.n), (.int .i64 t1.d)] sz48 H rfl rfl rfl rfl rfl rfl ⟨⟨rfl, rfl⟩, rfl⟩ (one_cons rfl (one_cons rfl one_nil)) ?_
    intro w8 H
    refine O.assign (v := (.int .i64 0)) rfl rfl rfl ?_
    refine WL.nil ?_
    refine W.ret ?_
    have hq : ((GRatio.mk t1.n t1.d), 0) = (r0, r1) := Option.some.inj (show some ((GRatio.mk t1.n t1.d), 0) = some (r0, r1) from hm)
    obtain ⟨he0, hq0⟩ := Prod.mk.inj hq; clear hq; subst he0
    subst hq0
    exact ends2 Try.results94 ⟨_, rfl, run_loadVar_agg ag48 rfl (H.cell 0 rfl)⟩ rfl ⟨_, rfl, H.base, rfl⟩
  · refine W.cond_false (congrArg Value.bool hc1) ?_
    refine W.skip ?_
    refine W.seq ?_
    refine W.region ?_
    refine O.build (v := (.agg (Flat.cells (GRatio.mk 0 0)).toArray)) (fun w => bd48_  w) rfl rfl rfl ?_
    refine O.store 0 0 [(.int .i64 0), (.int .i64 0)] [(.int .i64 0), (.int .i64 0)] sz48 H rfl rfl rfl rfl rfl rfl ⟨⟨rfl, rfl⟩, rfl⟩ (one_cons rfl (one_cons rfl one_nil)) ?_
    intro w9 H
    refine O.assign (v := (.int .i64 4)) rfl rfl rfl ?_
    refine WL.nil ?_
    refine W.ret ?_
    have hq : ((GRatio.mk 0 0), 4) = (r0, r1) := Option.some.inj (show some ((GRatio.mk 0 0), 4) = some (r0, r1) from hm)
    obtain ⟨he0, hq0⟩ := Prod.mk.inj hq; clear hq; subst he0
    subst hq0
    exact ends2 Try.results94 ⟨_, rfl, run_loadVar_agg ag48 rfl (H.cell 0 rfl)⟩ rfl ⟨_, rfl, H.base, rfl⟩

set_option maxRecDepth 20000 in
theorem c_span_Make {w0 : World} (a0 : Int) (a1 : Int) {r0 : GRatio} {r1 : Int} (hm : span_Make a0 a1 = some (r0, r1)) :
    Calls Try.prog 67 #[(.int .i64 a0), (.int .i64 a1)] w0 (Ret w0 fun _ v => v = .tuple #[(.agg (Flat.cells r0).toArray), (.int .i64 r1)]) := by
  unfold span_Make at hm
  refine calls_of_W Try.func67 rfl Try.ntmps67 (Nat.le_of_ble_eq_true rfl) ?_
  have H := Inv.start (w := w0)
  refine W.seq ?_
  refine W.region ?_
  refine O.alloc [(.int .i64 0), (.int .i64 0)] ze48 H rfl rfl rfl ?_
  intro b1 w1 H hb1
  refine O.assign (v := (.int .i64 0)) rfl rfl rfl ?_
  refine WL.nil ?_
  refine W.seq ?_
  refine W.seq ?_
  refine W.region ?_
  refine O.move (v := (.int .i64 a0)) rfl rfl rfl ?_
  refine O.lss rfl rfl rfl rfl ?_
  refine O.move (v := (.bool (decide (a0 < (-1000000000000000000))))) rfl rfl rfl ?_
  refine WL.cut 3 (fun f w => f 0 = (.int .i64 a0) ∧ f 1 = (.int .i64 a1) ∧ f 4 = (.pointer (some ⟨b1, 0, none⟩)) ∧ f 11 = .bool ((decide (a0 < (-1000000000000000000))) || (decide (1000000000000000000 < a0))) ∧ Inv w0 w [boxI b1 48 [(.int .i64 0), (.int .i64 0)]]) ?_ ?_
  · skip
    rcases bool_ft (decide (a0 < (-1000000000000000000))) with hc1 | hc1
    · skip
      refine WL.reset (i := 8) (v := .bool false) (congrArg Value.bool hc1) ?_
      refine O.move (v := (.int .i64 a0)) rfl rfl rfl ?_
      refine O.gtr rfl rfl rfl rfl ?_
      refine O.pick_false (v := (.bool (decide (1000000000000000000 < a0)))) rfl rfl rfl rfl ?_
      refine WL.nil ?_
      exact ⟨rfl, rfl, rfl, congrArg Value.bool (or_f hc1), H⟩
    · skip
      refine WL.reset (i := 8) (v := .bool true) (congrArg Value.bool hc1) ?_
      refine O.skip rfl rfl ?_
      refine O.skip rfl rfl ?_
      refine O.pick_true (v := (.bool true)) rfl rfl rfl rfl ?_
      refine WL.nil ?_
      exact ⟨rfl, rfl, rfl, congrArg Value.bool (or_t hc1), H⟩
  · skip
    rintro f w ⟨hf0, hf1, hf4, hf11, H⟩
    obtain ⟨u1, rfl⟩ : ∃ u1, f = (upd (upd (upd (upd u1 0 (.int .i64 a0)) 1 (.int .i64 a1)) 4 (.pointer (some ⟨b1, 0, none⟩))) 11 (.bool ((decide (a0 < (-1000000000000000000))) || (decide (1000000000000000000 < a0))))) := ⟨f, by rw [upd_self hf0, upd_self hf1, upd_self hf4, upd_self hf11]⟩
    refine O.move (v := (.bool ((decide (a0 < (-1000000000000000000))) || (decide (1000000000000000000 < a0))))) rfl rfl rfl ?_
    refine WL.cut 3 (fun f w => f 0 = (.int .i64 a0) ∧ f 1 = (.int .i64 a1) ∧ f 4 = (.pointer (some ⟨b1, 0, none⟩)) ∧ f 15 = .bool (((decide (a0 < (-1000000000000000000))) || (decide (1000000000000000000 < a0))) || (decide (a1 < (-1000000000000000000)))) ∧ Inv w0 w [boxI b1 48 [(.int .i64 0), (.int .i64 0)]]) ?_ ?_
    · skip
      rcases bool_ft ((decide (a0 < (-1000000000000000000))) || (decide (1000000000000000000 < a0))) with hc2 | hc2
      · skip
        refine WL.reset (i := 12) (v := .bool false) (congrArg Value.bool hc2) ?_
        refine O.move (v := (.int .i64 a1)) rfl rfl rfl ?_
        refine O.lss rfl rfl rfl rfl ?_
        refine O.pick_false (v := (.bool (decide (a1 < (-1000000000000000000))))) rfl rfl rfl rfl ?_
        refine WL.nil ?_
        exact ⟨rfl, rfl, rfl, congrArg Value.bool (or_f hc2), H⟩
      · skip
        refine WL.reset (i := 12) (v := .bool true) (congrArg Value.bool hc2) ?_
        refine O.skip rfl rfl ?_
        refine O.skip rfl rfl ?_
        refine O.pick_true (v := (.bool true)) rfl rfl rfl rfl ?_
        refine WL.nil ?_
        exact ⟨rfl, rfl, rfl, congrArg Value.bool (or_t hc2), H⟩
    · skip
      rintro f w ⟨hf0, hf1, hf4, hf15, H⟩
      obtain ⟨u2, rfl⟩ : ∃ u2, f = (upd (upd (upd (upd u2 0 (.int .i64 a0)) 1 (.int .i64 a1)) 4 (.pointer (some ⟨b1, 0, none⟩))) 15 (.bool (((decide (a0 < (-1000000000000000000))) || (decide (1000000000000000000 < a0))) || (decide (a1 < (-1000000000000000000)))))) := ⟨f, by rw [upd_self hf0, upd_self hf1, upd_self hf4, upd_self hf15]⟩
      refine O.move (v := (.bool (((decide (a0 < (-1000000000000000000))) || (decide (1000000000000000000 < a0))) || (decide (a1 < (-1000000000000000000)))))) rfl rfl rfl ?_
      refine WL.cut 3 (fun f w => f 0 = (.int .i64 a0) ∧ f 1 = (.int .i64 a1) ∧ f 4 = (.pointer (some ⟨b1, 0, none⟩)) ∧ f 19 = .bool ((((decide (a0 < (-1000000000000000000))) || (decide (1000000000000000000 < a0))) || (decide (a1 < (-1000000000000000000)))) || (decide (1000000000000000000 < a1))) ∧ Inv w0 w [boxI b1 48 [(.int .i64 0), (.int .i64 0)]]) ?_ ?_
      · skip
        rcases bool_ft (((decide (a0 < (-1000000000000000000))) || (decide (1000000000000000000 < a0))) || (decide (a1 < (-1000000000000000000)))) with hc3 | hc3
        · skip
          refine WL.reset (i := 16) (v := .bool false) (congrArg Value.bool hc3) ?_
          refine O.move (v := (.int .i64 a1)) rfl rfl rfl ?_
          refine O.gtr rfl rfl rfl rfl ?_
          refine O.pick_false (v := (.bool (decide (1000000000000000000 < a1)))) rfl rfl rfl rfl ?_
          refine WL.nil ?_
          exact ⟨rfl, rfl, rfl, congrArg Value.bool (or_f hc3), H⟩
        · skip
          refine WL.reset (i := 16) (v := .bool true) (congrArg Value.bool hc3) ?_
          refine O.skip rfl rfl ?_
          refine O.skip rfl rfl ?_
          refine O.pick_true (v := (.bool true)) rfl rfl rfl rfl ?_
          refine WL.nil ?_
          exact ⟨rfl, rfl, rfl, congrArg Value.bool (or_t hc3), H⟩
      · skip
        rintro f w ⟨hf0, hf1, hf4, hf19, H⟩
        obtain ⟨u3, rfl⟩ : ∃ u3, f = (upd (upd (upd (upd u3 0 (.int .i64 a0)) 1 (.int .i64 a1)) 4 (.pointer (some ⟨b1, 0, none⟩))) 19 (.bool ((((decide (a0 < (-1000000000000000000))) || (decide (1000000000000000000 < a0))) || (decide (a1 < (-1000000000000000000)))) || (decide (1000000000000000000 < a1))))) := ⟨f, by rw [upd_self hf0, upd_self hf1, upd_self hf4, upd_self hf19]⟩
        refine O.move (v := (.bool ((((decide (a0 < (-1000000000000000000))) || (decide (1000000000000000000 < a0))) || (decide (a1 < (-1000000000000000000)))) || (decide (1000000000000000000 < a1))))) rfl rfl rfl ?_
        refine WL.cut 3 (fun f w => f 0 = (.int .i64 a0) ∧ f 1 = (.int .i64 a1) ∧ f 4 = (.pointer (some ⟨b1, 0, none⟩)) ∧ f 23 = .bool (((((decide (a0 < (-1000000000000000000))) || (decide (1000000000000000000 < a0))) || (decide (a1 < (-1000000000000000000)))) || (decide (1000000000000000000 < a1))) || (a1 == 0)) ∧ Inv w0 w [boxI b1 48 [(.int .i64 0), (.int .i64 0)]]) ?_ ?_
        · skip
          rcases bool_ft ((((decide (a0 < (-1000000000000000000))) || (decide (1000000000000000000 < a0))) || (decide (a1 < (-1000000000000000000)))) || (decide (1000000000000000000 < a1))) with hc4 | hc4
          · skip
            refine WL.reset (i := 20) (v := .bool false) (congrArg Value.bool hc4) ?_
            refine O.move (v := (.int .i64 a1)) rfl rfl rfl ?_
            refine O.eql rfl rfl rfl rfl ?_
            refine O.pick_false (v := (.bool (a1 == 0))) rfl rfl rfl rfl ?_
            refine WL.nil ?_
            exact ⟨rfl, rfl, rfl, congrArg Value.bool (or_f hc4), H⟩
          · skip
            refine WL.reset (i := 20) (v := .bool true) (congrArg Value.bool hc4) ?_
            refine O.skip rfl rfl ?_
            refine O.skip rfl rfl ?_
            refine O.pick_true (v := (.bool true)) rfl rfl rfl rfl ?_
            refine WL.nil ?_
            exact ⟨rfl, rfl, rfl, congrArg Value.bool (or_t hc4), H⟩
        · skip
          rintro f w ⟨hf0, hf1, hf4, hf23, H⟩
          obtain ⟨u4, rfl⟩ : ∃ u4, f = (upd (upd (upd (upd u4 0 (.int .i64 a0)) 1 (.int .i64 a1)) 4 (.pointer (some ⟨b1, 0, none⟩))) 23 (.bool (((((decide (a0 < (-1000000000000000000))) || (decide (1000000000000000000 < a0))) || (decide (a1 < (-1000000000000000000)))) || (decide (1000000000000000000 < a1))) || (a1 == 0)))) := ⟨f, by rw [upd_self hf0, upd_self hf1, upd_self hf4, upd_self hf23]⟩
          refine WL.nil ?_
          rcases ite_some hm with ⟨hc5, hm⟩ | ⟨hc5, hm⟩
          · refine W.cond_true (congrArg Value.bool hc5) ?_
            refine W.seq ?_
            refine W.region ?_
            refine O.build (v := (.agg (Flat.cells (GRatio.mk 0 0)).toArray)) (fun w => bd48_  w) rfl rfl rfl ?_
            refine O.store 0 0 [(.int .i64 0), (.int .i64 0)] [(.int .i64 0), (.int .i64 0)] sz48 H rfl rfl rfl rfl rfl rfl ⟨⟨rfl, rfl⟩, rfl⟩ (one_cons rfl (one_cons rfl one_nil)) ?_
            intro w2 H
            refine O.assign (v := (.int .i64 7)) rfl rfl rfl ?_
            refine WL.nil ?_
            refine W.ret ?_
            have hq : ((GRatio.mk 0 0), 7) = (r0, r1) := Option.some.inj (show some ((GRatio.mk 0 0), 7) = some (r0, r1) from hm)
            obtain ⟨he0, hq0⟩ := Prod.mk.inj hq; clear hq; subst he0
            subst hq0
            exact ends2 Try.results67 ⟨_, rfl, run_loadVar_agg ag48 rfl (H.cell 0 rfl)⟩ rfl ⟨_, rfl, H.base, rfl⟩
          · refine W.cond_false (congrArg Value.bool hc5) ?_
            refine W.skip ?_
            refine W.seq ?_
            refine W.region ?_
            refine O.move (v := (.int .i64 a0)) rfl rfl rfl ?_
            refine O.move (v := (.int .i64 a1)) rfl rfl rfl ?_
            obtain ⟨⟨t1, t2⟩, hy1, hm⟩ := bind_some hm
            refine O.call Try.call94 rfl rfl rfl (c_span_lowest _ _ hy1) ?_
            rintro _ w3 hb2 rfl
            have H := H.ext hb2
            refine O.extract (v := (.agg (Flat.cells t1).toArray)) rfl rfl rfl rfl ?_
            refine O.extract (v := (.int .i64 t2)) rfl rfl rfl rfl ?_
            refine O.store 0 0 [(.int .i64 t1.N), (.int .i64 t1.D)] [(.int .i64 t1.N), (.int .i64 t1.D)] sz48 H rfl rfl rfl rfl rfl rfl ⟨⟨rfl, rfl⟩, rfl⟩ (one_cons rfl (one_cons rfl one_nil)) ?_
            intro w4 H
            refine O.assign (v := (.int .i64 t2)) rfl rfl rfl ?_
            refine WL.nil ?_
            refine W.ret ?_
            have hq : (t1, t2) = (r0, r1) := Option.some.inj (show some (t1, t2) = some (r0, r1) from hm)
            obtain ⟨he0, hq0⟩ := Prod.mk.inj hq; clear hq; subst he0
            subst hq0
            exact ends2 Try.results67 ⟨_, rfl, run_loadVar_agg ag48 rfl (H.cell 0 rfl)⟩ rfl ⟨_, rfl, H.base, rfl⟩

theorem O.arrIdx {P : Program} {n m : Nat} {ds : Md} {rest : List Oper} {ops : Array Oper} {K : Fr → World → Prop} {f : Fr} {w : World} {T T0 E : TypeId} {pos : String} {aft : Array Edge} {g : Option (Nat × Bool)} {d : Nat} {s ix : Operand} {l : List Int} {i x : Int}
    (hT : P.underlying T = some (.array m E)) (hE : SizeT P E 1) (hS : ScalarT P E) (hl : l.length = m) (hi : idx l i = some x) (hg : want ops g f = true) (hd : Nat.blt d n = true) (hs : ev f s = .agg (l.map (Value.int .i64)).toArray) (hx : ev f ix = .int .i64 i)
    (h : WL P n ds ops rest K (upd f d (.int .i64 x)) w) : WL P n ds ops (⟨some d, .index T s ix, T0, pos, aft, g⟩ :: rest) K f w := by
  obtain ⟨h0, h1, h2⟩ := idx_some hi
  refine WL.val hg hd ?_ h
  have h3 : ((l.map (Value.int .i64)).toArray)[i.toNat * 1]? = some (.int .i64 x) := by simp [h2]
  have h4 : i < (m : Int) := by omega
  simp only [execOp, hs, hx, Instr.index, asIntOf, Sem.run_bind, Sem.run_pure, Result.andThen_ok, run_underlying hT, h0, h4, and_self, if_true, run_sizeOf' hE, part, run_isAgg_scalar hS, Bool.false_eq_true, if_false, h3]

set_option maxRecDepth 20000 in
theorem c_rate_Warm {w0 : World} (a0 : Int) (a1 : Int) (a2 : Int) (a3 : Int) (a4 : Int) {r0 : GRatio} {r1 : Int} (hm : rate_Warm a0 a1 a2 a3 a4 = some (r0, r1)) :
    Calls Try.prog 27 #[(.int .i64 a0), (.int .i64 a1), (.int .i64 a2), (.int .i64 a3), (.int .i64 a4)] w0 (Ret w0 fun _ v => v = .tuple #[(.agg (Flat.cells r0).toArray), (.int .i64 r1)]) := by
  unfold rate_Warm at hm
  refine calls_of_W Try.func27 rfl Try.ntmps27 (Nat.le_of_ble_eq_true rfl) ?_
  have H := Inv.start (w := w0)
  refine W.seq ?_
  refine W.region ?_
  refine O.alloc [(.int .i64 0), (.int .i64 0)] ze48 H rfl rfl rfl ?_
  intro b1 w1 H hb1
  refine O.assign (v := (.int .i64 0)) rfl rfl rfl ?_
  refine WL.nil ?_
  refine W.seq ?_
  refine W.seq ?_
  refine W.region ?_
  refine O.move (v := (.int .i64 a0)) rfl rfl rfl ?_
  refine O.move (v := (.int .i64 a2)) rfl rfl rfl ?_
  refine O.move (v := (.int .i64 a4)) rfl rfl rfl ?_
  refine O.build (v := (.agg #[(.int .i64 a0), (.int .i64 a2), (.int .i64 a4)])) (fun w => bd89_a _ _ _ w) rfl rfl rfl ?_
  refine O.move (v := (.int .i64 0)) rfl rfl rfl ?_
  refine WL.nil ?_
  obtain ⟨o1, hm1, hm⟩ := bind_some hm
  refine W.via (fun f w => o1 = .next () ∧ f 0 = (.int .i64 a0) ∧ f 1 = (.int .i64 a1) ∧ f 2 = (.int .i64 a2) ∧ f 3 = (.int .i64 a3) ∧ f 4 = (.int .i64 a4) ∧ f 10 = (.pointer (some ⟨b1, 0, none⟩)) ∧ Inv w0 w [boxI b1 48 [(.int .i64 0), (.int .i64 0)]]) ?_ ?_
  · skip
    refine W.block ?_
    refine W.rangeN (i := 0) hm1 (fun rem ik1 s f w => () = s ∧ (ik1 : Int) + rem = max 0 3 ∧ f 18 = .int .i64 (ik1 : Int) ∧ f 0 = (.int .i64 a0) ∧ f 1 = (.int .i64 a1) ∧ f 2 = (.int .i64 a2) ∧ f 3 = (.int .i64 a3) ∧ f 4 = (.int .i64 a4) ∧ f 10 = (.pointer (some ⟨b1, 0, none⟩)) ∧ f 17 = (.agg #[(.int .i64 a0), (.int .i64 a2), (.int .i64 a4)]) ∧ Inv w0 w [boxI b1 48 [(.int .i64 0), (.int .i64 0)]]) ?_ ?_ ?_
    · skip
      exact ⟨rfl, rangeN_start, rfl, rfl, rfl, rfl, rfl, rfl, rfl, rfl, H⟩
    · skip
      rintro k ik1 _ st f w ⟨rfl, hdropk1, hf18, hf0, hf1, hf2, hf3, hf4, hf10, hf17, H⟩ hm2
      have hltk1 := rangeN_lt hdropk1
      obtain ⟨u1, rfl⟩ : ∃ u1, f = (upd (upd (upd (upd (upd (upd (upd (upd u1 18 (.int .i64 (ik1 : Int))) 0 (.int .i64 a0)) 1 (.int .i64 a1)) 2 (.int .i64 a2)) 3 (.int .i64 a3)) 4 (.int .i64 a4)) 10 (.pointer (some ⟨b1, 0, none⟩))) 17 (.agg #[(.int .i64 a0), (.int .i64 a2), (.int .i64 a4)])) := ⟨f, by rw [upd_self hf18, upd_self hf0, upd_self hf1, upd_self hf2, upd_self hf3, upd_self hf4, upd_self hf10, upd_self hf17]⟩
      have hinck1 := addI_lt hltk1 (by decide)
      refine W.seq ?_
      refine W.region ?_
      refine O.lss rfl rfl rfl rfl ?_
      refine WL.nil ?_
      refine W.seq ?_
      refine W.cond_true (congrArg Value.bool (decide_eq_true hltk1)) ?_
      refine W.skip ?_
      refine W.seq ?_
      refine W.block ?_
      refine W.seq ?_
      refine W.region ?_
      obtain ⟨x1, hx1, hm2⟩ := bind_some hm2
      refine O.arrIdx Try.underlying89 sz3 sc3 rfl hx1 rfl rfl rfl rfl ?_
      refine O.assign (v := (.int .i64 x1)) rfl rfl rfl ?_
      refine WL.nil ?_
      refine W.seq ?_
      refine W.region ?_
      refine O.move (v := (.int .i64 x1)) rfl rfl rfl ?_
      obtain ⟨t1, hy1, hm2⟩ := bind_some hm2
      refine O.call Try.call59 rfl rfl rfl (c_rate_within _ _ _ hy1) ?_
      rintro _ w2 hb2 rfl
      have H := H.ext hb2
      refine O.not rfl rfl rfl ?_
      refine WL.nil ?_
      rcases ite_some hm2 with ⟨hc1, hm2⟩ | ⟨hc1, hm2⟩
      · refine W.cond_true (congrArg Value.bool hc1) ?_
        refine W.seq ?_
        refine W.region ?_
        refine O.build (v := (.agg (Flat.cells (GRatio.mk 0 0)).toArray)) (fun w => bd48_  w) rfl rfl rfl ?_
        refine O.store 0 0 [(.int .i64 0), (.int .i64 0)] [(.int .i64 0), (.int .i64 0)] sz48 H rfl rfl rfl rfl rfl rfl ⟨⟨rfl, rfl⟩, rfl⟩ (one_cons rfl (one_cons rfl one_nil)) ?_
        intro w3 H
        refine O.assign (v := (.int .i64 7)) rfl rfl rfl ?_
        refine WL.nil ?_
        refine W.ret ?_
        obtain rfl := Option.some.inj hm2
        refine ⟨_, rfl, ?_⟩
        rintro rfl
        have hq : ((GRatio.mk 0 0), 7) = (r0, r1) := Option.some.inj (show some ((GRatio.mk 0 0), 7) = some (r0, r1) from hm)
        obtain ⟨he0, hq0⟩ := Prod.mk.inj hq; clear hq; subst he0
        subst hq0
        exact ends2 Try.results27 ⟨_, rfl, run_loadVar_agg ag48 rfl (H.cell 0 rfl)⟩ rfl ⟨_, rfl, H.base, rfl⟩
      · refine W.cond_false (congrArg Value.bool hc1) ?_
        refine W.skip ?_
        refine W.region ?_
        refine O.add rfl rfl rfl rfl hinck1 ?_
        refine O.move (v := .int .i64 ((ik1 : Int) + 1)) rfl rfl rfl ?_
        refine WL.nil ?_
        obtain rfl := Option.some.inj hm2
        exact ⟨_, rfl, rfl, rangeN_next hdropk1, rfl, rfl, rfl, rfl, rfl, rfl, rfl, rfl, H⟩
    · skip
      rintro ik1 _ f w ⟨rfl, hdropk1, hf18, hf0, hf1, hf2, hf3, hf4, hf10, hf17, H⟩ hfin
      have hltk1 := rangeN_end hdropk1
      obtain ⟨u2, rfl⟩ : ∃ u2, f = (upd (upd (upd (upd (upd (upd (upd (upd u2 18 (.int .i64 (ik1 : Int))) 0 (.int .i64 a0)) 1 (.int .i64 a1)) 2 (.int .i64 a2)) 3 (.int .i64 a3)) 4 (.int .i64 a4)) 10 (.pointer (some ⟨b1, 0, none⟩))) 17 (.agg #[(.int .i64 a0), (.int .i64 a2), (.int .i64 a4)])) := ⟨f, by rw [upd_self hf18, upd_self hf0, upd_self hf1, upd_self hf2, upd_self hf3, upd_self hf4, upd_self hf10, upd_self hf17]⟩
      refine W.seq ?_
      refine W.region ?_
      refine O.lss rfl rfl rfl rfl ?_
      refine WL.nil ?_
      refine W.seq ?_
      refine W.cond_false (congrArg Value.bool (decide_eq_false hltk1)) ?_
      refine W.exit ?_
      obtain rfl : Ctl.next () = o1 := hfin
      refine xT rfl ?_
      exact ⟨rfl, rfl, rfl, rfl, rfl, rfl, rfl, H⟩
  · skip
    rintro f w ⟨rfl, hf0, hf1, hf2, hf3, hf4, hf10, H⟩
    obtain ⟨u3, rfl⟩ : ∃ u3, f = (upd (upd (upd (upd (upd (upd u3 0 (.int .i64 a0)) 1 (.int .i64 a1)) 2 (.int .i64 a2)) 3 (.int .i64 a3)) 4 (.int .i64 a4)) 10 (.pointer (some ⟨b1, 0, none⟩))) := ⟨f, by rw [upd_self hf0, upd_self hf1, upd_self hf2, upd_self hf3, upd_self hf4, upd_self hf10]⟩
    refine W.seq ?_
    refine W.seq ?_
    refine W.region ?_
    refine O.move (v := (.int .i64 a0)) rfl rfl rfl ?_
    refine O.move (v := (.int .i64 a2)) rfl rfl rfl ?_
    refine O.eql rfl rfl rfl rfl ?_
    refine O.move (v := (.bool (a0 == a2))) rfl rfl rfl ?_
    obtain ⟨b2, hm3, hm⟩ := bind_some hm
    refine WL.cut 4 (fun f w => f 0 = (.int .i64 a0) ∧ f 1 = (.int .i64 a1) ∧ f 2 = (.int .i64 a2) ∧ f 3 = (.int .i64 a3) ∧ f 4 = (.int .i64 a4) ∧ f 10 = (.pointer (some ⟨b1, 0, none⟩)) ∧ f 33 = .bool b2 ∧ Inv w0 w [boxI b1 48 [(.int .i64 0), (.int .i64 0)]]) ?_ ?_
    · skip
      rcases ite_some hm3 with ⟨hc2, hm3⟩ | ⟨hc2, hm3⟩
      · skip
        refine WL.reset (i := 29) (v := .bool true) (congrArg Value.bool hc2) ?_
        refine O.skip rfl rfl ?_
        refine O.skip rfl rfl ?_
        refine O.skip rfl rfl ?_
        refine O.pick_true (v := (.bool true)) rfl rfl rfl rfl ?_
        refine WL.nil ?_
        have hq : true = b2 := Option.some.inj (show some true = some b2 from hm3)
        subst hq
        exact ⟨rfl, rfl, rfl, rfl, rfl, rfl, rfl, H⟩
      · skip
        refine WL.reset (i := 29) (v := .bool false) (congrArg Value.bool hc2) ?_
        refine O.move (v := (.int .i64 a1)) rfl rfl rfl ?_
        obtain ⟨t2, hy2, hm3⟩ := bind_some hm3
        refine O.call Try.call59 rfl rfl rfl (c_rate_within _ _ _ hy2) ?_
        rintro _ w4 hb3 rfl
        have H := H.ext hb3
        refine O.not rfl rfl rfl ?_
        refine O.pick_false (v := (.bool (!t2))) rfl rfl rfl rfl ?_
        refine WL.nil ?_
        have hq : (!t2) = b2 := Option.some.inj (show some (!t2) = some b2 from hm3)
        subst hq
        exact ⟨rfl, rfl, rfl, rfl, rfl, rfl, rfl, H⟩
    · skip
      rintro f w ⟨hf0, hf1, hf2, hf3, hf4, hf10, hf33, H⟩
      obtain ⟨u4, rfl⟩ : ∃ u4, f = (upd (upd (upd (upd (upd (upd (upd u4 0 (.int .i64 a0)) 1 (.int .i64 a1)) 2 (.int .i64 a2)) 3 (.int .i64 a3)) 4 (.int .i64 a4)) 10 (.pointer (some ⟨b1, 0, none⟩))) 33 (.bool b2)) := ⟨f, by rw [upd_self hf0, upd_self hf1, upd_self hf2, upd_self hf3, upd_self hf4, upd_self hf10, upd_self hf33]⟩
      refine O.move (v := (.bool b2)) rfl rfl rfl ?_
      obtain ⟨b3, hm4, hm⟩ := bind_some hm
      refine WL.cut 4 (fun f w => f 0 = (.int .i64 a0) ∧ f 1 = (.int .i64 a1) ∧ f 2 = (.int .i64 a2) ∧ f 3 = (.int .i64 a3) ∧ f 4 = (.int .i64 a4) ∧ f 10 = (.pointer (some ⟨b1, 0, none⟩)) ∧ f 38 = .bool b3 ∧ Inv w0 w [boxI b1 48 [(.int .i64 0), (.int .i64 0)]]) ?_ ?_
      · skip
        rcases ite_some hm4 with ⟨hc3, hm4⟩ | ⟨hc3, hm4⟩
        · skip
          refine WL.reset (i := 34) (v := .bool true) (congrArg Value.bool hc3) ?_
          refine O.skip rfl rfl ?_
          refine O.skip rfl rfl ?_
          refine O.skip rfl rfl ?_
          refine O.pick_true (v := (.bool true)) rfl rfl rfl rfl ?_
          refine WL.nil ?_
          have hq : true = b3 := Option.some.inj (show some true = some b3 from hm4)
          subst hq
          exact ⟨rfl, rfl, rfl, rfl, rfl, rfl, rfl, H⟩
        · skip
          refine WL.reset (i := 34) (v := .bool false) (congrArg Value.bool hc3) ?_
          refine O.move (v := (.int .i64 a3)) rfl rfl rfl ?_
          obtain ⟨t3, hy3, hm4⟩ := bind_some hm4
          refine O.call Try.call59 rfl rfl rfl (c_rate_within _ _ _ hy3) ?_
          rintro _ w5 hb4 rfl
          have H := H.ext hb4
          refine O.not rfl rfl rfl ?_
          refine O.pick_false (v := (.bool (!t3))) rfl rfl rfl rfl ?_
          refine WL.nil ?_
          have hq : (!t3) = b3 := Option.some.inj (show some (!t3) = some b3 from hm4)
          subst hq
          exact ⟨rfl, rfl, rfl, rfl, rfl, rfl, rfl, H⟩
      · skip
        rintro f w ⟨hf0, hf1, hf2, hf3, hf4, hf10, hf38, H⟩
        obtain ⟨u5, rfl⟩ : ∃ u5, f = (upd (upd (upd (upd (upd (upd (upd u5 0 (.int .i64 a0)) 1 (.int .i64 a1)) 2 (.int .i64 a2)) 3 (.int .i64 a3)) 4 (.int .i64 a4)) 10 (.pointer (some ⟨b1, 0, none⟩))) 38 (.bool b3)) := ⟨f, by rw [upd_self hf0, upd_self hf1, upd_self hf2, upd_self hf3, upd_self hf4, upd_self hf10, upd_self hf38]⟩
        refine WL.nil ?_
        rcases ite_some hm with ⟨hc4, hm⟩ | ⟨hc4, hm⟩
        · refine W.cond_true (congrArg Value.bool hc4) ?_
          refine W.seq ?_
          refine W.region ?_
          refine O.build (v := (.agg (Flat.cells (GRatio.mk 0 0)).toArray)) (fun w => bd48_  w) rfl rfl rfl ?_
          refine O.store 0 0 [(.int .i64 0), (.int .i64 0)] [(.int .i64 0), (.int .i64 0)] sz48 H rfl rfl rfl rfl rfl rfl ⟨⟨rfl, rfl⟩, rfl⟩ (one_cons rfl (one_cons rfl one_nil)) ?_
          intro w6 H
          refine O.assign (v := (.int .i64 7)) rfl rfl rfl ?_
          refine WL.nil ?_
          refine W.ret ?_
          have hq : ((GRatio.mk 0 0), 7) = (r0, r1) := Option.some.inj (show some ((GRatio.mk 0 0), 7) = some (r0, r1) from hm)
          obtain ⟨he0, hq0⟩ := Prod.mk.inj hq; clear hq; subst he0
          subst hq0
          exact ends2 Try.results27 ⟨_, rfl, run_loadVar_agg ag48 rfl (H.cell 0 rfl)⟩ rfl ⟨_, rfl, H.base, rfl⟩
        · refine W.cond_false (congrArg Value.bool hc4) ?_
          refine W.skip ?_
          refine W.seq ?_
          refine W.region ?_
          refine O.move (v := (.int .i64 a1)) rfl rfl rfl ?_
          refine O.move (v := (.int .i64 a2)) rfl rfl rfl ?_
          refine O.move (v := (.int .i64 a0)) rfl rfl rfl ?_
          obtain ⟨t4, ht4, hm⟩ := bind_some hm
          refine O.sub rfl rfl rfl rfl ht4 ?_
          obtain ⟨t5, ht5, hm⟩ := bind_some hm
          refine O.mul rfl rfl rfl rfl ht5 ?_
          refine O.move (v := (.int .i64 a3)) rfl rfl rfl ?_
          refine O.move (v := (.int .i64 a1)) rfl rfl rfl ?_
          obtain ⟨t6, ht6, hm⟩ := bind_some hm
          refine O.sub rfl rfl rfl rfl ht6 ?_
          refine O.move (v := (.int .i64 a4)) rfl rfl rfl ?_
          refine O.move (v := (.int .i64 a0)) rfl rfl rfl ?_
          obtain ⟨t7, ht7, hm⟩ := bind_some hm
          refine O.sub rfl rfl rfl rfl ht7 ?_
          obtain ⟨t8, ht8, hm⟩ := bind_some hm
          refine O.mul rfl rfl rfl rfl ht8 ?_
          obtain ⟨t9, ht9, hm⟩ := bind_some hm
          refine O.add rfl rfl rfl rfl ht9 ?_
          refine O.move (v := (.int .i64 a2)) rfl rfl rfl ?_
          refine O.move (v := (.int .i64 a0)) rfl rfl rfl ?_
          obtain ⟨t10, ht10, hm⟩ := bind_some hm
          refine O.sub rfl rfl rfl rfl ht10 ?_
          obtain ⟨⟨t11, t12⟩, hy4, hm⟩ := bind_some hm
          refine O.call Try.call67 rfl rfl rfl (c_span_Make _ _ hy4) ?_
          rintro _ w7 hb5 rfl
          have H := H.ext hb5
          refine O.extract (v := (.agg (Flat.cells t11).toArray)) rfl rfl rfl rfl ?_
          refine O.extract (v := (.int .i64 t12)) rfl rfl rfl rfl ?_
          refine O.store 0 0 [(.int .i64 t11.N), (.int .i64 t11.D)] [(.int .i64 t11.N), (.int .i64 t11.D)] sz48 H rfl rfl rfl rfl rfl rfl ⟨⟨rfl, rfl⟩, rfl⟩ (one_cons rfl (one_cons rfl one_nil)) ?_
          intro w8 H
          refine O.assign (v := (.int .i64 t12)) rfl rfl rfl ?_
          refine WL.nil ?_
          refine W.ret ?_
          have hq : (t11, t12) = (r0, r1) := Option.some.inj (show some (t11, t12) = some (r0, r1) from hm)
          obtain ⟨he0, hq0⟩ := Prod.mk.inj hq; clear hq; subst he0
          subst hq0
          exact ends2 Try.results27 ⟨_, rfl, run_loadVar_agg ag48 rfl (H.cell 0 rfl)⟩ rfl ⟨_, rfl, H.base, rfl⟩

theorem c_noongunref06_Abs {w0 : World} (a0 : Int) {r0 : Int} (hm : noongunref06_Abs a0 = some r0) :
    Calls Try.prog 69 #[(.int .i64 a0)] w0 (Ret w0 fun _ v => v = (.int .i64 r0)) := by
  unfold noongunref06_Abs at hm
  refine calls_of_W Try.func69 rfl Try.ntmps69 (Nat.le_of_ble_eq_true rfl) ?_
  have H := Inv.start (w := w0)
  refine W.seq ?_
  refine W.region ?_
  refine O.assign (v := (.int .i64 0)) rfl rfl rfl ?_
  refine WL.nil ?_
  refine W.seq ?_
  refine W.seq ?_
  refine W.region ?_
  refine O.move (v := (.int .i64 a0)) rfl rfl rfl ?_
  refine O.lss rfl rfl rfl rfl ?_
  refine WL.nil ?_
  rcases ite_some hm with ⟨hc1, hm⟩ | ⟨hc1, hm⟩
  · refine W.cond_true (congrArg Value.bool hc1) ?_
    refine W.seq ?_
    refine W.region ?_
    refine O.move (v := (.int .i64 a0)) rfl rfl rfl ?_
    refine O.negW rfl rfl rfl ?_
    refine O.assign (v := (.int .i64 (negW a0))) rfl rfl rfl ?_
    refine WL.nil ?_
    refine W.ret ?_
    have hq : (negW a0) = r0 := Option.some.inj (show some (negW a0) = some r0 from hm)
    subst hq
    exact ends1 Try.results69 rfl ⟨_, rfl, H.base, rfl⟩
  · refine W.cond_false (congrArg Value.bool hc1) ?_
    refine W.skip ?_
    refine W.seq ?_
    refine W.region ?_
    refine O.move (v := (.int .i64 a0)) rfl rfl rfl ?_
    refine O.assign (v := (.int .i64 a0)) rfl rfl rfl ?_
    refine WL.nil ?_
    refine W.ret ?_
    have hq : a0 = r0 := Option.some.inj (show some a0 = some r0 from hm)
    subst hq
    exact ends1 Try.results69 rfl ⟨_, rfl, H.base, rfl⟩

set_option maxRecDepth 20000 in
theorem c_noongunref06_Ratio {w0 : World} (a0 : Int) (a1 : Int) {r0 : GRatio} {r1 : Int} (hm : noongunref06_Ratio a0 a1 = some (r0, r1)) :
    Calls Try.prog 68 #[(.int .i64 a0), (.int .i64 a1)] w0 (Ret w0 fun _ v => v = .tuple #[(.agg (Flat.cells r0).toArray), (.int .i64 r1)]) := by
  unfold noongunref06_Ratio at hm
  refine calls_of_W Try.func68 rfl Try.ntmps68 (Nat.le_of_ble_eq_true rfl) ?_
  have H := Inv.start (w := w0)
  refine W.seq ?_
  refine W.region ?_
  refine O.alloc [(.int .i64 0), (.int .i64 0)] ze48 H rfl rfl rfl ?_
  intro b1 w1 H hb1
  refine O.assign (v := (.int .i64 0)) rfl rfl rfl ?_
  refine WL.nil ?_
  refine W.seq ?_
  refine W.seq ?_
  refine W.region ?_
  refine O.move (v := (.int .i64 a1)) rfl rfl rfl ?_
  refine O.lss rfl rfl rfl rfl ?_
  refine WL.nil ?_
  obtain ⟨⟨s1, s2⟩, hm1, hm⟩ := bind_some hm
  refine W.via (fun f w => f 0 = (.int .i64 s1) ∧ f 1 = (.int .i64 s2) ∧ f 4 = (.pointer (some ⟨b1, 0, none⟩)) ∧ Inv w0 w [boxI b1 48 [(.int .i64 0), (.int .i64 0)]]) ?_ ?_
  · skip
    rcases ite_some hm1 with ⟨hc1, hm1⟩ | ⟨hc1, hm1⟩
    · refine W.cond_true (congrArg Value.bool hc1) ?_
      refine W.region ?_
      refine O.move (v := (.int .i64 a0)) rfl rfl rfl ?_
      refine O.negW rfl rfl rfl ?_
      refine O.move (v := (.int .i64 a1)) rfl rfl rfl ?_
      refine O.negW rfl rfl rfl ?_
      refine O.assign (v := (.int .i64 (negW a0))) rfl rfl rfl ?_
      refine O.assign (v := (.int .i64 (negW a1))) rfl rfl rfl ?_
      refine WL.nil ?_
      have hq : ((negW a0), (negW a1)) = (s1, s2) := Option.some.inj (show some ((negW a0), (negW a1)) = some (s1, s2) from hm1)
      obtain ⟨he0, hq0⟩ := Prod.mk.inj hq; clear hq; subst he0
      subst hq0
      exact ⟨rfl, rfl, rfl, H⟩
    · refine W.cond_false (congrArg Value.bool hc1) ?_
      refine W.skip ?_
      have hq : (a0, a1) = (s1, s2) := Option.some.inj (show some (a0, a1) = some (s1, s2) from hm1)
      obtain ⟨he0, hq0⟩ := Prod.mk.inj hq; clear hq; subst he0
      subst hq0
      exact ⟨rfl, rfl, rfl, H⟩
  · skip
    rintro f w ⟨hf0, hf1, hf4, H⟩
    obtain ⟨u1, rfl⟩ : ∃ u1, f = (upd (upd (upd u1 0 (.int .i64 s1)) 1 (.int .i64 s2)) 4 (.pointer (some ⟨b1, 0, none⟩))) := ⟨f, by rw [upd_self hf0, upd_self hf1, upd_self hf4]⟩
    refine W.seq ?_
    refine W.region ?_
    refine O.move (v := (.int .i64 s1)) rfl rfl rfl ?_
    obtain ⟨t1, hy1, hm⟩ := bind_some hm
    refine O.call Try.call69 rfl rfl rfl (c_noongunref06_Abs _ hy1) ?_
    rintro _ w2 hb2 rfl
    have H := H.ext hb2
    refine O.move (v := (.int .i64 s2)) rfl rfl rfl ?_
    refine O.assign (v := (.int .i64 t1)) rfl rfl rfl ?_
    refine O.assign (v := (.int .i64 s2)) rfl rfl rfl ?_
    refine WL.nil ?_
    refine W.seq ?_
    obtain ⟨s3, hm2, hm⟩ := bind_some hm
    refine W.via (fun f w => f 0 = (.int .i64 s1) ∧ f 1 = (.int .i64 s2) ∧ f 4 = (.pointer (some ⟨b1, 0, none⟩)) ∧ f 6 = (.int .i64 s3) ∧ Inv w0 w [boxI b1 48 [(.int .i64 0), (.int .i64 0)]]) ?_ ?_
    · skip
      refine W.block ?_
      refine W.loopR hm2 (fun s f w => ∃ z3 : Int, ∃ z4 : Int, (z3, z4) = s ∧ f 0 = (.int .i64 s1) ∧ f 1 = (.int .i64 s2) ∧ f 4 = (.pointer (some ⟨b1, 0, none⟩)) ∧ f 6 = (.int .i64 z3) ∧ f 7 = (.int .i64 z4) ∧ Inv w0 w [boxI b1 48 [(.int .i64 0), (.int .i64 0)]]) ?_ ?_
      · skip
        exact ⟨_, _, rfl, rfl, rfl, rfl, rfl, rfl, H⟩
      · skip
        rintro _ st f w ⟨z3, z4, rfl, hf0, hf1, hf4, hf6, hf7, H⟩ hm3
        obtain ⟨u2, rfl⟩ : ∃ u2, f = (upd (upd (upd (upd (upd u2 0 (.int .i64 s1)) 1 (.int .i64 s2)) 4 (.pointer (some ⟨b1, 0, none⟩))) 6 (.int .i64 z3)) 7 (.int .i64 z4)) := ⟨f, by rw [upd_self hf0, upd_self hf1, upd_self hf4, upd_self hf6, upd_self hf7]⟩
        refine W.seq ?_
        refine W.seq ?_
        refine W.region ?_
        refine O.move (v := (.int .i64 z4)) rfl rfl rfl ?_
        refine O.gtr rfl rfl rfl rfl ?_
        refine WL.nil ?_
        rcases ite_some hm3 with ⟨hc2, hm3⟩ | ⟨hc2, hm3⟩
        · refine W.cond_true (congrArg Value.bool hc2) ?_
          refine W.skip ?_
          refine W.block ?_
          obtain ⟨t2, ht2, hm3⟩ := bind_some hm3
          refine W.drawN 5 (fun f => f 0 = (.int .i64 s1) ∧ f 1 = (.int .i64 s2) ∧ f 4 = (.pointer (some ⟨b1, 0, none⟩)) ∧ f 6 = (.int .i64 z4) ∧ f 23 = (.int .i64 t2)) fol (by kernel_rfl) ?_ ?_
          · skip
            refine PL.of (fun _ w8 _ hx => O.move (v := (.int .i64 z4)) rfl rfl rfl (WL.nil ⟨rfl, hx⟩)) ?_
            refine PL.of (fun _ w8 _ hx => O.move (v := (.int .i64 z3)) rfl rfl rfl (WL.nil ⟨rfl, hx⟩)) ?_
            refine PL.of (fun _ w8 _ hx => O.move (v := (.int .i64 z4)) rfl rfl rfl (WL.nil ⟨rfl, hx⟩)) ?_
            refine PL.of (fun _ w8 _ hx => O.rem rfl rfl rfl rfl ht2 (WL.nil ⟨rfl, hx⟩)) ?_
            refine PL.of (fun _ w8 _ hx => O.assign (v := (.int .i64 z4)) rfl rfl rfl (WL.nil ⟨rfl, hx⟩)) ?_
            refine PL.nil ?_
            exact ⟨rfl, rfl, rfl, rfl, rfl⟩
          · skip
            rintro f w ⟨hf0, hf1, hf4, hf6, hf23⟩ hmd hx
            have H := H.ext hx
            obtain ⟨u3, rfl⟩ : ∃ u3, f = (upd (upd (upd (upd (upd u3 0 (.int .i64 s1)) 1 (.int .i64 s2)) 4 (.pointer (some ⟨b1, 0, none⟩))) 6 (.int .i64 z4)) 23 (.int .i64 t2)) := ⟨f, by rw [upd_self hf0, upd_self hf1, upd_self hf4, upd_self hf6, upd_self hf23]⟩
            refine O.assign (v := (.int .i64 t2)) rfl rfl rfl ?_
            refine WL.nil ?_
            obtain rfl := Option.some.inj hm3
            exact ⟨_, rfl, _, _, rfl, rfl, rfl, rfl, rfl, rfl, H⟩
        · refine W.cond_false (congrArg Value.bool hc2) ?_
          refine W.exit ?_
          obtain rfl := Option.some.inj hm3
          refine ⟨_, rfl, ?_⟩
          intro hy
          have hq : z3 = s3 := hy
          subst hq
          refine xT rfl ?_
          exact ⟨rfl, rfl, rfl, rfl, H⟩
    · skip
      rintro f w ⟨hf0, hf1, hf4, hf6, H⟩
      obtain ⟨u4, rfl⟩ : ∃ u4, f = (upd (upd (upd (upd u4 0 (.int .i64 s1)) 1 (.int .i64 s2)) 4 (.pointer (some ⟨b1, 0, none⟩))) 6 (.int .i64 s3)) := ⟨f, by rw [upd_self hf0, upd_self hf1, upd_self hf4, upd_self hf6]⟩
      refine W.seq ?_
      obtain ⟨t3, ht3, hm⟩ := bind_some hm
      obtain ⟨t4, ht4, hm⟩ := bind_some hm
      refine W.drawA (d := 8) 7 [0, 1, 2, 3, 4, 5, 6] (fun b9 w9 => Inv w0 w9 [boxI b1 48 [(.int .i64 0), (.int .i64 0)], boxI b9 48 [(.int .i64 0), (.int .i64 0)]]) (fun f => f 4 = (.pointer (some ⟨b1, 0, none⟩)) ∧ f 30 = (.agg (Flat.cells (GRatio.mk t3 t4)).toArray)) fol (by kernel_rfl) rfl ?_ ?_ ?_
      · skip
        refine PL.of (fun b w8 _ hx => match b, hx with | none, hx => by exact O.move (v := (.int .i64 s1)) rfl rfl rfl (WL.nil ⟨rfl, hx⟩) | some _, ⟨bb, hv, hx, H⟩ => by exact O.move (v := (.int .i64 s1)) rfl rfl rfl (WL.nil ⟨rfl, bb, hv, hx, H⟩)) ?_
        refine PL.of (fun b w8 _ hx => match b, hx with | none, hx => by exact O.move (v := (.int .i64 s3)) rfl rfl rfl (WL.nil ⟨rfl, hx⟩) | some _, ⟨bb, hv, hx, H⟩ => by exact O.move (v := (.int .i64 s3)) rfl rfl rfl (WL.nil ⟨rfl, bb, hv, hx, H⟩)) ?_
        refine PL.of (fun b w8 _ hx => match b, hx with | none, hx => by exact O.quo rfl rfl rfl rfl ht3 (WL.nil ⟨rfl, hx⟩) | some _, ⟨bb, hv, hx, H⟩ => by exact O.quo rfl rfl rfl rfl ht3 (WL.nil ⟨rfl, bb, hv, hx, H⟩)) ?_
        refine PL.of (fun b w8 _ hx => match b, hx with | none, hx => by exact O.move (v := (.int .i64 s2)) rfl rfl rfl (WL.nil ⟨rfl, hx⟩) | some _, ⟨bb, hv, hx, H⟩ => by exact O.move (v := (.int .i64 s2)) rfl rfl rfl (WL.nil ⟨rfl, bb, hv, hx, H⟩)) ?_
        refine PL.of (fun b w8 _ hx => match b, hx with | none, hx => by exact O.move (v := (.int .i64 s3)) rfl rfl rfl (WL.nil ⟨rfl, hx⟩) | some _, ⟨bb, hv, hx, H⟩ => by exact O.move (v := (.int .i64 s3)) rfl rfl rfl (WL.nil ⟨rfl, bb, hv, hx, H⟩)) ?_
        refine PL.of (fun b w8 _ hx => match b, hx with | none, hx => by exact O.quo rfl rfl rfl rfl ht4 (WL.nil ⟨rfl, hx⟩) | some _, ⟨bb, hv, hx, H⟩ => by exact O.quo rfl rfl rfl rfl ht4 (WL.nil ⟨rfl, bb, hv, hx, H⟩)) ?_
        refine PL.of (fun b w8 _ hx => match b, hx with | none, hx => by exact O.build (v := (.agg (Flat.cells (GRatio.mk t3 t4)).toArray)) (fun w => bd48_0_1 _ _ w) rfl rfl rfl (WL.nil ⟨rfl, hx⟩) | some _, ⟨bb, hv, hx, H⟩ => by exact O.build (v := (.agg (Flat.cells (GRatio.mk t3 t4)).toArray)) (fun w => bd48_0_1 _ _ w) rfl rfl rfl (WL.nil ⟨rfl, bb, hv, hx, H⟩)) ?_
        refine PL.nil ?_
        exact ⟨rfl, rfl⟩
      · skip
        rintro f _ w hx
        have H := H.ext hx
        exact O.alloc [(.int .i64 0), (.int .i64 0)] ze48 H rfl rfl rfl (fun b _ H hb => WL.nil ⟨_, rfl, b, rfl, hx.trans (hb.mono hx.size), H⟩)
      · skip
        rintro f w b2 ⟨hf4, hf30⟩ hmd hx H
        obtain ⟨u5, rfl⟩ : ∃ u5, f = (upd (upd u5 4 (.pointer (some ⟨b1, 0, none⟩))) 30 (.agg (Flat.cells (GRatio.mk t3 t4)).toArray)) := ⟨f, by rw [upd_self hf4, upd_self hf30]⟩
        refine O.store 1 0 [(.int .i64 t3), (.int .i64 t4)] [(.int .i64 t3), (.int .i64 t4)] sz48 H rfl rfl rfl rfl rfl rfl ⟨⟨rfl, rfl⟩, rfl⟩ (one_cons rfl (one_cons rfl one_nil)) ?_
        intro w3 H
        refine WL.nil ?_
        refine W.seq ?_
        refine W.seq ?_
        refine W.region ?_
        refine O.fieldAddr fd48_0 rfl rfl rfl ?_
        refine O.load sc3 rfl rfl rfl (H.cell 1 rfl 0 _ rfl) ?_
        obtain ⟨t5, hy2, hm⟩ := bind_some hm
        refine O.call Try.call69 rfl rfl rfl (c_noongunref06_Abs _ hy2) ?_
        rintro _ w4 hb3 rfl
        have H := H.ext hb3
        refine O.gtr rfl rfl rfl rfl ?_
        refine O.move (v := (.bool (decide (1000000000 < t5)))) rfl rfl rfl ?_
        refine WL.cut 4 (fun f w => f 4 = (.pointer (some ⟨b1, 0, none⟩)) ∧ f 8 = (.pointer (some ⟨b2, 0, none⟩)) ∧ f 39 = .bool ((decide (1000000000 < t5)) || (decide (1000000000 < t4))) ∧ Inv w0 w [boxI b1 48 [(.int .i64 0), (.int .i64 0)], boxI b2 48 [(.int .i64 t3), (.int .i64 t4)]]) ?_ ?_
        · skip
          rcases bool_ft (decide (1000000000 < t5)) with hc3 | hc3
          · skip
            refine WL.reset (i := 35) (v := .bool false) (congrArg Value.bool hc3) ?_
            refine O.fieldAddr fd48_1 rfl rfl rfl ?_
            refine O.load sc3 rfl rfl rfl (H.cell 1 rfl 1 _ rfl) ?_
            refine O.gtr rfl rfl rfl rfl ?_
            refine O.pick_false (v := (.bool (decide (1000000000 < t4)))) rfl rfl rfl rfl ?_
            refine WL.nil ?_
            exact ⟨rfl, rfl, congrArg Value.bool (or_f hc3), H⟩
          · skip
            refine WL.reset (i := 35) (v := .bool true) (congrArg Value.bool hc3) ?_
            refine O.skip rfl rfl ?_
            refine O.skip rfl rfl ?_
            refine O.skip rfl rfl ?_
            refine O.pick_true (v := (.bool true)) rfl rfl rfl rfl ?_
            refine WL.nil ?_
            exact ⟨rfl, rfl, congrArg Value.bool (or_t hc3), H⟩
        · skip
          rintro f w ⟨hf4, hf8, hf39, H⟩
          obtain ⟨u6, rfl⟩ : ∃ u6, f = (upd (upd (upd u6 4 (.pointer (some ⟨b1, 0, none⟩))) 8 (.pointer (some ⟨b2, 0, none⟩))) 39 (.bool ((decide (1000000000 < t5)) || (decide (1000000000 < t4))))) := ⟨f, by rw [upd_self hf4, upd_self hf8, upd_self hf39]⟩
          refine WL.nil ?_
          rcases ite_some hm with ⟨hc4, hm⟩ | ⟨hc4, hm⟩
          · refine W.cond_true (congrArg Value.bool hc4) ?_
            refine W.seq ?_
            refine W.region ?_
            refine O.build (v := (.agg (Flat.cells (GRatio.mk 0 0)).toArray)) (fun w => bd48_  w) rfl rfl rfl ?_
            refine O.store 0 0 [(.int .i64 0), (.int .i64 0)] [(.int .i64 0), (.int .i64 0)] sz48 H rfl rfl rfl rfl rfl rfl ⟨⟨rfl, rfl⟩, rfl⟩ (one_cons rfl (one_cons rfl one_nil)) ?_
            intro w5 H
            refine O.assign (v := (.int .i64 4)) rfl rfl rfl ?_
            refine WL.nil ?_
            refine W.ret ?_
            have hq : ((GRatio.mk 0 0), 4) = (r0, r1) := Option.some.inj (show some ((GRatio.mk 0 0), 4) = some (r0, r1) from hm)
            obtain ⟨he0, hq0⟩ := Prod.mk.inj hq; clear hq; subst he0
            subst hq0
            exact ends2 Try.results68 ⟨_, rfl, run_loadVar_agg ag48 rfl (H.cell 0 rfl)⟩ rfl ⟨_, rfl, H.base, rfl⟩
          · refine W.cond_false (congrArg Value.bool hc4) ?_
            refine W.skip ?_
            refine W.seq ?_
            refine W.region ?_
            refine O.loadA [(.int .i64 t3), (.int .i64 t4)] ag48 rfl rfl rfl rfl (H.cell 1 rfl) ?_
            refine O.store 0 0 [(.int .i64 t3), (.int .i64 t4)] [(.int .i64 t3), (.int .i64 t4)] sz48 H rfl rfl rfl rfl rfl rfl ⟨⟨rfl, rfl⟩, rfl⟩ (one_cons rfl (one_cons rfl one_nil)) ?_
            intro w6 H
            refine O.assign (v := (.int .i64 0)) rfl rfl rfl ?_
            refine WL.nil ?_
            refine W.ret ?_
            have hq : ((GRatio.mk t3 t4), 0) = (r0, r1) := Option.some.inj (show some ((GRatio.mk t3 t4), 0) = some (r0, r1) from hm)
            obtain ⟨he0, hq0⟩ := Prod.mk.inj hq; clear hq; subst he0
            subst hq0
            exact ends2 Try.results68 ⟨_, rfl, run_loadVar_agg ag48 rfl (H.cell 0 rfl)⟩ rfl ⟨_, rfl, H.base, rfl⟩

set_option maxRecDepth 20000 in
theorem c_noongunref06_Warm {w0 : World} (a0 : Int) (a1 : Int) (a2 : Int) (a3 : Int) (a4 : Int) {r0 : GRatio} {r1 : Int} (hm : noongunref06_Warm a0 a1 a2 a3 a4 = some (r0, r1)) :
    Calls Try.prog 28 #[(.int .i64 a0), (.int .i64 a1), (.int .i64 a2), (.int .i64 a3), (.int .i64 a4)] w0 (Ret w0 fun _ v => v = .tuple #[(.agg (Flat.cells r0).toArray), (.int .i64 r1)]) := by
  unfold noongunref06_Warm at hm
  refine calls_of_W Try.func28 rfl Try.ntmps28 (Nat.le_of_ble_eq_true rfl) ?_
  have H := Inv.start (w := w0)
  refine W.seq ?_
  refine W.region ?_
  refine O.alloc [(.int .i64 0), (.int .i64 0)] ze48 H rfl rfl rfl ?_
  intro b1 w1 H hb1
  refine O.assign (v := (.int .i64 0)) rfl rfl rfl ?_
  refine WL.nil ?_
  refine W.seq ?_
  refine W.seq ?_
  refine W.region ?_
  refine O.move (v := (.int .i64 a0)) rfl rfl rfl ?_
  refine O.move (v := (.int .i64 a2)) rfl rfl rfl ?_
  refine O.move (v := (.int .i64 a4)) rfl rfl rfl ?_
  refine O.buildSlice (α := Int) [(.int .i64 a0), (.int .i64 a2), (.int .i64 a4)] [a0, a2, a4] Try.underlying22 el3 H rfl rfl rfl rfl rfl rfl rfl ?_
  intro v1 w2 H hb2
  refine O.lenS Try.underlying22 (H.own 1 rfl) rfl rfl rfl ?_
  refine O.move (v := (.int .i64 0)) rfl rfl rfl ?_
  refine WL.nil ?_
  obtain ⟨o1, hm1, hm⟩ := bind_some hm
  refine W.via (fun f w => o1 = .next () ∧ f 0 = (.int .i64 a0) ∧ f 1 = (.int .i64 a1) ∧ f 2 = (.int .i64 a2) ∧ f 3 = (.int .i64 a3) ∧ f 4 = (.int .i64 a4) ∧ f 10 = (.pointer (some ⟨b1, 0, none⟩)) ∧ Inv w0 w [boxI b1 48 [(.int .i64 0), (.int .i64 0)]]) ?_ ?_
  · skip
    refine W.block ?_
    refine W.rangeL (i := 0) hm1 (fun rem ik1 s f w => () = s ∧ ([a0, a2, a4] : List Int).drop ik1 = rem ∧ f 21 = .int .i64 (ik1 : Int) ∧ f 20 = (.int .i64 ((([a0, a2, a4] : List Int).length : Nat) : Int)) ∧ f 0 = (.int .i64 a0) ∧ f 1 = (.int .i64 a1) ∧ f 2 = (.int .i64 a2) ∧ f 3 = (.int .i64 a3) ∧ f 4 = (.int .i64 a4) ∧ f 10 = (.pointer (some ⟨b1, 0, none⟩)) ∧ f 19 = v1 ∧ Inv w0 w [boxI b1 48 [(.int .i64 0), (.int .i64 0)], ownI (α := Int) v1 3 ([a0, a2, a4] : List Int)]) ?_ ?_ ?_
    · skip
      exact ⟨rfl, List.drop_zero, rfl, rfl, rfl, rfl, rfl, rfl, rfl, rfl, rfl, H⟩
    · skip
      rintro yk1 xs ik1 _ st f w ⟨rfl, hdropk1, hf21, hf20, hf0, hf1, hf2, hf3, hf4, hf10, hf19, H⟩ hm2
      have hltk1 := drop_lt hdropk1; have hixk1 := drop_idx hdropk1
      obtain ⟨u1, rfl⟩ : ∃ u1, f = (upd (upd (upd (upd (upd (upd (upd (upd (upd u1 21 (.int .i64 (ik1 : Int))) 20 (.int .i64 ((([a0, a2, a4] : List Int).length : Nat) : Int))) 0 (.int .i64 a0)) 1 (.int .i64 a1)) 2 (.int .i64 a2)) 3 (.int .i64 a3)) 4 (.int .i64 a4)) 10 (.pointer (some ⟨b1, 0, none⟩))) 19 v1) := ⟨f, by rw [upd_self hf21, upd_self hf20, upd_self hf0, upd_self hf1, upd_self hf2, upd_self hf3, upd_self hf4, upd_self hf10, upd_self hf19]⟩
      have hinck1 := addI_lt hltk1 (H.own 1 rfl).len_le
      refine W.seq ?_
      refine W.region ?_
      refine O.lss rfl rfl rfl rfl ?_
      refine WL.nil ?_
      refine W.seq ?_
      refine W.cond_true (congrArg Value.bool (decide_eq_true hltk1)) ?_
      refine W.skip ?_
      refine W.seq ?_
      refine W.block ?_
      refine W.seq ?_
      refine W.region ?_
      refine O.indexAddr Try.underlying22 sz3 (H.own 1 rfl) hixk1 rfl rfl rfl rfl ?_
      intro p1 hp1
      refine O.load sc3 rfl rfl rfl (hp1.flat 0 _ rfl) ?_
      refine O.assign (v := (.int .i64 yk1)) rfl rfl rfl ?_
      refine WL.nil ?_
      refine W.seq ?_
      refine W.region ?_
      refine O.move (v := (.int .i64 yk1)) rfl rfl rfl ?_
      refine O.lss rfl rfl rfl rfl ?_
      refine O.move (v := (.bool (decide (yk1 < (-50000))))) rfl rfl rfl ?_
      refine WL.cut 3 (fun f w => f 0 = (.int .i64 a0) ∧ f 1 = (.int .i64 a1) ∧ f 2 = (.int .i64 a2) ∧ f 3 = (.int .i64 a3) ∧ f 4 = (.int .i64 a4) ∧ f 10 = (.pointer (some ⟨b1, 0, none⟩)) ∧ f 19 = v1 ∧ f 20 = (.int .i64 ((([a0, a2, a4] : List Int).length : Nat) : Int)) ∧ f 21 = (.int .i64 (ik1 : Int)) ∧ f 30 = .bool ((decide (yk1 < (-50000))) || (decide (50000 < yk1))) ∧ Inv w0 w [boxI b1 48 [(.int .i64 0), (.int .i64 0)], ownI (α := Int) v1 3 ([a0, a2, a4] : List Int)]) ?_ ?_
      · skip
        rcases bool_ft (decide (yk1 < (-50000))) with hc1 | hc1
        · skip
          refine WL.reset (i := 27) (v := .bool false) (congrArg Value.bool hc1) ?_
          refine O.move (v := (.int .i64 yk1)) rfl rfl rfl ?_
          refine O.gtr rfl rfl rfl rfl ?_
          refine O.pick_false (v := (.bool (decide (50000 < yk1)))) rfl rfl rfl rfl ?_
          refine WL.nil ?_
          exact ⟨rfl, rfl, rfl, rfl, rfl, rfl, rfl, rfl, rfl, congrArg Value.bool (or_f hc1), H⟩
        · skip
          refine WL.reset (i := 27) (v := .bool true) (congrArg Value.bool hc1) ?_
          refine O.skip rfl rfl ?_
          refine O.skip rfl rfl ?_
          refine O.pick_true (v := (.bool true)) rfl rfl rfl rfl ?_
          refine WL.nil ?_
          exact ⟨rfl, rfl, rfl, rfl, rfl, rfl, rfl, rfl, rfl, congrArg Value.bool (or_t hc1), H⟩
      · skip
        rintro f w ⟨hf0, hf1, hf2, hf3, hf4, hf10, hf19, hf20, hf21, hf30, H⟩
        obtain ⟨u2, rfl⟩ : ∃ u2, f = (upd (upd (upd (upd (upd (upd (upd (upd (upd (upd u2 0 (.int .i64 a0)) 1 (.int .i64 a1)) 2 (.int .i64 a2)) 3 (.int .i64 a3)) 4 (.int .i64 a4)) 10 (.pointer (some ⟨b1, 0, none⟩))) 19 v1) 20 (.int .i64 ((([a0, a2, a4] : List Int).length : Nat) : Int))) 21 (.int .i64 (ik1 : Int))) 30 (.bool ((decide (yk1 < (-50000))) || (decide (50000 < yk1))))) := ⟨f, by rw [upd_self hf0, upd_self hf1, upd_self hf2, upd_self hf3, upd_self hf4, upd_self hf10, upd_self hf19, upd_self hf20, upd_self hf21, upd_self hf30]⟩
        refine WL.nil ?_
        rcases ite_some hm2 with ⟨hc2, hm2⟩ | ⟨hc2, hm2⟩
        · refine W.cond_true (congrArg Value.bool hc2) ?_
          refine W.seq ?_
          refine W.region ?_
          refine O.build (v := (.agg (Flat.cells (GRatio.mk 0 0)).toArray)) (fun w => bd48_  w) rfl rfl rfl ?_
          refine O.store 0 0 [(.int .i64 0), (.int .i64 0)] [(.int .i64 0), (.int .i64 0)] sz48 H rfl rfl rfl rfl rfl rfl ⟨⟨rfl, rfl⟩, rfl⟩ (one_cons rfl (one_cons rfl one_nil)) ?_
          intro w3 H
          refine O.assign (v := (.int .i64 7)) rfl rfl rfl ?_
          refine WL.nil ?_
          refine W.ret ?_
          obtain rfl := Option.some.inj hm2
          refine ⟨_, rfl, ?_⟩
          rintro rfl
          have hq : ((GRatio.mk 0 0), 7) = (r0, r1) := Option.some.inj (show some ((GRatio.mk 0 0), 7) = some (r0, r1) from hm)
          obtain ⟨he0, hq0⟩ := Prod.mk.inj hq; clear hq; subst he0
          subst hq0
          exact ends2 Try.results28 ⟨_, rfl, run_loadVar_agg ag48 rfl (H.cell 0 rfl)⟩ rfl ⟨_, rfl, H.base, rfl⟩
        · refine W.cond_false (congrArg Value.bool hc2) ?_
          refine W.skip ?_
          refine W.region ?_
          refine O.add rfl rfl rfl rfl hinck1 ?_
          refine O.move (v := .int .i64 ((ik1 : Int) + 1)) rfl rfl rfl ?_
          refine WL.nil ?_
          obtain rfl := Option.some.inj hm2
          exact ⟨_, rfl, rfl, drop_next hdropk1, rfl, rfl, rfl, rfl, rfl, rfl, rfl, rfl, rfl, H⟩
    · skip
      rintro ik1 _ f w ⟨rfl, hdropk1, hf21, hf20, hf0, hf1, hf2, hf3, hf4, hf10, hf19, H⟩ hfin
      have hltk1 := drop_end hdropk1
      obtain ⟨u3, rfl⟩ : ∃ u3, f = (upd (upd (upd (upd (upd (upd (upd (upd (upd u3 21 (.int .i64 (ik1 : Int))) 20 (.int .i64 ((([a0, a2, a4] : List Int).length : Nat) : Int))) 0 (.int .i64 a0)) 1 (.int .i64 a1)) 2 (.int .i64 a2)) 3 (.int .i64 a3)) 4 (.int .i64 a4)) 10 (.pointer (some ⟨b1, 0, none⟩))) 19 v1) := ⟨f, by rw [upd_self hf21, upd_self hf20, upd_self hf0, upd_self hf1, upd_self hf2, upd_self hf3, upd_self hf4, upd_self hf10, upd_self hf19]⟩
      refine W.seq ?_
      refine W.region ?_
      refine O.lss rfl rfl rfl rfl ?_
      refine WL.nil ?_
      refine W.seq ?_
      refine W.cond_false (congrArg Value.bool (decide_eq_false hltk1)) ?_
      refine W.exit ?_
      obtain rfl : Ctl.next () = o1 := hfin
      have H := H.keep [0] [boxI b1 48 [(.int .i64 0), (.int .i64 0)]] rfl (by decide)
      refine xT rfl ?_
      exact ⟨rfl, rfl, rfl, rfl, rfl, rfl, rfl, H⟩
  · skip
    rintro f w ⟨rfl, hf0, hf1, hf2, hf3, hf4, hf10, H⟩
    obtain ⟨u4, rfl⟩ : ∃ u4, f = (upd (upd (upd (upd (upd (upd u4 0 (.int .i64 a0)) 1 (.int .i64 a1)) 2 (.int .i64 a2)) 3 (.int .i64 a3)) 4 (.int .i64 a4)) 10 (.pointer (some ⟨b1, 0, none⟩))) := ⟨f, by rw [upd_self hf0, upd_self hf1, upd_self hf2, upd_self hf3, upd_self hf4, upd_self hf10]⟩
    refine W.seq ?_
    refine W.seq ?_
    refine W.region ?_
    refine O.move (v := (.int .i64 a1)) rfl rfl rfl ?_
    refine O.move (v := (.int .i64 a3)) rfl rfl rfl ?_
    refine O.buildSlice (α := Int) [(.int .i64 a1), (.int .i64 a3)] [a1, a3] Try.underlying22 el3 H rfl rfl rfl rfl rfl rfl rfl ?_
    intro v2 w4 H hb3
    refine O.lenS Try.underlying22 (H.own 1 rfl) rfl rfl rfl ?_
    refine O.move (v := (.int .i64 0)) rfl rfl rfl ?_
    refine WL.nil ?_
    obtain ⟨o2, hm3, hm⟩ := bind_some hm
    refine W.via (fun f w => o2 = .next () ∧ f 0 = (.int .i64 a0) ∧ f 1 = (.int .i64 a1) ∧ f 2 = (.int .i64 a2) ∧ f 3 = (.int .i64 a3) ∧ f 4 = (.int .i64 a4) ∧ f 10 = (.pointer (some ⟨b1, 0, none⟩)) ∧ Inv w0 w [boxI b1 48 [(.int .i64 0), (.int .i64 0)]]) ?_ ?_
    · skip
      refine W.block ?_
      refine W.rangeL (i := 0) hm3 (fun rem ik2 s f w => () = s ∧ ([a1, a3] : List Int).drop ik2 = rem ∧ f 37 = .int .i64 (ik2 : Int) ∧ f 36 = (.int .i64 ((([a1, a3] : List Int).length : Nat) : Int)) ∧ f 0 = (.int .i64 a0) ∧ f 1 = (.int .i64 a1) ∧ f 2 = (.int .i64 a2) ∧ f 3 = (.int .i64 a3) ∧ f 4 = (.int .i64 a4) ∧ f 10 = (.pointer (some ⟨b1, 0, none⟩)) ∧ f 35 = v2 ∧ Inv w0 w [boxI b1 48 [(.int .i64 0), (.int .i64 0)], ownI (α := Int) v2 3 ([a1, a3] : List Int)]) ?_ ?_ ?_
      · skip
        exact ⟨rfl, List.drop_zero, rfl, rfl, rfl, rfl, rfl, rfl, rfl, rfl, rfl, H⟩
      · skip
        rintro yk2 xs ik2 _ st f w ⟨rfl, hdropk2, hf37, hf36, hf0, hf1, hf2, hf3, hf4, hf10, hf35, H⟩ hm4
        have hltk2 := drop_lt hdropk2; have hixk2 := drop_idx hdropk2
        obtain ⟨u5, rfl⟩ : ∃ u5, f = (upd (upd (upd (upd (upd (upd (upd (upd (upd u5 37 (.int .i64 (ik2 : Int))) 36 (.int .i64 ((([a1, a3] : List Int).length : Nat) : Int))) 0 (.int .i64 a0)) 1 (.int .i64 a1)) 2 (.int .i64 a2)) 3 (.int .i64 a3)) 4 (.int .i64 a4)) 10 (.pointer (some ⟨b1, 0, none⟩))) 35 v2) := ⟨f, by rw [upd_self hf37, upd_self hf36, upd_self hf0, upd_self hf1, upd_self hf2, upd_self hf3, upd_self hf4, upd_self hf10, upd_self hf35]⟩
        have hinck2 := addI_lt hltk2 (H.own 1 rfl).len_le
        refine W.seq ?_
        refine W.region ?_
        refine O.lss rfl rfl rfl rfl ?_
        refine WL.nil ?_
        refine W.seq ?_
        refine W.cond_true (congrArg Value.bool (decide_eq_true hltk2)) ?_
        refine W.skip ?_
        refine W.seq ?_
        refine W.block ?_
        refine W.seq ?_
        refine W.region ?_
        refine O.indexAddr Try.underlying22 sz3 (H.own 1 rfl) hixk2 rfl rfl rfl rfl ?_
        intro p2 hp2
        refine O.load sc3 rfl rfl rfl (hp2.flat 0 _ rfl) ?_
        refine O.assign (v := (.int .i64 yk2)) rfl rfl rfl ?_
        refine WL.nil ?_
        refine W.seq ?_
        refine W.region ?_
        refine O.move (v := (.int .i64 yk2)) rfl rfl rfl ?_
        refine O.lss rfl rfl rfl rfl ?_
        refine O.move (v := (.bool (decide (yk2 < (-100000))))) rfl rfl rfl ?_
        refine WL.cut 3 (fun f w => f 0 = (.int .i64 a0) ∧ f 1 = (.int .i64 a1) ∧ f 2 = (.int .i64 a2) ∧ f 3 = (.int .i64 a3) ∧ f 4 = (.int .i64 a4) ∧ f 10 = (.pointer (some ⟨b1, 0, none⟩)) ∧ f 35 = v2 ∧ f 36 = (.int .i64 ((([a1, a3] : List Int).length : Nat) : Int)) ∧ f 37 = (.int .i64 (ik2 : Int)) ∧ f 46 = .bool ((decide (yk2 < (-100000))) || (decide (100000 < yk2))) ∧ Inv w0 w [boxI b1 48 [(.int .i64 0), (.int .i64 0)], ownI (α := Int) v2 3 ([a1, a3] : List Int)]) ?_ ?_
        · skip
          rcases bool_ft (decide (yk2 < (-100000))) with hc3 | hc3
          · skip
            refine WL.reset (i := 43) (v := .bool false) (congrArg Value.bool hc3) ?_
            refine O.move (v := (.int .i64 yk2)) rfl rfl rfl ?_
            refine O.gtr rfl rfl rfl rfl ?_
            refine O.pick_false (v := (.bool (decide (100000 < yk2)))) rfl rfl rfl rfl ?_
            refine WL.nil ?_
            exact ⟨rfl, rfl, rfl, rfl, rfl, rfl, rfl, rfl, rfl, congrArg Value.bool (or_f hc3), H⟩
          · skip
            refine WL.reset (i := 43) (v := .bool true) (congrArg Value.bool hc3) ?_
            refine O.skip rfl rfl ?_
            refine O.skip rfl rfl ?_
            refine O.pick_true (v := (.bool true)) rfl rfl rfl rfl ?_
            refine WL.nil ?_
            exact ⟨rfl, rfl, rfl, rfl, rfl, rfl, rfl, rfl, rfl, congrArg Value.bool (or_t hc3), H⟩
        · skip
          rintro f w ⟨hf0, hf1, hf2, hf3, hf4, hf10, hf35, hf36, hf37, hf46, H⟩
          obtain ⟨u6, rfl⟩ : ∃ u6, f = (upd (upd (upd (upd (upd (upd (upd (upd (upd (upd u6 0 (.int .i64 a0)) 1 (.int .i64 a1)) 2 (.int .i64 a2)) 3 (.int .i64 a3)) 4 (.int .i64 a4)) 10 (.pointer (some ⟨b1, 0, none⟩))) 35 v2) 36 (.int .i64 ((([a1, a3] : List Int).length : Nat) : Int))) 37 (.int .i64 (ik2 : Int))) 46 (.bool ((decide (yk2 < (-100000))) || (decide (100000 < yk2))))) := ⟨f, by rw [upd_self hf0, upd_self hf1, upd_self hf2, upd_self hf3, upd_self hf4, upd_self hf10, upd_self hf35, upd_self hf36, upd_self hf37, upd_self hf46]⟩
          refine WL.nil ?_
          rcases ite_some hm4 with ⟨hc4, hm4⟩ | ⟨hc4, hm4⟩
          · refine W.cond_true (congrArg Value.bool hc4) ?_
            refine W.seq ?_
            refine W.region ?_
            refine O.build (v := (.agg (Flat.cells (GRatio.mk 0 0)).toArray)) (fun w => bd48_  w) rfl rfl rfl ?_
            refine O.store 0 0 [(.int .i64 0), (.int .i64 0)] [(.int .i64 0), (.int .i64 0)] sz48 H rfl rfl rfl rfl rfl rfl ⟨⟨rfl, rfl⟩, rfl⟩ (one_cons rfl (one_cons rfl one_nil)) ?_
            intro w5 H
            refine O.assign (v := (.int .i64 7)) rfl rfl rfl ?_
            refine WL.nil ?_
            refine W.ret ?_
            obtain rfl := Option.some.inj hm4
            refine ⟨_, rfl, ?_⟩
            rintro rfl
            have hq : ((GRatio.mk 0 0), 7) = (r0, r1) := Option.some.inj (show some ((GRatio.mk 0 0), 7) = some (r0, r1) from hm)
            obtain ⟨he0, hq0⟩ := Prod.mk.inj hq; clear hq; subst he0
            subst hq0
            exact ends2 Try.results28 ⟨_, rfl, run_loadVar_agg ag48 rfl (H.cell 0 rfl)⟩ rfl ⟨_, rfl, H.base, rfl⟩
          · refine W.cond_false (congrArg Value.bool hc4) ?_
            refine W.skip ?_
            refine W.region ?_
            refine O.add rfl rfl rfl rfl hinck2 ?_
            refine O.move (v := .int .i64 ((ik2 : Int) + 1)) rfl rfl rfl ?_
            refine WL.nil ?_
            obtain rfl := Option.some.inj hm4
            exact ⟨_, rfl, rfl, drop_next hdropk2, rfl, rfl, rfl, rfl, rfl, rfl, rfl, rfl, rfl, H⟩
      · skip
        rintro ik2 _ f w ⟨rfl, hdropk2, hf37, hf36, hf0, hf1, hf2, hf3, hf4, hf10, hf35, H⟩ hfin
        have hltk2 := drop_end hdropk2
        obtain ⟨u7, rfl⟩ : ∃ u7, f = (upd (upd (upd (upd (upd (upd (upd (upd (upd u7 37 (.int .i64 (ik2 : Int))) 36 (.int .i64 ((([a1, a3] : List Int).length : Nat) : Int))) 0 (.int .i64 a0)) 1 (.int .i64 a1)) 2 (.int .i64 a2)) 3 (.int .i64 a3)) 4 (.int .i64 a4)) 10 (.pointer (some ⟨b1, 0, none⟩))) 35 v2) := ⟨f, by rw [upd_self hf37, upd_self hf36, upd_self hf0, upd_self hf1, upd_self hf2, upd_self hf3, upd_self hf4, upd_self hf10, upd_self hf35]⟩
        refine W.seq ?_
        refine W.region ?_
        refine O.lss rfl rfl rfl rfl ?_
        refine WL.nil ?_
        refine W.seq ?_
        refine W.cond_false (congrArg Value.bool (decide_eq_false hltk2)) ?_
        refine W.exit ?_
        obtain rfl : Ctl.next () = o2 := hfin
        have H := H.keep [0] [boxI b1 48 [(.int .i64 0), (.int .i64 0)]] rfl (by decide)
        refine xT rfl ?_
        exact ⟨rfl, rfl, rfl, rfl, rfl, rfl, rfl, H⟩
    · skip
      rintro f w ⟨rfl, hf0, hf1, hf2, hf3, hf4, hf10, H⟩
      obtain ⟨u8, rfl⟩ : ∃ u8, f = (upd (upd (upd (upd (upd (upd u8 0 (.int .i64 a0)) 1 (.int .i64 a1)) 2 (.int .i64 a2)) 3 (.int .i64 a3)) 4 (.int .i64 a4)) 10 (.pointer (some ⟨b1, 0, none⟩))) := ⟨f, by rw [upd_self hf0, upd_self hf1, upd_self hf2, upd_self hf3, upd_self hf4, upd_self hf10]⟩
      refine W.seq ?_
      refine W.seq ?_
      refine W.region ?_
      refine O.move (v := (.int .i64 a0)) rfl rfl rfl ?_
      refine O.move (v := (.int .i64 a2)) rfl rfl rfl ?_
      refine O.eql rfl rfl rfl rfl ?_
      refine WL.nil ?_
      rcases ite_some hm with ⟨hc5, hm⟩ | ⟨hc5, hm⟩
      · refine W.cond_true (congrArg Value.bool hc5) ?_
        refine W.seq ?_
        refine W.region ?_
        refine O.build (v := (.agg (Flat.cells (GRatio.mk 0 0)).toArray)) (fun w => bd48_  w) rfl rfl rfl ?_
        refine O.store 0 0 [(.int .i64 0), (.int .i64 0)] [(.int .i64 0), (.int .i64 0)] sz48 H rfl rfl rfl rfl rfl rfl ⟨⟨rfl, rfl⟩, rfl⟩ (one_cons rfl (one_cons rfl one_nil)) ?_
        intro w6 H
        refine O.assign (v := (.int .i64 7)) rfl rfl rfl ?_
        refine WL.nil ?_
        refine W.ret ?_
        have hq : ((GRatio.mk 0 0), 7) = (r0, r1) := Option.some.inj (show some ((GRatio.mk 0 0), 7) = some (r0, r1) from hm)
        obtain ⟨he0, hq0⟩ := Prod.mk.inj hq; clear hq; subst he0
        subst hq0
        exact ends2 Try.results28 ⟨_, rfl, run_loadVar_agg ag48 rfl (H.cell 0 rfl)⟩ rfl ⟨_, rfl, H.base, rfl⟩
      · refine W.cond_false (congrArg Value.bool hc5) ?_
        refine W.skip ?_
        refine W.seq ?_
        refine W.region ?_
        refine O.move (v := (.int .i64 a1)) rfl rfl rfl ?_
        refine O.move (v := (.int .i64 a2)) rfl rfl rfl ?_
        refine O.move (v := (.int .i64 a0)) rfl rfl rfl ?_
        obtain ⟨t1, ht1, hm⟩ := bind_some hm
        refine O.sub rfl rfl rfl rfl ht1 ?_
        obtain ⟨t2, ht2, hm⟩ := bind_some hm
        refine O.mul rfl rfl rfl rfl ht2 ?_
        refine O.move (v := (.int .i64 a3)) rfl rfl rfl ?_
        refine O.move (v := (.int .i64 a1)) rfl rfl rfl ?_
        obtain ⟨t3, ht3, hm⟩ := bind_some hm
        refine O.sub rfl rfl rfl rfl ht3 ?_
        refine O.move (v := (.int .i64 a4)) rfl rfl rfl ?_
        refine O.move (v := (.int .i64 a0)) rfl rfl rfl ?_
        obtain ⟨t4, ht4, hm⟩ := bind_some hm
        refine O.sub rfl rfl rfl rfl ht4 ?_
        obtain ⟨t5, ht5, hm⟩ := bind_some hm
        refine O.mul rfl rfl rfl rfl ht5 ?_
        obtain ⟨t6, ht6, hm⟩ := bind_some hm
        refine O.add rfl rfl rfl rfl ht6 ?_
        refine O.move (v := (.int .i64 a2)) rfl rfl rfl ?_
        refine O.move (v := (.int .i64 a0)) rfl rfl rfl ?_
        obtain ⟨t7, ht7, hm⟩ := bind_some hm
        refine O.sub rfl rfl rfl rfl ht7 ?_
        obtain ⟨⟨t8, t9⟩, hy1, hm⟩ := bind_some hm
        refine O.call Try.call68 rfl rfl rfl (c_noongunref06_Ratio _ _ hy1) ?_
        rintro _ w7 hb4 rfl
        have H := H.ext hb4
        refine O.extract (v := (.agg (Flat.cells t8).toArray)) rfl rfl rfl rfl ?_
        refine O.extract (v := (.int .i64 t9)) rfl rfl rfl rfl ?_
        refine O.store 0 0 [(.int .i64 t8.N), (.int .i64 t8.D)] [(.int .i64 t8.N), (.int .i64 t8.D)] sz48 H rfl rfl rfl rfl rfl rfl ⟨⟨rfl, rfl⟩, rfl⟩ (one_cons rfl (one_cons rfl one_nil)) ?_
        intro w8 H
        refine O.assign (v := (.int .i64 t9)) rfl rfl rfl ?_
        refine WL.nil ?_
        refine W.ret ?_
        have hq : (t8, t9) = (r0, r1) := Option.some.inj (show some (t8, t9) = some (r0, r1) from hm)
        obtain ⟨he0, hq0⟩ := Prod.mk.inj hq; clear hq; subst he0
        subst hq0
        exact ends2 Try.results28 ⟨_, rfl, run_loadVar_agg ag48 rfl (H.cell 0 rfl)⟩ rfl ⟨_, rfl, H.base, rfl⟩

set_option maxRecDepth 20000 in
theorem c_noongunlaw06_RateWarm {w0 : World} (a0 : Int) (a1 : Int) (a2 : Int) (a3 : Int) (a4 : Int) {r0 : Bool} (hm : noongunlaw06_RateWarm a0 a1 a2 a3 a4 = some r0) :
    Calls Try.prog 7 #[(.int .i64 a0), (.int .i64 a1), (.int .i64 a2), (.int .i64 a3), (.int .i64 a4)] w0 (Ret w0 fun _ v => v = (.bool r0)) := by
  unfold noongunlaw06_RateWarm at hm
  refine calls_of_W Try.func7 rfl Try.ntmps7 (Nat.le_of_ble_eq_true rfl) ?_
  have H := Inv.start (w := w0)
  refine W.seq ?_
  refine W.region ?_
  refine O.assign (v := (.bool false)) rfl rfl rfl ?_
  refine WL.nil ?_
  refine W.seq ?_
  refine W.region ?_
  refine O.move (v := (.int .i64 a0)) rfl rfl rfl ?_
  refine O.move (v := (.int .i64 a1)) rfl rfl rfl ?_
  refine O.move (v := (.int .i64 a2)) rfl rfl rfl ?_
  refine O.move (v := (.int .i64 a3)) rfl rfl rfl ?_
  refine O.move (v := (.int .i64 a4)) rfl rfl rfl ?_
  obtain ⟨⟨t1, t2⟩, hy1, hm⟩ := bind_some hm
  refine O.call Try.call27 rfl rfl rfl (c_rate_Warm _ _ _ _ _ hy1) ?_
  rintro _ w1 hb1 rfl
  have H := H.ext hb1
  refine O.move (v := (.tuple #[(.agg (Flat.cells t1).toArray), (.int .i64 t2)])) rfl rfl rfl ?_
  refine O.extract (v := (.agg (Flat.cells t1).toArray)) rfl rfl rfl rfl ?_
  refine O.extract (v := (.int .i64 t2)) rfl rfl rfl rfl ?_
  refine O.alloc [(.int .i64 0), (.int .i64 0)] ze48 H rfl rfl rfl ?_
  intro b1 w2 H hb2
  refine O.store 0 0 [(.int .i64 t1.N), (.int .i64 t1.D)] [(.int .i64 t1.N), (.int .i64 t1.D)] sz48 H rfl rfl rfl rfl rfl rfl ⟨⟨rfl, rfl⟩, rfl⟩ (one_cons rfl (one_cons rfl one_nil)) ?_
  intro w3 H
  refine O.assign (v := (.int .i64 t2)) rfl rfl rfl ?_
  refine WL.nil ?_
  refine W.seq ?_
  refine W.region ?_
  refine O.move (v := (.int .i64 a0)) rfl rfl rfl ?_
  refine O.move (v := (.int .i64 a1)) rfl rfl rfl ?_
  refine O.move (v := (.int .i64 a2)) rfl rfl rfl ?_
  refine O.move (v := (.int .i64 a3)) rfl rfl rfl ?_
  refine O.move (v := (.int .i64 a4)) rfl rfl rfl ?_
  obtain ⟨⟨t3, t4⟩, hy2, hm⟩ := bind_some hm
  refine O.call Try.call28 rfl rfl rfl (c_noongunref06_Warm _ _ _ _ _ hy2) ?_
  rintro _ w4 hb3 rfl
  have H := H.ext hb3
  refine O.move (v := (.tuple #[(.agg (Flat.cells t3).toArray), (.int .i64 t4)])) rfl rfl rfl ?_
  refine O.extract (v := (.agg (Flat.cells t3).toArray)) rfl rfl rfl rfl ?_
  refine O.extract (v := (.int .i64 t4)) rfl rfl rfl rfl ?_
  refine O.alloc [(.int .i64 0), (.int .i64 0)] ze48 H rfl rfl rfl ?_
  intro b2 w5 H hb4
  refine O.store 1 0 [(.int .i64 t3.N), (.int .i64 t3.D)] [(.int .i64 t3.N), (.int .i64 t3.D)] sz48 H rfl rfl rfl rfl rfl rfl ⟨⟨rfl, rfl⟩, rfl⟩ (one_cons rfl (one_cons rfl one_nil)) ?_
  intro w6 H
  refine O.assign (v := (.int .i64 t4)) rfl rfl rfl ?_
  refine WL.nil ?_
  refine W.seq ?_
  refine W.region ?_
  refine O.move (v := (.int .i64 a0)) rfl rfl rfl ?_
  refine O.move (v := (.int .i64 a1)) rfl rfl rfl ?_
  refine O.move (v := (.int .i64 a2)) rfl rfl rfl ?_
  refine O.move (v := (.int .i64 a3)) rfl rfl rfl ?_
  refine O.move (v := (.int .i64 a0)) rfl rfl rfl ?_
  obtain ⟨⟨t5, t6⟩, hy3, hm⟩ := bind_some hm
  refine O.call Try.call27 rfl rfl rfl (c_rate_Warm _ _ _ _ _ hy3) ?_
  rintro _ w7 hb5 rfl
  have H := H.ext hb5
  refine O.move (v := (.tuple #[(.agg (Flat.cells t5).toArray), (.int .i64 t6)])) rfl rfl rfl ?_
  refine O.extract (v := (.agg (Flat.cells t5).toArray)) rfl rfl rfl rfl ?_
  refine O.extract (v := (.int .i64 t6)) rfl rfl rfl rfl ?_
  refine O.alloc [(.int .i64 0), (.int .i64 0)] ze48 H rfl rfl rfl ?_
  intro b3 w8 H hb6
  refine O.store 2 0 [(.int .i64 t5.N), (.int .i64 t5.D)] [(.int .i64 t5.N), (.int .i64 t5.D)] sz48 H rfl rfl rfl rfl rfl rfl ⟨⟨rfl, rfl⟩, rfl⟩ (one_cons rfl (one_cons rfl one_nil)) ?_
  intro w9 H
  refine O.assign (v := (.int .i64 t6)) rfl rfl rfl ?_
  refine WL.nil ?_
  refine W.seq ?_
  refine W.region ?_
  refine O.move (v := (.int .i64 a0)) rfl rfl rfl ?_
  refine O.move (v := (.int .i64 a1)) rfl rfl rfl ?_
  refine O.move (v := (.int .i64 a2)) rfl rfl rfl ?_
  refine O.move (v := (.int .i64 a3)) rfl rfl rfl ?_
  refine O.move (v := (.int .i64 a2)) rfl rfl rfl ?_
  obtain ⟨⟨t7, t8⟩, hy4, hm⟩ := bind_some hm
  refine O.call Try.call27 rfl rfl rfl (c_rate_Warm _ _ _ _ _ hy4) ?_
  rintro _ w10 hb7 rfl
  have H := H.ext hb7
  refine O.move (v := (.tuple #[(.agg (Flat.cells t7).toArray), (.int .i64 t8)])) rfl rfl rfl ?_
  refine O.extract (v := (.agg (Flat.cells t7).toArray)) rfl rfl rfl rfl ?_
  refine O.extract (v := (.int .i64 t8)) rfl rfl rfl rfl ?_
  refine O.alloc [(.int .i64 0), (.int .i64 0)] ze48 H rfl rfl rfl ?_
  intro b4 w11 H hb8
  refine O.store 3 0 [(.int .i64 t7.N), (.int .i64 t7.D)] [(.int .i64 t7.N), (.int .i64 t7.D)] sz48 H rfl rfl rfl rfl rfl rfl ⟨⟨rfl, rfl⟩, rfl⟩ (one_cons rfl (one_cons rfl one_nil)) ?_
  intro w12 H
  refine O.assign (v := (.int .i64 t8)) rfl rfl rfl ?_
  refine WL.nil ?_
  refine W.seq ?_
  refine W.seq ?_
  refine W.region ?_
  refine O.loadA [(.int .i64 t1.N), (.int .i64 t1.D)] ag48 rfl rfl rfl rfl (H.cell 0 rfl) ?_
  refine O.loadA [(.int .i64 t3.N), (.int .i64 t3.D)] ag48 rfl rfl rfl rfl (H.cell 1 rfl) ?_
  refine O.neqSt t1 t3 eq48 rfl rfl rfl rfl ?_
  refine O.move (v := (.bool (!(t1 == t3)))) rfl rfl rfl ?_
  refine WL.cut 4 (fun f w => f 1 = (.int .i64 a1) ∧ f 3 = (.int .i64 a3) ∧ f 12 = (.int .i64 t2) ∧ f 15 = (.pointer (some ⟨b3, 0, none⟩)) ∧ f 16 = (.int .i64 t6) ∧ f 17 = (.pointer (some ⟨b4, 0, none⟩)) ∧ f 18 = (.int .i64 t8) ∧ f 62 = .bool ((!(t1 == t3)) || (t2 != t4)) ∧ Inv w0 w [boxI b1 48 [(.int .i64 t1.N), (.int .i64 t1.D)], boxI b2 48 [(.int .i64 t3.N), (.int .i64 t3.D)], boxI b3 48 [(.int .i64 t5.N), (.int .i64 t5.D)], boxI b4 48 [(.int .i64 t7.N), (.int .i64 t7.D)]]) ?_ ?_
  · skip
    rcases bool_ft (!(t1 == t3)) with hc1 | hc1
    · skip
      refine WL.reset (i := 58) (v := .bool false) (congrArg Value.bool hc1) ?_
      refine O.move (v := (.int .i64 t2)) rfl rfl rfl ?_
      refine O.move (v := (.int .i64 t4)) rfl rfl rfl ?_
      refine O.neq rfl rfl rfl rfl ?_
      refine O.pick_false (v := (.bool (t2 != t4))) rfl rfl rfl rfl ?_
      refine WL.nil ?_
      exact ⟨rfl, rfl, rfl, rfl, rfl, rfl, rfl, congrArg Value.bool (or_f hc1), H⟩
    · skip
      refine WL.reset (i := 58) (v := .bool true) (congrArg Value.bool hc1) ?_
      refine O.skip rfl rfl ?_
      refine O.skip rfl rfl ?_
      refine O.skip rfl rfl ?_
      refine O.pick_true (v := (.bool true)) rfl rfl rfl rfl ?_
      refine WL.nil ?_
      exact ⟨rfl, rfl, rfl, rfl, rfl, rfl, rfl, congrArg Value.bool (or_t hc1), H⟩
  · skip
    rintro f w ⟨hf1, hf3, hf12, hf15, hf16, hf17, hf18, hf62, H⟩
    obtain ⟨u1, rfl⟩ : ∃ u1, f = (upd (upd (upd (upd (upd (upd (upd (upd u1 1 (.int .i64 a1)) 3 (.int .i64 a3)) 12 (.int .i64 t2)) 15 (.pointer (some ⟨b3, 0, none⟩))) 16 (.int .i64 t6)) 17 (.pointer (some ⟨b4, 0, none⟩))) 18 (.int .i64 t8)) 62 (.bool ((!(t1 == t3)) || (t2 != t4)))) := ⟨f, by rw [upd_self hf1, upd_self hf3, upd_self hf12, upd_self hf15, upd_self hf16, upd_self hf17, upd_self hf18, upd_self hf62]⟩
    refine WL.nil ?_
    rcases ite_some hm with ⟨hc2, hm⟩ | ⟨hc2, hm⟩
    · refine W.cond_true (congrArg Value.bool hc2) ?_
      refine W.seq ?_
      refine W.region ?_
      refine O.assign (v := (.bool false)) rfl rfl rfl ?_
      refine WL.nil ?_
      refine W.ret ?_
      have hq : false = r0 := Option.some.inj (show some false = some r0 from hm)
      subst hq
      exact ends1 Try.results7 rfl ⟨_, rfl, H.base, rfl⟩
    · refine W.cond_false (congrArg Value.bool hc2) ?_
      refine W.skip ?_
      refine W.seq ?_
      refine W.seq ?_
      refine W.region ?_
      refine O.move (v := (.int .i64 t6)) rfl rfl rfl ?_
      refine O.neq rfl rfl rfl rfl ?_
      refine O.move (v := (.bool (t6 != 0))) rfl rfl rfl ?_
      refine WL.cut 3 (fun f w => f 1 = (.int .i64 a1) ∧ f 3 = (.int .i64 a3) ∧ f 12 = (.int .i64 t2) ∧ f 15 = (.pointer (some ⟨b3, 0, none⟩)) ∧ f 17 = (.pointer (some ⟨b4, 0, none⟩)) ∧ f 68 = .bool ((t6 != 0) || (t8 != 0)) ∧ Inv w0 w [boxI b1 48 [(.int .i64 t1.N), (.int .i64 t1.D)], boxI b2 48 [(.int .i64 t3.N), (.int .i64 t3.D)], boxI b3 48 [(.int .i64 t5.N), (.int .i64 t5.D)], boxI b4 48 [(.int .i64 t7.N), (.int .i64 t7.D)]]) ?_ ?_
      · skip
        rcases bool_ft (t6 != 0) with hc3 | hc3
        · skip
          refine WL.reset (i := 65) (v := .bool false) (congrArg Value.bool hc3) ?_
          refine O.move (v := (.int .i64 t8)) rfl rfl rfl ?_
          refine O.neq rfl rfl rfl rfl ?_
          refine O.pick_false (v := (.bool (t8 != 0))) rfl rfl rfl rfl ?_
          refine WL.nil ?_
          exact ⟨rfl, rfl, rfl, rfl, rfl, congrArg Value.bool (or_f hc3), H⟩
        · skip
          refine WL.reset (i := 65) (v := .bool true) (congrArg Value.bool hc3) ?_
          refine O.skip rfl rfl ?_
          refine O.skip rfl rfl ?_
          refine O.pick_true (v := (.bool true)) rfl rfl rfl rfl ?_
          refine WL.nil ?_
          exact ⟨rfl, rfl, rfl, rfl, rfl, congrArg Value.bool (or_t hc3), H⟩
      · skip
        rintro f w ⟨hf1, hf3, hf12, hf15, hf17, hf68, H⟩
        obtain ⟨u2, rfl⟩ : ∃ u2, f = (upd (upd (upd (upd (upd (upd u2 1 (.int .i64 a1)) 3 (.int .i64 a3)) 12 (.int .i64 t2)) 15 (.pointer (some ⟨b3, 0, none⟩))) 17 (.pointer (some ⟨b4, 0, none⟩))) 68 (.bool ((t6 != 0) || (t8 != 0)))) := ⟨f, by rw [upd_self hf1, upd_self hf3, upd_self hf12, upd_self hf15, upd_self hf17, upd_self hf68]⟩
        refine WL.nil ?_
        rcases ite_some hm with ⟨hc4, hm⟩ | ⟨hc4, hm⟩
        · refine W.cond_true (congrArg Value.bool hc4) ?_
          refine W.seq ?_
          refine W.region ?_
          refine O.move (v := (.int .i64 t2)) rfl rfl rfl ?_
          refine O.neq rfl rfl rfl rfl ?_
          refine O.move (v := (.bool (t2 != 0))) rfl rfl rfl ?_
          obtain ⟨b5, hm1, hm⟩ := bind_some hm
          refine WL.cut 2 (fun f w => f 73 = .bool b5 ∧ Inv w0 w [boxI b1 48 [(.int .i64 t1.N), (.int .i64 t1.D)], boxI b2 48 [(.int .i64 t3.N), (.int .i64 t3.D)], boxI b3 48 [(.int .i64 t5.N), (.int .i64 t5.D)], boxI b4 48 [(.int .i64 t7.N), (.int .i64 t7.D)]]) ?_ ?_
          · skip
            rcases ite_some hm1 with ⟨hc5, hm1⟩ | ⟨hc5, hm1⟩
            · skip
              refine WL.reset (i := 71) (v := .bool true) (congrArg Value.bool hc5) ?_
              obtain ⟨t9, hy5, hm1⟩ := bind_some hm1
              refine O.call Try.call14 rfl rfl rfl (c_noongunlaw06_awake  hy5) ?_
              rintro _ w13 hb9 rfl
              have H := H.ext hb9
              refine O.pick_true (v := (.bool t9)) rfl rfl rfl rfl ?_
              refine WL.nil ?_
              have hq : t9 = b5 := Option.some.inj (show some t9 = some b5 from hm1)
              subst hq
              exact ⟨rfl, H⟩
            · skip
              refine WL.reset (i := 71) (v := .bool false) (congrArg Value.bool hc5) ?_
              refine O.skip rfl rfl ?_
              refine O.pick_false (v := (.bool false)) rfl rfl rfl rfl ?_
              refine WL.nil ?_
              have hq : false = b5 := Option.some.inj (show some false = some b5 from hm1)
              subst hq
              exact ⟨rfl, H⟩
          · skip
            rintro f w ⟨hf73, H⟩
            obtain ⟨u3, rfl⟩ : ∃ u3, f = (upd u3 73 (.bool b5)) := ⟨f, by rw [upd_self hf73]⟩
            refine O.assign (v := (.bool b5)) rfl rfl rfl ?_
            refine WL.nil ?_
            refine W.ret ?_
            have hq : b5 = r0 := Option.some.inj (show some b5 = some r0 from hm)
            subst hq
            exact ends1 Try.results7 rfl ⟨_, rfl, H.base, rfl⟩
        · refine W.cond_false (congrArg Value.bool hc4) ?_
          refine W.skip ?_
          refine W.seq ?_
          refine W.region ?_
          refine O.loadA [(.int .i64 t5.N), (.int .i64 t5.D)] ag48 rfl rfl rfl rfl (H.cell 2 rfl) ?_
          refine O.move (v := (.int .i64 a1)) rfl rfl rfl ?_
          refine O.build (v := (.agg (Flat.cells (GRatio.mk a1 1)).toArray)) (fun w => bd48_0_1 _ _ w) rfl rfl rfl ?_
          refine O.eqlSt t5 (GRatio.mk a1 1) eq48 rfl rfl rfl rfl ?_
          refine O.move (v := (.bool (t5 == (GRatio.mk a1 1)))) rfl rfl rfl ?_
          refine WL.cut 5 (fun f w => f 83 = .bool ((t5 == (GRatio.mk a1 1)) && (t7 == (GRatio.mk a3 1))) ∧ Inv w0 w [boxI b1 48 [(.int .i64 t1.N), (.int .i64 t1.D)], boxI b2 48 [(.int .i64 t3.N), (.int .i64 t3.D)], boxI b3 48 [(.int .i64 t5.N), (.int .i64 t5.D)], boxI b4 48 [(.int .i64 t7.N), (.int .i64 t7.D)]]) ?_ ?_
          · skip
            rcases bool_ft (t5 == (GRatio.mk a1 1)) with hc6 | hc6
            · skip
              refine WL.reset (i := 78) (v := .bool false) (congrArg Value.bool hc6) ?_
              refine O.skip rfl rfl ?_
              refine O.skip rfl rfl ?_
              refine O.skip rfl rfl ?_
              refine O.skip rfl rfl ?_
              refine O.pick_false (v := (.bool false)) rfl rfl rfl rfl ?_
              refine WL.nil ?_
              exact ⟨congrArg Value.bool (and_f hc6), H⟩
            · skip
              refine WL.reset (i := 78) (v := .bool true) (congrArg Value.bool hc6) ?_
              refine O.loadA [(.int .i64 t7.N), (.int .i64 t7.D)] ag48 rfl rfl rfl rfl (H.cell 3 rfl) ?_
              refine O.move (v := (.int .i64 a3)) rfl rfl rfl ?_
              refine O.build (v := (.agg (Flat.cells (GRatio.mk a3 1)).toArray)) (fun w => bd48_0_1 _ _ w) rfl rfl rfl ?_
              refine O.eqlSt t7 (GRatio.mk a3 1) eq48 rfl rfl rfl rfl ?_
              refine O.pick_true (v := (.bool (t7 == (GRatio.mk a3 1)))) rfl rfl rfl rfl ?_
              refine WL.nil ?_
              exact ⟨congrArg Value.bool (and_t hc6), H⟩
          · skip
            rintro f w ⟨hf83, H⟩
            obtain ⟨u4, rfl⟩ : ∃ u4, f = (upd u4 83 (.bool ((t5 == (GRatio.mk a1 1)) && (t7 == (GRatio.mk a3 1))))) := ⟨f, by rw [upd_self hf83]⟩
            refine O.move (v := (.bool ((t5 == (GRatio.mk a1 1)) && (t7 == (GRatio.mk a3 1))))) rfl rfl rfl ?_
            obtain ⟨b6, hm2, hm⟩ := bind_some hm
            refine WL.cut 2 (fun f w => f 86 = .bool b6 ∧ Inv w0 w [boxI b1 48 [(.int .i64 t1.N), (.int .i64 t1.D)], boxI b2 48 [(.int .i64 t3.N), (.int .i64 t3.D)], boxI b3 48 [(.int .i64 t5.N), (.int .i64 t5.D)], boxI b4 48 [(.int .i64 t7.N), (.int .i64 t7.D)]]) ?_ ?_
            · skip
              rcases ite_some hm2 with ⟨hc7, hm2⟩ | ⟨hc7, hm2⟩
              · skip
                refine WL.reset (i := 84) (v := .bool true) (congrArg Value.bool hc7) ?_
                obtain ⟨t10, hy6, hm2⟩ := bind_some hm2
                refine O.call Try.call14 rfl rfl rfl (c_noongunlaw06_awake  hy6) ?_
                rintro _ w14 hb10 rfl
                have H := H.ext hb10
                refine O.pick_true (v := (.bool t10)) rfl rfl rfl rfl ?_
                refine WL.nil ?_
                have hq : t10 = b6 := Option.some.inj (show some t10 = some b6 from hm2)
                subst hq
                exact ⟨rfl, H⟩
              · skip
                refine WL.reset (i := 84) (v := .bool false) (congrArg Value.bool hc7) ?_
                refine O.skip rfl rfl ?_
                refine O.pick_false (v := (.bool false)) rfl rfl rfl rfl ?_
                refine WL.nil ?_
                have hq : false = b6 := Option.some.inj (show some false = some b6 from hm2)
                subst hq
                exact ⟨rfl, H⟩
            · skip
              rintro f w ⟨hf86, H⟩
              obtain ⟨u5, rfl⟩ : ∃ u5, f = (upd u5 86 (.bool b6)) := ⟨f, by rw [upd_self hf86]⟩
              refine O.assign (v := (.bool b6)) rfl rfl rfl ?_
              refine WL.nil ?_
              refine W.ret ?_
              have hq : b6 = r0 := Option.some.inj (show some b6 = some r0 from hm)
              subst hq
              exact ends1 Try.results7 rfl ⟨_, rfl, H.base, rfl⟩

set_option maxRecDepth 20000 in
theorem c_noongunref06_Ahead {w0 : World} (va0_0 : Value) (a0 : GBox) (ha0_0 : SliceR w0 va0_0 a0.Errors) (a1 : Int) (a2 : Int) {r0 : GSpan} {r1 : Int} (hm : noongunref06_Ahead a0 a1 a2 = some (r0, r1)) :
    Calls Try.prog 29 #[(.agg #[(.string a0.Name), va0_0]), (.int .i64 a1), (.int .i64 a2)] w0 (Ret w0 fun _ v => v = .tuple #[(.agg (Flat.cells r0).toArray), (.int .i64 r1)]) := by
  unfold noongunref06_Ahead at hm
  refine calls_of_W Try.func29 rfl Try.ntmps29 (Nat.le_of_ble_eq_true rfl) ?_
  have H := Inv.start (w := w0)
  refine W.seq ?_
  refine W.region ?_
  refine O.box [(.string a0.Name), va0_0] H rfl rfl rfl rfl ?_
  intro b1 w1 H hb1
  refine O.alloc [(.int .i64 0), (.int .i64 0)] ze41 H rfl rfl rfl ?_
  intro b2 w2 H hb2
  refine O.assign (v := (.int .i64 0)) rfl rfl rfl ?_
  refine WL.nil ?_
  refine W.seq ?_
  refine W.seq ?_
  refine W.region ?_
  refine O.loadA [(.string a0.Name), va0_0] ag24 rfl rfl rfl rfl (H.cell 0 rfl) ?_
  obtain ⟨t1, hy1, hm⟩ := bind_some hm
  refine O.call Try.call37 rfl rfl rfl (c_noongunref06_ValidBox _ (GBox.mk a0.Name a0.Errors) (H.arg ha0_0) hy1) ?_
  rintro _ w3 hb3 rfl
  have H := H.ext hb3
  refine O.not rfl rfl rfl ?_
  refine WL.nil ?_
  rcases ite_some hm with ⟨hc1, hm⟩ | ⟨hc1, hm⟩
  · refine W.cond_true (congrArg Value.bool hc1) ?_
    refine W.seq ?_
    refine W.region ?_
    refine O.build (v := (.agg (Flat.cells (GSpan.mk 0 0)).toArray)) (fun w => bd41_  w) rfl rfl rfl ?_
    refine O.store 1 0 [(.int .i64 0), (.int .i64 0)] [(.int .i64 0), (.int .i64 0)] sz41 H rfl rfl rfl rfl rfl rfl ⟨⟨rfl, rfl⟩, rfl⟩ (one_cons rfl (one_cons rfl one_nil)) ?_
    intro w4 H
    refine O.assign (v := (.int .i64 1)) rfl rfl rfl ?_
    refine WL.nil ?_
    refine W.ret ?_
    have hq : ((GSpan.mk 0 0), 1) = (r0, r1) := Option.some.inj (show some ((GSpan.mk 0 0), 1) = some (r0, r1) from hm)
    obtain ⟨he0, hq0⟩ := Prod.mk.inj hq; clear hq; subst he0
    subst hq0
    exact ends2 Try.results29 ⟨_, rfl, run_loadVar_agg ag41 rfl (H.cell 1 rfl)⟩ rfl ⟨_, rfl, H.base, rfl⟩
  · refine W.cond_false (congrArg Value.bool hc1) ?_
    refine W.skip ?_
    refine W.seq ?_
    refine W.seq ?_
    refine W.region ?_
    refine O.move (v := (.int .i64 a1)) rfl rfl rfl ?_
    refine O.lss rfl rfl rfl rfl ?_
    refine O.move (v := (.bool (decide (a1 < 1)))) rfl rfl rfl ?_
    refine WL.cut 3 (fun f w => f 1 = (.int .i64 a1) ∧ f 2 = (.int .i64 a2) ∧ f 3 = (.pointer (some ⟨b1, 0, none⟩)) ∧ f 6 = (.pointer (some ⟨b2, 0, none⟩)) ∧ f 20 = .bool ((decide (a1 < 1)) || (decide (a2 < 1))) ∧ Inv w0 w [boxI b1 24 [(.string a0.Name), va0_0], boxI b2 41 [(.int .i64 0), (.int .i64 0)]]) ?_ ?_
    · skip
      rcases bool_ft (decide (a1 < 1)) with hc2 | hc2
      · skip
        refine WL.reset (i := 17) (v := .bool false) (congrArg Value.bool hc2) ?_
        refine O.move (v := (.int .i64 a2)) rfl rfl rfl ?_
        refine O.lss rfl rfl rfl rfl ?_
        refine O.pick_false (v := (.bool (decide (a2 < 1)))) rfl rfl rfl rfl ?_
        refine WL.nil ?_
        exact ⟨rfl, rfl, rfl, rfl, congrArg Value.bool (or_f hc2), H⟩
      · skip
        refine WL.reset (i := 17) (v := .bool true) (congrArg Value.bool hc2) ?_
        refine O.skip rfl rfl ?_
        refine O.skip rfl rfl ?_
        refine O.pick_true (v := (.bool true)) rfl rfl rfl rfl ?_
        refine WL.nil ?_
        exact ⟨rfl, rfl, rfl, rfl, congrArg Value.bool (or_t hc2), H⟩
    · skip
      rintro f w ⟨hf1, hf2, hf3, hf6, hf20, H⟩
      obtain ⟨u1, rfl⟩ : ∃ u1, f = (upd (upd (upd (upd (upd u1 1 (.int .i64 a1)) 2 (.int .i64 a2)) 3 (.pointer (some ⟨b1, 0, none⟩))) 6 (.pointer (some ⟨b2, 0, none⟩))) 20 (.bool ((decide (a1 < 1)) || (decide (a2 < 1))))) := ⟨f, by rw [upd_self hf1, upd_self hf2, upd_self hf3, upd_self hf6, upd_self hf20]⟩
      refine O.move (v := (.bool ((decide (a1 < 1)) || (decide (a2 < 1))))) rfl rfl rfl ?_
      refine WL.cut 3 (fun f w => f 1 = (.int .i64 a1) ∧ f 2 = (.int .i64 a2) ∧ f 3 = (.pointer (some ⟨b1, 0, none⟩)) ∧ f 6 = (.pointer (some ⟨b2, 0, none⟩)) ∧ f 24 = .bool (((decide (a1 < 1)) || (decide (a2 < 1))) || (decide (400 < a2))) ∧ Inv w0 w [boxI b1 24 [(.string a0.Name), va0_0], boxI b2 41 [(.int .i64 0), (.int .i64 0)]]) ?_ ?_
      · skip
        rcases bool_ft ((decide (a1 < 1)) || (decide (a2 < 1))) with hc3 | hc3
        · skip
          refine WL.reset (i := 21) (v := .bool false) (congrArg Value.bool hc3) ?_
          refine O.move (v := (.int .i64 a2)) rfl rfl rfl ?_
          refine O.gtr rfl rfl rfl rfl ?_
          refine O.pick_false (v := (.bool (decide (400 < a2)))) rfl rfl rfl rfl ?_
          refine WL.nil ?_
          exact ⟨rfl, rfl, rfl, rfl, congrArg Value.bool (or_f hc3), H⟩
        · skip
          refine WL.reset (i := 21) (v := .bool true) (congrArg Value.bool hc3) ?_
          refine O.skip rfl rfl ?_
          refine O.skip rfl rfl ?_
          refine O.pick_true (v := (.bool true)) rfl rfl rfl rfl ?_
          refine WL.nil ?_
          exact ⟨rfl, rfl, rfl, rfl, congrArg Value.bool (or_t hc3), H⟩
      · skip
        rintro f w ⟨hf1, hf2, hf3, hf6, hf24, H⟩
        obtain ⟨u2, rfl⟩ : ∃ u2, f = (upd (upd (upd (upd (upd u2 1 (.int .i64 a1)) 2 (.int .i64 a2)) 3 (.pointer (some ⟨b1, 0, none⟩))) 6 (.pointer (some ⟨b2, 0, none⟩))) 24 (.bool (((decide (a1 < 1)) || (decide (a2 < 1))) || (decide (400 < a2))))) := ⟨f, by rw [upd_self hf1, upd_self hf2, upd_self hf3, upd_self hf6, upd_self hf24]⟩
        refine WL.nil ?_
        rcases ite_some hm with ⟨hc4, hm⟩ | ⟨hc4, hm⟩
        · refine W.cond_true (congrArg Value.bool hc4) ?_
          refine W.seq ?_
          refine W.region ?_
          refine O.build (v := (.agg (Flat.cells (GSpan.mk 0 0)).toArray)) (fun w => bd41_  w) rfl rfl rfl ?_
          refine O.store 1 0 [(.int .i64 0), (.int .i64 0)] [(.int .i64 0), (.int .i64 0)] sz41 H rfl rfl rfl rfl rfl rfl ⟨⟨rfl, rfl⟩, rfl⟩ (one_cons rfl (one_cons rfl one_nil)) ?_
          intro w5 H
          refine O.assign (v := (.int .i64 7)) rfl rfl rfl ?_
          refine WL.nil ?_
          refine W.ret ?_
          have hq : ((GSpan.mk 0 0), 7) = (r0, r1) := Option.some.inj (show some ((GSpan.mk 0 0), 7) = some (r0, r1) from hm)
          obtain ⟨he0, hq0⟩ := Prod.mk.inj hq; clear hq; subst he0
          subst hq0
          exact ends2 Try.results29 ⟨_, rfl, run_loadVar_agg ag41 rfl (H.cell 1 rfl)⟩ rfl ⟨_, rfl, H.base, rfl⟩
        · refine W.cond_false (congrArg Value.bool hc4) ?_
          refine W.skip ?_
          refine W.seq ?_
          refine W.region ?_
          refine O.loadA [(.string a0.Name), va0_0] ag24 rfl rfl rfl rfl (H.cell 0 rfl) ?_
          obtain ⟨t2, hy2, hm⟩ := bind_some hm
          refine O.call Try.call66 rfl rfl rfl (c_noongunref06_rates _ (GBox.mk a0.Name a0.Errors) (H.arg ha0_0) _ hy2) ?_
          rintro v1 w6 hb4 ho1
          have H := H.addOwn hb4 ho1
          refine O.assign (v := v1) rfl rfl rfl ?_
          refine WL.nil ?_
          refine W.seq ?_
          refine W.seq ?_
          refine W.region ?_
          refine O.move (v := (.int .i64 a1)) rfl rfl rfl ?_
          refine O.move (v := v1) rfl rfl rfl ?_
          refine O.lenS Try.underlying22 (H.own 2 rfl) rfl rfl rfl ?_
          refine O.gtr rfl rfl rfl rfl ?_
          refine WL.nil ?_
          rcases ite_some hm with ⟨hc5, hm⟩ | ⟨hc5, hm⟩
          · refine W.cond_true (congrArg Value.bool hc5) ?_
            refine W.seq ?_
            refine W.region ?_
            refine O.build (v := (.agg (Flat.cells (GSpan.mk 0 0)).toArray)) (fun w => bd41_  w) rfl rfl rfl ?_
            refine O.store 1 0 [(.int .i64 0), (.int .i64 0)] [(.int .i64 0), (.int .i64 0)] sz41 H rfl rfl rfl rfl rfl rfl ⟨⟨rfl, rfl⟩, rfl⟩ (one_cons rfl (one_cons rfl one_nil)) ?_
            intro w7 H
            refine O.assign (v := (.int .i64 8)) rfl rfl rfl ?_
            refine WL.nil ?_
            refine W.ret ?_
            have hq : ((GSpan.mk 0 0), 8) = (r0, r1) := Option.some.inj (show some ((GSpan.mk 0 0), 8) = some (r0, r1) from hm)
            obtain ⟨he0, hq0⟩ := Prod.mk.inj hq; clear hq; subst he0
            subst hq0
            exact ends2 Try.results29 ⟨_, rfl, run_loadVar_agg ag41 rfl (H.cell 1 rfl)⟩ rfl ⟨_, rfl, H.base, rfl⟩
          · refine W.cond_false (congrArg Value.bool hc5) ?_
            refine W.skip ?_
            refine W.seq ?_
            refine W.region ?_
            refine O.fieldAddr fd24_1 rfl rfl rfl ?_
            refine O.load sc22 rfl rfl rfl (H.cell 0 rfl 1 _ rfl) ?_
            refine O.fieldAddr fd24_1 rfl rfl rfl ?_
            refine O.load sc22 rfl rfl rfl (H.cell 0 rfl 1 _ rfl) ?_
            refine O.lenS Try.underlying22 (H.arg ha0_0) rfl rfl rfl ?_
            obtain ⟨t3, ht3, hm⟩ := bind_some hm
            refine O.sub rfl rfl rfl rfl ht3 ?_
            obtain ⟨x1, hx1, hm⟩ := bind_some hm
            obtain ⟨p1, hp1, hrp1⟩ := fix_indexAddr Try.underlying22 sz3 ha0_0 hx1
            refine hrp1 rfl rfl rfl rfl ?_
            refine O.load sc3 rfl rfl rfl ((hp1.mono H.base).flat 0 _ rfl) ?_
            refine O.assign (v := (.int .i64 x1)) rfl rfl rfl ?_
            refine WL.nil ?_
            refine W.seq ?_
            obtain ⟨t4, ht4, hm⟩ := bind_some hm
            obtain ⟨t5, ht5, hm⟩ := bind_some hm
            obtain ⟨v2, hs1, hrv2⟩ := fix_sliceL Try.underlying22 sz3 (H.own 2 rfl) ht5
            obtain ⟨t6, hy3, hm⟩ := bind_some hm
            obtain ⟨t7, ht7, hm⟩ := bind_some hm
            obtain ⟨t8, ht8, hm⟩ := bind_some hm
            obtain ⟨t9, ht9, hm⟩ := bind_some hm
            obtain ⟨t10, ht10, hm⟩ := bind_some hm
            obtain ⟨v3, hs2, hrv3⟩ := fix_sliceL Try.underlying22 sz3 (H.own 2 rfl) ht10
            obtain ⟨t11, hy4, hm⟩ := bind_some hm
            obtain ⟨t12, ht12, hm⟩ := bind_some hm
            obtain ⟨t13, ht13, hm⟩ := bind_some hm
            refine W.drawA (d := 10) 23 [0, 1, 2, 3, 4, 5, 6, 7, 8, 9, 10, 11, 12, 13, 14, 15, 16, 17, 18, 19, 20, 21, 22] (fun b9 w9 => Inv w0 w9 [boxI b1 24 [(.string a0.Name), va0_0], boxI b2 41 [(.int .i64 0), (.int .i64 0)], ownI (α := Int) v1 3 t2, boxI b9 41 [(.int .i64 0), (.int .i64 0)]]) (fun f => f 6 = (.pointer (some ⟨b2, 0, none⟩)) ∧ f 63 = (.agg (Flat.cells (GSpan.mk t8 t13)).toArray)) fol (by kernel_rfl) rfl ?_ ?_ ?_
            · skip
              refine PL.of (fun b w8 _ hx => match b, hx with | none, hx => by exact O.move (v := (.int .i64 x1)) rfl rfl rfl (WL.nil ⟨rfl, hx⟩) | some _, ⟨bb, hv, hx, H⟩ => by exact O.move (v := (.int .i64 x1)) rfl rfl rfl (WL.nil ⟨rfl, bb, hv, hx, H⟩)) ?_
              refine PL.of (fun b w8 _ hx => match b, hx with | none, hx => by exact O.move (v := (.int .i64 a2)) rfl rfl rfl (WL.nil ⟨rfl, hx⟩) | some _, ⟨bb, hv, hx, H⟩ => by exact O.move (v := (.int .i64 a2)) rfl rfl rfl (WL.nil ⟨rfl, bb, hv, hx, H⟩)) ?_
              refine PL.of (fun b w8 _ hx => match b, hx with | none, hx => by exact O.move (v := v1) rfl rfl rfl (WL.nil ⟨rfl, hx⟩) | some _, ⟨bb, hv, hx, H⟩ => by exact O.move (v := v1) rfl rfl rfl (WL.nil ⟨rfl, bb, hv, hx, H⟩)) ?_
              refine PL.of (fun b w8 _ hx => match b, hx with | none, hx => by exact O.move (v := v1) rfl rfl rfl (WL.nil ⟨rfl, hx⟩) | some _, ⟨bb, hv, hx, H⟩ => by exact O.move (v := v1) rfl rfl rfl (WL.nil ⟨rfl, bb, hv, hx, H⟩)) ?_
              refine PL.of (fun b w8 _ hx => match b, hx with | none, hx => by have H := H.ext hx; exact O.lenS Try.underlying22 (H.own 2 rfl) rfl rfl rfl (WL.nil ⟨rfl, hx⟩) | some _, ⟨bb, hv, hx, H⟩ => by exact O.lenS Try.underlying22 (H.own 2 rfl) rfl rfl rfl (WL.nil ⟨rfl, bb, hv, hx, H⟩)) ?_
              refine PL.of (fun b w8 _ hx => match b, hx with | none, hx => by exact O.move (v := (.int .i64 a1)) rfl rfl rfl (WL.nil ⟨rfl, hx⟩) | some _, ⟨bb, hv, hx, H⟩ => by exact O.move (v := (.int .i64 a1)) rfl rfl rfl (WL.nil ⟨rfl, bb, hv, hx, H⟩)) ?_
              refine PL.of (fun b w8 _ hx => match b, hx with | none, hx => by exact O.sub rfl rfl rfl rfl ht4 (WL.nil ⟨rfl, hx⟩) | some _, ⟨bb, hv, hx, H⟩ => by exact O.sub rfl rfl rfl rfl ht4 (WL.nil ⟨rfl, bb, hv, hx, H⟩)) ?_
              refine PL.of (fun b w8 _ hx => match b, hx with | none, hx => by exact hrv2 rfl rfl rfl rfl (WL.nil ⟨rfl, hx⟩) | some _, ⟨bb, hv, hx, H⟩ => by exact hrv2 rfl rfl rfl rfl (WL.nil ⟨rfl, bb, hv, hx, H⟩)) ?_
              refine PL.of (fun b w8 _ hx => match b, hx with | none, hx => by have hs1 := hs1.mono hx; exact O.call Try.call21 rfl rfl rfl (c_noongunref06_Least _ _ hs1 hy3) (by rintro _ _ hb rfl; exact WL.nil ⟨rfl, hx.trans (hb.mono hx.size)⟩) | some _, ⟨bb, hv, hx, H⟩ => by have hs1 := hs1.mono hx; exact O.call Try.call21 rfl rfl rfl (c_noongunref06_Least _ _ hs1 hy3) (by rintro _ _ hb rfl; exact WL.nil ⟨rfl, bb, hv, hx.trans (hb.mono hx.size), H.ext hb⟩)) ?_
              refine PL.of (fun b w8 _ hx => match b, hx with | none, hx => by exact O.mul rfl rfl rfl rfl ht7 (WL.nil ⟨rfl, hx⟩) | some _, ⟨bb, hv, hx, H⟩ => by exact O.mul rfl rfl rfl rfl ht7 (WL.nil ⟨rfl, bb, hv, hx, H⟩)) ?_
              refine PL.of (fun b w8 _ hx => match b, hx with | none, hx => by exact O.add rfl rfl rfl rfl ht8 (WL.nil ⟨rfl, hx⟩) | some _, ⟨bb, hv, hx, H⟩ => by exact O.add rfl rfl rfl rfl ht8 (WL.nil ⟨rfl, bb, hv, hx, H⟩)) ?_
              refine PL.of (fun b w8 _ hx => match b, hx with | none, hx => by exact O.move (v := (.int .i64 x1)) rfl rfl rfl (WL.nil ⟨rfl, hx⟩) | some _, ⟨bb, hv, hx, H⟩ => by exact O.move (v := (.int .i64 x1)) rfl rfl rfl (WL.nil ⟨rfl, bb, hv, hx, H⟩)) ?_
              refine PL.of (fun b w8 _ hx => match b, hx with | none, hx => by exact O.move (v := (.int .i64 a2)) rfl rfl rfl (WL.nil ⟨rfl, hx⟩) | some _, ⟨bb, hv, hx, H⟩ => by exact O.move (v := (.int .i64 a2)) rfl rfl rfl (WL.nil ⟨rfl, bb, hv, hx, H⟩)) ?_
              refine PL.of (fun b w8 _ hx => match b, hx with | none, hx => by exact O.move (v := v1) rfl rfl rfl (WL.nil ⟨rfl, hx⟩) | some _, ⟨bb, hv, hx, H⟩ => by exact O.move (v := v1) rfl rfl rfl (WL.nil ⟨rfl, bb, hv, hx, H⟩)) ?_
              refine PL.of (fun b w8 _ hx => match b, hx with | none, hx => by exact O.move (v := v1) rfl rfl rfl (WL.nil ⟨rfl, hx⟩) | some _, ⟨bb, hv, hx, H⟩ => by exact O.move (v := v1) rfl rfl rfl (WL.nil ⟨rfl, bb, hv, hx, H⟩)) ?_
              refine PL.of (fun b w8 _ hx => match b, hx with | none, hx => by have H := H.ext hx; exact O.lenS Try.underlying22 (H.own 2 rfl) rfl rfl rfl (WL.nil ⟨rfl, hx⟩) | some _, ⟨bb, hv, hx, H⟩ => by exact O.lenS Try.underlying22 (H.own 2 rfl) rfl rfl rfl (WL.nil ⟨rfl, bb, hv, hx, H⟩)) ?_
              refine PL.of (fun b w8 _ hx => match b, hx with | none, hx => by exact O.move (v := (.int .i64 a1)) rfl rfl rfl (WL.nil ⟨rfl, hx⟩) | some _, ⟨bb, hv, hx, H⟩ => by exact O.move (v := (.int .i64 a1)) rfl rfl rfl (WL.nil ⟨rfl, bb, hv, hx, H⟩)) ?_
              refine PL.of (fun b w8 _ hx => match b, hx with | none, hx => by exact O.sub rfl rfl rfl rfl ht9 (WL.nil ⟨rfl, hx⟩) | some _, ⟨bb, hv, hx, H⟩ => by exact O.sub rfl rfl rfl rfl ht9 (WL.nil ⟨rfl, bb, hv, hx, H⟩)) ?_
              refine PL.of (fun b w8 _ hx => match b, hx with | none, hx => by exact hrv3 rfl rfl rfl rfl (WL.nil ⟨rfl, hx⟩) | some _, ⟨bb, hv, hx, H⟩ => by exact hrv3 rfl rfl rfl rfl (WL.nil ⟨rfl, bb, hv, hx, H⟩)) ?_
              refine PL.of (fun b w8 _ hx => match b, hx with | none, hx => by have hs2 := hs2.mono hx; exact O.call Try.call22 rfl rfl rfl (c_noongunref06_Greatest _ _ hs2 hy4) (by rintro _ _ hb rfl; exact WL.nil ⟨rfl, hx.trans (hb.mono hx.size)⟩) | some _, ⟨bb, hv, hx, H⟩ => by have hs2 := hs2.mono hx; exact O.call Try.call22 rfl rfl rfl (c_noongunref06_Greatest _ _ hs2 hy4) (by rintro _ _ hb rfl; exact WL.nil ⟨rfl, bb, hv, hx.trans (hb.mono hx.size), H.ext hb⟩)) ?_
              refine PL.of (fun b w8 _ hx => match b, hx with | none, hx => by exact O.mul rfl rfl rfl rfl ht12 (WL.nil ⟨rfl, hx⟩) | some _, ⟨bb, hv, hx, H⟩ => by exact O.mul rfl rfl rfl rfl ht12 (WL.nil ⟨rfl, bb, hv, hx, H⟩)) ?_
              refine PL.of (fun b w8 _ hx => match b, hx with | none, hx => by exact O.add rfl rfl rfl rfl ht13 (WL.nil ⟨rfl, hx⟩) | some _, ⟨bb, hv, hx, H⟩ => by exact O.add rfl rfl rfl rfl ht13 (WL.nil ⟨rfl, bb, hv, hx, H⟩)) ?_
              refine PL.of (fun b w8 _ hx => match b, hx with | none, hx => by exact O.build (v := (.agg (Flat.cells (GSpan.mk t8 t13)).toArray)) (fun w => bd41_0_1 _ _ w) rfl rfl rfl (WL.nil ⟨rfl, hx⟩) | some _, ⟨bb, hv, hx, H⟩ => by exact O.build (v := (.agg (Flat.cells (GSpan.mk t8 t13)).toArray)) (fun w => bd41_0_1 _ _ w) rfl rfl rfl (WL.nil ⟨rfl, bb, hv, hx, H⟩)) ?_
              refine PL.nil ?_
              exact ⟨rfl, rfl⟩
            · skip
              rintro f _ w hx
              have H := H.ext hx
              exact O.alloc [(.int .i64 0), (.int .i64 0)] ze41 H rfl rfl rfl (fun b _ H hb => WL.nil ⟨_, rfl, b, rfl, hx.trans (hb.mono hx.size), H⟩)
            · skip
              rintro f w b3 ⟨hf6, hf63⟩ hmd hx H
              have hs1 := hs1.mono hx
              have hs2 := hs2.mono hx
              obtain ⟨u3, rfl⟩ : ∃ u3, f = (upd (upd u3 6 (.pointer (some ⟨b2, 0, none⟩))) 63 (.agg (Flat.cells (GSpan.mk t8 t13)).toArray)) := ⟨f, by rw [upd_self hf6, upd_self hf63]⟩
              refine O.store 3 0 [(.int .i64 t8), (.int .i64 t13)] [(.int .i64 t8), (.int .i64 t13)] sz41 H rfl rfl rfl rfl rfl rfl ⟨⟨rfl, rfl⟩, rfl⟩ (one_cons rfl (one_cons rfl one_nil)) ?_
              intro w8 H
              clear hs1
              clear hs2
              refine WL.nil ?_
              refine W.seq ?_
              refine W.seq ?_
              refine W.region ?_
              refine O.fieldAddr fd41_0 rfl rfl rfl ?_
              refine O.load sc3 rfl rfl rfl (H.cell 3 rfl 0 _ rfl) ?_
              refine O.lss rfl rfl rfl rfl ?_
              refine O.move (v := (.bool (decide (t8 < (-1000000000000))))) rfl rfl rfl ?_
              refine WL.cut 4 (fun f w => f 6 = (.pointer (some ⟨b2, 0, none⟩)) ∧ f 10 = (.pointer (some ⟨b3, 0, none⟩)) ∧ f 71 = .bool ((decide (t8 < (-1000000000000))) || (decide (1000000000000 < t13))) ∧ Inv w0 w [boxI b1 24 [(.string a0.Name), va0_0], boxI b2 41 [(.int .i64 0), (.int .i64 0)], ownI (α := Int) v1 3 t2, boxI b3 41 [(.int .i64 t8), (.int .i64 t13)]]) ?_ ?_
              · skip
                rcases bool_ft (decide (t8 < (-1000000000000))) with hc6 | hc6
                · skip
                  refine WL.reset (i := 67) (v := .bool false) (congrArg Value.bool hc6) ?_
                  refine O.fieldAddr fd41_1 rfl rfl rfl ?_
                  refine O.load sc3 rfl rfl rfl (H.cell 3 rfl 1 _ rfl) ?_
                  refine O.gtr rfl rfl rfl rfl ?_
                  refine O.pick_false (v := (.bool (decide (1000000000000 < t13)))) rfl rfl rfl rfl ?_
                  refine WL.nil ?_
                  exact ⟨rfl, rfl, congrArg Value.bool (or_f hc6), H⟩
                · skip
                  refine WL.reset (i := 67) (v := .bool true) (congrArg Value.bool hc6) ?_
                  refine O.skip rfl rfl ?_
                  refine O.skip rfl rfl ?_
                  refine O.skip rfl rfl ?_
                  refine O.pick_true (v := (.bool true)) rfl rfl rfl rfl ?_
                  refine WL.nil ?_
                  exact ⟨rfl, rfl, congrArg Value.bool (or_t hc6), H⟩
              · skip
                rintro f w ⟨hf6, hf10, hf71, H⟩
                obtain ⟨u4, rfl⟩ : ∃ u4, f = (upd (upd (upd u4 6 (.pointer (some ⟨b2, 0, none⟩))) 10 (.pointer (some ⟨b3, 0, none⟩))) 71 (.bool ((decide (t8 < (-1000000000000))) || (decide (1000000000000 < t13))))) := ⟨f, by rw [upd_self hf6, upd_self hf10, upd_self hf71]⟩
                refine WL.nil ?_
                rcases ite_some hm with ⟨hc7, hm⟩ | ⟨hc7, hm⟩
                · refine W.cond_true (congrArg Value.bool hc7) ?_
                  refine W.seq ?_
                  refine W.region ?_
                  refine O.build (v := (.agg (Flat.cells (GSpan.mk 0 0)).toArray)) (fun w => bd41_  w) rfl rfl rfl ?_
                  refine O.store 1 0 [(.int .i64 0), (.int .i64 0)] [(.int .i64 0), (.int .i64 0)] sz41 H rfl rfl rfl rfl rfl rfl ⟨⟨rfl, rfl⟩, rfl⟩ (one_cons rfl (one_cons rfl one_nil)) ?_
                  intro w9 H
                  refine O.assign (v := (.int .i64 4)) rfl rfl rfl ?_
                  refine WL.nil ?_
                  refine W.ret ?_
                  have hq : ((GSpan.mk 0 0), 4) = (r0, r1) := Option.some.inj (show some ((GSpan.mk 0 0), 4) = some (r0, r1) from hm)
                  obtain ⟨he0, hq0⟩ := Prod.mk.inj hq; clear hq; subst he0
                  subst hq0
                  exact ends2 Try.results29 ⟨_, rfl, run_loadVar_agg ag41 rfl (H.cell 1 rfl)⟩ rfl ⟨_, rfl, H.base, rfl⟩
                · refine W.cond_false (congrArg Value.bool hc7) ?_
                  refine W.skip ?_
                  refine W.seq ?_
                  refine W.region ?_
                  refine O.loadA [(.int .i64 t8), (.int .i64 t13)] ag41 rfl rfl rfl rfl (H.cell 3 rfl) ?_
                  refine O.store 1 0 [(.int .i64 t8), (.int .i64 t13)] [(.int .i64 t8), (.int .i64 t13)] sz41 H rfl rfl rfl rfl rfl rfl ⟨⟨rfl, rfl⟩, rfl⟩ (one_cons rfl (one_cons rfl one_nil)) ?_
                  intro w10 H
                  refine O.assign (v := (.int .i64 0)) rfl rfl rfl ?_
                  refine WL.nil ?_
                  refine W.ret ?_
                  have hq : ((GSpan.mk t8 t13), 0) = (r0, r1) := Option.some.inj (show some ((GSpan.mk t8 t13), 0) = some (r0, r1) from hm)
                  obtain ⟨he0, hq0⟩ := Prod.mk.inj hq; clear hq; subst he0
                  subst hq0
                  exact ends2 Try.results29 ⟨_, rfl, run_loadVar_agg ag41 rfl (H.cell 1 rfl)⟩ rfl ⟨_, rfl, H.base, rfl⟩

set_option maxRecDepth 20000 in
theorem c_rate_Leaps {w0 : World} (va0_0 : Value) (a0 : GBox) (ha0_0 : SliceR w0 va0_0 a0.Errors) (a1 : Int) {r0 : (List Int)} {r1 : Int} (hm : rate_Leaps a0 a1 = some (r0, r1)) :
    Calls Try.prog 30 #[(.agg #[(.string a0.Name), va0_0]), (.int .i64 a1)] w0 (Ret w0 fun w v => ∃ vr0 : Value, v = .tuple #[vr0, (.int .i64 r1)] ∧ OwnR w0 w vr0 3 r0) := by
  unfold rate_Leaps at hm
  refine calls_of_WM Try.func30 rfl Try.ntmps30 (Nat.le_of_ble_eq_true rfl) ?_
  have H := Inv.startM (w0 := w0)
  have hmk : (fr0 #[(.agg #[(.string a0.Name), va0_0]), (.int .i64 a1)]).marks = [] := rfl
  refine W.seq ?_
  refine W.region ?_
  refine O.box [(.string a0.Name), va0_0] H rfl rfl rfl rfl ?_
  intro b1 w1 H hb1
  refine O.box [(.int .i64 a1)] H rfl rfl rfl rfl ?_
  intro b2 w2 H hb2
  have H := H.addNil (α := Int) (E := 3)
  refine O.assign (v := (.slice none 0 0)) rfl rfl rfl ?_
  refine O.assign (v := (.int .i64 0)) rfl rfl rfl ?_
  refine WL.nil ?_
  refine W.seq ?_
  refine W.region ?_
  refine O.loadA [(.string a0.Name), va0_0] ag24 rfl rfl rfl rfl (H.cell 1 rfl) ?_
  obtain ⟨⟨t1, t2⟩, hy1, hm⟩ := bind_some hm
  refine O.call Try.call20 rfl rfl rfl (c_rate_Daily _ (GBox.mk a0.Name a0.Errors) (H.arg ha0_0) hy1) ?_
  rintro _ w3 hb3 ⟨v1, rfl, ho1⟩
  have H := H.addOwn hb3 ho1
  refine O.move (v := (.tuple #[v1, (.int .i64 t2)])) rfl rfl rfl ?_
  refine O.extract (v := v1) rfl rfl rfl rfl ?_
  refine O.extract (v := (.int .i64 t2)) rfl rfl rfl rfl ?_
  refine O.assign (v := v1) rfl rfl rfl ?_
  refine O.assign (v := (.int .i64 t2)) rfl rfl rfl ?_
  refine WL.nil ?_
  refine W.seq ?_
  refine W.block ?_
  refine W.seq ?_
  refine W.region ?_
  refine O.move (v := (.int .i64 t2)) rfl rfl rfl ?_
  refine O.neq rfl rfl rfl rfl ?_
  refine O.assign (v := (.bool (t2 != 0))) rfl rfl rfl ?_
  refine WL.nil ?_
  rcases ite_some hm with ⟨hc1, hm⟩ | ⟨hc1, hm⟩
  · refine W.cond_true (congrArg Value.bool hc1) ?_
    refine W.seq ?_
    refine W.region ?_
    refine O.move (v := (.int .i64 t2)) rfl rfl rfl ?_
    have H := H.addNil (α := Int) (E := 3)
    refine O.assign (v := (.slice none 0 0)) rfl rfl rfl ?_
    refine O.assign (v := (.int .i64 t2)) rfl rfl rfl ?_
    refine WL.nil ?_
    refine W.ret ?_
    refine endsM_mk H hmk ?_
    intro w H _
    have hq : (([] : List Int), t2) = (r0, r1) := Option.some.inj (show some (([] : List Int), t2) = some (r0, r1) from hm)
    obtain ⟨he0, hq0⟩ := Prod.mk.inj hq; clear hq; subst he0
    subst hq0
    exact ends2 Try.results30 rfl rfl ⟨_, rfl, H.base, ⟨_, rfl, H.ownR 5 rfl⟩⟩
  · refine W.cond_false (congrArg Value.bool hc1) ?_
    refine W.seq ?_
    refine W.region ?_
    refine O.load sc3 rfl rfl rfl (H.cell 2 rfl 0 _ rfl) ?_
    refine O.lss rfl rfl rfl rfl ?_
    refine O.assign (v := (.bool (decide (a1 < 0)))) rfl rfl rfl ?_
    refine WL.nil ?_
    rcases ite_some hm with ⟨hc2, hm⟩ | ⟨hc2, hm⟩
    · refine W.cond_true (congrArg Value.bool hc2) ?_
      refine W.seq ?_
      refine W.region ?_
      have H := H.addNil (α := Int) (E := 3)
      refine O.assign (v := (.slice none 0 0)) rfl rfl rfl ?_
      refine O.assign (v := (.int .i64 7)) rfl rfl rfl ?_
      refine WL.nil ?_
      refine W.ret ?_
      refine endsM_mk H hmk ?_
      intro w H _
      have hq : (([] : List Int), 7) = (r0, r1) := Option.some.inj (show some (([] : List Int), 7) = some (r0, r1) from hm)
      obtain ⟨he0, hq0⟩ := Prod.mk.inj hq; clear hq; subst he0
      subst hq0
      exact ends2 Try.results30 rfl rfl ⟨_, rfl, H.base, ⟨_, rfl, H.ownR 5 rfl⟩⟩
    · refine W.cond_false (congrArg Value.bool hc2) ?_
      refine W.skip ?_
      refine W.seq ?_
      refine W.region ?_
      refine O.alloc [(.slice none 0 0)] ze22 H rfl rfl rfl ?_
      intro b3 w4 H hb4
      have H := H.addNil (α := Int) (E := 3)
      refine WL.nil ?_
      refine W.seq ?_
      refine W.region ?_
      refine O.alloc [(.int .i64 0)] ze3 H rfl rfl rfl ?_
      intro b4 w5 H hb5
      refine O.store 7 0 [(.int .i64 0)] [(.int .i64 0)] sz3 H rfl rfl rfl rfl rfl rfl ⟨⟨rfl, rfl⟩, rfl⟩ (one_cons rfl one_nil) ?_
      intro w6 H
      refine WL.nil ?_
      refine W.seq ?_
      refine W.seq ?_
      refine W.region ?_
      refine O.move (v := v1) rfl rfl rfl ?_
      refine O.call Try.call57 rfl rfl rfl (c_rate_differences _ _ (H.own 4 rfl) _) ?_
      rintro _ w7 hb6 ⟨b5, b6, rfl, hM1⟩
      have H := H.addAll hb6 hM1
      refine WL.nil ?_
      obtain ⟨xs1, hxs1, hm⟩ := bind_some hm
      obtain ⟨s1, hm1, hm⟩ := bind_some hm
      refine W.via (fun f w => ∃ ms1 : List Nat, ∃ v5 : Value, f 8 = (.pointer (some ⟨b3, 0, none⟩)) ∧ f.marks = ms1 ∧ Inv w0 w [marksI ms1, boxI b3 22 [v5], ownI (α := Int) v5 3 s1]) ?_ ?_
      · skip
        refine W.block ?_
        have H := H.keep [0, 2, 4, 5, 6, 7, 8, 9] [marksI [], boxI b2 3 [(.int .i64 a1)], ownI (α := Int) v1 3 t1, boxI b3 22 [(.slice none 0 0)], ownI (α := Int) (.slice none 0 0) 3 ([] : List Int), boxI b4 3 [(.int .i64 0)], boxI b5 3 [(.int .i64 1)], boxI b6 22 [v1]] rfl (by decide)
        refine W.rangeFuncL (α := Int) (σ := (List Int) × Int) (X := (List Int)) (xs := xs1) (rep := (repF (α := Int))) hm1 (fun s L => ∃ z3 : (List Int), ∃ z4 : Int, ∃ v3 : Value, (z3, z4) = s ∧ L = [boxI b2 3 [(.int .i64 a1)], ownI (α := Int) v1 3 t1, boxI b3 22 [v3], ownI (α := Int) v3 3 z3, boxI b4 3 [(.int .i64 z4)], boxI b5 3 [(.int .i64 1)], boxI b6 22 [v1]]) (fun y j L => match j with | some j => j = 1 ∧ (False) | none => False) rfl Try.call91 rfl (fun _ _ _ h => by rw [h]; rfl) (fun Kp W hs hk => it_rate_differences_c1 _ 1 _ _ t1 hxs1 fun w1 hw => by obtain ⟨_, _, _, _, ⟨_, _, _, _, rfl⟩, H⟩ := hk w1 hw; exact ⟨H.cell 8 rfl, H.cell 9 rfl, (H.own 4 rfl)⟩) H ⟨_, _, (.slice none 0 0), rfl, rfl⟩ ?_ ?_ ?_ ?_
        · skip
          rintro _ rs lp lp2 iz x1 _ st _ w _ ⟨z3, z4, v3, rfl, rfl⟩ rfl hm2 H
          change W _ _ _ _ _ _ _ (upd _ 25 (.int .i64 x1)) w
          refine W.region ?_
          refine O.assign (v := (.int .i64 x1)) rfl rfl rfl ?_
          refine WL.nil ?_
          refine ⟨_, H, fun w hsl H => ?_⟩
          obtain ⟨⟨s2, s3⟩, hm3, hm2⟩ := bind_some hm2
          refine W.via (fun f w => ∃ v6 : Value, f 3 = (.pointer (some ⟨b2, 0, none⟩)) ∧ f 8 = (.pointer (some ⟨b3, 0, none⟩)) ∧ f 9 = (.pointer (some ⟨b4, 0, none⟩)) ∧ f 24 = (.func (.func 91) #[] #[(.pointer (some ⟨b5, 0, none⟩)), (.pointer (some ⟨b6, 0, none⟩))]) ∧ Inv w0 w [rs, lp2, marksI [], boxI b2 3 [(.int .i64 a1)], ownI (α := Int) v1 3 t1, boxI b3 22 [v6], ownI (α := Int) v6 3 s2, boxI b4 3 [(.int .i64 s3)], boxI b5 3 [(.int .i64 1)], boxI b6 22 [v1]]) ?_ ?_
          · skip
            refine W.block ?_
            refine W.seq ?_
            refine W.region ?_
            refine O.load sc3 rfl rfl rfl (H.cell 7 rfl 0 _ rfl) ?_
            obtain ⟨t3, ht3, hm3⟩ := bind_some hm3
            refine O.add rfl rfl rfl rfl ht3 ?_
            refine O.store 7 0 [(.int .i64 t3)] [(.int .i64 t3)] sz3 H rfl rfl rfl rfl rfl rfl ⟨⟨rfl, rfl⟩, rfl⟩ (one_cons rfl one_nil) ?_
            intro w8 H
            refine WL.nil ?_
            refine W.seq ?_
            refine W.region ?_
            refine O.move (v := (.int .i64 x1)) rfl rfl rfl ?_
            refine O.move (v := (.int .i64 x1)) rfl rfl rfl ?_
            refine O.negW rfl rfl rfl ?_
            refine O.max2 rfl rfl rfl rfl ?_
            refine O.load sc3 rfl rfl rfl (H.cell 3 rfl 0 _ rfl) ?_
            refine O.gtr rfl rfl rfl rfl ?_
            refine WL.nil ?_
            obtain ⟨s4, hm4, hm3⟩ := bind_some hm3
            refine W.via (fun f w => ∃ v7 : Value, f 3 = (.pointer (some ⟨b2, 0, none⟩)) ∧ f 8 = (.pointer (some ⟨b3, 0, none⟩)) ∧ f 9 = (.pointer (some ⟨b4, 0, none⟩)) ∧ f 24 = (.func (.func 91) #[] #[(.pointer (some ⟨b5, 0, none⟩)), (.pointer (some ⟨b6, 0, none⟩))]) ∧ Inv w0 w [rs, lp2, marksI [], boxI b2 3 [(.int .i64 a1)], ownI (α := Int) v1 3 t1, boxI b3 22 [v7], ownI (α := Int) v7 3 s4, boxI b4 3 [(.int .i64 t3)], boxI b5 3 [(.int .i64 1)], boxI b6 22 [v1]]) ?_ ?_
            · skip
              rcases ite_some hm4 with ⟨hc3, hm4⟩ | ⟨hc3, hm4⟩
              · refine W.cond_true (congrArg Value.bool hc3) ?_
                refine W.region ?_
                refine O.load sc22 rfl rfl rfl (H.cell 5 rfl 0 _ rfl) ?_
                refine O.load sc3 rfl rfl rfl (H.cell 7 rfl 0 _ rfl) ?_
                refine O.buildSlice (α := Int) [(.int .i64 t3)] [t3] Try.underlying22 el3 H rfl rfl rfl rfl rfl rfl rfl ?_
                intro v8 w9 H hb7
                obtain ⟨t4, ht4, hm4⟩ := bind_some hm4
                refine O.append 6 Try.underlying22 el3 rfl H rfl (H.own 10 rfl) ht4 rfl rfl rfl rfl ?_
                intro v9 w10 H
                refine O.store 5 0 [v9] [v9] sz22 H rfl rfl rfl rfl rfl (SliceR.cells1 (H.own 6 rfl)) ⟨⟨rfl, rfl⟩, rfl⟩ (one_cons (SliceR.one (H.own 6 rfl)) one_nil) ?_
                intro w11 H
                refine WL.nil ?_
                have H := H.keep [0, 1, 2, 3, 4, 5, 6, 7, 8, 9] [rs, lp2, marksI [], boxI b2 3 [(.int .i64 a1)], ownI (α := Int) v1 3 t1, boxI b3 22 [v9], ownI (α := Int) v9 3 t4, boxI b4 3 [(.int .i64 t3)], boxI b5 3 [(.int .i64 1)], boxI b6 22 [v1]] rfl (by decide)
                have hq : t4 = s4 := Option.some.inj (show some t4 = some s4 from hm4)
                subst hq
                exact ⟨v9, rfl, rfl, rfl, rfl, H⟩
              · refine W.cond_false (congrArg Value.bool hc3) ?_
                refine W.skip ?_
                have hq : z3 = s4 := Option.some.inj (show some z3 = some s4 from hm4)
                subst hq
                exact ⟨v3, rfl, rfl, rfl, rfl, H⟩
            · skip
              rintro f w ⟨v7, hf3, hf8, hf9, hf24, H⟩
              obtain ⟨u1, rfl⟩ : ∃ u1, f = (upd (upd (upd (upd u1 3 (.pointer (some ⟨b2, 0, none⟩))) 8 (.pointer (some ⟨b3, 0, none⟩))) 9 (.pointer (some ⟨b4, 0, none⟩))) 24 (.func (.func 91) #[] #[(.pointer (some ⟨b5, 0, none⟩)), (.pointer (some ⟨b6, 0, none⟩))])) := ⟨f, by rw [upd_self hf3, upd_self hf8, upd_self hf9, upd_self hf24]⟩
              have hq : (s4, t3) = (s2, s3) := Option.some.inj (show some (s4, t3) = some (s2, s3) from hm3)
              obtain ⟨he0, hq0⟩ := Prod.mk.inj hq; clear hq; subst he0
              subst hq0
              exact ⟨v7, rfl, rfl, rfl, rfl, H⟩
          · skip
            rintro f w ⟨v6, hf3, hf8, hf9, hf24, H⟩
            obtain ⟨u2, rfl⟩ : ∃ u2, f = (upd (upd (upd (upd u2 3 (.pointer (some ⟨b2, 0, none⟩))) 8 (.pointer (some ⟨b3, 0, none⟩))) 9 (.pointer (some ⟨b4, 0, none⟩))) 24 (.func (.func 91) #[] #[(.pointer (some ⟨b5, 0, none⟩)), (.pointer (some ⟨b6, 0, none⟩))])) := ⟨f, by rw [upd_self hf3, upd_self hf8, upd_self hf9, upd_self hf24]⟩
            obtain rfl := Option.some.inj hm2
            exact ⟨_, _, rfl, ⟨_, _, v6, rfl, rfl⟩, H⟩
        · skip
          rintro D1 _ _ w ⟨z3, z4, v3, rfl, rfl⟩ hfin H
          have hq : z3 = s1 := hfin
          subst hq
          have H := H.keep [0, 3, 4] [marksI (D1 :: []), boxI b3 22 [v3], ownI (α := Int) v3 3 z3] rfl (by decide)
          have hmk := congrArg (D1 :: ·) hmk
          exact ⟨_, v3, rfl, hmk, H⟩
        · skip
          rintro _ _ _ _ ⟨_, h⟩; exact h.elim
        · skip
          rintro _ _ _ h; exact h.elim
      · skip
        rintro f w ⟨ms1, v5, hf8, hmk, H⟩
        obtain ⟨u3, rfl⟩ : ∃ u3, f = (upd u3 8 (.pointer (some ⟨b3, 0, none⟩))) := ⟨f, by rw [upd_self hf8]⟩
        refine W.seq ?_
        refine W.region ?_
        refine O.load sc22 rfl rfl rfl (H.cell 1 rfl 0 _ rfl) ?_
        refine O.assign (v := v5) rfl rfl rfl ?_
        refine O.assign (v := (.int .i64 0)) rfl rfl rfl ?_
        refine WL.nil ?_
        refine W.ret ?_
        refine endsM_mk H hmk ?_
        intro w H _
        have hq : (s1, 0) = (r0, r1) := Option.some.inj (show some (s1, 0) = some (r0, r1) from hm)
        obtain ⟨he0, hq0⟩ := Prod.mk.inj hq; clear hq; subst he0
        subst hq0
        exact ends2 Try.results30 rfl rfl ⟨_, rfl, H.base, ⟨_, rfl, H.ownR 2 rfl⟩⟩

set_option maxRecDepth 20000 in
theorem c_noongunref06_Leaps {w0 : World} (va0_0 : Value) (a0 : GBox) (ha0_0 : SliceR w0 va0_0 a0.Errors) (a1 : Int) {r0 : (List Int)} {r1 : Int} (hm : noongunref06_Leaps a0 a1 = some (r0, r1)) :
    Calls Try.prog 31 #[(.agg #[(.string a0.Name), va0_0]), (.int .i64 a1)] w0 (Ret w0 fun w v => ∃ vr0 : Value, v = .tuple #[vr0, (.int .i64 r1)] ∧ OwnR w0 w vr0 3 r0) := by
  unfold noongunref06_Leaps at hm
  refine calls_of_W Try.func31 rfl Try.ntmps31 (Nat.le_of_ble_eq_true rfl) ?_
  have H := Inv.start (w := w0)
  refine W.seq ?_
  refine W.region ?_
  refine O.box [(.string a0.Name), va0_0] H rfl rfl rfl rfl ?_
  intro b1 w1 H hb1
  have H := H.addNil (α := Int) (E := 3)
  refine O.assign (v := (.slice none 0 0)) rfl rfl rfl ?_
  refine O.assign (v := (.int .i64 0)) rfl rfl rfl ?_
  refine WL.nil ?_
  refine W.seq ?_
  refine W.seq ?_
  refine W.region ?_
  refine O.loadA [(.string a0.Name), va0_0] ag24 rfl rfl rfl rfl (H.cell 0 rfl) ?_
  obtain ⟨t1, hy1, hm⟩ := bind_some hm
  refine O.call Try.call37 rfl rfl rfl (c_noongunref06_ValidBox _ (GBox.mk a0.Name a0.Errors) (H.arg ha0_0) hy1) ?_
  rintro _ w2 hb2 rfl
  have H := H.ext hb2
  refine O.not rfl rfl rfl ?_
  refine WL.nil ?_
  rcases ite_some hm with ⟨hc1, hm⟩ | ⟨hc1, hm⟩
  · refine W.cond_true (congrArg Value.bool hc1) ?_
    refine W.seq ?_
    refine W.region ?_
    have H := H.addNil (α := Int) (E := 3)
    refine O.assign (v := (.slice none 0 0)) rfl rfl rfl ?_
    refine O.assign (v := (.int .i64 1)) rfl rfl rfl ?_
    refine WL.nil ?_
    refine W.ret ?_
    have hq : (([] : List Int), 1) = (r0, r1) := Option.some.inj (show some (([] : List Int), 1) = some (r0, r1) from hm)
    obtain ⟨he0, hq0⟩ := Prod.mk.inj hq; clear hq; subst he0
    subst hq0
    exact ends2 Try.results31 rfl rfl ⟨_, rfl, H.base, ⟨_, rfl, H.ownR 2 rfl⟩⟩
  · refine W.cond_false (congrArg Value.bool hc1) ?_
    refine W.skip ?_
    refine W.seq ?_
    refine W.seq ?_
    refine W.region ?_
    refine O.move (v := (.int .i64 a1)) rfl rfl rfl ?_
    refine O.lss rfl rfl rfl rfl ?_
    refine WL.nil ?_
    rcases ite_some hm with ⟨hc2, hm⟩ | ⟨hc2, hm⟩
    · refine W.cond_true (congrArg Value.bool hc2) ?_
      refine W.seq ?_
      refine W.region ?_
      have H := H.addNil (α := Int) (E := 3)
      refine O.assign (v := (.slice none 0 0)) rfl rfl rfl ?_
      refine O.assign (v := (.int .i64 7)) rfl rfl rfl ?_
      refine WL.nil ?_
      refine W.ret ?_
      have hq : (([] : List Int), 7) = (r0, r1) := Option.some.inj (show some (([] : List Int), 7) = some (r0, r1) from hm)
      obtain ⟨he0, hq0⟩ := Prod.mk.inj hq; clear hq; subst he0
      subst hq0
      exact ends2 Try.results31 rfl rfl ⟨_, rfl, H.base, ⟨_, rfl, H.ownR 2 rfl⟩⟩
    · refine W.cond_false (congrArg Value.bool hc2) ?_
      refine W.skip ?_
      refine W.seq ?_
      refine W.region ?_
      have H := H.addNil (α := Int) (E := 3)
      refine O.assign (v := (.slice none 0 0)) rfl rfl rfl ?_
      refine WL.nil ?_
      refine W.seq ?_
      refine W.region ?_
      refine O.loadA [(.string a0.Name), va0_0] ag24 rfl rfl rfl rfl (H.cell 0 rfl) ?_
      obtain ⟨t2, hy2, hm⟩ := bind_some hm
      refine O.call Try.call66 rfl rfl rfl (c_noongunref06_rates _ (GBox.mk a0.Name a0.Errors) (H.arg ha0_0) _ hy2) ?_
      rintro v1 w3 hb3 ho1
      have H := H.addOwn hb3 ho1
      refine O.assign (v := v1) rfl rfl rfl ?_
      refine WL.nil ?_
      refine W.seq ?_
      refine W.seq ?_
      refine W.region ?_
      refine O.assign (v := (.int .i64 1)) rfl rfl rfl ?_
      refine WL.nil ?_
      obtain ⟨s1, hm1, hm⟩ := bind_some hm
      refine W.via (fun f w => ∃ v5 : Value, f 6 = v5 ∧ Inv w0 w [ownI (α := Int) v5 3 s1]) ?_ ?_
      · skip
        refine W.block ?_
        have H := H.keep [2, 3] [ownI (α := Int) (.slice none 0 0) 3 ([] : List Int), ownI (α := Int) v1 3 t2] rfl (by decide)
        refine W.loopR hm1 (fun s f w => ∃ z3 : Int, ∃ z4 : (List Int), ∃ v3 : Value, (z3, z4) = s ∧ f 1 = (.int .i64 a1) ∧ f 6 = v3 ∧ f 7 = v1 ∧ f 8 = (.int .i64 z3) ∧ Inv w0 w [ownI (α := Int) v3 3 z4, ownI (α := Int) v1 3 t2]) ?_ ?_
        · skip
          exact ⟨_, _, (.slice none 0 0), rfl, rfl, rfl, rfl, rfl, H⟩
        · skip
          rintro _ st f w ⟨z3, z4, v3, rfl, hf1, hf6, hf7, hf8, H⟩ hm2
          obtain ⟨u1, rfl⟩ : ∃ u1, f = (upd (upd (upd (upd u1 1 (.int .i64 a1)) 6 v3) 7 v1) 8 (.int .i64 z3)) := ⟨f, by rw [upd_self hf1, upd_self hf6, upd_self hf7, upd_self hf8]⟩
          refine W.seq ?_
          refine W.seq ?_
          refine W.region ?_
          refine O.move (v := (.int .i64 z3)) rfl rfl rfl ?_
          refine O.move (v := v1) rfl rfl rfl ?_
          refine O.lenS Try.underlying22 (H.own 1 rfl) rfl rfl rfl ?_
          refine O.lss rfl rfl rfl rfl ?_
          refine WL.nil ?_
          rcases ite_some hm2 with ⟨hc3, hm2⟩ | ⟨hc3, hm2⟩
          · refine W.cond_true (congrArg Value.bool hc3) ?_
            refine W.skip ?_
            refine W.seq ?_
            obtain ⟨s2, hm3, hm2⟩ := bind_some hm2
            refine W.via (fun f w => ∃ v6 : Value, f 1 = (.int .i64 a1) ∧ f 6 = v6 ∧ f 7 = v1 ∧ f 8 = (.int .i64 z3) ∧ Inv w0 w [ownI (α := Int) v6 3 s2, ownI (α := Int) v1 3 t2]) ?_ ?_
            · skip
              refine W.block ?_
              refine W.seq ?_
              obtain ⟨x1, hx1, hm3⟩ := bind_some hm3
              obtain ⟨p1, hp1, hrp1⟩ := fix_indexAddr Try.underlying22 sz3 (H.own 1 rfl) hx1
              obtain ⟨t3, ht3, hm3⟩ := bind_some hm3
              obtain ⟨x2, hx2, hm3⟩ := bind_some hm3
              obtain ⟨p2, hp2, hrp2⟩ := fix_indexAddr Try.underlying22 sz3 (H.own 1 rfl) hx2
              obtain ⟨t4, ht4, hm3⟩ := bind_some hm3
              obtain ⟨t5, hy3, hm3⟩ := bind_some hm3
              refine W.drawN 12 (fun f => f 1 = (.int .i64 a1) ∧ f 6 = v3 ∧ f 7 = v1 ∧ f 8 = (.int .i64 z3) ∧ f 32 = (.int .i64 t5) ∧ f 33 = (.int .i64 a1)) fol (by kernel_rfl) ?_ ?_
              · skip
                refine PL.of (fun _ w8 _ hx => O.move (v := v1) rfl rfl rfl (WL.nil ⟨rfl, hx⟩)) ?_
                refine PL.of (fun _ w8 _ hx => O.move (v := (.int .i64 z3)) rfl rfl rfl (WL.nil ⟨rfl, hx⟩)) ?_
                refine PL.of (fun _ w8 _ hx => hrp1 rfl rfl rfl rfl (WL.nil ⟨rfl, hx⟩)) ?_
                refine PL.of (fun _ w8 _ hx => by have hp1 := hp1.mono hx; exact O.load sc3 rfl rfl rfl (hp1.flat 0 _ rfl) (WL.nil ⟨rfl, hx⟩)) ?_
                refine PL.of (fun _ w8 _ hx => O.move (v := v1) rfl rfl rfl (WL.nil ⟨rfl, hx⟩)) ?_
                refine PL.of (fun _ w8 _ hx => O.move (v := (.int .i64 z3)) rfl rfl rfl (WL.nil ⟨rfl, hx⟩)) ?_
                refine PL.of (fun _ w8 _ hx => O.sub rfl rfl rfl rfl ht3 (WL.nil ⟨rfl, hx⟩)) ?_
                refine PL.of (fun _ w8 _ hx => hrp2 rfl rfl rfl rfl (WL.nil ⟨rfl, hx⟩)) ?_
                refine PL.of (fun _ w8 _ hx => by have hp2 := hp2.mono hx; exact O.load sc3 rfl rfl rfl (hp2.flat 0 _ rfl) (WL.nil ⟨rfl, hx⟩)) ?_
                refine PL.of (fun _ w8 _ hx => O.sub rfl rfl rfl rfl ht4 (WL.nil ⟨rfl, hx⟩)) ?_
                refine PL.of (fun _ w8 _ hx => O.call Try.call69 rfl rfl rfl (c_noongunref06_Abs _ hy3) (by rintro _ _ hb rfl; exact WL.nil ⟨rfl, hx.trans (hb.mono hx.size)⟩)) ?_
                refine PL.of (fun _ w8 _ hx => O.move (v := (.int .i64 a1)) rfl rfl rfl (WL.nil ⟨rfl, hx⟩)) ?_
                refine PL.nil ?_
                exact ⟨rfl, rfl, rfl, rfl, rfl, rfl⟩
              · skip
                rintro f w ⟨hf1, hf6, hf7, hf8, hf32, hf33⟩ hmd hx
                have H := H.ext hx
                have hp1 := hp1.mono hx
                have hp2 := hp2.mono hx
                obtain ⟨u2, rfl⟩ : ∃ u2, f = (upd (upd (upd (upd (upd (upd u2 1 (.int .i64 a1)) 6 v3) 7 v1) 8 (.int .i64 z3)) 32 (.int .i64 t5)) 33 (.int .i64 a1)) := ⟨f, by rw [upd_self hf1, upd_self hf6, upd_self hf7, upd_self hf8, upd_self hf32, upd_self hf33]⟩
                refine O.gtr rfl rfl rfl rfl ?_
                refine WL.nil ?_
                obtain ⟨s3, hm4, hm3⟩ := bind_some hm3
                refine W.via (fun f w => ∃ v7 : Value, f 1 = (.int .i64 a1) ∧ f 6 = v7 ∧ f 7 = v1 ∧ f 8 = (.int .i64 z3) ∧ Inv w0 w [ownI (α := Int) v7 3 s3, ownI (α := Int) v1 3 t2]) ?_ ?_
                · skip
                  rcases ite_some hm4 with ⟨hc4, hm4⟩ | ⟨hc4, hm4⟩
                  · refine W.cond_true (congrArg Value.bool hc4) ?_
                    refine W.region ?_
                    refine O.move (v := v3) rfl rfl rfl ?_
                    refine O.move (v := (.int .i64 z3)) rfl rfl rfl ?_
                    refine O.buildSlice (α := Int) [(.int .i64 z3)] [z3] Try.underlying22 el3 H rfl rfl rfl rfl rfl rfl rfl ?_
                    intro v8 w4 H hb4
                    have hp1 := hp1.mono hb4
                    have hp2 := hp2.mono hb4
                    obtain ⟨t6, ht6, hm4⟩ := bind_some hm4
                    refine O.append 0 Try.underlying22 el3 rfl H rfl (H.own 2 rfl) ht6 rfl rfl rfl rfl ?_
                    intro v9 w5 H
                    clear hp1
                    clear hp2
                    refine O.assign (v := v9) rfl rfl rfl ?_
                    refine WL.nil ?_
                    have H := H.keep [0, 1] [ownI (α := Int) v9 3 t6, ownI (α := Int) v1 3 t2] rfl (by decide)
                    have hq : t6 = s3 := Option.some.inj (show some t6 = some s3 from hm4)
                    subst hq
                    exact ⟨v9, rfl, rfl, rfl, rfl, H⟩
                  · refine W.cond_false (congrArg Value.bool hc4) ?_
                    refine W.skip ?_
                    have hq : z4 = s3 := Option.some.inj (show some z4 = some s3 from hm4)
                    subst hq
                    exact ⟨v3, rfl, rfl, rfl, rfl, H⟩
                · skip
                  rintro f w ⟨v7, hf1, hf6, hf7, hf8, H⟩
                  obtain ⟨u3, rfl⟩ : ∃ u3, f = (upd (upd (upd (upd u3 1 (.int .i64 a1)) 6 v7) 7 v1) 8 (.int .i64 z3)) := ⟨f, by rw [upd_self hf1, upd_self hf6, upd_self hf7, upd_self hf8]⟩
                  have hq : s3 = s2 := Option.some.inj (show some s3 = some s2 from hm3)
                  subst hq
                  exact ⟨v7, rfl, rfl, rfl, rfl, H⟩
            · skip
              rintro f w ⟨v6, hf1, hf6, hf7, hf8, H⟩
              obtain ⟨u4, rfl⟩ : ∃ u4, f = (upd (upd (upd (upd u4 1 (.int .i64 a1)) 6 v6) 7 v1) 8 (.int .i64 z3)) := ⟨f, by rw [upd_self hf1, upd_self hf6, upd_self hf7, upd_self hf8]⟩
              refine W.region ?_
              refine O.move (v := (.int .i64 z3)) rfl rfl rfl ?_
              obtain ⟨t7, ht7, hm2⟩ := bind_some hm2
              refine O.add rfl rfl rfl rfl ht7 ?_
              refine O.assign (v := (.int .i64 t7)) rfl rfl rfl ?_
              refine WL.nil ?_
              obtain rfl := Option.some.inj hm2
              exact ⟨_, rfl, _, _, v6, rfl, rfl, rfl, rfl, rfl, H⟩
          · refine W.cond_false (congrArg Value.bool hc3) ?_
            refine W.exit ?_
            obtain rfl := Option.some.inj hm2
            refine ⟨_, rfl, ?_⟩
            intro hy
            have hq : z4 = s1 := hy
            subst hq
            have H := H.keep [0] [ownI (α := Int) v3 3 z4] rfl (by decide)
            refine xT rfl ?_
            exact ⟨v3, rfl, H⟩
      · skip
        rintro f w ⟨v5, hf6, H⟩
        obtain ⟨u5, rfl⟩ : ∃ u5, f = (upd u5 6 v5) := ⟨f, by rw [upd_self hf6]⟩
        refine W.seq ?_
        refine W.region ?_
        refine O.move (v := v5) rfl rfl rfl ?_
        refine O.assign (v := v5) rfl rfl rfl ?_
        refine O.assign (v := (.int .i64 0)) rfl rfl rfl ?_
        refine WL.nil ?_
        refine W.ret ?_
        have hq : (s1, 0) = (r0, r1) := Option.some.inj (show some (s1, 0) = some (r0, r1) from hm)
        obtain ⟨he0, hq0⟩ := Prod.mk.inj hq; clear hq; subst he0
        subst hq0
        exact ends2 Try.results31 rfl rfl ⟨_, rfl, H.base, ⟨_, rfl, H.ownR 0 rfl⟩⟩

end Go.Proofs
