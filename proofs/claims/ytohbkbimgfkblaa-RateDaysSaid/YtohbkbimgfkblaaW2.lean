/-
  The walks: each function does what its model says, where the model has a value. No other condition.
-/
import Derived.Test.YtohbkbimgfkblaaW1
namespace Go.Proofs
open Go.Fw Go.RowKit
set_option maxRecDepth 20000 in
theorem c_noongunlaw06_RateDays {w0 : World} (va0_0 : Value) (a0 : GBox) (ha0_0 : SliceR w0 va0_0 a0.Errors) {r0 : Bool} (hm : noongunlaw06_RateDays a0 = some r0) :
    Calls Try.prog 9 #[(.agg #[(.string a0.Name), va0_0])] w0 (Ret w0 fun _ v => v = (.bool r0)) := by
  unfold noongunlaw06_RateDays at hm
  refine calls_of_W Try.func9 rfl Try.ntmps9 (Nat.le_of_ble_eq_true rfl) ?_
  have H := Inv.start (w := w0)
  refine W.seq ?_
  refine W.region ?_
  refine O.box [(.string a0.Name), va0_0] H rfl rfl rfl rfl ?_
  intro b1 w1 H hb1
  refine O.assign (v := (.bool false)) rfl rfl rfl ?_
  refine WL.nil ?_
  refine W.seq ?_
  refine W.seq ?_
  refine W.region ?_
  refine O.loadA [(.string a0.Name), va0_0] ag24 rfl rfl rfl rfl (H.cell 0 rfl) ?_
  refine O.buildSliceR (α := GBox) [(.agg #[(.string a0.Name), va0_0])] [(GBox.mk a0.Name a0.Errors)] Try.underlying55 el24 (RepL.cons (α := GBox) (v := (.agg #[(.string a0.Name), va0_0])) (GBox_rep (H.arg ha0_0)) RepL.nil) rfl rfl rfl rfl rfl ?_
  intro v1 w2 hb2 hs1
  have H := H.ext hb2
  obtain ⟨t1, hy1, hm⟩ := bind_some hm
  refine O.call Try.call13 rfl rfl rfl (c_noongunlaw06_fit _ _ hs1 hy1) ?_
  rintro _ w3 hb3 rfl
  have hs1 := hs1.mono hb3
  have H := H.ext hb3
  refine O.not rfl rfl rfl ?_
  refine WL.nil ?_
  rcases ite_some hm with ⟨hc1, hm⟩ | ⟨hc1, hm⟩
  · refine W.cond_true (congrArg Value.bool hc1) ?_
    refine W.seq ?_
    refine W.region ?_
    obtain ⟨t2, hy2, hm⟩ := bind_some hm
    refine O.call Try.call14 rfl rfl rfl (c_noongunlaw06_awake  hy2) ?_
    rintro _ w4 hb4 rfl
    have hs1 := hs1.mono hb4
    have H := H.ext hb4
    refine O.assign (v := (.bool t2)) rfl rfl rfl ?_
    refine WL.nil ?_
    refine W.ret ?_
    have hq : t2 = r0 := Option.some.inj (show some t2 = some r0 from hm)
    subst hq
    exact ends1 Try.results9 rfl ⟨_, rfl, H.base, rfl⟩
  · refine W.cond_false (congrArg Value.bool hc1) ?_
    refine W.skip ?_
    refine W.seq ?_
    refine W.region ?_
    refine O.loadA [(.string a0.Name), va0_0] ag24 rfl rfl rfl rfl (H.cell 0 rfl) ?_
    obtain ⟨⟨t3, t4⟩, hy3, hm⟩ := bind_some hm
    refine O.call Try.call20 rfl rfl rfl (c_rate_Daily _ (GBox.mk a0.Name a0.Errors) (H.arg ha0_0) hy3) ?_
    rintro _ w5 hb5 ⟨v2, rfl, ho1⟩
    have hs1 := hs1.mono hb5
    have H := H.addOwn hb5 ho1
    refine O.move (v := (.tuple #[v2, (.int .i64 t4)])) rfl rfl rfl ?_
    refine O.extract (v := v2) rfl rfl rfl rfl ?_
    refine O.extract (v := (.int .i64 t4)) rfl rfl rfl rfl ?_
    refine O.assign (v := v2) rfl rfl rfl ?_
    refine O.assign (v := (.int .i64 t4)) rfl rfl rfl ?_
    refine WL.nil ?_
    refine W.seq ?_
    refine W.region ?_
    refine O.loadA [(.string a0.Name), va0_0] ag24 rfl rfl rfl rfl (H.cell 0 rfl) ?_
    obtain ⟨⟨t5, t6⟩, hy4, hm⟩ := bind_some hm
    refine O.call Try.call32 rfl rfl rfl (c_noongunref06_Daily _ (GBox.mk a0.Name a0.Errors) (H.arg ha0_0) hy4) ?_
    rintro _ w6 hb6 ⟨v3, rfl, ho2⟩
    have hs1 := hs1.mono hb6
    have H := H.addOwn hb6 ho2
    refine O.move (v := (.tuple #[v3, (.int .i64 t6)])) rfl rfl rfl ?_
    refine O.extract (v := v3) rfl rfl rfl rfl ?_
    refine O.extract (v := (.int .i64 t6)) rfl rfl rfl rfl ?_
    refine O.assign (v := v3) rfl rfl rfl ?_
    refine O.assign (v := (.int .i64 t6)) rfl rfl rfl ?_
    refine WL.nil ?_
    refine W.seq ?_
    refine W.region ?_
    refine O.loadA [(.string a0.Name), va0_0] ag24 rfl rfl rfl rfl (H.cell 0 rfl) ?_
    obtain ⟨⟨t7, t8⟩, hy5, hm⟩ := bind_some hm
    refine O.call Try.call33 rfl rfl rfl (c_rate_Weekly _ (GBox.mk a0.Name a0.Errors) (H.arg ha0_0) hy5) ?_
    rintro _ w7 hb7 ⟨v4, rfl, ho3⟩
    have hs1 := hs1.mono hb7
    have H := H.addOwn hb7 ho3
    refine O.move (v := (.tuple #[v4, (.int .i64 t8)])) rfl rfl rfl ?_
    refine O.extract (v := v4) rfl rfl rfl rfl ?_
    refine O.extract (v := (.int .i64 t8)) rfl rfl rfl rfl ?_
    refine O.assign (v := v4) rfl rfl rfl ?_
    refine O.assign (v := (.int .i64 t8)) rfl rfl rfl ?_
    refine WL.nil ?_
    refine W.seq ?_
    refine W.region ?_
    refine O.loadA [(.string a0.Name), va0_0] ag24 rfl rfl rfl rfl (H.cell 0 rfl) ?_
    obtain ⟨⟨t9, t10⟩, hy6, hm⟩ := bind_some hm
    refine O.call Try.call34 rfl rfl rfl (c_noongunref06_Weekly _ (GBox.mk a0.Name a0.Errors) (H.arg ha0_0) hy6) ?_
    rintro _ w8 hb8 ⟨v5, rfl, ho4⟩
    have hs1 := hs1.mono hb8
    have H := H.addOwn hb8 ho4
    refine O.move (v := (.tuple #[v5, (.int .i64 t10)])) rfl rfl rfl ?_
    refine O.extract (v := v5) rfl rfl rfl rfl ?_
    refine O.extract (v := (.int .i64 t10)) rfl rfl rfl rfl ?_
    refine O.assign (v := v5) rfl rfl rfl ?_
    refine O.assign (v := (.int .i64 t10)) rfl rfl rfl ?_
    refine WL.nil ?_
    refine W.seq ?_
    refine W.region ?_
    refine O.loadA [(.string a0.Name), va0_0] ag24 rfl rfl rfl rfl (H.cell 0 rfl) ?_
    obtain ⟨⟨t11, t12⟩, hy7, hm⟩ := bind_some hm
    refine O.call Try.call35 rfl rfl rfl (c_rate_Mean _ (GBox.mk a0.Name a0.Errors) (H.arg ha0_0) hy7) ?_
    rintro _ w9 hb9 rfl
    have hs1 := hs1.mono hb9
    have H := H.ext hb9
    refine O.move (v := (.tuple #[(.agg (Flat.cells t11).toArray), (.int .i64 t12)])) rfl rfl rfl ?_
    refine O.extract (v := (.agg (Flat.cells t11).toArray)) rfl rfl rfl rfl ?_
    refine O.extract (v := (.int .i64 t12)) rfl rfl rfl rfl ?_
    refine O.alloc [(.int .i64 0), (.int .i64 0)] ze48 H rfl rfl rfl ?_
    intro b2 w10 H hb10
    have hs1 := hs1.mono hb10
    refine O.store 5 0 [(.int .i64 t11.N), (.int .i64 t11.D)] [(.int .i64 t11.N), (.int .i64 t11.D)] sz48 H rfl rfl rfl rfl rfl rfl ⟨⟨rfl, rfl⟩, rfl⟩ (one_cons rfl (one_cons rfl one_nil)) ?_
    intro w11 H
    clear hs1
    refine O.assign (v := (.int .i64 t12)) rfl rfl rfl ?_
    refine WL.nil ?_
    refine W.seq ?_
    refine W.region ?_
    refine O.loadA [(.string a0.Name), va0_0] ag24 rfl rfl rfl rfl (H.cell 0 rfl) ?_
    obtain ⟨⟨t13, t14⟩, hy8, hm⟩ := bind_some hm
    refine O.call Try.call36 rfl rfl rfl (c_noongunref06_Mean _ (GBox.mk a0.Name a0.Errors) (H.arg ha0_0) hy8) ?_
    rintro _ w12 hb11 rfl
    have H := H.ext hb11
    refine O.move (v := (.tuple #[(.agg (Flat.cells t13).toArray), (.int .i64 t14)])) rfl rfl rfl ?_
    refine O.extract (v := (.agg (Flat.cells t13).toArray)) rfl rfl rfl rfl ?_
    refine O.extract (v := (.int .i64 t14)) rfl rfl rfl rfl ?_
    refine O.alloc [(.int .i64 0), (.int .i64 0)] ze48 H rfl rfl rfl ?_
    intro b3 w13 H hb12
    refine O.store 6 0 [(.int .i64 t13.N), (.int .i64 t13.D)] [(.int .i64 t13.N), (.int .i64 t13.D)] sz48 H rfl rfl rfl rfl rfl rfl ⟨⟨rfl, rfl⟩, rfl⟩ (one_cons rfl (one_cons rfl one_nil)) ?_
    intro w14 H
    refine O.assign (v := (.int .i64 t14)) rfl rfl rfl ?_
    refine WL.nil ?_
    refine W.seq ?_
    refine W.seq ?_
    obtain ⟨t15, hy9, hm⟩ := bind_some hm
    obtain ⟨t16, hy10, hm⟩ := bind_some hm
    obtain ⟨b4, hm1, hm⟩ := bind_some hm
    obtain ⟨b5, hm2, hm⟩ := bind_some hm
    refine W.drawN 37 (fun f => f 1 = (.pointer (some ⟨b1, 0, none⟩)) ∧ f 3 = v2 ∧ f 4 = (.int .i64 t4) ∧ f 7 = v4 ∧ f 11 = (.pointer (some ⟨b2, 0, none⟩)) ∧ f 12 = (.int .i64 t12) ∧ f 92 = (.bool (((b5 || (t8 != t10)) || (!(t11 == t13))) || (t12 != t14)))) fol (by kernel_rfl) ?_ ?_
    · skip
      refine PL.of (fun _ w8 _ hx => by have H := H.ext hx; exact O.loadA [(.string a0.Name), va0_0] ag24 rfl rfl rfl rfl (H.cell 0 rfl) (WL.nil ⟨rfl, hx⟩)) ?_
      refine PL.of (fun _ w8 _ hx => by have H := H.ext hx; exact O.call Try.call16 rfl rfl rfl (c_rate_ValidBox _ (GBox.mk a0.Name a0.Errors) (H.arg ha0_0) hy9) (by rintro _ _ hb rfl; exact WL.nil ⟨rfl, hx.trans (hb.mono hx.size)⟩)) ?_
      refine PL.of (fun _ w8 _ hx => by have H := H.ext hx; exact O.loadA [(.string a0.Name), va0_0] ag24 rfl rfl rfl rfl (H.cell 0 rfl) (WL.nil ⟨rfl, hx⟩)) ?_
      refine PL.of (fun _ w8 _ hx => by have H := H.ext hx; exact O.call Try.call37 rfl rfl rfl (c_noongunref06_ValidBox _ (GBox.mk a0.Name a0.Errors) (H.arg ha0_0) hy10) (by rintro _ _ hb rfl; exact WL.nil ⟨rfl, hx.trans (hb.mono hx.size)⟩)) ?_
      refine PL.of (fun _ w8 _ hx => O.neqB Try.underlying4 rfl rfl rfl rfl (WL.nil ⟨rfl, hx⟩)) ?_
      refine PL.of (fun _ w8 _ hx => O.move (v := (.bool (t15 != t16))) rfl rfl rfl (WL.nil ⟨rfl, hx⟩)) ?_
      refine PL.cut 5 (fun f => f 1 = (.pointer (some ⟨b1, 0, none⟩)) ∧ f 3 = v2 ∧ f 4 = (.int .i64 t4) ∧ f 6 = (.int .i64 t6) ∧ f 7 = v4 ∧ f 8 = (.int .i64 t8) ∧ f 9 = v5 ∧ f 10 = (.int .i64 t10) ∧ f 11 = (.pointer (some ⟨b2, 0, none⟩)) ∧ f 12 = (.int .i64 t12) ∧ f 13 = (.pointer (some ⟨b3, 0, none⟩)) ∧ f 14 = (.int .i64 t14) ∧ f 66 = .bool b4) ?_ ?_
      · skip
        rcases ite_some hm1 with ⟨hc2, hm1⟩ | ⟨hc2, hm1⟩
        · skip
          refine PL.reset (i := 61) (v := .bool true) (congrArg Value.bool hc2) ?_
          refine PL.of (fun _ w8 _ hx => O.skip rfl rfl (WL.nil ⟨rfl, hx⟩)) ?_
          refine PL.of (fun _ w8 _ hx => O.skip rfl rfl (WL.nil ⟨rfl, hx⟩)) ?_
          refine PL.of (fun _ w8 _ hx => O.skip rfl rfl (WL.nil ⟨rfl, hx⟩)) ?_
          refine PL.of (fun _ w8 _ hx => O.skip rfl rfl (WL.nil ⟨rfl, hx⟩)) ?_
          refine PL.of (fun _ w8 _ hx => O.pick_true (v := (.bool true)) rfl rfl rfl rfl (WL.nil ⟨rfl, hx⟩)) ?_
          refine PL.nil ?_
          have hq : true = b4 := Option.some.inj (show some true = some b4 from hm1)
          subst hq
          exact ⟨rfl, rfl, rfl, rfl, rfl, rfl, rfl, rfl, rfl, rfl, rfl, rfl, rfl⟩
        · skip
          refine PL.reset (i := 61) (v := .bool false) (congrArg Value.bool hc2) ?_
          refine PL.of (fun _ w8 _ hx => O.move (v := v2) rfl rfl rfl (WL.nil ⟨rfl, hx⟩)) ?_
          refine PL.of (fun _ w8 _ hx => O.move (v := v3) rfl rfl rfl (WL.nil ⟨rfl, hx⟩)) ?_
          obtain ⟨t17, hy11, hm1⟩ := bind_some hm1
          refine PL.of (fun _ w8 _ hx => by have H := H.ext hx; exact O.call Try.call26 rfl rfl rfl (c_noongunref06_SameInts _ _ (H.own 1 rfl) _ _ (H.own 2 rfl) hy11) (by rintro _ _ hb rfl; exact WL.nil ⟨rfl, hx.trans (hb.mono hx.size)⟩)) ?_
          refine PL.of (fun _ w8 _ hx => O.not rfl rfl rfl (WL.nil ⟨rfl, hx⟩)) ?_
          refine PL.of (fun _ w8 _ hx => O.pick_false (v := (.bool (!t17))) rfl rfl rfl rfl (WL.nil ⟨rfl, hx⟩)) ?_
          refine PL.nil ?_
          have hq : (!t17) = b4 := Option.some.inj (show some (!t17) = some b4 from hm1)
          subst hq
          exact ⟨rfl, rfl, rfl, rfl, rfl, rfl, rfl, rfl, rfl, rfl, rfl, rfl, rfl⟩
      · skip
        rintro f ⟨hf1, hf3, hf4, hf6, hf7, hf8, hf9, hf10, hf11, hf12, hf13, hf14, hf66⟩
        obtain ⟨u1, rfl⟩ : ∃ u1, f = (upd (upd (upd (upd (upd (upd (upd (upd (upd (upd (upd (upd (upd u1 1 (.pointer (some ⟨b1, 0, none⟩))) 3 v2) 4 (.int .i64 t4)) 6 (.int .i64 t6)) 7 v4) 8 (.int .i64 t8)) 9 v5) 10 (.int .i64 t10)) 11 (.pointer (some ⟨b2, 0, none⟩))) 12 (.int .i64 t12)) 13 (.pointer (some ⟨b3, 0, none⟩))) 14 (.int .i64 t14)) 66 (.bool b4)) := ⟨f, by rw [upd_self hf1, upd_self hf3, upd_self hf4, upd_self hf6, upd_self hf7, upd_self hf8, upd_self hf9, upd_self hf10, upd_self hf11, upd_self hf12, upd_self hf13, upd_self hf14, upd_self hf66]⟩
        refine PL.of (fun _ w8 _ hx => O.move (v := (.bool b4)) rfl rfl rfl (WL.nil ⟨rfl, hx⟩)) ?_
        refine PL.cut 4 (fun f => f 1 = (.pointer (some ⟨b1, 0, none⟩)) ∧ f 3 = v2 ∧ f 4 = (.int .i64 t4) ∧ f 7 = v4 ∧ f 8 = (.int .i64 t8) ∧ f 9 = v5 ∧ f 10 = (.int .i64 t10) ∧ f 11 = (.pointer (some ⟨b2, 0, none⟩)) ∧ f 12 = (.int .i64 t12) ∧ f 13 = (.pointer (some ⟨b3, 0, none⟩)) ∧ f 14 = (.int .i64 t14) ∧ f 71 = .bool (b4 || (t4 != t6))) ?_ ?_
        · skip
          rcases bool_ft b4 with hc3 | hc3
          · skip
            refine PL.reset (i := 67) (v := .bool false) (congrArg Value.bool hc3) ?_
            refine PL.of (fun _ w8 _ hx => O.move (v := (.int .i64 t4)) rfl rfl rfl (WL.nil ⟨rfl, hx⟩)) ?_
            refine PL.of (fun _ w8 _ hx => O.move (v := (.int .i64 t6)) rfl rfl rfl (WL.nil ⟨rfl, hx⟩)) ?_
            refine PL.of (fun _ w8 _ hx => O.neq rfl rfl rfl rfl (WL.nil ⟨rfl, hx⟩)) ?_
            refine PL.of (fun _ w8 _ hx => O.pick_false (v := (.bool (t4 != t6))) rfl rfl rfl rfl (WL.nil ⟨rfl, hx⟩)) ?_
            refine PL.nil ?_
            exact ⟨rfl, rfl, rfl, rfl, rfl, rfl, rfl, rfl, rfl, rfl, rfl, congrArg Value.bool (or_f hc3)⟩
          · skip
            refine PL.reset (i := 67) (v := .bool true) (congrArg Value.bool hc3) ?_
            refine PL.of (fun _ w8 _ hx => O.skip rfl rfl (WL.nil ⟨rfl, hx⟩)) ?_
            refine PL.of (fun _ w8 _ hx => O.skip rfl rfl (WL.nil ⟨rfl, hx⟩)) ?_
            refine PL.of (fun _ w8 _ hx => O.skip rfl rfl (WL.nil ⟨rfl, hx⟩)) ?_
            refine PL.of (fun _ w8 _ hx => O.pick_true (v := (.bool true)) rfl rfl rfl rfl (WL.nil ⟨rfl, hx⟩)) ?_
            refine PL.nil ?_
            exact ⟨rfl, rfl, rfl, rfl, rfl, rfl, rfl, rfl, rfl, rfl, rfl, congrArg Value.bool (or_t hc3)⟩
        · skip
          rintro f ⟨hf1, hf3, hf4, hf7, hf8, hf9, hf10, hf11, hf12, hf13, hf14, hf71⟩
          obtain ⟨u2, rfl⟩ : ∃ u2, f = (upd (upd (upd (upd (upd (upd (upd (upd (upd (upd (upd (upd u2 1 (.pointer (some ⟨b1, 0, none⟩))) 3 v2) 4 (.int .i64 t4)) 7 v4) 8 (.int .i64 t8)) 9 v5) 10 (.int .i64 t10)) 11 (.pointer (some ⟨b2, 0, none⟩))) 12 (.int .i64 t12)) 13 (.pointer (some ⟨b3, 0, none⟩))) 14 (.int .i64 t14)) 71 (.bool (b4 || (t4 != t6)))) := ⟨f, by rw [upd_self hf1, upd_self hf3, upd_self hf4, upd_self hf7, upd_self hf8, upd_self hf9, upd_self hf10, upd_self hf11, upd_self hf12, upd_self hf13, upd_self hf14, upd_self hf71]⟩
          refine PL.of (fun _ w8 _ hx => O.move (v := (.bool (b4 || (t4 != t6)))) rfl rfl rfl (WL.nil ⟨rfl, hx⟩)) ?_
          refine PL.cut 5 (fun f => f 1 = (.pointer (some ⟨b1, 0, none⟩)) ∧ f 3 = v2 ∧ f 4 = (.int .i64 t4) ∧ f 7 = v4 ∧ f 8 = (.int .i64 t8) ∧ f 10 = (.int .i64 t10) ∧ f 11 = (.pointer (some ⟨b2, 0, none⟩)) ∧ f 12 = (.int .i64 t12) ∧ f 13 = (.pointer (some ⟨b3, 0, none⟩)) ∧ f 14 = (.int .i64 t14) ∧ f 77 = .bool b5) ?_ ?_
          · skip
            rcases ite_some hm2 with ⟨hc4, hm2⟩ | ⟨hc4, hm2⟩
            · skip
              refine PL.reset (i := 72) (v := .bool true) (congrArg Value.bool hc4) ?_
              refine PL.of (fun _ w8 _ hx => O.skip rfl rfl (WL.nil ⟨rfl, hx⟩)) ?_
              refine PL.of (fun _ w8 _ hx => O.skip rfl rfl (WL.nil ⟨rfl, hx⟩)) ?_
              refine PL.of (fun _ w8 _ hx => O.skip rfl rfl (WL.nil ⟨rfl, hx⟩)) ?_
              refine PL.of (fun _ w8 _ hx => O.skip rfl rfl (WL.nil ⟨rfl, hx⟩)) ?_
              refine PL.of (fun _ w8 _ hx => O.pick_true (v := (.bool true)) rfl rfl rfl rfl (WL.nil ⟨rfl, hx⟩)) ?_
              refine PL.nil ?_
              have hq : true = b5 := Option.some.inj (show some true = some b5 from hm2)
              subst hq
              exact ⟨rfl, rfl, rfl, rfl, rfl, rfl, rfl, rfl, rfl, rfl, rfl⟩
            · skip
              refine PL.reset (i := 72) (v := .bool false) (congrArg Value.bool hc4) ?_
              refine PL.of (fun _ w8 _ hx => O.move (v := v4) rfl rfl rfl (WL.nil ⟨rfl, hx⟩)) ?_
              refine PL.of (fun _ w8 _ hx => O.move (v := v5) rfl rfl rfl (WL.nil ⟨rfl, hx⟩)) ?_
              obtain ⟨t18, hy12, hm2⟩ := bind_some hm2
              refine PL.of (fun _ w8 _ hx => by have H := H.ext hx; exact O.call Try.call26 rfl rfl rfl (c_noongunref06_SameInts _ _ (H.own 3 rfl) _ _ (H.own 4 rfl) hy12) (by rintro _ _ hb rfl; exact WL.nil ⟨rfl, hx.trans (hb.mono hx.size)⟩)) ?_
              refine PL.of (fun _ w8 _ hx => O.not rfl rfl rfl (WL.nil ⟨rfl, hx⟩)) ?_
              refine PL.of (fun _ w8 _ hx => O.pick_false (v := (.bool (!t18))) rfl rfl rfl rfl (WL.nil ⟨rfl, hx⟩)) ?_
              refine PL.nil ?_
              have hq : (!t18) = b5 := Option.some.inj (show some (!t18) = some b5 from hm2)
              subst hq
              exact ⟨rfl, rfl, rfl, rfl, rfl, rfl, rfl, rfl, rfl, rfl, rfl⟩
          · skip
            rintro f ⟨hf1, hf3, hf4, hf7, hf8, hf10, hf11, hf12, hf13, hf14, hf77⟩
            obtain ⟨u3, rfl⟩ : ∃ u3, f = (upd (upd (upd (upd (upd (upd (upd (upd (upd (upd (upd u3 1 (.pointer (some ⟨b1, 0, none⟩))) 3 v2) 4 (.int .i64 t4)) 7 v4) 8 (.int .i64 t8)) 10 (.int .i64 t10)) 11 (.pointer (some ⟨b2, 0, none⟩))) 12 (.int .i64 t12)) 13 (.pointer (some ⟨b3, 0, none⟩))) 14 (.int .i64 t14)) 77 (.bool b5)) := ⟨f, by rw [upd_self hf1, upd_self hf3, upd_self hf4, upd_self hf7, upd_self hf8, upd_self hf10, upd_self hf11, upd_self hf12, upd_self hf13, upd_self hf14, upd_self hf77]⟩
            refine PL.of (fun _ w8 _ hx => O.move (v := (.bool b5)) rfl rfl rfl (WL.nil ⟨rfl, hx⟩)) ?_
            refine PL.cut 4 (fun f => f 1 = (.pointer (some ⟨b1, 0, none⟩)) ∧ f 3 = v2 ∧ f 4 = (.int .i64 t4) ∧ f 7 = v4 ∧ f 11 = (.pointer (some ⟨b2, 0, none⟩)) ∧ f 12 = (.int .i64 t12) ∧ f 13 = (.pointer (some ⟨b3, 0, none⟩)) ∧ f 14 = (.int .i64 t14) ∧ f 82 = .bool (b5 || (t8 != t10))) ?_ ?_
            · skip
              rcases bool_ft b5 with hc5 | hc5
              · skip
                refine PL.reset (i := 78) (v := .bool false) (congrArg Value.bool hc5) ?_
                refine PL.of (fun _ w8 _ hx => O.move (v := (.int .i64 t8)) rfl rfl rfl (WL.nil ⟨rfl, hx⟩)) ?_
                refine PL.of (fun _ w8 _ hx => O.move (v := (.int .i64 t10)) rfl rfl rfl (WL.nil ⟨rfl, hx⟩)) ?_
                refine PL.of (fun _ w8 _ hx => O.neq rfl rfl rfl rfl (WL.nil ⟨rfl, hx⟩)) ?_
                refine PL.of (fun _ w8 _ hx => O.pick_false (v := (.bool (t8 != t10))) rfl rfl rfl rfl (WL.nil ⟨rfl, hx⟩)) ?_
                refine PL.nil ?_
                exact ⟨rfl, rfl, rfl, rfl, rfl, rfl, rfl, rfl, congrArg Value.bool (or_f hc5)⟩
              · skip
                refine PL.reset (i := 78) (v := .bool true) (congrArg Value.bool hc5) ?_
                refine PL.of (fun _ w8 _ hx => O.skip rfl rfl (WL.nil ⟨rfl, hx⟩)) ?_
                refine PL.of (fun _ w8 _ hx => O.skip rfl rfl (WL.nil ⟨rfl, hx⟩)) ?_
                refine PL.of (fun _ w8 _ hx => O.skip rfl rfl (WL.nil ⟨rfl, hx⟩)) ?_
                refine PL.of (fun _ w8 _ hx => O.pick_true (v := (.bool true)) rfl rfl rfl rfl (WL.nil ⟨rfl, hx⟩)) ?_
                refine PL.nil ?_
                exact ⟨rfl, rfl, rfl, rfl, rfl, rfl, rfl, rfl, congrArg Value.bool (or_t hc5)⟩
            · skip
              rintro f ⟨hf1, hf3, hf4, hf7, hf11, hf12, hf13, hf14, hf82⟩
              obtain ⟨u4, rfl⟩ : ∃ u4, f = (upd (upd (upd (upd (upd (upd (upd (upd (upd u4 1 (.pointer (some ⟨b1, 0, none⟩))) 3 v2) 4 (.int .i64 t4)) 7 v4) 11 (.pointer (some ⟨b2, 0, none⟩))) 12 (.int .i64 t12)) 13 (.pointer (some ⟨b3, 0, none⟩))) 14 (.int .i64 t14)) 82 (.bool (b5 || (t8 != t10)))) := ⟨f, by rw [upd_self hf1, upd_self hf3, upd_self hf4, upd_self hf7, upd_self hf11, upd_self hf12, upd_self hf13, upd_self hf14, upd_self hf82]⟩
              refine PL.of (fun _ w8 _ hx => O.move (v := (.bool (b5 || (t8 != t10)))) rfl rfl rfl (WL.nil ⟨rfl, hx⟩)) ?_
              refine PL.cut 4 (fun f => f 1 = (.pointer (some ⟨b1, 0, none⟩)) ∧ f 3 = v2 ∧ f 4 = (.int .i64 t4) ∧ f 7 = v4 ∧ f 11 = (.pointer (some ⟨b2, 0, none⟩)) ∧ f 12 = (.int .i64 t12) ∧ f 14 = (.int .i64 t14) ∧ f 87 = .bool ((b5 || (t8 != t10)) || (!(t11 == t13)))) ?_ ?_
              · skip
                rcases bool_ft (b5 || (t8 != t10)) with hc6 | hc6
                · skip
                  refine PL.reset (i := 83) (v := .bool false) (congrArg Value.bool hc6) ?_
                  refine PL.of (fun _ w8 _ hx => by have H := H.ext hx; exact O.loadA [(.int .i64 t11.N), (.int .i64 t11.D)] ag48 rfl rfl rfl rfl (H.cell 5 rfl) (WL.nil ⟨rfl, hx⟩)) ?_
                  refine PL.of (fun _ w8 _ hx => by have H := H.ext hx; exact O.loadA [(.int .i64 t13.N), (.int .i64 t13.D)] ag48 rfl rfl rfl rfl (H.cell 6 rfl) (WL.nil ⟨rfl, hx⟩)) ?_
                  refine PL.of (fun _ w8 _ hx => O.neqSt t11 t13 eq48 rfl rfl rfl rfl (WL.nil ⟨rfl, hx⟩)) ?_
                  refine PL.of (fun _ w8 _ hx => O.pick_false (v := (.bool (!(t11 == t13)))) rfl rfl rfl rfl (WL.nil ⟨rfl, hx⟩)) ?_
                  refine PL.nil ?_
                  exact ⟨rfl, rfl, rfl, rfl, rfl, rfl, rfl, congrArg Value.bool (or_f hc6)⟩
                · skip
                  refine PL.reset (i := 83) (v := .bool true) (congrArg Value.bool hc6) ?_
                  refine PL.of (fun _ w8 _ hx => O.skip rfl rfl (WL.nil ⟨rfl, hx⟩)) ?_
                  refine PL.of (fun _ w8 _ hx => O.skip rfl rfl (WL.nil ⟨rfl, hx⟩)) ?_
                  refine PL.of (fun _ w8 _ hx => O.skip rfl rfl (WL.nil ⟨rfl, hx⟩)) ?_
                  refine PL.of (fun _ w8 _ hx => O.pick_true (v := (.bool true)) rfl rfl rfl rfl (WL.nil ⟨rfl, hx⟩)) ?_
                  refine PL.nil ?_
                  exact ⟨rfl, rfl, rfl, rfl, rfl, rfl, rfl, congrArg Value.bool (or_t hc6)⟩
              · skip
                rintro f ⟨hf1, hf3, hf4, hf7, hf11, hf12, hf14, hf87⟩
                obtain ⟨u5, rfl⟩ : ∃ u5, f = (upd (upd (upd (upd (upd (upd (upd (upd u5 1 (.pointer (some ⟨b1, 0, none⟩))) 3 v2) 4 (.int .i64 t4)) 7 v4) 11 (.pointer (some ⟨b2, 0, none⟩))) 12 (.int .i64 t12)) 14 (.int .i64 t14)) 87 (.bool ((b5 || (t8 != t10)) || (!(t11 == t13))))) := ⟨f, by rw [upd_self hf1, upd_self hf3, upd_self hf4, upd_self hf7, upd_self hf11, upd_self hf12, upd_self hf14, upd_self hf87]⟩
                refine PL.of (fun _ w8 _ hx => O.move (v := (.bool ((b5 || (t8 != t10)) || (!(t11 == t13))))) rfl rfl rfl (WL.nil ⟨rfl, hx⟩)) ?_
                refine PL.cut 4 (fun f => f 1 = (.pointer (some ⟨b1, 0, none⟩)) ∧ f 3 = v2 ∧ f 4 = (.int .i64 t4) ∧ f 7 = v4 ∧ f 11 = (.pointer (some ⟨b2, 0, none⟩)) ∧ f 12 = (.int .i64 t12) ∧ f 92 = .bool (((b5 || (t8 != t10)) || (!(t11 == t13))) || (t12 != t14))) ?_ ?_
                · skip
                  rcases bool_ft ((b5 || (t8 != t10)) || (!(t11 == t13))) with hc7 | hc7
                  · skip
                    refine PL.reset (i := 88) (v := .bool false) (congrArg Value.bool hc7) ?_
                    refine PL.of (fun _ w8 _ hx => O.move (v := (.int .i64 t12)) rfl rfl rfl (WL.nil ⟨rfl, hx⟩)) ?_
                    refine PL.of (fun _ w8 _ hx => O.move (v := (.int .i64 t14)) rfl rfl rfl (WL.nil ⟨rfl, hx⟩)) ?_
                    refine PL.of (fun _ w8 _ hx => O.neq rfl rfl rfl rfl (WL.nil ⟨rfl, hx⟩)) ?_
                    refine PL.of (fun _ w8 _ hx => O.pick_false (v := (.bool (t12 != t14))) rfl rfl rfl rfl (WL.nil ⟨rfl, hx⟩)) ?_
                    refine PL.nil ?_
                    exact ⟨rfl, rfl, rfl, rfl, rfl, rfl, congrArg Value.bool (or_f hc7)⟩
                  · skip
                    refine PL.reset (i := 88) (v := .bool true) (congrArg Value.bool hc7) ?_
                    refine PL.of (fun _ w8 _ hx => O.skip rfl rfl (WL.nil ⟨rfl, hx⟩)) ?_
                    refine PL.of (fun _ w8 _ hx => O.skip rfl rfl (WL.nil ⟨rfl, hx⟩)) ?_
                    refine PL.of (fun _ w8 _ hx => O.skip rfl rfl (WL.nil ⟨rfl, hx⟩)) ?_
                    refine PL.of (fun _ w8 _ hx => O.pick_true (v := (.bool true)) rfl rfl rfl rfl (WL.nil ⟨rfl, hx⟩)) ?_
                    refine PL.nil ?_
                    exact ⟨rfl, rfl, rfl, rfl, rfl, rfl, congrArg Value.bool (or_t hc7)⟩
                · skip
                  rintro f ⟨hf1, hf3, hf4, hf7, hf11, hf12, hf92⟩
                  obtain ⟨u6, rfl⟩ : ∃ u6, f = (upd (upd (upd (upd (upd (upd (upd u6 1 (.pointer (some ⟨b1, 0, none⟩))) 3 v2) 4 (.int .i64 t4)) 7 v4) 11 (.pointer (some ⟨b2, 0, none⟩))) 12 (.int .i64 t12)) 92 (.bool (((b5 || (t8 != t10)) || (!(t11 == t13))) || (t12 != t14)))) := ⟨f, by rw [upd_self hf1, upd_self hf3, upd_self hf4, upd_self hf7, upd_self hf11, upd_self hf12, upd_self hf92]⟩
                  refine PL.nil ?_
                  exact ⟨rfl, rfl, rfl, rfl, rfl, rfl, rfl⟩
    · skip
      rintro f w ⟨hf1, hf3, hf4, hf7, hf11, hf12, hf92⟩ hmd hx
      have H := H.ext hx
      obtain ⟨u7, rfl⟩ : ∃ u7, f = (upd (upd (upd (upd (upd (upd (upd u7 1 (.pointer (some ⟨b1, 0, none⟩))) 3 v2) 4 (.int .i64 t4)) 7 v4) 11 (.pointer (some ⟨b2, 0, none⟩))) 12 (.int .i64 t12)) 92 (.bool (((b5 || (t8 != t10)) || (!(t11 == t13))) || (t12 != t14)))) := ⟨f, by rw [upd_self hf1, upd_self hf3, upd_self hf4, upd_self hf7, upd_self hf11, upd_self hf12, upd_self hf92]⟩
      refine WL.nil ?_
      rcases ite_some hm with ⟨hc8, hm⟩ | ⟨hc8, hm⟩
      · refine W.cond_true (congrArg Value.bool hc8) ?_
        refine W.seq ?_
        refine W.region ?_
        refine O.assign (v := (.bool false)) rfl rfl rfl ?_
        refine WL.nil ?_
        refine W.ret ?_
        have hq : false = r0 := Option.some.inj (show some false = some r0 from hm)
        subst hq
        exact ends1 Try.results9 rfl ⟨_, rfl, H.base, rfl⟩
      · refine W.cond_false (congrArg Value.bool hc8) ?_
        refine W.skip ?_
        refine W.seq ?_
        refine W.seq ?_
        refine W.region ?_
        refine O.move (v := (.int .i64 t4)) rfl rfl rfl ?_
        refine O.neq rfl rfl rfl rfl ?_
        refine WL.nil ?_
        rcases ite_some hm with ⟨hc9, hm⟩ | ⟨hc9, hm⟩
        · refine W.cond_true (congrArg Value.bool hc9) ?_
          refine W.seq ?_
          refine W.region ?_
          obtain ⟨t19, hy13, hm⟩ := bind_some hm
          refine O.call Try.call14 rfl rfl rfl (c_noongunlaw06_awake  hy13) ?_
          rintro _ w15 hb13 rfl
          have H := H.ext hb13
          refine O.assign (v := (.bool t19)) rfl rfl rfl ?_
          refine WL.nil ?_
          refine W.ret ?_
          have hq : t19 = r0 := Option.some.inj (show some t19 = some r0 from hm)
          subst hq
          exact ends1 Try.results9 rfl ⟨_, rfl, H.base, rfl⟩
        · refine W.cond_false (congrArg Value.bool hc9) ?_
          refine W.skip ?_
          refine W.seq ?_
          refine W.region ?_
          refine O.assign (v := (.int .i64 0)) rfl rfl rfl ?_
          refine WL.nil ?_
          refine W.seq ?_
          refine W.seq ?_
          refine W.region ?_
          refine O.move (v := v2) rfl rfl rfl ?_
          refine O.lenS Try.underlying22 (H.own 1 rfl) rfl rfl rfl ?_
          refine O.move (v := (.int .i64 0)) rfl rfl rfl ?_
          refine WL.nil ?_
          obtain ⟨o1, hm3, hm⟩ := bind_some hm
          refine W.via (fun f w => ∃ s1 : Int, o1 = .next s1 ∧ f 1 = (.pointer (some ⟨b1, 0, none⟩)) ∧ f 3 = v2 ∧ f 11 = (.pointer (some ⟨b2, 0, none⟩)) ∧ f 12 = (.int .i64 t12) ∧ f 15 = (.int .i64 s1) ∧ Inv w0 w [boxI b1 24 [(.string a0.Name), va0_0], ownI (α := Int) v2 3 t3, boxI b2 48 [(.int .i64 t11.N), (.int .i64 t11.D)]]) ?_ ?_
          · skip
            refine W.block ?_
            have hbdik1 := (H.own 1 rfl).len_le
            have H := H.keep [0, 1, 3, 5] [boxI b1 24 [(.string a0.Name), va0_0], ownI (α := Int) v2 3 t3, ownI (α := Int) v4 3 t7, boxI b2 48 [(.int .i64 t11.N), (.int .i64 t11.D)]] rfl (by decide)
            refine W.rangeN (i := 0) hm3 (fun rem ik1 s f w => ∃ z2 : Int, z2 = s ∧ (ik1 : Int) + rem = max 0 ((t3.length : Nat) : Int) ∧ f 98 = .int .i64 (ik1 : Int) ∧ f 97 = (.int .i64 ((t3.length : Nat) : Int)) ∧ f 1 = (.pointer (some ⟨b1, 0, none⟩)) ∧ f 3 = v2 ∧ f 7 = v4 ∧ f 11 = (.pointer (some ⟨b2, 0, none⟩)) ∧ f 12 = (.int .i64 t12) ∧ f 15 = (.int .i64 z2) ∧ f 96 = v2 ∧ Inv w0 w [boxI b1 24 [(.string a0.Name), va0_0], ownI (α := Int) v2 3 t3, ownI (α := Int) v4 3 t7, boxI b2 48 [(.int .i64 t11.N), (.int .i64 t11.D)]]) ?_ ?_ ?_
            · skip
              exact ⟨_, rfl, rangeN_start, rfl, rfl, rfl, rfl, rfl, rfl, rfl, rfl, rfl, H⟩
            · skip
              rintro k ik1 _ st f w ⟨z2, rfl, hdropk1, hf98, hf97, hf1, hf3, hf7, hf11, hf12, hf15, hf96, H⟩ hm4
              have hltk1 := rangeN_lt hdropk1
              obtain ⟨u8, rfl⟩ : ∃ u8, f = (upd (upd (upd (upd (upd (upd (upd (upd (upd u8 98 (.int .i64 (ik1 : Int))) 97 (.int .i64 ((t3.length : Nat) : Int))) 1 (.pointer (some ⟨b1, 0, none⟩))) 3 v2) 7 v4) 11 (.pointer (some ⟨b2, 0, none⟩))) 12 (.int .i64 t12)) 15 (.int .i64 z2)) 96 v2) := ⟨f, by rw [upd_self hf98, upd_self hf97, upd_self hf1, upd_self hf3, upd_self hf7, upd_self hf11, upd_self hf12, upd_self hf15, upd_self hf96]⟩
              have hinck1 := addI_lt hltk1 hbdik1
              refine W.seq ?_
              refine W.region ?_
              refine O.lss rfl rfl rfl rfl ?_
              refine WL.nil ?_
              refine W.seq ?_
              refine W.cond_true (congrArg Value.bool (decide_eq_true hltk1)) ?_
              refine W.skip ?_
              refine W.seq ?_
              obtain ⟨o2, hm5, hm4⟩ := bind_some hm4
              refine W.via (fun f w => ∃ s2 : Int, o2 = .next s2 ∧ f 1 = (.pointer (some ⟨b1, 0, none⟩)) ∧ f 3 = v2 ∧ f 7 = v4 ∧ f 11 = (.pointer (some ⟨b2, 0, none⟩)) ∧ f 12 = (.int .i64 t12) ∧ f 15 = (.int .i64 s2) ∧ f 96 = v2 ∧ f 97 = (.int .i64 ((t3.length : Nat) : Int)) ∧ f 98 = (.int .i64 (ik1 : Int)) ∧ Inv w0 w [boxI b1 24 [(.string a0.Name), va0_0], ownI (α := Int) v2 3 t3, ownI (α := Int) v4 3 t7, boxI b2 48 [(.int .i64 t11.N), (.int .i64 t11.D)]]) ?_ ?_
              · skip
                refine W.block ?_
                refine W.seq ?_
                refine W.region ?_
                refine O.move (v := (.int .i64 (ik1 : Int))) rfl rfl rfl ?_
                obtain ⟨x1, hx1, hm5⟩ := bind_some hm5
                refine O.indexAddr Try.underlying22 sz3 (H.own 1 rfl) hx1 rfl rfl rfl rfl ?_
                intro p1 hp1
                refine O.load sc3 rfl rfl rfl (hp1.flat 0 _ rfl) ?_
                refine O.assign (v := (.int .i64 (ik1 : Int))) rfl rfl rfl ?_
                refine O.assign (v := (.int .i64 x1)) rfl rfl rfl ?_
                refine WL.nil ?_
                refine W.seq ?_
                refine W.region ?_
                refine O.move (v := (.int .i64 z2)) rfl rfl rfl ?_
                refine O.move (v := (.int .i64 x1)) rfl rfl rfl ?_
                obtain ⟨t20, ht20, hm5⟩ := bind_some hm5
                refine O.add rfl rfl rfl rfl ht20 ?_
                refine O.assign (v := (.int .i64 t20)) rfl rfl rfl ?_
                refine WL.nil ?_
                refine W.seq ?_
                refine W.region ?_
                refine O.move (v := (.int .i64 (ik1 : Int))) rfl rfl rfl ?_
                obtain ⟨t21, ht21, hm5⟩ := bind_some hm5
                refine O.add rfl rfl rfl rfl ht21 ?_
                obtain ⟨t22, ht22, hm5⟩ := bind_some hm5
                refine O.rem rfl rfl rfl rfl ht22 ?_
                refine O.eql rfl rfl rfl rfl ?_
                refine WL.nil ?_
                obtain ⟨o3, hm6, hm5⟩ := bind_some hm5
                refine W.via (fun f w => o3 = .next () ∧ f 1 = (.pointer (some ⟨b1, 0, none⟩)) ∧ f 3 = v2 ∧ f 7 = v4 ∧ f 11 = (.pointer (some ⟨b2, 0, none⟩)) ∧ f 12 = (.int .i64 t12) ∧ f 15 = (.int .i64 t20) ∧ f 96 = v2 ∧ f 97 = (.int .i64 ((t3.length : Nat) : Int)) ∧ f 98 = (.int .i64 (ik1 : Int)) ∧ Inv w0 w [boxI b1 24 [(.string a0.Name), va0_0], ownI (α := Int) v2 3 t3, ownI (α := Int) v4 3 t7, boxI b2 48 [(.int .i64 t11.N), (.int .i64 t11.D)]]) ?_ ?_
                · skip
                  rcases ite_some hm6 with ⟨hc10, hm6⟩ | ⟨hc10, hm6⟩
                  · refine W.cond_true (congrArg Value.bool hc10) ?_
                    refine W.seq ?_
                    refine W.region ?_
                    refine O.assign (v := (.int .i64 0)) rfl rfl rfl ?_
                    refine WL.nil ?_
                    refine W.seq ?_
                    refine W.seq ?_
                    refine W.region ?_
                    refine O.move (v := v2) rfl rfl rfl ?_
                    refine O.move (v := (.int .i64 (ik1 : Int))) rfl rfl rfl ?_
                    obtain ⟨t23, ht23, hm6⟩ := bind_some hm6
                    refine O.sub rfl rfl rfl rfl ht23 ?_
                    refine O.move (v := (.int .i64 (ik1 : Int))) rfl rfl rfl ?_
                    obtain ⟨t24, ht24, hm6⟩ := bind_some hm6
                    refine O.add rfl rfl rfl rfl ht24 ?_
                    obtain ⟨t25, ht25, hm6⟩ := bind_some hm6
                    refine O.sliceLH Try.underlying22 sz3 (H.own 1 rfl) ht25 rfl rfl rfl rfl rfl ?_
                    intro v6 hs2
                    refine O.lenS Try.underlying22 hs2 rfl rfl rfl ?_
                    refine O.move (v := (.int .i64 0)) rfl rfl rfl ?_
                    refine WL.nil ?_
                    obtain ⟨s3, hm7, hm6⟩ := bind_some hm6
                    refine W.via (fun f w => f 1 = (.pointer (some ⟨b1, 0, none⟩)) ∧ f 3 = v2 ∧ f 7 = v4 ∧ f 11 = (.pointer (some ⟨b2, 0, none⟩)) ∧ f 12 = (.int .i64 t12) ∧ f 15 = (.int .i64 t20) ∧ f 16 = (.int .i64 (ik1 : Int)) ∧ f 18 = (.int .i64 s3) ∧ f 96 = v2 ∧ f 97 = (.int .i64 ((t3.length : Nat) : Int)) ∧ f 98 = (.int .i64 (ik1 : Int)) ∧ Inv w0 w [boxI b1 24 [(.string a0.Name), va0_0], ownI (α := Int) v2 3 t3, ownI (α := Int) v4 3 t7, boxI b2 48 [(.int .i64 t11.N), (.int .i64 t11.D)]]) ?_ ?_
                    · skip
                      refine W.block ?_
                      refine W.rangeL (i := 0) hm7 (fun rem ik2 s f w => ∃ z5 : Int, z5 = s ∧ t25.drop ik2 = rem ∧ f 117 = .int .i64 (ik2 : Int) ∧ f 116 = (.int .i64 ((t25.length : Nat) : Int)) ∧ f 1 = (.pointer (some ⟨b1, 0, none⟩)) ∧ f 3 = v2 ∧ f 7 = v4 ∧ f 11 = (.pointer (some ⟨b2, 0, none⟩)) ∧ f 12 = (.int .i64 t12) ∧ f 15 = (.int .i64 t20) ∧ f 16 = (.int .i64 (ik1 : Int)) ∧ f 18 = (.int .i64 z5) ∧ f 96 = v2 ∧ f 97 = (.int .i64 ((t3.length : Nat) : Int)) ∧ f 98 = (.int .i64 (ik1 : Int)) ∧ f 115 = v6 ∧ SliceR w v6 t25 ∧ Inv w0 w [boxI b1 24 [(.string a0.Name), va0_0], ownI (α := Int) v2 3 t3, ownI (α := Int) v4 3 t7, boxI b2 48 [(.int .i64 t11.N), (.int .i64 t11.D)]]) ?_ ?_ ?_
                      · skip
                        exact ⟨_, rfl, List.drop_zero, rfl, rfl, rfl, rfl, rfl, rfl, rfl, rfl, rfl, rfl, rfl, rfl, rfl, rfl, hs2, H⟩
                      · skip
                        rintro yk2 xs ik2 _ st f w ⟨z5, rfl, hdropk2, hf117, hf116, hf1, hf3, hf7, hf11, hf12, hf15, hf16, hf18, hf96, hf97, hf98, hf115, hs5, H⟩ hm8
                        have hltk2 := drop_lt hdropk2; have hixk2 := drop_idx hdropk2
                        obtain ⟨u9, rfl⟩ : ∃ u9, f = (upd (upd (upd (upd (upd (upd (upd (upd (upd (upd (upd (upd (upd (upd u9 117 (.int .i64 (ik2 : Int))) 116 (.int .i64 ((t25.length : Nat) : Int))) 1 (.pointer (some ⟨b1, 0, none⟩))) 3 v2) 7 v4) 11 (.pointer (some ⟨b2, 0, none⟩))) 12 (.int .i64 t12)) 15 (.int .i64 t20)) 16 (.int .i64 (ik1 : Int))) 18 (.int .i64 z5)) 96 v2) 97 (.int .i64 ((t3.length : Nat) : Int))) 98 (.int .i64 (ik1 : Int))) 115 v6) := ⟨f, by rw [upd_self hf117, upd_self hf116, upd_self hf1, upd_self hf3, upd_self hf7, upd_self hf11, upd_self hf12, upd_self hf15, upd_self hf16, upd_self hf18, upd_self hf96, upd_self hf97, upd_self hf98, upd_self hf115]⟩
                        have hinck2 := addI_lt hltk2 hs5.len_le
                        refine W.seq ?_
                        refine W.region ?_
                        refine O.lss rfl rfl rfl rfl ?_
                        refine WL.nil ?_
                        refine W.seq ?_
                        refine W.cond_true (congrArg Value.bool (decide_eq_true hltk2)) ?_
                        refine W.skip ?_
                        refine W.seq ?_
                        refine W.block ?_
                        refine W.seq ?_
                        refine W.region ?_
                        refine O.indexAddr Try.underlying22 sz3 hs5 hixk2 rfl rfl rfl rfl ?_
                        intro p2 hp2
                        refine O.load sc3 rfl rfl rfl (hp2.flat 0 _ rfl) ?_
                        refine O.assign (v := (.int .i64 yk2)) rfl rfl rfl ?_
                        refine WL.nil ?_
                        refine W.region ?_
                        refine O.move (v := (.int .i64 z5)) rfl rfl rfl ?_
                        refine O.move (v := (.int .i64 yk2)) rfl rfl rfl ?_
                        obtain ⟨t26, ht26, hm8⟩ := bind_some hm8
                        refine O.add rfl rfl rfl rfl ht26 ?_
                        refine O.assign (v := (.int .i64 t26)) rfl rfl rfl ?_
                        refine WL.nil ?_
                        refine W.region ?_
                        refine O.add rfl rfl rfl rfl hinck2 ?_
                        refine O.move (v := .int .i64 ((ik2 : Int) + 1)) rfl rfl rfl ?_
                        refine WL.nil ?_
                        obtain rfl := Option.some.inj hm8
                        exact ⟨_, rfl, _, rfl, drop_next hdropk2, rfl, rfl, rfl, rfl, rfl, rfl, rfl, rfl, rfl, rfl, rfl, rfl, rfl, rfl, hs5, H⟩
                      · skip
                        rintro ik2 _ f w ⟨z5, rfl, hdropk2, hf117, hf116, hf1, hf3, hf7, hf11, hf12, hf15, hf16, hf18, hf96, hf97, hf98, hf115, hs5, H⟩ hfin
                        have hltk2 := drop_end hdropk2
                        obtain ⟨u10, rfl⟩ : ∃ u10, f = (upd (upd (upd (upd (upd (upd (upd (upd (upd (upd (upd (upd (upd (upd u10 117 (.int .i64 (ik2 : Int))) 116 (.int .i64 ((t25.length : Nat) : Int))) 1 (.pointer (some ⟨b1, 0, none⟩))) 3 v2) 7 v4) 11 (.pointer (some ⟨b2, 0, none⟩))) 12 (.int .i64 t12)) 15 (.int .i64 t20)) 16 (.int .i64 (ik1 : Int))) 18 (.int .i64 z5)) 96 v2) 97 (.int .i64 ((t3.length : Nat) : Int))) 98 (.int .i64 (ik1 : Int))) 115 v6) := ⟨f, by rw [upd_self hf117, upd_self hf116, upd_self hf1, upd_self hf3, upd_self hf7, upd_self hf11, upd_self hf12, upd_self hf15, upd_self hf16, upd_self hf18, upd_self hf96, upd_self hf97, upd_self hf98, upd_self hf115]⟩
                        refine W.seq ?_
                        refine W.region ?_
                        refine O.lss rfl rfl rfl rfl ?_
                        refine WL.nil ?_
                        refine W.seq ?_
                        refine W.cond_false (congrArg Value.bool (decide_eq_false hltk2)) ?_
                        refine W.exit ?_
                        have hq : z5 = s3 := hfin
                        subst hq
                        refine xT rfl ?_
                        exact ⟨rfl, rfl, rfl, rfl, rfl, rfl, rfl, rfl, rfl, rfl, rfl, H⟩
                    · skip
                      rintro f w ⟨hf1, hf3, hf7, hf11, hf12, hf15, hf16, hf18, hf96, hf97, hf98, H⟩
                      obtain ⟨u11, rfl⟩ : ∃ u11, f = (upd (upd (upd (upd (upd (upd (upd (upd (upd (upd (upd u11 1 (.pointer (some ⟨b1, 0, none⟩))) 3 v2) 7 v4) 11 (.pointer (some ⟨b2, 0, none⟩))) 12 (.int .i64 t12)) 15 (.int .i64 t20)) 16 (.int .i64 (ik1 : Int))) 18 (.int .i64 s3)) 96 v2) 97 (.int .i64 ((t3.length : Nat) : Int))) 98 (.int .i64 (ik1 : Int))) := ⟨f, by rw [upd_self hf1, upd_self hf3, upd_self hf7, upd_self hf11, upd_self hf12, upd_self hf15, upd_self hf16, upd_self hf18, upd_self hf96, upd_self hf97, upd_self hf98]⟩
                      refine W.seq ?_
                      refine W.region ?_
                      refine O.move (v := (.int .i64 (ik1 : Int))) rfl rfl rfl ?_
                      obtain ⟨t27, ht27, hm6⟩ := bind_some hm6
                      refine O.quo rfl rfl rfl rfl ht27 ?_
                      refine O.move (v := v4) rfl rfl rfl ?_
                      refine O.lenS Try.underlying22 (H.own 2 rfl) rfl rfl rfl ?_
                      refine O.geq rfl rfl rfl rfl ?_
                      refine O.move (v := (.bool (decide (((t7.length : Nat) : Int) ≤ t27)))) rfl rfl rfl ?_
                      obtain ⟨b6, hm9, hm6⟩ := bind_some hm6
                      refine WL.cut 8 (fun f w => f 1 = (.pointer (some ⟨b1, 0, none⟩)) ∧ f 3 = v2 ∧ f 7 = v4 ∧ f 11 = (.pointer (some ⟨b2, 0, none⟩)) ∧ f 12 = (.int .i64 t12) ∧ f 15 = (.int .i64 t20) ∧ f 96 = v2 ∧ f 97 = (.int .i64 ((t3.length : Nat) : Int)) ∧ f 98 = (.int .i64 (ik1 : Int)) ∧ f 138 = .bool b6 ∧ Inv w0 w [boxI b1 24 [(.string a0.Name), va0_0], ownI (α := Int) v2 3 t3, ownI (α := Int) v4 3 t7, boxI b2 48 [(.int .i64 t11.N), (.int .i64 t11.D)]]) ?_ ?_
                      · skip
                        rcases ite_some hm9 with ⟨hc11, hm9⟩ | ⟨hc11, hm9⟩
                        · skip
                          refine WL.reset (i := 130) (v := .bool true) (congrArg Value.bool hc11) ?_
                          refine O.skip rfl rfl ?_
                          refine O.skip rfl rfl ?_
                          refine O.skip rfl rfl ?_
                          refine O.skip rfl rfl ?_
                          refine O.skip rfl rfl ?_
                          refine O.skip rfl rfl ?_
                          refine O.skip rfl rfl ?_
                          refine O.pick_true (v := (.bool true)) rfl rfl rfl rfl ?_
                          refine WL.nil ?_
                          have hq : true = b6 := Option.some.inj (show some true = some b6 from hm9)
                          subst hq
                          exact ⟨rfl, rfl, rfl, rfl, rfl, rfl, rfl, rfl, rfl, rfl, H⟩
                        · skip
                          refine WL.reset (i := 130) (v := .bool false) (congrArg Value.bool hc11) ?_
                          refine O.move (v := v4) rfl rfl rfl ?_
                          refine O.move (v := (.int .i64 (ik1 : Int))) rfl rfl rfl ?_
                          obtain ⟨t28, ht28, hm9⟩ := bind_some hm9
                          refine O.quo rfl rfl rfl rfl ht28 ?_
                          obtain ⟨x2, hx2, hm9⟩ := bind_some hm9
                          refine O.indexAddr Try.underlying22 sz3 (H.own 2 rfl) hx2 rfl rfl rfl rfl ?_
                          intro p3 hp3
                          refine O.load sc3 rfl rfl rfl (hp3.flat 0 _ rfl) ?_
                          refine O.move (v := (.int .i64 s3)) rfl rfl rfl ?_
                          refine O.neq rfl rfl rfl rfl ?_
                          refine O.pick_false (v := (.bool (x2 != s3))) rfl rfl rfl rfl ?_
                          refine WL.nil ?_
                          have hq : (x2 != s3) = b6 := Option.some.inj (show some (x2 != s3) = some b6 from hm9)
                          subst hq
                          exact ⟨rfl, rfl, rfl, rfl, rfl, rfl, rfl, rfl, rfl, rfl, H⟩
                      · skip
                        rintro f w ⟨hf1, hf3, hf7, hf11, hf12, hf15, hf96, hf97, hf98, hf138, H⟩
                        obtain ⟨u12, rfl⟩ : ∃ u12, f = (upd (upd (upd (upd (upd (upd (upd (upd (upd (upd u12 1 (.pointer (some ⟨b1, 0, none⟩))) 3 v2) 7 v4) 11 (.pointer (some ⟨b2, 0, none⟩))) 12 (.int .i64 t12)) 15 (.int .i64 t20)) 96 v2) 97 (.int .i64 ((t3.length : Nat) : Int))) 98 (.int .i64 (ik1 : Int))) 138 (.bool b6)) := ⟨f, by rw [upd_self hf1, upd_self hf3, upd_self hf7, upd_self hf11, upd_self hf12, upd_self hf15, upd_self hf96, upd_self hf97, upd_self hf98, upd_self hf138]⟩
                        refine WL.nil ?_
                        rcases ite_some hm6 with ⟨hc12, hm6⟩ | ⟨hc12, hm6⟩
                        · refine W.cond_true (congrArg Value.bool hc12) ?_
                          refine W.seq ?_
                          refine W.region ?_
                          refine O.assign (v := (.bool false)) rfl rfl rfl ?_
                          refine WL.nil ?_
                          refine W.ret ?_
                          obtain rfl := Option.some.inj hm6
                          obtain rfl := Option.some.inj hm5
                          obtain rfl := Option.some.inj hm4
                          refine ⟨_, rfl, ?_⟩
                          rintro rfl
                          have hq : false = r0 := Option.some.inj (show some false = some r0 from hm)
                          subst hq
                          exact ends1 Try.results9 rfl ⟨_, rfl, H.base, rfl⟩
                        · refine W.cond_false (congrArg Value.bool hc12) ?_
                          refine W.skip ?_
                          obtain rfl := Option.some.inj hm6
                          exact ⟨rfl, rfl, rfl, rfl, rfl, rfl, rfl, rfl, rfl, rfl, H⟩
                  · refine W.cond_false (congrArg Value.bool hc10) ?_
                    refine W.skip ?_
                    obtain rfl := Option.some.inj hm6
                    exact ⟨rfl, rfl, rfl, rfl, rfl, rfl, rfl, rfl, rfl, rfl, H⟩
                · skip
                  rintro f w ⟨rfl, hf1, hf3, hf7, hf11, hf12, hf15, hf96, hf97, hf98, H⟩
                  obtain ⟨u13, rfl⟩ : ∃ u13, f = (upd (upd (upd (upd (upd (upd (upd (upd (upd u13 1 (.pointer (some ⟨b1, 0, none⟩))) 3 v2) 7 v4) 11 (.pointer (some ⟨b2, 0, none⟩))) 12 (.int .i64 t12)) 15 (.int .i64 t20)) 96 v2) 97 (.int .i64 ((t3.length : Nat) : Int))) 98 (.int .i64 (ik1 : Int))) := ⟨f, by rw [upd_self hf1, upd_self hf3, upd_self hf7, upd_self hf11, upd_self hf12, upd_self hf15, upd_self hf96, upd_self hf97, upd_self hf98]⟩
                  obtain rfl := Option.some.inj hm5
                  exact ⟨_, rfl, rfl, rfl, rfl, rfl, rfl, rfl, rfl, rfl, rfl, H⟩
              · skip
                rintro f w ⟨s2, rfl, hf1, hf3, hf7, hf11, hf12, hf15, hf96, hf97, hf98, H⟩
                obtain ⟨u14, rfl⟩ : ∃ u14, f = (upd (upd (upd (upd (upd (upd (upd (upd (upd u14 1 (.pointer (some ⟨b1, 0, none⟩))) 3 v2) 7 v4) 11 (.pointer (some ⟨b2, 0, none⟩))) 12 (.int .i64 t12)) 15 (.int .i64 s2)) 96 v2) 97 (.int .i64 ((t3.length : Nat) : Int))) 98 (.int .i64 (ik1 : Int))) := ⟨f, by rw [upd_self hf1, upd_self hf3, upd_self hf7, upd_self hf11, upd_self hf12, upd_self hf15, upd_self hf96, upd_self hf97, upd_self hf98]⟩
                refine W.region ?_
                refine O.add rfl rfl rfl rfl hinck1 ?_
                refine O.move (v := .int .i64 ((ik1 : Int) + 1)) rfl rfl rfl ?_
                refine WL.nil ?_
                obtain rfl := Option.some.inj hm4
                exact ⟨_, rfl, _, rfl, rangeN_next hdropk1, rfl, rfl, rfl, rfl, rfl, rfl, rfl, rfl, rfl, H⟩
            · skip
              rintro ik1 _ f w ⟨z2, rfl, hdropk1, hf98, hf97, hf1, hf3, hf7, hf11, hf12, hf15, hf96, H⟩ hfin
              have hltk1 := rangeN_end hdropk1
              obtain ⟨u15, rfl⟩ : ∃ u15, f = (upd (upd (upd (upd (upd (upd (upd (upd (upd u15 98 (.int .i64 (ik1 : Int))) 97 (.int .i64 ((t3.length : Nat) : Int))) 1 (.pointer (some ⟨b1, 0, none⟩))) 3 v2) 7 v4) 11 (.pointer (some ⟨b2, 0, none⟩))) 12 (.int .i64 t12)) 15 (.int .i64 z2)) 96 v2) := ⟨f, by rw [upd_self hf98, upd_self hf97, upd_self hf1, upd_self hf3, upd_self hf7, upd_self hf11, upd_self hf12, upd_self hf15, upd_self hf96]⟩
              refine W.seq ?_
              refine W.region ?_
              refine O.lss rfl rfl rfl rfl ?_
              refine WL.nil ?_
              refine W.seq ?_
              refine W.cond_false (congrArg Value.bool (decide_eq_false hltk1)) ?_
              refine W.exit ?_
              obtain rfl : Ctl.next z2 = o1 := hfin
              have H := H.keep [0, 1, 3] [boxI b1 24 [(.string a0.Name), va0_0], ownI (α := Int) v2 3 t3, boxI b2 48 [(.int .i64 t11.N), (.int .i64 t11.D)]] rfl (by decide)
              refine xT rfl ?_
              exact ⟨_, rfl, rfl, rfl, rfl, rfl, rfl, H⟩
          · skip
            rintro f w ⟨s1, rfl, hf1, hf3, hf11, hf12, hf15, H⟩
            obtain ⟨u16, rfl⟩ : ∃ u16, f = (upd (upd (upd (upd (upd u16 1 (.pointer (some ⟨b1, 0, none⟩))) 3 v2) 11 (.pointer (some ⟨b2, 0, none⟩))) 12 (.int .i64 t12)) 15 (.int .i64 s1)) := ⟨f, by rw [upd_self hf1, upd_self hf3, upd_self hf11, upd_self hf12, upd_self hf15]⟩
            refine W.seq ?_
            obtain ⟨t29, ht29, hm⟩ := bind_some hm
            obtain ⟨x3, hx3, hm⟩ := bind_some hm
            obtain ⟨p4, hp4, hrp4⟩ := fix_indexAddr Try.underlying22 sz3 (H.arg ha0_0) hx3
            obtain ⟨x4, hx4, hm⟩ := bind_some hm
            obtain ⟨p5, hp5, hrp5⟩ := fix_indexAddr Try.underlying22 sz3 (H.arg ha0_0) hx4
            obtain ⟨t30, ht30, hm⟩ := bind_some hm
            obtain ⟨b7, hm10, hm⟩ := bind_some hm
            refine W.drawN 31 (fun f => f 170 = (.bool b7)) fol (by kernel_rfl) ?_ ?_
            · skip
              refine PL.of (fun _ w8 _ hx => O.move (v := (.int .i64 s1)) rfl rfl rfl (WL.nil ⟨rfl, hx⟩)) ?_
              refine PL.of (fun _ w8 _ hx => O.fieldAddr fd24_1 rfl rfl rfl (WL.nil ⟨rfl, hx⟩)) ?_
              refine PL.of (fun _ w8 _ hx => by have H := H.ext hx; exact O.load sc22 rfl rfl rfl (H.cell 0 rfl 1 _ rfl) (WL.nil ⟨rfl, hx⟩)) ?_
              refine PL.of (fun _ w8 _ hx => O.fieldAddr fd24_1 rfl rfl rfl (WL.nil ⟨rfl, hx⟩)) ?_
              refine PL.of (fun _ w8 _ hx => by have H := H.ext hx; exact O.load sc22 rfl rfl rfl (H.cell 0 rfl 1 _ rfl) (WL.nil ⟨rfl, hx⟩)) ?_
              refine PL.of (fun _ w8 _ hx => by have H := H.ext hx; exact O.lenS Try.underlying22 (H.arg ha0_0) rfl rfl rfl (WL.nil ⟨rfl, hx⟩)) ?_
              refine PL.of (fun _ w8 _ hx => O.sub rfl rfl rfl rfl ht29 (WL.nil ⟨rfl, hx⟩)) ?_
              refine PL.of (fun _ w8 _ hx => hrp4 rfl rfl rfl rfl (WL.nil ⟨rfl, hx⟩)) ?_
              refine PL.of (fun _ w8 _ hx => by have hp4 := hp4.mono hx; exact O.load sc3 rfl rfl rfl (hp4.flat 0 _ rfl) (WL.nil ⟨rfl, hx⟩)) ?_
              refine PL.of (fun _ w8 _ hx => O.fieldAddr fd24_1 rfl rfl rfl (WL.nil ⟨rfl, hx⟩)) ?_
              refine PL.of (fun _ w8 _ hx => by have H := H.ext hx; exact O.load sc22 rfl rfl rfl (H.cell 0 rfl 1 _ rfl) (WL.nil ⟨rfl, hx⟩)) ?_
              refine PL.of (fun _ w8 _ hx => hrp5 rfl rfl rfl rfl (WL.nil ⟨rfl, hx⟩)) ?_
              refine PL.of (fun _ w8 _ hx => by have hp5 := hp5.mono hx; exact O.load sc3 rfl rfl rfl (hp5.flat 0 _ rfl) (WL.nil ⟨rfl, hx⟩)) ?_
              refine PL.of (fun _ w8 _ hx => O.sub rfl rfl rfl rfl ht30 (WL.nil ⟨rfl, hx⟩)) ?_
              refine PL.of (fun _ w8 _ hx => O.eql rfl rfl rfl rfl (WL.nil ⟨rfl, hx⟩)) ?_
              refine PL.of (fun _ w8 _ hx => O.move (v := (.bool (s1 == t30))) rfl rfl rfl (WL.nil ⟨rfl, hx⟩)) ?_
              refine PL.cut 3 (fun f => f 3 = v2 ∧ f 11 = (.pointer (some ⟨b2, 0, none⟩)) ∧ f 15 = (.int .i64 s1) ∧ f 158 = .bool ((s1 == t30) && (t12 == 0))) ?_ ?_
              · skip
                rcases bool_ft (s1 == t30) with hc13 | hc13
                · skip
                  refine PL.reset (i := 155) (v := .bool false) (congrArg Value.bool hc13) ?_
                  refine PL.of (fun _ w8 _ hx => O.skip rfl rfl (WL.nil ⟨rfl, hx⟩)) ?_
                  refine PL.of (fun _ w8 _ hx => O.skip rfl rfl (WL.nil ⟨rfl, hx⟩)) ?_
                  refine PL.of (fun _ w8 _ hx => O.pick_false (v := (.bool false)) rfl rfl rfl rfl (WL.nil ⟨rfl, hx⟩)) ?_
                  refine PL.nil ?_
                  exact ⟨rfl, rfl, rfl, congrArg Value.bool (and_f hc13)⟩
                · skip
                  refine PL.reset (i := 155) (v := .bool true) (congrArg Value.bool hc13) ?_
                  refine PL.of (fun _ w8 _ hx => O.move (v := (.int .i64 t12)) rfl rfl rfl (WL.nil ⟨rfl, hx⟩)) ?_
                  refine PL.of (fun _ w8 _ hx => O.eql rfl rfl rfl rfl (WL.nil ⟨rfl, hx⟩)) ?_
                  refine PL.of (fun _ w8 _ hx => O.pick_true (v := (.bool (t12 == 0))) rfl rfl rfl rfl (WL.nil ⟨rfl, hx⟩)) ?_
                  refine PL.nil ?_
                  exact ⟨rfl, rfl, rfl, congrArg Value.bool (and_t hc13)⟩
              · skip
                rintro f ⟨hf3, hf11, hf15, hf158⟩
                obtain ⟨u17, rfl⟩ : ∃ u17, f = (upd (upd (upd (upd u17 3 v2) 11 (.pointer (some ⟨b2, 0, none⟩))) 15 (.int .i64 s1)) 158 (.bool ((s1 == t30) && (t12 == 0)))) := ⟨f, by rw [upd_self hf3, upd_self hf11, upd_self hf15, upd_self hf158]⟩
                refine PL.of (fun _ w8 _ hx => O.move (v := (.bool ((s1 == t30) && (t12 == 0)))) rfl rfl rfl (WL.nil ⟨rfl, hx⟩)) ?_
                refine PL.cut 11 (fun f => f 170 = .bool b7) ?_ ?_
                · skip
                  rcases ite_some hm10 with ⟨hc14, hm10⟩ | ⟨hc14, hm10⟩
                  · skip
                    refine PL.reset (i := 159) (v := .bool true) (congrArg Value.bool hc14) ?_
                    refine PL.of (fun _ w8 _ hx => O.fieldAddr fd48_0 rfl rfl rfl (WL.nil ⟨rfl, hx⟩)) ?_
                    refine PL.of (fun _ w8 _ hx => by have H := H.ext hx; exact O.load sc3 rfl rfl rfl (H.cell 2 rfl 0 _ rfl) (WL.nil ⟨rfl, hx⟩)) ?_
                    refine PL.of (fun _ w8 _ hx => O.move (v := v2) rfl rfl rfl (WL.nil ⟨rfl, hx⟩)) ?_
                    refine PL.of (fun _ w8 _ hx => by have H := H.ext hx; exact O.lenS Try.underlying22 (H.own 1 rfl) rfl rfl rfl (WL.nil ⟨rfl, hx⟩)) ?_
                    obtain ⟨t31, ht31, hm10⟩ := bind_some hm10
                    refine PL.of (fun _ w8 _ hx => O.mul rfl rfl rfl rfl ht31 (WL.nil ⟨rfl, hx⟩)) ?_
                    refine PL.of (fun _ w8 _ hx => O.move (v := (.int .i64 s1)) rfl rfl rfl (WL.nil ⟨rfl, hx⟩)) ?_
                    refine PL.of (fun _ w8 _ hx => O.fieldAddr fd48_1 rfl rfl rfl (WL.nil ⟨rfl, hx⟩)) ?_
                    refine PL.of (fun _ w8 _ hx => by have H := H.ext hx; exact O.load sc3 rfl rfl rfl (H.cell 2 rfl 1 _ rfl) (WL.nil ⟨rfl, hx⟩)) ?_
                    obtain ⟨t32, ht32, hm10⟩ := bind_some hm10
                    refine PL.of (fun _ w8 _ hx => O.mul rfl rfl rfl rfl ht32 (WL.nil ⟨rfl, hx⟩)) ?_
                    refine PL.of (fun _ w8 _ hx => O.eql rfl rfl rfl rfl (WL.nil ⟨rfl, hx⟩)) ?_
                    refine PL.of (fun _ w8 _ hx => O.pick_true (v := (.bool (t31 == t32))) rfl rfl rfl rfl (WL.nil ⟨rfl, hx⟩)) ?_
                    refine PL.nil ?_
                    have hq : (t31 == t32) = b7 := Option.some.inj (show some (t31 == t32) = some b7 from hm10)
                    subst hq
                    exact rfl
                  · skip
                    refine PL.reset (i := 159) (v := .bool false) (congrArg Value.bool hc14) ?_
                    refine PL.of (fun _ w8 _ hx => O.skip rfl rfl (WL.nil ⟨rfl, hx⟩)) ?_
                    refine PL.of (fun _ w8 _ hx => O.skip rfl rfl (WL.nil ⟨rfl, hx⟩)) ?_
                    refine PL.of (fun _ w8 _ hx => O.skip rfl rfl (WL.nil ⟨rfl, hx⟩)) ?_
                    refine PL.of (fun _ w8 _ hx => O.skip rfl rfl (WL.nil ⟨rfl, hx⟩)) ?_
                    refine PL.of (fun _ w8 _ hx => O.skip rfl rfl (WL.nil ⟨rfl, hx⟩)) ?_
                    refine PL.of (fun _ w8 _ hx => O.skip rfl rfl (WL.nil ⟨rfl, hx⟩)) ?_
                    refine PL.of (fun _ w8 _ hx => O.skip rfl rfl (WL.nil ⟨rfl, hx⟩)) ?_
                    refine PL.of (fun _ w8 _ hx => O.skip rfl rfl (WL.nil ⟨rfl, hx⟩)) ?_
                    refine PL.of (fun _ w8 _ hx => O.skip rfl rfl (WL.nil ⟨rfl, hx⟩)) ?_
                    refine PL.of (fun _ w8 _ hx => O.skip rfl rfl (WL.nil ⟨rfl, hx⟩)) ?_
                    refine PL.of (fun _ w8 _ hx => O.pick_false (v := (.bool false)) rfl rfl rfl rfl (WL.nil ⟨rfl, hx⟩)) ?_
                    refine PL.nil ?_
                    have hq : false = b7 := Option.some.inj (show some false = some b7 from hm10)
                    subst hq
                    exact rfl
                · skip
                  intro f hf170
                  obtain ⟨u18, rfl⟩ : ∃ u18, f = (upd u18 170 (.bool b7)) := ⟨f, by rw [upd_self hf170]⟩
                  refine PL.nil ?_
                  exact rfl
            · skip
              rintro f w hf170 hmd hx
              have H := H.ext hx
              have hp4 := hp4.mono hx
              have hp5 := hp5.mono hx
              obtain ⟨u19, rfl⟩ : ∃ u19, f = (upd u19 170 (.bool b7)) := ⟨f, by rw [upd_self hf170]⟩
              refine O.move (v := (.bool b7)) rfl rfl rfl ?_
              obtain ⟨b8, hm11, hm⟩ := bind_some hm
              refine WL.cut 2 (fun f w => f 173 = .bool b8 ∧ Inv w0 w [boxI b1 24 [(.string a0.Name), va0_0], ownI (α := Int) v2 3 t3, boxI b2 48 [(.int .i64 t11.N), (.int .i64 t11.D)]]) ?_ ?_
              · skip
                rcases ite_some hm11 with ⟨hc15, hm11⟩ | ⟨hc15, hm11⟩
                · skip
                  refine WL.reset (i := 171) (v := .bool true) (congrArg Value.bool hc15) ?_
                  obtain ⟨t33, hy14, hm11⟩ := bind_some hm11
                  refine O.call Try.call14 rfl rfl rfl (c_noongunlaw06_awake  hy14) ?_
                  rintro _ w16 hb14 rfl
                  have hp4 := hp4.mono hb14
                  have hp5 := hp5.mono hb14
                  have H := H.ext hb14
                  refine O.pick_true (v := (.bool t33)) rfl rfl rfl rfl ?_
                  refine WL.nil ?_
                  have hq : t33 = b8 := Option.some.inj (show some t33 = some b8 from hm11)
                  subst hq
                  exact ⟨rfl, H⟩
                · skip
                  refine WL.reset (i := 171) (v := .bool false) (congrArg Value.bool hc15) ?_
                  refine O.skip rfl rfl ?_
                  refine O.pick_false (v := (.bool false)) rfl rfl rfl rfl ?_
                  refine WL.nil ?_
                  have hq : false = b8 := Option.some.inj (show some false = some b8 from hm11)
                  subst hq
                  exact ⟨rfl, H⟩
              · skip
                rintro f w ⟨hf173, H⟩
                obtain ⟨u20, rfl⟩ : ∃ u20, f = (upd u20 173 (.bool b8)) := ⟨f, by rw [upd_self hf173]⟩
                refine O.assign (v := (.bool b8)) rfl rfl rfl ?_
                refine WL.nil ?_
                refine W.ret ?_
                have hq : b8 = r0 := Option.some.inj (show some b8 = some r0 from hm)
                subst hq
                exact ends1 Try.results9 rfl ⟨_, rfl, H.base, rfl⟩

end Go.Proofs
