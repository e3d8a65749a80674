/-
  The walks: each function does what its model says, where the model has a value. No other condition.
-/
import Derived.Test.YtohbkbimgfkblaaW2
namespace Go.Proofs
open Go.Fw Go.RowKit
set_option maxRecDepth 20000 in
theorem c_slices_Compare_int {w0 : World} (va0 : Value) (a0 : (List Int)) (ha0 : SliceR w0 va0 a0) (va1 : Value) (a1 : (List Int)) (ha1 : SliceR w0 va1 a1) {r0 : Int} (hm : slices_Compare_int a0 a1 = some r0) :
    Calls Try.prog 97 #[va0, va1] w0 (Ret w0 fun _ v => v = (.int .i64 r0)) := by
  unfold slices_Compare_int at hm
  refine calls_of_W Try.func97 rfl Try.ntmps97 (Nat.le_of_ble_eq_true rfl) ?_
  have H := Inv.start (w := w0)
  refine W.seq ?_
  refine W.region ?_
  refine O.assign (v := (.int .i64 0)) rfl rfl rfl ?_
  refine WL.nil ?_
  refine W.seq ?_
  refine W.seq ?_
  refine W.region ?_
  refine O.move (v := va0) rfl rfl rfl ?_
  refine O.lenS Try.underlying22 (H.arg ha0) rfl rfl rfl ?_
  refine O.move (v := (.int .i64 0)) rfl rfl rfl ?_
  refine WL.nil ?_
  obtain ⟨o1, hm1, hm⟩ := bind_some hm
  refine W.via (fun f w => o1 = .next () ∧ f 0 = va0 ∧ f 1 = va1 ∧ Inv w0 w []) ?_ ?_
  · skip
    refine W.block ?_
    have hbdik1 := (H.arg ha0).len_le
    refine W.rangeN (i := 0) hm1 (fun rem ik1 s f w => () = s ∧ (ik1 : Int) + rem = max 0 ((a0.length : Nat) : Int) ∧ f 11 = .int .i64 (ik1 : Int) ∧ f 10 = (.int .i64 ((a0.length : Nat) : Int)) ∧ f 0 = va0 ∧ f 1 = va1 ∧ f 9 = va0 ∧ Inv w0 w []) ?_ ?_ ?_
    · skip
      exact ⟨rfl, rangeN_start, rfl, rfl, rfl, rfl, rfl, H⟩
    · skip
      rintro k ik1 _ st f w ⟨rfl, hdropk1, hf11, hf10, hf0, hf1, hf9, H⟩ hm2
      have hltk1 := rangeN_lt hdropk1
      obtain ⟨u1, rfl⟩ : ∃ u1, f = (upd (upd (upd (upd (upd u1 11 (.int .i64 (ik1 : Int))) 10 (.int .i64 ((a0.length : Nat) : Int))) 0 va0) 1 va1) 9 va0) := ⟨f, by rw [upd_self hf11, upd_self hf10, upd_self hf0, upd_self hf1, upd_self hf9]⟩
      have hinck1 := addI_lt hltk1 hbdik1
      refine W.seq ?_
      refine W.region ?_
      refine O.lss rfl rfl rfl rfl ?_
      refine WL.nil ?_
      refine W.seq ?_
      refine W.cond_true (congrArg Value.bool (decide_eq_true hltk1)) ?_
      refine W.skip ?_
      refine W.seq ?_
      refine W.block ?_
      refine W.seq ?_
      refine W.region ?_
      refine O.move (v := (.int .i64 (ik1 : Int))) rfl rfl rfl ?_
      obtain ⟨x1, hx1, hm2⟩ := bind_some hm2
      obtain ⟨p1, hp1, hrp1⟩ := fix_indexAddr Try.underlying22 sz3 ha0 hx1
      refine hrp1 rfl rfl rfl rfl ?_
      refine O.load sc3 rfl rfl rfl ((hp1.mono H.base).flat 0 _ rfl) ?_
      refine O.assign (v := (.int .i64 (ik1 : Int))) rfl rfl rfl ?_
      refine O.assign (v := (.int .i64 x1)) rfl rfl rfl ?_
      refine WL.nil ?_
      refine W.seq ?_
      refine W.seq ?_
      refine W.region ?_
      refine O.move (v := (.int .i64 (ik1 : Int))) rfl rfl rfl ?_
      refine O.move (v := va1) rfl rfl rfl ?_
      refine O.lenS Try.underlying22 (H.arg ha1) rfl rfl rfl ?_
      refine O.geq rfl rfl rfl rfl ?_
      refine WL.nil ?_
      rcases ite_some hm2 with ⟨hc1, hm2⟩ | ⟨hc1, hm2⟩
      · refine W.cond_true (congrArg Value.bool hc1) ?_
        refine W.seq ?_
        refine W.region ?_
        refine O.assign (v := (.int .i64 1)) rfl rfl rfl ?_
        refine WL.nil ?_
        refine W.ret ?_
        obtain rfl := Option.some.inj hm2
        refine ⟨_, rfl, ?_⟩
        rintro rfl
        have hq : 1 = r0 := Option.some.inj (show some 1 = some r0 from hm)
        subst hq
        exact ends1 Try.results97 rfl ⟨_, rfl, H.base, rfl⟩
      · refine W.cond_false (congrArg Value.bool hc1) ?_
        refine W.skip ?_
        refine W.seq ?_
        refine W.region ?_
        refine O.move (v := va1) rfl rfl rfl ?_
        refine O.move (v := (.int .i64 (ik1 : Int))) rfl rfl rfl ?_
        obtain ⟨x2, hx2, hm2⟩ := bind_some hm2
        obtain ⟨p2, hp2, hrp2⟩ := fix_indexAddr Try.underlying22 sz3 ha1 hx2
        refine hrp2 rfl rfl rfl rfl ?_
        refine O.load sc3 rfl rfl rfl ((hp2.mono H.base).flat 0 _ rfl) ?_
        refine O.assign (v := (.int .i64 x2)) rfl rfl rfl ?_
        refine WL.nil ?_
        refine W.seq ?_
        refine W.region ?_
        refine O.move (v := (.int .i64 x1)) rfl rfl rfl ?_
        refine O.move (v := (.int .i64 x2)) rfl rfl rfl ?_
        obtain ⟨t1, hy1, hm2⟩ := bind_some hm2
        refine O.call Try.call88 rfl rfl rfl (c_cmp_Compare_int _ _ hy1) ?_
        rintro _ w1 hb1 rfl
        have H := H.ext hb1
        refine O.assign (v := (.int .i64 t1)) rfl rfl rfl ?_
        refine WL.nil ?_
        refine W.seq ?_
        refine W.region ?_
        refine O.move (v := (.int .i64 t1)) rfl rfl rfl ?_
        refine O.neq rfl rfl rfl rfl ?_
        refine WL.nil ?_
        rcases ite_some hm2 with ⟨hc2, hm2⟩ | ⟨hc2, hm2⟩
        · refine W.cond_true (congrArg Value.bool hc2) ?_
          refine W.seq ?_
          refine W.region ?_
          refine O.move (v := (.int .i64 t1)) rfl rfl rfl ?_
          refine O.assign (v := (.int .i64 t1)) rfl rfl rfl ?_
          refine WL.nil ?_
          refine W.ret ?_
          obtain rfl := Option.some.inj hm2
          refine ⟨_, rfl, ?_⟩
          rintro rfl
          have hq : t1 = r0 := Option.some.inj (show some t1 = some r0 from hm)
          subst hq
          exact ends1 Try.results97 rfl ⟨_, rfl, H.base, rfl⟩
        · refine W.cond_false (congrArg Value.bool hc2) ?_
          refine W.skip ?_
          refine W.region ?_
          refine O.add rfl rfl rfl rfl hinck1 ?_
          refine O.move (v := .int .i64 ((ik1 : Int) + 1)) rfl rfl rfl ?_
          refine WL.nil ?_
          obtain rfl := Option.some.inj hm2
          exact ⟨_, rfl, rfl, rangeN_next hdropk1, rfl, rfl, rfl, rfl, rfl, H⟩
    · skip
      rintro ik1 _ f w ⟨rfl, hdropk1, hf11, hf10, hf0, hf1, hf9, H⟩ hfin
      have hltk1 := rangeN_end hdropk1
      obtain ⟨u2, rfl⟩ : ∃ u2, f = (upd (upd (upd (upd (upd u2 11 (.int .i64 (ik1 : Int))) 10 (.int .i64 ((a0.length : Nat) : Int))) 0 va0) 1 va1) 9 va0) := ⟨f, by rw [upd_self hf11, upd_self hf10, upd_self hf0, upd_self hf1, upd_self hf9]⟩
      refine W.seq ?_
      refine W.region ?_
      refine O.lss rfl rfl rfl rfl ?_
      refine WL.nil ?_
      refine W.seq ?_
      refine W.cond_false (congrArg Value.bool (decide_eq_false hltk1)) ?_
      refine W.exit ?_
      obtain rfl : Ctl.next () = o1 := hfin
      refine xT rfl ?_
      exact ⟨rfl, rfl, rfl, H⟩
  · skip
    rintro f w ⟨rfl, hf0, hf1, H⟩
    obtain ⟨u3, rfl⟩ : ∃ u3, f = (upd (upd u3 0 va0) 1 va1) := ⟨f, by rw [upd_self hf0, upd_self hf1]⟩
    refine W.seq ?_
    refine W.seq ?_
    refine W.region ?_
    refine O.move (v := va0) rfl rfl rfl ?_
    refine O.lenS Try.underlying22 (H.arg ha0) rfl rfl rfl ?_
    refine O.move (v := va1) rfl rfl rfl ?_
    refine O.lenS Try.underlying22 (H.arg ha1) rfl rfl rfl ?_
    refine O.lss rfl rfl rfl rfl ?_
    refine WL.nil ?_
    rcases ite_some hm with ⟨hc3, hm⟩ | ⟨hc3, hm⟩
    · refine W.cond_true (congrArg Value.bool hc3) ?_
      refine W.seq ?_
      refine W.region ?_
      refine O.assign (v := (.int .i64 (-1))) rfl rfl rfl ?_
      refine WL.nil ?_
      refine W.ret ?_
      have hq : (-1) = r0 := Option.some.inj (show some (-1) = some r0 from hm)
      subst hq
      exact ends1 Try.results97 rfl ⟨_, rfl, H.base, rfl⟩
    · refine W.cond_false (congrArg Value.bool hc3) ?_
      refine W.skip ?_
      refine W.seq ?_
      refine W.region ?_
      refine O.assign (v := (.int .i64 0)) rfl rfl rfl ?_
      refine WL.nil ?_
      refine W.ret ?_
      have hq : 0 = r0 := Option.some.inj (show some 0 = some r0 from hm)
      subst hq
      exact ends1 Try.results97 rfl ⟨_, rfl, H.base, rfl⟩

theorem c_cmp_Or_int {w0 : World} (va0 : Value) (a0 : (List Int)) (ha0 : SliceR w0 va0 a0) {r0 : Int} (hm : cmp_Or_int a0 = some r0) :
    Calls Try.prog 87 #[va0] w0 (Ret w0 fun _ v => v = (.int .i64 r0)) := by
  unfold cmp_Or_int at hm
  refine calls_of_W Try.func87 rfl Try.ntmps87 (Nat.le_of_ble_eq_true rfl) ?_
  have H := Inv.start (w := w0)
  refine W.seq ?_
  refine W.region ?_
  refine O.assign (v := (.int .i64 0)) rfl rfl rfl ?_
  refine WL.nil ?_
  refine W.seq ?_
  refine W.region ?_
  refine O.assign (v := (.int .i64 0)) rfl rfl rfl ?_
  refine WL.nil ?_
  refine W.seq ?_
  refine W.seq ?_
  refine W.region ?_
  refine O.move (v := va0) rfl rfl rfl ?_
  refine O.lenS Try.underlying22 (H.arg ha0) rfl rfl rfl ?_
  refine O.move (v := (.int .i64 0)) rfl rfl rfl ?_
  refine WL.nil ?_
  obtain ⟨o1, hm1, hm⟩ := bind_some hm
  refine W.via (fun f w => o1 = .next () ∧ f 3 = (.int .i64 0) ∧ Inv w0 w []) ?_ ?_
  · skip
    refine W.block ?_
    refine W.rangeL (i := 0) hm1 (fun rem ik1 s f w => () = s ∧ a0.drop ik1 = rem ∧ f 8 = .int .i64 (ik1 : Int) ∧ f 7 = (.int .i64 ((a0.length : Nat) : Int)) ∧ f 3 = (.int .i64 0) ∧ f 6 = va0 ∧ Inv w0 w []) ?_ ?_ ?_
    · skip
      exact ⟨rfl, List.drop_zero, rfl, rfl, rfl, rfl, H⟩
    · skip
      rintro yk1 xs ik1 _ st f w ⟨rfl, hdropk1, hf8, hf7, hf3, hf6, H⟩ hm2
      have hltk1 := drop_lt hdropk1; have hixk1 := drop_idx hdropk1
      obtain ⟨u1, rfl⟩ : ∃ u1, f = (upd (upd (upd (upd u1 8 (.int .i64 (ik1 : Int))) 7 (.int .i64 ((a0.length : Nat) : Int))) 3 (.int .i64 0)) 6 va0) := ⟨f, by rw [upd_self hf8, upd_self hf7, upd_self hf3, upd_self hf6]⟩
      have hinck1 := addI_lt hltk1 (H.arg ha0).len_le
      refine W.seq ?_
      refine W.region ?_
      refine O.lss rfl rfl rfl rfl ?_
      refine WL.nil ?_
      refine W.seq ?_
      refine W.cond_true (congrArg Value.bool (decide_eq_true hltk1)) ?_
      refine W.skip ?_
      refine W.seq ?_
      refine W.block ?_
      refine W.seq ?_
      refine W.region ?_
      obtain ⟨p1, hp1, hrp1⟩ := fix_indexAddr Try.underlying22 sz3 ha0 hixk1
      refine hrp1 rfl rfl rfl rfl ?_
      refine O.load sc3 rfl rfl rfl ((hp1.mono H.base).flat 0 _ rfl) ?_
      refine O.assign (v := (.int .i64 yk1)) rfl rfl rfl ?_
      refine WL.nil ?_
      refine W.seq ?_
      refine W.region ?_
      refine O.move (v := (.int .i64 yk1)) rfl rfl rfl ?_
      refine O.move (v := (.int .i64 0)) rfl rfl rfl ?_
      refine O.neq rfl rfl rfl rfl ?_
      refine WL.nil ?_
      rcases ite_some hm2 with ⟨hc1, hm2⟩ | ⟨hc1, hm2⟩
      · refine W.cond_true (congrArg Value.bool hc1) ?_
        refine W.seq ?_
        refine W.region ?_
        refine O.move (v := (.int .i64 yk1)) rfl rfl rfl ?_
        refine O.assign (v := (.int .i64 yk1)) rfl rfl rfl ?_
        refine WL.nil ?_
        refine W.ret ?_
        obtain rfl := Option.some.inj hm2
        refine ⟨_, rfl, ?_⟩
        rintro rfl
        have hq : yk1 = r0 := Option.some.inj (show some yk1 = some r0 from hm)
        subst hq
        exact ends1 Try.results87 rfl ⟨_, rfl, H.base, rfl⟩
      · refine W.cond_false (congrArg Value.bool hc1) ?_
        refine W.skip ?_
        refine W.region ?_
        refine O.add rfl rfl rfl rfl hinck1 ?_
        refine O.move (v := .int .i64 ((ik1 : Int) + 1)) rfl rfl rfl ?_
        refine WL.nil ?_
        obtain rfl := Option.some.inj hm2
        exact ⟨_, rfl, rfl, drop_next hdropk1, rfl, rfl, rfl, rfl, H⟩
    · skip
      rintro ik1 _ f w ⟨rfl, hdropk1, hf8, hf7, hf3, hf6, H⟩ hfin
      have hltk1 := drop_end hdropk1
      obtain ⟨u2, rfl⟩ : ∃ u2, f = (upd (upd (upd (upd u2 8 (.int .i64 (ik1 : Int))) 7 (.int .i64 ((a0.length : Nat) : Int))) 3 (.int .i64 0)) 6 va0) := ⟨f, by rw [upd_self hf8, upd_self hf7, upd_self hf3, upd_self hf6]⟩
      refine W.seq ?_
      refine W.region ?_
      refine O.lss rfl rfl rfl rfl ?_
      refine WL.nil ?_
      refine W.seq ?_
      refine W.cond_false (congrArg Value.bool (decide_eq_false hltk1)) ?_
      refine W.exit ?_
      obtain rfl : Ctl.next () = o1 := hfin
      refine xT rfl ?_
      exact ⟨rfl, rfl, H⟩
  · skip
    rintro f w ⟨rfl, hf3, H⟩
    obtain ⟨u3, rfl⟩ : ∃ u3, f = (upd u3 3 (.int .i64 0)) := ⟨f, by rw [upd_self hf3]⟩
    refine W.seq ?_
    refine W.region ?_
    refine O.move (v := (.int .i64 0)) rfl rfl rfl ?_
    refine O.assign (v := (.int .i64 0)) rfl rfl rfl ?_
    refine WL.nil ?_
    refine W.ret ?_
    have hq : 0 = r0 := Option.some.inj (show some 0 = some r0 from hm)
    subst hq
    exact ends1 Try.results87 rfl ⟨_, rfl, H.base, rfl⟩

theorem c_rate_purchase_better {w0 : World} (va0_0 : Value) (a0 : GPurchase) (ha0_0 : SliceR w0 va0_0 a0.list) (va1_0 : Value) (a1 : GPurchase) (ha1_0 : SliceR w0 va1_0 a1.list) {r0 : Bool} (hm : rate_purchase_better a0 a1 = some r0) :
    Calls Try.prog 81 #[(.agg #[va0_0, (.int .i64 a0.sum)]), (.agg #[va1_0, (.int .i64 a1.sum)])] w0 (Ret w0 fun _ v => v = (.bool r0)) := by
  unfold rate_purchase_better at hm
  refine calls_of_W Try.func81 rfl Try.ntmps81 (Nat.le_of_ble_eq_true rfl) ?_
  have H := Inv.start (w := w0)
  refine W.seq ?_
  refine W.region ?_
  refine O.box [va0_0, (.int .i64 a0.sum)] H rfl rfl rfl rfl ?_
  intro b1 w1 H hb1
  refine O.box [va1_0, (.int .i64 a1.sum)] H rfl rfl rfl rfl ?_
  intro b2 w2 H hb2
  refine O.assign (v := (.bool false)) rfl rfl rfl ?_
  refine WL.nil ?_
  refine W.seq ?_
  obtain ⟨t1, hy1, hm⟩ := bind_some hm
  obtain ⟨t2, hy2, hm⟩ := bind_some hm
  refine W.drawN 16 (fun f => f 11 = (.int .i64 t1) ∧ f 16 = (.int .i64 t2) ∧ f 18 = va0_0 ∧ f 20 = va1_0) fol (by kernel_rfl) ?_ ?_
  · skip
    refine PL.of (fun _ w8 _ hx => O.fieldAddr fd99_0 rfl rfl rfl (WL.nil ⟨rfl, hx⟩)) ?_
    refine PL.of (fun _ w8 _ hx => by have H := H.ext hx; exact O.load sc22 rfl rfl rfl (H.cell 1 rfl 0 _ rfl) (WL.nil ⟨rfl, hx⟩)) ?_
    refine PL.of (fun _ w8 _ hx => by have H := H.ext hx; exact O.lenS Try.underlying22 (H.arg ha1_0) rfl rfl rfl (WL.nil ⟨rfl, hx⟩)) ?_
    refine PL.of (fun _ w8 _ hx => O.fieldAddr fd99_0 rfl rfl rfl (WL.nil ⟨rfl, hx⟩)) ?_
    refine PL.of (fun _ w8 _ hx => by have H := H.ext hx; exact O.load sc22 rfl rfl rfl (H.cell 0 rfl 0 _ rfl) (WL.nil ⟨rfl, hx⟩)) ?_
    refine PL.of (fun _ w8 _ hx => by have H := H.ext hx; exact O.lenS Try.underlying22 (H.arg ha0_0) rfl rfl rfl (WL.nil ⟨rfl, hx⟩)) ?_
    refine PL.of (fun _ w8 _ hx => O.call Try.call88 rfl rfl rfl (c_cmp_Compare_int _ _ hy1) (by rintro _ _ hb rfl; exact WL.nil ⟨rfl, hx.trans (hb.mono hx.size)⟩)) ?_
    refine PL.of (fun _ w8 _ hx => O.fieldAddr fd99_1 rfl rfl rfl (WL.nil ⟨rfl, hx⟩)) ?_
    refine PL.of (fun _ w8 _ hx => by have H := H.ext hx; exact O.load sc3 rfl rfl rfl (H.cell 0 rfl 1 _ rfl) (WL.nil ⟨rfl, hx⟩)) ?_
    refine PL.of (fun _ w8 _ hx => O.fieldAddr fd99_1 rfl rfl rfl (WL.nil ⟨rfl, hx⟩)) ?_
    refine PL.of (fun _ w8 _ hx => by have H := H.ext hx; exact O.load sc3 rfl rfl rfl (H.cell 1 rfl 1 _ rfl) (WL.nil ⟨rfl, hx⟩)) ?_
    refine PL.of (fun _ w8 _ hx => O.call Try.call88 rfl rfl rfl (c_cmp_Compare_int _ _ hy2) (by rintro _ _ hb rfl; exact WL.nil ⟨rfl, hx.trans (hb.mono hx.size)⟩)) ?_
    refine PL.of (fun _ w8 _ hx => O.fieldAddr fd99_0 rfl rfl rfl (WL.nil ⟨rfl, hx⟩)) ?_
    refine PL.of (fun _ w8 _ hx => by have H := H.ext hx; exact O.load sc22 rfl rfl rfl (H.cell 0 rfl 0 _ rfl) (WL.nil ⟨rfl, hx⟩)) ?_
    refine PL.of (fun _ w8 _ hx => O.fieldAddr fd99_0 rfl rfl rfl (WL.nil ⟨rfl, hx⟩)) ?_
    refine PL.of (fun _ w8 _ hx => by have H := H.ext hx; exact O.load sc22 rfl rfl rfl (H.cell 1 rfl 0 _ rfl) (WL.nil ⟨rfl, hx⟩)) ?_
    refine PL.nil ?_
    exact ⟨rfl, rfl, rfl, rfl⟩
  · skip
    rintro f w ⟨hf11, hf16, hf18, hf20⟩ hmd hx
    have H := H.ext hx
    obtain ⟨u1, rfl⟩ : ∃ u1, f = (upd (upd (upd (upd u1 11 (.int .i64 t1)) 16 (.int .i64 t2)) 18 va0_0) 20 va1_0) := ⟨f, by rw [upd_self hf11, upd_self hf16, upd_self hf18, upd_self hf20]⟩
    obtain ⟨t3, hy3, hm⟩ := bind_some hm
    refine O.call Try.call97 rfl rfl rfl (c_slices_Compare_int _ _ (H.arg ha0_0) _ _ (H.arg ha1_0) hy3) ?_
    rintro _ w3 hb3 rfl
    have H := H.ext hb3
    refine O.buildSlice (α := Int) [(.int .i64 t1), (.int .i64 t2), (.int .i64 t3)] [t1, t2, t3] Try.underlying22 el3 H rfl rfl rfl rfl rfl rfl rfl ?_
    intro v1 w4 H hb4
    obtain ⟨t4, hy4, hm⟩ := bind_some hm
    refine O.call Try.call87 rfl rfl rfl (c_cmp_Or_int _ _ (H.own 2 rfl) hy4) ?_
    rintro _ w5 hb5 rfl
    have H := H.ext hb5
    refine O.lss rfl rfl rfl rfl ?_
    refine O.assign (v := (.bool (decide (t4 < 0)))) rfl rfl rfl ?_
    refine WL.nil ?_
    refine W.ret ?_
    have hq : (decide (t4 < 0)) = r0 := Option.some.inj (show some (decide (t4 < 0)) = some r0 from hm)
    subst hq
    exact ends1 Try.results81 rfl ⟨_, rfl, H.base, rfl⟩

set_option maxRecDepth 20000 in
theorem c_noongunref06_Trial {w0 : World} (va0_0 : Value) (a0 : GBox) (ha0_0 : SliceR w0 va0_0 a0.Errors) {r0 : GTrial} {r1 : Int} (hm : noongunref06_Trial a0 = some (r0, r1)) :
    Calls Try.prog 48 #[(.agg #[(.string a0.Name), va0_0])] w0 (Ret w0 fun _ v => v = .tuple #[(.agg (Flat.cells r0).toArray), (.int .i64 r1)]) := by
  unfold noongunref06_Trial at hm
  refine calls_of_W Try.func48 rfl Try.ntmps48 (Nat.le_of_ble_eq_true rfl) ?_
  have H := Inv.start (w := w0)
  refine W.seq ?_
  refine W.region ?_
  refine O.box [(.string a0.Name), va0_0] H rfl rfl rfl rfl ?_
  intro b1 w1 H hb1
  refine O.alloc [(.string ByteArray.empty), (.int .i64 0), (.int .i64 0), (.int .i64 0), (.int .i64 0)] ze28 H rfl rfl rfl ?_
  intro b2 w2 H hb2
  refine O.assign (v := (.int .i64 0)) rfl rfl rfl ?_
  refine WL.nil ?_
  refine W.seq ?_
  refine W.seq ?_
  refine W.region ?_
  refine O.loadA [(.string a0.Name), va0_0] ag24 rfl rfl rfl rfl (H.cell 0 rfl) ?_
  obtain ⟨t1, hy1, hm⟩ := bind_some hm
  refine O.call Try.call37 rfl rfl rfl (c_noongunref06_ValidBox _ (GBox.mk a0.Name a0.Errors) (H.arg ha0_0) hy1) ?_
  rintro _ w3 hb3 rfl
  have H := H.ext hb3
  refine O.not rfl rfl rfl ?_
  refine WL.nil ?_
  rcases ite_some hm with ⟨hc1, hm⟩ | ⟨hc1, hm⟩
  · refine W.cond_true (congrArg Value.bool hc1) ?_
    refine W.seq ?_
    refine W.region ?_
    refine O.build (v := (.agg (Flat.cells (GTrial.mk ByteArray.empty 0 0 0 0)).toArray)) (fun w => bd28_  w) rfl rfl rfl ?_
    refine O.store 1 0 [(.string ByteArray.empty), (.int .i64 0), (.int .i64 0), (.int .i64 0), (.int .i64 0)] [(.string ByteArray.empty), (.int .i64 0), (.int .i64 0), (.int .i64 0), (.int .i64 0)] sz28 H rfl rfl rfl rfl rfl rfl ⟨⟨rfl, rfl⟩, rfl⟩ (one_cons rfl (one_cons rfl (one_cons rfl (one_cons rfl (one_cons rfl one_nil))))) ?_
    intro w4 H
    refine O.assign (v := (.int .i64 1)) rfl rfl rfl ?_
    refine WL.nil ?_
    refine W.ret ?_
    have hq : ((GTrial.mk ByteArray.empty 0 0 0 0), 1) = (r0, r1) := Option.some.inj (show some ((GTrial.mk ByteArray.empty 0 0 0 0), 1) = some (r0, r1) from hm)
    obtain ⟨he0, hq0⟩ := Prod.mk.inj hq; clear hq; subst he0
    subst hq0
    exact ends2 Try.results48 ⟨_, rfl, run_loadVar_agg ag28 rfl (H.cell 1 rfl)⟩ rfl ⟨_, rfl, H.base, rfl⟩
  · refine W.cond_false (congrArg Value.bool hc1) ?_
    refine W.skip ?_
    refine W.seq ?_
    refine W.region ?_
    refine O.loadA [(.string a0.Name), va0_0] ag24 rfl rfl rfl rfl (H.cell 0 rfl) ?_
    obtain ⟨t2, hy2, hm⟩ := bind_some hm
    refine O.call Try.call66 rfl rfl rfl (c_noongunref06_rates _ (GBox.mk a0.Name a0.Errors) (H.arg ha0_0) _ hy2) ?_
    rintro v1 w5 hb4 ho1
    have H := H.addOwn hb4 ho1
    refine O.assign (v := v1) rfl rfl rfl ?_
    refine WL.nil ?_
    refine W.seq ?_
    refine W.seq ?_
    refine W.region ?_
    refine O.move (v := v1) rfl rfl rfl ?_
    refine O.lenS Try.underlying22 (H.own 2 rfl) rfl rfl rfl ?_
    refine O.lss rfl rfl rfl rfl ?_
    refine WL.nil ?_
    rcases ite_some hm with ⟨hc2, hm⟩ | ⟨hc2, hm⟩
    · refine W.cond_true (congrArg Value.bool hc2) ?_
      refine W.seq ?_
      refine W.region ?_
      refine O.build (v := (.agg (Flat.cells (GTrial.mk ByteArray.empty 0 0 0 0)).toArray)) (fun w => bd28_  w) rfl rfl rfl ?_
      refine O.store 1 0 [(.string ByteArray.empty), (.int .i64 0), (.int .i64 0), (.int .i64 0), (.int .i64 0)] [(.string ByteArray.empty), (.int .i64 0), (.int .i64 0), (.int .i64 0), (.int .i64 0)] sz28 H rfl rfl rfl rfl rfl rfl ⟨⟨rfl, rfl⟩, rfl⟩ (one_cons rfl (one_cons rfl (one_cons rfl (one_cons rfl (one_cons rfl one_nil))))) ?_
      intro w6 H
      refine O.assign (v := (.int .i64 8)) rfl rfl rfl ?_
      refine WL.nil ?_
      refine W.ret ?_
      have hq : ((GTrial.mk ByteArray.empty 0 0 0 0), 8) = (r0, r1) := Option.some.inj (show some ((GTrial.mk ByteArray.empty 0 0 0 0), 8) = some (r0, r1) from hm)
      obtain ⟨he0, hq0⟩ := Prod.mk.inj hq; clear hq; subst he0
      subst hq0
      exact ends2 Try.results48 ⟨_, rfl, run_loadVar_agg ag28 rfl (H.cell 1 rfl)⟩ rfl ⟨_, rfl, H.base, rfl⟩
    · refine W.cond_false (congrArg Value.bool hc2) ?_
      refine W.skip ?_
      refine W.seq ?_
      obtain ⟨t3, hy3, hm⟩ := bind_some hm
      obtain ⟨t4, hy4, hm⟩ := bind_some hm
      refine W.drawA (d := 5) 7 [0, 1, 2, 3, 4, 5, 6] (fun b9 w9 => Inv w0 w9 [boxI b1 24 [(.string a0.Name), va0_0], boxI b2 28 [(.string ByteArray.empty), (.int .i64 0), (.int .i64 0), (.int .i64 0), (.int .i64 0)], ownI (α := Int) v1 3 t2, boxI b9 28 [(.string ByteArray.empty), (.int .i64 0), (.int .i64 0), (.int .i64 0), (.int .i64 0)]]) (fun f => f 2 = (.pointer (some ⟨b2, 0, none⟩)) ∧ f 4 = v1 ∧ f 23 = (.agg (Flat.cells (GTrial.mk a0.Name t3 t4 0 0)).toArray)) fol (by kernel_rfl) rfl ?_ ?_ ?_
      · skip
        refine PL.of (fun b w8 _ hx => match b, hx with | none, hx => by exact O.fieldAddr fd24_0 rfl rfl rfl (WL.nil ⟨rfl, hx⟩) | some _, ⟨bb, hv, hx, H⟩ => by exact O.fieldAddr fd24_0 rfl rfl rfl (WL.nil ⟨rfl, bb, hv, hx, H⟩)) ?_
        refine PL.of (fun b w8 _ hx => match b, hx with | none, hx => by have H := H.ext hx; exact O.load sc9 rfl rfl rfl (H.cell 0 rfl 0 _ rfl) (WL.nil ⟨rfl, hx⟩) | some _, ⟨bb, hv, hx, H⟩ => by exact O.load sc9 rfl rfl rfl (H.cell 0 rfl 0 _ rfl) (WL.nil ⟨rfl, bb, hv, hx, H⟩)) ?_
        refine PL.of (fun b w8 _ hx => match b, hx with | none, hx => by exact O.move (v := v1) rfl rfl rfl (WL.nil ⟨rfl, hx⟩) | some _, ⟨bb, hv, hx, H⟩ => by exact O.move (v := v1) rfl rfl rfl (WL.nil ⟨rfl, bb, hv, hx, H⟩)) ?_
        refine PL.of (fun b w8 _ hx => match b, hx with | none, hx => by have H := H.ext hx; exact O.call Try.call21 rfl rfl rfl (c_noongunref06_Least _ _ (H.own 2 rfl) hy3) (by rintro _ _ hb rfl; exact WL.nil ⟨rfl, hx.trans (hb.mono hx.size)⟩) | some _, ⟨bb, hv, hx, H⟩ => by exact O.call Try.call21 rfl rfl rfl (c_noongunref06_Least _ _ (H.own 2 rfl) hy3) (by rintro _ _ hb rfl; exact WL.nil ⟨rfl, bb, hv, hx.trans (hb.mono hx.size), H.ext hb⟩)) ?_
        refine PL.of (fun b w8 _ hx => match b, hx with | none, hx => by exact O.move (v := v1) rfl rfl rfl (WL.nil ⟨rfl, hx⟩) | some _, ⟨bb, hv, hx, H⟩ => by exact O.move (v := v1) rfl rfl rfl (WL.nil ⟨rfl, bb, hv, hx, H⟩)) ?_
        refine PL.of (fun b w8 _ hx => match b, hx with | none, hx => by have H := H.ext hx; exact O.call Try.call22 rfl rfl rfl (c_noongunref06_Greatest _ _ (H.own 2 rfl) hy4) (by rintro _ _ hb rfl; exact WL.nil ⟨rfl, hx.trans (hb.mono hx.size)⟩) | some _, ⟨bb, hv, hx, H⟩ => by exact O.call Try.call22 rfl rfl rfl (c_noongunref06_Greatest _ _ (H.own 2 rfl) hy4) (by rintro _ _ hb rfl; exact WL.nil ⟨rfl, bb, hv, hx.trans (hb.mono hx.size), H.ext hb⟩)) ?_
        refine PL.of (fun b w8 _ hx => match b, hx with | none, hx => by exact O.build (v := (.agg (Flat.cells (GTrial.mk a0.Name t3 t4 0 0)).toArray)) (fun w => bd28_0_1_2 _ _ _ w) rfl rfl rfl (WL.nil ⟨rfl, hx⟩) | some _, ⟨bb, hv, hx, H⟩ => by exact O.build (v := (.agg (Flat.cells (GTrial.mk a0.Name t3 t4 0 0)).toArray)) (fun w => bd28_0_1_2 _ _ _ w) rfl rfl rfl (WL.nil ⟨rfl, bb, hv, hx, H⟩)) ?_
        refine PL.nil ?_
        exact ⟨rfl, rfl, rfl⟩
      · skip
        rintro f _ w hx
        have H := H.ext hx
        exact O.alloc [(.string ByteArray.empty), (.int .i64 0), (.int .i64 0), (.int .i64 0), (.int .i64 0)] ze28 H rfl rfl rfl (fun b _ H hb => WL.nil ⟨_, rfl, b, rfl, hx.trans (hb.mono hx.size), H⟩)
      · skip
        rintro f w b3 ⟨hf2, hf4, hf23⟩ hmd hx H
        obtain ⟨u1, rfl⟩ : ∃ u1, f = (upd (upd (upd u1 2 (.pointer (some ⟨b2, 0, none⟩))) 4 v1) 23 (.agg (Flat.cells (GTrial.mk a0.Name t3 t4 0 0)).toArray)) := ⟨f, by rw [upd_self hf2, upd_self hf4, upd_self hf23]⟩
        refine O.store 3 0 [(.string a0.Name), (.int .i64 t3), (.int .i64 t4), (.int .i64 0), (.int .i64 0)] [(.string a0.Name), (.int .i64 t3), (.int .i64 t4), (.int .i64 0), (.int .i64 0)] sz28 H rfl rfl rfl rfl rfl rfl ⟨⟨rfl, rfl⟩, rfl⟩ (one_cons rfl (one_cons rfl (one_cons rfl (one_cons rfl (one_cons rfl one_nil))))) ?_
        intro w7 H
        refine WL.nil ?_
        refine W.seq ?_
        refine W.seq ?_
        refine W.region ?_
        refine O.assign (v := (.int .i64 1)) rfl rfl rfl ?_
        refine WL.nil ?_
        obtain ⟨s1, hm1, hm⟩ := bind_some hm
        refine W.via (fun f w => f 2 = (.pointer (some ⟨b2, 0, none⟩)) ∧ f 5 = (.pointer (some ⟨b3, 0, none⟩)) ∧ Inv w0 w [boxI b2 28 [(.string ByteArray.empty), (.int .i64 0), (.int .i64 0), (.int .i64 0), (.int .i64 0)], boxI b3 28 [(.string a0.Name), (.int .i64 t3), (.int .i64 t4), (.int .i64 s1), (.int .i64 0)]]) ?_ ?_
        · skip
          refine W.block ?_
          have H := H.keep [1, 2, 3] [boxI b2 28 [(.string ByteArray.empty), (.int .i64 0), (.int .i64 0), (.int .i64 0), (.int .i64 0)], ownI (α := Int) v1 3 t2, boxI b3 28 [(.string a0.Name), (.int .i64 t3), (.int .i64 t4), (.int .i64 0), (.int .i64 0)]] rfl (by decide)
          refine W.loopR hm1 (fun s f w => ∃ z3 : Int, ∃ z4 : Int, (z3, z4) = s ∧ f 2 = (.pointer (some ⟨b2, 0, none⟩)) ∧ f 4 = v1 ∧ f 5 = (.pointer (some ⟨b3, 0, none⟩)) ∧ f 6 = (.int .i64 z3) ∧ Inv w0 w [boxI b2 28 [(.string ByteArray.empty), (.int .i64 0), (.int .i64 0), (.int .i64 0), (.int .i64 0)], ownI (α := Int) v1 3 t2, boxI b3 28 [(.string a0.Name), (.int .i64 t3), (.int .i64 t4), (.int .i64 z4), (.int .i64 0)]]) ?_ ?_
          · skip
            exact ⟨_, _, rfl, rfl, rfl, rfl, rfl, H⟩
          · skip
            rintro _ st f w ⟨z3, z4, rfl, hf2, hf4, hf5, hf6, H⟩ hm2
            obtain ⟨u2, rfl⟩ : ∃ u2, f = (upd (upd (upd (upd u2 2 (.pointer (some ⟨b2, 0, none⟩))) 4 v1) 5 (.pointer (some ⟨b3, 0, none⟩))) 6 (.int .i64 z3)) := ⟨f, by rw [upd_self hf2, upd_self hf4, upd_self hf5, upd_self hf6]⟩
            refine W.seq ?_
            refine W.seq ?_
            refine W.region ?_
            refine O.move (v := (.int .i64 z3)) rfl rfl rfl ?_
            refine O.move (v := v1) rfl rfl rfl ?_
            refine O.lenS Try.underlying22 (H.own 1 rfl) rfl rfl rfl ?_
            refine O.lss rfl rfl rfl rfl ?_
            refine WL.nil ?_
            rcases ite_some hm2 with ⟨hc3, hm2⟩ | ⟨hc3, hm2⟩
            · refine W.cond_true (congrArg Value.bool hc3) ?_
              refine W.skip ?_
              refine W.seq ?_
              refine W.block ?_
              obtain ⟨x1, hx1, hm2⟩ := bind_some hm2
              obtain ⟨p1, hp1, hrp1⟩ := fix_indexAddr Try.underlying22 sz3 (H.own 1 rfl) hx1
              obtain ⟨t5, ht5, hm2⟩ := bind_some hm2
              obtain ⟨x2, hx2, hm2⟩ := bind_some hm2
              obtain ⟨p2, hp2, hrp2⟩ := fix_indexAddr Try.underlying22 sz3 (H.own 1 rfl) hx2
              obtain ⟨t6, ht6, hm2⟩ := bind_some hm2
              obtain ⟨t7, hy5, hm2⟩ := bind_some hm2
              refine W.drawN 13 (fun f => f 2 = (.pointer (some ⟨b2, 0, none⟩)) ∧ f 4 = v1 ∧ f 5 = (.pointer (some ⟨b3, 0, none⟩)) ∧ f 6 = (.int .i64 z3) ∧ f 31 = (.int .i64 z4) ∧ f 42 = (.int .i64 t7)) fol (by kernel_rfl) ?_ ?_
              · skip
                refine PL.of (fun _ w8 _ hx => O.fieldAddr fd28_3 rfl rfl rfl (WL.nil ⟨rfl, hx⟩)) ?_
                refine PL.of (fun _ w8 _ hx => by have H := H.ext hx; exact O.load sc3 rfl rfl rfl (H.cell 2 rfl 3 _ rfl) (WL.nil ⟨rfl, hx⟩)) ?_
                refine PL.of (fun _ w8 _ hx => O.move (v := v1) rfl rfl rfl (WL.nil ⟨rfl, hx⟩)) ?_
                refine PL.of (fun _ w8 _ hx => O.move (v := (.int .i64 z3)) rfl rfl rfl (WL.nil ⟨rfl, hx⟩)) ?_
                refine PL.of (fun _ w8 _ hx => hrp1 rfl rfl rfl rfl (WL.nil ⟨rfl, hx⟩)) ?_
                refine PL.of (fun _ w8 _ hx => by have hp1 := hp1.mono hx; exact O.load sc3 rfl rfl rfl (hp1.flat 0 _ rfl) (WL.nil ⟨rfl, hx⟩)) ?_
                refine PL.of (fun _ w8 _ hx => O.move (v := v1) rfl rfl rfl (WL.nil ⟨rfl, hx⟩)) ?_
                refine PL.of (fun _ w8 _ hx => O.move (v := (.int .i64 z3)) rfl rfl rfl (WL.nil ⟨rfl, hx⟩)) ?_
                refine PL.of (fun _ w8 _ hx => O.sub rfl rfl rfl rfl ht5 (WL.nil ⟨rfl, hx⟩)) ?_
                refine PL.of (fun _ w8 _ hx => hrp2 rfl rfl rfl rfl (WL.nil ⟨rfl, hx⟩)) ?_
                refine PL.of (fun _ w8 _ hx => by have hp2 := hp2.mono hx; exact O.load sc3 rfl rfl rfl (hp2.flat 0 _ rfl) (WL.nil ⟨rfl, hx⟩)) ?_
                refine PL.of (fun _ w8 _ hx => O.sub rfl rfl rfl rfl ht6 (WL.nil ⟨rfl, hx⟩)) ?_
                refine PL.of (fun _ w8 _ hx => O.call Try.call69 rfl rfl rfl (c_noongunref06_Abs _ hy5) (by rintro _ _ hb rfl; exact WL.nil ⟨rfl, hx.trans (hb.mono hx.size)⟩)) ?_
                refine PL.nil ?_
                exact ⟨rfl, rfl, rfl, rfl, rfl, rfl⟩
              · skip
                rintro f w ⟨hf2, hf4, hf5, hf6, hf31, hf42⟩ hmd hx
                have H := H.ext hx
                have hp1 := hp1.mono hx
                have hp2 := hp2.mono hx
                obtain ⟨u3, rfl⟩ : ∃ u3, f = (upd (upd (upd (upd (upd (upd u3 2 (.pointer (some ⟨b2, 0, none⟩))) 4 v1) 5 (.pointer (some ⟨b3, 0, none⟩))) 6 (.int .i64 z3)) 31 (.int .i64 z4)) 42 (.int .i64 t7)) := ⟨f, by rw [upd_self hf2, upd_self hf4, upd_self hf5, upd_self hf6, upd_self hf31, upd_self hf42]⟩
                refine O.max2 rfl rfl rfl rfl ?_
                refine O.fieldAddr fd28_3 rfl rfl rfl ?_
                refine O.store 2 3 [(.int .i64 (max z4 t7))] [(.string a0.Name), (.int .i64 t3), (.int .i64 t4), (.int .i64 (max z4 t7)), (.int .i64 0)] sz3 H rfl rfl rfl rfl rfl rfl ⟨⟨rfl, rfl⟩, rfl⟩ (one_cons rfl one_nil) ?_
                intro w8 H
                clear hp1
                clear hp2
                refine WL.nil ?_
                refine W.region ?_
                refine O.move (v := (.int .i64 z3)) rfl rfl rfl ?_
                obtain ⟨t8, ht8, hm2⟩ := bind_some hm2
                refine O.add rfl rfl rfl rfl ht8 ?_
                refine O.assign (v := (.int .i64 t8)) rfl rfl rfl ?_
                refine WL.nil ?_
                obtain rfl := Option.some.inj hm2
                exact ⟨_, rfl, _, _, rfl, rfl, rfl, rfl, rfl, H⟩
            · refine W.cond_false (congrArg Value.bool hc3) ?_
              refine W.exit ?_
              obtain rfl := Option.some.inj hm2
              refine ⟨_, rfl, ?_⟩
              intro hy
              have hq : z4 = s1 := hy
              subst hq
              have H := H.keep [0, 2] [boxI b2 28 [(.string ByteArray.empty), (.int .i64 0), (.int .i64 0), (.int .i64 0), (.int .i64 0)], boxI b3 28 [(.string a0.Name), (.int .i64 t3), (.int .i64 t4), (.int .i64 z4), (.int .i64 0)]] rfl (by decide)
              refine xT rfl ?_
              exact ⟨rfl, rfl, H⟩
        · skip
          rintro f w ⟨hf2, hf5, H⟩
          obtain ⟨u4, rfl⟩ : ∃ u4, f = (upd (upd u4 2 (.pointer (some ⟨b2, 0, none⟩))) 5 (.pointer (some ⟨b3, 0, none⟩))) := ⟨f, by rw [upd_self hf2, upd_self hf5]⟩
          refine W.seq ?_
          refine W.region ?_
          refine O.fieldAddr fd28_2 rfl rfl rfl ?_
          refine O.load sc3 rfl rfl rfl (H.cell 1 rfl 2 _ rfl) ?_
          refine O.fieldAddr fd28_1 rfl rfl rfl ?_
          refine O.load sc3 rfl rfl rfl (H.cell 1 rfl 1 _ rfl) ?_
          obtain ⟨t9, ht9, hm⟩ := bind_some hm
          refine O.sub rfl rfl rfl rfl ht9 ?_
          refine O.fieldAddr fd28_3 rfl rfl rfl ?_
          refine O.load sc3 rfl rfl rfl (H.cell 1 rfl 3 _ rfl) ?_
          obtain ⟨t10, ht10, hm⟩ := bind_some hm
          refine O.mul rfl rfl rfl rfl ht10 ?_
          obtain ⟨t11, ht11, hm⟩ := bind_some hm
          refine O.add rfl rfl rfl rfl ht11 ?_
          refine O.fieldAddr fd28_4 rfl rfl rfl ?_
          refine O.store 1 4 [(.int .i64 t11)] [(.string a0.Name), (.int .i64 t3), (.int .i64 t4), (.int .i64 s1), (.int .i64 t11)] sz3 H rfl rfl rfl rfl rfl rfl ⟨⟨rfl, rfl⟩, rfl⟩ (one_cons rfl one_nil) ?_
          intro w9 H
          refine WL.nil ?_
          refine W.seq ?_
          refine W.region ?_
          refine O.loadA [(.string a0.Name), (.int .i64 t3), (.int .i64 t4), (.int .i64 s1), (.int .i64 t11)] ag28 rfl rfl rfl rfl (H.cell 1 rfl) ?_
          refine O.store 0 0 [(.string a0.Name), (.int .i64 t3), (.int .i64 t4), (.int .i64 s1), (.int .i64 t11)] [(.string a0.Name), (.int .i64 t3), (.int .i64 t4), (.int .i64 s1), (.int .i64 t11)] sz28 H rfl rfl rfl rfl rfl rfl ⟨⟨rfl, rfl⟩, rfl⟩ (one_cons rfl (one_cons rfl (one_cons rfl (one_cons rfl (one_cons rfl one_nil))))) ?_
          intro w10 H
          refine O.assign (v := (.int .i64 0)) rfl rfl rfl ?_
          refine WL.nil ?_
          refine W.ret ?_
          have hq : ((GTrial.mk a0.Name t3 t4 s1 t11), 0) = (r0, r1) := Option.some.inj (show some ((GTrial.mk a0.Name t3 t4 s1 t11), 0) = some (r0, r1) from hm)
          obtain ⟨he0, hq0⟩ := Prod.mk.inj hq; clear hq; subst he0
          subst hq0
          exact ends2 Try.results48 ⟨_, rfl, run_loadVar_agg ag28 rfl (H.cell 0 rfl)⟩ rfl ⟨_, rfl, H.base, rfl⟩

end Go.Proofs
