/-
  The walks: each function does what its model says, where the model has a value. No other condition.
-/
import Derived.Test.YtnkncedhanainaaGreatDoorW1
namespace Go.Proofs
open Go.Fw Go.RowKit Go.Shelf
set_option maxRecDepth 20000 in
theorem c_slices_Equal_int {w0 : World} (va0 : Value) (a0 : (List Int)) (ha0 : SliceR w0 va0 a0) (va1 : Value) (a1 : (List Int)) (ha1 : SliceR w0 va1 a1) {r0 : Bool} (hm : slices_Equal_int a0 a1 = some r0) :
  Calls Tryz.prog 34 #[va0, va1] w0 (Ret w0 fun _ v => v = (.bool r0)) := by
 unfold slices_Equal_int at hm
 refine calls_of_W Tryz.func34 rfl Tryz.ntmps34 (Nat.le_of_ble_eq_true rfl) ?_
 have H := Inv.start (w := w0)
 refine W.seq ?_
 refine W.region ?_
 refine O.assign (v := (.bool false)) rfl rfl rfl ?_
 refine WL.nil ?_
 refine W.seq ?_
 refine W.seq ?_
 refine W.region ?_
 refine O.move (v := va0) rfl rfl rfl ?_
 refine O.lenS Tryz.underlying33 (H.arg ha0) rfl rfl rfl ?_
 refine O.move (v := va1) rfl rfl rfl ?_
 refine O.lenS Tryz.underlying33 (H.arg ha1) rfl rfl rfl ?_
 refine O.neq rfl rfl rfl rfl ?_
 refine WL.nil ?_
 rcases ite_some hm with ⟨hc1, hm⟩ | ⟨hc1, hm⟩
 ·
  refine W.cond_true (congrArg Value.bool hc1) ?_
  refine W.seq ?_
  refine W.region ?_
  refine O.assign (v := (.bool false)) rfl rfl rfl ?_
  refine WL.nil ?_
  refine W.ret ?_
  have hq : false = r0 := Option.some.inj (show some false = some r0 from hm)
  subst hq
  exact ends1 Tryz.results34 rfl ⟨_, rfl, H.base, rfl⟩
 ·
  refine W.cond_false (congrArg Value.bool hc1) ?_
  refine W.skip ?_
  refine W.seq ?_
  refine W.seq ?_
  refine W.region ?_
  refine O.move (v := va0) rfl rfl rfl ?_
  refine O.lenS Tryz.underlying33 (H.arg ha0) rfl rfl rfl ?_
  refine O.move (v := (.int .i64 0)) rfl rfl rfl ?_
  refine WL.nil ?_
  obtain ⟨o1, hm1, hm⟩ := bind_some hm
  refine W.via (fun f w => o1 = .next () ∧ Inv w0 w []) ?_ ?_
  ·
   refine W.block ?_
   have hbdik1 := (H.arg ha0).len_le
   refine W.rangeN (i := 0) hm1 (fun rem ik1 s f w => () = s ∧ (ik1 : Int) + rem = max 0 ((a0.length : Nat) : Int) ∧ f 13 = .int .i64 (ik1 : Int) ∧ f 12 = (.int .i64 ((a0.length : Nat) : Int)) ∧ f 0 = va0 ∧ f 1 = va1 ∧ Inv w0 w []) ?_ ?_ ?_
   ·
    exact ⟨rfl, rangeN_start, rfl, rfl, rfl, rfl, H⟩
   ·
    rintro k ik1 _ st f w ⟨rfl, hdropk1, hf13, hf12, hf0, hf1, H⟩ hm2
    have hltk1 := rangeN_lt hdropk1
    obtain ⟨u1, rfl⟩ := up4 hf13 hf12 hf0 hf1
    have hinck1 := addI_lt hltk1 hbdik1
    refine W.seq ?_
    refine W.region ?_
    refine O.lss rfl rfl rfl rfl ?_
    refine WL.nil ?_
    refine W.seq ?_
    refine W.cond_true (congrArg Value.bool (decide_eq_true hltk1)) ?_
    refine W.skip ?_
    refine W.seq ?_
    refine W.block ?_
    refine W.seq ?_
    refine W.region ?_
    refine O.move (v := (.int .i64 (ik1 : Int))) rfl rfl rfl ?_
    refine O.assign (v := (.int .i64 (ik1 : Int))) rfl rfl rfl ?_
    refine WL.nil ?_
    refine W.seq ?_
    obtain ⟨x1, hx1, hm2⟩ := bind_some hm2
    obtain ⟨p1, hp1, hrp1⟩ := fix_indexAddr Tryz.underlying33 sz3 (H.arg ha0) hx1
    obtain ⟨x2, hx2, hm2⟩ := bind_some hm2
    obtain ⟨p2, hp2, hrp2⟩ := fix_indexAddr Tryz.underlying33 sz3 (H.arg ha1) hx2
    refine W.drawN 8 (fun f => f 0 = va0 ∧ f 1 = va1 ∧ f 12 = (.int .i64 ((a0.length : Nat) : Int)) ∧ f 13 = (.int .i64 (ik1 : Int)) ∧ f 19 = (.int .i64 x1) ∧ f 23 = (.int .i64 x2)) fol (by kernel_rfl) ?_ ?_
    ·
     refine PL.of (fun _ w8 _ hx => O.move (v := va0) rfl rfl rfl (WL.nil ⟨rfl, hx⟩)) ?_
     refine PL.of (fun _ w8 _ hx => O.move (v := (.int .i64 (ik1 : Int))) rfl rfl rfl (WL.nil ⟨rfl, hx⟩)) ?_
     refine PL.of (fun _ w8 _ hx => hrp1 rfl rfl rfl rfl (WL.nil ⟨rfl, hx⟩)) ?_
     refine PL.of (fun _ w8 _ hx => by have hp1 := hp1.mono hx; exact O.load sc3 rfl rfl rfl (hp1.flat 0 _ rfl) (WL.nil ⟨rfl, hx⟩)) ?_
     refine PL.of (fun _ w8 _ hx => O.move (v := va1) rfl rfl rfl (WL.nil ⟨rfl, hx⟩)) ?_
     refine PL.of (fun _ w8 _ hx => O.move (v := (.int .i64 (ik1 : Int))) rfl rfl rfl (WL.nil ⟨rfl, hx⟩)) ?_
     refine PL.of (fun _ w8 _ hx => hrp2 rfl rfl rfl rfl (WL.nil ⟨rfl, hx⟩)) ?_
     refine PL.of (fun _ w8 _ hx => by have hp2 := hp2.mono hx; exact O.load sc3 rfl rfl rfl (hp2.flat 0 _ rfl) (WL.nil ⟨rfl, hx⟩)) ?_
     refine PL.nil ?_
     exact ⟨rfl, rfl, rfl, rfl, rfl, rfl⟩
    ·
     rintro f w ⟨hf0, hf1, hf12, hf13, hf19, hf23⟩ hmd hx
     have H := H.ext hx
     have hp1 := hp1.mono hx
     have hp2 := hp2.mono hx
     obtain ⟨u2, rfl⟩ := up6 hf0 hf1 hf12 hf13 hf19 hf23
     refine O.neq rfl rfl rfl rfl ?_
     refine WL.nil ?_
     rcases ite_some hm2 with ⟨hc2, hm2⟩ | ⟨hc2, hm2⟩
     ·
      refine W.cond_true (congrArg Value.bool hc2) ?_
      refine W.seq ?_
      refine W.region ?_
      refine O.assign (v := (.bool false)) rfl rfl rfl ?_
      refine WL.nil ?_
      refine W.ret ?_
      obtain rfl := Option.some.inj hm2
      refine ⟨_, rfl, ?_⟩
      rintro rfl
      have hq : false = r0 := Option.some.inj (show some false = some r0 from hm)
      subst hq
      exact ends1 Tryz.results34 rfl ⟨_, rfl, H.base, rfl⟩
     ·
      refine W.cond_false (congrArg Value.bool hc2) ?_
      refine W.skip ?_
      refine W.region ?_
      refine O.add rfl rfl rfl rfl hinck1 ?_
      refine O.move (v := .int .i64 ((ik1 : Int) + 1)) rfl rfl rfl ?_
      refine WL.nil ?_
      obtain rfl := Option.some.inj hm2
      exact ⟨_, rfl, rfl, rangeN_next hdropk1, rfl, rfl, rfl, rfl, H⟩
   ·
    rintro ik1 _ f w ⟨rfl, hdropk1, hf13, hf12, hf0, hf1, H⟩ hfin
    have hltk1 := rangeN_end hdropk1
    obtain ⟨u3, rfl⟩ := up4 hf13 hf12 hf0 hf1
    refine W.seq ?_
    refine W.region ?_
    refine O.lss rfl rfl rfl rfl ?_
    refine WL.nil ?_
    refine W.seq ?_
    refine W.cond_false (congrArg Value.bool (decide_eq_false hltk1)) ?_
    refine W.exit ?_
    obtain rfl : Ctl.next () = o1 := hfin
    refine xT rfl ?_
    exact ⟨rfl, H⟩
  ·
   rintro f w ⟨rfl, H⟩
   refine W.seq ?_
   refine W.region ?_
   refine O.assign (v := (.bool true)) rfl rfl rfl ?_
   refine WL.nil ?_
   refine W.ret ?_
   have hq : true = r0 := Option.some.inj (show some true = some r0 from hm)
   subst hq
   exact ends1 Tryz.results34 rfl ⟨_, rfl, H.base, rfl⟩

set_option maxRecDepth 20000 in
theorem c_flag_Look {w0 : World} (hT : TabH Tryz.prog w0) (va0 : Value) (a0 : (List GMeaning)) (ha0 : SliceR w0 va0 a0) (va1 : Value) (a1 : (List Int)) (ha1 : SliceR w0 va1 a1) {r0 : ByteArray} {r1 : Int} (hm : flag_Look a0 a1 = some (r0, r1)) :
  Calls Tryz.prog 11 #[va0, va1] w0 (Ret w0 fun _ v => v = .tuple #[(.string r0), (.int .i64 r1)]) := by
 unfold flag_Look at hm
 refine calls_of_W Tryz.func11 rfl Tryz.ntmps11 (Nat.le_of_ble_eq_true rfl) ?_
 have H := Inv.start (w := w0)
 refine W.seq ?_
 refine W.region ?_
 refine O.assign (v := (.string (bs []))) rfl rfl rfl ?_
 refine O.assign (v := (.int .i64 0)) rfl rfl rfl ?_
 refine WL.nil ?_
 refine W.seq ?_
 refine W.seq ?_
 refine W.region ?_
 refine O.move (v := va0) rfl rfl rfl ?_
 obtain ⟨t1, hy1, hm⟩ := bind_some hm
 refine O.call Tryz.call8 rfl rfl rfl (c_flag_ValidBook _ _ (H.arg ha0) hy1) ?_
 rintro _ w1 hb1 rfl
 have H := H.ext hb1
 refine O.not rfl rfl rfl ?_
 refine O.move (v := (.bool (!t1))) rfl rfl rfl ?_
 obtain ⟨b1, hm1, hm⟩ := bind_some hm
 refine WL.cut 4 (fun f w => f 0 = va0 ∧ f 1 = va1 ∧ f 16 = .bool b1 ∧ Inv w0 w []) ?_ ?_
 ·
  rcases ite_some hm1 with ⟨hc1, hm1⟩ | ⟨hc1, hm1⟩
  ·
   refine WL.reset (i := 12) (v := .bool true) (congrArg Value.bool hc1) ?_
   refine O.skip rfl rfl ?_
   refine O.skip rfl rfl ?_
   refine O.skip rfl rfl ?_
   refine O.pick_true (v := (.bool true)) rfl rfl rfl rfl ?_
   refine WL.nil ?_
   have hq : true = b1 := Option.some.inj (show some true = some b1 from hm1)
   subst hq
   exact ⟨rfl, rfl, rfl, H⟩
  ·
   refine WL.reset (i := 12) (v := .bool false) (congrArg Value.bool hc1) ?_
   refine O.move (v := va1) rfl rfl rfl ?_
   obtain ⟨t2, hy2, hm1⟩ := bind_some hm1
   refine O.call Tryz.call30 rfl rfl rfl (c_flag_ValidHoist _ _ (H.arg ha1) hy2) ?_
   rintro _ w2 hb2 rfl
   have H := H.ext hb2
   refine O.not rfl rfl rfl ?_
   refine O.pick_false (v := (.bool (!t2))) rfl rfl rfl rfl ?_
   refine WL.nil ?_
   have hq : (!t2) = b1 := Option.some.inj (show some (!t2) = some b1 from hm1)
   subst hq
   exact ⟨rfl, rfl, rfl, H⟩
 ·
  rintro f w ⟨hf0, hf1, hf16, H⟩
  obtain ⟨u1, rfl⟩ := up3 hf0 hf1 hf16
  refine WL.nil ?_
  rcases ite_some hm with ⟨hc2, hm⟩ | ⟨hc2, hm⟩
  ·
   refine W.cond_true (congrArg Value.bool hc2) ?_
   refine W.seq ?_
   refine W.region ?_
   refine O.assign (v := (.string (bs []))) rfl rfl rfl ?_
   refine O.assign (v := (.int .i64 1)) rfl rfl rfl ?_
   refine WL.nil ?_
   refine W.ret ?_
   have hq : ((bs []), 1) = (r0, r1) := Option.some.inj (show some ((bs []), 1) = some (r0, r1) from hm)
   obtain ⟨he0, hq0⟩ := Prod.mk.inj hq; clear hq; subst he0
   subst hq0
   exact ends2 Tryz.results11 rfl rfl ⟨_, rfl, H.base, rfl⟩
  ·
   refine W.cond_false (congrArg Value.bool hc2) ?_
   refine W.skip ?_
   refine W.seq ?_
   refine W.region ?_
   refine O.move (v := va1) rfl rfl rfl ?_
   obtain ⟨t3, hy3, hm⟩ := bind_some hm
   refine O.call Tryz.call31 rfl rfl rfl (c_flag_means _ _ (H.arg ha1) hy3) ?_
   rintro v1 w3 hb3 ho1
   have H := H.addOwn hb3 ho1
   refine O.assign (v := v1) rfl rfl rfl ?_
   refine WL.nil ?_
   refine W.seq ?_
   refine W.region ?_
   refine O.move (v := va0) rfl rfl rfl ?_
   obtain ⟨t4, hy4, hm⟩ := bind_some hm
   refine O.call Tryz.call32 rfl rfl rfl (c_flag_texts _ _ (H.arg ha0) hy4) ?_
   rintro _ w4 hb4 ⟨m1, rfl, ho2a, ho2b⟩
   have H := H.addMap hb4 ho2a ho2b
   refine O.move (v := v1) rfl rfl rfl ?_
   obtain ⟨t5, hy5, hm⟩ := bind_some hm
   refine O.call Tryz.call33 rfl rfl rfl (c_flag_number _ _ (H.own 0 rfl) hy5) ?_
   rintro _ w5 hb5 rfl
   have H := H.ext hb5
   refine O.lookup2 (z := ByteArray.empty) t5 Tryz.underlying71 key3 ze9 (H.map 1 rfl) rfl rfl rfl rfl ?_
   refine O.move (v := (.tuple #[(.string ((mget t4 t5).getD ByteArray.empty)), (.bool (mget t4 t5).isSome)])) rfl rfl rfl ?_
   refine O.extract (v := (.string ((mget t4 t5).getD ByteArray.empty))) rfl rfl rfl rfl ?_
   refine O.extract (v := (.bool (mget t4 t5).isSome)) rfl rfl rfl rfl ?_
   refine O.assign (v := (.string ((mget t4 t5).getD ByteArray.empty))) rfl rfl rfl ?_
   refine O.assign (v := (.bool (mget t4 t5).isSome)) rfl rfl rfl ?_
   refine WL.nil ?_
   refine W.seq ?_
   refine W.seq ?_
   refine W.region ?_
   refine O.move (v := (.bool (mget t4 t5).isSome)) rfl rfl rfl ?_
   refine O.not rfl rfl rfl ?_
   refine O.move (v := (.bool (!(mget t4 t5).isSome))) rfl rfl rfl ?_
   obtain ⟨b2, hm2, hm⟩ := bind_some hm
   refine WL.cut 7 (fun f w => f 7 = (.string ((mget t4 t5).getD ByteArray.empty)) ∧ f 36 = .bool b2 ∧ Inv w0 w [ownI (α := Int) v1 3 t3, mapI (K := Int) (V := ByteArray) m1 t4]) ?_ ?_
   ·
    rcases ite_some hm2 with ⟨hc3, hm2⟩ | ⟨hc3, hm2⟩
    ·
     refine WL.reset (i := 29) (v := .bool true) (congrArg Value.bool hc3) ?_
     refine O.skip rfl rfl ?_
     refine O.skip rfl rfl ?_
     refine O.skip rfl rfl ?_
     refine O.skip rfl rfl ?_
     refine O.skip rfl rfl ?_
     refine O.skip rfl rfl ?_
     refine O.pick_true (v := (.bool true)) rfl rfl rfl rfl ?_
     refine WL.nil ?_
     have hq : true = b2 := Option.some.inj (show some true = some b2 from hm2)
     subst hq
     exact ⟨rfl, rfl, H⟩
    ·
     refine WL.reset (i := 29) (v := .bool false) (congrArg Value.bool hc3) ?_
     refine O.move (v := v1) rfl rfl rfl ?_
     refine O.move (v := v1) rfl rfl rfl ?_
     obtain ⟨t6, hy6, hm2⟩ := bind_some hm2
     refine O.call Tryz.call33 rfl rfl rfl (c_flag_number _ _ (H.own 0 rfl) hy6) ?_
     rintro _ w6 hb6 rfl
     have H := H.ext hb6
     obtain ⟨t7, hy7, hm2⟩ := bind_some hm2
     refine O.call Tryz.call19 rfl rfl rfl (c_flag_digitsOf (hT.mono H.base) _ hy7) ?_
     rintro v2 w7 hb7 ho3
     have H := H.addOwn hb7 ho3
     obtain ⟨t8, hy8, hm2⟩ := bind_some hm2
     refine O.call Tryz.call34 rfl rfl rfl (c_slices_Equal_int _ _ (H.own 0 rfl) _ _ (H.own 2 rfl) hy8) ?_
     rintro _ w8 hb8 rfl
     have H := H.ext hb8
     refine O.not rfl rfl rfl ?_
     refine O.pick_false (v := (.bool (!t8))) rfl rfl rfl rfl ?_
     refine WL.nil ?_
     have H := H.keep [0, 1] [ownI (α := Int) v1 3 t3, mapI (K := Int) (V := ByteArray) m1 t4] rfl (by decide)
     have hq : (!t8) = b2 := Option.some.inj (show some (!t8) = some b2 from hm2)
     subst hq
     exact ⟨rfl, rfl, H⟩
   ·
    rintro f w ⟨hf7, hf36, H⟩
    obtain ⟨u2, rfl⟩ := up2 hf7 hf36
    refine WL.nil ?_
    rcases ite_some hm with ⟨hc4, hm⟩ | ⟨hc4, hm⟩
    ·
     refine W.cond_true (congrArg Value.bool hc4) ?_
     refine W.seq ?_
     refine W.region ?_
     refine O.assign (v := (.string (bs []))) rfl rfl rfl ?_
     refine O.assign (v := (.int .i64 8)) rfl rfl rfl ?_
     refine WL.nil ?_
     refine W.ret ?_
     have hq : ((bs []), 8) = (r0, r1) := Option.some.inj (show some ((bs []), 8) = some (r0, r1) from hm)
     obtain ⟨he0, hq0⟩ := Prod.mk.inj hq; clear hq; subst he0
     subst hq0
     exact ends2 Tryz.results11 rfl rfl ⟨_, rfl, H.base, rfl⟩
    ·
     refine W.cond_false (congrArg Value.bool hc4) ?_
     refine W.skip ?_
     refine W.seq ?_
     refine W.region ?_
     refine O.move (v := (.string ((mget t4 t5).getD ByteArray.empty))) rfl rfl rfl ?_
     refine O.assign (v := (.string ((mget t4 t5).getD ByteArray.empty))) rfl rfl rfl ?_
     refine O.assign (v := (.int .i64 0)) rfl rfl rfl ?_
     refine WL.nil ?_
     refine W.ret ?_
     have hq : (((mget t4 t5).getD ByteArray.empty), 0) = (r0, r1) := Option.some.inj (show some (((mget t4 t5).getD ByteArray.empty), 0) = some (r0, r1) from hm)
     obtain ⟨he0, hq0⟩ := Prod.mk.inj hq; clear hq; subst he0
     subst hq0
     exact ends2 Tryz.results11 rfl rfl ⟨_, rfl, H.base, rfl⟩

set_option maxRecDepth 20000 in
theorem c_noonguntop_TopVerdictHoisted {w0 : World} (hT : TabH Tryz.prog w0) (a0 : GMast) (va1 : Value) (a1 : (List GEvent)) (ha1 : SliceR w0 va1 a1) (a2 : Int) {r0 : Bool} (hm : noonguntop_TopVerdictHoisted a0 a1 a2 = some r0) :
  Calls Tryz.prog 3 #[(.agg (Flat.cells a0).toArray), va1, (.int .i64 a2)] w0 (Ret w0 fun _ v => v = (.bool r0)) := by
 unfold noonguntop_TopVerdictHoisted at hm
 refine calls_of_W Tryz.func3 rfl Tryz.ntmps3 (Nat.le_of_ble_eq_true rfl) ?_
 have H := Inv.start (w := w0)
 refine W.seq ?_
 refine W.region ?_
 refine O.box [(.int .i64 a0.Noon), (.int .i64 a0.Half), (.int .i64 a0.Full), (.int .i64 a0.Late), (.int .i64 a0.Again), (.int .i64 a0.Wind)] H rfl rfl rfl rfl ?_
 intro b1 w1 H hb1
 refine O.assign (v := (.bool false)) rfl rfl rfl ?_
 refine WL.nil ?_
 refine W.seq ?_
 refine W.seq ?_
 refine W.region ?_
 refine O.move (v := va1) rfl rfl rfl ?_
 refine O.lenS Tryz.underlying24 (H.arg ha1) rfl rfl rfl ?_
 refine O.gtr rfl rfl rfl rfl ?_
 refine WL.nil ?_
 rcases ite_some hm with ⟨hc1, hm⟩ | ⟨hc1, hm⟩
 ·
  refine W.cond_true (congrArg Value.bool hc1) ?_
  refine W.seq ?_
  refine W.region ?_
  obtain ⟨t1, hy1, hm⟩ := bind_some hm
  refine O.call Tryz.call4 rfl rfl rfl (c_noonguntop_awake9  hy1) ?_
  rintro _ w2 hb2 rfl
  have H := H.ext hb2
  refine O.assign (v := (.bool t1)) rfl rfl rfl ?_
  refine WL.nil ?_
  refine W.ret ?_
  have hq : t1 = r0 := Option.some.inj (show some t1 = some r0 from hm)
  subst hq
  exact ends1 Tryz.results3 rfl ⟨_, rfl, H.base, rfl⟩
 ·
  refine W.cond_false (congrArg Value.bool hc1) ?_
  refine W.skip ?_
  refine W.seq ?_
  refine W.region ?_
  refine O.loadA [(.int .i64 a0.Noon), (.int .i64 a0.Half), (.int .i64 a0.Full), (.int .i64 a0.Late), (.int .i64 a0.Again), (.int .i64 a0.Wind)] ag23 rfl rfl rfl rfl (H.cell 0 rfl) ?_
  refine O.move (v := va1) rfl rfl rfl ?_
  obtain ⟨⟨t2, t3⟩, hy2, hm⟩ := bind_some hm
  refine O.call Tryz.call5 rfl rfl rfl (c_ball_Verdict a0 _ _ (H.arg ha1) hy2) ?_
  rintro _ w3 hb3 rfl
  have H := H.ext hb3
  refine O.move (v := (.tuple #[(.int .i64 t2), (.int .i64 t3)])) rfl rfl rfl ?_
  refine O.extract (v := (.int .i64 t2)) rfl rfl rfl rfl ?_
  refine O.extract (v := (.int .i64 t3)) rfl rfl rfl rfl ?_
  refine O.assign (v := (.int .i64 t2)) rfl rfl rfl ?_
  refine O.assign (v := (.int .i64 t3)) rfl rfl rfl ?_
  refine WL.nil ?_
  refine W.seq ?_
  refine W.seq ?_
  refine W.region ?_
  refine O.move (v := (.int .i64 t3)) rfl rfl rfl ?_
  refine O.neq rfl rfl rfl rfl ?_
  refine WL.nil ?_
  rcases ite_some hm with ⟨hc2, hm⟩ | ⟨hc2, hm⟩
  ·
   refine W.cond_true (congrArg Value.bool hc2) ?_
   refine W.seq ?_
   refine W.region ?_
   refine O.move (v := (.int .i64 t2)) rfl rfl rfl ?_
   refine O.eql rfl rfl rfl rfl ?_
   refine O.move (v := (.bool (t2 == 0))) rfl rfl rfl ?_
   obtain ⟨b2, hm1, hm⟩ := bind_some hm
   refine WL.cut 2 (fun f w => f 38 = .bool b2 ∧ Inv w0 w [boxI b1 23 [(.int .i64 a0.Noon), (.int .i64 a0.Half), (.int .i64 a0.Full), (.int .i64 a0.Late), (.int .i64 a0.Again), (.int .i64 a0.Wind)]]) ?_ ?_
   ·
    rcases ite_some hm1 with ⟨hc3, hm1⟩ | ⟨hc3, hm1⟩
    ·
     refine WL.reset (i := 36) (v := .bool true) (congrArg Value.bool hc3) ?_
     obtain ⟨t4, hy3, hm1⟩ := bind_some hm1
     refine O.call Tryz.call4 rfl rfl rfl (c_noonguntop_awake9  hy3) ?_
     rintro _ w4 hb4 rfl
     have H := H.ext hb4
     refine O.pick_true (v := (.bool t4)) rfl rfl rfl rfl ?_
     refine WL.nil ?_
     have hq : t4 = b2 := Option.some.inj (show some t4 = some b2 from hm1)
     subst hq
     exact ⟨rfl, H⟩
    ·
     refine WL.reset (i := 36) (v := .bool false) (congrArg Value.bool hc3) ?_
     refine O.skip rfl rfl ?_
     refine O.pick_false (v := (.bool false)) rfl rfl rfl rfl ?_
     refine WL.nil ?_
     have hq : false = b2 := Option.some.inj (show some false = some b2 from hm1)
     subst hq
     exact ⟨rfl, H⟩
   ·
    rintro f w ⟨hf38, H⟩
    obtain ⟨u1, rfl⟩ := up1 hf38
    refine O.assign (v := (.bool b2)) rfl rfl rfl ?_
    refine WL.nil ?_
    refine W.ret ?_
    have hq : b2 = r0 := Option.some.inj (show some b2 = some r0 from hm)
    subst hq
    exact ends1 Tryz.results3 rfl ⟨_, rfl, H.base, rfl⟩
  ·
   refine W.cond_false (congrArg Value.bool hc2) ?_
   refine W.skip ?_
   refine W.seq ?_
   refine W.region ?_
   have H := H.addNil (α := GMeaning) (E := 32)
   refine O.assign (v := (.slice none 0 0)) rfl rfl rfl ?_
   refine WL.nil ?_
   refine W.seq ?_
   refine W.seq ?_
   refine W.region ?_
   refine O.move (v := (.int .i64 0)) rfl rfl rfl ?_
   refine WL.nil ?_
   obtain ⟨s1, hm2, hm⟩ := bind_some hm
   refine W.via (fun f w => ∃ v4 : Value, f 2 = (.int .i64 a2) ∧ f 7 = (.int .i64 t2) ∧ f 9 = v4 ∧ Inv w0 w [ownI (α := GMeaning) v4 32 s1]) ?_ ?_
   ·
    refine W.block ?_
    have H := H.keep [1] [ownI (α := GMeaning) (.slice none 0 0) 32 ([] : List GMeaning)] rfl (by decide)
    refine W.rangeN (i := 0) hm2 (fun rem ik1 s f w => ∃ z2 : (List GMeaning), ∃ v2 : Value, z2 = s ∧ (ik1 : Int) + rem = max 0 6 ∧ f 39 = .int .i64 (ik1 : Int) ∧ f 2 = (.int .i64 a2) ∧ f 7 = (.int .i64 t2) ∧ f 9 = v2 ∧ Inv w0 w [ownI (α := GMeaning) v2 32 z2]) ?_ ?_ ?_
    ·
     exact ⟨_, (.slice none 0 0), rfl, rangeN_start, rfl, rfl, rfl, rfl, H⟩
    ·
     rintro k ik1 _ st f w ⟨z2, v2, rfl, hdropk1, hf39, hf2, hf7, hf9, H⟩ hm3
     have hltk1 := rangeN_lt hdropk1
     obtain ⟨u2, rfl⟩ := up4 hf39 hf2 hf7 hf9
     have hinck1 := addI_lt hltk1 (by decide)
     refine W.seq ?_
     refine W.region ?_
     refine O.lss rfl rfl rfl rfl ?_
     refine WL.nil ?_
     refine W.seq ?_
     refine W.cond_true (congrArg Value.bool (decide_eq_true hltk1)) ?_
     refine W.skip ?_
     refine W.seq ?_
     refine W.block ?_
     refine W.seq ?_
     refine W.region ?_
     refine O.move (v := (.int .i64 (ik1 : Int))) rfl rfl rfl ?_
     refine O.assign (v := (.int .i64 (ik1 : Int))) rfl rfl rfl ?_
     refine WL.nil ?_
     refine W.region ?_
     refine O.move (v := v2) rfl rfl rfl ?_
     refine O.move (v := (.int .i64 (ik1 : Int))) rfl rfl rfl ?_
     obtain ⟨t5, ht5, hm3⟩ := bind_some hm3
     refine O.add rfl rfl rfl rfl ht5 ?_
     refine O.move (v := (.int .i64 (ik1 : Int))) rfl rfl rfl ?_
     obtain ⟨t6, hy4, hm3⟩ := bind_some hm3
     refine O.call Tryz.call6 rfl rfl rfl (c_ball_Word _ hy4) ?_
     rintro _ w5 hb5 rfl
     have H := H.ext hb5
     refine O.build (v := (.agg (Flat.cells (GMeaning.mk t5 t6)).toArray)) (fun w => bd32_0_1 _ _ w) rfl rfl rfl ?_
     refine O.buildSlice (α := GMeaning) [(.agg (Flat.cells (GMeaning.mk t5 t6)).toArray)] [(GMeaning.mk t5 t6)] Tryz.underlying29 el32 H rfl rfl rfl rfl rfl rfl rfl ?_
     intro v5 w6 H hb6
     obtain ⟨t7, ht7, hm3⟩ := bind_some hm3
     refine O.append 0 Tryz.underlying29 el32 rfl H rfl (H.own 1 rfl) ht7 rfl rfl rfl rfl ?_
     intro v6 w7 H
     refine O.assign (v := v6) rfl rfl rfl ?_
     refine WL.nil ?_
     refine W.region ?_
     refine O.add rfl rfl rfl rfl hinck1 ?_
     refine O.move (v := .int .i64 ((ik1 : Int) + 1)) rfl rfl rfl ?_
     refine WL.nil ?_
     have H := H.keep [0] [ownI (α := GMeaning) v6 32 t7] rfl (by decide)
     obtain rfl := Option.some.inj hm3
     exact ⟨_, rfl, _, v6, rfl, rangeN_next hdropk1, rfl, rfl, rfl, rfl, H⟩
    ·
     rintro ik1 _ f w ⟨z2, v2, rfl, hdropk1, hf39, hf2, hf7, hf9, H⟩ hfin
     have hltk1 := rangeN_end hdropk1
     obtain ⟨u3, rfl⟩ := up4 hf39 hf2 hf7 hf9
     refine W.seq ?_
     refine W.region ?_
     refine O.lss rfl rfl rfl rfl ?_
     refine WL.nil ?_
     refine W.seq ?_
     refine W.cond_false (congrArg Value.bool (decide_eq_false hltk1)) ?_
     refine W.exit ?_
     have hq : z2 = s1 := hfin
     subst hq
     refine xT rfl ?_
     exact ⟨v2, rfl, rfl, rfl, H⟩
   ·
    rintro f w ⟨v4, hf2, hf7, hf9, H⟩
    obtain ⟨u4, rfl⟩ := up3 hf2 hf7 hf9
    refine W.seq ?_
    refine W.region ?_
    refine O.move (v := (.int .i64 t2)) rfl rfl rfl ?_
    obtain ⟨t8, ht8, hm⟩ := bind_some hm
    refine O.add rfl rfl rfl rfl ht8 ?_
    obtain ⟨⟨t9, t10⟩, hy5, hm⟩ := bind_some hm
    refine O.call Tryz.call7 rfl rfl rfl (c_flag_Digits (hT.mono H.base) _ hy5) ?_
    rintro _ w8 hb7 ⟨v7, rfl, ho1⟩
    have H := H.addOwn hb7 ho1
    refine O.move (v := (.tuple #[v7, (.int .i64 t10)])) rfl rfl rfl ?_
    refine O.extract (v := v7) rfl rfl rfl rfl ?_
    refine O.extract (v := (.int .i64 t10)) rfl rfl rfl rfl ?_
    refine O.assign (v := v7) rfl rfl rfl ?_
    refine O.assign (v := (.int .i64 t10)) rfl rfl rfl ?_
    refine WL.nil ?_
    refine W.seq ?_
    refine W.seq ?_
    refine W.region ?_
    refine O.move (v := (.int .i64 t10)) rfl rfl rfl ?_
    refine O.neq rfl rfl rfl rfl ?_
    refine O.move (v := (.bool (t10 != 0))) rfl rfl rfl ?_
    obtain ⟨b3, hm4, hm⟩ := bind_some hm
    refine WL.cut 4 (fun f w => f 2 = (.int .i64 a2) ∧ f 7 = (.int .i64 t2) ∧ f 9 = v4 ∧ f 11 = v7 ∧ f 63 = .bool b3 ∧ Inv w0 w [ownI (α := GMeaning) v4 32 s1, ownI (α := Int) v7 3 t9]) ?_ ?_
    ·
     rcases ite_some hm4 with ⟨hc4, hm4⟩ | ⟨hc4, hm4⟩
     ·
      refine WL.reset (i := 59) (v := .bool true) (congrArg Value.bool hc4) ?_
      refine O.skip rfl rfl ?_
      refine O.skip rfl rfl ?_
      refine O.skip rfl rfl ?_
      refine O.pick_true (v := (.bool true)) rfl rfl rfl rfl ?_
      refine WL.nil ?_
      have hq : true = b3 := Option.some.inj (show some true = some b3 from hm4)
      subst hq
      exact ⟨rfl, rfl, rfl, rfl, rfl, H⟩
     ·
      refine WL.reset (i := 59) (v := .bool false) (congrArg Value.bool hc4) ?_
      refine O.move (v := v4) rfl rfl rfl ?_
      obtain ⟨t11, hy6, hm4⟩ := bind_some hm4
      refine O.call Tryz.call8 rfl rfl rfl (c_flag_ValidBook _ _ (H.own 0 rfl) hy6) ?_
      rintro _ w9 hb8 rfl
      have H := H.ext hb8
      refine O.not rfl rfl rfl ?_
      refine O.pick_false (v := (.bool (!t11))) rfl rfl rfl rfl ?_
      refine WL.nil ?_
      have hq : (!t11) = b3 := Option.some.inj (show some (!t11) = some b3 from hm4)
      subst hq
      exact ⟨rfl, rfl, rfl, rfl, rfl, H⟩
    ·
     rintro f w ⟨hf2, hf7, hf9, hf11, hf63, H⟩
     obtain ⟨u5, rfl⟩ := up5 hf2 hf7 hf9 hf11 hf63
     refine WL.nil ?_
     rcases ite_some hm with ⟨hc5, hm⟩ | ⟨hc5, hm⟩
     ·
      refine W.cond_true (congrArg Value.bool hc5) ?_
      refine W.seq ?_
      refine W.region ?_
      refine O.assign (v := (.bool false)) rfl rfl rfl ?_
      refine WL.nil ?_
      refine W.ret ?_
      have hq : false = r0 := Option.some.inj (show some false = some r0 from hm)
      subst hq
      exact ends1 Tryz.results3 rfl ⟨_, rfl, H.base, rfl⟩
     ·
      refine W.cond_false (congrArg Value.bool hc5) ?_
      refine W.skip ?_
      refine W.seq ?_
      refine W.region ?_
      refine O.move (v := v4) rfl rfl rfl ?_
      refine O.move (v := (.int .i64 a2)) rfl rfl rfl ?_
      obtain ⟨⟨t12, t13⟩, hy7, hm⟩ := bind_some hm
      refine O.call Tryz.call9 rfl rfl rfl (c_flag_Lost (hT.mono H.base) _ _ (H.own 0 rfl) _ hy7) ?_
      rintro _ w10 hb9 ⟨v8, rfl, ho2⟩
      have H := H.addOwn hb9 ho2
      refine O.move (v := (.tuple #[v8, (.int .i64 t13)])) rfl rfl rfl ?_
      refine O.extract (v := v8) rfl rfl rfl rfl ?_
      refine O.extract (v := (.int .i64 t13)) rfl rfl rfl rfl ?_
      refine O.assign (v := v8) rfl rfl rfl ?_
      refine O.assign (v := (.int .i64 t13)) rfl rfl rfl ?_
      refine WL.nil ?_
      refine W.seq ?_
      refine W.region ?_
      refine O.move (v := v7) rfl rfl rfl ?_
      refine O.move (v := (.int .i64 a2)) rfl rfl rfl ?_
      obtain ⟨⟨t14, t15⟩, hy8, hm⟩ := bind_some hm
      refine O.call Tryz.call10 rfl rfl rfl (c_flag_With _ _ (H.own 1 rfl) _ hy8) ?_
      rintro _ w11 hb10 ⟨v9, rfl, ho3⟩
      have H := H.addOwn hb10 ho3
      refine O.move (v := (.tuple #[v9, (.int .i64 t15)])) rfl rfl rfl ?_
      refine O.extract (v := v9) rfl rfl rfl rfl ?_
      refine O.extract (v := (.int .i64 t15)) rfl rfl rfl rfl ?_
      refine O.assign (v := v9) rfl rfl rfl ?_
      refine O.assign (v := (.int .i64 t15)) rfl rfl rfl ?_
      refine WL.nil ?_
      refine W.seq ?_
      refine W.seq ?_
      refine W.region ?_
      refine O.move (v := (.int .i64 t13)) rfl rfl rfl ?_
      refine O.neq rfl rfl rfl rfl ?_
      refine WL.nil ?_
      rcases ite_some hm with ⟨hc6, hm⟩ | ⟨hc6, hm⟩
      ·
       refine W.cond_true (congrArg Value.bool hc6) ?_
       refine W.seq ?_
       refine W.region ?_
       refine O.move (v := (.int .i64 t15)) rfl rfl rfl ?_
       refine O.move (v := (.int .i64 t13)) rfl rfl rfl ?_
       refine O.eql rfl rfl rfl rfl ?_
       refine O.move (v := (.bool (t15 == t13))) rfl rfl rfl ?_
       obtain ⟨b4, hm5, hm⟩ := bind_some hm
       refine WL.cut 2 (fun f w => f 83 = .bool b4 ∧ Inv w0 w [ownI (α := GMeaning) v4 32 s1, ownI (α := Int) v7 3 t9, ownI (α := Int) v8 3 t12, ownI (α := Int) v9 3 t14]) ?_ ?_
       ·
        rcases ite_some hm5 with ⟨hc7, hm5⟩ | ⟨hc7, hm5⟩
        ·
         refine WL.reset (i := 81) (v := .bool true) (congrArg Value.bool hc7) ?_
         obtain ⟨t16, hy9, hm5⟩ := bind_some hm5
         refine O.call Tryz.call4 rfl rfl rfl (c_noonguntop_awake9  hy9) ?_
         rintro _ w12 hb11 rfl
         have H := H.ext hb11
         refine O.pick_true (v := (.bool t16)) rfl rfl rfl rfl ?_
         refine WL.nil ?_
         have hq : t16 = b4 := Option.some.inj (show some t16 = some b4 from hm5)
         subst hq
         exact ⟨rfl, H⟩
        ·
         refine WL.reset (i := 81) (v := .bool false) (congrArg Value.bool hc7) ?_
         refine O.skip rfl rfl ?_
         refine O.pick_false (v := (.bool false)) rfl rfl rfl rfl ?_
         refine WL.nil ?_
         have hq : false = b4 := Option.some.inj (show some false = some b4 from hm5)
         subst hq
         exact ⟨rfl, H⟩
       ·
        rintro f w ⟨hf83, H⟩
        obtain ⟨u6, rfl⟩ := up1 hf83
        refine O.assign (v := (.bool b4)) rfl rfl rfl ?_
        refine WL.nil ?_
        refine W.ret ?_
        have hq : b4 = r0 := Option.some.inj (show some b4 = some r0 from hm)
        subst hq
        exact ends1 Tryz.results3 rfl ⟨_, rfl, H.base, rfl⟩
      ·
       refine W.cond_false (congrArg Value.bool hc6) ?_
       refine W.skip ?_
       refine W.seq ?_
       refine W.region ?_
       refine O.assign (v := (.bool false)) rfl rfl rfl ?_
       refine WL.nil ?_
       refine W.seq ?_
       refine W.seq ?_
       refine W.region ?_
       refine O.move (v := v8) rfl rfl rfl ?_
       refine O.lenS Tryz.underlying33 (H.own 2 rfl) rfl rfl rfl ?_
       refine O.move (v := (.int .i64 0)) rfl rfl rfl ?_
       refine WL.nil ?_
       obtain ⟨s2, hm6, hm⟩ := bind_some hm
       refine W.via (fun f w => f 7 = (.int .i64 t2) ∧ f 9 = v4 ∧ f 15 = v9 ∧ f 16 = (.int .i64 t15) ∧ f 17 = (.bool s2) ∧ Inv w0 w [ownI (α := GMeaning) v4 32 s1, ownI (α := Int) v9 3 t14]) ?_ ?_
       ·
        refine W.block ?_
        have H := H.keep [0, 2, 3] [ownI (α := GMeaning) v4 32 s1, ownI (α := Int) v8 3 t12, ownI (α := Int) v9 3 t14] rfl (by decide)
        refine W.rangeL (i := 0) hm6 (fun rem ik2 s f w => ∃ z5 : Bool, z5 = s ∧ t12.drop ik2 = rem ∧ f 86 = .int .i64 (ik2 : Int) ∧ f 85 = (.int .i64 ((t12.length : Nat) : Int)) ∧ f 7 = (.int .i64 t2) ∧ f 9 = v4 ∧ f 15 = v9 ∧ f 16 = (.int .i64 t15) ∧ f 17 = (.bool z5) ∧ f 84 = v8 ∧ Inv w0 w [ownI (α := GMeaning) v4 32 s1, ownI (α := Int) v8 3 t12, ownI (α := Int) v9 3 t14]) ?_ ?_ ?_
        ·
         exact ⟨_, rfl, List.drop_zero, rfl, rfl, rfl, rfl, rfl, rfl, rfl, rfl, H⟩
        ·
         rintro yk2 xs ik2 _ st f w ⟨z5, rfl, hdropk2, hf86, hf85, hf7, hf9, hf15, hf16, hf17, hf84, H⟩ hm7
         have hltk2 := drop_lt hdropk2; have hixk2 := drop_idx hdropk2
         obtain ⟨u7, rfl⟩ := up8 hf86 hf85 hf7 hf9 hf15 hf16 hf17 hf84
         have hinck2 := addI_lt hltk2 (H.own 1 rfl).len_le
         refine W.seq ?_
         refine W.region ?_
         refine O.lss rfl rfl rfl rfl ?_
         refine WL.nil ?_
         refine W.seq ?_
         refine W.cond_true (congrArg Value.bool (decide_eq_true hltk2)) ?_
         refine W.skip ?_
         refine W.seq ?_
         refine W.block ?_
         refine W.seq ?_
         refine W.region ?_
         refine O.indexAddr Tryz.underlying33 sz3 (H.own 1 rfl) hixk2 rfl rfl rfl rfl ?_
         intro p1 hp1
         refine O.load sc3 rfl rfl rfl (hp1.flat 0 _ rfl) ?_
         refine O.assign (v := (.int .i64 yk2)) rfl rfl rfl ?_
         refine WL.nil ?_
         refine W.region ?_
         refine O.move (v := (.bool z5)) rfl rfl rfl ?_
         refine O.move (v := (.bool z5)) rfl rfl rfl ?_
         obtain ⟨b5, hm8, hm7⟩ := bind_some hm7
         refine WL.cut 5 (fun f w => f 7 = (.int .i64 t2) ∧ f 9 = v4 ∧ f 15 = v9 ∧ f 16 = (.int .i64 t15) ∧ f 84 = v8 ∧ f 85 = (.int .i64 ((t12.length : Nat) : Int)) ∧ f 86 = (.int .i64 (ik2 : Int)) ∧ f 96 = .bool b5 ∧ Inv w0 w [ownI (α := GMeaning) v4 32 s1, ownI (α := Int) v8 3 t12, ownI (α := Int) v9 3 t14]) ?_ ?_
         ·
          rcases ite_some hm8 with ⟨hc8, hm8⟩ | ⟨hc8, hm8⟩
          ·
           refine WL.reset (i := 91) (v := .bool true) (congrArg Value.bool hc8) ?_
           refine O.skip rfl rfl ?_
           refine O.skip rfl rfl ?_
           refine O.skip rfl rfl ?_
           refine O.skip rfl rfl ?_
           refine O.pick_true (v := (.bool true)) rfl rfl rfl rfl ?_
           refine WL.nil ?_
           have hq : true = b5 := Option.some.inj (show some true = some b5 from hm8)
           subst hq
           exact ⟨rfl, rfl, rfl, rfl, rfl, rfl, rfl, rfl, H⟩
          ·
           refine WL.reset (i := 91) (v := .bool false) (congrArg Value.bool hc8) ?_
           refine O.move (v := (.int .i64 yk2)) rfl rfl rfl ?_
           refine O.move (v := (.int .i64 t2)) rfl rfl rfl ?_
           obtain ⟨t17, ht17, hm8⟩ := bind_some hm8
           refine O.add rfl rfl rfl rfl ht17 ?_
           refine O.eql rfl rfl rfl rfl ?_
           refine O.pick_false (v := (.bool (yk2 == t17))) rfl rfl rfl rfl ?_
           refine WL.nil ?_
           have hq : (yk2 == t17) = b5 := Option.some.inj (show some (yk2 == t17) = some b5 from hm8)
           subst hq
           exact ⟨rfl, rfl, rfl, rfl, rfl, rfl, rfl, rfl, H⟩
         ·
          rintro f w ⟨hf7, hf9, hf15, hf16, hf84, hf85, hf86, hf96, H⟩
          obtain ⟨u8, rfl⟩ := up8 hf7 hf9 hf15 hf16 hf84 hf85 hf86 hf96
          refine O.assign (v := (.bool b5)) rfl rfl rfl ?_
          refine WL.nil ?_
          refine W.region ?_
          refine O.add rfl rfl rfl rfl hinck2 ?_
          refine O.move (v := .int .i64 ((ik2 : Int) + 1)) rfl rfl rfl ?_
          refine WL.nil ?_
          obtain rfl := Option.some.inj hm7
          exact ⟨_, rfl, _, rfl, drop_next hdropk2, rfl, rfl, rfl, rfl, rfl, rfl, rfl, rfl, H⟩
        ·
         rintro ik2 _ f w ⟨z5, rfl, hdropk2, hf86, hf85, hf7, hf9, hf15, hf16, hf17, hf84, H⟩ hfin
         have hltk2 := drop_end hdropk2
         obtain ⟨u9, rfl⟩ := up8 hf86 hf85 hf7 hf9 hf15 hf16 hf17 hf84
         refine W.seq ?_
         refine W.region ?_
         refine O.lss rfl rfl rfl rfl ?_
         refine WL.nil ?_
         refine W.seq ?_
         refine W.cond_false (congrArg Value.bool (decide_eq_false hltk2)) ?_
         refine W.exit ?_
         have hq : z5 = s2 := hfin
         subst hq
         have H := H.keep [0, 2] [ownI (α := GMeaning) v4 32 s1, ownI (α := Int) v9 3 t14] rfl (by decide)
         refine xT rfl ?_
         exact ⟨rfl, rfl, rfl, rfl, rfl, H⟩
       ·
        rintro f w ⟨hf7, hf9, hf15, hf16, hf17, H⟩
        obtain ⟨u10, rfl⟩ := up5 hf7 hf9 hf15 hf16 hf17
        refine W.seq ?_
        refine W.seq ?_
        refine W.region ?_
        refine O.move (v := (.bool s2)) rfl rfl rfl ?_
        refine WL.nil ?_
        rcases ite_some hm with ⟨hc9, hm⟩ | ⟨hc9, hm⟩
        ·
         refine W.cond_true (congrArg Value.bool hc9) ?_
         refine W.seq ?_
         refine W.region ?_
         refine O.move (v := (.int .i64 t15)) rfl rfl rfl ?_
         refine O.eql rfl rfl rfl rfl ?_
         refine O.move (v := (.bool (t15 == 10))) rfl rfl rfl ?_
         obtain ⟨b6, hm9, hm⟩ := bind_some hm
         refine WL.cut 2 (fun f w => f 103 = .bool b6 ∧ Inv w0 w [ownI (α := GMeaning) v4 32 s1, ownI (α := Int) v9 3 t14]) ?_ ?_
         ·
          rcases ite_some hm9 with ⟨hc10, hm9⟩ | ⟨hc10, hm9⟩
          ·
           refine WL.reset (i := 101) (v := .bool true) (congrArg Value.bool hc10) ?_
           obtain ⟨t18, hy10, hm9⟩ := bind_some hm9
           refine O.call Tryz.call4 rfl rfl rfl (c_noonguntop_awake9  hy10) ?_
           rintro _ w13 hb12 rfl
           have H := H.ext hb12
           refine O.pick_true (v := (.bool t18)) rfl rfl rfl rfl ?_
           refine WL.nil ?_
           have hq : t18 = b6 := Option.some.inj (show some t18 = some b6 from hm9)
           subst hq
           exact ⟨rfl, H⟩
          ·
           refine WL.reset (i := 101) (v := .bool false) (congrArg Value.bool hc10) ?_
           refine O.skip rfl rfl ?_
           refine O.pick_false (v := (.bool false)) rfl rfl rfl rfl ?_
           refine WL.nil ?_
           have hq : false = b6 := Option.some.inj (show some false = some b6 from hm9)
           subst hq
           exact ⟨rfl, H⟩
         ·
          rintro f w ⟨hf103, H⟩
          obtain ⟨u11, rfl⟩ := up1 hf103
          refine O.assign (v := (.bool b6)) rfl rfl rfl ?_
          refine WL.nil ?_
          refine W.ret ?_
          have hq : b6 = r0 := Option.some.inj (show some b6 = some r0 from hm)
          subst hq
          exact ends1 Tryz.results3 rfl ⟨_, rfl, H.base, rfl⟩
        ·
         refine W.cond_false (congrArg Value.bool hc9) ?_
         refine W.skip ?_
         refine W.seq ?_
         refine W.region ?_
         refine O.move (v := v4) rfl rfl rfl ?_
         refine O.move (v := v9) rfl rfl rfl ?_
         obtain ⟨⟨t19, t20⟩, hy11, hm⟩ := bind_some hm
         refine O.call Tryz.call11 rfl rfl rfl (c_flag_Look (hT.mono H.base) _ _ (H.own 0 rfl) _ _ (H.own 1 rfl) hy11) ?_
         rintro _ w14 hb13 rfl
         have H := H.ext hb13
         refine O.move (v := (.tuple #[(.string t19), (.int .i64 t20)])) rfl rfl rfl ?_
         refine O.extract (v := (.string t19)) rfl rfl rfl rfl ?_
         refine O.extract (v := (.int .i64 t20)) rfl rfl rfl rfl ?_
         refine O.assign (v := (.string t19)) rfl rfl rfl ?_
         refine O.assign (v := (.int .i64 t20)) rfl rfl rfl ?_
         refine WL.nil ?_
         refine W.seq ?_
         refine W.region ?_
         refine O.move (v := (.int .i64 t15)) rfl rfl rfl ?_
         refine O.eql rfl rfl rfl rfl ?_
         refine O.move (v := (.bool (t15 == 0))) rfl rfl rfl ?_
         refine WL.cut 3 (fun f w => f 7 = (.int .i64 t2) ∧ f 20 = (.string t19) ∧ f 115 = .bool ((t15 == 0) && (t20 == 0)) ∧ Inv w0 w [ownI (α := GMeaning) v4 32 s1, ownI (α := Int) v9 3 t14]) ?_ ?_
         ·
          rcases bool_ft (t15 == 0) with hc11 | hc11
          ·
           refine WL.reset (i := 112) (v := .bool false) (congrArg Value.bool hc11) ?_
           refine O.skip rfl rfl ?_
           refine O.skip rfl rfl ?_
           refine O.pick_false (v := (.bool false)) rfl rfl rfl rfl ?_
           exact WL.nil ⟨rfl, rfl, congrArg Value.bool (and_f hc11), H⟩
          ·
           refine WL.reset (i := 112) (v := .bool true) (congrArg Value.bool hc11) ?_
           refine O.move (v := (.int .i64 t20)) rfl rfl rfl ?_
           refine O.eql rfl rfl rfl rfl ?_
           refine O.pick_true (v := (.bool (t20 == 0))) rfl rfl rfl rfl ?_
           exact WL.nil ⟨rfl, rfl, congrArg Value.bool (and_t hc11), H⟩
         ·
          rintro f w ⟨hf7, hf20, hf115, H⟩
          obtain ⟨u12, rfl⟩ := up3 hf7 hf20 hf115
          refine O.move (v := (.bool ((t15 == 0) && (t20 == 0)))) rfl rfl rfl ?_
          obtain ⟨b7, hm10, hm⟩ := bind_some hm
          refine WL.cut 5 (fun f w => f 121 = .bool b7 ∧ Inv w0 w [ownI (α := GMeaning) v4 32 s1, ownI (α := Int) v9 3 t14]) ?_ ?_
          ·
           rcases ite_some hm10 with ⟨hc12, hm10⟩ | ⟨hc12, hm10⟩
           ·
            refine WL.reset (i := 116) (v := .bool true) (congrArg Value.bool hc12) ?_
            refine O.move (v := (.string t19)) rfl rfl rfl ?_
            refine O.move (v := (.int .i64 t2)) rfl rfl rfl ?_
            obtain ⟨t21, hy12, hm10⟩ := bind_some hm10
            refine O.call Tryz.call6 rfl rfl rfl (c_ball_Word _ hy12) ?_
            rintro _ w15 hb14 rfl
            have H := H.ext hb14
            refine O.eqlS rfl rfl rfl rfl ?_
            refine O.pick_true (v := (.bool (decide (t19 = t21)))) rfl rfl rfl rfl ?_
            refine WL.nil ?_
            have hq : (decide (t19 = t21)) = b7 := Option.some.inj (show some (decide (t19 = t21)) = some b7 from hm10)
            subst hq
            exact ⟨rfl, H⟩
           ·
            refine WL.reset (i := 116) (v := .bool false) (congrArg Value.bool hc12) ?_
            refine O.skip rfl rfl ?_
            refine O.skip rfl rfl ?_
            refine O.skip rfl rfl ?_
            refine O.skip rfl rfl ?_
            refine O.pick_false (v := (.bool false)) rfl rfl rfl rfl ?_
            refine WL.nil ?_
            have hq : false = b7 := Option.some.inj (show some false = some b7 from hm10)
            subst hq
            exact ⟨rfl, H⟩
          ·
           rintro f w ⟨hf121, H⟩
           obtain ⟨u13, rfl⟩ := up1 hf121
           refine O.move (v := (.bool b7)) rfl rfl rfl ?_
           obtain ⟨b8, hm11, hm⟩ := bind_some hm
           refine WL.cut 2 (fun f w => f 124 = .bool b8 ∧ Inv w0 w [ownI (α := GMeaning) v4 32 s1, ownI (α := Int) v9 3 t14]) ?_ ?_
           ·
            rcases ite_some hm11 with ⟨hc13, hm11⟩ | ⟨hc13, hm11⟩
            ·
             refine WL.reset (i := 122) (v := .bool true) (congrArg Value.bool hc13) ?_
             obtain ⟨t22, hy13, hm11⟩ := bind_some hm11
             refine O.call Tryz.call4 rfl rfl rfl (c_noonguntop_awake9  hy13) ?_
             rintro _ w16 hb15 rfl
             have H := H.ext hb15
             refine O.pick_true (v := (.bool t22)) rfl rfl rfl rfl ?_
             refine WL.nil ?_
             have hq : t22 = b8 := Option.some.inj (show some t22 = some b8 from hm11)
             subst hq
             exact ⟨rfl, H⟩
            ·
             refine WL.reset (i := 122) (v := .bool false) (congrArg Value.bool hc13) ?_
             refine O.skip rfl rfl ?_
             refine O.pick_false (v := (.bool false)) rfl rfl rfl rfl ?_
             refine WL.nil ?_
             have hq : false = b8 := Option.some.inj (show some false = some b8 from hm11)
             subst hq
             exact ⟨rfl, H⟩
           ·
            rintro f w ⟨hf124, H⟩
            obtain ⟨u14, rfl⟩ := up1 hf124
            refine O.assign (v := (.bool b8)) rfl rfl rfl ?_
            refine WL.nil ?_
            refine W.ret ?_
            have hq : b8 = r0 := Option.some.inj (show some b8 = some r0 from hm)
            subst hq
            exact ends1 Tryz.results3 rfl ⟨_, rfl, H.base, rfl⟩

end Go.Proofs
