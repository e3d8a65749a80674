/-
  The walks: each function does what its model says, where the model has a value. No other condition.
-/
import Derived.Test.YtnkncedhanainaaW1
namespace Go.Proofs
open Go.Fw Go.RowKit Go.Shelf
set_option maxRecDepth 20000 in
theorem c_transit_ValidTube {w0 : World} (va0_0 : Value) (a0 : GTube) (ha0_0 : SliceR w0 va0_0 a0.Wires) {r0 : Bool} (hm : transit_ValidTube a0 = some r0) :
  Calls Try.prog 15 #[(.agg #[va0_0, (.int .i64 a0.Error)])] w0 (Ret w0 fun _ v => v = (.bool r0)) := by
 unfold transit_ValidTube at hm
 refine calls_of_W Try.func15 rfl Try.ntmps15 (Nat.le_of_ble_eq_true rfl) ?_
 have H := Inv.start (w := w0)
 refine W.seq ?_
 refine W.region ?_
 refine O.box [va0_0, (.int .i64 a0.Error)] H rfl rfl rfl rfl ?_
 intro b1 w1 H hb1
 refine O.assign (v := (.bool false)) rfl rfl rfl ?_
 refine WL.nil ?_
 refine W.seq ?_
 refine W.seq ?_
 refine W.region ?_
 refine O.fieldAddr fd24_0 rfl rfl rfl ?_
 refine O.load sc22 rfl rfl rfl (H.cell 0 rfl 0 _ rfl) ?_
 refine O.lenS Try.underlying22 (H.arg ha0_0) rfl rfl rfl ?_
 refine O.move (v := (.int .i64 0)) rfl rfl rfl ?_
 refine WL.nil ?_
 obtain ⟨o1, hm1, hm⟩ := bind_some hm
 refine W.via (fun f w => o1 = .next () ∧ f 1 = (.pointer (some ⟨b1, 0, none⟩)) ∧ Inv w0 w [boxI b1 24 [va0_0, (.int .i64 a0.Error)]]) ?_ ?_
 ·
  refine W.block ?_
  have hbdik1 := (H.arg ha0_0).len_le
  refine W.rangeN (i := 0) hm1 (fun rem ik1 s f w => () = s ∧ (ik1 : Int) + rem = max 0 ((a0.Wires.length : Nat) : Int) ∧ f 8 = .int .i64 (ik1 : Int) ∧ f 7 = (.int .i64 ((a0.Wires.length : Nat) : Int)) ∧ f 1 = (.pointer (some ⟨b1, 0, none⟩)) ∧ f 6 = va0_0 ∧ Inv w0 w [boxI b1 24 [va0_0, (.int .i64 a0.Error)]]) ?_ ?_ ?_
  ·
   exact ⟨rfl, rangeN_start, rfl, rfl, rfl, rfl, H⟩
  ·
   rintro k ik1 _ st f w ⟨rfl, hdropk1, hf8, hf7, hf1, hf6, H⟩ hm2
   have hltk1 := rangeN_lt hdropk1
   obtain ⟨u1, rfl⟩ := up4 hf8 hf7 hf1 hf6
   have hinck1 := addI_lt hltk1 hbdik1
   refine W.seq ?_
   refine W.region ?_
   refine O.lss rfl rfl rfl rfl ?_
   refine WL.nil ?_
   refine W.seq ?_
   refine W.cond_true (congrArg Value.bool (decide_eq_true hltk1)) ?_
   refine W.skip ?_
   refine W.seq ?_
   refine W.block ?_
   refine W.seq ?_
   refine W.region ?_
   refine O.move (v := (.int .i64 (ik1 : Int))) rfl rfl rfl ?_
   obtain ⟨x1, hx1, hm2⟩ := bind_some hm2
   obtain ⟨p1, hp1, hrp1⟩ := fix_indexAddr Try.underlying22 sz3 ha0_0 hx1
   refine hrp1 rfl rfl rfl rfl ?_
   refine O.load sc3 rfl rfl rfl ((hp1.mono H.base).flat 0 _ rfl) ?_
   refine O.assign (v := (.int .i64 (ik1 : Int))) rfl rfl rfl ?_
   refine O.assign (v := (.int .i64 x1)) rfl rfl rfl ?_
   refine WL.nil ?_
   refine W.seq ?_
   refine W.region ?_
   refine O.move (v := (.int .i64 x1)) rfl rfl rfl ?_
   obtain ⟨t1, hy1, hm2⟩ := bind_some hm2
   refine O.call Try.call17 rfl rfl rfl (c_transit_within _ _ _ hy1) ?_
   rintro _ w2 hb2 rfl
   have H := H.ext hb2
   refine O.not rfl rfl rfl ?_
   refine O.move (v := (.bool (!t1))) rfl rfl rfl ?_
   obtain ⟨b2, hm3, hm2⟩ := bind_some hm2
   refine WL.cut 13 (fun f w => f 1 = (.pointer (some ⟨b1, 0, none⟩)) ∧ f 6 = va0_0 ∧ f 7 = (.int .i64 ((a0.Wires.length : Nat) : Int)) ∧ f 8 = (.int .i64 (ik1 : Int)) ∧ f 29 = .bool b2 ∧ Inv w0 w [boxI b1 24 [va0_0, (.int .i64 a0.Error)]]) ?_ ?_
   ·
    rcases ite_some hm3 with ⟨hc1, hm3⟩ | ⟨hc1, hm3⟩
    ·
     refine WL.reset (i := 16) (v := .bool true) (congrArg Value.bool hc1) ?_
     refine O.skip rfl rfl ?_
     refine O.skip rfl rfl ?_
     refine O.skip rfl rfl ?_
     refine O.skip rfl rfl ?_
     refine O.skip rfl rfl ?_
     refine O.skip rfl rfl ?_
     refine O.skip rfl rfl ?_
     refine O.skip rfl rfl ?_
     refine O.skip rfl rfl ?_
     refine O.skip rfl rfl ?_
     refine O.skip rfl rfl ?_
     refine O.skip rfl rfl ?_
     refine O.pick_true (v := (.bool true)) rfl rfl rfl rfl ?_
     refine WL.nil ?_
     have hq : true = b2 := Option.some.inj (show some true = some b2 from hm3)
     subst hq
     exact ⟨rfl, rfl, rfl, rfl, rfl, H⟩
    ·
     refine WL.reset (i := 16) (v := .bool false) (congrArg Value.bool hc1) ?_
     refine O.move (v := (.int .i64 (ik1 : Int))) rfl rfl rfl ?_
     refine O.gtr rfl rfl rfl rfl ?_
     refine O.move (v := (.bool (decide (0 < (ik1 : Int))))) rfl rfl rfl ?_
     obtain ⟨b3, hm4, hm3⟩ := bind_some hm3
     refine WL.cut 9 (fun f w => f 1 = (.pointer (some ⟨b1, 0, none⟩)) ∧ f 6 = va0_0 ∧ f 7 = (.int .i64 ((a0.Wires.length : Nat) : Int)) ∧ f 8 = (.int .i64 (ik1 : Int)) ∧ f 16 = (.bool false) ∧ f 17 = (.int .i64 (ik1 : Int)) ∧ f 18 = (.bool (decide (0 < (ik1 : Int)))) ∧ f 19 = (.bool (decide (0 < (ik1 : Int)))) ∧ f 28 = .bool b3 ∧ Inv w0 w [boxI b1 24 [va0_0, (.int .i64 a0.Error)]]) ?_ ?_
     ·
      rcases ite_some hm4 with ⟨hc2, hm4⟩ | ⟨hc2, hm4⟩
      ·
       refine WL.reset (i := 19) (v := .bool true) (congrArg Value.bool hc2) ?_
       refine O.move (v := (.int .i64 x1)) rfl rfl rfl ?_
       refine O.fieldAddr fd24_0 rfl rfl rfl ?_
       refine O.load sc22 rfl rfl rfl (H.cell 0 rfl 0 _ rfl) ?_
       refine O.move (v := (.int .i64 (ik1 : Int))) rfl rfl rfl ?_
       obtain ⟨t2, ht2, hm4⟩ := bind_some hm4
       refine O.sub rfl rfl rfl rfl ht2 ?_
       obtain ⟨x2, hx2, hm4⟩ := bind_some hm4
       obtain ⟨p2, hp2, hrp2⟩ := fix_indexAddr Try.underlying22 sz3 ha0_0 hx2
       refine hrp2 rfl rfl rfl rfl ?_
       refine O.load sc3 rfl rfl rfl ((hp2.mono H.base).flat 0 _ rfl) ?_
       refine O.leq rfl rfl rfl rfl ?_
       refine O.pick_true (v := (.bool (decide (x1 ≤ x2)))) rfl rfl rfl rfl ?_
       refine WL.nil ?_
       have hq : (decide (x1 ≤ x2)) = b3 := Option.some.inj (show some (decide (x1 ≤ x2)) = some b3 from hm4)
       subst hq
       exact ⟨rfl, rfl, rfl, rfl, rfl, rfl, rfl, (congrArg Value.bool hc2).symm, rfl, H⟩
      ·
       refine WL.reset (i := 19) (v := .bool false) (congrArg Value.bool hc2) ?_
       refine O.skip rfl rfl ?_
       refine O.skip rfl rfl ?_
       refine O.skip rfl rfl ?_
       refine O.skip rfl rfl ?_
       refine O.skip rfl rfl ?_
       refine O.skip rfl rfl ?_
       refine O.skip rfl rfl ?_
       refine O.skip rfl rfl ?_
       refine O.pick_false (v := (.bool false)) rfl rfl rfl rfl ?_
       refine WL.nil ?_
       have hq : false = b3 := Option.some.inj (show some false = some b3 from hm4)
       subst hq
       exact ⟨rfl, rfl, rfl, rfl, rfl, rfl, rfl, (congrArg Value.bool hc2).symm, rfl, H⟩
     ·
      rintro f w ⟨hf1, hf6, hf7, hf8, hf16, hf17, hf18, hf19, hf28, H⟩
      obtain ⟨u2, rfl⟩ := up9 hf1 hf6 hf7 hf8 hf16 hf17 hf18 hf19 hf28
      refine O.pick_false (v := (.bool b3)) rfl rfl rfl rfl ?_
      refine WL.nil ?_
      have hq : b3 = b2 := Option.some.inj (show some b3 = some b2 from hm3)
      subst hq
      exact ⟨rfl, rfl, rfl, rfl, rfl, H⟩
   ·
    rintro f w ⟨hf1, hf6, hf7, hf8, hf29, H⟩
    obtain ⟨u3, rfl⟩ := up5 hf1 hf6 hf7 hf8 hf29
    refine WL.nil ?_
    rcases ite_some hm2 with ⟨hc3, hm2⟩ | ⟨hc3, hm2⟩
    ·
     refine W.cond_true (congrArg Value.bool hc3) ?_
     refine W.seq ?_
     refine W.region ?_
     refine O.assign (v := (.bool false)) rfl rfl rfl ?_
     refine WL.nil ?_
     refine W.ret ?_
     obtain rfl := Option.some.inj hm2
     refine ⟨_, rfl, ?_⟩
     rintro rfl
     have hq : false = r0 := Option.some.inj (show some false = some r0 from hm)
     subst hq
     exact ends1 Try.results15 rfl ⟨_, rfl, H.base, rfl⟩
    ·
     refine W.cond_false (congrArg Value.bool hc3) ?_
     refine W.skip ?_
     refine W.region ?_
     refine O.add rfl rfl rfl rfl hinck1 ?_
     refine O.move (v := .int .i64 ((ik1 : Int) + 1)) rfl rfl rfl ?_
     refine WL.nil ?_
     obtain rfl := Option.some.inj hm2
     exact ⟨_, rfl, rfl, rangeN_next hdropk1, rfl, rfl, rfl, rfl, H⟩
  ·
   rintro ik1 _ f w ⟨rfl, hdropk1, hf8, hf7, hf1, hf6, H⟩ hfin
   have hltk1 := rangeN_end hdropk1
   obtain ⟨u4, rfl⟩ := up4 hf8 hf7 hf1 hf6
   refine W.seq ?_
   refine W.region ?_
   refine O.lss rfl rfl rfl rfl ?_
   refine WL.nil ?_
   refine W.seq ?_
   refine W.cond_false (congrArg Value.bool (decide_eq_false hltk1)) ?_
   refine W.exit ?_
   obtain rfl : Ctl.next () = o1 := hfin
   refine xT rfl ?_
   exact ⟨rfl, rfl, H⟩
 ·
  rintro f w ⟨rfl, hf1, H⟩
  obtain ⟨u5, rfl⟩ := up1 hf1
  refine W.seq ?_
  refine W.region ?_
  refine O.fieldAddr fd24_0 rfl rfl rfl ?_
  refine O.load sc22 rfl rfl rfl (H.cell 0 rfl 0 _ rfl) ?_
  refine O.lenS Try.underlying22 (H.arg ha0_0) rfl rfl rfl ?_
  obtain ⟨t3, hy2, hm⟩ := bind_some hm
  refine O.call Try.call17 rfl rfl rfl (c_transit_within _ _ _ hy2) ?_
  rintro _ w3 hb3 rfl
  have H := H.ext hb3
  refine O.move (v := (.bool t3)) rfl rfl rfl ?_
  obtain ⟨b4, hm5, hm⟩ := bind_some hm
  refine WL.cut 4 (fun f w => f 39 = .bool b4 ∧ Inv w0 w [boxI b1 24 [va0_0, (.int .i64 a0.Error)]]) ?_ ?_
  ·
   rcases ite_some hm5 with ⟨hc4, hm5⟩ | ⟨hc4, hm5⟩
   ·
    refine WL.reset (i := 35) (v := .bool true) (congrArg Value.bool hc4) ?_
    refine O.fieldAddr fd24_1 rfl rfl rfl ?_
    refine O.load sc3 rfl rfl rfl (H.cell 0 rfl 1 _ rfl) ?_
    obtain ⟨t4, hy3, hm5⟩ := bind_some hm5
    refine O.call Try.call17 rfl rfl rfl (c_transit_within _ _ _ hy3) ?_
    rintro _ w4 hb4 rfl
    have H := H.ext hb4
    refine O.pick_true (v := (.bool t4)) rfl rfl rfl rfl ?_
    refine WL.nil ?_
    have hq : t4 = b4 := Option.some.inj (show some t4 = some b4 from hm5)
    subst hq
    exact ⟨rfl, H⟩
   ·
    refine WL.reset (i := 35) (v := .bool false) (congrArg Value.bool hc4) ?_
    refine O.skip rfl rfl ?_
    refine O.skip rfl rfl ?_
    refine O.skip rfl rfl ?_
    refine O.pick_false (v := (.bool false)) rfl rfl rfl rfl ?_
    refine WL.nil ?_
    have hq : false = b4 := Option.some.inj (show some false = some b4 from hm5)
    subst hq
    exact ⟨rfl, H⟩
  ·
   rintro f w ⟨hf39, H⟩
   obtain ⟨u6, rfl⟩ := up1 hf39
   refine O.assign (v := (.bool b4)) rfl rfl rfl ?_
   refine WL.nil ?_
   refine W.ret ?_
   have hq : b4 = r0 := Option.some.inj (show some b4 = some r0 from hm)
   subst hq
   exact ends1 Try.results15 rfl ⟨_, rfl, H.base, rfl⟩

set_option maxRecDepth 20000 in
theorem c_transit_name {w0 : World} (a0 : ByteArray) {r0 : Bool} (hm : transit_name a0 = some r0) :
  Calls Try.prog 32 #[(.string a0)] w0 (Ret w0 fun _ v => v = (.bool r0)) := by
 unfold transit_name at hm
 refine calls_of_W Try.func32 rfl Try.ntmps32 (Nat.le_of_ble_eq_true rfl) ?_
 have H := Inv.start (w := w0)
 refine W.seq ?_
 refine W.region ?_
 refine O.assign (v := (.bool false)) rfl rfl rfl ?_
 refine WL.nil ?_
 refine W.seq ?_
 refine W.seq ?_
 refine W.region ?_
 refine O.move (v := (.string a0)) rfl rfl rfl ?_
 obtain ⟨t1, ht1, hm⟩ := bind_some hm
 refine O.bytesOf Try.underlying9 Try.underlying109 Try.underlying5 ht1 rfl rfl rfl ?_
 intro v1 w1 hb1 hs1
 have H := H.ext hb1
 refine O.lenS Try.underlying109 hs1 rfl rfl rfl ?_
 refine O.move (v := (.int .i64 0)) rfl rfl rfl ?_
 refine WL.nil ?_
 obtain ⟨o1, hm1, hm⟩ := bind_some hm
 refine W.via (fun f w => o1 = .next () ∧ f 0 = (.string a0) ∧ Inv w0 w []) ?_ ?_
 ·
  refine W.block ?_
  have hbdik1 := hs1.len_le
  refine W.rangeN (i := 0) hm1 (fun rem ik1 s f w => () = s ∧ (ik1 : Int) + rem = max 0 ((t1.length : Nat) : Int) ∧ f 9 = .int .i64 (ik1 : Int) ∧ f 8 = (.int .i64 ((t1.length : Nat) : Int)) ∧ f 0 = (.string a0) ∧ f 7 = v1 ∧ SliceR w v1 t1 ∧ Inv w0 w []) ?_ ?_ ?_
  ·
   exact ⟨rfl, rangeN_start, rfl, rfl, rfl, rfl, hs1, H⟩
  ·
   rintro k ik1 _ st f w ⟨rfl, hdropk1, hf9, hf8, hf0, hf7, hs4, H⟩ hm2
   have hltk1 := rangeN_lt hdropk1
   obtain ⟨u1, rfl⟩ := up4 hf9 hf8 hf0 hf7
   have hinck1 := addI_lt hltk1 hbdik1
   refine W.seq ?_
   refine W.region ?_
   refine O.lss rfl rfl rfl rfl ?_
   refine WL.nil ?_
   refine W.seq ?_
   refine W.cond_true (congrArg Value.bool (decide_eq_true hltk1)) ?_
   refine W.skip ?_
   refine W.seq ?_
   refine W.block ?_
   refine W.seq ?_
   refine W.region ?_
   refine O.move (v := (.int .i64 (ik1 : Int))) rfl rfl rfl ?_
   obtain ⟨x1, hx1, hm2⟩ := bind_some hm2
   refine O.indexAddr Try.underlying109 sz5 hs4 hx1 rfl rfl rfl rfl ?_
   intro p1 hp1
   refine O.load sc5 rfl rfl rfl (hp1.flat 0 _ rfl) ?_
   refine O.assign (v := (.int .i64 (ik1 : Int))) rfl rfl rfl ?_
   refine O.assign (v := (.int .u8 (x1.toNat : Int))) rfl rfl rfl ?_
   refine WL.nil ?_
   refine W.seq ?_
   refine W.region ?_
   refine O.move (v := (.int .u8 (x1.toNat : Int))) rfl rfl rfl ?_
   refine O.geq rfl rfl rfl rfl ?_
   refine O.move (v := (.bool (decide (97 ≤ (x1.toNat : Int))))) rfl rfl rfl ?_
   refine WL.cut 3 (fun f w => f 0 = (.string a0) ∧ f 3 = (.int .i64 (ik1 : Int)) ∧ f 4 = (.int .u8 (x1.toNat : Int)) ∧ f 7 = v1 ∧ f 8 = (.int .i64 ((t1.length : Nat) : Int)) ∧ f 9 = (.int .i64 (ik1 : Int)) ∧ f 19 = .bool ((decide (97 ≤ (x1.toNat : Int))) && (decide ((x1.toNat : Int) ≤ 122))) ∧ SliceR w v1 t1 ∧ Inv w0 w []) ?_ ?_
   ·
    rcases bool_ft (decide (97 ≤ (x1.toNat : Int))) with hc1 | hc1
    ·
     refine WL.reset (i := 16) (v := .bool false) (congrArg Value.bool hc1) ?_
     refine O.skip rfl rfl ?_
     refine O.skip rfl rfl ?_
     refine O.pick_false (v := (.bool false)) rfl rfl rfl rfl ?_
     exact WL.nil ⟨rfl, rfl, rfl, rfl, rfl, rfl, congrArg Value.bool (and_f hc1), hs4, H⟩
    ·
     refine WL.reset (i := 16) (v := .bool true) (congrArg Value.bool hc1) ?_
     refine O.move (v := (.int .u8 (x1.toNat : Int))) rfl rfl rfl ?_
     refine O.leq rfl rfl rfl rfl ?_
     refine O.pick_true (v := (.bool (decide ((x1.toNat : Int) ≤ 122)))) rfl rfl rfl rfl ?_
     exact WL.nil ⟨rfl, rfl, rfl, rfl, rfl, rfl, congrArg Value.bool (and_t hc1), hs4, H⟩
   ·
    rintro f w ⟨hf0, hf3, hf4, hf7, hf8, hf9, hf19, hs6, H⟩
    obtain ⟨u2, rfl⟩ := up7 hf0 hf3 hf4 hf7 hf8 hf9 hf19
    refine O.assign (v := (.bool ((decide (97 ≤ (x1.toNat : Int))) && (decide ((x1.toNat : Int) ≤ 122))))) rfl rfl rfl ?_
    refine WL.nil ?_
    refine W.seq ?_
    refine W.region ?_
    refine O.move (v := (.bool ((decide (97 ≤ (x1.toNat : Int))) && (decide ((x1.toNat : Int) ≤ 122))))) rfl rfl rfl ?_
    refine O.not rfl rfl rfl ?_
    refine O.move (v := (.bool (!((decide (97 ≤ (x1.toNat : Int))) && (decide ((x1.toNat : Int) ≤ 122)))))) rfl rfl rfl ?_
    obtain ⟨b1, hm3, hm2⟩ := bind_some hm2
    refine WL.cut 13 (fun f w => f 0 = (.string a0) ∧ f 7 = v1 ∧ f 8 = (.int .i64 ((t1.length : Nat) : Int)) ∧ f 9 = (.int .i64 (ik1 : Int)) ∧ f 35 = .bool b1 ∧ SliceR w v1 t1 ∧ Inv w0 w []) ?_ ?_
    ·
     rcases ite_some hm3 with ⟨hc2, hm3⟩ | ⟨hc2, hm3⟩
     ·
      refine WL.reset (i := 22) (v := .bool true) (congrArg Value.bool hc2) ?_
      refine O.move (v := (.int .i64 (ik1 : Int))) rfl rfl rfl ?_
      refine O.eql rfl rfl rfl rfl ?_
      refine O.move (v := (.bool ((ik1 : Int) == 0))) rfl rfl rfl ?_
      obtain ⟨b2, hm4, hm3⟩ := bind_some hm3
      refine WL.cut 9 (fun f w => f 0 = (.string a0) ∧ f 7 = v1 ∧ f 8 = (.int .i64 ((t1.length : Nat) : Int)) ∧ f 9 = (.int .i64 (ik1 : Int)) ∧ f 22 = (.bool true) ∧ f 23 = (.int .i64 (ik1 : Int)) ∧ f 24 = (.bool ((ik1 : Int) == 0)) ∧ f 25 = (.bool ((ik1 : Int) == 0)) ∧ f 34 = .bool b2 ∧ SliceR w v1 t1 ∧ Inv w0 w []) ?_ ?_
      ·
       rcases ite_some hm4 with ⟨hc3, hm4⟩ | ⟨hc3, hm4⟩
       ·
        refine WL.reset (i := 25) (v := .bool true) (congrArg Value.bool hc3) ?_
        refine O.skip rfl rfl ?_
        refine O.skip rfl rfl ?_
        refine O.skip rfl rfl ?_
        refine O.skip rfl rfl ?_
        refine O.skip rfl rfl ?_
        refine O.skip rfl rfl ?_
        refine O.skip rfl rfl ?_
        refine O.skip rfl rfl ?_
        refine O.pick_true (v := (.bool true)) rfl rfl rfl rfl ?_
        refine WL.nil ?_
        have hq : true = b2 := Option.some.inj (show some true = some b2 from hm4)
        subst hq
        exact ⟨rfl, rfl, rfl, rfl, rfl, rfl, rfl, (congrArg Value.bool hc3).symm, rfl, hs6, H⟩
       ·
        refine WL.reset (i := 25) (v := .bool false) (congrArg Value.bool hc3) ?_
        refine O.move (v := (.int .u8 (x1.toNat : Int))) rfl rfl rfl ?_
        refine O.neq rfl rfl rfl rfl ?_
        refine O.move (v := (.bool ((x1.toNat : Int) != 95))) rfl rfl rfl ?_
        obtain ⟨b3, hm5, hm4⟩ := bind_some hm4
        refine WL.cut 5 (fun f w => f 0 = (.string a0) ∧ f 7 = v1 ∧ f 8 = (.int .i64 ((t1.length : Nat) : Int)) ∧ f 9 = (.int .i64 (ik1 : Int)) ∧ f 22 = (.bool true) ∧ f 23 = (.int .i64 (ik1 : Int)) ∧ f 24 = (.bool ((ik1 : Int) == 0)) ∧ f 25 = (.bool false) ∧ f 26 = (.int .u8 (x1.toNat : Int)) ∧ f 27 = (.bool ((x1.toNat : Int) != 95)) ∧ f 28 = (.bool ((x1.toNat : Int) != 95)) ∧ f 33 = .bool b3 ∧ SliceR w v1 t1 ∧ Inv w0 w []) ?_ ?_
        ·
         rcases ite_some hm5 with ⟨hc4, hm5⟩ | ⟨hc4, hm5⟩
         ·
          refine WL.reset (i := 28) (v := .bool true) (congrArg Value.bool hc4) ?_
          refine O.move (v := (.int .u8 (x1.toNat : Int))) rfl rfl rfl ?_
          obtain ⟨t2, ht2, hm5⟩ := bind_some hm5
          refine O.convI (by rw [Try.underlying5]; rfl) Try.underlying3 ht2 rfl rfl rfl ?_
          obtain ⟨t3, hy1, hm5⟩ := bind_some hm5
          refine O.call Try.call17 rfl rfl rfl (c_transit_within _ _ _ hy1) ?_
          rintro _ w2 hb2 rfl
          have hs6 := hs6.mono hb2
          have H := H.ext hb2
          refine O.not rfl rfl rfl ?_
          refine O.pick_true (v := (.bool (!t3))) rfl rfl rfl rfl ?_
          refine WL.nil ?_
          have hq : (!t3) = b3 := Option.some.inj (show some (!t3) = some b3 from hm5)
          subst hq
          exact ⟨rfl, rfl, rfl, rfl, rfl, rfl, rfl, rfl, rfl, rfl, (congrArg Value.bool hc4).symm, rfl, hs6, H⟩
         ·
          refine WL.reset (i := 28) (v := .bool false) (congrArg Value.bool hc4) ?_
          refine O.skip rfl rfl ?_
          refine O.skip rfl rfl ?_
          refine O.skip rfl rfl ?_
          refine O.skip rfl rfl ?_
          refine O.pick_false (v := (.bool false)) rfl rfl rfl rfl ?_
          refine WL.nil ?_
          have hq : false = b3 := Option.some.inj (show some false = some b3 from hm5)
          subst hq
          exact ⟨rfl, rfl, rfl, rfl, rfl, rfl, rfl, rfl, rfl, rfl, (congrArg Value.bool hc4).symm, rfl, hs6, H⟩
        ·
         rintro f w ⟨hf0, hf7, hf8, hf9, hf22, hf23, hf24, hf25, hf26, hf27, hf28, hf33, hs7, H⟩
         obtain ⟨u3, rfl⟩ : ∃ u3, f = (upd (upd (upd (upd (upd (upd (upd (upd (upd (upd (upd (upd u3 0 (.string a0)) 7 v1) 8 (.int .i64 ((t1.length : Nat) : Int))) 9 (.int .i64 (ik1 : Int))) 22 (.bool true)) 23 (.int .i64 (ik1 : Int))) 24 (.bool ((ik1 : Int) == 0))) 25 (.bool false)) 26 (.int .u8 (x1.toNat : Int))) 27 (.bool ((x1.toNat : Int) != 95))) 28 (.bool ((x1.toNat : Int) != 95))) 33 (.bool b3)) := ⟨f, by rw [upd_self hf0, upd_self hf7, upd_self hf8, upd_self hf9, upd_self hf22, upd_self hf23, upd_self hf24, upd_self hf25, upd_self hf26, upd_self hf27, upd_self hf28, upd_self hf33]⟩
         refine O.pick_false (v := (.bool b3)) rfl rfl rfl rfl ?_
         refine WL.nil ?_
         have hq : b3 = b2 := Option.some.inj (show some b3 = some b2 from hm4)
         subst hq
         exact ⟨rfl, rfl, rfl, rfl, rfl, rfl, rfl, (congrArg Value.bool hc3).symm, rfl, hs7, H⟩
      ·
       rintro f w ⟨hf0, hf7, hf8, hf9, hf22, hf23, hf24, hf25, hf34, hs8, H⟩
       obtain ⟨u4, rfl⟩ := up9 hf0 hf7 hf8 hf9 hf22 hf23 hf24 hf25 hf34
       refine O.pick_true (v := (.bool b2)) rfl rfl rfl rfl ?_
       refine WL.nil ?_
       have hq : b2 = b1 := Option.some.inj (show some b2 = some b1 from hm3)
       subst hq
       exact ⟨rfl, rfl, rfl, rfl, rfl, hs8, H⟩
     ·
      refine WL.reset (i := 22) (v := .bool false) (congrArg Value.bool hc2) ?_
      refine O.skip rfl rfl ?_
      refine O.skip rfl rfl ?_
      refine O.skip rfl rfl ?_
      refine O.skip rfl rfl ?_
      refine O.skip rfl rfl ?_
      refine O.skip rfl rfl ?_
      refine O.skip rfl rfl ?_
      refine O.skip rfl rfl ?_
      refine O.skip rfl rfl ?_
      refine O.skip rfl rfl ?_
      refine O.skip rfl rfl ?_
      refine O.skip rfl rfl ?_
      refine O.pick_false (v := (.bool false)) rfl rfl rfl rfl ?_
      refine WL.nil ?_
      have hq : false = b1 := Option.some.inj (show some false = some b1 from hm3)
      subst hq
      exact ⟨rfl, rfl, rfl, rfl, rfl, hs6, H⟩
    ·
     rintro f w ⟨hf0, hf7, hf8, hf9, hf35, hs9, H⟩
     obtain ⟨u5, rfl⟩ := up5 hf0 hf7 hf8 hf9 hf35
     refine WL.nil ?_
     rcases ite_some hm2 with ⟨hc5, hm2⟩ | ⟨hc5, hm2⟩
     ·
      refine W.cond_true (congrArg Value.bool hc5) ?_
      refine W.seq ?_
      refine W.region ?_
      refine O.assign (v := (.bool false)) rfl rfl rfl ?_
      refine WL.nil ?_
      refine W.ret ?_
      obtain rfl := Option.some.inj hm2
      refine ⟨_, rfl, ?_⟩
      rintro rfl
      have hq : false = r0 := Option.some.inj (show some false = some r0 from hm)
      subst hq
      exact ends1 Try.results32 rfl ⟨_, rfl, H.base, rfl⟩
     ·
      refine W.cond_false (congrArg Value.bool hc5) ?_
      refine W.skip ?_
      refine W.region ?_
      refine O.add rfl rfl rfl rfl hinck1 ?_
      refine O.move (v := .int .i64 ((ik1 : Int) + 1)) rfl rfl rfl ?_
      refine WL.nil ?_
      obtain rfl := Option.some.inj hm2
      exact ⟨_, rfl, rfl, rangeN_next hdropk1, rfl, rfl, rfl, rfl, hs9, H⟩
  ·
   rintro ik1 _ f w ⟨rfl, hdropk1, hf9, hf8, hf0, hf7, hs4, H⟩ hfin
   have hltk1 := rangeN_end hdropk1
   obtain ⟨u6, rfl⟩ := up4 hf9 hf8 hf0 hf7
   refine W.seq ?_
   refine W.region ?_
   refine O.lss rfl rfl rfl rfl ?_
   refine WL.nil ?_
   refine W.seq ?_
   refine W.cond_false (congrArg Value.bool (decide_eq_false hltk1)) ?_
   refine W.exit ?_
   obtain rfl : Ctl.next () = o1 := hfin
   refine xT rfl ?_
   exact ⟨rfl, rfl, H⟩
 ·
  rintro f w ⟨rfl, hf0, H⟩
  obtain ⟨u7, rfl⟩ := up1 hf0
  refine W.seq ?_
  refine W.region ?_
  refine O.move (v := (.string a0)) rfl rfl rfl ?_
  refine O.lenStr Try.underlying9 rfl rfl rfl ?_
  obtain ⟨t4, hy2, hm⟩ := bind_some hm
  refine O.call Try.call17 rfl rfl rfl (c_transit_within _ _ _ hy2) ?_
  rintro _ w3 hb3 rfl
  have H := H.ext hb3
  refine O.assign (v := (.bool t4)) rfl rfl rfl ?_
  refine WL.nil ?_
  refine W.ret ?_
  have hq : t4 = r0 := Option.some.inj (show some t4 = some r0 from hm)
  subst hq
  exact ends1 Try.results32 rfl ⟨_, rfl, H.base, rfl⟩

theorem c_transit_ValidStar {w0 : World} (a0 : GStar) {r0 : Bool} (hm : transit_ValidStar a0 = some r0) :
  Calls Try.prog 16 #[(.agg (Flat.cells a0).toArray)] w0 (Ret w0 fun _ v => v = (.bool r0)) := by
 unfold transit_ValidStar at hm
 refine calls_of_W Try.func16 rfl Try.ntmps16 (Nat.le_of_ble_eq_true rfl) ?_
 have H := Inv.start (w := w0)
 refine W.seq ?_
 refine W.region ?_
 refine O.box [(.string a0.Name), (.int .i64 a0.Ascension), (.int .i64 a0.Shift), (.int .i64 a0.Slow)] H rfl rfl rfl rfl ?_
 intro b1 w1 H hb1
 refine O.assign (v := (.bool false)) rfl rfl rfl ?_
 refine WL.nil ?_
 refine W.seq ?_
 refine W.region ?_
 refine O.fieldAddr fd29_0 rfl rfl rfl ?_
 refine O.load sc9 rfl rfl rfl (H.cell 0 rfl 0 _ rfl) ?_
 obtain ⟨t1, hy1, hm⟩ := bind_some hm
 refine O.call Try.call32 rfl rfl rfl (c_transit_name _ hy1) ?_
 rintro _ w2 hb2 rfl
 have H := H.ext hb2
 refine O.move (v := (.bool t1)) rfl rfl rfl ?_
 obtain ⟨b2, hm1, hm⟩ := bind_some hm
 refine WL.cut 4 (fun f w => f 1 = (.pointer (some ⟨b1, 0, none⟩)) ∧ f 10 = .bool b2 ∧ Inv w0 w [boxI b1 29 [(.string a0.Name), (.int .i64 a0.Ascension), (.int .i64 a0.Shift), (.int .i64 a0.Slow)]]) ?_ ?_
 ·
  rcases ite_some hm1 with ⟨hc1, hm1⟩ | ⟨hc1, hm1⟩
  ·
   refine WL.reset (i := 6) (v := .bool true) (congrArg Value.bool hc1) ?_
   refine O.fieldAddr fd29_1 rfl rfl rfl ?_
   refine O.load sc3 rfl rfl rfl (H.cell 0 rfl 1 _ rfl) ?_
   obtain ⟨t2, hy2, hm1⟩ := bind_some hm1
   refine O.call Try.call17 rfl rfl rfl (c_transit_within _ _ _ hy2) ?_
   rintro _ w3 hb3 rfl
   have H := H.ext hb3
   refine O.pick_true (v := (.bool t2)) rfl rfl rfl rfl ?_
   refine WL.nil ?_
   have hq : t2 = b2 := Option.some.inj (show some t2 = some b2 from hm1)
   subst hq
   exact ⟨rfl, rfl, H⟩
  ·
   refine WL.reset (i := 6) (v := .bool false) (congrArg Value.bool hc1) ?_
   refine O.skip rfl rfl ?_
   refine O.skip rfl rfl ?_
   refine O.skip rfl rfl ?_
   refine O.pick_false (v := (.bool false)) rfl rfl rfl rfl ?_
   refine WL.nil ?_
   have hq : false = b2 := Option.some.inj (show some false = some b2 from hm1)
   subst hq
   exact ⟨rfl, rfl, H⟩
 ·
  rintro f w ⟨hf1, hf10, H⟩
  obtain ⟨u1, rfl⟩ := up2 hf1 hf10
  refine O.move (v := (.bool b2)) rfl rfl rfl ?_
  obtain ⟨b3, hm2, hm⟩ := bind_some hm
  refine WL.cut 4 (fun f w => f 1 = (.pointer (some ⟨b1, 0, none⟩)) ∧ f 15 = .bool b3 ∧ Inv w0 w [boxI b1 29 [(.string a0.Name), (.int .i64 a0.Ascension), (.int .i64 a0.Shift), (.int .i64 a0.Slow)]]) ?_ ?_
  ·
   rcases ite_some hm2 with ⟨hc2, hm2⟩ | ⟨hc2, hm2⟩
   ·
    refine WL.reset (i := 11) (v := .bool true) (congrArg Value.bool hc2) ?_
    refine O.fieldAddr fd29_2 rfl rfl rfl ?_
    refine O.load sc3 rfl rfl rfl (H.cell 0 rfl 2 _ rfl) ?_
    obtain ⟨t3, hy3, hm2⟩ := bind_some hm2
    refine O.call Try.call17 rfl rfl rfl (c_transit_within _ _ _ hy3) ?_
    rintro _ w4 hb4 rfl
    have H := H.ext hb4
    refine O.pick_true (v := (.bool t3)) rfl rfl rfl rfl ?_
    refine WL.nil ?_
    have hq : t3 = b3 := Option.some.inj (show some t3 = some b3 from hm2)
    subst hq
    exact ⟨rfl, rfl, H⟩
   ·
    refine WL.reset (i := 11) (v := .bool false) (congrArg Value.bool hc2) ?_
    refine O.skip rfl rfl ?_
    refine O.skip rfl rfl ?_
    refine O.skip rfl rfl ?_
    refine O.pick_false (v := (.bool false)) rfl rfl rfl rfl ?_
    refine WL.nil ?_
    have hq : false = b3 := Option.some.inj (show some false = some b3 from hm2)
    subst hq
    exact ⟨rfl, rfl, H⟩
  ·
   rintro f w ⟨hf1, hf15, H⟩
   obtain ⟨u2, rfl⟩ := up2 hf1 hf15
   refine O.move (v := (.bool b3)) rfl rfl rfl ?_
   obtain ⟨b4, hm3, hm⟩ := bind_some hm
   refine WL.cut 4 (fun f w => f 20 = .bool b4 ∧ Inv w0 w [boxI b1 29 [(.string a0.Name), (.int .i64 a0.Ascension), (.int .i64 a0.Shift), (.int .i64 a0.Slow)]]) ?_ ?_
   ·
    rcases ite_some hm3 with ⟨hc3, hm3⟩ | ⟨hc3, hm3⟩
    ·
     refine WL.reset (i := 16) (v := .bool true) (congrArg Value.bool hc3) ?_
     refine O.fieldAddr fd29_3 rfl rfl rfl ?_
     refine O.load sc3 rfl rfl rfl (H.cell 0 rfl 3 _ rfl) ?_
     obtain ⟨t4, hy4, hm3⟩ := bind_some hm3
     refine O.call Try.call17 rfl rfl rfl (c_transit_within _ _ _ hy4) ?_
     rintro _ w5 hb5 rfl
     have H := H.ext hb5
     refine O.pick_true (v := (.bool t4)) rfl rfl rfl rfl ?_
     refine WL.nil ?_
     have hq : t4 = b4 := Option.some.inj (show some t4 = some b4 from hm3)
     subst hq
     exact ⟨rfl, H⟩
    ·
     refine WL.reset (i := 16) (v := .bool false) (congrArg Value.bool hc3) ?_
     refine O.skip rfl rfl ?_
     refine O.skip rfl rfl ?_
     refine O.skip rfl rfl ?_
     refine O.pick_false (v := (.bool false)) rfl rfl rfl rfl ?_
     refine WL.nil ?_
     have hq : false = b4 := Option.some.inj (show some false = some b4 from hm3)
     subst hq
     exact ⟨rfl, H⟩
   ·
    rintro f w ⟨hf20, H⟩
    obtain ⟨u3, rfl⟩ := up1 hf20
    refine O.assign (v := (.bool b4)) rfl rfl rfl ?_
    refine WL.nil ?_
    refine W.ret ?_
    have hq : b4 = r0 := Option.some.inj (show some b4 = some r0 from hm)
    subst hq
    exact ends1 Try.results16 rfl ⟨_, rfl, H.base, rfl⟩

theorem c_transit_down {w0 : World} (a0 : Int) (a1 : Int) {r0 : Int} (hm : transit_down a0 a1 = some r0) :
  Calls Try.prog 18 #[(.int .i64 a0), (.int .i64 a1)] w0 (Ret w0 fun _ v => v = (.int .i64 r0)) := by
 unfold transit_down at hm
 refine calls_of_W Try.func18 rfl Try.ntmps18 (Nat.le_of_ble_eq_true rfl) ?_
 have H := Inv.start (w := w0)
 refine W.seq ?_
 refine W.region ?_
 refine O.assign (v := (.int .i64 0)) rfl rfl rfl ?_
 refine WL.nil ?_
 refine W.seq ?_
 refine W.region ?_
 refine O.move (v := (.int .i64 a0)) rfl rfl rfl ?_
 refine O.move (v := (.int .i64 a1)) rfl rfl rfl ?_
 obtain ⟨t1, ht1, hm⟩ := bind_some hm
 refine O.quo rfl rfl rfl rfl ht1 ?_
 refine O.assign (v := (.int .i64 t1)) rfl rfl rfl ?_
 refine WL.nil ?_
 refine W.seq ?_
 refine W.seq ?_
 refine W.region ?_
 refine O.move (v := (.int .i64 t1)) rfl rfl rfl ?_
 refine O.move (v := (.int .i64 a1)) rfl rfl rfl ?_
 obtain ⟨t2, ht2, hm⟩ := bind_some hm
 refine O.mul rfl rfl rfl rfl ht2 ?_
 refine O.move (v := (.int .i64 a0)) rfl rfl rfl ?_
 refine O.gtr rfl rfl rfl rfl ?_
 refine WL.nil ?_
 obtain ⟨s1, hm1, hm⟩ := bind_some hm
 refine W.via (fun f w => f 5 = (.int .i64 s1) ∧ Inv w0 w []) ?_ ?_
 ·
  rcases ite_some hm1 with ⟨hc1, hm1⟩ | ⟨hc1, hm1⟩
  ·
   refine W.cond_true (congrArg Value.bool hc1) ?_
   refine W.region ?_
   refine O.move (v := (.int .i64 t1)) rfl rfl rfl ?_
   obtain ⟨t3, ht3, hm1⟩ := bind_some hm1
   refine O.sub rfl rfl rfl rfl ht3 ?_
   refine O.assign (v := (.int .i64 t3)) rfl rfl rfl ?_
   refine WL.nil ?_
   have hq : t3 = s1 := Option.some.inj (show some t3 = some s1 from hm1)
   subst hq
   exact ⟨rfl, H⟩
  ·
   refine W.cond_false (congrArg Value.bool hc1) ?_
   refine W.skip ?_
   have hq : t1 = s1 := Option.some.inj (show some t1 = some s1 from hm1)
   subst hq
   exact ⟨rfl, H⟩
 ·
  rintro f w ⟨hf5, H⟩
  obtain ⟨u1, rfl⟩ := up1 hf5
  refine W.seq ?_
  refine W.region ?_
  refine O.move (v := (.int .i64 s1)) rfl rfl rfl ?_
  refine O.assign (v := (.int .i64 s1)) rfl rfl rfl ?_
  refine WL.nil ?_
  refine W.ret ?_
  have hq : s1 = r0 := Option.some.inj (show some s1 = some r0 from hm)
  subst hq
  exact ends1 Try.results18 rfl ⟨_, rfl, H.base, rfl⟩

set_option maxRecDepth 20000 in
theorem c_transit_Wired {w0 : World} (va0_0 : Value) (a0 : GTube) (ha0_0 : SliceR w0 va0_0 a0.Wires) (a1 : GStar) (a2 : Int) {r0 : GTransit} {r1 : Int} (hm : transit_Wired a0 a1 a2 = some (r0, r1)) :
  Calls Try.prog 6 #[(.agg #[va0_0, (.int .i64 a0.Error)]), (.agg (Flat.cells a1).toArray), (.int .i64 a2)] w0 (Ret w0 fun w v => ∃ vr0_0 : Value, v = .tuple #[(.agg #[(.string r0.Star.Name), (.int .i64 r0.Star.Ascension), (.int .i64 r0.Star.Shift), (.int .i64 r0.Star.Slow), vr0_0]), (.int .i64 r1)] ∧ OwnR w0 w vr0_0 3 r0.Wires) := by
 unfold transit_Wired at hm
 refine calls_of_W Try.func6 rfl Try.ntmps6 (Nat.le_of_ble_eq_true rfl) ?_
 have H := Inv.start (w := w0)
 refine W.seq ?_
 refine W.region ?_
 refine O.box [va0_0, (.int .i64 a0.Error)] H rfl rfl rfl rfl ?_
 intro b1 w1 H hb1
 refine O.box [(.string a1.Name), (.int .i64 a1.Ascension), (.int .i64 a1.Shift), (.int .i64 a1.Slow)] H rfl rfl rfl rfl ?_
 intro b2 w2 H hb2
 refine O.alloc [(.string ByteArray.empty), (.int .i64 0), (.int .i64 0), (.int .i64 0), (.slice none 0 0)] ze31 H rfl rfl rfl ?_
 intro b3 w3 H hb3
 have H := H.addNil (α := Int) (E := 3)
 refine O.assign (v := (.int .i64 0)) rfl rfl rfl ?_
 refine WL.nil ?_
 refine W.seq ?_
 refine W.block ?_
 refine W.seq ?_
 refine W.region ?_
 refine O.loadA [va0_0, (.int .i64 a0.Error)] ag24 rfl rfl rfl rfl (H.cell 0 rfl) ?_
 obtain ⟨t1, hy1, hm⟩ := bind_some hm
 refine O.call Try.call15 rfl rfl rfl (c_transit_ValidTube _ (GTube.mk a0.Wires a0.Error) (H.arg ha0_0) hy1) ?_
 rintro _ w4 hb4 rfl
 have H := H.ext hb4
 refine O.not rfl rfl rfl ?_
 refine O.move (v := (.bool (!t1))) rfl rfl rfl ?_
 obtain ⟨b4, hm1, hm⟩ := bind_some hm
 refine WL.cut 4 (fun f w => f 2 = (.int .i64 a2) ∧ f 3 = (.pointer (some ⟨b1, 0, none⟩)) ∧ f 4 = (.pointer (some ⟨b2, 0, none⟩)) ∧ f 6 = (.pointer (some ⟨b3, 0, none⟩)) ∧ f 20 = .bool b4 ∧ Inv w0 w [boxI b1 24 [va0_0, (.int .i64 a0.Error)], boxI b2 29 [(.string a1.Name), (.int .i64 a1.Ascension), (.int .i64 a1.Shift), (.int .i64 a1.Slow)], boxI b3 31 [(.string ByteArray.empty), (.int .i64 0), (.int .i64 0), (.int .i64 0), (.slice none 0 0)], ownI (α := Int) (.slice none 0 0) 3 ([] : List Int)]) ?_ ?_
 ·
  rcases ite_some hm1 with ⟨hc1, hm1⟩ | ⟨hc1, hm1⟩
  ·
   refine WL.reset (i := 16) (v := .bool true) (congrArg Value.bool hc1) ?_
   refine O.skip rfl rfl ?_
   refine O.skip rfl rfl ?_
   refine O.skip rfl rfl ?_
   refine O.pick_true (v := (.bool true)) rfl rfl rfl rfl ?_
   refine WL.nil ?_
   have hq : true = b4 := Option.some.inj (show some true = some b4 from hm1)
   subst hq
   exact ⟨rfl, rfl, rfl, rfl, rfl, H⟩
  ·
   refine WL.reset (i := 16) (v := .bool false) (congrArg Value.bool hc1) ?_
   refine O.loadA [(.string a1.Name), (.int .i64 a1.Ascension), (.int .i64 a1.Shift), (.int .i64 a1.Slow)] ag29 rfl rfl rfl rfl (H.cell 1 rfl) ?_
   obtain ⟨t2, hy2, hm1⟩ := bind_some hm1
   refine O.call Try.call16 rfl rfl rfl (c_transit_ValidStar a1 hy2) ?_
   rintro _ w5 hb5 rfl
   have H := H.ext hb5
   refine O.not rfl rfl rfl ?_
   refine O.pick_false (v := (.bool (!t2))) rfl rfl rfl rfl ?_
   refine WL.nil ?_
   have hq : (!t2) = b4 := Option.some.inj (show some (!t2) = some b4 from hm1)
   subst hq
   exact ⟨rfl, rfl, rfl, rfl, rfl, H⟩
 ·
  rintro f w ⟨hf2, hf3, hf4, hf6, hf20, H⟩
  obtain ⟨u1, rfl⟩ := up5 hf2 hf3 hf4 hf6 hf20
  refine O.assign (v := (.bool b4)) rfl rfl rfl ?_
  refine WL.nil ?_
  rcases ite_some hm with ⟨hc2, hm⟩ | ⟨hc2, hm⟩
  ·
   refine W.cond_true (congrArg Value.bool hc2) ?_
   refine W.seq ?_
   refine W.region ?_
   refine O.build (v := (.agg #[(.string ByteArray.empty), (.int .i64 0), (.int .i64 0), (.int .i64 0), (.slice none 0 0)])) (fun w => bd31_  w) rfl rfl rfl ?_
   have H := H.addNil (α := Int) (E := 3)
   refine O.store 2 0 [(.string ByteArray.empty), (.int .i64 0), (.int .i64 0), (.int .i64 0), (.slice none 0 0)] [(.string ByteArray.empty), (.int .i64 0), (.int .i64 0), (.int .i64 0), (.slice none 0 0)] sz31 H rfl rfl rfl rfl rfl rfl ⟨⟨rfl, rfl⟩, rfl⟩ (one_cons rfl (one_cons rfl (one_cons rfl (one_cons rfl (one_cons rfl one_nil))))) ?_
   intro w6 H
   refine O.assign (v := (.int .i64 1)) rfl rfl rfl ?_
   refine WL.nil ?_
   refine W.ret ?_
   have hq : ((GTransit.mk (GStar.mk ByteArray.empty 0 0 0) ([] : List Int)), 1) = (r0, r1) := Option.some.inj (show some ((GTransit.mk (GStar.mk ByteArray.empty 0 0 0) ([] : List Int)), 1) = some (r0, r1) from hm)
   obtain ⟨he0, hq0⟩ := Prod.mk.inj hq; clear hq; subst he0
   subst hq0
   exact ends2 Try.results6 ⟨_, rfl, run_loadVar_agg ag31 rfl (H.cell 2 rfl)⟩ rfl ⟨_, rfl, H.base, ⟨_, rfl, H.ownR 4 rfl⟩⟩
  ·
   refine W.cond_false (congrArg Value.bool hc2) ?_
   refine W.seq ?_
   refine W.region ?_
   refine O.move (v := (.int .i64 a2)) rfl rfl rfl ?_
   obtain ⟨t3, hy3, hm⟩ := bind_some hm
   refine O.call Try.call17 rfl rfl rfl (c_transit_within _ _ _ hy3) ?_
   rintro _ w7 hb6 rfl
   have H := H.ext hb6
   refine O.not rfl rfl rfl ?_
   refine O.assign (v := (.bool (!t3))) rfl rfl rfl ?_
   refine WL.nil ?_
   rcases ite_some hm with ⟨hc3, hm⟩ | ⟨hc3, hm⟩
   ·
    refine W.cond_true (congrArg Value.bool hc3) ?_
    refine W.seq ?_
    refine W.region ?_
    refine O.build (v := (.agg #[(.string ByteArray.empty), (.int .i64 0), (.int .i64 0), (.int .i64 0), (.slice none 0 0)])) (fun w => bd31_  w) rfl rfl rfl ?_
    have H := H.addNil (α := Int) (E := 3)
    refine O.store 2 0 [(.string ByteArray.empty), (.int .i64 0), (.int .i64 0), (.int .i64 0), (.slice none 0 0)] [(.string ByteArray.empty), (.int .i64 0), (.int .i64 0), (.int .i64 0), (.slice none 0 0)] sz31 H rfl rfl rfl rfl rfl rfl ⟨⟨rfl, rfl⟩, rfl⟩ (one_cons rfl (one_cons rfl (one_cons rfl (one_cons rfl (one_cons rfl one_nil))))) ?_
    intro w8 H
    refine O.assign (v := (.int .i64 7)) rfl rfl rfl ?_
    refine WL.nil ?_
    refine W.ret ?_
    have hq : ((GTransit.mk (GStar.mk ByteArray.empty 0 0 0) ([] : List Int)), 7) = (r0, r1) := Option.some.inj (show some ((GTransit.mk (GStar.mk ByteArray.empty 0 0 0) ([] : List Int)), 7) = some (r0, r1) from hm)
    obtain ⟨he0, hq0⟩ := Prod.mk.inj hq; clear hq; subst he0
    subst hq0
    exact ends2 Try.results6 ⟨_, rfl, run_loadVar_agg ag31 rfl (H.cell 2 rfl)⟩ rfl ⟨_, rfl, H.base, ⟨_, rfl, H.ownR 4 rfl⟩⟩
   ·
    refine W.cond_false (congrArg Value.bool hc3) ?_
    refine W.skip ?_
    refine W.seq ?_
    refine W.region ?_
    refine O.loadA [(.string a1.Name), (.int .i64 a1.Ascension), (.int .i64 a1.Shift), (.int .i64 a1.Slow)] ag29 rfl rfl rfl rfl (H.cell 1 rfl) ?_
    refine O.build (v := (.agg #[(.string a1.Name), (.int .i64 a1.Ascension), (.int .i64 a1.Shift), (.int .i64 a1.Slow), (.slice none 0 0)])) (fun w => bd31_0 _ w) rfl rfl rfl ?_
    refine O.alloc [(.string ByteArray.empty), (.int .i64 0), (.int .i64 0), (.int .i64 0), (.slice none 0 0)] ze31 H rfl rfl rfl ?_
    intro b5 w9 H hb7
    have H := H.addNil (α := Int) (E := 3)
    have H := H.addNil (α := Int) (E := 3)
    refine O.store 4 0 [(.string a1.Name), (.int .i64 a1.Ascension), (.int .i64 a1.Shift), (.int .i64 a1.Slow), (.slice none 0 0)] [(.string a1.Name), (.int .i64 a1.Ascension), (.int .i64 a1.Shift), (.int .i64 a1.Slow), (.slice none 0 0)] sz31 H rfl rfl rfl rfl rfl rfl ⟨⟨rfl, rfl⟩, rfl⟩ (one_cons rfl (one_cons rfl (one_cons rfl (one_cons rfl (one_cons rfl one_nil))))) ?_
    intro w10 H
    refine WL.nil ?_
    refine W.seq ?_
    refine W.seq ?_
    refine W.region ?_
    refine O.fieldAddr fd24_0 rfl rfl rfl ?_
    refine O.load sc22 rfl rfl rfl (H.cell 0 rfl 0 _ rfl) ?_
    refine O.lenS Try.underlying22 (H.arg ha0_0) rfl rfl rfl ?_
    refine O.move (v := (.int .i64 0)) rfl rfl rfl ?_
    refine WL.nil ?_
    obtain ⟨o1, hm2, hm⟩ := bind_some hm
    refine W.via (fun f w => ∃ s1 : (List Int), ∃ v4 : Value, o1 = .next s1 ∧ f 6 = (.pointer (some ⟨b3, 0, none⟩)) ∧ f 8 = (.pointer (some ⟨b5, 0, none⟩)) ∧ Inv w0 w [boxI b3 31 [(.string ByteArray.empty), (.int .i64 0), (.int .i64 0), (.int .i64 0), (.slice none 0 0)], ownI (α := Int) (.slice none 0 0) 3 ([] : List Int), boxI b5 31 [(.string a1.Name), (.int .i64 a1.Ascension), (.int .i64 a1.Shift), (.int .i64 a1.Slow), v4], ownI (α := Int) v4 3 s1]) ?_ ?_
    ·
     refine W.block ?_
     have H := H.keep [1, 2, 3, 4, 6] [boxI b2 29 [(.string a1.Name), (.int .i64 a1.Ascension), (.int .i64 a1.Shift), (.int .i64 a1.Slow)], boxI b3 31 [(.string ByteArray.empty), (.int .i64 0), (.int .i64 0), (.int .i64 0), (.slice none 0 0)], ownI (α := Int) (.slice none 0 0) 3 ([] : List Int), boxI b5 31 [(.string a1.Name), (.int .i64 a1.Ascension), (.int .i64 a1.Shift), (.int .i64 a1.Slow), (.slice none 0 0)], ownI (α := Int) (.slice none 0 0) 3 ([] : List Int)] rfl (by decide)
     refine W.rangeL (i := 0) hm2 (fun rem ik1 s f w => ∃ z2 : (List Int), ∃ v2 : Value, z2 = s ∧ a0.Wires.drop ik1 = rem ∧ f 32 = .int .i64 (ik1 : Int) ∧ f 31 = (.int .i64 ((a0.Wires.length : Nat) : Int)) ∧ f 2 = (.int .i64 a2) ∧ f 4 = (.pointer (some ⟨b2, 0, none⟩)) ∧ f 6 = (.pointer (some ⟨b3, 0, none⟩)) ∧ f 8 = (.pointer (some ⟨b5, 0, none⟩)) ∧ f 30 = va0_0 ∧ Inv w0 w [boxI b2 29 [(.string a1.Name), (.int .i64 a1.Ascension), (.int .i64 a1.Shift), (.int .i64 a1.Slow)], boxI b3 31 [(.string ByteArray.empty), (.int .i64 0), (.int .i64 0), (.int .i64 0), (.slice none 0 0)], ownI (α := Int) (.slice none 0 0) 3 ([] : List Int), boxI b5 31 [(.string a1.Name), (.int .i64 a1.Ascension), (.int .i64 a1.Shift), (.int .i64 a1.Slow), v2], ownI (α := Int) v2 3 z2]) ?_ ?_ ?_
     ·
      exact ⟨_, (.slice none 0 0), rfl, List.drop_zero, rfl, rfl, rfl, rfl, rfl, rfl, rfl, H⟩
     ·
      rintro yk1 xs ik1 _ st f w ⟨z2, v2, rfl, hdropk1, hf32, hf31, hf2, hf4, hf6, hf8, hf30, H⟩ hm3
      have hltk1 := drop_lt hdropk1; have hixk1 := drop_idx hdropk1
      obtain ⟨u2, rfl⟩ := up7 hf32 hf31 hf2 hf4 hf6 hf8 hf30
      have hinck1 := addI_lt hltk1 (H.arg ha0_0).len_le
      refine W.seq ?_
      refine W.region ?_
      refine O.lss rfl rfl rfl rfl ?_
      refine WL.nil ?_
      refine W.seq ?_
      refine W.cond_true (congrArg Value.bool (decide_eq_true hltk1)) ?_
      refine W.skip ?_
      refine W.seq ?_
      refine W.block ?_
      refine W.seq ?_
      refine W.region ?_
      obtain ⟨p1, hp1, hrp1⟩ := fix_indexAddr Try.underlying22 sz3 ha0_0 hixk1
      refine hrp1 rfl rfl rfl rfl ?_
      refine O.load sc3 rfl rfl rfl ((hp1.mono H.base).flat 0 _ rfl) ?_
      refine O.assign (v := (.int .i64 yk1)) rfl rfl rfl ?_
      refine WL.nil ?_
      refine W.seq ?_
      refine W.region ?_
      refine O.move (v := (.int .i64 a2)) rfl rfl rfl ?_
      refine O.move (v := (.int .i64 yk1)) rfl rfl rfl ?_
      refine O.fieldAddr fd29_3 rfl rfl rfl ?_
      refine O.load sc3 rfl rfl rfl (H.cell 0 rfl 3 _ rfl) ?_
      obtain ⟨t4, ht4, hm3⟩ := bind_some hm3
      refine O.mul rfl rfl rfl rfl ht4 ?_
      obtain ⟨t5, hy4, hm3⟩ := bind_some hm3
      refine O.call Try.call18 rfl rfl rfl (c_transit_down _ _ hy4) ?_
      rintro _ w11 hb8 rfl
      have H := H.ext hb8
      obtain ⟨t6, ht6, hm3⟩ := bind_some hm3
      refine O.add rfl rfl rfl rfl ht6 ?_
      refine O.assign (v := (.int .i64 t6)) rfl rfl rfl ?_
      refine WL.nil ?_
      refine W.seq ?_
      refine W.seq ?_
      refine W.region ?_
      refine O.move (v := (.int .i64 t6)) rfl rfl rfl ?_
      obtain ⟨t7, hy5, hm3⟩ := bind_some hm3
      refine O.call Try.call17 rfl rfl rfl (c_transit_within _ _ _ hy5) ?_
      rintro _ w12 hb9 rfl
      have H := H.ext hb9
      refine O.not rfl rfl rfl ?_
      refine WL.nil ?_
      rcases ite_some hm3 with ⟨hc4, hm3⟩ | ⟨hc4, hm3⟩
      ·
       refine W.cond_true (congrArg Value.bool hc4) ?_
       refine W.seq ?_
       refine W.region ?_
       refine O.build (v := (.agg #[(.string ByteArray.empty), (.int .i64 0), (.int .i64 0), (.int .i64 0), (.slice none 0 0)])) (fun w => bd31_  w) rfl rfl rfl ?_
       have H := H.addNil (α := Int) (E := 3)
       refine O.store 1 0 [(.string ByteArray.empty), (.int .i64 0), (.int .i64 0), (.int .i64 0), (.slice none 0 0)] [(.string ByteArray.empty), (.int .i64 0), (.int .i64 0), (.int .i64 0), (.slice none 0 0)] sz31 H rfl rfl rfl rfl rfl rfl ⟨⟨rfl, rfl⟩, rfl⟩ (one_cons rfl (one_cons rfl (one_cons rfl (one_cons rfl (one_cons rfl one_nil))))) ?_
       intro w13 H
       refine O.assign (v := (.int .i64 7)) rfl rfl rfl ?_
       refine WL.nil ?_
       refine W.ret ?_
       obtain rfl := Option.some.inj hm3
       refine ⟨_, rfl, ?_⟩
       rintro rfl
       have hq : ((GTransit.mk (GStar.mk ByteArray.empty 0 0 0) ([] : List Int)), 7) = (r0, r1) := Option.some.inj (show some ((GTransit.mk (GStar.mk ByteArray.empty 0 0 0) ([] : List Int)), 7) = some (r0, r1) from hm)
       obtain ⟨he0, hq0⟩ := Prod.mk.inj hq; clear hq; subst he0
       subst hq0
       exact ends2 Try.results6 ⟨_, rfl, run_loadVar_agg ag31 rfl (H.cell 1 rfl)⟩ rfl ⟨_, rfl, H.base, ⟨_, rfl, H.ownR 5 rfl⟩⟩
      ·
       refine W.cond_false (congrArg Value.bool hc4) ?_
       refine W.skip ?_
       refine W.region ?_
       refine O.fieldAddr fd31_1 rfl rfl rfl ?_
       refine O.load sc22 rfl rfl rfl (H.cell 3 rfl 4 _ rfl) ?_
       refine O.move (v := (.int .i64 t6)) rfl rfl rfl ?_
       refine O.buildSlice (α := Int) [(.int .i64 t6)] [t6] Try.underlying22 el3 H rfl rfl rfl rfl rfl rfl rfl ?_
       intro v5 w14 H hb10
       obtain ⟨t8, ht8, hm3⟩ := bind_some hm3
       refine O.append 4 Try.underlying22 el3 rfl H rfl (H.own 5 rfl) ht8 rfl rfl rfl rfl ?_
       intro v6 w15 H
       refine O.fieldAddr fd31_1 rfl rfl rfl ?_
       refine O.store 3 4 [v6] [(.string a1.Name), (.int .i64 a1.Ascension), (.int .i64 a1.Shift), (.int .i64 a1.Slow), v6] sz22 H rfl rfl rfl rfl rfl (SliceR.cells1 (H.own 4 rfl)) ⟨⟨rfl, rfl⟩, rfl⟩ (one_cons (SliceR.one (H.own 4 rfl)) one_nil) ?_
       intro w16 H
       refine WL.nil ?_
       refine W.region ?_
       refine O.add rfl rfl rfl rfl hinck1 ?_
       refine O.move (v := .int .i64 ((ik1 : Int) + 1)) rfl rfl rfl ?_
       refine WL.nil ?_
       have H := H.keep [0, 1, 2, 3, 4] [boxI b2 29 [(.string a1.Name), (.int .i64 a1.Ascension), (.int .i64 a1.Shift), (.int .i64 a1.Slow)], boxI b3 31 [(.string ByteArray.empty), (.int .i64 0), (.int .i64 0), (.int .i64 0), (.slice none 0 0)], ownI (α := Int) (.slice none 0 0) 3 ([] : List Int), boxI b5 31 [(.string a1.Name), (.int .i64 a1.Ascension), (.int .i64 a1.Shift), (.int .i64 a1.Slow), v6], ownI (α := Int) v6 3 t8] rfl (by decide)
       obtain rfl := Option.some.inj hm3
       exact ⟨_, rfl, _, v6, rfl, drop_next hdropk1, rfl, rfl, rfl, rfl, rfl, rfl, rfl, H⟩
     ·
      rintro ik1 _ f w ⟨z2, v2, rfl, hdropk1, hf32, hf31, hf2, hf4, hf6, hf8, hf30, H⟩ hfin
      have hltk1 := drop_end hdropk1
      obtain ⟨u3, rfl⟩ := up7 hf32 hf31 hf2 hf4 hf6 hf8 hf30
      refine W.seq ?_
      refine W.region ?_
      refine O.lss rfl rfl rfl rfl ?_
      refine WL.nil ?_
      refine W.seq ?_
      refine W.cond_false (congrArg Value.bool (decide_eq_false hltk1)) ?_
      refine W.exit ?_
      obtain rfl : Ctl.next z2 = o1 := hfin
      have H := H.keep [1, 2, 3, 4] [boxI b3 31 [(.string ByteArray.empty), (.int .i64 0), (.int .i64 0), (.int .i64 0), (.slice none 0 0)], ownI (α := Int) (.slice none 0 0) 3 ([] : List Int), boxI b5 31 [(.string a1.Name), (.int .i64 a1.Ascension), (.int .i64 a1.Shift), (.int .i64 a1.Slow), v2], ownI (α := Int) v2 3 z2] rfl (by decide)
      refine xT rfl ?_
      exact ⟨_, v2, rfl, rfl, rfl, H⟩
    ·
     rintro f w ⟨s1, v4, rfl, hf6, hf8, H⟩
     obtain ⟨u4, rfl⟩ := up2 hf6 hf8
     refine W.seq ?_
     refine W.region ?_
     refine O.loadA [(.string a1.Name), (.int .i64 a1.Ascension), (.int .i64 a1.Shift), (.int .i64 a1.Slow), v4] ag31 rfl rfl rfl rfl (H.cell 2 rfl) ?_
     refine O.store 0 0 [(.string a1.Name), (.int .i64 a1.Ascension), (.int .i64 a1.Shift), (.int .i64 a1.Slow), v4] [(.string a1.Name), (.int .i64 a1.Ascension), (.int .i64 a1.Shift), (.int .i64 a1.Slow), v4] sz31 H rfl rfl rfl rfl rfl rfl ⟨⟨rfl, rfl⟩, rfl⟩ (one_cons rfl (one_cons rfl (one_cons rfl (one_cons rfl (one_cons (SliceR.one (H.own 3 rfl)) one_nil))))) ?_
     intro w17 H
     refine O.assign (v := (.int .i64 0)) rfl rfl rfl ?_
     refine WL.nil ?_
     refine W.ret ?_
     have hq : ((GTransit.mk a1 s1), 0) = (r0, r1) := Option.some.inj (show some ((GTransit.mk a1 s1), 0) = some (r0, r1) from hm)
     obtain ⟨he0, hq0⟩ := Prod.mk.inj hq; clear hq; subst he0
     subst hq0
     exact ends2 Try.results6 ⟨_, rfl, run_loadVar_agg ag31 rfl (H.cell 0 rfl)⟩ rfl ⟨_, rfl, H.base, ⟨_, rfl, H.ownR 3 rfl⟩⟩

theorem c_transit_timed_c1 {w0 : World} (a0 : Int) {r0 : Bool} (hm : transit_timed_c1 a0 = some r0) :
  Calls Try.prog 87 #[(.int .i64 a0)] w0 (Ret w0 fun _ v => v = (.bool r0)) := by
 unfold transit_timed_c1 at hm
 refine calls_of_W Try.func87 rfl Try.ntmps87 (Nat.le_of_ble_eq_true rfl) ?_
 have H := Inv.start (w := w0)
 refine W.seq ?_
 refine W.region ?_
 refine O.assign (v := (.bool false)) rfl rfl rfl ?_
 refine WL.nil ?_
 refine W.seq ?_
 refine W.region ?_
 refine O.move (v := (.int .i64 a0)) rfl rfl rfl ?_
 obtain ⟨t1, hy1, hm⟩ := bind_some hm
 refine O.call Try.call17 rfl rfl rfl (c_transit_within _ _ _ hy1) ?_
 rintro _ w1 hb1 rfl
 have H := H.ext hb1
 refine O.not rfl rfl rfl ?_
 refine O.assign (v := (.bool (!t1))) rfl rfl rfl ?_
 refine WL.nil ?_
 refine W.ret ?_
 have hq : (!t1) = r0 := Option.some.inj (show some (!t1) = some r0 from hm)
 subst hq
 exact ends1 Try.results87 rfl ⟨_, rfl, H.base, rfl⟩

theorem c_transit_timed {w0 : World} (va0 : Value) (a0 : (List Int)) (ha0 : SliceR w0 va0 a0) {r0 : Bool} (hm : transit_timed a0 = some r0) :
  Calls Try.prog 73 #[va0] w0 (Ret w0 fun _ v => v = (.bool r0)) := by
 unfold transit_timed at hm
 refine calls_of_W Try.func73 rfl Try.ntmps73 (Nat.le_of_ble_eq_true rfl) ?_
 have H := Inv.start (w := w0)
 refine W.seq ?_
 refine W.region ?_
 refine O.assign (v := (.bool false)) rfl rfl rfl ?_
 refine WL.nil ?_
 refine W.seq ?_
 refine W.region ?_
 refine O.move (v := va0) rfl rfl rfl ?_
 obtain ⟨t1, hy1, hm⟩ := bind_some hm
 refine O.call Try.call62 rfl rfl rfl (c_slices_ContainsFunc_int _ _ (H.arg ha0) _ (fun x0 => transit_timed_c1 x0) (fun w hw x0 _ hy => callsV_mk Try.call87 (c_transit_timed_c1 x0 hy)) hy1) ?_
 rintro _ w1 hb1 rfl
 have H := H.ext hb1
 refine O.not rfl rfl rfl ?_
 refine O.assign (v := (.bool (!t1))) rfl rfl rfl ?_
 refine WL.nil ?_
 refine W.ret ?_
 have hq : (!t1) = r0 := Option.some.inj (show some (!t1) = some r0 from hm)
 subst hq
 exact ends1 Try.results73 rfl ⟨_, rfl, H.base, rfl⟩

theorem c_transit_Fits {w0 : World} (va0_0 : Value) (a0 : GTube) (ha0_0 : SliceR w0 va0_0 a0.Wires) (va1_0 : Value) (a1 : GTransit) (ha1_0 : SliceR w0 va1_0 a1.Wires) {r0 : Bool} (hm : transit_Fits a0 a1 = some r0) :
  Calls Try.prog 53 #[(.agg #[va0_0, (.int .i64 a0.Error)]), (.agg #[(.string a1.Star.Name), (.int .i64 a1.Star.Ascension), (.int .i64 a1.Star.Shift), (.int .i64 a1.Star.Slow), va1_0])] w0 (Ret w0 fun _ v => v = (.bool r0)) := by
 unfold transit_Fits at hm
 refine calls_of_W Try.func53 rfl Try.ntmps53 (Nat.le_of_ble_eq_true rfl) ?_
 have H := Inv.start (w := w0)
 refine W.seq ?_
 refine W.region ?_
 refine O.box [va0_0, (.int .i64 a0.Error)] H rfl rfl rfl rfl ?_
 intro b1 w1 H hb1
 refine O.box [(.string a1.Star.Name), (.int .i64 a1.Star.Ascension), (.int .i64 a1.Star.Shift), (.int .i64 a1.Star.Slow), va1_0] H rfl rfl rfl rfl ?_
 intro b2 w2 H hb2
 refine O.assign (v := (.bool false)) rfl rfl rfl ?_
 refine WL.nil ?_
 refine W.seq ?_
 refine W.region ?_
 refine O.loadA [va0_0, (.int .i64 a0.Error)] ag24 rfl rfl rfl rfl (H.cell 0 rfl) ?_
 obtain ⟨t1, hy1, hm⟩ := bind_some hm
 refine O.call Try.call15 rfl rfl rfl (c_transit_ValidTube _ (GTube.mk a0.Wires a0.Error) (H.arg ha0_0) hy1) ?_
 rintro _ w3 hb3 rfl
 have H := H.ext hb3
 refine O.move (v := (.bool t1)) rfl rfl rfl ?_
 obtain ⟨b3, hm1, hm⟩ := bind_some hm
 refine WL.cut 4 (fun f w => f 2 = (.pointer (some ⟨b1, 0, none⟩)) ∧ f 3 = (.pointer (some ⟨b2, 0, none⟩)) ∧ f 11 = .bool b3 ∧ Inv w0 w [boxI b1 24 [va0_0, (.int .i64 a0.Error)], boxI b2 31 [(.string a1.Star.Name), (.int .i64 a1.Star.Ascension), (.int .i64 a1.Star.Shift), (.int .i64 a1.Star.Slow), va1_0]]) ?_ ?_
 ·
  rcases ite_some hm1 with ⟨hc1, hm1⟩ | ⟨hc1, hm1⟩
  ·
   refine WL.reset (i := 7) (v := .bool true) (congrArg Value.bool hc1) ?_
   refine O.fieldAddr fd31_0 rfl rfl rfl ?_
   refine O.loadA (q := ⟨b2, 0, none⟩) [(.string a1.Star.Name), (.int .i64 a1.Star.Ascension), (.int .i64 a1.Star.Shift), (.int .i64 a1.Star.Slow)] ag29 rfl rfl rfl rfl (cell_part (o := 0) (k := 4) (H.cell 1 rfl) rfl) ?_
   obtain ⟨t2, hy2, hm1⟩ := bind_some hm1
   refine O.call Try.call16 rfl rfl rfl (c_transit_ValidStar a1.Star hy2) ?_
   rintro _ w4 hb4 rfl
   have H := H.ext hb4
   refine O.pick_true (v := (.bool t2)) rfl rfl rfl rfl ?_
   refine WL.nil ?_
   have hq : t2 = b3 := Option.some.inj (show some t2 = some b3 from hm1)
   subst hq
   exact ⟨rfl, rfl, rfl, H⟩
  ·
   refine WL.reset (i := 7) (v := .bool false) (congrArg Value.bool hc1) ?_
   refine O.skip rfl rfl ?_
   refine O.skip rfl rfl ?_
   refine O.skip rfl rfl ?_
   refine O.pick_false (v := (.bool false)) rfl rfl rfl rfl ?_
   refine WL.nil ?_
   have hq : false = b3 := Option.some.inj (show some false = some b3 from hm1)
   subst hq
   exact ⟨rfl, rfl, rfl, H⟩
 ·
  rintro f w ⟨hf2, hf3, hf11, H⟩
  obtain ⟨u1, rfl⟩ := up3 hf2 hf3 hf11
  refine O.move (v := (.bool b3)) rfl rfl rfl ?_
  refine WL.cut 8 (fun f w => f 3 = (.pointer (some ⟨b2, 0, none⟩)) ∧ f 20 = .bool (b3 && (((a1.Wires.length : Nat) : Int) == ((a0.Wires.length : Nat) : Int))) ∧ Inv w0 w [boxI b1 24 [va0_0, (.int .i64 a0.Error)], boxI b2 31 [(.string a1.Star.Name), (.int .i64 a1.Star.Ascension), (.int .i64 a1.Star.Shift), (.int .i64 a1.Star.Slow), va1_0]]) ?_ ?_
  ·
   rcases bool_ft b3 with hc2 | hc2
   ·
    refine WL.reset (i := 12) (v := .bool false) (congrArg Value.bool hc2) ?_
    refine O.skip rfl rfl ?_
    refine O.skip rfl rfl ?_
    refine O.skip rfl rfl ?_
    refine O.skip rfl rfl ?_
    refine O.skip rfl rfl ?_
    refine O.skip rfl rfl ?_
    refine O.skip rfl rfl ?_
    refine O.pick_false (v := (.bool false)) rfl rfl rfl rfl ?_
    exact WL.nil ⟨rfl, congrArg Value.bool (and_f hc2), H⟩
   ·
    refine WL.reset (i := 12) (v := .bool true) (congrArg Value.bool hc2) ?_
    refine O.fieldAddr fd31_1 rfl rfl rfl ?_
    refine O.load sc22 rfl rfl rfl (H.cell 1 rfl 4 _ rfl) ?_
    refine O.lenS Try.underlying22 (H.arg ha1_0) rfl rfl rfl ?_
    refine O.fieldAddr fd24_0 rfl rfl rfl ?_
    refine O.load sc22 rfl rfl rfl (H.cell 0 rfl 0 _ rfl) ?_
    refine O.lenS Try.underlying22 (H.arg ha0_0) rfl rfl rfl ?_
    refine O.eql rfl rfl rfl rfl ?_
    refine O.pick_true (v := (.bool (((a1.Wires.length : Nat) : Int) == ((a0.Wires.length : Nat) : Int)))) rfl rfl rfl rfl ?_
    exact WL.nil ⟨rfl, congrArg Value.bool (and_t hc2), H⟩
  ·
   rintro f w ⟨hf3, hf20, H⟩
   obtain ⟨u2, rfl⟩ := up2 hf3 hf20
   refine O.move (v := (.bool (b3 && (((a1.Wires.length : Nat) : Int) == ((a0.Wires.length : Nat) : Int))))) rfl rfl rfl ?_
   obtain ⟨b4, hm2, hm⟩ := bind_some hm
   refine WL.cut 4 (fun f w => f 25 = .bool b4 ∧ Inv w0 w [boxI b1 24 [va0_0, (.int .i64 a0.Error)], boxI b2 31 [(.string a1.Star.Name), (.int .i64 a1.Star.Ascension), (.int .i64 a1.Star.Shift), (.int .i64 a1.Star.Slow), va1_0]]) ?_ ?_
   ·
    rcases ite_some hm2 with ⟨hc3, hm2⟩ | ⟨hc3, hm2⟩
    ·
     refine WL.reset (i := 21) (v := .bool true) (congrArg Value.bool hc3) ?_
     refine O.fieldAddr fd31_1 rfl rfl rfl ?_
     refine O.load sc22 rfl rfl rfl (H.cell 1 rfl 4 _ rfl) ?_
     obtain ⟨t3, hy3, hm2⟩ := bind_some hm2
     refine O.call Try.call73 rfl rfl rfl (c_transit_timed _ _ (H.arg ha1_0) hy3) ?_
     rintro _ w5 hb5 rfl
     have H := H.ext hb5
     refine O.pick_true (v := (.bool t3)) rfl rfl rfl rfl ?_
     refine WL.nil ?_
     have hq : t3 = b4 := Option.some.inj (show some t3 = some b4 from hm2)
     subst hq
     exact ⟨rfl, H⟩
    ·
     refine WL.reset (i := 21) (v := .bool false) (congrArg Value.bool hc3) ?_
     refine O.skip rfl rfl ?_
     refine O.skip rfl rfl ?_
     refine O.skip rfl rfl ?_
     refine O.pick_false (v := (.bool false)) rfl rfl rfl rfl ?_
     refine WL.nil ?_
     have hq : false = b4 := Option.some.inj (show some false = some b4 from hm2)
     subst hq
     exact ⟨rfl, H⟩
   ·
    rintro f w ⟨hf25, H⟩
    obtain ⟨u3, rfl⟩ := up1 hf25
    refine O.assign (v := (.bool b4)) rfl rfl rfl ?_
    refine WL.nil ?_
    refine W.ret ?_
    have hq : b4 = r0 := Option.some.inj (show some b4 = some r0 from hm)
    subst hq
    exact ends1 Try.results53 rfl ⟨_, rfl, H.base, rfl⟩

theorem c_transit_strips_c1 {w0 : World} (va0_0 : Value) (a0 : GTransit) (ha0_0 : SliceR w0 va0_0 a0.Wires) (pc0 : Addr) (vc0_0 : Value) (c0 : GTube) (hc0 : ∀ j c, ([vc0_0, (.int .i64 c0.Error)] : List Value)[j]? = some c → w0.cell? (pc0.add j) = some c) (rc0_0 : SliceR w0 vc0_0 c0.Wires) {r0 : Bool} (hm : transit_strips_c1 a0 c0 = some r0) :
  Calls Try.prog 52 #[(.agg #[(.string a0.Star.Name), (.int .i64 a0.Star.Ascension), (.int .i64 a0.Star.Shift), (.int .i64 a0.Star.Slow), va0_0]), (.pointer (some pc0))] w0 (Ret w0 fun _ v => v = (.bool r0)) := by
 unfold transit_strips_c1 at hm
 refine calls_of_W Try.func52 rfl Try.ntmps52 (Nat.le_of_ble_eq_true rfl) ?_
 have H := Inv.start (w := w0)
 refine W.seq ?_
 refine W.region ?_
 refine O.box [(.string a0.Star.Name), (.int .i64 a0.Star.Ascension), (.int .i64 a0.Star.Shift), (.int .i64 a0.Star.Slow), va0_0] H rfl rfl rfl rfl ?_
 intro b1 w1 H hb1
 refine O.assign (v := (.bool false)) rfl rfl rfl ?_
 refine WL.nil ?_
 refine W.seq ?_
 refine W.region ?_
 refine O.loadA [vc0_0, (.int .i64 c0.Error)] ag24 rfl rfl rfl rfl (cells_mono hc0 H.base) ?_
 refine O.loadA [(.string a0.Star.Name), (.int .i64 a0.Star.Ascension), (.int .i64 a0.Star.Shift), (.int .i64 a0.Star.Slow), va0_0] ag31 rfl rfl rfl rfl (H.cell 0 rfl) ?_
 obtain ⟨t1, hy1, hm⟩ := bind_some hm
 refine O.call Try.call53 rfl rfl rfl (c_transit_Fits _ (GTube.mk c0.Wires c0.Error) (H.arg rc0_0) _ (GTransit.mk a0.Star a0.Wires) (H.arg ha0_0) hy1) ?_
 rintro _ w2 hb2 rfl
 have H := H.ext hb2
 refine O.not rfl rfl rfl ?_
 refine O.assign (v := (.bool (!t1))) rfl rfl rfl ?_
 refine WL.nil ?_
 refine W.ret ?_
 have hq : (!t1) = r0 := Option.some.inj (show some (!t1) = some r0 from hm)
 subst hq
 exact ends1 Try.results52 rfl ⟨_, rfl, H.base, rfl⟩

theorem c_slices_IndexFunc_Transit {w0 : World} (va0 : Value) (a0 : (List GTransit)) (ha0 : SliceR w0 va0 a0) (va1 : Value) (a1 : GTransit → Option (Bool)) (ha1 : ∀ (w : World), Below w0.heap.size w0 w → ∀ (vx0_0 : Value) (x0 : GTransit) (hx0_0 : SliceR w vx0_0 x0.Wires) (y0 : Bool), a1 x0 = some y0 → CallsV Try.prog va1 #[(.agg #[(.string x0.Star.Name), (.int .i64 x0.Star.Ascension), (.int .i64 x0.Star.Shift), (.int .i64 x0.Star.Slow), vx0_0])] w (Ret w fun _ v => v = (.bool y0))) {r0 : Int} (hm : slices_IndexFunc_Transit a0 a1 = some r0) :
  Calls Try.prog 72 #[va0, va1] w0 (Ret w0 fun _ v => v = (.int .i64 r0)) := by
 unfold slices_IndexFunc_Transit at hm
 refine calls_of_W Try.func72 rfl Try.ntmps72 (Nat.le_of_ble_eq_true rfl) ?_
 have H := Inv.start (w := w0)
 refine W.seq ?_
 refine W.region ?_
 refine O.assign (v := (.int .i64 0)) rfl rfl rfl ?_
 refine WL.nil ?_
 refine W.seq ?_
 refine W.seq ?_
 refine W.region ?_
 refine O.move (v := va0) rfl rfl rfl ?_
 refine O.lenS Try.underlying27 (H.arg ha0) rfl rfl rfl ?_
 refine O.move (v := (.int .i64 0)) rfl rfl rfl ?_
 refine WL.nil ?_
 obtain ⟨o1, hm1, hm⟩ := bind_some hm
 refine W.via (fun f w => o1 = .next () ∧ Inv w0 w []) ?_ ?_
 ·
  refine W.block ?_
  have hbdik1 := (H.arg ha0).len_le
  refine W.rangeN (i := 0) hm1 (fun rem ik1 s f w => () = s ∧ (ik1 : Int) + rem = max 0 ((a0.length : Nat) : Int) ∧ f 8 = .int .i64 (ik1 : Int) ∧ f 7 = (.int .i64 ((a0.length : Nat) : Int)) ∧ f 0 = va0 ∧ f 1 = va1 ∧ Inv w0 w []) ?_ ?_ ?_
  ·
   exact ⟨rfl, rangeN_start, rfl, rfl, rfl, rfl, H⟩
  ·
   rintro k ik1 _ st f w ⟨rfl, hdropk1, hf8, hf7, hf0, hf1, H⟩ hm2
   have hltk1 := rangeN_lt hdropk1
   obtain ⟨u1, rfl⟩ := up4 hf8 hf7 hf0 hf1
   have hinck1 := addI_lt hltk1 hbdik1
   refine W.seq ?_
   refine W.region ?_
   refine O.lss rfl rfl rfl rfl ?_
   refine WL.nil ?_
   refine W.seq ?_
   refine W.cond_true (congrArg Value.bool (decide_eq_true hltk1)) ?_
   refine W.skip ?_
   refine W.seq ?_
   refine W.block ?_
   refine W.seq ?_
   refine W.region ?_
   refine O.move (v := (.int .i64 (ik1 : Int))) rfl rfl rfl ?_
   refine O.assign (v := (.int .i64 (ik1 : Int))) rfl rfl rfl ?_
   refine WL.nil ?_
   refine W.seq ?_
   refine W.region ?_
   refine O.move (v := va1) rfl rfl rfl ?_
   refine O.move (v := va0) rfl rfl rfl ?_
   refine O.move (v := (.int .i64 (ik1 : Int))) rfl rfl rfl ?_
   obtain ⟨x1, hx1, hm2⟩ := bind_some hm2
   obtain ⟨p1, hp1, hrp1⟩ := fix_indexAddr Try.underlying27 sz31 ha0 hx1
   obtain ⟨v1, hs1, hc1⟩ := GTransit_open hp1
   refine hrp1 rfl rfl rfl rfl ?_
   refine O.loadA [(.string x1.Star.Name), (.int .i64 x1.Star.Ascension), (.int .i64 x1.Star.Shift), (.int .i64 x1.Star.Slow), v1] ag31 rfl rfl rfl rfl ((cells_mono hc1 H.base)) ?_
   obtain ⟨t1, hy1, hm2⟩ := bind_some hm2
   refine O.callV rfl rfl rfl rfl (ha1 _ H.base _ (GTransit.mk x1.Star x1.Wires) (H.arg hs1) _ hy1) ?_
   rintro _ w1 hb1 rfl
   have H := H.ext hb1
   refine WL.nil ?_
   rcases ite_some hm2 with ⟨hc2, hm2⟩ | ⟨hc2, hm2⟩
   ·
    refine W.cond_true (congrArg Value.bool hc2) ?_
    refine W.seq ?_
    refine W.region ?_
    refine O.move (v := (.int .i64 (ik1 : Int))) rfl rfl rfl ?_
    refine O.assign (v := (.int .i64 (ik1 : Int))) rfl rfl rfl ?_
    refine WL.nil ?_
    refine W.ret ?_
    obtain rfl := Option.some.inj hm2
    refine ⟨_, rfl, ?_⟩
    rintro rfl
    have hq : (ik1 : Int) = r0 := Option.some.inj (show some (ik1 : Int) = some r0 from hm)
    subst hq
    exact ends1 Try.results72 rfl ⟨_, rfl, H.base, rfl⟩
   ·
    refine W.cond_false (congrArg Value.bool hc2) ?_
    refine W.skip ?_
    refine W.region ?_
    refine O.add rfl rfl rfl rfl hinck1 ?_
    refine O.move (v := .int .i64 ((ik1 : Int) + 1)) rfl rfl rfl ?_
    refine WL.nil ?_
    obtain rfl := Option.some.inj hm2
    exact ⟨_, rfl, rfl, rangeN_next hdropk1, rfl, rfl, rfl, rfl, H⟩
  ·
   rintro ik1 _ f w ⟨rfl, hdropk1, hf8, hf7, hf0, hf1, H⟩ hfin
   have hltk1 := rangeN_end hdropk1
   obtain ⟨u2, rfl⟩ := up4 hf8 hf7 hf0 hf1
   refine W.seq ?_
   refine W.region ?_
   refine O.lss rfl rfl rfl rfl ?_
   refine WL.nil ?_
   refine W.seq ?_
   refine W.cond_false (congrArg Value.bool (decide_eq_false hltk1)) ?_
   refine W.exit ?_
   obtain rfl : Ctl.next () = o1 := hfin
   refine xT rfl ?_
   exact ⟨rfl, H⟩
 ·
  rintro f w ⟨rfl, H⟩
  refine W.seq ?_
  refine W.region ?_
  refine O.assign (v := (.int .i64 (-1))) rfl rfl rfl ?_
  refine WL.nil ?_
  refine W.ret ?_
  have hq : (-1) = r0 := Option.some.inj (show some (-1) = some r0 from hm)
  subst hq
  exact ends1 Try.results72 rfl ⟨_, rfl, H.base, rfl⟩

theorem c_slices_ContainsFunc_Transit {w0 : World} (va0 : Value) (a0 : (List GTransit)) (ha0 : SliceR w0 va0 a0) (va1 : Value) (a1 : GTransit → Option (Bool)) (ha1 : ∀ (w : World), Below w0.heap.size w0 w → ∀ (vx0_0 : Value) (x0 : GTransit) (hx0_0 : SliceR w vx0_0 x0.Wires) (y0 : Bool), a1 x0 = some y0 → CallsV Try.prog va1 #[(.agg #[(.string x0.Star.Name), (.int .i64 x0.Star.Ascension), (.int .i64 x0.Star.Shift), (.int .i64 x0.Star.Slow), vx0_0])] w (Ret w fun _ v => v = (.bool y0))) {r0 : Bool} (hm : slices_ContainsFunc_Transit a0 a1 = some r0) :
  Calls Try.prog 51 #[va0, va1] w0 (Ret w0 fun _ v => v = (.bool r0)) := by
 unfold slices_ContainsFunc_Transit at hm
 refine calls_of_W Try.func51 rfl Try.ntmps51 (Nat.le_of_ble_eq_true rfl) ?_
 have H := Inv.start (w := w0)
 refine W.seq ?_
 refine W.region ?_
 refine O.assign (v := (.bool false)) rfl rfl rfl ?_
 refine WL.nil ?_
 refine W.seq ?_
 refine W.region ?_
 refine O.move (v := va0) rfl rfl rfl ?_
 refine O.move (v := va1) rfl rfl rfl ?_
 obtain ⟨t1, hy1, hm⟩ := bind_some hm
 refine O.call Try.call72 rfl rfl rfl (c_slices_IndexFunc_Transit _ _ (H.arg ha0) va1 a1 (fun w hw => ha1 w (H.base.trans (hw.mono H.base.size))) hy1) ?_
 rintro _ w1 hb1 rfl
 have H := H.ext hb1
 refine O.geq rfl rfl rfl rfl ?_
 refine O.assign (v := (.bool (decide (0 ≤ t1)))) rfl rfl rfl ?_
 refine WL.nil ?_
 refine W.ret ?_
 have hq : (decide (0 ≤ t1)) = r0 := Option.some.inj (show some (decide (0 ≤ t1)) = some r0 from hm)
 subst hq
 exact ends1 Try.results51 rfl ⟨_, rfl, H.base, rfl⟩

set_option maxRecDepth 20000 in
theorem c_transit_crossing {w0 : World} (va0_0 : Value) (a0 : GTube) (ha0_0 : SliceR w0 va0_0 a0.Wires) (va1_0 : Value) (a1 : GTransit) (ha1_0 : SliceR w0 va1_0 a1.Wires) {r0 : Int} {r1 : Bool} (hm : transit_crossing a0 a1 = some (r0, r1)) :
  Calls Try.prog 88 #[(.agg #[va0_0, (.int .i64 a0.Error)]), (.agg #[(.string a1.Star.Name), (.int .i64 a1.Star.Ascension), (.int .i64 a1.Star.Shift), (.int .i64 a1.Star.Slow), va1_0])] w0 (Ret w0 fun _ v => v = .tuple #[(.int .i64 r0), (.bool r1)]) := by
 unfold transit_crossing at hm
 refine calls_of_W Try.func88 rfl Try.ntmps88 (Nat.le_of_ble_eq_true rfl) ?_
 have H := Inv.start (w := w0)
 refine W.seq ?_
 refine W.region ?_
 refine O.box [va0_0, (.int .i64 a0.Error)] H rfl rfl rfl rfl ?_
 intro b1 w1 H hb1
 refine O.box [(.string a1.Star.Name), (.int .i64 a1.Star.Ascension), (.int .i64 a1.Star.Shift), (.int .i64 a1.Star.Slow), va1_0] H rfl rfl rfl rfl ?_
 intro b2 w2 H hb2
 refine O.assign (v := (.int .i64 0)) rfl rfl rfl ?_
 refine O.assign (v := (.bool false)) rfl rfl rfl ?_
 refine WL.nil ?_
 refine W.seq ?_
 refine W.region ?_
 refine O.assign (v := (.int .i64 0)) rfl rfl rfl ?_
 refine O.assign (v := (.int .i64 0)) rfl rfl rfl ?_
 refine WL.nil ?_
 refine W.seq ?_
 refine W.seq ?_
 refine W.region ?_
 refine O.fieldAddr fd31_1 rfl rfl rfl ?_
 refine O.load sc22 rfl rfl rfl (H.cell 1 rfl 4 _ rfl) ?_
 refine O.lenS Try.underlying22 (H.arg ha1_0) rfl rfl rfl ?_
 refine O.move (v := (.int .i64 0)) rfl rfl rfl ?_
 refine WL.nil ?_
 obtain ⟨⟨s1, s2⟩, hm1, hm⟩ := bind_some hm
 refine W.via (fun f w => f 6 = (.int .i64 s1) ∧ f 7 = (.int .i64 s2) ∧ Inv w0 w []) ?_ ?_
 ·
  refine W.block ?_
  have hbdik1 := (H.arg ha1_0).len_le
  refine W.rangeN (i := 0) hm1 (fun rem ik1 s f w => ∃ z3 : Int, ∃ z4 : Int, (z3, z4) = s ∧ (ik1 : Int) + rem = max 0 ((a1.Wires.length : Nat) : Int) ∧ f 13 = .int .i64 (ik1 : Int) ∧ f 12 = (.int .i64 ((a1.Wires.length : Nat) : Int)) ∧ f 2 = (.pointer (some ⟨b1, 0, none⟩)) ∧ f 3 = (.pointer (some ⟨b2, 0, none⟩)) ∧ f 6 = (.int .i64 z3) ∧ f 7 = (.int .i64 z4) ∧ f 11 = va1_0 ∧ Inv w0 w [boxI b1 24 [va0_0, (.int .i64 a0.Error)], boxI b2 31 [(.string a1.Star.Name), (.int .i64 a1.Star.Ascension), (.int .i64 a1.Star.Shift), (.int .i64 a1.Star.Slow), va1_0]]) ?_ ?_ ?_
  ·
   exact ⟨_, _, rfl, rangeN_start, rfl, rfl, rfl, rfl, rfl, rfl, rfl, H⟩
  ·
   rintro k ik1 _ st f w ⟨z3, z4, rfl, hdropk1, hf13, hf12, hf2, hf3, hf6, hf7, hf11, H⟩ hm2
   have hltk1 := rangeN_lt hdropk1
   obtain ⟨u1, rfl⟩ := up7 hf13 hf12 hf2 hf3 hf6 hf7 hf11
   have hinck1 := addI_lt hltk1 hbdik1
   refine W.seq ?_
   refine W.region ?_
   refine O.lss rfl rfl rfl rfl ?_
   refine WL.nil ?_
   refine W.seq ?_
   refine W.cond_true (congrArg Value.bool (decide_eq_true hltk1)) ?_
   refine W.skip ?_
   refine W.seq ?_
   obtain ⟨⟨s3, s4⟩, hm3, hm2⟩ := bind_some hm2
   refine W.via (fun f w => f 2 = (.pointer (some ⟨b1, 0, none⟩)) ∧ f 3 = (.pointer (some ⟨b2, 0, none⟩)) ∧ f 6 = (.int .i64 s3) ∧ f 7 = (.int .i64 s4) ∧ f 11 = va1_0 ∧ f 12 = (.int .i64 ((a1.Wires.length : Nat) : Int)) ∧ f 13 = (.int .i64 (ik1 : Int)) ∧ Inv w0 w [boxI b1 24 [va0_0, (.int .i64 a0.Error)], boxI b2 31 [(.string a1.Star.Name), (.int .i64 a1.Star.Ascension), (.int .i64 a1.Star.Shift), (.int .i64 a1.Star.Slow), va1_0]]) ?_ ?_
   ·
    refine W.block ?_
    refine W.seq ?_
    refine W.region ?_
    refine O.move (v := (.int .i64 (ik1 : Int))) rfl rfl rfl ?_
    obtain ⟨x1, hx1, hm3⟩ := bind_some hm3
    obtain ⟨p1, hp1, hrp1⟩ := fix_indexAddr Try.underlying22 sz3 ha1_0 hx1
    refine hrp1 rfl rfl rfl rfl ?_
    refine O.load sc3 rfl rfl rfl ((hp1.mono H.base).flat 0 _ rfl) ?_
    refine O.assign (v := (.int .i64 (ik1 : Int))) rfl rfl rfl ?_
    refine O.assign (v := (.int .i64 x1)) rfl rfl rfl ?_
    refine WL.nil ?_
    refine W.seq ?_
    refine W.region ?_
    refine O.move (v := (.int .i64 x1)) rfl rfl rfl ?_
    refine O.geq rfl rfl rfl rfl ?_
    refine WL.nil ?_
    obtain ⟨⟨s5, s6⟩, hm4, hm3⟩ := bind_some hm3
    refine W.via (fun f w => f 2 = (.pointer (some ⟨b1, 0, none⟩)) ∧ f 3 = (.pointer (some ⟨b2, 0, none⟩)) ∧ f 6 = (.int .i64 s5) ∧ f 7 = (.int .i64 s6) ∧ f 11 = va1_0 ∧ f 12 = (.int .i64 ((a1.Wires.length : Nat) : Int)) ∧ f 13 = (.int .i64 (ik1 : Int)) ∧ Inv w0 w [boxI b1 24 [va0_0, (.int .i64 a0.Error)], boxI b2 31 [(.string a1.Star.Name), (.int .i64 a1.Star.Ascension), (.int .i64 a1.Star.Shift), (.int .i64 a1.Star.Slow), va1_0]]) ?_ ?_
    ·
     rcases ite_some hm4 with ⟨hc1, hm4⟩ | ⟨hc1, hm4⟩
     ·
      refine W.cond_true (congrArg Value.bool hc1) ?_
      obtain ⟨t1, ht1, hm4⟩ := bind_some hm4
      obtain ⟨t2, ht2, hm4⟩ := bind_some hm4
      obtain ⟨x2, hx2, hm4⟩ := bind_some hm4
      obtain ⟨p2, hp2, hrp2⟩ := fix_indexAddr Try.underlying22 sz3 (H.arg ha0_0) hx2
      obtain ⟨t3, ht3, hm4⟩ := bind_some hm4
      obtain ⟨t4, ht4, hm4⟩ := bind_some hm4
      obtain ⟨t5, ht5, hm4⟩ := bind_some hm4
      refine W.drawN 17 (fun f => f 2 = (.pointer (some ⟨b1, 0, none⟩)) ∧ f 3 = (.pointer (some ⟨b2, 0, none⟩)) ∧ f 6 = (.int .i64 t4) ∧ f 11 = va1_0 ∧ f 12 = (.int .i64 ((a1.Wires.length : Nat) : Int)) ∧ f 13 = (.int .i64 (ik1 : Int)) ∧ f 35 = (.int .i64 t5)) fol (by kernel_rfl) ?_ ?_
      ·
       refine PL.of (fun _ w8 _ hx => O.move (v := (.int .i64 z3)) rfl rfl rfl (WL.nil ⟨rfl, hx⟩)) ?_
       refine PL.of (fun _ w8 _ hx => O.move (v := (.int .i64 x1)) rfl rfl rfl (WL.nil ⟨rfl, hx⟩)) ?_
       refine PL.of (fun _ w8 _ hx => O.mul rfl rfl rfl rfl ht1 (WL.nil ⟨rfl, hx⟩)) ?_
       refine PL.of (fun _ w8 _ hx => O.add rfl rfl rfl rfl ht2 (WL.nil ⟨rfl, hx⟩)) ?_
       refine PL.of (fun _ w8 _ hx => O.fieldAddr fd24_0 rfl rfl rfl (WL.nil ⟨rfl, hx⟩)) ?_
       refine PL.of (fun _ w8 _ hx => by have H := H.ext hx; exact O.load sc22 rfl rfl rfl (H.cell 0 rfl 0 _ rfl) (WL.nil ⟨rfl, hx⟩)) ?_
       refine PL.of (fun _ w8 _ hx => O.move (v := (.int .i64 (ik1 : Int))) rfl rfl rfl (WL.nil ⟨rfl, hx⟩)) ?_
       refine PL.of (fun _ w8 _ hx => hrp2 rfl rfl rfl rfl (WL.nil ⟨rfl, hx⟩)) ?_
       refine PL.of (fun _ w8 _ hx => by have hp2 := hp2.mono hx; exact O.load sc3 rfl rfl rfl (hp2.flat 0 _ rfl) (WL.nil ⟨rfl, hx⟩)) ?_
       refine PL.of (fun _ w8 _ hx => O.fieldAddr fd31_0 rfl rfl rfl (WL.nil ⟨rfl, hx⟩)) ?_
       refine PL.of (fun _ w8 _ hx => O.fieldAddr fd29_3 rfl rfl rfl (WL.nil ⟨rfl, hx⟩)) ?_
       refine PL.of (fun _ w8 _ hx => by have H := H.ext hx; exact O.load sc3 rfl rfl rfl (H.cell 1 rfl 3 _ rfl) (WL.nil ⟨rfl, hx⟩)) ?_
       refine PL.of (fun _ w8 _ hx => O.mul rfl rfl rfl rfl ht3 (WL.nil ⟨rfl, hx⟩)) ?_
       refine PL.of (fun _ w8 _ hx => O.sub rfl rfl rfl rfl ht4 (WL.nil ⟨rfl, hx⟩)) ?_
       refine PL.of (fun _ w8 _ hx => O.move (v := (.int .i64 z4)) rfl rfl rfl (WL.nil ⟨rfl, hx⟩)) ?_
       refine PL.of (fun _ w8 _ hx => O.add rfl rfl rfl rfl ht5 (WL.nil ⟨rfl, hx⟩)) ?_
       refine PL.of (fun _ w8 _ hx => O.assign (v := (.int .i64 t4)) rfl rfl rfl (WL.nil ⟨rfl, hx⟩)) ?_
       refine PL.nil ?_
       exact ⟨rfl, rfl, rfl, rfl, rfl, rfl, rfl⟩
      ·
       rintro f w ⟨hf2, hf3, hf6, hf11, hf12, hf13, hf35⟩ hmd hx
       have H := H.ext hx
       have hp2 := hp2.mono hx
       obtain ⟨u2, rfl⟩ := up7 hf2 hf3 hf6 hf11 hf12 hf13 hf35
       refine O.assign (v := (.int .i64 t5)) rfl rfl rfl ?_
       refine WL.nil ?_
       have hq : (t4, t5) = (s5, s6) := Option.some.inj (show some (t4, t5) = some (s5, s6) from hm4)
       obtain ⟨he0, hq0⟩ := Prod.mk.inj hq; clear hq; subst he0
       subst hq0
       exact ⟨rfl, rfl, rfl, rfl, rfl, rfl, rfl, H⟩
     ·
      refine W.cond_false (congrArg Value.bool hc1) ?_
      refine W.skip ?_
      have hq : (z3, z4) = (s5, s6) := Option.some.inj (show some (z3, z4) = some (s5, s6) from hm4)
      obtain ⟨he0, hq0⟩ := Prod.mk.inj hq; clear hq; subst he0
      subst hq0
      exact ⟨rfl, rfl, rfl, rfl, rfl, rfl, rfl, H⟩
    ·
     rintro f w ⟨hf2, hf3, hf6, hf7, hf11, hf12, hf13, H⟩
     obtain ⟨u3, rfl⟩ := up7 hf2 hf3 hf6 hf7 hf11 hf12 hf13
     have hq : (s5, s6) = (s3, s4) := Option.some.inj (show some (s5, s6) = some (s3, s4) from hm3)
     obtain ⟨he0, hq0⟩ := Prod.mk.inj hq; clear hq; subst he0
     subst hq0
     exact ⟨rfl, rfl, rfl, rfl, rfl, rfl, rfl, H⟩
   ·
    rintro f w ⟨hf2, hf3, hf6, hf7, hf11, hf12, hf13, H⟩
    obtain ⟨u4, rfl⟩ := up7 hf2 hf3 hf6 hf7 hf11 hf12 hf13
    refine W.region ?_
    refine O.add rfl rfl rfl rfl hinck1 ?_
    refine O.move (v := .int .i64 ((ik1 : Int) + 1)) rfl rfl rfl ?_
    refine WL.nil ?_
    obtain rfl := Option.some.inj hm2
    exact ⟨_, rfl, _, _, rfl, rangeN_next hdropk1, rfl, rfl, rfl, rfl, rfl, rfl, rfl, H⟩
  ·
   rintro ik1 _ f w ⟨z3, z4, rfl, hdropk1, hf13, hf12, hf2, hf3, hf6, hf7, hf11, H⟩ hfin
   have hltk1 := rangeN_end hdropk1
   obtain ⟨u5, rfl⟩ := up7 hf13 hf12 hf2 hf3 hf6 hf7 hf11
   refine W.seq ?_
   refine W.region ?_
   refine O.lss rfl rfl rfl rfl ?_
   refine WL.nil ?_
   refine W.seq ?_
   refine W.cond_false (congrArg Value.bool (decide_eq_false hltk1)) ?_
   refine W.exit ?_
   have hq : (z3, z4) = (s1, s2) := hfin
   obtain ⟨he0, hq0⟩ := Prod.mk.inj hq; clear hq; subst he0
   subst hq0
   have H := H.keep [] [] rfl (by decide)
   refine xT rfl ?_
   exact ⟨rfl, rfl, H⟩
 ·
  rintro f w ⟨hf6, hf7, H⟩
  obtain ⟨u6, rfl⟩ := up2 hf6 hf7
  refine W.seq ?_
  refine W.seq ?_
  refine W.region ?_
  refine O.move (v := (.int .i64 s2)) rfl rfl rfl ?_
  refine O.eql rfl rfl rfl rfl ?_
  refine WL.nil ?_
  rcases ite_some hm with ⟨hc2, hm⟩ | ⟨hc2, hm⟩
  ·
   refine W.cond_true (congrArg Value.bool hc2) ?_
   refine W.seq ?_
   refine W.region ?_
   refine O.assign (v := (.int .i64 0)) rfl rfl rfl ?_
   refine O.assign (v := (.bool false)) rfl rfl rfl ?_
   refine WL.nil ?_
   refine W.ret ?_
   have hq : (0, false) = (r0, r1) := Option.some.inj (show some (0, false) = some (r0, r1) from hm)
   obtain ⟨he0, hq0⟩ := Prod.mk.inj hq; clear hq; subst he0
   subst hq0
   exact ends2 Try.results88 rfl rfl ⟨_, rfl, H.base, rfl⟩
  ·
   refine W.cond_false (congrArg Value.bool hc2) ?_
   refine W.skip ?_
   refine W.seq ?_
   refine W.region ?_
   refine O.move (v := (.int .i64 s1)) rfl rfl rfl ?_
   refine O.move (v := (.int .i64 s2)) rfl rfl rfl ?_
   obtain ⟨t6, ht6, hm⟩ := bind_some hm
   refine O.mul rfl rfl rfl rfl ht6 ?_
   obtain ⟨t7, hy1, hm⟩ := bind_some hm
   refine O.call Try.call18 rfl rfl rfl (c_transit_down _ _ hy1) ?_
   rintro _ w3 hb3 rfl
   have H := H.ext hb3
   refine O.assign (v := (.int .i64 t7)) rfl rfl rfl ?_
   refine O.assign (v := (.bool true)) rfl rfl rfl ?_
   refine WL.nil ?_
   refine W.ret ?_
   have hq : (t7, true) = (r0, r1) := Option.some.inj (show some (t7, true) = some (r0, r1) from hm)
   obtain ⟨he0, hq0⟩ := Prod.mk.inj hq; clear hq; subst he0
   subst hq0
   exact ends2 Try.results88 rfl rfl ⟨_, rfl, H.base, rfl⟩

theorem c_transit_Crossing {w0 : World} (va0_0 : Value) (a0 : GTube) (ha0_0 : SliceR w0 va0_0 a0.Wires) (va1_0 : Value) (a1 : GTransit) (ha1_0 : SliceR w0 va1_0 a1.Wires) {r0 : Int} {r1 : Int} (hm : transit_Crossing a0 a1 = some (r0, r1)) :
  Calls Try.prog 74 #[(.agg #[va0_0, (.int .i64 a0.Error)]), (.agg #[(.string a1.Star.Name), (.int .i64 a1.Star.Ascension), (.int .i64 a1.Star.Shift), (.int .i64 a1.Star.Slow), va1_0])] w0 (Ret w0 fun _ v => v = .tuple #[(.int .i64 r0), (.int .i64 r1)]) := by
 unfold transit_Crossing at hm
 refine calls_of_W Try.func74 rfl Try.ntmps74 (Nat.le_of_ble_eq_true rfl) ?_
 have H := Inv.start (w := w0)
 refine W.seq ?_
 refine W.region ?_
 refine O.box [va0_0, (.int .i64 a0.Error)] H rfl rfl rfl rfl ?_
 intro b1 w1 H hb1
 refine O.box [(.string a1.Star.Name), (.int .i64 a1.Star.Ascension), (.int .i64 a1.Star.Shift), (.int .i64 a1.Star.Slow), va1_0] H rfl rfl rfl rfl ?_
 intro b2 w2 H hb2
 refine O.assign (v := (.int .i64 0)) rfl rfl rfl ?_
 refine O.assign (v := (.int .i64 0)) rfl rfl rfl ?_
 refine WL.nil ?_
 refine W.seq ?_
 refine W.seq ?_
 refine W.region ?_
 refine O.loadA [va0_0, (.int .i64 a0.Error)] ag24 rfl rfl rfl rfl (H.cell 0 rfl) ?_
 refine O.loadA [(.string a1.Star.Name), (.int .i64 a1.Star.Ascension), (.int .i64 a1.Star.Shift), (.int .i64 a1.Star.Slow), va1_0] ag31 rfl rfl rfl rfl (H.cell 1 rfl) ?_
 obtain ⟨t1, hy1, hm⟩ := bind_some hm
 refine O.call Try.call53 rfl rfl rfl (c_transit_Fits _ (GTube.mk a0.Wires a0.Error) (H.arg ha0_0) _ (GTransit.mk a1.Star a1.Wires) (H.arg ha1_0) hy1) ?_
 rintro _ w3 hb3 rfl
 have H := H.ext hb3
 refine O.not rfl rfl rfl ?_
 refine WL.nil ?_
 rcases ite_some hm with ⟨hc1, hm⟩ | ⟨hc1, hm⟩
 ·
  refine W.cond_true (congrArg Value.bool hc1) ?_
  refine W.seq ?_
  refine W.region ?_
  refine O.assign (v := (.int .i64 0)) rfl rfl rfl ?_
  refine O.assign (v := (.int .i64 1)) rfl rfl rfl ?_
  refine WL.nil ?_
  refine W.ret ?_
  have hq : (0, 1) = (r0, r1) := Option.some.inj (show some (0, 1) = some (r0, r1) from hm)
  obtain ⟨he0, hq0⟩ := Prod.mk.inj hq; clear hq; subst he0
  subst hq0
  exact ends2 Try.results74 rfl rfl ⟨_, rfl, H.base, rfl⟩
 ·
  refine W.cond_false (congrArg Value.bool hc1) ?_
  refine W.skip ?_
  refine W.seq ?_
  refine W.region ?_
  refine O.loadA [va0_0, (.int .i64 a0.Error)] ag24 rfl rfl rfl rfl (H.cell 0 rfl) ?_
  refine O.loadA [(.string a1.Star.Name), (.int .i64 a1.Star.Ascension), (.int .i64 a1.Star.Shift), (.int .i64 a1.Star.Slow), va1_0] ag31 rfl rfl rfl rfl (H.cell 1 rfl) ?_
  obtain ⟨⟨t2, t3⟩, hy2, hm⟩ := bind_some hm
  refine O.call Try.call88 rfl rfl rfl (c_transit_crossing _ (GTube.mk a0.Wires a0.Error) (H.arg ha0_0) _ (GTransit.mk a1.Star a1.Wires) (H.arg ha1_0) hy2) ?_
  rintro _ w4 hb4 rfl
  have H := H.ext hb4
  refine O.move (v := (.tuple #[(.int .i64 t2), (.bool t3)])) rfl rfl rfl ?_
  refine O.extract (v := (.int .i64 t2)) rfl rfl rfl rfl ?_
  refine O.extract (v := (.bool t3)) rfl rfl rfl rfl ?_
  refine O.assign (v := (.int .i64 t2)) rfl rfl rfl ?_
  refine O.assign (v := (.bool t3)) rfl rfl rfl ?_
  refine WL.nil ?_
  refine W.seq ?_
  refine W.seq ?_
  refine W.region ?_
  refine O.move (v := (.bool t3)) rfl rfl rfl ?_
  refine O.not rfl rfl rfl ?_
  refine WL.nil ?_
  rcases ite_some hm with ⟨hc2, hm⟩ | ⟨hc2, hm⟩
  ·
   refine W.cond_true (congrArg Value.bool hc2) ?_
   refine W.seq ?_
   refine W.region ?_
   refine O.assign (v := (.int .i64 0)) rfl rfl rfl ?_
   refine O.assign (v := (.int .i64 8)) rfl rfl rfl ?_
   refine WL.nil ?_
   refine W.ret ?_
   have hq : (0, 8) = (r0, r1) := Option.some.inj (show some (0, 8) = some (r0, r1) from hm)
   obtain ⟨he0, hq0⟩ := Prod.mk.inj hq; clear hq; subst he0
   subst hq0
   exact ends2 Try.results74 rfl rfl ⟨_, rfl, H.base, rfl⟩
  ·
   refine W.cond_false (congrArg Value.bool hc2) ?_
   refine W.skip ?_
   refine W.seq ?_
   refine W.region ?_
   refine O.move (v := (.int .i64 t2)) rfl rfl rfl ?_
   refine O.assign (v := (.int .i64 t2)) rfl rfl rfl ?_
   refine O.assign (v := (.int .i64 0)) rfl rfl rfl ?_
   refine WL.nil ?_
   refine W.ret ?_
   have hq : (t2, 0) = (r0, r1) := Option.some.inj (show some (t2, 0) = some (r0, r1) from hm)
   obtain ⟨he0, hq0⟩ := Prod.mk.inj hq; clear hq; subst he0
   subst hq0
   exact ends2 Try.results74 rfl rfl ⟨_, rfl, H.base, rfl⟩

theorem c_transit_folded {w0 : World} (a0 : Int) {r0 : Int} (hm : transit_folded a0 = some r0) :
  Calls Try.prog 75 #[(.int .i64 a0)] w0 (Ret w0 fun _ v => v = (.int .i64 r0)) := by
 unfold transit_folded at hm
 refine calls_of_W Try.func75 rfl Try.ntmps75 (Nat.le_of_ble_eq_true rfl) ?_
 have H := Inv.start (w := w0)
 refine W.seq ?_
 refine W.region ?_
 refine O.assign (v := (.int .i64 0)) rfl rfl rfl ?_
 refine WL.nil ?_
 refine W.seq ?_
 refine W.region ?_
 refine O.move (v := (.int .i64 a0)) rfl rfl rfl ?_
 refine O.move (v := (.int .i64 a0)) rfl rfl rfl ?_
 obtain ⟨t1, ht1, hm⟩ := bind_some hm
 refine O.add rfl rfl rfl rfl ht1 ?_
 obtain ⟨t2, hy1, hm⟩ := bind_some hm
 refine O.call Try.call18 rfl rfl rfl (c_transit_down _ _ hy1) ?_
 rintro _ w1 hb1 rfl
 have H := H.ext hb1
 obtain ⟨t3, ht3, hm⟩ := bind_some hm
 refine O.mul rfl rfl rfl rfl ht3 ?_
 obtain ⟨t4, ht4, hm⟩ := bind_some hm
 refine O.sub rfl rfl rfl rfl ht4 ?_
 refine O.assign (v := (.int .i64 t4)) rfl rfl rfl ?_
 refine WL.nil ?_
 refine W.ret ?_
 have hq : t4 = r0 := Option.some.inj (show some t4 = some r0 from hm)
 subst hq
 exact ends1 Try.results75 rfl ⟨_, rfl, H.base, rfl⟩

theorem c_transit_Difference {w0 : World} (va0_0 : Value) (a0 : GTube) (ha0_0 : SliceR w0 va0_0 a0.Wires) (va1_0 : Value) (a1 : GTransit) (ha1_0 : SliceR w0 va1_0 a1.Wires) {r0 : Int} {r1 : Int} (hm : transit_Difference a0 a1 = some (r0, r1)) :
  Calls Try.prog 54 #[(.agg #[va0_0, (.int .i64 a0.Error)]), (.agg #[(.string a1.Star.Name), (.int .i64 a1.Star.Ascension), (.int .i64 a1.Star.Shift), (.int .i64 a1.Star.Slow), va1_0])] w0 (Ret w0 fun _ v => v = .tuple #[(.int .i64 r0), (.int .i64 r1)]) := by
 unfold transit_Difference at hm
 refine calls_of_W Try.func54 rfl Try.ntmps54 (Nat.le_of_ble_eq_true rfl) ?_
 have H := Inv.start (w := w0)
 refine W.seq ?_
 refine W.region ?_
 refine O.box [va0_0, (.int .i64 a0.Error)] H rfl rfl rfl rfl ?_
 intro b1 w1 H hb1
 refine O.box [(.string a1.Star.Name), (.int .i64 a1.Star.Ascension), (.int .i64 a1.Star.Shift), (.int .i64 a1.Star.Slow), va1_0] H rfl rfl rfl rfl ?_
 intro b2 w2 H hb2
 refine O.assign (v := (.int .i64 0)) rfl rfl rfl ?_
 refine O.assign (v := (.int .i64 0)) rfl rfl rfl ?_
 refine WL.nil ?_
 refine W.seq ?_
 refine W.region ?_
 refine O.loadA [va0_0, (.int .i64 a0.Error)] ag24 rfl rfl rfl rfl (H.cell 0 rfl) ?_
 refine O.loadA [(.string a1.Star.Name), (.int .i64 a1.Star.Ascension), (.int .i64 a1.Star.Shift), (.int .i64 a1.Star.Slow), va1_0] ag31 rfl rfl rfl rfl (H.cell 1 rfl) ?_
 obtain ⟨⟨t1, t2⟩, hy1, hm⟩ := bind_some hm
 refine O.call Try.call74 rfl rfl rfl (c_transit_Crossing _ (GTube.mk a0.Wires a0.Error) (H.arg ha0_0) _ (GTransit.mk a1.Star a1.Wires) (H.arg ha1_0) hy1) ?_
 rintro _ w3 hb3 rfl
 have H := H.ext hb3
 refine O.move (v := (.tuple #[(.int .i64 t1), (.int .i64 t2)])) rfl rfl rfl ?_
 refine O.extract (v := (.int .i64 t1)) rfl rfl rfl rfl ?_
 refine O.extract (v := (.int .i64 t2)) rfl rfl rfl rfl ?_
 refine O.assign (v := (.int .i64 t1)) rfl rfl rfl ?_
 refine O.assign (v := (.int .i64 t2)) rfl rfl rfl ?_
 refine WL.nil ?_
 refine W.seq ?_
 refine W.seq ?_
 refine W.region ?_
 refine O.move (v := (.int .i64 t2)) rfl rfl rfl ?_
 refine O.neq rfl rfl rfl rfl ?_
 refine WL.nil ?_
 rcases ite_some hm with ⟨hc1, hm⟩ | ⟨hc1, hm⟩
 ·
  refine W.cond_true (congrArg Value.bool hc1) ?_
  refine W.seq ?_
  refine W.region ?_
  refine O.move (v := (.int .i64 t2)) rfl rfl rfl ?_
  refine O.assign (v := (.int .i64 0)) rfl rfl rfl ?_
  refine O.assign (v := (.int .i64 t2)) rfl rfl rfl ?_
  refine WL.nil ?_
  refine W.ret ?_
  have hq : (0, t2) = (r0, r1) := Option.some.inj (show some (0, t2) = some (r0, r1) from hm)
  obtain ⟨he0, hq0⟩ := Prod.mk.inj hq; clear hq; subst he0
  subst hq0
  exact ends2 Try.results54 rfl rfl ⟨_, rfl, H.base, rfl⟩
 ·
  refine W.cond_false (congrArg Value.bool hc1) ?_
  refine W.skip ?_
  refine W.seq ?_
  refine W.region ?_
  refine O.fieldAddr fd31_0 rfl rfl rfl ?_
  refine O.fieldAddr fd29_1 rfl rfl rfl ?_
  refine O.load sc3 rfl rfl rfl (H.cell 1 rfl 1 _ rfl) ?_
  refine O.move (v := (.int .i64 t1)) rfl rfl rfl ?_
  obtain ⟨t3, ht3, hm⟩ := bind_some hm
  refine O.sub rfl rfl rfl rfl ht3 ?_
  obtain ⟨t4, hy2, hm⟩ := bind_some hm
  refine O.call Try.call75 rfl rfl rfl (c_transit_folded _ hy2) ?_
  rintro _ w4 hb4 rfl
  have H := H.ext hb4
  refine O.assign (v := (.int .i64 t4)) rfl rfl rfl ?_
  refine O.assign (v := (.int .i64 0)) rfl rfl rfl ?_
  refine WL.nil ?_
  refine W.ret ?_
  have hq : (t4, 0) = (r0, r1) := Option.some.inj (show some (t4, 0) = some (r0, r1) from hm)
  obtain ⟨he0, hq0⟩ := Prod.mk.inj hq; clear hq; subst he0
  subst hq0
  exact ends2 Try.results54 rfl rfl ⟨_, rfl, H.base, rfl⟩

set_option maxRecDepth 20000 in
theorem c_transit_strips {w0 : World} (va0_0 : Value) (a0 : GTube) (ha0_0 : SliceR w0 va0_0 a0.Wires) (va1 : Value) (a1 : (List GTransit)) (ha1 : SliceR w0 va1 a1) {r0 : (List GStrip)} {r1 : Int} (hm : transit_strips a0 a1 = some (r0, r1)) :
  Calls Try.prog 33 #[(.agg #[va0_0, (.int .i64 a0.Error)]), va1] w0 (Ret w0 fun w v => ∃ vr0 : Value, v = .tuple #[vr0, (.int .i64 r1)] ∧ OwnR w0 w vr0 72 r0) := by
 unfold transit_strips at hm
 refine calls_of_W Try.func33 rfl Try.ntmps33 (Nat.le_of_ble_eq_true rfl) ?_
 have H := Inv.start (w := w0)
 refine W.seq ?_
 refine W.region ?_
 refine O.box [va0_0, (.int .i64 a0.Error)] H rfl rfl rfl rfl ?_
 intro b1 w1 H hb1
 have H := H.addNil (α := GStrip) (E := 72)
 refine O.assign (v := (.slice none 0 0)) rfl rfl rfl ?_
 refine O.assign (v := (.int .i64 0)) rfl rfl rfl ?_
 refine WL.nil ?_
 refine W.seq ?_
 refine W.seq ?_
 refine W.region ?_
 refine O.loadA [va0_0, (.int .i64 a0.Error)] ag24 rfl rfl rfl rfl (H.cell 0 rfl) ?_
 obtain ⟨t1, hy1, hm⟩ := bind_some hm
 refine O.call Try.call15 rfl rfl rfl (c_transit_ValidTube _ (GTube.mk a0.Wires a0.Error) (H.arg ha0_0) hy1) ?_
 rintro _ w2 hb2 rfl
 have H := H.ext hb2
 refine O.not rfl rfl rfl ?_
 refine O.move (v := (.bool (!t1))) rfl rfl rfl ?_
 obtain ⟨b2, hm1, hm⟩ := bind_some hm
 refine WL.cut 5 (fun f w => f 1 = va1 ∧ f 2 = (.pointer (some ⟨b1, 0, none⟩)) ∧ f 19 = .bool b2 ∧ Inv w0 w [boxI b1 24 [va0_0, (.int .i64 a0.Error)], ownI (α := GStrip) (.slice none 0 0) 72 ([] : List GStrip)]) ?_ ?_
 ·
  rcases ite_some hm1 with ⟨hc1, hm1⟩ | ⟨hc1, hm1⟩
  ·
   refine WL.reset (i := 14) (v := .bool true) (congrArg Value.bool hc1) ?_
   refine O.skip rfl rfl ?_
   refine O.skip rfl rfl ?_
   refine O.skip rfl rfl ?_
   refine O.skip rfl rfl ?_
   refine O.pick_true (v := (.bool true)) rfl rfl rfl rfl ?_
   refine WL.nil ?_
   have hq : true = b2 := Option.some.inj (show some true = some b2 from hm1)
   subst hq
   exact ⟨rfl, rfl, rfl, H⟩
  ·
   refine WL.reset (i := 14) (v := .bool false) (congrArg Value.bool hc1) ?_
   refine O.move (v := va1) rfl rfl rfl ?_
   refine O.lenS Try.underlying27 (H.arg ha1) rfl rfl rfl ?_
   obtain ⟨t2, hy2, hm1⟩ := bind_some hm1
   refine O.call Try.call17 rfl rfl rfl (c_transit_within _ _ _ hy2) ?_
   rintro _ w3 hb3 rfl
   have H := H.ext hb3
   refine O.not rfl rfl rfl ?_
   refine O.pick_false (v := (.bool (!t2))) rfl rfl rfl rfl ?_
   refine WL.nil ?_
   have hq : (!t2) = b2 := Option.some.inj (show some (!t2) = some b2 from hm1)
   subst hq
   exact ⟨rfl, rfl, rfl, H⟩
 ·
  rintro f w ⟨hf1, hf2, hf19, H⟩
  obtain ⟨u1, rfl⟩ := up3 hf1 hf2 hf19
  refine O.move (v := (.bool b2)) rfl rfl rfl ?_
  obtain ⟨b3, hm2, hm⟩ := bind_some hm
  refine WL.cut 4 (fun f w => f 1 = va1 ∧ f 2 = (.pointer (some ⟨b1, 0, none⟩)) ∧ f 24 = .bool b3 ∧ Inv w0 w [boxI b1 24 [va0_0, (.int .i64 a0.Error)], ownI (α := GStrip) (.slice none 0 0) 72 ([] : List GStrip)]) ?_ ?_
  ·
   rcases ite_some hm2 with ⟨hc2, hm2⟩ | ⟨hc2, hm2⟩
   ·
    refine WL.reset (i := 20) (v := .bool true) (congrArg Value.bool hc2) ?_
    refine O.skip rfl rfl ?_
    refine O.skip rfl rfl ?_
    refine O.skip rfl rfl ?_
    refine O.pick_true (v := (.bool true)) rfl rfl rfl rfl ?_
    refine WL.nil ?_
    have hq : true = b3 := Option.some.inj (show some true = some b3 from hm2)
    subst hq
    exact ⟨rfl, rfl, rfl, H⟩
   ·
    refine WL.reset (i := 20) (v := .bool false) (congrArg Value.bool hc2) ?_
    refine O.move (v := va1) rfl rfl rfl ?_
    refine O.makeFunc rfl rfl rfl rfl ?_
    obtain ⟨t3, hy3, hm2⟩ := bind_some hm2
    refine O.call Try.call51 rfl rfl rfl (c_slices_ContainsFunc_Transit _ _ (H.arg ha1) _ (fun x0 => transit_strips_c1 x0 (GTube.mk a0.Wires a0.Error)) (fun w hw vx0_0 x0 hx0_0 _ hy => callsV_mk Try.call52 (c_transit_strips_c1 vx0_0 x0 hx0_0 _ _ (GTube.mk a0.Wires a0.Error) (cells_mono (H.cell 0 rfl) hw) ((H.arg ha0_0).mono hw) hy)) hy3) ?_
    rintro _ w4 hb4 rfl
    have H := H.ext hb4
    refine O.pick_false (v := (.bool t3)) rfl rfl rfl rfl ?_
    refine WL.nil ?_
    have hq : t3 = b3 := Option.some.inj (show some t3 = some b3 from hm2)
    subst hq
    exact ⟨rfl, rfl, rfl, H⟩
  ·
   rintro f w ⟨hf1, hf2, hf24, H⟩
   obtain ⟨u2, rfl⟩ := up3 hf1 hf2 hf24
   refine WL.nil ?_
   rcases ite_some hm with ⟨hc3, hm⟩ | ⟨hc3, hm⟩
   ·
    refine W.cond_true (congrArg Value.bool hc3) ?_
    refine W.seq ?_
    refine W.region ?_
    have H := H.addNil (α := GStrip) (E := 72)
    refine O.assign (v := (.slice none 0 0)) rfl rfl rfl ?_
    refine O.assign (v := (.int .i64 1)) rfl rfl rfl ?_
    refine WL.nil ?_
    refine W.ret ?_
    have hq : (([] : List GStrip), 1) = (r0, r1) := Option.some.inj (show some (([] : List GStrip), 1) = some (r0, r1) from hm)
    obtain ⟨he0, hq0⟩ := Prod.mk.inj hq; clear hq; subst he0
    subst hq0
    exact ends2 Try.results33 rfl rfl ⟨_, rfl, H.base, ⟨_, rfl, H.ownR 2 rfl⟩⟩
   ·
    refine W.cond_false (congrArg Value.bool hc3) ?_
    refine W.skip ?_
    refine W.seq ?_
    refine W.region ?_
    have H := H.addNil (α := GStrip) (E := 72)
    refine O.assign (v := (.slice none 0 0)) rfl rfl rfl ?_
    refine WL.nil ?_
    refine W.seq ?_
    refine W.seq ?_
    refine W.region ?_
    refine O.move (v := va1) rfl rfl rfl ?_
    refine O.lenS Try.underlying27 (H.arg ha1) rfl rfl rfl ?_
    refine O.move (v := (.int .i64 0)) rfl rfl rfl ?_
    refine WL.nil ?_
    obtain ⟨o1, hm3, hm⟩ := bind_some hm
    refine W.via (fun f w => ∃ s1 : (List GStrip), ∃ v4 : Value, o1 = .next s1 ∧ f 6 = v4 ∧ Inv w0 w [ownI (α := GStrip) v4 72 s1]) ?_ ?_
    ·
     refine W.block ?_
     have H := H.keep [0, 2] [boxI b1 24 [va0_0, (.int .i64 a0.Error)], ownI (α := GStrip) (.slice none 0 0) 72 ([] : List GStrip)] rfl (by decide)
     refine W.rangeL (i := 0) hm3 (fun rem ik1 s f w => ∃ z2 : (List GStrip), ∃ v2 : Value, z2 = s ∧ a1.drop ik1 = rem ∧ f 27 = .int .i64 (ik1 : Int) ∧ f 26 = (.int .i64 ((a1.length : Nat) : Int)) ∧ f 2 = (.pointer (some ⟨b1, 0, none⟩)) ∧ f 6 = v2 ∧ f 25 = va1 ∧ Inv w0 w [boxI b1 24 [va0_0, (.int .i64 a0.Error)], ownI (α := GStrip) v2 72 z2]) ?_ ?_ ?_
     ·
      exact ⟨_, (.slice none 0 0), rfl, List.drop_zero, rfl, rfl, rfl, rfl, rfl, H⟩
     ·
      rintro yk1 xs ik1 _ st f w ⟨z2, v2, rfl, hdropk1, hf27, hf26, hf2, hf6, hf25, H⟩ hm4
      have hltk1 := drop_lt hdropk1; have hixk1 := drop_idx hdropk1
      obtain ⟨u3, rfl⟩ := up5 hf27 hf26 hf2 hf6 hf25
      have hinck1 := addI_lt hltk1 (H.arg ha1).len_le
      refine W.seq ?_
      refine W.region ?_
      refine O.lss rfl rfl rfl rfl ?_
      refine WL.nil ?_
      refine W.seq ?_
      refine W.cond_true (congrArg Value.bool (decide_eq_true hltk1)) ?_
      refine W.skip ?_
      refine W.seq ?_
      refine W.block ?_
      refine W.seq ?_
      refine W.region ?_
      obtain ⟨p1, hp1, hrp1⟩ := fix_indexAddr Try.underlying27 sz31 ha1 hixk1
      obtain ⟨v5, hs1, hc4⟩ := GTransit_open hp1
      refine hrp1 rfl rfl rfl rfl ?_
      refine O.loadA [(.string yk1.Star.Name), (.int .i64 yk1.Star.Ascension), (.int .i64 yk1.Star.Shift), (.int .i64 yk1.Star.Slow), v5] ag31 rfl rfl rfl rfl ((cells_mono hc4 H.base)) ?_
      refine O.alloc [(.string ByteArray.empty), (.int .i64 0), (.int .i64 0), (.int .i64 0), (.slice none 0 0)] ze31 H rfl rfl rfl ?_
      intro b4 w5 H hb5
      have H := H.addNil (α := Int) (E := 3)
      refine O.store 2 0 [(.string yk1.Star.Name), (.int .i64 yk1.Star.Ascension), (.int .i64 yk1.Star.Shift), (.int .i64 yk1.Star.Slow), v5] [(.string yk1.Star.Name), (.int .i64 yk1.Star.Ascension), (.int .i64 yk1.Star.Shift), (.int .i64 yk1.Star.Slow), v5] sz31 H rfl rfl rfl rfl rfl rfl ⟨⟨rfl, rfl⟩, rfl⟩ (one_cons rfl (one_cons rfl (one_cons rfl (one_cons rfl (one_cons (SliceR.one (H.arg hs1)) one_nil))))) ?_
      intro w6 H
      refine WL.nil ?_
      refine W.seq ?_
      refine W.region ?_
      refine O.loadA [va0_0, (.int .i64 a0.Error)] ag24 rfl rfl rfl rfl (H.cell 0 rfl) ?_
      refine O.loadA [(.string yk1.Star.Name), (.int .i64 yk1.Star.Ascension), (.int .i64 yk1.Star.Shift), (.int .i64 yk1.Star.Slow), v5] ag31 rfl rfl rfl rfl (H.cell 2 rfl) ?_
      obtain ⟨⟨t4, t5⟩, hy4, hm4⟩ := bind_some hm4
      refine O.call Try.call54 rfl rfl rfl (c_transit_Difference _ (GTube.mk a0.Wires a0.Error) (H.arg ha0_0) _ (GTransit.mk yk1.Star yk1.Wires) (H.arg hs1) hy4) ?_
      rintro _ w7 hb6 rfl
      have H := H.ext hb6
      refine O.move (v := (.tuple #[(.int .i64 t4), (.int .i64 t5)])) rfl rfl rfl ?_
      refine O.extract (v := (.int .i64 t4)) rfl rfl rfl rfl ?_
      refine O.extract (v := (.int .i64 t5)) rfl rfl rfl rfl ?_
      refine O.assign (v := (.int .i64 t4)) rfl rfl rfl ?_
      refine O.assign (v := (.int .i64 t5)) rfl rfl rfl ?_
      refine WL.nil ?_
      refine W.seq ?_
      refine W.seq ?_
      refine W.region ?_
      refine O.move (v := (.int .i64 t5)) rfl rfl rfl ?_
      refine O.neq rfl rfl rfl rfl ?_
      refine WL.nil ?_
      rcases ite_some hm4 with ⟨hc5, hm4⟩ | ⟨hc5, hm4⟩
      ·
       refine W.cond_true (congrArg Value.bool hc5) ?_
       refine W.seq ?_
       refine W.region ?_
       refine O.move (v := (.int .i64 t5)) rfl rfl rfl ?_
       have H := H.addNil (α := GStrip) (E := 72)
       refine O.assign (v := (.slice none 0 0)) rfl rfl rfl ?_
       refine O.assign (v := (.int .i64 t5)) rfl rfl rfl ?_
       refine WL.nil ?_
       refine W.ret ?_
       obtain rfl := Option.some.inj hm4
       refine ⟨_, rfl, ?_⟩
       rintro rfl
       have hq : (([] : List GStrip), t5) = (r0, r1) := Option.some.inj (show some (([] : List GStrip), t5) = some (r0, r1) from hm)
       obtain ⟨he0, hq0⟩ := Prod.mk.inj hq; clear hq; subst he0
       subst hq0
       exact ends2 Try.results33 rfl rfl ⟨_, rfl, H.base, ⟨_, rfl, H.ownR 4 rfl⟩⟩
      ·
       refine W.cond_false (congrArg Value.bool hc5) ?_
       refine W.skip ?_
       refine W.region ?_
       refine O.move (v := v2) rfl rfl rfl ?_
       refine O.fieldAddr fd31_0 rfl rfl rfl ?_
       refine O.fieldAddr fd29_2 rfl rfl rfl ?_
       refine O.load sc3 rfl rfl rfl (H.cell 2 rfl 2 _ rfl) ?_
       refine O.move (v := (.int .i64 t4)) rfl rfl rfl ?_
       refine O.move (v := (.int .i64 t4)) rfl rfl rfl ?_
       refine O.build (v := (.agg (Flat.cells (GStrip.mk yk1.Star.Shift t4 t4)).toArray)) (fun w => bd72_0_1_2 _ _ _ w) rfl rfl rfl ?_
       refine O.buildSlice (α := GStrip) [(.agg (Flat.cells (GStrip.mk yk1.Star.Shift t4 t4)).toArray)] [(GStrip.mk yk1.Star.Shift t4 t4)] Try.underlying65 el72 H rfl rfl rfl rfl rfl rfl rfl ?_
       intro v6 w8 H hb7
       obtain ⟨t6, ht6, hm4⟩ := bind_some hm4
       refine O.append 1 Try.underlying65 el72 rfl H rfl (H.own 4 rfl) ht6 rfl rfl rfl rfl ?_
       intro v7 w9 H
       refine O.assign (v := v7) rfl rfl rfl ?_
       refine WL.nil ?_
       refine W.region ?_
       refine O.add rfl rfl rfl rfl hinck1 ?_
       refine O.move (v := .int .i64 ((ik1 : Int) + 1)) rfl rfl rfl ?_
       refine WL.nil ?_
       have H := H.keep [0, 1] [boxI b1 24 [va0_0, (.int .i64 a0.Error)], ownI (α := GStrip) v7 72 t6] rfl (by decide)
       obtain rfl := Option.some.inj hm4
       exact ⟨_, rfl, _, v7, rfl, drop_next hdropk1, rfl, rfl, rfl, rfl, rfl, H⟩
     ·
      rintro ik1 _ f w ⟨z2, v2, rfl, hdropk1, hf27, hf26, hf2, hf6, hf25, H⟩ hfin
      have hltk1 := drop_end hdropk1
      obtain ⟨u4, rfl⟩ := up5 hf27 hf26 hf2 hf6 hf25
      refine W.seq ?_
      refine W.region ?_
      refine O.lss rfl rfl rfl rfl ?_
      refine WL.nil ?_
      refine W.seq ?_
      refine W.cond_false (congrArg Value.bool (decide_eq_false hltk1)) ?_
      refine W.exit ?_
      obtain rfl : Ctl.next z2 = o1 := hfin
      have H := H.keep [1] [ownI (α := GStrip) v2 72 z2] rfl (by decide)
      refine xT rfl ?_
      exact ⟨_, v2, rfl, rfl, H⟩
    ·
     rintro f w ⟨s1, v4, rfl, hf6, H⟩
     obtain ⟨u5, rfl⟩ := up1 hf6
     refine W.seq ?_
     refine W.region ?_
     refine O.move (v := v4) rfl rfl rfl ?_
     refine O.assign (v := v4) rfl rfl rfl ?_
     refine O.assign (v := (.int .i64 0)) rfl rfl rfl ?_
     refine WL.nil ?_
     refine W.ret ?_
     have hq : (s1, 0) = (r0, r1) := Option.some.inj (show some (s1, 0) = some (r0, r1) from hm)
     obtain ⟨he0, hq0⟩ := Prod.mk.inj hq; clear hq; subst he0
     subst hq0
     exact ends2 Try.results33 rfl rfl ⟨_, rfl, H.base, ⟨_, rfl, H.ownR 0 rfl⟩⟩

theorem c_transit_wider {w0 : World} (va0 : Value) (a0 : (List GStrip)) (ha0 : SliceR w0 va0 a0) (a1 : Int) {r0 : (List GStrip)} (hm : transit_wider a0 a1 = some r0) :
  Calls Try.prog 34 #[va0, (.int .i64 a1)] w0 (Ret w0 fun w v => OwnR w0 w v 72 r0) := by
 unfold transit_wider at hm
 refine calls_of_W Try.func34 rfl Try.ntmps34 (Nat.le_of_ble_eq_true rfl) ?_
 have H := Inv.start (w := w0)
 refine W.seq ?_
 refine W.region ?_
 have H := H.addNil (α := GStrip) (E := 72)
 refine O.assign (v := (.slice none 0 0)) rfl rfl rfl ?_
 refine WL.nil ?_
 refine W.seq ?_
 refine W.region ?_
 have H := H.addNil (α := GStrip) (E := 72)
 refine O.assign (v := (.slice none 0 0)) rfl rfl rfl ?_
 refine WL.nil ?_
 refine W.seq ?_
 refine W.seq ?_
 refine W.region ?_
 refine O.move (v := va0) rfl rfl rfl ?_
 refine O.lenS Try.underlying65 (H.arg ha0) rfl rfl rfl ?_
 refine O.move (v := (.int .i64 0)) rfl rfl rfl ?_
 refine WL.nil ?_
 obtain ⟨s1, hm1, hm⟩ := bind_some hm
 refine W.via (fun f w => ∃ v4 : Value, f 5 = v4 ∧ Inv w0 w [ownI (α := GStrip) v4 72 s1]) ?_ ?_
 ·
  refine W.block ?_
  have H := H.keep [1] [ownI (α := GStrip) (.slice none 0 0) 72 ([] : List GStrip)] rfl (by decide)
  refine W.rangeL (i := 0) hm1 (fun rem ik1 s f w => ∃ z2 : (List GStrip), ∃ v2 : Value, z2 = s ∧ a0.drop ik1 = rem ∧ f 10 = .int .i64 (ik1 : Int) ∧ f 9 = (.int .i64 ((a0.length : Nat) : Int)) ∧ f 1 = (.int .i64 a1) ∧ f 5 = v2 ∧ f 8 = va0 ∧ Inv w0 w [ownI (α := GStrip) v2 72 z2]) ?_ ?_ ?_
  ·
   exact ⟨_, (.slice none 0 0), rfl, List.drop_zero, rfl, rfl, rfl, rfl, rfl, H⟩
  ·
   rintro yk1 xs ik1 _ st f w ⟨z2, v2, rfl, hdropk1, hf10, hf9, hf1, hf5, hf8, H⟩ hm2
   have hltk1 := drop_lt hdropk1; have hixk1 := drop_idx hdropk1
   obtain ⟨u1, rfl⟩ := up5 hf10 hf9 hf1 hf5 hf8
   have hinck1 := addI_lt hltk1 (H.arg ha0).len_le
   refine W.seq ?_
   refine W.region ?_
   refine O.lss rfl rfl rfl rfl ?_
   refine WL.nil ?_
   refine W.seq ?_
   refine W.cond_true (congrArg Value.bool (decide_eq_true hltk1)) ?_
   refine W.skip ?_
   refine W.seq ?_
   refine W.block ?_
   refine W.seq ?_
   refine W.region ?_
   obtain ⟨p1, hp1, hrp1⟩ := fix_indexAddr Try.underlying65 sz72 ha0 hixk1
   refine hrp1 rfl rfl rfl rfl ?_
   refine O.loadA [(.int .i64 yk1.shift), (.int .i64 yk1.lo), (.int .i64 yk1.hi)] ag72 rfl rfl rfl rfl ((hp1.mono H.base).flat) ?_
   refine O.alloc [(.int .i64 0), (.int .i64 0), (.int .i64 0)] ze72 H rfl rfl rfl ?_
   intro b1 w1 H hb1
   refine O.store 1 0 [(.int .i64 yk1.shift), (.int .i64 yk1.lo), (.int .i64 yk1.hi)] [(.int .i64 yk1.shift), (.int .i64 yk1.lo), (.int .i64 yk1.hi)] sz72 H rfl rfl rfl rfl rfl rfl ⟨⟨rfl, rfl⟩, rfl⟩ (one_cons rfl (one_cons rfl (one_cons rfl one_nil))) ?_
   intro w2 H
   refine WL.nil ?_
   refine W.region ?_
   refine O.move (v := v2) rfl rfl rfl ?_
   refine O.fieldAddr fd72_0 rfl rfl rfl ?_
   refine O.load sc3 rfl rfl rfl (H.cell 1 rfl 0 _ rfl) ?_
   refine O.fieldAddr fd72_1 rfl rfl rfl ?_
   refine O.load sc3 rfl rfl rfl (H.cell 1 rfl 1 _ rfl) ?_
   refine O.move (v := (.int .i64 a1)) rfl rfl rfl ?_
   obtain ⟨t1, ht1, hm2⟩ := bind_some hm2
   refine O.sub rfl rfl rfl rfl ht1 ?_
   refine O.fieldAddr fd72_2 rfl rfl rfl ?_
   refine O.load sc3 rfl rfl rfl (H.cell 1 rfl 2 _ rfl) ?_
   refine O.move (v := (.int .i64 a1)) rfl rfl rfl ?_
   obtain ⟨t2, ht2, hm2⟩ := bind_some hm2
   refine O.add rfl rfl rfl rfl ht2 ?_
   refine O.build (v := (.agg (Flat.cells (GStrip.mk yk1.shift t1 t2)).toArray)) (fun w => bd72_0_1_2 _ _ _ w) rfl rfl rfl ?_
   refine O.buildSlice (α := GStrip) [(.agg (Flat.cells (GStrip.mk yk1.shift t1 t2)).toArray)] [(GStrip.mk yk1.shift t1 t2)] Try.underlying65 el72 H rfl rfl rfl rfl rfl rfl rfl ?_
   intro v5 w3 H hb2
   obtain ⟨t3, ht3, hm2⟩ := bind_some hm2
   refine O.append 0 Try.underlying65 el72 rfl H rfl (H.own 2 rfl) ht3 rfl rfl rfl rfl ?_
   intro v6 w4 H
   refine O.assign (v := v6) rfl rfl rfl ?_
   refine WL.nil ?_
   refine W.region ?_
   refine O.add rfl rfl rfl rfl hinck1 ?_
   refine O.move (v := .int .i64 ((ik1 : Int) + 1)) rfl rfl rfl ?_
   refine WL.nil ?_
   have H := H.keep [0] [ownI (α := GStrip) v6 72 t3] rfl (by decide)
   obtain rfl := Option.some.inj hm2
   exact ⟨_, rfl, _, v6, rfl, drop_next hdropk1, rfl, rfl, rfl, rfl, rfl, H⟩
  ·
   rintro ik1 _ f w ⟨z2, v2, rfl, hdropk1, hf10, hf9, hf1, hf5, hf8, H⟩ hfin
   have hltk1 := drop_end hdropk1
   obtain ⟨u2, rfl⟩ := up5 hf10 hf9 hf1 hf5 hf8
   refine W.seq ?_
   refine W.region ?_
   refine O.lss rfl rfl rfl rfl ?_
   refine WL.nil ?_
   refine W.seq ?_
   refine W.cond_false (congrArg Value.bool (decide_eq_false hltk1)) ?_
   refine W.exit ?_
   have hq : z2 = s1 := hfin
   subst hq
   refine xT rfl ?_
   exact ⟨v2, rfl, H⟩
 ·
  rintro f w ⟨v4, hf5, H⟩
  obtain ⟨u3, rfl⟩ := up1 hf5
  refine W.seq ?_
  refine W.region ?_
  refine O.move (v := v4) rfl rfl rfl ?_
  refine O.assign (v := v4) rfl rfl rfl ?_
  refine WL.nil ?_
  refine W.ret ?_
  have hq : s1 = r0 := Option.some.inj (show some s1 = some r0 from hm)
  subst hq
  exact ends1 Try.results34 rfl ⟨_, rfl, H.base, H.ownR 0 rfl⟩

theorem c_transit_asked {w0 : World} (va0_0 : Value) (a0 : GTube) (ha0_0 : SliceR w0 va0_0 a0.Wires) (va1 : Value) (a1 : (List GTransit)) (ha1 : SliceR w0 va1 a1) {r0 : (List GStrip)} {r1 : Int} (hm : transit_asked a0 a1 = some (r0, r1)) :
  Calls Try.prog 19 #[(.agg #[va0_0, (.int .i64 a0.Error)]), va1] w0 (Ret w0 fun w v => ∃ vr0 : Value, v = .tuple #[vr0, (.int .i64 r1)] ∧ OwnR w0 w vr0 72 r0) := by
 unfold transit_asked at hm
 refine calls_of_W Try.func19 rfl Try.ntmps19 (Nat.le_of_ble_eq_true rfl) ?_
 have H := Inv.start (w := w0)
 refine W.seq ?_
 refine W.region ?_
 refine O.box [va0_0, (.int .i64 a0.Error)] H rfl rfl rfl rfl ?_
 intro b1 w1 H hb1
 have H := H.addNil (α := GStrip) (E := 72)
 refine O.assign (v := (.slice none 0 0)) rfl rfl rfl ?_
 refine O.assign (v := (.int .i64 0)) rfl rfl rfl ?_
 refine WL.nil ?_
 refine W.seq ?_
 refine W.region ?_
 refine O.loadA [va0_0, (.int .i64 a0.Error)] ag24 rfl rfl rfl rfl (H.cell 0 rfl) ?_
 refine O.move (v := va1) rfl rfl rfl ?_
 obtain ⟨⟨t1, t2⟩, hy1, hm⟩ := bind_some hm
 refine O.call Try.call33 rfl rfl rfl (c_transit_strips _ (GTube.mk a0.Wires a0.Error) (H.arg ha0_0) _ _ (H.arg ha1) hy1) ?_
 rintro _ w2 hb2 ⟨v1, rfl, ho1⟩
 have H := H.addOwn hb2 ho1
 refine O.move (v := (.tuple #[v1, (.int .i64 t2)])) rfl rfl rfl ?_
 refine O.extract (v := v1) rfl rfl rfl rfl ?_
 refine O.extract (v := (.int .i64 t2)) rfl rfl rfl rfl ?_
 refine O.assign (v := v1) rfl rfl rfl ?_
 refine O.assign (v := (.int .i64 t2)) rfl rfl rfl ?_
 refine WL.nil ?_
 refine W.seq ?_
 refine W.seq ?_
 refine W.region ?_
 refine O.move (v := (.int .i64 t2)) rfl rfl rfl ?_
 refine O.neq rfl rfl rfl rfl ?_
 refine WL.nil ?_
 rcases ite_some hm with ⟨hc1, hm⟩ | ⟨hc1, hm⟩
 ·
  refine W.cond_true (congrArg Value.bool hc1) ?_
  refine W.seq ?_
  refine W.region ?_
  refine O.move (v := (.int .i64 t2)) rfl rfl rfl ?_
  have H := H.addNil (α := GStrip) (E := 72)
  refine O.assign (v := (.slice none 0 0)) rfl rfl rfl ?_
  refine O.assign (v := (.int .i64 t2)) rfl rfl rfl ?_
  refine WL.nil ?_
  refine W.ret ?_
  have hq : (([] : List GStrip), t2) = (r0, r1) := Option.some.inj (show some (([] : List GStrip), t2) = some (r0, r1) from hm)
  obtain ⟨he0, hq0⟩ := Prod.mk.inj hq; clear hq; subst he0
  subst hq0
  exact ends2 Try.results19 rfl rfl ⟨_, rfl, H.base, ⟨_, rfl, H.ownR 3 rfl⟩⟩
 ·
  refine W.cond_false (congrArg Value.bool hc1) ?_
  refine W.skip ?_
  refine W.seq ?_
  refine W.region ?_
  refine O.move (v := v1) rfl rfl rfl ?_
  refine O.fieldAddr fd24_1 rfl rfl rfl ?_
  refine O.load sc3 rfl rfl rfl (H.cell 0 rfl 1 _ rfl) ?_
  obtain ⟨t3, hy2, hm⟩ := bind_some hm
  refine O.call Try.call34 rfl rfl rfl (c_transit_wider _ _ (H.own 2 rfl) _ hy2) ?_
  rintro v2 w3 hb3 ho2
  have H := H.addOwn hb3 ho2
  refine O.assign (v := v2) rfl rfl rfl ?_
  refine O.assign (v := (.int .i64 0)) rfl rfl rfl ?_
  refine WL.nil ?_
  refine W.ret ?_
  have hq : (t3, 0) = (r0, r1) := Option.some.inj (show some (t3, 0) = some (r0, r1) from hm)
  obtain ⟨he0, hq0⟩ := Prod.mk.inj hq; clear hq; subst he0
  subst hq0
  exact ends2 Try.results19 rfl rfl ⟨_, rfl, H.base, ⟨_, rfl, H.ownR 3 rfl⟩⟩

theorem c_transit_over {w0 : World} (a0 : Int) (a1 : Int) {r0 : GFraction} (hm : transit_over a0 a1 = some r0) :
  Calls Try.prog 58 #[(.int .i64 a0), (.int .i64 a1)] w0 (Ret w0 fun _ v => v = (.agg (Flat.cells r0).toArray)) := by
 unfold transit_over at hm
 refine calls_of_W Try.func58 rfl Try.ntmps58 (Nat.le_of_ble_eq_true rfl) ?_
 have H := Inv.start (w := w0)
 refine W.seq ?_
 refine W.region ?_
 refine O.alloc [(.int .i64 0), (.int .i64 0)] ze77 H rfl rfl rfl ?_
 intro b1 w1 H hb1
 refine WL.nil ?_
 refine W.seq ?_
 refine W.seq ?_
 refine W.region ?_
 refine O.move (v := (.int .i64 a1)) rfl rfl rfl ?_
 refine O.lss rfl rfl rfl rfl ?_
 refine WL.nil ?_
 obtain ⟨⟨s1, s2⟩, hm1, hm⟩ := bind_some hm
 refine W.via (fun f w => f 0 = (.int .i64 s1) ∧ f 1 = (.int .i64 s2) ∧ f 4 = (.pointer (some ⟨b1, 0, none⟩)) ∧ Inv w0 w [boxI b1 77 [(.int .i64 0), (.int .i64 0)]]) ?_ ?_
 ·
  rcases ite_some hm1 with ⟨hc1, hm1⟩ | ⟨hc1, hm1⟩
  ·
   refine W.cond_true (congrArg Value.bool hc1) ?_
   refine W.region ?_
   refine O.move (v := (.int .i64 a0)) rfl rfl rfl ?_
   obtain ⟨t1, ht1, hm1⟩ := bind_some hm1
   refine O.neg rfl rfl rfl ht1 ?_
   refine O.move (v := (.int .i64 a1)) rfl rfl rfl ?_
   obtain ⟨t2, ht2, hm1⟩ := bind_some hm1
   refine O.neg rfl rfl rfl ht2 ?_
   refine O.assign (v := (.int .i64 t1)) rfl rfl rfl ?_
   refine O.assign (v := (.int .i64 t2)) rfl rfl rfl ?_
   refine WL.nil ?_
   have hq : (t1, t2) = (s1, s2) := Option.some.inj (show some (t1, t2) = some (s1, s2) from hm1)
   obtain ⟨he0, hq0⟩ := Prod.mk.inj hq; clear hq; subst he0
   subst hq0
   exact ⟨rfl, rfl, rfl, H⟩
  ·
   refine W.cond_false (congrArg Value.bool hc1) ?_
   refine W.skip ?_
   have hq : (a0, a1) = (s1, s2) := Option.some.inj (show some (a0, a1) = some (s1, s2) from hm1)
   obtain ⟨he0, hq0⟩ := Prod.mk.inj hq; clear hq; subst he0
   subst hq0
   exact ⟨rfl, rfl, rfl, H⟩
 ·
  rintro f w ⟨hf0, hf1, hf4, H⟩
  obtain ⟨u1, rfl⟩ := up3 hf0 hf1 hf4
  refine W.seq ?_
  refine W.region ?_
  refine O.move (v := (.int .i64 s1)) rfl rfl rfl ?_
  refine O.move (v := (.int .i64 s2)) rfl rfl rfl ?_
  refine O.build (v := (.agg (Flat.cells (GFraction.mk s1 s2)).toArray)) (fun w => bd77_0_1 _ _ w) rfl rfl rfl ?_
  refine O.store 0 0 [(.int .i64 s1), (.int .i64 s2)] [(.int .i64 s1), (.int .i64 s2)] sz77 H rfl rfl rfl rfl rfl rfl ⟨⟨rfl, rfl⟩, rfl⟩ (one_cons rfl (one_cons rfl one_nil)) ?_
  intro w2 H
  refine WL.nil ?_
  refine W.ret ?_
  have hq : (GFraction.mk s1 s2) = r0 := Option.some.inj (show some (GFraction.mk s1 s2) = some r0 from hm)
  subst hq
  exact ends1 Try.results58 ⟨_, rfl, run_loadVar_agg ag77 rfl (H.cell 0 rfl)⟩ ⟨_, rfl, H.base, rfl⟩

theorem c_transit_keep_fraction {w0 : World} (a0 : GFraction) (a1 : GFraction) (va2 : Value) (a2 : GFraction → GFraction → Option (Bool)) (ha2 : ∀ (w : World), Below w0.heap.size w0 w → ∀ (x0 : GFraction) (x1 : GFraction) (y0 : Bool), a2 x0 x1 = some y0 → CallsV Try.prog va2 #[(.agg (Flat.cells x0).toArray), (.agg (Flat.cells x1).toArray)] w (Ret w fun _ v => v = (.bool y0))) {r0 : GFraction} (hm : transit_keep_fraction a0 a1 a2 = some r0) :
  Calls Try.prog 57 #[(.agg (Flat.cells a0).toArray), (.agg (Flat.cells a1).toArray), va2] w0 (Ret w0 fun _ v => v = (.agg (Flat.cells r0).toArray)) := by
 unfold transit_keep_fraction at hm
 refine calls_of_W Try.func57 rfl Try.ntmps57 (Nat.le_of_ble_eq_true rfl) ?_
 have H := Inv.start (w := w0)
 refine W.seq ?_
 refine W.region ?_
 refine O.box [(.int .i64 a0.n), (.int .i64 a0.d)] H rfl rfl rfl rfl ?_
 intro b1 w1 H hb1
 refine O.box [(.int .i64 a1.n), (.int .i64 a1.d)] H rfl rfl rfl rfl ?_
 intro b2 w2 H hb2
 refine O.alloc [(.int .i64 0), (.int .i64 0)] ze77 H rfl rfl rfl ?_
 intro b3 w3 H hb3
 refine WL.nil ?_
 refine W.seq ?_
 refine W.region ?_
 refine O.alloc [(.int .i64 0), (.int .i64 0)] ze77 H rfl rfl rfl ?_
 intro b4 w4 H hb4
 refine WL.nil ?_
 refine W.seq ?_
 refine W.seq ?_
 refine W.region ?_
 refine O.loadA [(.int .i64 a0.n), (.int .i64 a0.d)] ag77 rfl rfl rfl rfl (H.cell 0 rfl) ?_
 refine O.loadA [(.int .i64 0), (.int .i64 0)] ag77 rfl rfl rfl rfl (H.cell 3 rfl) ?_
 refine O.eqlSt a0 (GFraction.mk 0 0) eq77 rfl rfl rfl rfl ?_
 refine O.move (v := (.bool (a0 == (GFraction.mk 0 0)))) rfl rfl rfl ?_
 obtain ⟨b5, hm1, hm⟩ := bind_some hm
 refine WL.cut 5 (fun f w => f 3 = (.pointer (some ⟨b1, 0, none⟩)) ∧ f 4 = (.pointer (some ⟨b2, 0, none⟩)) ∧ f 6 = (.pointer (some ⟨b3, 0, none⟩)) ∧ f 16 = .bool b5 ∧ Inv w0 w [boxI b1 77 [(.int .i64 a0.n), (.int .i64 a0.d)], boxI b2 77 [(.int .i64 a1.n), (.int .i64 a1.d)], boxI b3 77 [(.int .i64 0), (.int .i64 0)], boxI b4 77 [(.int .i64 0), (.int .i64 0)]]) ?_ ?_
 ·
  rcases ite_some hm1 with ⟨hc1, hm1⟩ | ⟨hc1, hm1⟩
  ·
   refine WL.reset (i := 11) (v := .bool true) (congrArg Value.bool hc1) ?_
   refine O.skip rfl rfl ?_
   refine O.skip rfl rfl ?_
   refine O.skip rfl rfl ?_
   refine O.skip rfl rfl ?_
   refine O.pick_true (v := (.bool true)) rfl rfl rfl rfl ?_
   refine WL.nil ?_
   have hq : true = b5 := Option.some.inj (show some true = some b5 from hm1)
   subst hq
   exact ⟨rfl, rfl, rfl, rfl, H⟩
  ·
   refine WL.reset (i := 11) (v := .bool false) (congrArg Value.bool hc1) ?_
   refine O.move (v := va2) rfl rfl rfl ?_
   refine O.loadA [(.int .i64 a1.n), (.int .i64 a1.d)] ag77 rfl rfl rfl rfl (H.cell 1 rfl) ?_
   refine O.loadA [(.int .i64 a0.n), (.int .i64 a0.d)] ag77 rfl rfl rfl rfl (H.cell 0 rfl) ?_
   obtain ⟨t1, hy1, hm1⟩ := bind_some hm1
   refine O.callV rfl rfl rfl rfl (ha2 _ H.base a1 a0 _ hy1) ?_
   rintro _ w5 hb5 rfl
   have H := H.ext hb5
   refine O.pick_false (v := (.bool t1)) rfl rfl rfl rfl ?_
   refine WL.nil ?_
   have hq : t1 = b5 := Option.some.inj (show some t1 = some b5 from hm1)
   subst hq
   exact ⟨rfl, rfl, rfl, rfl, H⟩
 ·
  rintro f w ⟨hf3, hf4, hf6, hf16, H⟩
  obtain ⟨u1, rfl⟩ := up4 hf3 hf4 hf6 hf16
  refine WL.nil ?_
  rcases ite_some hm with ⟨hc2, hm⟩ | ⟨hc2, hm⟩
  ·
   refine W.cond_true (congrArg Value.bool hc2) ?_
   refine W.seq ?_
   refine W.region ?_
   refine O.loadA [(.int .i64 a1.n), (.int .i64 a1.d)] ag77 rfl rfl rfl rfl (H.cell 1 rfl) ?_
   refine O.store 2 0 [(.int .i64 a1.n), (.int .i64 a1.d)] [(.int .i64 a1.n), (.int .i64 a1.d)] sz77 H rfl rfl rfl rfl rfl rfl ⟨⟨rfl, rfl⟩, rfl⟩ (one_cons rfl (one_cons rfl one_nil)) ?_
   intro w6 H
   refine WL.nil ?_
   refine W.ret ?_
   have hq : a1 = r0 := Option.some.inj (show some a1 = some r0 from hm)
   subst hq
   exact ends1 Try.results57 ⟨_, rfl, run_loadVar_agg ag77 rfl (H.cell 2 rfl)⟩ ⟨_, rfl, H.base, rfl⟩
  ·
   refine W.cond_false (congrArg Value.bool hc2) ?_
   refine W.skip ?_
   refine W.seq ?_
   refine W.region ?_
   refine O.loadA [(.int .i64 a0.n), (.int .i64 a0.d)] ag77 rfl rfl rfl rfl (H.cell 0 rfl) ?_
   refine O.store 2 0 [(.int .i64 a0.n), (.int .i64 a0.d)] [(.int .i64 a0.n), (.int .i64 a0.d)] sz77 H rfl rfl rfl rfl rfl rfl ⟨⟨rfl, rfl⟩, rfl⟩ (one_cons rfl (one_cons rfl one_nil)) ?_
   intro w7 H
   refine WL.nil ?_
   refine W.ret ?_
   have hq : a0 = r0 := Option.some.inj (show some a0 = some r0 from hm)
   subst hq
   exact ends1 Try.results57 ⟨_, rfl, run_loadVar_agg ag77 rfl (H.cell 2 rfl)⟩ ⟨_, rfl, H.base, rfl⟩

theorem c_transit_fraction_less {w0 : World} (a0 : GFraction) (a1 : GFraction) {r0 : Bool} (hm : transit_fraction_less a0 a1 = some r0) :
  Calls Try.prog 36 #[(.agg (Flat.cells a0).toArray), (.agg (Flat.cells a1).toArray)] w0 (Ret w0 fun _ v => v = (.bool r0)) := by
 unfold transit_fraction_less at hm
 refine calls_of_W Try.func36 rfl Try.ntmps36 (Nat.le_of_ble_eq_true rfl) ?_
 have H := Inv.start (w := w0)
 refine W.seq ?_
 refine W.region ?_
 refine O.box [(.int .i64 a0.n), (.int .i64 a0.d)] H rfl rfl rfl rfl ?_
 intro b1 w1 H hb1
 refine O.box [(.int .i64 a1.n), (.int .i64 a1.d)] H rfl rfl rfl rfl ?_
 intro b2 w2 H hb2
 refine O.assign (v := (.bool false)) rfl rfl rfl ?_
 refine WL.nil ?_
 refine W.seq ?_
 refine W.region ?_
 refine O.fieldAddr fd77_0 rfl rfl rfl ?_
 refine O.load sc3 rfl rfl rfl (H.cell 0 rfl 0 _ rfl) ?_
 refine O.fieldAddr fd77_1 rfl rfl rfl ?_
 refine O.load sc3 rfl rfl rfl (H.cell 1 rfl 1 _ rfl) ?_
 obtain ⟨t1, ht1, hm⟩ := bind_some hm
 refine O.mul rfl rfl rfl rfl ht1 ?_
 refine O.fieldAddr fd77_0 rfl rfl rfl ?_
 refine O.load sc3 rfl rfl rfl (H.cell 1 rfl 0 _ rfl) ?_
 refine O.fieldAddr fd77_1 rfl rfl rfl ?_
 refine O.load sc3 rfl rfl rfl (H.cell 0 rfl 1 _ rfl) ?_
 obtain ⟨t2, ht2, hm⟩ := bind_some hm
 refine O.mul rfl rfl rfl rfl ht2 ?_
 refine O.lss rfl rfl rfl rfl ?_
 refine O.assign (v := (.bool (decide (t1 < t2)))) rfl rfl rfl ?_
 refine WL.nil ?_
 refine W.ret ?_
 have hq : (decide (t1 < t2)) = r0 := Option.some.inj (show some (decide (t1 < t2)) = some r0 from hm)
 subst hq
 exact ends1 Try.results36 rfl ⟨_, rfl, H.base, rfl⟩

theorem c_transit_fraction_greater {w0 : World} (a0 : GFraction) (a1 : GFraction) {r0 : Bool} (hm : transit_fraction_greater a0 a1 = some r0) :
  Calls Try.prog 59 #[(.agg (Flat.cells a0).toArray), (.agg (Flat.cells a1).toArray)] w0 (Ret w0 fun _ v => v = (.bool r0)) := by
 unfold transit_fraction_greater at hm
 refine calls_of_W Try.func59 rfl Try.ntmps59 (Nat.le_of_ble_eq_true rfl) ?_
 have H := Inv.start (w := w0)
 refine W.seq ?_
 refine W.region ?_
 refine O.box [(.int .i64 a0.n), (.int .i64 a0.d)] H rfl rfl rfl rfl ?_
 intro b1 w1 H hb1
 refine O.box [(.int .i64 a1.n), (.int .i64 a1.d)] H rfl rfl rfl rfl ?_
 intro b2 w2 H hb2
 refine O.assign (v := (.bool false)) rfl rfl rfl ?_
 refine WL.nil ?_
 refine W.seq ?_
 refine W.region ?_
 refine O.loadA [(.int .i64 a1.n), (.int .i64 a1.d)] ag77 rfl rfl rfl rfl (H.cell 1 rfl) ?_
 refine O.loadA [(.int .i64 a0.n), (.int .i64 a0.d)] ag77 rfl rfl rfl rfl (H.cell 0 rfl) ?_
 obtain ⟨t1, hy1, hm⟩ := bind_some hm
 refine O.call Try.call36 rfl rfl rfl (c_transit_fraction_less a1 a0 hy1) ?_
 rintro _ w3 hb3 rfl
 have H := H.ext hb3
 refine O.assign (v := (.bool t1)) rfl rfl rfl ?_
 refine WL.nil ?_
 refine W.ret ?_
 have hq : t1 = r0 := Option.some.inj (show some t1 = some r0 from hm)
 subst hq
 exact ends1 Try.results59 rfl ⟨_, rfl, H.base, rfl⟩

set_option maxRecDepth 20000 in
theorem c_transit_reach_asks {w0 : World} (b0 : Nat) (a0 : GReach) (hb0 : w0.heap[b0]? = some (.cells (Flat.cells a0).toArray 79 (0, 0))) (a1 : Int) (a2 : Int) {r0 : GReach} (hm : transit_reach_asks a0 a1 a2 = some r0) :
  Calls Try.prog 42 #[(.pointer (some ⟨b0, 0, none⟩)), (.int .i64 a1), (.int .i64 a2)] w0 (fun e w => ∃ v, e = .returned v ∧ InvD (fun x => x = b0) w0 w [boxI b0 79 (Flat.cells r0)] ∧ v = .tuple #[]) := by
 unfold transit_reach_asks at hm
 refine calls_of_W Try.func42 rfl Try.ntmps42 (Nat.le_of_ble_eq_true rfl) ?_
 have H : InvD (fun x => x = b0) w0 w0 [boxI b0 79 [(.int .i64 a0.lo.n), (.int .i64 a0.lo.d), (.int .i64 a0.hi.n), (.int .i64 a0.hi.d), (.bool a0.ok)]] := InvD.startX hb0
 obtain ⟨⟨s1, s2, s3, s4, s5⟩, hm1, hm⟩ := bind_some hm
 refine W.via (fun f w => f 0 = (.pointer (some ⟨b0, 0, none⟩)) ∧ InvD (fun x => x = b0) w0 w [boxI b0 79 [(.int .i64 s1), (.int .i64 s2), (.int .i64 s3), (.int .i64 s4), (.bool s5)]]) ?_ ?_
 ·
  refine W.block ?_
  refine W.seq ?_
  refine W.region ?_
  refine O.move (v := (.int .i64 a2)) rfl rfl rfl ?_
  refine O.gtr rfl rfl rfl rfl ?_
  refine O.assign (v := (.bool (decide (0 < a2)))) rfl rfl rfl ?_
  refine WL.nil ?_
  obtain ⟨⟨s6, s7, s8, s9, s10⟩, hm2, hm1⟩ := bind_some hm1
  refine W.via (fun f w => f 0 = (.pointer (some ⟨b0, 0, none⟩)) ∧ InvD (fun x => x = b0) w0 w [boxI b0 79 [(.int .i64 s6), (.int .i64 s7), (.int .i64 s8), (.int .i64 s9), (.bool s10)]]) ?_ ?_
  ·
   rcases ite_some hm2 with ⟨hc1, hm2⟩ | ⟨hc1, hm2⟩
   ·
    refine W.cond_true (congrArg Value.bool hc1) ?_
    obtain ⟨t1, hy1, hm2⟩ := bind_some hm2
    obtain ⟨t2, hy2, hm2⟩ := bind_some hm2
    refine W.drawN 9 (fun f => f 0 = (.pointer (some ⟨b0, 0, none⟩)) ∧ f 9 = (.pointer (some ⟨b0, 0, none⟩)) ∧ f 17 = (.agg (Flat.cells t2).toArray)) fol (by kernel_rfl) ?_ ?_
    ·
     refine PL.of (fun _ w8 _ hx => O.move (v := (.pointer (some ⟨b0, 0, none⟩))) rfl rfl rfl (WL.nil ⟨rfl, hx⟩)) ?_
     refine PL.of (fun _ w8 _ hx => O.move (v := (.pointer (some ⟨b0, 0, none⟩))) rfl rfl rfl (WL.nil ⟨rfl, hx⟩)) ?_
     refine PL.of (fun _ w8 _ hx => O.nilCheck rfl rfl rfl (WL.nil ⟨rfl, hx⟩)) ?_
     refine PL.of (fun _ w8 _ hx => O.fieldAddr fd79_0 rfl rfl rfl (WL.nil ⟨rfl, hx⟩)) ?_
     refine PL.of (fun _ w8 _ hx => by have H := H.ext hx; exact O.loadA (q := ⟨b0, 0, none⟩) [(.int .i64 a0.lo.n), (.int .i64 a0.lo.d)] ag77 rfl rfl rfl rfl (cell_part (o := 0) (k := 2) (H.cell 0 rfl) rfl) (WL.nil ⟨rfl, hx⟩)) ?_
     refine PL.of (fun _ w8 _ hx => O.move (v := (.int .i64 a1)) rfl rfl rfl (WL.nil ⟨rfl, hx⟩)) ?_
     refine PL.of (fun _ w8 _ hx => O.move (v := (.int .i64 a2)) rfl rfl rfl (WL.nil ⟨rfl, hx⟩)) ?_
     refine PL.of (fun _ w8 _ hx => O.call Try.call58 rfl rfl rfl (c_transit_over _ _ hy1) (by rintro _ _ hb rfl; exact WL.nil ⟨rfl, hx.trans (hb.mono hx.size)⟩)) ?_
     refine PL.of (fun _ w8 _ hx => O.call Try.call57 rfl rfl rfl (c_transit_keep_fraction a0.lo t1 _ (fun x0 x1 => transit_fraction_greater x0 x1) (fun w hw x0 x1 _ hy => callsV_mk Try.call59 (c_transit_fraction_greater x0 x1 hy)) hy2) (by rintro _ _ hb rfl; exact WL.nil ⟨rfl, hx.trans (hb.mono hx.size)⟩)) ?_
     refine PL.nil ?_
     exact ⟨rfl, rfl, rfl⟩
    ·
     rintro f w ⟨hf0, hf9, hf17⟩ hmd hx
     have H := H.ext hx
     obtain ⟨u1, rfl⟩ := up3 hf0 hf9 hf17
     refine O.nilCheck rfl rfl rfl ?_
     refine O.fieldAddr fd79_0 rfl rfl rfl ?_
     refine O.store 0 0 [(.int .i64 t2.n), (.int .i64 t2.d)] [(.int .i64 t2.n), (.int .i64 t2.d), (.int .i64 a0.hi.n), (.int .i64 a0.hi.d), (.bool a0.ok)] sz77 H rfl rfl rfl rfl rfl rfl ⟨⟨rfl, rfl⟩, rfl⟩ (one_cons rfl (one_cons rfl one_nil)) ?_
     intro w1 H
     refine WL.nil ?_
     have hq : (t2.n, t2.d, a0.hi.n, a0.hi.d, a0.ok) = (s6, s7, s8, s9, s10) := Option.some.inj (show some (t2.n, t2.d, a0.hi.n, a0.hi.d, a0.ok) = some (s6, s7, s8, s9, s10) from hm2)
     obtain ⟨he0, hq0⟩ := Prod.mk.inj hq; clear hq; subst he0
     obtain ⟨he1, hq1⟩ := Prod.mk.inj hq0; clear hq0; subst he1
     obtain ⟨he2, hq2⟩ := Prod.mk.inj hq1; clear hq1; subst he2
     obtain ⟨he3, hq3⟩ := Prod.mk.inj hq2; clear hq2; subst he3
     subst hq3
     exact ⟨rfl, H⟩
   ·
    refine W.cond_false (congrArg Value.bool hc1) ?_
    refine W.seq ?_
    refine W.region ?_
    refine O.move (v := (.int .i64 a2)) rfl rfl rfl ?_
    refine O.lss rfl rfl rfl rfl ?_
    refine O.assign (v := (.bool (decide (a2 < 0)))) rfl rfl rfl ?_
    refine WL.nil ?_
    obtain ⟨⟨s11, s12, s13⟩, hm3, hm2⟩ := bind_some hm2
    refine W.via (fun f w => f 0 = (.pointer (some ⟨b0, 0, none⟩)) ∧ InvD (fun x => x = b0) w0 w [boxI b0 79 [(.int .i64 a0.lo.n), (.int .i64 a0.lo.d), (.int .i64 s11), (.int .i64 s12), (.bool s13)]]) ?_ ?_
    ·
     rcases ite_some hm3 with ⟨hc2, hm3⟩ | ⟨hc2, hm3⟩
     ·
      refine W.cond_true (congrArg Value.bool hc2) ?_
      obtain ⟨t3, hy3, hm3⟩ := bind_some hm3
      obtain ⟨t4, hy4, hm3⟩ := bind_some hm3
      refine W.drawN 9 (fun f => f 0 = (.pointer (some ⟨b0, 0, none⟩)) ∧ f 23 = (.pointer (some ⟨b0, 0, none⟩)) ∧ f 31 = (.agg (Flat.cells t4).toArray)) fol (by kernel_rfl) ?_ ?_
      ·
       refine PL.of (fun _ w8 _ hx => O.move (v := (.pointer (some ⟨b0, 0, none⟩))) rfl rfl rfl (WL.nil ⟨rfl, hx⟩)) ?_
       refine PL.of (fun _ w8 _ hx => O.move (v := (.pointer (some ⟨b0, 0, none⟩))) rfl rfl rfl (WL.nil ⟨rfl, hx⟩)) ?_
       refine PL.of (fun _ w8 _ hx => O.nilCheck rfl rfl rfl (WL.nil ⟨rfl, hx⟩)) ?_
       refine PL.of (fun _ w8 _ hx => O.fieldAddr fd79_1 rfl rfl rfl (WL.nil ⟨rfl, hx⟩)) ?_
       refine PL.of (fun _ w8 _ hx => by have H := H.ext hx; exact O.loadA (q := ⟨b0, 2, none⟩) [(.int .i64 a0.hi.n), (.int .i64 a0.hi.d)] ag77 rfl rfl rfl rfl (cell_part (o := 2) (k := 2) (H.cell 0 rfl) rfl) (WL.nil ⟨rfl, hx⟩)) ?_
       refine PL.of (fun _ w8 _ hx => O.move (v := (.int .i64 a1)) rfl rfl rfl (WL.nil ⟨rfl, hx⟩)) ?_
       refine PL.of (fun _ w8 _ hx => O.move (v := (.int .i64 a2)) rfl rfl rfl (WL.nil ⟨rfl, hx⟩)) ?_
       refine PL.of (fun _ w8 _ hx => O.call Try.call58 rfl rfl rfl (c_transit_over _ _ hy3) (by rintro _ _ hb rfl; exact WL.nil ⟨rfl, hx.trans (hb.mono hx.size)⟩)) ?_
       refine PL.of (fun _ w8 _ hx => O.call Try.call57 rfl rfl rfl (c_transit_keep_fraction a0.hi t3 _ (fun x0 x1 => transit_fraction_less x0 x1) (fun w hw x0 x1 _ hy => callsV_mk Try.call36 (c_transit_fraction_less x0 x1 hy)) hy4) (by rintro _ _ hb rfl; exact WL.nil ⟨rfl, hx.trans (hb.mono hx.size)⟩)) ?_
       refine PL.nil ?_
       exact ⟨rfl, rfl, rfl⟩
      ·
       rintro f w ⟨hf0, hf23, hf31⟩ hmd hx
       have H := H.ext hx
       obtain ⟨u2, rfl⟩ := up3 hf0 hf23 hf31
       refine O.nilCheck rfl rfl rfl ?_
       refine O.fieldAddr fd79_1 rfl rfl rfl ?_
       refine O.store 0 2 [(.int .i64 t4.n), (.int .i64 t4.d)] [(.int .i64 a0.lo.n), (.int .i64 a0.lo.d), (.int .i64 t4.n), (.int .i64 t4.d), (.bool a0.ok)] sz77 H rfl rfl rfl rfl rfl rfl ⟨⟨rfl, rfl⟩, rfl⟩ (one_cons rfl (one_cons rfl one_nil)) ?_
       intro w2 H
       refine WL.nil ?_
       have hq : (t4.n, t4.d, a0.ok) = (s11, s12, s13) := Option.some.inj (show some (t4.n, t4.d, a0.ok) = some (s11, s12, s13) from hm3)
       obtain ⟨he0, hq0⟩ := Prod.mk.inj hq; clear hq; subst he0
       obtain ⟨he1, hq1⟩ := Prod.mk.inj hq0; clear hq0; subst he1
       subst hq1
       exact ⟨rfl, H⟩
     ·
      refine W.cond_false (congrArg Value.bool hc2) ?_
      refine W.seq ?_
      refine W.region ?_
      refine O.move (v := (.int .i64 a1)) rfl rfl rfl ?_
      refine O.gtr rfl rfl rfl rfl ?_
      refine O.assign (v := (.bool (decide (0 < a1)))) rfl rfl rfl ?_
      refine WL.nil ?_
      obtain ⟨s14, hm4, hm3⟩ := bind_some hm3
      refine W.via (fun f w => f 0 = (.pointer (some ⟨b0, 0, none⟩)) ∧ InvD (fun x => x = b0) w0 w [boxI b0 79 [(.int .i64 a0.lo.n), (.int .i64 a0.lo.d), (.int .i64 a0.hi.n), (.int .i64 a0.hi.d), (.bool s14)]]) ?_ ?_
      ·
       rcases ite_some hm4 with ⟨hc3, hm4⟩ | ⟨hc3, hm4⟩
       ·
        refine W.cond_true (congrArg Value.bool hc3) ?_
        refine W.region ?_
        refine O.move (v := (.pointer (some ⟨b0, 0, none⟩))) rfl rfl rfl ?_
        refine O.nilCheck rfl rfl rfl ?_
        refine O.fieldAddr fd79_2 rfl rfl rfl ?_
        refine O.store 0 4 [(.bool false)] [(.int .i64 a0.lo.n), (.int .i64 a0.lo.d), (.int .i64 a0.hi.n), (.int .i64 a0.hi.d), (.bool false)] sz4 H rfl rfl rfl rfl rfl rfl ⟨⟨rfl, rfl⟩, rfl⟩ (one_cons rfl one_nil) ?_
        intro w3 H
        refine WL.nil ?_
        have hq : false = s14 := Option.some.inj (show some false = some s14 from hm4)
        subst hq
        exact ⟨rfl, H⟩
       ·
        refine W.cond_false (congrArg Value.bool hc3) ?_
        refine W.skip ?_
        have hq : a0.ok = s14 := Option.some.inj (show some a0.ok = some s14 from hm4)
        subst hq
        exact ⟨rfl, H⟩
      ·
       rintro f w ⟨hf0, H⟩
       obtain ⟨u3, rfl⟩ := up1 hf0
       have hq : (a0.hi.n, a0.hi.d, s14) = (s11, s12, s13) := Option.some.inj (show some (a0.hi.n, a0.hi.d, s14) = some (s11, s12, s13) from hm3)
       obtain ⟨he0, hq0⟩ := Prod.mk.inj hq; clear hq; subst he0
       obtain ⟨he1, hq1⟩ := Prod.mk.inj hq0; clear hq0; subst he1
       subst hq1
       exact ⟨rfl, H⟩
    ·
     rintro f w ⟨hf0, H⟩
     obtain ⟨u4, rfl⟩ := up1 hf0
     have hq : (a0.lo.n, a0.lo.d, s11, s12, s13) = (s6, s7, s8, s9, s10) := Option.some.inj (show some (a0.lo.n, a0.lo.d, s11, s12, s13) = some (s6, s7, s8, s9, s10) from hm2)
     obtain ⟨he0, hq0⟩ := Prod.mk.inj hq; clear hq; subst he0
     obtain ⟨he1, hq1⟩ := Prod.mk.inj hq0; clear hq0; subst he1
     obtain ⟨he2, hq2⟩ := Prod.mk.inj hq1; clear hq1; subst he2
     obtain ⟨he3, hq3⟩ := Prod.mk.inj hq2; clear hq2; subst he3
     subst hq3
     exact ⟨rfl, H⟩
  ·
   rintro f w ⟨hf0, H⟩
   obtain ⟨u5, rfl⟩ := up1 hf0
   have hq : (s6, s7, s8, s9, s10) = (s1, s2, s3, s4, s5) := Option.some.inj (show some (s6, s7, s8, s9, s10) = some (s1, s2, s3, s4, s5) from hm1)
   obtain ⟨he0, hq0⟩ := Prod.mk.inj hq; clear hq; subst he0
   obtain ⟨he1, hq1⟩ := Prod.mk.inj hq0; clear hq0; subst he1
   obtain ⟨he2, hq2⟩ := Prod.mk.inj hq1; clear hq1; subst he2
   obtain ⟨he3, hq3⟩ := Prod.mk.inj hq2; clear hq2; subst he3
   subst hq3
   exact ⟨rfl, H⟩
 ·
  rintro f w ⟨hf0, H⟩
  obtain ⟨u6, rfl⟩ := up1 hf0
  have hq : (GReach.mk (GFraction.mk s1 s2) (GFraction.mk s3 s4) s5) = r0 := Option.some.inj (show some (GReach.mk (GFraction.mk s1 s2) (GFraction.mk s3 s4) s5) = some r0 from hm)
  subst hq
  exact ends0 Try.results42  ⟨_, rfl, H.pick [0] [boxI b0 79 [(.int .i64 s1), (.int .i64 s2), (.int .i64 s3), (.int .i64 s4), (.bool s5)]] rfl (by decide), rfl⟩

set_option maxRecDepth 20000 in
theorem c_transit_azimuths {w0 : World} (va0 : Value) (a0 : (List GStrip)) (ha0 : SliceR w0 va0 a0) {r0 : GReach} (hm : transit_azimuths a0 = some r0) :
  Calls Try.prog 35 #[va0] w0 (Ret w0 fun _ v => v = (.agg (Flat.cells r0).toArray)) := by
 unfold transit_azimuths at hm
 refine calls_of_W Try.func35 rfl Try.ntmps35 (Nat.le_of_ble_eq_true rfl) ?_
 have H := Inv.start (w := w0)
 refine W.seq ?_
 refine W.region ?_
 refine O.alloc [(.int .i64 0), (.int .i64 0), (.int .i64 0), (.int .i64 0), (.bool false)] ze79 H rfl rfl rfl ?_
 intro b1 w1 H hb1
 refine WL.nil ?_
 refine W.seq ?_
 refine W.region ?_
 refine O.build (v := (.agg (Flat.cells (GReach.mk (GFraction.mk 0 0) (GFraction.mk 0 0) true)).toArray)) (fun w => bd79_2 _ w) rfl rfl rfl ?_
 refine O.alloc [(.int .i64 0), (.int .i64 0), (.int .i64 0), (.int .i64 0), (.bool false)] ze79 H rfl rfl rfl ?_
 intro b2 w2 H hb2
 refine O.store 1 0 [(.int .i64 0), (.int .i64 0), (.int .i64 0), (.int .i64 0), (.bool true)] [(.int .i64 0), (.int .i64 0), (.int .i64 0), (.int .i64 0), (.bool true)] sz79 H rfl rfl rfl rfl rfl rfl ⟨⟨rfl, rfl⟩, rfl⟩ (one_cons rfl (one_cons rfl (one_cons rfl (one_cons rfl (one_cons rfl one_nil))))) ?_
 intro w3 H
 refine WL.nil ?_
 refine W.seq ?_
 refine W.seq ?_
 refine W.region ?_
 refine O.move (v := va0) rfl rfl rfl ?_
 refine O.lenS Try.underlying65 (H.arg ha0) rfl rfl rfl ?_
 refine O.move (v := (.int .i64 0)) rfl rfl rfl ?_
 refine WL.nil ?_
 obtain ⟨⟨s1, s2, s3, s4, s5⟩, hm1, hm⟩ := bind_some hm
 refine W.via (fun f w => f 2 = (.pointer (some ⟨b1, 0, none⟩)) ∧ f 3 = (.pointer (some ⟨b2, 0, none⟩)) ∧ Inv w0 w [boxI b1 79 [(.int .i64 0), (.int .i64 0), (.int .i64 0), (.int .i64 0), (.bool false)], boxI b2 79 [(.int .i64 s1), (.int .i64 s2), (.int .i64 s3), (.int .i64 s4), (.bool s5)]]) ?_ ?_
 ·
  refine W.block ?_
  refine W.rangeL (i := 0) hm1 (fun rem ik1 s f w => ∃ z6 : Int, ∃ z7 : Int, ∃ z8 : Int, ∃ z9 : Int, ∃ z10 : Bool, (z6, z7, z8, z9, z10) = s ∧ a0.drop ik1 = rem ∧ f 11 = .int .i64 (ik1 : Int) ∧ f 10 = (.int .i64 ((a0.length : Nat) : Int)) ∧ f 0 = va0 ∧ f 2 = (.pointer (some ⟨b1, 0, none⟩)) ∧ f 3 = (.pointer (some ⟨b2, 0, none⟩)) ∧ f 9 = va0 ∧ Inv w0 w [boxI b1 79 [(.int .i64 0), (.int .i64 0), (.int .i64 0), (.int .i64 0), (.bool false)], boxI b2 79 [(.int .i64 z6), (.int .i64 z7), (.int .i64 z8), (.int .i64 z9), (.bool z10)]]) ?_ ?_ ?_
  ·
   exact ⟨_, _, _, _, _, rfl, List.drop_zero, rfl, rfl, rfl, rfl, rfl, rfl, H⟩
  ·
   rintro yk1 xs ik1 _ st f w ⟨z6, z7, z8, z9, z10, rfl, hdropk1, hf11, hf10, hf0, hf2, hf3, hf9, H⟩ hm2
   have hltk1 := drop_lt hdropk1; have hixk1 := drop_idx hdropk1
   obtain ⟨u1, rfl⟩ := up6 hf11 hf10 hf0 hf2 hf3 hf9
   have hinck1 := addI_lt hltk1 (H.arg ha0).len_le
   refine W.seq ?_
   refine W.region ?_
   refine O.lss rfl rfl rfl rfl ?_
   refine WL.nil ?_
   refine W.seq ?_
   refine W.cond_true (congrArg Value.bool (decide_eq_true hltk1)) ?_
   refine W.skip ?_
   refine W.seq ?_
   obtain ⟨⟨s6, s7, s8, s9, s10⟩, hm3, hm2⟩ := bind_some hm2
   refine W.via (fun f w => f 0 = va0 ∧ f 2 = (.pointer (some ⟨b1, 0, none⟩)) ∧ f 3 = (.pointer (some ⟨b2, 0, none⟩)) ∧ f 9 = va0 ∧ f 10 = (.int .i64 ((a0.length : Nat) : Int)) ∧ f 11 = (.int .i64 (ik1 : Int)) ∧ Inv w0 w [boxI b1 79 [(.int .i64 0), (.int .i64 0), (.int .i64 0), (.int .i64 0), (.bool false)], boxI b2 79 [(.int .i64 s6), (.int .i64 s7), (.int .i64 s8), (.int .i64 s9), (.bool s10)]]) ?_ ?_
   ·
    refine W.block ?_
    refine W.seq ?_
    refine W.region ?_
    obtain ⟨p1, hp1, hrp1⟩ := fix_indexAddr Try.underlying65 sz72 ha0 hixk1
    refine hrp1 rfl rfl rfl rfl ?_
    refine O.loadA [(.int .i64 yk1.shift), (.int .i64 yk1.lo), (.int .i64 yk1.hi)] ag72 rfl rfl rfl rfl ((hp1.mono H.base).flat) ?_
    refine O.alloc [(.int .i64 0), (.int .i64 0), (.int .i64 0)] ze72 H rfl rfl rfl ?_
    intro b3 w4 H hb3
    refine O.store 2 0 [(.int .i64 yk1.shift), (.int .i64 yk1.lo), (.int .i64 yk1.hi)] [(.int .i64 yk1.shift), (.int .i64 yk1.lo), (.int .i64 yk1.hi)] sz72 H rfl rfl rfl rfl rfl rfl ⟨⟨rfl, rfl⟩, rfl⟩ (one_cons rfl (one_cons rfl (one_cons rfl one_nil))) ?_
    intro w5 H
    refine WL.nil ?_
    refine W.seq ?_
    refine W.region ?_
    refine O.move (v := va0) rfl rfl rfl ?_
    refine O.lenS Try.underlying65 (H.arg ha0) rfl rfl rfl ?_
    refine O.move (v := (.int .i64 0)) rfl rfl rfl ?_
    refine WL.nil ?_
    obtain ⟨⟨s11, s12, s13, s14, s15⟩, hm4, hm3⟩ := bind_some hm3
    refine W.via (fun f w => f 0 = va0 ∧ f 2 = (.pointer (some ⟨b1, 0, none⟩)) ∧ f 3 = (.pointer (some ⟨b2, 0, none⟩)) ∧ f 9 = va0 ∧ f 10 = (.int .i64 ((a0.length : Nat) : Int)) ∧ f 11 = (.int .i64 (ik1 : Int)) ∧ Inv w0 w [boxI b1 79 [(.int .i64 0), (.int .i64 0), (.int .i64 0), (.int .i64 0), (.bool false)], boxI b2 79 [(.int .i64 s11), (.int .i64 s12), (.int .i64 s13), (.int .i64 s14), (.bool s15)]]) ?_ ?_
    ·
     refine W.block ?_
     refine W.rangeL (i := 0) hm4 (fun rem ik2 s f w => ∃ z21 : Int, ∃ z22 : Int, ∃ z23 : Int, ∃ z24 : Int, ∃ z25 : Bool, (z21, z22, z23, z24, z25) = s ∧ a0.drop ik2 = rem ∧ f 17 = .int .i64 (ik2 : Int) ∧ f 16 = (.int .i64 ((a0.length : Nat) : Int)) ∧ f 0 = va0 ∧ f 2 = (.pointer (some ⟨b1, 0, none⟩)) ∧ f 3 = (.pointer (some ⟨b2, 0, none⟩)) ∧ f 5 = (.pointer (some ⟨b3, 0, none⟩)) ∧ f 9 = va0 ∧ f 10 = (.int .i64 ((a0.length : Nat) : Int)) ∧ f 11 = (.int .i64 (ik1 : Int)) ∧ f 15 = va0 ∧ Inv w0 w [boxI b1 79 [(.int .i64 0), (.int .i64 0), (.int .i64 0), (.int .i64 0), (.bool false)], boxI b2 79 [(.int .i64 z21), (.int .i64 z22), (.int .i64 z23), (.int .i64 z24), (.bool z25)], boxI b3 72 [(.int .i64 yk1.shift), (.int .i64 yk1.lo), (.int .i64 yk1.hi)]]) ?_ ?_ ?_
     ·
      exact ⟨_, _, _, _, _, rfl, List.drop_zero, rfl, rfl, rfl, rfl, rfl, rfl, rfl, rfl, rfl, rfl, H⟩
     ·
      rintro yk2 xs ik2 _ st f w ⟨z21, z22, z23, z24, z25, rfl, hdropk2, hf17, hf16, hf0, hf2, hf3, hf5, hf9, hf10, hf11, hf15, H⟩ hm5
      have hltk2 := drop_lt hdropk2; have hixk2 := drop_idx hdropk2
      obtain ⟨u2, rfl⟩ : ∃ u2, f = (upd (upd (upd (upd (upd (upd (upd (upd (upd (upd u2 17 (.int .i64 (ik2 : Int))) 16 (.int .i64 ((a0.length : Nat) : Int))) 0 va0) 2 (.pointer (some ⟨b1, 0, none⟩))) 3 (.pointer (some ⟨b2, 0, none⟩))) 5 (.pointer (some ⟨b3, 0, none⟩))) 9 va0) 10 (.int .i64 ((a0.length : Nat) : Int))) 11 (.int .i64 (ik1 : Int))) 15 va0) := ⟨f, by rw [upd_self hf17, upd_self hf16, upd_self hf0, upd_self hf2, upd_self hf3, upd_self hf5, upd_self hf9, upd_self hf10, upd_self hf11, upd_self hf15]⟩
      have hinck2 := addI_lt hltk2 (H.arg ha0).len_le
      refine W.seq ?_
      refine W.region ?_
      refine O.lss rfl rfl rfl rfl ?_
      refine WL.nil ?_
      refine W.seq ?_
      refine W.cond_true (congrArg Value.bool (decide_eq_true hltk2)) ?_
      refine W.skip ?_
      refine W.seq ?_
      refine W.block ?_
      refine W.seq ?_
      refine W.region ?_
      obtain ⟨p2, hp2, hrp2⟩ := fix_indexAddr Try.underlying65 sz72 ha0 hixk2
      refine hrp2 rfl rfl rfl rfl ?_
      refine O.loadA [(.int .i64 yk2.shift), (.int .i64 yk2.lo), (.int .i64 yk2.hi)] ag72 rfl rfl rfl rfl ((hp2.mono H.base).flat) ?_
      refine O.alloc [(.int .i64 0), (.int .i64 0), (.int .i64 0)] ze72 H rfl rfl rfl ?_
      intro b4 w6 H hb4
      refine O.store 3 0 [(.int .i64 yk2.shift), (.int .i64 yk2.lo), (.int .i64 yk2.hi)] [(.int .i64 yk2.shift), (.int .i64 yk2.lo), (.int .i64 yk2.hi)] sz72 H rfl rfl rfl rfl rfl rfl ⟨⟨rfl, rfl⟩, rfl⟩ (one_cons rfl (one_cons rfl (one_cons rfl one_nil))) ?_
      intro w7 H
      refine WL.nil ?_
      refine W.region ?_
      refine O.fieldAddr fd72_1 rfl rfl rfl ?_
      refine O.load sc3 rfl rfl rfl (H.cell 2 rfl 1 _ rfl) ?_
      refine O.fieldAddr fd72_2 rfl rfl rfl ?_
      refine O.load sc3 rfl rfl rfl (H.cell 3 rfl 2 _ rfl) ?_
      obtain ⟨t1, ht1, hm5⟩ := bind_some hm5
      refine O.sub rfl rfl rfl rfl ht1 ?_
      obtain ⟨t2, ht2, hm5⟩ := bind_some hm5
      refine O.mul rfl rfl rfl rfl ht2 ?_
      refine O.fieldAddr fd72_0 rfl rfl rfl ?_
      refine O.load sc3 rfl rfl rfl (H.cell 2 rfl 0 _ rfl) ?_
      refine O.fieldAddr fd72_0 rfl rfl rfl ?_
      refine O.load sc3 rfl rfl rfl (H.cell 3 rfl 0 _ rfl) ?_
      obtain ⟨t3, ht3, hm5⟩ := bind_some hm5
      refine O.sub rfl rfl rfl rfl ht3 ?_
      obtain ⟨t4, hy1, hm5⟩ := bind_some hm5
      refine O.callX 1 H rfl Try.call42 rfl rfl rfl (c_transit_reach_asks _ (GReach.mk (GFraction.mk z21 z22) (GFraction.mk z23 z24) z25) (H.boxAt 1 rfl) _ _ hy1) ?_
      rintro _ w8 H rfl
      refine WL.nil ?_
      refine W.region ?_
      refine O.add rfl rfl rfl rfl hinck2 ?_
      refine O.move (v := .int .i64 ((ik2 : Int) + 1)) rfl rfl rfl ?_
      refine WL.nil ?_
      have H := H.keep [0, 1, 2] [boxI b1 79 [(.int .i64 0), (.int .i64 0), (.int .i64 0), (.int .i64 0), (.bool false)], boxI b2 79 [(.int .i64 t4.lo.n), (.int .i64 t4.lo.d), (.int .i64 t4.hi.n), (.int .i64 t4.hi.d), (.bool t4.ok)], boxI b3 72 [(.int .i64 yk1.shift), (.int .i64 yk1.lo), (.int .i64 yk1.hi)]] rfl (by decide)
      obtain rfl := Option.some.inj hm5
      exact ⟨_, rfl, _, _, _, _, _, rfl, drop_next hdropk2, rfl, rfl, rfl, rfl, rfl, rfl, rfl, rfl, rfl, rfl, H⟩
     ·
      rintro ik2 _ f w ⟨z21, z22, z23, z24, z25, rfl, hdropk2, hf17, hf16, hf0, hf2, hf3, hf5, hf9, hf10, hf11, hf15, H⟩ hfin
      have hltk2 := drop_end hdropk2
      obtain ⟨u3, rfl⟩ : ∃ u3, f = (upd (upd (upd (upd (upd (upd (upd (upd (upd (upd u3 17 (.int .i64 (ik2 : Int))) 16 (.int .i64 ((a0.length : Nat) : Int))) 0 va0) 2 (.pointer (some ⟨b1, 0, none⟩))) 3 (.pointer (some ⟨b2, 0, none⟩))) 5 (.pointer (some ⟨b3, 0, none⟩))) 9 va0) 10 (.int .i64 ((a0.length : Nat) : Int))) 11 (.int .i64 (ik1 : Int))) 15 va0) := ⟨f, by rw [upd_self hf17, upd_self hf16, upd_self hf0, upd_self hf2, upd_self hf3, upd_self hf5, upd_self hf9, upd_self hf10, upd_self hf11, upd_self hf15]⟩
      refine W.seq ?_
      refine W.region ?_
      refine O.lss rfl rfl rfl rfl ?_
      refine WL.nil ?_
      refine W.seq ?_
      refine W.cond_false (congrArg Value.bool (decide_eq_false hltk2)) ?_
      refine W.exit ?_
      have hq : (z21, z22, z23, z24, z25) = (s11, s12, s13, s14, s15) := hfin
      obtain ⟨he0, hq0⟩ := Prod.mk.inj hq; clear hq; subst he0
      obtain ⟨he1, hq1⟩ := Prod.mk.inj hq0; clear hq0; subst he1
      obtain ⟨he2, hq2⟩ := Prod.mk.inj hq1; clear hq1; subst he2
      obtain ⟨he3, hq3⟩ := Prod.mk.inj hq2; clear hq2; subst he3
      subst hq3
      have H := H.keep [0, 1] [boxI b1 79 [(.int .i64 0), (.int .i64 0), (.int .i64 0), (.int .i64 0), (.bool false)], boxI b2 79 [(.int .i64 z21), (.int .i64 z22), (.int .i64 z23), (.int .i64 z24), (.bool z25)]] rfl (by decide)
      refine xT rfl ?_
      exact ⟨rfl, rfl, rfl, rfl, rfl, rfl, H⟩
    ·
     rintro f w ⟨hf0, hf2, hf3, hf9, hf10, hf11, H⟩
     obtain ⟨u4, rfl⟩ := up6 hf0 hf2 hf3 hf9 hf10 hf11
     have hq : (s11, s12, s13, s14, s15) = (s6, s7, s8, s9, s10) := Option.some.inj (show some (s11, s12, s13, s14, s15) = some (s6, s7, s8, s9, s10) from hm3)
     obtain ⟨he0, hq0⟩ := Prod.mk.inj hq; clear hq; subst he0
     obtain ⟨he1, hq1⟩ := Prod.mk.inj hq0; clear hq0; subst he1
     obtain ⟨he2, hq2⟩ := Prod.mk.inj hq1; clear hq1; subst he2
     obtain ⟨he3, hq3⟩ := Prod.mk.inj hq2; clear hq2; subst he3
     subst hq3
     exact ⟨rfl, rfl, rfl, rfl, rfl, rfl, H⟩
   ·
    rintro f w ⟨hf0, hf2, hf3, hf9, hf10, hf11, H⟩
    obtain ⟨u5, rfl⟩ := up6 hf0 hf2 hf3 hf9 hf10 hf11
    refine W.region ?_
    refine O.add rfl rfl rfl rfl hinck1 ?_
    refine O.move (v := .int .i64 ((ik1 : Int) + 1)) rfl rfl rfl ?_
    refine WL.nil ?_
    obtain rfl := Option.some.inj hm2
    exact ⟨_, rfl, _, _, _, _, _, rfl, drop_next hdropk1, rfl, rfl, rfl, rfl, rfl, rfl, H⟩
  ·
   rintro ik1 _ f w ⟨z6, z7, z8, z9, z10, rfl, hdropk1, hf11, hf10, hf0, hf2, hf3, hf9, H⟩ hfin
   have hltk1 := drop_end hdropk1
   obtain ⟨u6, rfl⟩ := up6 hf11 hf10 hf0 hf2 hf3 hf9
   refine W.seq ?_
   refine W.region ?_
   refine O.lss rfl rfl rfl rfl ?_
   refine WL.nil ?_
   refine W.seq ?_
   refine W.cond_false (congrArg Value.bool (decide_eq_false hltk1)) ?_
   refine W.exit ?_
   have hq : (z6, z7, z8, z9, z10) = (s1, s2, s3, s4, s5) := hfin
   obtain ⟨he0, hq0⟩ := Prod.mk.inj hq; clear hq; subst he0
   obtain ⟨he1, hq1⟩ := Prod.mk.inj hq0; clear hq0; subst he1
   obtain ⟨he2, hq2⟩ := Prod.mk.inj hq1; clear hq1; subst he2
   obtain ⟨he3, hq3⟩ := Prod.mk.inj hq2; clear hq2; subst he3
   subst hq3
   refine xT rfl ?_
   exact ⟨rfl, rfl, H⟩
 ·
  rintro f w ⟨hf2, hf3, H⟩
  obtain ⟨u7, rfl⟩ := up2 hf2 hf3
  refine W.seq ?_
  refine W.region ?_
  refine O.loadA [(.int .i64 s1), (.int .i64 s2), (.int .i64 s3), (.int .i64 s4), (.bool s5)] ag79 rfl rfl rfl rfl (H.cell 1 rfl) ?_
  refine O.store 0 0 [(.int .i64 s1), (.int .i64 s2), (.int .i64 s3), (.int .i64 s4), (.bool s5)] [(.int .i64 s1), (.int .i64 s2), (.int .i64 s3), (.int .i64 s4), (.bool s5)] sz79 H rfl rfl rfl rfl rfl rfl ⟨⟨rfl, rfl⟩, rfl⟩ (one_cons rfl (one_cons rfl (one_cons rfl (one_cons rfl (one_cons rfl one_nil))))) ?_
  intro w9 H
  refine WL.nil ?_
  refine W.ret ?_
  have hq : (GReach.mk (GFraction.mk s1 s2) (GFraction.mk s3 s4) s5) = r0 := Option.some.inj (show some (GReach.mk (GFraction.mk s1 s2) (GFraction.mk s3 s4) s5) = some r0 from hm)
  subst hq
  exact ends1 Try.results35 ⟨_, rfl, run_loadVar_agg ag79 rfl (H.cell 0 rfl)⟩ ⟨_, rfl, H.base, rfl⟩

set_option maxRecDepth 20000 in
theorem c_transit_agree {w0 : World} (va0 : Value) (a0 : (List GStrip)) (ha0 : SliceR w0 va0 a0) {r0 : Bool} (hm : transit_agree a0 = some r0) :
  Calls Try.prog 20 #[va0] w0 (Ret w0 fun _ v => v = (.bool r0)) := by
 unfold transit_agree at hm
 refine calls_of_W Try.func20 rfl Try.ntmps20 (Nat.le_of_ble_eq_true rfl) ?_
 have H := Inv.start (w := w0)
 refine W.seq ?_
 refine W.region ?_
 refine O.assign (v := (.bool false)) rfl rfl rfl ?_
 refine WL.nil ?_
 refine W.seq ?_
 refine W.region ?_
 refine O.move (v := va0) rfl rfl rfl ?_
 obtain ⟨t1, hy1, hm⟩ := bind_some hm
 refine O.call Try.call35 rfl rfl rfl (c_transit_azimuths _ _ (H.arg ha0) hy1) ?_
 rintro _ w1 hb1 rfl
 have H := H.ext hb1
 refine O.alloc [(.int .i64 0), (.int .i64 0), (.int .i64 0), (.int .i64 0), (.bool false)] ze79 H rfl rfl rfl ?_
 intro b1 w2 H hb2
 refine O.store 0 0 [(.int .i64 t1.lo.n), (.int .i64 t1.lo.d), (.int .i64 t1.hi.n), (.int .i64 t1.hi.d), (.bool t1.ok)] [(.int .i64 t1.lo.n), (.int .i64 t1.lo.d), (.int .i64 t1.hi.n), (.int .i64 t1.hi.d), (.bool t1.ok)] sz79 H rfl rfl rfl rfl rfl rfl ⟨⟨rfl, rfl⟩, rfl⟩ (one_cons rfl (one_cons rfl (one_cons rfl (one_cons rfl (one_cons rfl one_nil))))) ?_
 intro w3 H
 refine WL.nil ?_
 refine W.seq ?_
 refine W.region ?_
 refine O.fieldAddr fd79_2 rfl rfl rfl ?_
 refine O.load sc4 rfl rfl rfl (H.cell 0 rfl 4 _ rfl) ?_
 refine O.move (v := (.bool t1.ok)) rfl rfl rfl ?_
 obtain ⟨b2, hm1, hm⟩ := bind_some hm
 refine WL.cut 19 (fun f w => f 27 = .bool b2 ∧ Inv w0 w [boxI b1 79 [(.int .i64 t1.lo.n), (.int .i64 t1.lo.d), (.int .i64 t1.hi.n), (.int .i64 t1.hi.d), (.bool t1.ok)]]) ?_ ?_
 ·
  rcases ite_some hm1 with ⟨hc1, hm1⟩ | ⟨hc1, hm1⟩
  ·
   refine WL.reset (i := 8) (v := .bool true) (congrArg Value.bool hc1) ?_
   refine O.fieldAddr fd79_0 rfl rfl rfl ?_
   refine O.fieldAddr fd77_1 rfl rfl rfl ?_
   refine O.load sc3 rfl rfl rfl (H.cell 0 rfl 1 _ rfl) ?_
   refine O.eql rfl rfl rfl rfl ?_
   refine O.move (v := (.bool (t1.lo.d == 0))) rfl rfl rfl ?_
   refine WL.cut 5 (fun f w => f 3 = (.pointer (some ⟨b1, 0, none⟩)) ∧ f 8 = (.bool true) ∧ f 18 = .bool ((t1.lo.d == 0) || (t1.hi.d == 0)) ∧ Inv w0 w [boxI b1 79 [(.int .i64 t1.lo.n), (.int .i64 t1.lo.d), (.int .i64 t1.hi.n), (.int .i64 t1.hi.d), (.bool t1.ok)]]) ?_ ?_
   ·
    rcases bool_ft (t1.lo.d == 0) with hc2 | hc2
    ·
     refine WL.reset (i := 13) (v := .bool false) (congrArg Value.bool hc2) ?_
     refine O.fieldAddr fd79_1 rfl rfl rfl ?_
     refine O.fieldAddr fd77_1 rfl rfl rfl ?_
     refine O.load sc3 rfl rfl rfl (H.cell 0 rfl 3 _ rfl) ?_
     refine O.eql rfl rfl rfl rfl ?_
     refine O.pick_false (v := (.bool (t1.hi.d == 0))) rfl rfl rfl rfl ?_
     exact WL.nil ⟨rfl, rfl, congrArg Value.bool (or_f hc2), H⟩
    ·
     refine WL.reset (i := 13) (v := .bool true) (congrArg Value.bool hc2) ?_
     refine O.skip rfl rfl ?_
     refine O.skip rfl rfl ?_
     refine O.skip rfl rfl ?_
     refine O.skip rfl rfl ?_
     refine O.pick_true (v := (.bool true)) rfl rfl rfl rfl ?_
     exact WL.nil ⟨rfl, rfl, congrArg Value.bool (or_t hc2), H⟩
   ·
    rintro f w ⟨hf3, hf8, hf18, H⟩
    obtain ⟨u1, rfl⟩ := up3 hf3 hf8 hf18
    refine O.move (v := (.bool ((t1.lo.d == 0) || (t1.hi.d == 0)))) rfl rfl rfl ?_
    obtain ⟨b3, hm2, hm1⟩ := bind_some hm1
    refine WL.cut 7 (fun f w => f 8 = (.bool true) ∧ f 26 = .bool b3 ∧ Inv w0 w [boxI b1 79 [(.int .i64 t1.lo.n), (.int .i64 t1.lo.d), (.int .i64 t1.hi.n), (.int .i64 t1.hi.d), (.bool t1.ok)]]) ?_ ?_
    ·
     rcases ite_some hm2 with ⟨hc3, hm2⟩ | ⟨hc3, hm2⟩
     ·
      refine WL.reset (i := 19) (v := .bool true) (congrArg Value.bool hc3) ?_
      refine O.skip rfl rfl ?_
      refine O.skip rfl rfl ?_
      refine O.skip rfl rfl ?_
      refine O.skip rfl rfl ?_
      refine O.skip rfl rfl ?_
      refine O.skip rfl rfl ?_
      refine O.pick_true (v := (.bool true)) rfl rfl rfl rfl ?_
      refine WL.nil ?_
      have hq : true = b3 := Option.some.inj (show some true = some b3 from hm2)
      subst hq
      exact ⟨rfl, rfl, H⟩
     ·
      refine WL.reset (i := 19) (v := .bool false) (congrArg Value.bool hc3) ?_
      refine O.fieldAddr fd79_1 rfl rfl rfl ?_
      refine O.loadA (q := ⟨b1, 2, none⟩) [(.int .i64 t1.hi.n), (.int .i64 t1.hi.d)] ag77 rfl rfl rfl rfl (cell_part (o := 2) (k := 2) (H.cell 0 rfl) rfl) ?_
      refine O.fieldAddr fd79_0 rfl rfl rfl ?_
      refine O.loadA (q := ⟨b1, 0, none⟩) [(.int .i64 t1.lo.n), (.int .i64 t1.lo.d)] ag77 rfl rfl rfl rfl (cell_part (o := 0) (k := 2) (H.cell 0 rfl) rfl) ?_
      obtain ⟨t2, hy2, hm2⟩ := bind_some hm2
      refine O.call Try.call36 rfl rfl rfl (c_transit_fraction_less t1.hi t1.lo hy2) ?_
      rintro _ w4 hb3 rfl
      have H := H.ext hb3
      refine O.not rfl rfl rfl ?_
      refine O.pick_false (v := (.bool (!t2))) rfl rfl rfl rfl ?_
      refine WL.nil ?_
      have hq : (!t2) = b3 := Option.some.inj (show some (!t2) = some b3 from hm2)
      subst hq
      exact ⟨rfl, rfl, H⟩
    ·
     rintro f w ⟨hf8, hf26, H⟩
     obtain ⟨u2, rfl⟩ := up2 hf8 hf26
     refine O.pick_true (v := (.bool b3)) rfl rfl rfl rfl ?_
     refine WL.nil ?_
     have hq : b3 = b2 := Option.some.inj (show some b3 = some b2 from hm1)
     subst hq
     exact ⟨rfl, H⟩
  ·
   refine WL.reset (i := 8) (v := .bool false) (congrArg Value.bool hc1) ?_
   refine O.skip rfl rfl ?_
   refine O.skip rfl rfl ?_
   refine O.skip rfl rfl ?_
   refine O.skip rfl rfl ?_
   refine O.skip rfl rfl ?_
   refine O.skip rfl rfl ?_
   refine O.skip rfl rfl ?_
   refine O.skip rfl rfl ?_
   refine O.skip rfl rfl ?_
   refine O.skip rfl rfl ?_
   refine O.skip rfl rfl ?_
   refine O.skip rfl rfl ?_
   refine O.skip rfl rfl ?_
   refine O.skip rfl rfl ?_
   refine O.skip rfl rfl ?_
   refine O.skip rfl rfl ?_
   refine O.skip rfl rfl ?_
   refine O.skip rfl rfl ?_
   refine O.pick_false (v := (.bool false)) rfl rfl rfl rfl ?_
   refine WL.nil ?_
   have hq : false = b2 := Option.some.inj (show some false = some b2 from hm1)
   subst hq
   exact ⟨rfl, H⟩
 ·
  rintro f w ⟨hf27, H⟩
  obtain ⟨u3, rfl⟩ := up1 hf27
  refine O.assign (v := (.bool b2)) rfl rfl rfl ?_
  refine WL.nil ?_
  refine W.ret ?_
  have hq : b2 = r0 := Option.some.inj (show some b2 = some r0 from hm)
  subst hq
  exact ends1 Try.results20 rfl ⟨_, rfl, H.base, rfl⟩

theorem c_transit_Agree {w0 : World} (va0_0 : Value) (a0 : GTube) (ha0_0 : SliceR w0 va0_0 a0.Wires) (va1 : Value) (a1 : (List GTransit)) (ha1 : SliceR w0 va1 a1) {r0 : Bool} {r1 : Int} (hm : transit_Agree a0 a1 = some (r0, r1)) :
  Calls Try.prog 7 #[(.agg #[va0_0, (.int .i64 a0.Error)]), va1] w0 (Ret w0 fun _ v => v = .tuple #[(.bool r0), (.int .i64 r1)]) := by
 unfold transit_Agree at hm
 refine calls_of_W Try.func7 rfl Try.ntmps7 (Nat.le_of_ble_eq_true rfl) ?_
 have H := Inv.start (w := w0)
 refine W.seq ?_
 refine W.region ?_
 refine O.box [va0_0, (.int .i64 a0.Error)] H rfl rfl rfl rfl ?_
 intro b1 w1 H hb1
 refine O.assign (v := (.bool false)) rfl rfl rfl ?_
 refine O.assign (v := (.int .i64 0)) rfl rfl rfl ?_
 refine WL.nil ?_
 refine W.seq ?_
 refine W.region ?_
 refine O.loadA [va0_0, (.int .i64 a0.Error)] ag24 rfl rfl rfl rfl (H.cell 0 rfl) ?_
 refine O.move (v := va1) rfl rfl rfl ?_
 obtain ⟨⟨t1, t2⟩, hy1, hm⟩ := bind_some hm
 refine O.call Try.call19 rfl rfl rfl (c_transit_asked _ (GTube.mk a0.Wires a0.Error) (H.arg ha0_0) _ _ (H.arg ha1) hy1) ?_
 rintro _ w2 hb2 ⟨v1, rfl, ho1⟩
 have H := H.addOwn hb2 ho1
 refine O.move (v := (.tuple #[v1, (.int .i64 t2)])) rfl rfl rfl ?_
 refine O.extract (v := v1) rfl rfl rfl rfl ?_
 refine O.extract (v := (.int .i64 t2)) rfl rfl rfl rfl ?_
 refine O.assign (v := v1) rfl rfl rfl ?_
 refine O.assign (v := (.int .i64 t2)) rfl rfl rfl ?_
 refine WL.nil ?_
 refine W.seq ?_
 refine W.region ?_
 refine O.move (v := (.int .i64 t2)) rfl rfl rfl ?_
 refine O.eql rfl rfl rfl rfl ?_
 refine O.move (v := (.bool (t2 == 0))) rfl rfl rfl ?_
 obtain ⟨b2, hm1, hm⟩ := bind_some hm
 refine WL.cut 3 (fun f w => f 7 = (.int .i64 t2) ∧ f 19 = .bool b2 ∧ Inv w0 w [boxI b1 24 [va0_0, (.int .i64 a0.Error)], ownI (α := GStrip) v1 72 t1]) ?_ ?_
 ·
  rcases ite_some hm1 with ⟨hc1, hm1⟩ | ⟨hc1, hm1⟩
  ·
   refine WL.reset (i := 16) (v := .bool true) (congrArg Value.bool hc1) ?_
   refine O.move (v := v1) rfl rfl rfl ?_
   obtain ⟨t3, hy2, hm1⟩ := bind_some hm1
   refine O.call Try.call20 rfl rfl rfl (c_transit_agree _ _ (H.own 1 rfl) hy2) ?_
   rintro _ w3 hb3 rfl
   have H := H.ext hb3
   refine O.pick_true (v := (.bool t3)) rfl rfl rfl rfl ?_
   refine WL.nil ?_
   have hq : t3 = b2 := Option.some.inj (show some t3 = some b2 from hm1)
   subst hq
   exact ⟨rfl, rfl, H⟩
  ·
   refine WL.reset (i := 16) (v := .bool false) (congrArg Value.bool hc1) ?_
   refine O.skip rfl rfl ?_
   refine O.skip rfl rfl ?_
   refine O.pick_false (v := (.bool false)) rfl rfl rfl rfl ?_
   refine WL.nil ?_
   have hq : false = b2 := Option.some.inj (show some false = some b2 from hm1)
   subst hq
   exact ⟨rfl, rfl, H⟩
 ·
  rintro f w ⟨hf7, hf19, H⟩
  obtain ⟨u1, rfl⟩ := up2 hf7 hf19
  refine O.move (v := (.int .i64 t2)) rfl rfl rfl ?_
  refine O.assign (v := (.bool b2)) rfl rfl rfl ?_
  refine O.assign (v := (.int .i64 t2)) rfl rfl rfl ?_
  refine WL.nil ?_
  refine W.ret ?_
  have hq : (b2, t2) = (r0, r1) := Option.some.inj (show some (b2, t2) = some (r0, r1) from hm)
  obtain ⟨he0, hq0⟩ := Prod.mk.inj hq; clear hq; subst he0
  subst hq0
  exact ends2 Try.results7 rfl rfl ⟨_, rfl, H.base, rfl⟩

theorem c_math_bits_Mul64 {w0 : World} (a0 : Int) (a1 : Int) {r0 : Int} {r1 : Int} (hm : math_bits_Mul64 a0 a1 = some (r0, r1)) :
  Calls Try.prog 55 #[(.int .u64 a0), (.int .u64 a1)] w0 (Ret w0 fun _ v => v = .tuple #[(.int .u64 r0), (.int .u64 r1)]) := by
 unfold math_bits_Mul64 at hm
 refine calls_of_W Try.func55 rfl Try.ntmps55 (Nat.le_of_ble_eq_true rfl) ?_
 have H := Inv.start (w := w0)
 refine W.seq ?_
 refine W.region ?_
 refine O.assign (v := (.int .u64 0)) rfl rfl rfl ?_
 refine O.assign (v := (.int .u64 0)) rfl rfl rfl ?_
 refine WL.nil ?_
 refine W.seq ?_
 refine W.region ?_
 refine O.move (v := (.int .u64 a0)) rfl rfl rfl ?_
 refine O.andW rfl rfl rfl rfl ?_
 refine O.assign (v := (.int .u64 (bits .and .u64 a0 4294967295))) rfl rfl rfl ?_
 refine WL.nil ?_
 refine W.seq ?_
 refine W.region ?_
 refine O.move (v := (.int .u64 a0)) rfl rfl rfl ?_
 refine O.shrW (by decide) (by decide) rfl rfl rfl rfl ?_
 refine O.assign (v := (.int .u64 (a0 / 2 ^ ((32 : Int).toNat)))) rfl rfl rfl ?_
 refine WL.nil ?_
 refine W.seq ?_
 refine W.region ?_
 refine O.move (v := (.int .u64 a1)) rfl rfl rfl ?_
 refine O.andW rfl rfl rfl rfl ?_
 refine O.assign (v := (.int .u64 (bits .and .u64 a1 4294967295))) rfl rfl rfl ?_
 refine WL.nil ?_
 refine W.seq ?_
 refine W.region ?_
 refine O.move (v := (.int .u64 a1)) rfl rfl rfl ?_
 refine O.shrW (by decide) (by decide) rfl rfl rfl rfl ?_
 refine O.assign (v := (.int .u64 (a1 / 2 ^ ((32 : Int).toNat)))) rfl rfl rfl ?_
 refine WL.nil ?_
 refine W.seq ?_
 refine W.region ?_
 refine O.move (v := (.int .u64 (bits .and .u64 a0 4294967295))) rfl rfl rfl ?_
 refine O.move (v := (.int .u64 (bits .and .u64 a1 4294967295))) rfl rfl rfl ?_
 refine O.mulW rfl rfl rfl rfl ?_
 refine O.assign (v := (.int .u64 (wrU ((bits .and .u64 a0 4294967295) * (bits .and .u64 a1 4294967295))))) rfl rfl rfl ?_
 refine WL.nil ?_
 refine W.seq ?_
 refine W.region ?_
 refine O.move (v := (.int .u64 (a0 / 2 ^ ((32 : Int).toNat)))) rfl rfl rfl ?_
 refine O.move (v := (.int .u64 (bits .and .u64 a1 4294967295))) rfl rfl rfl ?_
 refine O.mulW rfl rfl rfl rfl ?_
 refine O.move (v := (.int .u64 (wrU ((bits .and .u64 a0 4294967295) * (bits .and .u64 a1 4294967295))))) rfl rfl rfl ?_
 refine O.shrW (by decide) (by decide) rfl rfl rfl rfl ?_
 refine O.addW rfl rfl rfl rfl ?_
 refine O.assign (v := (.int .u64 (wrU ((wrU ((a0 / 2 ^ ((32 : Int).toNat)) * (bits .and .u64 a1 4294967295))) + ((wrU ((bits .and .u64 a0 4294967295) * (bits .and .u64 a1 4294967295))) / 2 ^ ((32 : Int).toNat)))))) rfl rfl rfl ?_
 refine WL.nil ?_
 refine W.seq ?_
 refine W.region ?_
 refine O.move (v := (.int .u64 (wrU ((wrU ((a0 / 2 ^ ((32 : Int).toNat)) * (bits .and .u64 a1 4294967295))) + ((wrU ((bits .and .u64 a0 4294967295) * (bits .and .u64 a1 4294967295))) / 2 ^ ((32 : Int).toNat)))))) rfl rfl rfl ?_
 refine O.andW rfl rfl rfl rfl ?_
 refine O.assign (v := (.int .u64 (bits .and .u64 (wrU ((wrU ((a0 / 2 ^ ((32 : Int).toNat)) * (bits .and .u64 a1 4294967295))) + ((wrU ((bits .and .u64 a0 4294967295) * (bits .and .u64 a1 4294967295))) / 2 ^ ((32 : Int).toNat)))) 4294967295))) rfl rfl rfl ?_
 refine WL.nil ?_
 refine W.seq ?_
 refine W.region ?_
 refine O.move (v := (.int .u64 (wrU ((wrU ((a0 / 2 ^ ((32 : Int).toNat)) * (bits .and .u64 a1 4294967295))) + ((wrU ((bits .and .u64 a0 4294967295) * (bits .and .u64 a1 4294967295))) / 2 ^ ((32 : Int).toNat)))))) rfl rfl rfl ?_
 refine O.shrW (by decide) (by decide) rfl rfl rfl rfl ?_
 refine O.assign (v := (.int .u64 ((wrU ((wrU ((a0 / 2 ^ ((32 : Int).toNat)) * (bits .and .u64 a1 4294967295))) + ((wrU ((bits .and .u64 a0 4294967295) * (bits .and .u64 a1 4294967295))) / 2 ^ ((32 : Int).toNat)))) / 2 ^ ((32 : Int).toNat)))) rfl rfl rfl ?_
 refine WL.nil ?_
 refine W.seq ?_
 refine W.region ?_
 refine O.move (v := (.int .u64 (bits .and .u64 (wrU ((wrU ((a0 / 2 ^ ((32 : Int).toNat)) * (bits .and .u64 a1 4294967295))) + ((wrU ((bits .and .u64 a0 4294967295) * (bits .and .u64 a1 4294967295))) / 2 ^ ((32 : Int).toNat)))) 4294967295))) rfl rfl rfl ?_
 refine O.move (v := (.int .u64 (bits .and .u64 a0 4294967295))) rfl rfl rfl ?_
 refine O.move (v := (.int .u64 (a1 / 2 ^ ((32 : Int).toNat)))) rfl rfl rfl ?_
 refine O.mulW rfl rfl rfl rfl ?_
 refine O.addW rfl rfl rfl rfl ?_
 refine O.assign (v := (.int .u64 (wrU ((bits .and .u64 (wrU ((wrU ((a0 / 2 ^ ((32 : Int).toNat)) * (bits .and .u64 a1 4294967295))) + ((wrU ((bits .and .u64 a0 4294967295) * (bits .and .u64 a1 4294967295))) / 2 ^ ((32 : Int).toNat)))) 4294967295) + (wrU ((bits .and .u64 a0 4294967295) * (a1 / 2 ^ ((32 : Int).toNat)))))))) rfl rfl rfl ?_
 refine WL.nil ?_
 refine W.seq ?_
 refine W.region ?_
 refine O.move (v := (.int .u64 (a0 / 2 ^ ((32 : Int).toNat)))) rfl rfl rfl ?_
 refine O.move (v := (.int .u64 (a1 / 2 ^ ((32 : Int).toNat)))) rfl rfl rfl ?_
 refine O.mulW rfl rfl rfl rfl ?_
 refine O.move (v := (.int .u64 ((wrU ((wrU ((a0 / 2 ^ ((32 : Int).toNat)) * (bits .and .u64 a1 4294967295))) + ((wrU ((bits .and .u64 a0 4294967295) * (bits .and .u64 a1 4294967295))) / 2 ^ ((32 : Int).toNat)))) / 2 ^ ((32 : Int).toNat)))) rfl rfl rfl ?_
 refine O.addW rfl rfl rfl rfl ?_
 refine O.move (v := (.int .u64 (wrU ((bits .and .u64 (wrU ((wrU ((a0 / 2 ^ ((32 : Int).toNat)) * (bits .and .u64 a1 4294967295))) + ((wrU ((bits .and .u64 a0 4294967295) * (bits .and .u64 a1 4294967295))) / 2 ^ ((32 : Int).toNat)))) 4294967295) + (wrU ((bits .and .u64 a0 4294967295) * (a1 / 2 ^ ((32 : Int).toNat)))))))) rfl rfl rfl ?_
 refine O.shrW (by decide) (by decide) rfl rfl rfl rfl ?_
 refine O.addW rfl rfl rfl rfl ?_
 refine O.assign (v := (.int .u64 (wrU ((wrU ((wrU ((a0 / 2 ^ ((32 : Int).toNat)) * (a1 / 2 ^ ((32 : Int).toNat)))) + ((wrU ((wrU ((a0 / 2 ^ ((32 : Int).toNat)) * (bits .and .u64 a1 4294967295))) + ((wrU ((bits .and .u64 a0 4294967295) * (bits .and .u64 a1 4294967295))) / 2 ^ ((32 : Int).toNat)))) / 2 ^ ((32 : Int).toNat)))) + ((wrU ((bits .and .u64 (wrU ((wrU ((a0 / 2 ^ ((32 : Int).toNat)) * (bits .and .u64 a1 4294967295))) + ((wrU ((bits .and .u64 a0 4294967295) * (bits .and .u64 a1 4294967295))) / 2 ^ ((32 : Int).toNat)))) 4294967295) + (wrU ((bits .and .u64 a0 4294967295) * (a1 / 2 ^ ((32 : Int).toNat)))))) / 2 ^ ((32 : Int).toNat)))))) rfl rfl rfl ?_
 refine WL.nil ?_
 refine W.seq ?_
 refine W.region ?_
 refine O.move (v := (.int .u64 a0)) rfl rfl rfl ?_
 refine O.move (v := (.int .u64 a1)) rfl rfl rfl ?_
 refine O.mulW rfl rfl rfl rfl ?_
 refine O.assign (v := (.int .u64 (wrU (a0 * a1)))) rfl rfl rfl ?_
 refine WL.nil ?_
 refine W.ret ?_
 have hq : ((wrU ((wrU ((wrU ((a0 / 2 ^ ((32 : Int).toNat)) * (a1 / 2 ^ ((32 : Int).toNat)))) + ((wrU ((wrU ((a0 / 2 ^ ((32 : Int).toNat)) * (bits .and .u64 a1 4294967295))) + ((wrU ((bits .and .u64 a0 4294967295) * (bits .and .u64 a1 4294967295))) / 2 ^ ((32 : Int).toNat)))) / 2 ^ ((32 : Int).toNat)))) + ((wrU ((bits .and .u64 (wrU ((wrU ((a0 / 2 ^ ((32 : Int).toNat)) * (bits .and .u64 a1 4294967295))) + ((wrU ((bits .and .u64 a0 4294967295) * (bits .and .u64 a1 4294967295))) / 2 ^ ((32 : Int).toNat)))) 4294967295) + (wrU ((bits .and .u64 a0 4294967295) * (a1 / 2 ^ ((32 : Int).toNat)))))) / 2 ^ ((32 : Int).toNat)))), (wrU (a0 * a1))) = (r0, r1) := Option.some.inj (show some ((wrU ((wrU ((wrU ((a0 / 2 ^ ((32 : Int).toNat)) * (a1 / 2 ^ ((32 : Int).toNat)))) + ((wrU ((wrU ((a0 / 2 ^ ((32 : Int).toNat)) * (bits .and .u64 a1 4294967295))) + ((wrU ((bits .and .u64 a0 4294967295) * (bits .and .u64 a1 4294967295))) / 2 ^ ((32 : Int).toNat)))) / 2 ^ ((32 : Int).toNat)))) + ((wrU ((bits .and .u64 (wrU ((wrU ((a0 / 2 ^ ((32 : Int).toNat)) * (bits .and .u64 a1 4294967295))) + ((wrU ((bits .and .u64 a0 4294967295) * (bits .and .u64 a1 4294967295))) / 2 ^ ((32 : Int).toNat)))) 4294967295) + (wrU ((bits .and .u64 a0 4294967295) * (a1 / 2 ^ ((32 : Int).toNat)))))) / 2 ^ ((32 : Int).toNat)))), (wrU (a0 * a1))) = some (r0, r1) from hm)
 obtain ⟨he0, hq0⟩ := Prod.mk.inj hq; clear hq; subst he0
 subst hq0
 exact ends2 Try.results55 rfl rfl ⟨_, rfl, H.base, rfl⟩

theorem sub64_at : Sub64At Try.prog 56 := by
  intro x y b hb w
  rw [run_callFunc_extern Try.func56 (by kernel_rfl) (by kernel_rfl) (by kernel_rfl) (e := sub64Entry) (by kernel_rfl), run_sub64 x y b hb]
  rfl

theorem c_transit_wide_minus {w0 : World} (a0 : GWide) (a1 : GWide) {r0 : GWide} (hm : transit_wide_minus a0 a1 = some r0) :
  Calls Try.prog 40 #[(.agg (Flat.cells a0).toArray), (.agg (Flat.cells a1).toArray)] w0 (Ret w0 fun _ v => v = (.agg (Flat.cells r0).toArray)) := by
 unfold transit_wide_minus at hm
 refine calls_of_W Try.func40 rfl Try.ntmps40 (Nat.le_of_ble_eq_true rfl) ?_
 have H := Inv.start (w := w0)
 refine W.seq ?_
 refine W.region ?_
 refine O.box [(.int .i64 a0.hi), (.int .u64 a0.lo)] H rfl rfl rfl rfl ?_
 intro b1 w1 H hb1
 refine O.box [(.int .i64 a1.hi), (.int .u64 a1.lo)] H rfl rfl rfl rfl ?_
 intro b2 w2 H hb2
 refine O.alloc [(.int .i64 0), (.int .u64 0)] ze89 H rfl rfl rfl ?_
 intro b3 w3 H hb3
 refine WL.nil ?_
 refine W.seq ?_
 refine W.region ?_
 refine O.fieldAddr fd89_1 rfl rfl rfl ?_
 refine O.load sc87 rfl rfl rfl (H.cell 0 rfl 1 _ rfl) ?_
 refine O.fieldAddr fd89_1 rfl rfl rfl ?_
 refine O.load sc87 rfl rfl rfl (H.cell 1 rfl 1 _ rfl) ?_
 obtain ⟨⟨t1, t2⟩, hy1, hm⟩ := bind_some hm
 refine O.sub64 sub64_at hy1 rfl rfl rfl rfl rfl ?_
 refine O.move (v := (.tuple #[(.int .u64 t1), (.int .u64 t2)])) rfl rfl rfl ?_
 refine O.extract (v := (.int .u64 t1)) rfl rfl rfl rfl ?_
 refine O.extract (v := (.int .u64 t2)) rfl rfl rfl rfl ?_
 refine O.assign (v := (.int .u64 t1)) rfl rfl rfl ?_
 refine O.assign (v := (.int .u64 t2)) rfl rfl rfl ?_
 refine WL.nil ?_
 refine W.seq ?_
 refine W.region ?_
 refine O.fieldAddr fd89_0 rfl rfl rfl ?_
 refine O.load sc2 rfl rfl rfl (H.cell 0 rfl 0 _ rfl) ?_
 refine O.convW (by kernel_rfl) Try.underlying87 rfl rfl rfl ?_
 refine O.fieldAddr fd89_0 rfl rfl rfl ?_
 refine O.load sc2 rfl rfl rfl (H.cell 1 rfl 0 _ rfl) ?_
 refine O.convW (by kernel_rfl) Try.underlying87 rfl rfl rfl ?_
 refine O.move (v := (.int .u64 t2)) rfl rfl rfl ?_
 obtain ⟨⟨t3, t4⟩, hy2, hm⟩ := bind_some hm
 refine O.sub64 sub64_at hy2 rfl rfl rfl rfl rfl ?_
 refine O.move (v := (.tuple #[(.int .u64 t3), (.int .u64 t4)])) rfl rfl rfl ?_
 refine O.extract (v := (.int .u64 t3)) rfl rfl rfl rfl ?_
 refine O.extract (v := (.int .u64 t4)) rfl rfl rfl rfl ?_
 refine O.assign (v := (.int .u64 t3)) rfl rfl rfl ?_
 refine O.assign (v := (.int .u64 t4)) rfl rfl rfl ?_
 refine WL.nil ?_
 refine W.seq ?_
 refine W.region ?_
 refine O.move (v := (.int .u64 t3)) rfl rfl rfl ?_
 refine O.convW (by kernel_rfl) Try.underlying2 rfl rfl rfl ?_
 refine O.move (v := (.int .u64 t1)) rfl rfl rfl ?_
 refine O.build (v := (.agg (Flat.cells (GWide.mk (IntKind.i64.wrap t3) t1)).toArray)) (fun w => bd89_0_1 _ _ w) rfl rfl rfl ?_
 refine O.store 2 0 [(.int .i64 (IntKind.i64.wrap t3)), (.int .u64 t1)] [(.int .i64 (IntKind.i64.wrap t3)), (.int .u64 t1)] sz89 H rfl rfl rfl rfl rfl rfl ⟨⟨rfl, rfl⟩, rfl⟩ (one_cons rfl (one_cons rfl one_nil)) ?_
 intro w4 H
 refine WL.nil ?_
 refine W.ret ?_
 have hq : (GWide.mk (IntKind.i64.wrap t3) t1) = r0 := Option.some.inj (show some (GWide.mk (IntKind.i64.wrap t3) t1) = some r0 from hm)
 subst hq
 exact ends1 Try.results40 ⟨_, rfl, run_loadVar_agg ag89 rfl (H.cell 2 rfl)⟩ ⟨_, rfl, H.base, rfl⟩

theorem c_transit_product {w0 : World} (a0 : Int) (a1 : Int) {r0 : GWide} (hm : transit_product a0 a1 = some r0) :
  Calls Try.prog 39 #[(.int .i64 a0), (.int .i64 a1)] w0 (Ret w0 fun _ v => v = (.agg (Flat.cells r0).toArray)) := by
 unfold transit_product at hm
 refine calls_of_W Try.func39 rfl Try.ntmps39 (Nat.le_of_ble_eq_true rfl) ?_
 have H := Inv.start (w := w0)
 refine W.seq ?_
 refine W.region ?_
 refine O.alloc [(.int .i64 0), (.int .u64 0)] ze89 H rfl rfl rfl ?_
 intro b1 w1 H hb1
 refine WL.nil ?_
 refine W.seq ?_
 refine W.region ?_
 refine O.move (v := (.int .i64 a0)) rfl rfl rfl ?_
 refine O.move (v := (.int .i64 a0)) rfl rfl rfl ?_
 obtain ⟨t1, ht1, hm⟩ := bind_some hm
 refine O.neg rfl rfl rfl ht1 ?_
 refine O.max2 rfl rfl rfl rfl ?_
 refine O.convW (by kernel_rfl) Try.underlying87 rfl rfl rfl ?_
 refine O.move (v := (.int .i64 a1)) rfl rfl rfl ?_
 refine O.move (v := (.int .i64 a1)) rfl rfl rfl ?_
 obtain ⟨t2, ht2, hm⟩ := bind_some hm
 refine O.neg rfl rfl rfl ht2 ?_
 refine O.max2 rfl rfl rfl rfl ?_
 refine O.convW (by kernel_rfl) Try.underlying87 rfl rfl rfl ?_
 obtain ⟨⟨t3, t4⟩, hy1, hm⟩ := bind_some hm
 refine O.call Try.call55 rfl rfl rfl (c_math_bits_Mul64 _ _ hy1) ?_
 rintro _ w2 hb2 rfl
 have H := H.ext hb2
 refine O.move (v := (.tuple #[(.int .u64 t3), (.int .u64 t4)])) rfl rfl rfl ?_
 refine O.extract (v := (.int .u64 t3)) rfl rfl rfl rfl ?_
 refine O.extract (v := (.int .u64 t4)) rfl rfl rfl rfl ?_
 refine O.assign (v := (.int .u64 t3)) rfl rfl rfl ?_
 refine O.assign (v := (.int .u64 t4)) rfl rfl rfl ?_
 refine WL.nil ?_
 refine W.seq ?_
 refine W.region ?_
 refine O.move (v := (.int .u64 t3)) rfl rfl rfl ?_
 refine O.convW (by kernel_rfl) Try.underlying2 rfl rfl rfl ?_
 refine O.move (v := (.int .u64 t4)) rfl rfl rfl ?_
 refine O.build (v := (.agg (Flat.cells (GWide.mk (IntKind.i64.wrap t3) t4)).toArray)) (fun w => bd89_0_1 _ _ w) rfl rfl rfl ?_
 refine O.alloc [(.int .i64 0), (.int .u64 0)] ze89 H rfl rfl rfl ?_
 intro b2 w3 H hb3
 refine O.store 1 0 [(.int .i64 (IntKind.i64.wrap t3)), (.int .u64 t4)] [(.int .i64 (IntKind.i64.wrap t3)), (.int .u64 t4)] sz89 H rfl rfl rfl rfl rfl rfl ⟨⟨rfl, rfl⟩, rfl⟩ (one_cons rfl (one_cons rfl one_nil)) ?_
 intro w4 H
 refine WL.nil ?_
 refine W.seq ?_
 refine W.seq ?_
 refine W.region ?_
 refine O.move (v := (.int .i64 a0)) rfl rfl rfl ?_
 refine O.lss rfl rfl rfl rfl ?_
 refine O.move (v := (.int .i64 a1)) rfl rfl rfl ?_
 refine O.lss rfl rfl rfl rfl ?_
 refine O.neqB Try.underlying4 rfl rfl rfl rfl ?_
 refine WL.nil ?_
 rcases ite_some hm with ⟨hc1, hm⟩ | ⟨hc1, hm⟩
 ·
  refine W.cond_true (congrArg Value.bool hc1) ?_
  refine W.seq ?_
  refine W.region ?_
  refine O.build (v := (.agg (Flat.cells (GWide.mk 0 0)).toArray)) (fun w => bd89_  w) rfl rfl rfl ?_
  refine O.loadA [(.int .i64 (IntKind.i64.wrap t3)), (.int .u64 t4)] ag89 rfl rfl rfl rfl (H.cell 1 rfl) ?_
  obtain ⟨t5, hy2, hm⟩ := bind_some hm
  refine O.call Try.call40 rfl rfl rfl (c_transit_wide_minus (GWide.mk 0 0) (GWide.mk (IntKind.i64.wrap t3) t4) hy2) ?_
  rintro _ w5 hb4 rfl
  have H := H.ext hb4
  refine O.store 0 0 [(.int .i64 t5.hi), (.int .u64 t5.lo)] [(.int .i64 t5.hi), (.int .u64 t5.lo)] sz89 H rfl rfl rfl rfl rfl rfl ⟨⟨rfl, rfl⟩, rfl⟩ (one_cons rfl (one_cons rfl one_nil)) ?_
  intro w6 H
  refine WL.nil ?_
  refine W.ret ?_
  have hq : t5 = r0 := Option.some.inj (show some t5 = some r0 from hm)
  subst hq
  exact ends1 Try.results39 ⟨_, rfl, run_loadVar_agg ag89 rfl (H.cell 0 rfl)⟩ ⟨_, rfl, H.base, rfl⟩
 ·
  refine W.cond_false (congrArg Value.bool hc1) ?_
  refine W.skip ?_
  refine W.seq ?_
  refine W.region ?_
  refine O.loadA [(.int .i64 (IntKind.i64.wrap t3)), (.int .u64 t4)] ag89 rfl rfl rfl rfl (H.cell 1 rfl) ?_
  refine O.store 0 0 [(.int .i64 (IntKind.i64.wrap t3)), (.int .u64 t4)] [(.int .i64 (IntKind.i64.wrap t3)), (.int .u64 t4)] sz89 H rfl rfl rfl rfl rfl rfl ⟨⟨rfl, rfl⟩, rfl⟩ (one_cons rfl (one_cons rfl one_nil)) ?_
  intro w7 H
  refine WL.nil ?_
  refine W.ret ?_
  have hq : (GWide.mk (IntKind.i64.wrap t3) t4) = r0 := Option.some.inj (show some (GWide.mk (IntKind.i64.wrap t3) t4) = some r0 from hm)
  subst hq
  exact ends1 Try.results39 ⟨_, rfl, run_loadVar_agg ag89 rfl (H.cell 0 rfl)⟩ ⟨_, rfl, H.base, rfl⟩

theorem c_transit_wide_below {w0 : World} (a0 : GWide) {r0 : Bool} (hm : transit_wide_below a0 = some r0) :
  Calls Try.prog 41 #[(.agg (Flat.cells a0).toArray)] w0 (Ret w0 fun _ v => v = (.bool r0)) := by
 unfold transit_wide_below at hm
 refine calls_of_W Try.func41 rfl Try.ntmps41 (Nat.le_of_ble_eq_true rfl) ?_
 have H := Inv.start (w := w0)
 refine W.seq ?_
 refine W.region ?_
 refine O.box [(.int .i64 a0.hi), (.int .u64 a0.lo)] H rfl rfl rfl rfl ?_
 intro b1 w1 H hb1
 refine O.assign (v := (.bool false)) rfl rfl rfl ?_
 refine WL.nil ?_
 refine W.seq ?_
 refine W.region ?_
 refine O.fieldAddr fd89_0 rfl rfl rfl ?_
 refine O.load sc2 rfl rfl rfl (H.cell 0 rfl 0 _ rfl) ?_
 refine O.lss rfl rfl rfl rfl ?_
 refine O.assign (v := (.bool (decide (a0.hi < 0)))) rfl rfl rfl ?_
 refine WL.nil ?_
 refine W.ret ?_
 have hq : (decide (a0.hi < 0)) = r0 := Option.some.inj (show some (decide (a0.hi < 0)) = some r0 from hm)
 subst hq
 exact ends1 Try.results41 rfl ⟨_, rfl, H.base, rfl⟩

set_option maxRecDepth 20000 in
theorem c_transit_strip_has {w0 : World} (a0 : GStrip) (a1 : GRatio) (a2 : GRatio) {r0 : Bool} (hm : transit_strip_has a0 a1 a2 = some r0) :
  Calls Try.prog 24 #[(.agg (Flat.cells a0).toArray), (.agg (Flat.cells a1).toArray), (.agg (Flat.cells a2).toArray)] w0 (Ret w0 fun _ v => v = (.bool r0)) := by
 unfold transit_strip_has at hm
 refine calls_of_W Try.func24 rfl Try.ntmps24 (Nat.le_of_ble_eq_true rfl) ?_
 have H := Inv.start (w := w0)
 refine W.seq ?_
 refine W.region ?_
 refine O.box [(.int .i64 a0.shift), (.int .i64 a0.lo), (.int .i64 a0.hi)] H rfl rfl rfl rfl ?_
 intro b1 w1 H hb1
 refine O.box [(.int .i64 a1.N), (.int .i64 a1.D)] H rfl rfl rfl rfl ?_
 intro b2 w2 H hb2
 refine O.box [(.int .i64 a2.N), (.int .i64 a2.D)] H rfl rfl rfl rfl ?_
 intro b3 w3 H hb3
 refine O.assign (v := (.bool false)) rfl rfl rfl ?_
 refine WL.nil ?_
 refine W.seq ?_
 refine W.region ?_
 refine O.fieldAddr fd72_0 rfl rfl rfl ?_
 refine O.load sc3 rfl rfl rfl (H.cell 0 rfl 0 _ rfl) ?_
 refine O.fieldAddr fd39_0 rfl rfl rfl ?_
 refine O.load sc3 rfl rfl rfl (H.cell 2 rfl 0 _ rfl) ?_
 obtain ⟨t1, ht1, hm⟩ := bind_some hm
 refine O.mul rfl rfl rfl rfl ht1 ?_
 refine O.fieldAddr fd39_1 rfl rfl rfl ?_
 refine O.load sc3 rfl rfl rfl (H.cell 1 rfl 1 _ rfl) ?_
 obtain ⟨t2, hy1, hm⟩ := bind_some hm
 refine O.call Try.call39 rfl rfl rfl (c_transit_product _ _ hy1) ?_
 rintro _ w4 hb4 rfl
 have H := H.ext hb4
 refine O.alloc [(.int .i64 0), (.int .u64 0)] ze89 H rfl rfl rfl ?_
 intro b4 w5 H hb5
 refine O.store 3 0 [(.int .i64 t2.hi), (.int .u64 t2.lo)] [(.int .i64 t2.hi), (.int .u64 t2.lo)] sz89 H rfl rfl rfl rfl rfl rfl ⟨⟨rfl, rfl⟩, rfl⟩ (one_cons rfl (one_cons rfl one_nil)) ?_
 intro w6 H
 refine WL.nil ?_
 refine W.seq ?_
 obtain ⟨t3, ht3, hm⟩ := bind_some hm
 obtain ⟨t4, hy2, hm⟩ := bind_some hm
 obtain ⟨t5, ht5, hm⟩ := bind_some hm
 obtain ⟨t6, ht6, hm⟩ := bind_some hm
 obtain ⟨t7, hy3, hm⟩ := bind_some hm
 obtain ⟨t8, hy4, hm⟩ := bind_some hm
 obtain ⟨t9, ht9, hm⟩ := bind_some hm
 obtain ⟨t10, ht10, hm⟩ := bind_some hm
 obtain ⟨t11, hy5, hm⟩ := bind_some hm
 obtain ⟨t12, ht12, hm⟩ := bind_some hm
 obtain ⟨t13, hy6, hm⟩ := bind_some hm
 obtain ⟨t14, hy7, hm⟩ := bind_some hm
 refine W.drawA (d := 8) 33 [0, 1, 2, 3, 4, 5, 6, 7, 8, 9, 10, 11, 12, 13, 14, 15, 16, 17, 18, 19, 20, 21, 22, 23, 24, 25, 26, 27, 28, 29, 30, 31, 32] (fun b9 w9 => Inv w0 w9 [boxI b1 72 [(.int .i64 a0.shift), (.int .i64 a0.lo), (.int .i64 a0.hi)], boxI b2 39 [(.int .i64 a1.N), (.int .i64 a1.D)], boxI b3 39 [(.int .i64 a2.N), (.int .i64 a2.D)], boxI b4 89 [(.int .i64 t2.hi), (.int .u64 t2.lo)], boxI b9 92 [(.int .i64 0), (.int .u64 0), (.int .i64 0), (.int .u64 0)]]) (fun f => f 7 = (.pointer (some ⟨b4, 0, none⟩)) ∧ f 50 = (.agg (Flat.cells (GArr2GWide.mk t8 t14)).toArray)) fol (by kernel_rfl) rfl ?_ ?_ ?_
 ·
  refine PL.of (fun b w8 _ hx => match b, hx with | none, hx => by exact O.fieldAddr fd39_0 rfl rfl rfl (WL.nil ⟨rfl, hx⟩) | some _, ⟨bb, hv, hx, H⟩ => by exact O.fieldAddr fd39_0 rfl rfl rfl (WL.nil ⟨rfl, bb, hv, hx, H⟩)) ?_
  refine PL.of (fun b w8 _ hx => match b, hx with | none, hx => by have H := H.ext hx; exact O.load sc3 rfl rfl rfl (H.cell 1 rfl 0 _ rfl) (WL.nil ⟨rfl, hx⟩) | some _, ⟨bb, hv, hx, H⟩ => by exact O.load sc3 rfl rfl rfl (H.cell 1 rfl 0 _ rfl) (WL.nil ⟨rfl, bb, hv, hx, H⟩)) ?_
  refine PL.of (fun b w8 _ hx => match b, hx with | none, hx => by exact O.mul rfl rfl rfl rfl ht3 (WL.nil ⟨rfl, hx⟩) | some _, ⟨bb, hv, hx, H⟩ => by exact O.mul rfl rfl rfl rfl ht3 (WL.nil ⟨rfl, bb, hv, hx, H⟩)) ?_
  refine PL.of (fun b w8 _ hx => match b, hx with | none, hx => by exact O.fieldAddr fd39_1 rfl rfl rfl (WL.nil ⟨rfl, hx⟩) | some _, ⟨bb, hv, hx, H⟩ => by exact O.fieldAddr fd39_1 rfl rfl rfl (WL.nil ⟨rfl, bb, hv, hx, H⟩)) ?_
  refine PL.of (fun b w8 _ hx => match b, hx with | none, hx => by have H := H.ext hx; exact O.load sc3 rfl rfl rfl (H.cell 2 rfl 1 _ rfl) (WL.nil ⟨rfl, hx⟩) | some _, ⟨bb, hv, hx, H⟩ => by exact O.load sc3 rfl rfl rfl (H.cell 2 rfl 1 _ rfl) (WL.nil ⟨rfl, bb, hv, hx, H⟩)) ?_
  refine PL.of (fun b w8 _ hx => match b, hx with | none, hx => by exact O.call Try.call39 rfl rfl rfl (c_transit_product _ _ hy2) (by rintro _ _ hb rfl; exact WL.nil ⟨rfl, hx.trans (hb.mono hx.size)⟩) | some _, ⟨bb, hv, hx, H⟩ => by exact O.call Try.call39 rfl rfl rfl (c_transit_product _ _ hy2) (by rintro _ _ hb rfl; exact WL.nil ⟨rfl, bb, hv, hx.trans (hb.mono hx.size), H.ext hb⟩)) ?_
  refine PL.of (fun b w8 _ hx => match b, hx with | none, hx => by exact O.fieldAddr fd72_1 rfl rfl rfl (WL.nil ⟨rfl, hx⟩) | some _, ⟨bb, hv, hx, H⟩ => by exact O.fieldAddr fd72_1 rfl rfl rfl (WL.nil ⟨rfl, bb, hv, hx, H⟩)) ?_
  refine PL.of (fun b w8 _ hx => match b, hx with | none, hx => by have H := H.ext hx; exact O.load sc3 rfl rfl rfl (H.cell 0 rfl 1 _ rfl) (WL.nil ⟨rfl, hx⟩) | some _, ⟨bb, hv, hx, H⟩ => by exact O.load sc3 rfl rfl rfl (H.cell 0 rfl 1 _ rfl) (WL.nil ⟨rfl, bb, hv, hx, H⟩)) ?_
  refine PL.of (fun b w8 _ hx => match b, hx with | none, hx => by exact O.mul rfl rfl rfl rfl ht5 (WL.nil ⟨rfl, hx⟩) | some _, ⟨bb, hv, hx, H⟩ => by exact O.mul rfl rfl rfl rfl ht5 (WL.nil ⟨rfl, bb, hv, hx, H⟩)) ?_
  refine PL.of (fun b w8 _ hx => match b, hx with | none, hx => by exact O.fieldAddr fd39_1 rfl rfl rfl (WL.nil ⟨rfl, hx⟩) | some _, ⟨bb, hv, hx, H⟩ => by exact O.fieldAddr fd39_1 rfl rfl rfl (WL.nil ⟨rfl, bb, hv, hx, H⟩)) ?_
  refine PL.of (fun b w8 _ hx => match b, hx with | none, hx => by have H := H.ext hx; exact O.load sc3 rfl rfl rfl (H.cell 1 rfl 1 _ rfl) (WL.nil ⟨rfl, hx⟩) | some _, ⟨bb, hv, hx, H⟩ => by exact O.load sc3 rfl rfl rfl (H.cell 1 rfl 1 _ rfl) (WL.nil ⟨rfl, bb, hv, hx, H⟩)) ?_
  refine PL.of (fun b w8 _ hx => match b, hx with | none, hx => by exact O.fieldAddr fd39_1 rfl rfl rfl (WL.nil ⟨rfl, hx⟩) | some _, ⟨bb, hv, hx, H⟩ => by exact O.fieldAddr fd39_1 rfl rfl rfl (WL.nil ⟨rfl, bb, hv, hx, H⟩)) ?_
  refine PL.of (fun b w8 _ hx => match b, hx with | none, hx => by have H := H.ext hx; exact O.load sc3 rfl rfl rfl (H.cell 2 rfl 1 _ rfl) (WL.nil ⟨rfl, hx⟩) | some _, ⟨bb, hv, hx, H⟩ => by exact O.load sc3 rfl rfl rfl (H.cell 2 rfl 1 _ rfl) (WL.nil ⟨rfl, bb, hv, hx, H⟩)) ?_
  refine PL.of (fun b w8 _ hx => match b, hx with | none, hx => by exact O.mul rfl rfl rfl rfl ht6 (WL.nil ⟨rfl, hx⟩) | some _, ⟨bb, hv, hx, H⟩ => by exact O.mul rfl rfl rfl rfl ht6 (WL.nil ⟨rfl, bb, hv, hx, H⟩)) ?_
  refine PL.of (fun b w8 _ hx => match b, hx with | none, hx => by exact O.call Try.call39 rfl rfl rfl (c_transit_product _ _ hy3) (by rintro _ _ hb rfl; exact WL.nil ⟨rfl, hx.trans (hb.mono hx.size)⟩) | some _, ⟨bb, hv, hx, H⟩ => by exact O.call Try.call39 rfl rfl rfl (c_transit_product _ _ hy3) (by rintro _ _ hb rfl; exact WL.nil ⟨rfl, bb, hv, hx.trans (hb.mono hx.size), H.ext hb⟩)) ?_
  refine PL.of (fun b w8 _ hx => match b, hx with | none, hx => by exact O.call Try.call40 rfl rfl rfl (c_transit_wide_minus t4 t7 hy4) (by rintro _ _ hb rfl; exact WL.nil ⟨rfl, hx.trans (hb.mono hx.size)⟩) | some _, ⟨bb, hv, hx, H⟩ => by exact O.call Try.call40 rfl rfl rfl (c_transit_wide_minus t4 t7 hy4) (by rintro _ _ hb rfl; exact WL.nil ⟨rfl, bb, hv, hx.trans (hb.mono hx.size), H.ext hb⟩)) ?_
  refine PL.of (fun b w8 _ hx => match b, hx with | none, hx => by exact O.fieldAddr fd72_2 rfl rfl rfl (WL.nil ⟨rfl, hx⟩) | some _, ⟨bb, hv, hx, H⟩ => by exact O.fieldAddr fd72_2 rfl rfl rfl (WL.nil ⟨rfl, bb, hv, hx, H⟩)) ?_
  refine PL.of (fun b w8 _ hx => match b, hx with | none, hx => by have H := H.ext hx; exact O.load sc3 rfl rfl rfl (H.cell 0 rfl 2 _ rfl) (WL.nil ⟨rfl, hx⟩) | some _, ⟨bb, hv, hx, H⟩ => by exact O.load sc3 rfl rfl rfl (H.cell 0 rfl 2 _ rfl) (WL.nil ⟨rfl, bb, hv, hx, H⟩)) ?_
  refine PL.of (fun b w8 _ hx => match b, hx with | none, hx => by exact O.mul rfl rfl rfl rfl ht9 (WL.nil ⟨rfl, hx⟩) | some _, ⟨bb, hv, hx, H⟩ => by exact O.mul rfl rfl rfl rfl ht9 (WL.nil ⟨rfl, bb, hv, hx, H⟩)) ?_
  refine PL.of (fun b w8 _ hx => match b, hx with | none, hx => by exact O.fieldAddr fd39_1 rfl rfl rfl (WL.nil ⟨rfl, hx⟩) | some _, ⟨bb, hv, hx, H⟩ => by exact O.fieldAddr fd39_1 rfl rfl rfl (WL.nil ⟨rfl, bb, hv, hx, H⟩)) ?_
  refine PL.of (fun b w8 _ hx => match b, hx with | none, hx => by have H := H.ext hx; exact O.load sc3 rfl rfl rfl (H.cell 1 rfl 1 _ rfl) (WL.nil ⟨rfl, hx⟩) | some _, ⟨bb, hv, hx, H⟩ => by exact O.load sc3 rfl rfl rfl (H.cell 1 rfl 1 _ rfl) (WL.nil ⟨rfl, bb, hv, hx, H⟩)) ?_
  refine PL.of (fun b w8 _ hx => match b, hx with | none, hx => by exact O.fieldAddr fd39_1 rfl rfl rfl (WL.nil ⟨rfl, hx⟩) | some _, ⟨bb, hv, hx, H⟩ => by exact O.fieldAddr fd39_1 rfl rfl rfl (WL.nil ⟨rfl, bb, hv, hx, H⟩)) ?_
  refine PL.of (fun b w8 _ hx => match b, hx with | none, hx => by have H := H.ext hx; exact O.load sc3 rfl rfl rfl (H.cell 2 rfl 1 _ rfl) (WL.nil ⟨rfl, hx⟩) | some _, ⟨bb, hv, hx, H⟩ => by exact O.load sc3 rfl rfl rfl (H.cell 2 rfl 1 _ rfl) (WL.nil ⟨rfl, bb, hv, hx, H⟩)) ?_
  refine PL.of (fun b w8 _ hx => match b, hx with | none, hx => by exact O.mul rfl rfl rfl rfl ht10 (WL.nil ⟨rfl, hx⟩) | some _, ⟨bb, hv, hx, H⟩ => by exact O.mul rfl rfl rfl rfl ht10 (WL.nil ⟨rfl, bb, hv, hx, H⟩)) ?_
  refine PL.of (fun b w8 _ hx => match b, hx with | none, hx => by exact O.call Try.call39 rfl rfl rfl (c_transit_product _ _ hy5) (by rintro _ _ hb rfl; exact WL.nil ⟨rfl, hx.trans (hb.mono hx.size)⟩) | some _, ⟨bb, hv, hx, H⟩ => by exact O.call Try.call39 rfl rfl rfl (c_transit_product _ _ hy5) (by rintro _ _ hb rfl; exact WL.nil ⟨rfl, bb, hv, hx.trans (hb.mono hx.size), H.ext hb⟩)) ?_
  refine PL.of (fun b w8 _ hx => match b, hx with | none, hx => by exact O.fieldAddr fd39_0 rfl rfl rfl (WL.nil ⟨rfl, hx⟩) | some _, ⟨bb, hv, hx, H⟩ => by exact O.fieldAddr fd39_0 rfl rfl rfl (WL.nil ⟨rfl, bb, hv, hx, H⟩)) ?_
  refine PL.of (fun b w8 _ hx => match b, hx with | none, hx => by have H := H.ext hx; exact O.load sc3 rfl rfl rfl (H.cell 1 rfl 0 _ rfl) (WL.nil ⟨rfl, hx⟩) | some _, ⟨bb, hv, hx, H⟩ => by exact O.load sc3 rfl rfl rfl (H.cell 1 rfl 0 _ rfl) (WL.nil ⟨rfl, bb, hv, hx, H⟩)) ?_
  refine PL.of (fun b w8 _ hx => match b, hx with | none, hx => by exact O.mul rfl rfl rfl rfl ht12 (WL.nil ⟨rfl, hx⟩) | some _, ⟨bb, hv, hx, H⟩ => by exact O.mul rfl rfl rfl rfl ht12 (WL.nil ⟨rfl, bb, hv, hx, H⟩)) ?_
  refine PL.of (fun b w8 _ hx => match b, hx with | none, hx => by exact O.fieldAddr fd39_1 rfl rfl rfl (WL.nil ⟨rfl, hx⟩) | some _, ⟨bb, hv, hx, H⟩ => by exact O.fieldAddr fd39_1 rfl rfl rfl (WL.nil ⟨rfl, bb, hv, hx, H⟩)) ?_
  refine PL.of (fun b w8 _ hx => match b, hx with | none, hx => by have H := H.ext hx; exact O.load sc3 rfl rfl rfl (H.cell 2 rfl 1 _ rfl) (WL.nil ⟨rfl, hx⟩) | some _, ⟨bb, hv, hx, H⟩ => by exact O.load sc3 rfl rfl rfl (H.cell 2 rfl 1 _ rfl) (WL.nil ⟨rfl, bb, hv, hx, H⟩)) ?_
  refine PL.of (fun b w8 _ hx => match b, hx with | none, hx => by exact O.call Try.call39 rfl rfl rfl (c_transit_product _ _ hy6) (by rintro _ _ hb rfl; exact WL.nil ⟨rfl, hx.trans (hb.mono hx.size)⟩) | some _, ⟨bb, hv, hx, H⟩ => by exact O.call Try.call39 rfl rfl rfl (c_transit_product _ _ hy6) (by rintro _ _ hb rfl; exact WL.nil ⟨rfl, bb, hv, hx.trans (hb.mono hx.size), H.ext hb⟩)) ?_
  refine PL.of (fun b w8 _ hx => match b, hx with | none, hx => by exact O.call Try.call40 rfl rfl rfl (c_transit_wide_minus t11 t13 hy7) (by rintro _ _ hb rfl; exact WL.nil ⟨rfl, hx.trans (hb.mono hx.size)⟩) | some _, ⟨bb, hv, hx, H⟩ => by exact O.call Try.call40 rfl rfl rfl (c_transit_wide_minus t11 t13 hy7) (by rintro _ _ hb rfl; exact WL.nil ⟨rfl, bb, hv, hx.trans (hb.mono hx.size), H.ext hb⟩)) ?_
  refine PL.of (fun b w8 _ hx => match b, hx with | none, hx => by exact O.build (v := (.agg (Flat.cells (GArr2GWide.mk t8 t14)).toArray)) (fun w => bd92_a t8 t14 w) rfl rfl rfl (WL.nil ⟨rfl, hx⟩) | some _, ⟨bb, hv, hx, H⟩ => by exact O.build (v := (.agg (Flat.cells (GArr2GWide.mk t8 t14)).toArray)) (fun w => bd92_a t8 t14 w) rfl rfl rfl (WL.nil ⟨rfl, bb, hv, hx, H⟩)) ?_
  refine PL.nil ?_
  exact ⟨rfl, rfl⟩
 ·
  rintro f _ w hx
  have H := H.ext hx
  exact O.alloc [(.int .i64 0), (.int .u64 0), (.int .i64 0), (.int .u64 0)] ze92 H rfl rfl rfl (fun b _ H hb => WL.nil ⟨_, rfl, b, rfl, hx.trans (hb.mono hx.size), H⟩)
 ·
  rintro f w b5 ⟨hf7, hf50⟩ hmd hx H
  obtain ⟨u1, rfl⟩ := up2 hf7 hf50
  refine O.store 4 0 [(.int .i64 t8.hi), (.int .u64 t8.lo), (.int .i64 t14.hi), (.int .u64 t14.lo)] [(.int .i64 t8.hi), (.int .u64 t8.lo), (.int .i64 t14.hi), (.int .u64 t14.lo)] sz92 H rfl rfl rfl rfl rfl rfl ⟨⟨rfl, rfl⟩, rfl⟩ (one_cons rfl (one_cons rfl (one_cons rfl (one_cons rfl one_nil)))) ?_
  intro w7 H
  refine WL.nil ?_
  refine W.seq ?_
  refine W.region ?_
  refine O.build (v := (.agg (Flat.cells (GWide.mk 0 0)).toArray)) (fun w => bd89_  w) rfl rfl rfl ?_
  refine O.loadA [(.int .i64 t2.hi), (.int .u64 t2.lo)] ag89 rfl rfl rfl rfl (H.cell 3 rfl) ?_
  obtain ⟨t15, hy8, hm⟩ := bind_some hm
  refine O.call Try.call40 rfl rfl rfl (c_transit_wide_minus (GWide.mk 0 0) t2 hy8) ?_
  rintro _ w8 hb6 rfl
  have H := H.ext hb6
  refine O.alloc [(.int .i64 0), (.int .u64 0)] ze89 H rfl rfl rfl ?_
  intro b6 w9 H hb7
  refine O.store 5 0 [(.int .i64 t15.hi), (.int .u64 t15.lo)] [(.int .i64 t15.hi), (.int .u64 t15.lo)] sz89 H rfl rfl rfl rfl rfl rfl ⟨⟨rfl, rfl⟩, rfl⟩ (one_cons rfl (one_cons rfl one_nil)) ?_
  intro w10 H
  refine WL.nil ?_
  refine W.seq ?_
  refine W.region ?_
  refine O.indexArrK (k := 2) 0 Try.underlying92 sz89 rfl rfl rfl rfl rfl ?_
  refine O.loadA (q := ⟨b5, 0, none⟩) [(.int .i64 t8.hi), (.int .u64 t8.lo)] ag89 rfl rfl rfl rfl (cell_part (o := 0) (k := 2) (H.cell 4 rfl) rfl) ?_
  refine O.loadA [(.int .i64 t15.hi), (.int .u64 t15.lo)] ag89 rfl rfl rfl rfl (H.cell 5 rfl) ?_
  obtain ⟨t16, hy9, hm⟩ := bind_some hm
  refine O.call Try.call40 rfl rfl rfl (c_transit_wide_minus t8 t15 hy9) ?_
  rintro _ w11 hb8 rfl
  have H := H.ext hb8
  obtain ⟨t17, hy10, hm⟩ := bind_some hm
  refine O.call Try.call41 rfl rfl rfl (c_transit_wide_below t16 hy10) ?_
  rintro _ w12 hb9 rfl
  have H := H.ext hb9
  refine O.not rfl rfl rfl ?_
  refine O.move (v := (.bool (!t17))) rfl rfl rfl ?_
  obtain ⟨b7, hm1, hm⟩ := bind_some hm
  refine WL.cut 7 (fun f w => f 67 = .bool b7 ∧ Inv w0 w [boxI b1 72 [(.int .i64 a0.shift), (.int .i64 a0.lo), (.int .i64 a0.hi)], boxI b2 39 [(.int .i64 a1.N), (.int .i64 a1.D)], boxI b3 39 [(.int .i64 a2.N), (.int .i64 a2.D)], boxI b4 89 [(.int .i64 t2.hi), (.int .u64 t2.lo)], boxI b5 92 [(.int .i64 t8.hi), (.int .u64 t8.lo), (.int .i64 t14.hi), (.int .u64 t14.lo)], boxI b6 89 [(.int .i64 t15.hi), (.int .u64 t15.lo)]]) ?_ ?_
  ·
   rcases ite_some hm1 with ⟨hc1, hm1⟩ | ⟨hc1, hm1⟩
   ·
    refine WL.reset (i := 60) (v := .bool true) (congrArg Value.bool hc1) ?_
    refine O.indexArrK (k := 2) 1 Try.underlying92 sz89 rfl rfl rfl rfl rfl ?_
    refine O.loadA (q := ⟨b5, 2, none⟩) [(.int .i64 t14.hi), (.int .u64 t14.lo)] ag89 rfl rfl rfl rfl (cell_part (o := 2) (k := 2) (H.cell 4 rfl) rfl) ?_
    refine O.loadA [(.int .i64 t2.hi), (.int .u64 t2.lo)] ag89 rfl rfl rfl rfl (H.cell 3 rfl) ?_
    obtain ⟨t18, hy11, hm1⟩ := bind_some hm1
    refine O.call Try.call40 rfl rfl rfl (c_transit_wide_minus t14 t2 hy11) ?_
    rintro _ w13 hb10 rfl
    have H := H.ext hb10
    obtain ⟨t19, hy12, hm1⟩ := bind_some hm1
    refine O.call Try.call41 rfl rfl rfl (c_transit_wide_below t18 hy12) ?_
    rintro _ w14 hb11 rfl
    have H := H.ext hb11
    refine O.not rfl rfl rfl ?_
    refine O.pick_true (v := (.bool (!t19))) rfl rfl rfl rfl ?_
    refine WL.nil ?_
    have hq : (!t19) = b7 := Option.some.inj (show some (!t19) = some b7 from hm1)
    subst hq
    exact ⟨rfl, H⟩
   ·
    refine WL.reset (i := 60) (v := .bool false) (congrArg Value.bool hc1) ?_
    refine O.skip rfl rfl ?_
    refine O.skip rfl rfl ?_
    refine O.skip rfl rfl ?_
    refine O.skip rfl rfl ?_
    refine O.skip rfl rfl ?_
    refine O.skip rfl rfl ?_
    refine O.pick_false (v := (.bool false)) rfl rfl rfl rfl ?_
    refine WL.nil ?_
    have hq : false = b7 := Option.some.inj (show some false = some b7 from hm1)
    subst hq
    exact ⟨rfl, H⟩
  ·
   rintro f w ⟨hf67, H⟩
   obtain ⟨u2, rfl⟩ := up1 hf67
   refine O.assign (v := (.bool b7)) rfl rfl rfl ?_
   refine WL.nil ?_
   refine W.ret ?_
   have hq : b7 = r0 := Option.some.inj (show some b7 = some r0 from hm)
   subst hq
   exact ends1 Try.results24 rfl ⟨_, rfl, H.base, rfl⟩

theorem c_transit_Suits_c1 {w0 : World} (a0 : GStrip) (pc0 : Addr) (c0 : GRatio) (hc0 : ∀ j c, (Flat.cells c0)[j]? = some c → w0.cell? (pc0.add j) = some c) (pc1 : Addr) (c1 : GRatio) (hc1 : ∀ j c, (Flat.cells c1)[j]? = some c → w0.cell? (pc1.add j) = some c) {r0 : Bool} (hm : transit_Suits_c1 a0 c0 c1 = some r0) :
  Calls Try.prog 23 #[(.agg (Flat.cells a0).toArray), (.pointer (some pc0)), (.pointer (some pc1))] w0 (Ret w0 fun _ v => v = (.bool r0)) := by
 unfold transit_Suits_c1 at hm
 refine calls_of_W Try.func23 rfl Try.ntmps23 (Nat.le_of_ble_eq_true rfl) ?_
 have H := Inv.start (w := w0)
 refine W.seq ?_
 refine W.region ?_
 refine O.box [(.int .i64 a0.shift), (.int .i64 a0.lo), (.int .i64 a0.hi)] H rfl rfl rfl rfl ?_
 intro b1 w1 H hb1
 refine O.assign (v := (.bool false)) rfl rfl rfl ?_
 refine WL.nil ?_
 refine W.seq ?_
 refine W.region ?_
 refine O.loadA [(.int .i64 a0.shift), (.int .i64 a0.lo), (.int .i64 a0.hi)] ag72 rfl rfl rfl rfl (H.cell 0 rfl) ?_
 refine O.loadA [(.int .i64 c0.N), (.int .i64 c0.D)] ag39 rfl rfl rfl rfl (cells_mono hc0 H.base) ?_
 refine O.loadA [(.int .i64 c1.N), (.int .i64 c1.D)] ag39 rfl rfl rfl rfl (cells_mono hc1 H.base) ?_
 obtain ⟨t1, hy1, hm⟩ := bind_some hm
 refine O.call Try.call24 rfl rfl rfl (c_transit_strip_has a0 c0 c1 hy1) ?_
 rintro _ w2 hb2 rfl
 have H := H.ext hb2
 refine O.not rfl rfl rfl ?_
 refine O.assign (v := (.bool (!t1))) rfl rfl rfl ?_
 refine WL.nil ?_
 refine W.ret ?_
 have hq : (!t1) = r0 := Option.some.inj (show some (!t1) = some r0 from hm)
 subst hq
 exact ends1 Try.results23 rfl ⟨_, rfl, H.base, rfl⟩

theorem c_slices_IndexFunc_strip {w0 : World} (va0 : Value) (a0 : (List GStrip)) (ha0 : SliceR w0 va0 a0) (va1 : Value) (a1 : GStrip → Option (Bool)) (ha1 : ∀ (w : World), Below w0.heap.size w0 w → ∀ (x0 : GStrip) (y0 : Bool), a1 x0 = some y0 → CallsV Try.prog va1 #[(.agg (Flat.cells x0).toArray)] w (Ret w fun _ v => v = (.bool y0))) {r0 : Int} (hm : slices_IndexFunc_strip a0 a1 = some r0) :
  Calls Try.prog 38 #[va0, va1] w0 (Ret w0 fun _ v => v = (.int .i64 r0)) := by
 unfold slices_IndexFunc_strip at hm
 refine calls_of_W Try.func38 rfl Try.ntmps38 (Nat.le_of_ble_eq_true rfl) ?_
 have H := Inv.start (w := w0)
 refine W.seq ?_
 refine W.region ?_
 refine O.assign (v := (.int .i64 0)) rfl rfl rfl ?_
 refine WL.nil ?_
 refine W.seq ?_
 refine W.seq ?_
 refine W.region ?_
 refine O.move (v := va0) rfl rfl rfl ?_
 refine O.lenS Try.underlying65 (H.arg ha0) rfl rfl rfl ?_
 refine O.move (v := (.int .i64 0)) rfl rfl rfl ?_
 refine WL.nil ?_
 obtain ⟨o1, hm1, hm⟩ := bind_some hm
 refine W.via (fun f w => o1 = .next () ∧ Inv w0 w []) ?_ ?_
 ·
  refine W.block ?_
  have hbdik1 := (H.arg ha0).len_le
  refine W.rangeN (i := 0) hm1 (fun rem ik1 s f w => () = s ∧ (ik1 : Int) + rem = max 0 ((a0.length : Nat) : Int) ∧ f 8 = .int .i64 (ik1 : Int) ∧ f 7 = (.int .i64 ((a0.length : Nat) : Int)) ∧ f 0 = va0 ∧ f 1 = va1 ∧ Inv w0 w []) ?_ ?_ ?_
  ·
   exact ⟨rfl, rangeN_start, rfl, rfl, rfl, rfl, H⟩
  ·
   rintro k ik1 _ st f w ⟨rfl, hdropk1, hf8, hf7, hf0, hf1, H⟩ hm2
   have hltk1 := rangeN_lt hdropk1
   obtain ⟨u1, rfl⟩ := up4 hf8 hf7 hf0 hf1
   have hinck1 := addI_lt hltk1 hbdik1
   refine W.seq ?_
   refine W.region ?_
   refine O.lss rfl rfl rfl rfl ?_
   refine WL.nil ?_
   refine W.seq ?_
   refine W.cond_true (congrArg Value.bool (decide_eq_true hltk1)) ?_
   refine W.skip ?_
   refine W.seq ?_
   refine W.block ?_
   refine W.seq ?_
   refine W.region ?_
   refine O.move (v := (.int .i64 (ik1 : Int))) rfl rfl rfl ?_
   refine O.assign (v := (.int .i64 (ik1 : Int))) rfl rfl rfl ?_
   refine WL.nil ?_
   refine W.seq ?_
   refine W.region ?_
   refine O.move (v := va1) rfl rfl rfl ?_
   refine O.move (v := va0) rfl rfl rfl ?_
   refine O.move (v := (.int .i64 (ik1 : Int))) rfl rfl rfl ?_
   obtain ⟨x1, hx1, hm2⟩ := bind_some hm2
   obtain ⟨p1, hp1, hrp1⟩ := fix_indexAddr Try.underlying65 sz72 ha0 hx1
   refine hrp1 rfl rfl rfl rfl ?_
   refine O.loadA [(.int .i64 x1.shift), (.int .i64 x1.lo), (.int .i64 x1.hi)] ag72 rfl rfl rfl rfl ((hp1.mono H.base).flat) ?_
   obtain ⟨t1, hy1, hm2⟩ := bind_some hm2
   refine O.callV rfl rfl rfl rfl (ha1 _ H.base x1 _ hy1) ?_
   rintro _ w1 hb1 rfl
   have H := H.ext hb1
   refine WL.nil ?_
   rcases ite_some hm2 with ⟨hc1, hm2⟩ | ⟨hc1, hm2⟩
   ·
    refine W.cond_true (congrArg Value.bool hc1) ?_
    refine W.seq ?_
    refine W.region ?_
    refine O.move (v := (.int .i64 (ik1 : Int))) rfl rfl rfl ?_
    refine O.assign (v := (.int .i64 (ik1 : Int))) rfl rfl rfl ?_
    refine WL.nil ?_
    refine W.ret ?_
    obtain rfl := Option.some.inj hm2
    refine ⟨_, rfl, ?_⟩
    rintro rfl
    have hq : (ik1 : Int) = r0 := Option.some.inj (show some (ik1 : Int) = some r0 from hm)
    subst hq
    exact ends1 Try.results38 rfl ⟨_, rfl, H.base, rfl⟩
   ·
    refine W.cond_false (congrArg Value.bool hc1) ?_
    refine W.skip ?_
    refine W.region ?_
    refine O.add rfl rfl rfl rfl hinck1 ?_
    refine O.move (v := .int .i64 ((ik1 : Int) + 1)) rfl rfl rfl ?_
    refine WL.nil ?_
    obtain rfl := Option.some.inj hm2
    exact ⟨_, rfl, rfl, rangeN_next hdropk1, rfl, rfl, rfl, rfl, H⟩
  ·
   rintro ik1 _ f w ⟨rfl, hdropk1, hf8, hf7, hf0, hf1, H⟩ hfin
   have hltk1 := rangeN_end hdropk1
   obtain ⟨u2, rfl⟩ := up4 hf8 hf7 hf0 hf1
   refine W.seq ?_
   refine W.region ?_
   refine O.lss rfl rfl rfl rfl ?_
   refine WL.nil ?_
   refine W.seq ?_
   refine W.cond_false (congrArg Value.bool (decide_eq_false hltk1)) ?_
   refine W.exit ?_
   obtain rfl : Ctl.next () = o1 := hfin
   refine xT rfl ?_
   exact ⟨rfl, H⟩
 ·
  rintro f w ⟨rfl, H⟩
  refine W.seq ?_
  refine W.region ?_
  refine O.assign (v := (.int .i64 (-1))) rfl rfl rfl ?_
  refine WL.nil ?_
  refine W.ret ?_
  have hq : (-1) = r0 := Option.some.inj (show some (-1) = some r0 from hm)
  subst hq
  exact ends1 Try.results38 rfl ⟨_, rfl, H.base, rfl⟩

theorem c_slices_ContainsFunc_strip {w0 : World} (va0 : Value) (a0 : (List GStrip)) (ha0 : SliceR w0 va0 a0) (va1 : Value) (a1 : GStrip → Option (Bool)) (ha1 : ∀ (w : World), Below w0.heap.size w0 w → ∀ (x0 : GStrip) (y0 : Bool), a1 x0 = some y0 → CallsV Try.prog va1 #[(.agg (Flat.cells x0).toArray)] w (Ret w fun _ v => v = (.bool y0))) {r0 : Bool} (hm : slices_ContainsFunc_strip a0 a1 = some r0) :
  Calls Try.prog 22 #[va0, va1] w0 (Ret w0 fun _ v => v = (.bool r0)) := by
 unfold slices_ContainsFunc_strip at hm
 refine calls_of_W Try.func22 rfl Try.ntmps22 (Nat.le_of_ble_eq_true rfl) ?_
 have H := Inv.start (w := w0)
 refine W.seq ?_
 refine W.region ?_
 refine O.assign (v := (.bool false)) rfl rfl rfl ?_
 refine WL.nil ?_
 refine W.seq ?_
 refine W.region ?_
 refine O.move (v := va0) rfl rfl rfl ?_
 refine O.move (v := va1) rfl rfl rfl ?_
 obtain ⟨t1, hy1, hm⟩ := bind_some hm
 refine O.call Try.call38 rfl rfl rfl (c_slices_IndexFunc_strip _ _ (H.arg ha0) va1 a1 (fun w hw => ha1 w (H.base.trans (hw.mono H.base.size))) hy1) ?_
 rintro _ w1 hb1 rfl
 have H := H.ext hb1
 refine O.geq rfl rfl rfl rfl ?_
 refine O.assign (v := (.bool (decide (0 ≤ t1)))) rfl rfl rfl ?_
 refine WL.nil ?_
 refine W.ret ?_
 have hq : (decide (0 ≤ t1)) = r0 := Option.some.inj (show some (decide (0 ≤ t1)) = some r0 from hm)
 subst hq
 exact ends1 Try.results22 rfl ⟨_, rfl, H.base, rfl⟩

set_option maxRecDepth 20000 in
theorem c_transit_Suits {w0 : World} (va0_0 : Value) (a0 : GTube) (ha0_0 : SliceR w0 va0_0 a0.Wires) (va1 : Value) (a1 : (List GTransit)) (ha1 : SliceR w0 va1 a1) (a2 : GRatio) (a3 : GRatio) {r0 : Bool} {r1 : Int} (hm : transit_Suits a0 a1 a2 a3 = some (r0, r1)) :
  Calls Try.prog 8 #[(.agg #[va0_0, (.int .i64 a0.Error)]), va1, (.agg (Flat.cells a2).toArray), (.agg (Flat.cells a3).toArray)] w0 (Ret w0 fun _ v => v = .tuple #[(.bool r0), (.int .i64 r1)]) := by
 unfold transit_Suits at hm
 refine calls_of_W Try.func8 rfl Try.ntmps8 (Nat.le_of_ble_eq_true rfl) ?_
 have H := Inv.start (w := w0)
 refine W.seq ?_
 refine W.region ?_
 refine O.box [va0_0, (.int .i64 a0.Error)] H rfl rfl rfl rfl ?_
 intro b1 w1 H hb1
 refine O.box [(.int .i64 a2.N), (.int .i64 a2.D)] H rfl rfl rfl rfl ?_
 intro b2 w2 H hb2
 refine O.box [(.int .i64 a3.N), (.int .i64 a3.D)] H rfl rfl rfl rfl ?_
 intro b3 w3 H hb3
 refine O.assign (v := (.bool false)) rfl rfl rfl ?_
 refine O.assign (v := (.int .i64 0)) rfl rfl rfl ?_
 refine WL.nil ?_
 refine W.seq ?_
 refine W.seq ?_
 refine W.region ?_
 refine O.loadA [(.int .i64 a2.N), (.int .i64 a2.D)] ag39 rfl rfl rfl rfl (H.cell 1 rfl) ?_
 obtain ⟨t1, hy1, hm⟩ := bind_some hm
 refine O.call Try.call21 rfl rfl rfl (c_span_ValidRatio a2 hy1) ?_
 rintro _ w4 hb4 rfl
 have H := H.ext hb4
 refine O.not rfl rfl rfl ?_
 refine O.move (v := (.bool (!t1))) rfl rfl rfl ?_
 obtain ⟨b4, hm1, hm⟩ := bind_some hm
 refine WL.cut 4 (fun f w => f 1 = va1 ∧ f 4 = (.pointer (some ⟨b1, 0, none⟩)) ∧ f 6 = (.pointer (some ⟨b2, 0, none⟩)) ∧ f 7 = (.pointer (some ⟨b3, 0, none⟩)) ∧ f 19 = .bool b4 ∧ Inv w0 w [boxI b1 24 [va0_0, (.int .i64 a0.Error)], boxI b2 39 [(.int .i64 a2.N), (.int .i64 a2.D)], boxI b3 39 [(.int .i64 a3.N), (.int .i64 a3.D)]]) ?_ ?_
 ·
  rcases ite_some hm1 with ⟨hc1, hm1⟩ | ⟨hc1, hm1⟩
  ·
   refine WL.reset (i := 15) (v := .bool true) (congrArg Value.bool hc1) ?_
   refine O.skip rfl rfl ?_
   refine O.skip rfl rfl ?_
   refine O.skip rfl rfl ?_
   refine O.pick_true (v := (.bool true)) rfl rfl rfl rfl ?_
   refine WL.nil ?_
   have hq : true = b4 := Option.some.inj (show some true = some b4 from hm1)
   subst hq
   exact ⟨rfl, rfl, rfl, rfl, rfl, H⟩
  ·
   refine WL.reset (i := 15) (v := .bool false) (congrArg Value.bool hc1) ?_
   refine O.loadA [(.int .i64 a3.N), (.int .i64 a3.D)] ag39 rfl rfl rfl rfl (H.cell 2 rfl) ?_
   obtain ⟨t2, hy2, hm1⟩ := bind_some hm1
   refine O.call Try.call21 rfl rfl rfl (c_span_ValidRatio a3 hy2) ?_
   rintro _ w5 hb5 rfl
   have H := H.ext hb5
   refine O.not rfl rfl rfl ?_
   refine O.pick_false (v := (.bool (!t2))) rfl rfl rfl rfl ?_
   refine WL.nil ?_
   have hq : (!t2) = b4 := Option.some.inj (show some (!t2) = some b4 from hm1)
   subst hq
   exact ⟨rfl, rfl, rfl, rfl, rfl, H⟩
 ·
  rintro f w ⟨hf1, hf4, hf6, hf7, hf19, H⟩
  obtain ⟨u1, rfl⟩ := up5 hf1 hf4 hf6 hf7 hf19
  refine WL.nil ?_
  rcases ite_some hm with ⟨hc2, hm⟩ | ⟨hc2, hm⟩
  ·
   refine W.cond_true (congrArg Value.bool hc2) ?_
   refine W.seq ?_
   refine W.region ?_
   refine O.assign (v := (.bool false)) rfl rfl rfl ?_
   refine O.assign (v := (.int .i64 1)) rfl rfl rfl ?_
   refine WL.nil ?_
   refine W.ret ?_
   have hq : (false, 1) = (r0, r1) := Option.some.inj (show some (false, 1) = some (r0, r1) from hm)
   obtain ⟨he0, hq0⟩ := Prod.mk.inj hq; clear hq; subst he0
   subst hq0
   exact ends2 Try.results8 rfl rfl ⟨_, rfl, H.base, rfl⟩
  ·
   refine W.cond_false (congrArg Value.bool hc2) ?_
   refine W.skip ?_
   refine W.seq ?_
   refine W.region ?_
   refine O.loadA [va0_0, (.int .i64 a0.Error)] ag24 rfl rfl rfl rfl (H.cell 0 rfl) ?_
   refine O.move (v := va1) rfl rfl rfl ?_
   obtain ⟨⟨t3, t4⟩, hy3, hm⟩ := bind_some hm
   refine O.call Try.call19 rfl rfl rfl (c_transit_asked _ (GTube.mk a0.Wires a0.Error) (H.arg ha0_0) _ _ (H.arg ha1) hy3) ?_
   rintro _ w6 hb6 ⟨v1, rfl, ho1⟩
   have H := H.addOwn hb6 ho1
   refine O.move (v := (.tuple #[v1, (.int .i64 t4)])) rfl rfl rfl ?_
   refine O.extract (v := v1) rfl rfl rfl rfl ?_
   refine O.extract (v := (.int .i64 t4)) rfl rfl rfl rfl ?_
   refine O.assign (v := v1) rfl rfl rfl ?_
   refine O.assign (v := (.int .i64 t4)) rfl rfl rfl ?_
   refine WL.nil ?_
   refine W.seq ?_
   refine W.seq ?_
   refine W.region ?_
   refine O.move (v := (.int .i64 t4)) rfl rfl rfl ?_
   refine O.neq rfl rfl rfl rfl ?_
   refine WL.nil ?_
   rcases ite_some hm with ⟨hc3, hm⟩ | ⟨hc3, hm⟩
   ·
    refine W.cond_true (congrArg Value.bool hc3) ?_
    refine W.seq ?_
    refine W.region ?_
    refine O.move (v := (.int .i64 t4)) rfl rfl rfl ?_
    refine O.assign (v := (.bool false)) rfl rfl rfl ?_
    refine O.assign (v := (.int .i64 t4)) rfl rfl rfl ?_
    refine WL.nil ?_
    refine W.ret ?_
    have hq : (false, t4) = (r0, r1) := Option.some.inj (show some (false, t4) = some (r0, r1) from hm)
    obtain ⟨he0, hq0⟩ := Prod.mk.inj hq; clear hq; subst he0
    subst hq0
    exact ends2 Try.results8 rfl rfl ⟨_, rfl, H.base, rfl⟩
   ·
    refine W.cond_false (congrArg Value.bool hc3) ?_
    refine W.skip ?_
    refine W.seq ?_
    refine W.region ?_
    refine O.move (v := v1) rfl rfl rfl ?_
    refine O.makeFunc rfl rfl rfl rfl ?_
    obtain ⟨t5, hy4, hm⟩ := bind_some hm
    refine O.call Try.call22 rfl rfl rfl (c_slices_ContainsFunc_strip _ _ (H.own 3 rfl) _ (fun x0 => transit_Suits_c1 x0 a2 a3) (fun w hw x0 _ hy => callsV_mk Try.call23 (c_transit_Suits_c1 x0 _ a2 (cells_mono (H.cell 1 rfl) hw) _ a3 (cells_mono (H.cell 2 rfl) hw) hy)) hy4) ?_
    rintro _ w7 hb7 rfl
    have H := H.ext hb7
    refine O.not rfl rfl rfl ?_
    refine O.assign (v := (.bool (!t5))) rfl rfl rfl ?_
    refine O.assign (v := (.int .i64 0)) rfl rfl rfl ?_
    refine WL.nil ?_
    refine W.ret ?_
    have hq : ((!t5), 0) = (r0, r1) := Option.some.inj (show some ((!t5), 0) = some (r0, r1) from hm)
    obtain ⟨he0, hq0⟩ := Prod.mk.inj hq; clear hq; subst he0
    subst hq0
    exact ends2 Try.results8 rfl rfl ⟨_, rfl, H.base, rfl⟩

set_option maxRecDepth 20000 in
theorem c_noonguntop_TopTransits {w0 : World} (va0_0 : Value) (a0 : GTube) (ha0_0 : SliceR w0 va0_0 a0.Wires) (va1 : Value) (a1 : (List GStar)) (ha1 : SliceR w0 va1 a1) (a2 : Int) (a3 : Int) {r0 : Bool} (hm : noonguntop_TopTransits a0 a1 a2 a3 = some r0) :
  Calls Try.prog 3 #[(.agg #[va0_0, (.int .i64 a0.Error)]), va1, (.int .i64 a2), (.int .i64 a3)] w0 (Ret w0 fun _ v => v = (.bool r0)) := by
 unfold noonguntop_TopTransits at hm
 refine calls_of_W Try.func3 rfl Try.ntmps3 (Nat.le_of_ble_eq_true rfl) ?_
 have H := Inv.start (w := w0)
 refine W.seq ?_
 refine W.region ?_
 refine O.box [va0_0, (.int .i64 a0.Error)] H rfl rfl rfl rfl ?_
 intro b1 w1 H hb1
 refine O.assign (v := (.bool false)) rfl rfl rfl ?_
 refine WL.nil ?_
 refine W.seq ?_
 refine W.seq ?_
 refine W.region ?_
 refine O.move (v := va1) rfl rfl rfl ?_
 refine O.lenS Try.underlying25 (H.arg ha1) rfl rfl rfl ?_
 refine O.lss rfl rfl rfl rfl ?_
 refine O.move (v := (.bool (decide (((a1.length : Nat) : Int) < 1)))) rfl rfl rfl ?_
 refine WL.cut 4 (fun f w => f 1 = va1 ∧ f 2 = (.int .i64 a2) ∧ f 3 = (.int .i64 a3) ∧ f 4 = (.pointer (some ⟨b1, 0, none⟩)) ∧ f 25 = .bool ((decide (((a1.length : Nat) : Int) < 1)) || (decide (6 < ((a1.length : Nat) : Int)))) ∧ Inv w0 w [boxI b1 24 [va0_0, (.int .i64 a0.Error)]]) ?_ ?_
 ·
  rcases bool_ft (decide (((a1.length : Nat) : Int) < 1)) with hc1 | hc1
  ·
   refine WL.reset (i := 21) (v := .bool false) (congrArg Value.bool hc1) ?_
   refine O.move (v := va1) rfl rfl rfl ?_
   refine O.lenS Try.underlying25 (H.arg ha1) rfl rfl rfl ?_
   refine O.gtr rfl rfl rfl rfl ?_
   refine O.pick_false (v := (.bool (decide (6 < ((a1.length : Nat) : Int))))) rfl rfl rfl rfl ?_
   exact WL.nil ⟨rfl, rfl, rfl, rfl, congrArg Value.bool (or_f hc1), H⟩
  ·
   refine WL.reset (i := 21) (v := .bool true) (congrArg Value.bool hc1) ?_
   refine O.skip rfl rfl ?_
   refine O.skip rfl rfl ?_
   refine O.skip rfl rfl ?_
   refine O.pick_true (v := (.bool true)) rfl rfl rfl rfl ?_
   exact WL.nil ⟨rfl, rfl, rfl, rfl, congrArg Value.bool (or_t hc1), H⟩
 ·
  rintro f w ⟨hf1, hf2, hf3, hf4, hf25, H⟩
  obtain ⟨u1, rfl⟩ := up5 hf1 hf2 hf3 hf4 hf25
  refine O.move (v := (.bool ((decide (((a1.length : Nat) : Int) < 1)) || (decide (6 < ((a1.length : Nat) : Int)))))) rfl rfl rfl ?_
  refine WL.cut 5 (fun f w => f 1 = va1 ∧ f 2 = (.int .i64 a2) ∧ f 3 = (.int .i64 a3) ∧ f 4 = (.pointer (some ⟨b1, 0, none⟩)) ∧ f 31 = .bool (((decide (((a1.length : Nat) : Int) < 1)) || (decide (6 < ((a1.length : Nat) : Int)))) || (decide (20 < ((a0.Wires.length : Nat) : Int)))) ∧ Inv w0 w [boxI b1 24 [va0_0, (.int .i64 a0.Error)]]) ?_ ?_
  ·
   rcases bool_ft ((decide (((a1.length : Nat) : Int) < 1)) || (decide (6 < ((a1.length : Nat) : Int)))) with hc2 | hc2
   ·
    refine WL.reset (i := 26) (v := .bool false) (congrArg Value.bool hc2) ?_
    refine O.fieldAddr fd24_0 rfl rfl rfl ?_
    refine O.load sc22 rfl rfl rfl (H.cell 0 rfl 0 _ rfl) ?_
    refine O.lenS Try.underlying22 (H.arg ha0_0) rfl rfl rfl ?_
    refine O.gtr rfl rfl rfl rfl ?_
    refine O.pick_false (v := (.bool (decide (20 < ((a0.Wires.length : Nat) : Int))))) rfl rfl rfl rfl ?_
    exact WL.nil ⟨rfl, rfl, rfl, rfl, congrArg Value.bool (or_f hc2), H⟩
   ·
    refine WL.reset (i := 26) (v := .bool true) (congrArg Value.bool hc2) ?_
    refine O.skip rfl rfl ?_
    refine O.skip rfl rfl ?_
    refine O.skip rfl rfl ?_
    refine O.skip rfl rfl ?_
    refine O.pick_true (v := (.bool true)) rfl rfl rfl rfl ?_
    exact WL.nil ⟨rfl, rfl, rfl, rfl, congrArg Value.bool (or_t hc2), H⟩
  ·
   rintro f w ⟨hf1, hf2, hf3, hf4, hf31, H⟩
   obtain ⟨u2, rfl⟩ := up5 hf1 hf2 hf3 hf4 hf31
   refine O.move (v := (.bool (((decide (((a1.length : Nat) : Int) < 1)) || (decide (6 < ((a1.length : Nat) : Int)))) || (decide (20 < ((a0.Wires.length : Nat) : Int)))))) rfl rfl rfl ?_
   refine WL.cut 3 (fun f w => f 1 = va1 ∧ f 2 = (.int .i64 a2) ∧ f 3 = (.int .i64 a3) ∧ f 4 = (.pointer (some ⟨b1, 0, none⟩)) ∧ f 35 = .bool ((((decide (((a1.length : Nat) : Int) < 1)) || (decide (6 < ((a1.length : Nat) : Int)))) || (decide (20 < ((a0.Wires.length : Nat) : Int)))) || (decide (a2 < (-1000000)))) ∧ Inv w0 w [boxI b1 24 [va0_0, (.int .i64 a0.Error)]]) ?_ ?_
   ·
    rcases bool_ft (((decide (((a1.length : Nat) : Int) < 1)) || (decide (6 < ((a1.length : Nat) : Int)))) || (decide (20 < ((a0.Wires.length : Nat) : Int)))) with hc3 | hc3
    ·
     refine WL.reset (i := 32) (v := .bool false) (congrArg Value.bool hc3) ?_
     refine O.move (v := (.int .i64 a2)) rfl rfl rfl ?_
     refine O.lss rfl rfl rfl rfl ?_
     refine O.pick_false (v := (.bool (decide (a2 < (-1000000))))) rfl rfl rfl rfl ?_
     exact WL.nil ⟨rfl, rfl, rfl, rfl, congrArg Value.bool (or_f hc3), H⟩
    ·
     refine WL.reset (i := 32) (v := .bool true) (congrArg Value.bool hc3) ?_
     refine O.skip rfl rfl ?_
     refine O.skip rfl rfl ?_
     refine O.pick_true (v := (.bool true)) rfl rfl rfl rfl ?_
     exact WL.nil ⟨rfl, rfl, rfl, rfl, congrArg Value.bool (or_t hc3), H⟩
   ·
    rintro f w ⟨hf1, hf2, hf3, hf4, hf35, H⟩
    obtain ⟨u3, rfl⟩ := up5 hf1 hf2 hf3 hf4 hf35
    refine O.move (v := (.bool ((((decide (((a1.length : Nat) : Int) < 1)) || (decide (6 < ((a1.length : Nat) : Int)))) || (decide (20 < ((a0.Wires.length : Nat) : Int)))) || (decide (a2 < (-1000000)))))) rfl rfl rfl ?_
    refine WL.cut 3 (fun f w => f 1 = va1 ∧ f 2 = (.int .i64 a2) ∧ f 3 = (.int .i64 a3) ∧ f 4 = (.pointer (some ⟨b1, 0, none⟩)) ∧ f 39 = .bool (((((decide (((a1.length : Nat) : Int) < 1)) || (decide (6 < ((a1.length : Nat) : Int)))) || (decide (20 < ((a0.Wires.length : Nat) : Int)))) || (decide (a2 < (-1000000)))) || (decide (1000000 < a2))) ∧ Inv w0 w [boxI b1 24 [va0_0, (.int .i64 a0.Error)]]) ?_ ?_
    ·
     rcases bool_ft ((((decide (((a1.length : Nat) : Int) < 1)) || (decide (6 < ((a1.length : Nat) : Int)))) || (decide (20 < ((a0.Wires.length : Nat) : Int)))) || (decide (a2 < (-1000000)))) with hc4 | hc4
     ·
      refine WL.reset (i := 36) (v := .bool false) (congrArg Value.bool hc4) ?_
      refine O.move (v := (.int .i64 a2)) rfl rfl rfl ?_
      refine O.gtr rfl rfl rfl rfl ?_
      refine O.pick_false (v := (.bool (decide (1000000 < a2)))) rfl rfl rfl rfl ?_
      exact WL.nil ⟨rfl, rfl, rfl, rfl, congrArg Value.bool (or_f hc4), H⟩
     ·
      refine WL.reset (i := 36) (v := .bool true) (congrArg Value.bool hc4) ?_
      refine O.skip rfl rfl ?_
      refine O.skip rfl rfl ?_
      refine O.pick_true (v := (.bool true)) rfl rfl rfl rfl ?_
      exact WL.nil ⟨rfl, rfl, rfl, rfl, congrArg Value.bool (or_t hc4), H⟩
    ·
     rintro f w ⟨hf1, hf2, hf3, hf4, hf39, H⟩
     obtain ⟨u4, rfl⟩ := up5 hf1 hf2 hf3 hf4 hf39
     refine O.move (v := (.bool (((((decide (((a1.length : Nat) : Int) < 1)) || (decide (6 < ((a1.length : Nat) : Int)))) || (decide (20 < ((a0.Wires.length : Nat) : Int)))) || (decide (a2 < (-1000000)))) || (decide (1000000 < a2))))) rfl rfl rfl ?_
     refine WL.cut 3 (fun f w => f 1 = va1 ∧ f 2 = (.int .i64 a2) ∧ f 3 = (.int .i64 a3) ∧ f 4 = (.pointer (some ⟨b1, 0, none⟩)) ∧ f 43 = .bool ((((((decide (((a1.length : Nat) : Int) < 1)) || (decide (6 < ((a1.length : Nat) : Int)))) || (decide (20 < ((a0.Wires.length : Nat) : Int)))) || (decide (a2 < (-1000000)))) || (decide (1000000 < a2))) || (decide (a3 < (-1000)))) ∧ Inv w0 w [boxI b1 24 [va0_0, (.int .i64 a0.Error)]]) ?_ ?_
     ·
      rcases bool_ft (((((decide (((a1.length : Nat) : Int) < 1)) || (decide (6 < ((a1.length : Nat) : Int)))) || (decide (20 < ((a0.Wires.length : Nat) : Int)))) || (decide (a2 < (-1000000)))) || (decide (1000000 < a2))) with hc5 | hc5
      ·
       refine WL.reset (i := 40) (v := .bool false) (congrArg Value.bool hc5) ?_
       refine O.move (v := (.int .i64 a3)) rfl rfl rfl ?_
       refine O.lss rfl rfl rfl rfl ?_
       refine O.pick_false (v := (.bool (decide (a3 < (-1000))))) rfl rfl rfl rfl ?_
       exact WL.nil ⟨rfl, rfl, rfl, rfl, congrArg Value.bool (or_f hc5), H⟩
      ·
       refine WL.reset (i := 40) (v := .bool true) (congrArg Value.bool hc5) ?_
       refine O.skip rfl rfl ?_
       refine O.skip rfl rfl ?_
       refine O.pick_true (v := (.bool true)) rfl rfl rfl rfl ?_
       exact WL.nil ⟨rfl, rfl, rfl, rfl, congrArg Value.bool (or_t hc5), H⟩
     ·
      rintro f w ⟨hf1, hf2, hf3, hf4, hf43, H⟩
      obtain ⟨u5, rfl⟩ := up5 hf1 hf2 hf3 hf4 hf43
      refine O.move (v := (.bool ((((((decide (((a1.length : Nat) : Int) < 1)) || (decide (6 < ((a1.length : Nat) : Int)))) || (decide (20 < ((a0.Wires.length : Nat) : Int)))) || (decide (a2 < (-1000000)))) || (decide (1000000 < a2))) || (decide (a3 < (-1000)))))) rfl rfl rfl ?_
      refine WL.cut 3 (fun f w => f 1 = va1 ∧ f 2 = (.int .i64 a2) ∧ f 3 = (.int .i64 a3) ∧ f 4 = (.pointer (some ⟨b1, 0, none⟩)) ∧ f 47 = .bool (((((((decide (((a1.length : Nat) : Int) < 1)) || (decide (6 < ((a1.length : Nat) : Int)))) || (decide (20 < ((a0.Wires.length : Nat) : Int)))) || (decide (a2 < (-1000000)))) || (decide (1000000 < a2))) || (decide (a3 < (-1000)))) || (decide (1000 < a3))) ∧ Inv w0 w [boxI b1 24 [va0_0, (.int .i64 a0.Error)]]) ?_ ?_
      ·
       rcases bool_ft ((((((decide (((a1.length : Nat) : Int) < 1)) || (decide (6 < ((a1.length : Nat) : Int)))) || (decide (20 < ((a0.Wires.length : Nat) : Int)))) || (decide (a2 < (-1000000)))) || (decide (1000000 < a2))) || (decide (a3 < (-1000)))) with hc6 | hc6
       ·
        refine WL.reset (i := 44) (v := .bool false) (congrArg Value.bool hc6) ?_
        refine O.move (v := (.int .i64 a3)) rfl rfl rfl ?_
        refine O.gtr rfl rfl rfl rfl ?_
        refine O.pick_false (v := (.bool (decide (1000 < a3)))) rfl rfl rfl rfl ?_
        exact WL.nil ⟨rfl, rfl, rfl, rfl, congrArg Value.bool (or_f hc6), H⟩
       ·
        refine WL.reset (i := 44) (v := .bool true) (congrArg Value.bool hc6) ?_
        refine O.skip rfl rfl ?_
        refine O.skip rfl rfl ?_
        refine O.pick_true (v := (.bool true)) rfl rfl rfl rfl ?_
        exact WL.nil ⟨rfl, rfl, rfl, rfl, congrArg Value.bool (or_t hc6), H⟩
      ·
       rintro f w ⟨hf1, hf2, hf3, hf4, hf47, H⟩
       obtain ⟨u6, rfl⟩ := up5 hf1 hf2 hf3 hf4 hf47
       refine WL.nil ?_
       rcases ite_some hm with ⟨hc7, hm⟩ | ⟨hc7, hm⟩
       ·
        refine W.cond_true (congrArg Value.bool hc7) ?_
        refine W.seq ?_
        refine W.region ?_
        obtain ⟨t1, hy1, hm⟩ := bind_some hm
        refine O.call Try.call5 rfl rfl rfl (c_noonguntop_awake5  hy1) ?_
        rintro _ w2 hb2 rfl
        have H := H.ext hb2
        refine O.assign (v := (.bool t1)) rfl rfl rfl ?_
        refine WL.nil ?_
        refine W.ret ?_
        have hq : t1 = r0 := Option.some.inj (show some t1 = some r0 from hm)
        subst hq
        exact ends1 Try.results3 rfl ⟨_, rfl, H.base, rfl⟩
       ·
        refine W.cond_false (congrArg Value.bool hc7) ?_
        refine W.skip ?_
        refine W.seq ?_
        refine W.region ?_
        refine O.buildEmpty (α := Int) Try.underlying22 el3 H rfl rfl ?_
        intro b2 w3 H hb3
        refine O.fieldAddr fd24_0 rfl rfl rfl ?_
        refine O.load sc22 rfl rfl rfl (H.cell 0 rfl 0 _ rfl) ?_
        obtain ⟨t2, ht2, hm⟩ := bind_some hm
        refine O.append 1 Try.underlying22 el3 rfl H rfl (H.arg ha0_0) ht2 rfl rfl rfl rfl ?_
        intro v1 w4 H
        refine O.fieldAddr fd24_0 rfl rfl rfl ?_
        refine O.store 0 0 [v1] [v1, (.int .i64 a0.Error)] sz22 H rfl rfl rfl rfl rfl (SliceR.cells1 (H.own 1 rfl)) ⟨⟨rfl, rfl⟩, rfl⟩ (one_cons (SliceR.one (H.own 1 rfl)) one_nil) ?_
        intro w5 H
        refine WL.nil ?_
        refine W.seq ?_
        refine W.region ?_
        have H := H.addNilX (α := GTransit) 4 (E := 31)
        refine O.assign (v := (.slice none 0 0)) rfl rfl rfl ?_
        refine WL.nil ?_
        refine W.seq ?_
        refine W.seq ?_
        refine W.region ?_
        refine O.move (v := va1) rfl rfl rfl ?_
        refine O.lenS Try.underlying25 (H.arg ha1) rfl rfl rfl ?_
        refine O.move (v := (.int .i64 0)) rfl rfl rfl ?_
        refine WL.nil ?_
        obtain ⟨o1, hm1, hm⟩ := bind_some hm
        refine W.via (fun f w => ∃ s1 : (List GTransit), ∃ v5 : Value, ∃ Fx4 : (Nat → Prop), ∃ rn4x4 : List (CN 4), o1 = .next s1 ∧ f 2 = (.int .i64 a2) ∧ f 3 = (.int .i64 a3) ∧ f 4 = (.pointer (some ⟨b1, 0, none⟩)) ∧ f 9 = v5 ∧ Inv w0 w [boxI b1 24 [v1, (.int .i64 a0.Error)], ownI (α := Int) v1 3 t2, ownXI (α := GTransit) (n := 4) Fx4 v5 31 rn4x4 s1]) ?_ ?_
        ·
         refine W.block ?_
         refine W.rangeL (i := 0) hm1 (fun rem ik1 s f w => ∃ z2 : (List GTransit), ∃ v3 : Value, ∃ Fx2 : (Nat → Prop), ∃ rn4x2 : List (CN 4), z2 = s ∧ a1.drop ik1 = rem ∧ f 56 = .int .i64 (ik1 : Int) ∧ f 55 = (.int .i64 ((a1.length : Nat) : Int)) ∧ f 2 = (.int .i64 a2) ∧ f 3 = (.int .i64 a3) ∧ f 4 = (.pointer (some ⟨b1, 0, none⟩)) ∧ f 9 = v3 ∧ f 54 = va1 ∧ Inv w0 w [boxI b1 24 [v1, (.int .i64 a0.Error)], ownI (α := Int) v1 3 t2, ownXI (α := GTransit) (n := 4) Fx2 v3 31 rn4x2 z2]) ?_ ?_ ?_
         ·
          exact ⟨_, (.slice none 0 0), (fun _ => False), [], rfl, List.drop_zero, rfl, rfl, rfl, rfl, rfl, rfl, rfl, H⟩
         ·
          rintro yk1 xs ik1 _ st f w ⟨z2, v3, Fx2, rn4x2, rfl, hdropk1, hf56, hf55, hf2, hf3, hf4, hf9, hf54, H⟩ hm2
          have hltk1 := drop_lt hdropk1; have hixk1 := drop_idx hdropk1
          obtain ⟨u7, rfl⟩ := up7 hf56 hf55 hf2 hf3 hf4 hf9 hf54
          have hinck1 := addI_lt hltk1 (H.arg ha1).len_le
          refine W.seq ?_
          refine W.region ?_
          refine O.lss rfl rfl rfl rfl ?_
          refine WL.nil ?_
          refine W.seq ?_
          refine W.cond_true (congrArg Value.bool (decide_eq_true hltk1)) ?_
          refine W.skip ?_
          refine W.seq ?_
          refine W.block ?_
          refine W.seq ?_
          refine W.region ?_
          obtain ⟨p1, hp1, hrp1⟩ := fix_indexAddr Try.underlying25 sz29 ha1 hixk1
          refine hrp1 rfl rfl rfl rfl ?_
          refine O.loadA [(.string yk1.Name), (.int .i64 yk1.Ascension), (.int .i64 yk1.Shift), (.int .i64 yk1.Slow)] ag29 rfl rfl rfl rfl ((hp1.mono H.base).flat) ?_
          refine O.alloc [(.string ByteArray.empty), (.int .i64 0), (.int .i64 0), (.int .i64 0)] ze29 H rfl rfl rfl ?_
          intro b3 w6 H hb4
          refine O.store 3 0 [(.string yk1.Name), (.int .i64 yk1.Ascension), (.int .i64 yk1.Shift), (.int .i64 yk1.Slow)] [(.string yk1.Name), (.int .i64 yk1.Ascension), (.int .i64 yk1.Shift), (.int .i64 yk1.Slow)] sz29 H rfl rfl rfl rfl rfl rfl ⟨⟨rfl, rfl⟩, rfl⟩ (one_cons rfl (one_cons rfl (one_cons rfl (one_cons rfl one_nil)))) ?_
          intro w7 H
          refine WL.nil ?_
          refine W.seq ?_
          refine W.seq ?_
          refine W.region ?_
          refine O.fieldAddr fd29_0 rfl rfl rfl ?_
          refine O.load sc9 rfl rfl rfl (H.cell 3 rfl 0 _ rfl) ?_
          refine O.lenStr Try.underlying9 rfl rfl rfl ?_
          refine O.gtr rfl rfl rfl rfl ?_
          refine O.move (v := (.bool (decide (50 < ((yk1.Name.size : Nat) : Int))))) rfl rfl rfl ?_
          refine WL.cut 4 (fun f w => f 2 = (.int .i64 a2) ∧ f 3 = (.int .i64 a3) ∧ f 4 = (.pointer (some ⟨b1, 0, none⟩)) ∧ f 9 = v3 ∧ f 11 = (.pointer (some ⟨b3, 0, none⟩)) ∧ f 54 = va1 ∧ f 55 = (.int .i64 ((a1.length : Nat) : Int)) ∧ f 56 = (.int .i64 (ik1 : Int)) ∧ f 68 = .bool ((decide (50 < ((yk1.Name.size : Nat) : Int))) || (decide (yk1.Shift < (-10000)))) ∧ Inv w0 w [boxI b1 24 [v1, (.int .i64 a0.Error)], ownI (α := Int) v1 3 t2, ownXI (α := GTransit) (n := 4) Fx2 v3 31 rn4x2 z2, boxI b3 29 [(.string yk1.Name), (.int .i64 yk1.Ascension), (.int .i64 yk1.Shift), (.int .i64 yk1.Slow)]]) ?_ ?_
          ·
           rcases bool_ft (decide (50 < ((yk1.Name.size : Nat) : Int))) with hc8 | hc8
           ·
            refine WL.reset (i := 64) (v := .bool false) (congrArg Value.bool hc8) ?_
            refine O.fieldAddr fd29_2 rfl rfl rfl ?_
            refine O.load sc3 rfl rfl rfl (H.cell 3 rfl 2 _ rfl) ?_
            refine O.lss rfl rfl rfl rfl ?_
            refine O.pick_false (v := (.bool (decide (yk1.Shift < (-10000))))) rfl rfl rfl rfl ?_
            exact WL.nil ⟨rfl, rfl, rfl, rfl, rfl, rfl, rfl, rfl, congrArg Value.bool (or_f hc8), H⟩
           ·
            refine WL.reset (i := 64) (v := .bool true) (congrArg Value.bool hc8) ?_
            refine O.skip rfl rfl ?_
            refine O.skip rfl rfl ?_
            refine O.skip rfl rfl ?_
            refine O.pick_true (v := (.bool true)) rfl rfl rfl rfl ?_
            exact WL.nil ⟨rfl, rfl, rfl, rfl, rfl, rfl, rfl, rfl, congrArg Value.bool (or_t hc8), H⟩
          ·
           rintro f w ⟨hf2, hf3, hf4, hf9, hf11, hf54, hf55, hf56, hf68, H⟩
           obtain ⟨u8, rfl⟩ := up9 hf2 hf3 hf4 hf9 hf11 hf54 hf55 hf56 hf68
           refine O.move (v := (.bool ((decide (50 < ((yk1.Name.size : Nat) : Int))) || (decide (yk1.Shift < (-10000)))))) rfl rfl rfl ?_
           refine WL.cut 4 (fun f w => f 2 = (.int .i64 a2) ∧ f 3 = (.int .i64 a3) ∧ f 4 = (.pointer (some ⟨b1, 0, none⟩)) ∧ f 9 = v3 ∧ f 11 = (.pointer (some ⟨b3, 0, none⟩)) ∧ f 54 = va1 ∧ f 55 = (.int .i64 ((a1.length : Nat) : Int)) ∧ f 56 = (.int .i64 (ik1 : Int)) ∧ f 73 = .bool (((decide (50 < ((yk1.Name.size : Nat) : Int))) || (decide (yk1.Shift < (-10000)))) || (decide (10000 < yk1.Shift))) ∧ Inv w0 w [boxI b1 24 [v1, (.int .i64 a0.Error)], ownI (α := Int) v1 3 t2, ownXI (α := GTransit) (n := 4) Fx2 v3 31 rn4x2 z2, boxI b3 29 [(.string yk1.Name), (.int .i64 yk1.Ascension), (.int .i64 yk1.Shift), (.int .i64 yk1.Slow)]]) ?_ ?_
           ·
            rcases bool_ft ((decide (50 < ((yk1.Name.size : Nat) : Int))) || (decide (yk1.Shift < (-10000)))) with hc9 | hc9
            ·
             refine WL.reset (i := 69) (v := .bool false) (congrArg Value.bool hc9) ?_
             refine O.fieldAddr fd29_2 rfl rfl rfl ?_
             refine O.load sc3 rfl rfl rfl (H.cell 3 rfl 2 _ rfl) ?_
             refine O.gtr rfl rfl rfl rfl ?_
             refine O.pick_false (v := (.bool (decide (10000 < yk1.Shift)))) rfl rfl rfl rfl ?_
             exact WL.nil ⟨rfl, rfl, rfl, rfl, rfl, rfl, rfl, rfl, congrArg Value.bool (or_f hc9), H⟩
            ·
             refine WL.reset (i := 69) (v := .bool true) (congrArg Value.bool hc9) ?_
             refine O.skip rfl rfl ?_
             refine O.skip rfl rfl ?_
             refine O.skip rfl rfl ?_
             refine O.pick_true (v := (.bool true)) rfl rfl rfl rfl ?_
             exact WL.nil ⟨rfl, rfl, rfl, rfl, rfl, rfl, rfl, rfl, congrArg Value.bool (or_t hc9), H⟩
           ·
            rintro f w ⟨hf2, hf3, hf4, hf9, hf11, hf54, hf55, hf56, hf73, H⟩
            obtain ⟨u9, rfl⟩ := up9 hf2 hf3 hf4 hf9 hf11 hf54 hf55 hf56 hf73
            refine WL.nil ?_
            rcases ite_some hm2 with ⟨hc10, hm2⟩ | ⟨hc10, hm2⟩
            ·
             refine W.cond_true (congrArg Value.bool hc10) ?_
             refine W.seq ?_
             refine W.region ?_
             obtain ⟨t3, hy2, hm2⟩ := bind_some hm2
             refine O.call Try.call5 rfl rfl rfl (c_noonguntop_awake5  hy2) ?_
             rintro _ w8 hb5 rfl
             have H := H.ext hb5
             refine O.assign (v := (.bool t3)) rfl rfl rfl ?_
             refine WL.nil ?_
             refine W.ret ?_
             obtain rfl := Option.some.inj hm2
             refine ⟨_, rfl, ?_⟩
             rintro rfl
             have hq : t3 = r0 := Option.some.inj (show some t3 = some r0 from hm)
             subst hq
             exact ends1 Try.results3 rfl ⟨_, rfl, H.base, rfl⟩
            ·
             refine W.cond_false (congrArg Value.bool hc10) ?_
             refine W.skip ?_
             refine W.seq ?_
             refine W.region ?_
             refine O.loadA [v1, (.int .i64 a0.Error)] ag24 rfl rfl rfl rfl (H.cell 0 rfl) ?_
             refine O.loadA [(.string yk1.Name), (.int .i64 yk1.Ascension), (.int .i64 yk1.Shift), (.int .i64 yk1.Slow)] ag29 rfl rfl rfl rfl (H.cell 3 rfl) ?_
             refine O.fieldAddr fd29_1 rfl rfl rfl ?_
             refine O.load sc3 rfl rfl rfl (H.cell 3 rfl 1 _ rfl) ?_
             refine O.move (v := (.int .i64 a2)) rfl rfl rfl ?_
             refine O.subV rfl rfl rfl rfl ?_
             refine O.fieldAddr fd29_2 rfl rfl rfl ?_
             refine O.load sc3 rfl rfl rfl (H.cell 3 rfl 2 _ rfl) ?_
             refine O.move (v := (.int .i64 a3)) rfl rfl rfl ?_
             refine O.mulV rfl rfl rfl rfl ?_
             obtain ⟨t4, ht4, hm2⟩ := bind_some hm2
             refine O.quo rfl rfl rfl rfl ht4 ?_
             refine O.subV rfl rfl rfl rfl ?_
             obtain ⟨⟨t5, t6⟩, hy3, hm2⟩ := bind_some hm2
             refine O.call Try.call6 rfl rfl rfl (c_transit_Wired _ (GTube.mk t2 a0.Error) (H.own 1 rfl) yk1 _ hy3) ?_
             rintro _ w9 hb6 ⟨v6, rfl, ho1⟩
             have H := H.addOwn hb6 ho1
             refine O.move (v := (.tuple #[(.agg #[(.string t5.Star.Name), (.int .i64 t5.Star.Ascension), (.int .i64 t5.Star.Shift), (.int .i64 t5.Star.Slow), v6]), (.int .i64 t6)])) rfl rfl rfl ?_
             refine O.extract (v := (.agg #[(.string t5.Star.Name), (.int .i64 t5.Star.Ascension), (.int .i64 t5.Star.Shift), (.int .i64 t5.Star.Slow), v6])) rfl rfl rfl rfl ?_
             refine O.extract (v := (.int .i64 t6)) rfl rfl rfl rfl ?_
             refine O.alloc [(.string ByteArray.empty), (.int .i64 0), (.int .i64 0), (.int .i64 0), (.slice none 0 0)] ze31 H rfl rfl rfl ?_
             intro b4 w10 H hb7
             have H := H.addNil (α := Int) (E := 3)
             refine O.store 5 0 [(.string t5.Star.Name), (.int .i64 t5.Star.Ascension), (.int .i64 t5.Star.Shift), (.int .i64 t5.Star.Slow), v6] [(.string t5.Star.Name), (.int .i64 t5.Star.Ascension), (.int .i64 t5.Star.Shift), (.int .i64 t5.Star.Slow), v6] sz31 H rfl rfl rfl rfl rfl rfl ⟨⟨rfl, rfl⟩, rfl⟩ (one_cons rfl (one_cons rfl (one_cons rfl (one_cons rfl (one_cons (SliceR.one (H.own 4 rfl)) one_nil))))) ?_
             intro w11 H
             refine O.assign (v := (.int .i64 t6)) rfl rfl rfl ?_
             refine WL.nil ?_
             refine W.seq ?_
             refine W.seq ?_
             refine W.region ?_
             refine O.move (v := (.int .i64 t6)) rfl rfl rfl ?_
             refine O.neq rfl rfl rfl rfl ?_
             refine WL.nil ?_
             rcases ite_some hm2 with ⟨hc11, hm2⟩ | ⟨hc11, hm2⟩
             ·
              refine W.cond_true (congrArg Value.bool hc11) ?_
              refine W.seq ?_
              refine W.region ?_
              obtain ⟨t7, hy4, hm2⟩ := bind_some hm2
              refine O.call Try.call5 rfl rfl rfl (c_noonguntop_awake5  hy4) ?_
              rintro _ w12 hb8 rfl
              have H := H.ext hb8
              refine O.assign (v := (.bool t7)) rfl rfl rfl ?_
              refine WL.nil ?_
              refine W.ret ?_
              obtain rfl := Option.some.inj hm2
              refine ⟨_, rfl, ?_⟩
              rintro rfl
              have hq : t7 = r0 := Option.some.inj (show some t7 = some r0 from hm)
              subst hq
              exact ends1 Try.results3 rfl ⟨_, rfl, H.base, rfl⟩
             ·
              refine W.cond_false (congrArg Value.bool hc11) ?_
              refine W.skip ?_
              refine W.region ?_
              refine O.move (v := v3) rfl rfl rfl ?_
              refine O.loadA [(.string t5.Star.Name), (.int .i64 t5.Star.Ascension), (.int .i64 t5.Star.Shift), (.int .i64 t5.Star.Slow), v6] ag31 rfl rfl rfl rfl (H.cell 5 rfl) ?_
              have ho3 : ∀ u ∈ ([(.string t5.Star.Name), (.int .i64 t5.Star.Ascension), (.int .i64 t5.Star.Shift), (.int .i64 t5.Star.Slow), v6] : List Value), u.oneCell' = true := (one_cons rfl (one_cons rfl (one_cons rfl (one_cons rfl (one_cons (SliceR.one (H.own 4 rfl)) one_nil)))))
              refine O.buildSlice (α := CN 4) [(.agg #[(.string t5.Star.Name), (.int .i64 t5.Star.Ascension), (.int .i64 t5.Star.Shift), (.int .i64 t5.Star.Slow), v6])] [(⟨[(.string t5.Star.Name), (.int .i64 t5.Star.Ascension), (.int .i64 t5.Star.Shift), (.int .i64 t5.Star.Slow), v6], rfl, ho3⟩ : CN 4)] Try.underlying27 el31 H rfl rfl rfl rfl rfl rfl rfl ?_
              intro v7 w13 H hb9
              have H := H.litX (y := (GTransit.mk t5.Star t5.Wires)) 7 4 (by decide) rfl rfl (fun _ h => ⟨_, rfl, h⟩)
              obtain ⟨t8, ht8, hm2⟩ := bind_some hm2
              refine O.appendX 2 7 (by decide) Try.underlying27 el31 rfl H rfl rfl ht8 rfl rfl rfl rfl ?_
              intro v8 w14 Fx5 rn4x5 H
              refine O.assign (v := v8) rfl rfl rfl ?_
              refine WL.nil ?_
              refine W.region ?_
              refine O.add rfl rfl rfl rfl hinck1 ?_
              refine O.move (v := .int .i64 ((ik1 : Int) + 1)) rfl rfl rfl ?_
              refine WL.nil ?_
              have H := H.keep [0, 1, 2] [boxI b1 24 [v1, (.int .i64 a0.Error)], ownI (α := Int) v1 3 t2, ownXI (α := GTransit) (n := 4) Fx5 v8 31 rn4x5 t8] rfl (by decide)
              obtain rfl := Option.some.inj hm2
              exact ⟨_, rfl, _, v8, Fx5, rn4x5, rfl, drop_next hdropk1, rfl, rfl, rfl, rfl, rfl, rfl, rfl, H⟩
         ·
          rintro ik1 _ f w ⟨z2, v3, Fx2, rn4x2, rfl, hdropk1, hf56, hf55, hf2, hf3, hf4, hf9, hf54, H⟩ hfin
          have hltk1 := drop_end hdropk1
          obtain ⟨u10, rfl⟩ := up7 hf56 hf55 hf2 hf3 hf4 hf9 hf54
          refine W.seq ?_
          refine W.region ?_
          refine O.lss rfl rfl rfl rfl ?_
          refine WL.nil ?_
          refine W.seq ?_
          refine W.cond_false (congrArg Value.bool (decide_eq_false hltk1)) ?_
          refine W.exit ?_
          obtain rfl : Ctl.next z2 = o1 := hfin
          refine xT rfl ?_
          exact ⟨_, v3, Fx2, rn4x2, rfl, rfl, rfl, rfl, rfl, H⟩
        ·
         rintro f w ⟨s1, v5, Fx4, rn4x4, rfl, hf2, hf3, hf4, hf9, H⟩
         obtain ⟨u11, rfl⟩ := up4 hf2 hf3 hf4 hf9
         refine W.seq ?_
         refine W.seq ?_
         refine W.region ?_
         refine O.fieldAddr fd24_1 rfl rfl rfl ?_
         refine O.load sc3 rfl rfl rfl (H.cell 0 rfl 1 _ rfl) ?_
         refine O.lss rfl rfl rfl rfl ?_
         refine O.move (v := (.bool (decide (a0.Error < 2)))) rfl rfl rfl ?_
         refine WL.cut 4 (fun f w => f 2 = (.int .i64 a2) ∧ f 3 = (.int .i64 a3) ∧ f 4 = (.pointer (some ⟨b1, 0, none⟩)) ∧ f 9 = v5 ∧ f 106 = .bool ((decide (a0.Error < 2)) || (decide (10000 < a0.Error))) ∧ Inv w0 w [boxI b1 24 [v1, (.int .i64 a0.Error)], ownI (α := Int) v1 3 t2, ownXI (α := GTransit) (n := 4) Fx4 v5 31 rn4x4 s1]) ?_ ?_
         ·
          rcases bool_ft (decide (a0.Error < 2)) with hc12 | hc12
          ·
           refine WL.reset (i := 102) (v := .bool false) (congrArg Value.bool hc12) ?_
           refine O.fieldAddr fd24_1 rfl rfl rfl ?_
           refine O.load sc3 rfl rfl rfl (H.cell 0 rfl 1 _ rfl) ?_
           refine O.gtr rfl rfl rfl rfl ?_
           refine O.pick_false (v := (.bool (decide (10000 < a0.Error)))) rfl rfl rfl rfl ?_
           exact WL.nil ⟨rfl, rfl, rfl, rfl, congrArg Value.bool (or_f hc12), H⟩
          ·
           refine WL.reset (i := 102) (v := .bool true) (congrArg Value.bool hc12) ?_
           refine O.skip rfl rfl ?_
           refine O.skip rfl rfl ?_
           refine O.skip rfl rfl ?_
           refine O.pick_true (v := (.bool true)) rfl rfl rfl rfl ?_
           exact WL.nil ⟨rfl, rfl, rfl, rfl, congrArg Value.bool (or_t hc12), H⟩
         ·
          rintro f w ⟨hf2, hf3, hf4, hf9, hf106, H⟩
          obtain ⟨u12, rfl⟩ := up5 hf2 hf3 hf4 hf9 hf106
          refine WL.nil ?_
          rcases ite_some hm with ⟨hc13, hm⟩ | ⟨hc13, hm⟩
          ·
           refine W.cond_true (congrArg Value.bool hc13) ?_
           refine W.seq ?_
           refine W.region ?_
           obtain ⟨t9, hy5, hm⟩ := bind_some hm
           refine O.call Try.call5 rfl rfl rfl (c_noonguntop_awake5  hy5) ?_
           rintro _ w15 hb10 rfl
           have H := H.ext hb10
           refine O.assign (v := (.bool t9)) rfl rfl rfl ?_
           refine WL.nil ?_
           refine W.ret ?_
           have hq : t9 = r0 := Option.some.inj (show some t9 = some r0 from hm)
           subst hq
           exact ends1 Try.results3 rfl ⟨_, rfl, H.base, rfl⟩
          ·
           refine W.cond_false (congrArg Value.bool hc13) ?_
           refine W.skip ?_
           refine W.seq ?_
           refine W.region ?_
           refine O.loadA [v1, (.int .i64 a0.Error)] ag24 rfl rfl rfl rfl (H.cell 0 rfl) ?_
           refine O.move (v := v5) rfl rfl rfl ?_
           obtain ⟨⟨t10, t11⟩, hy6, hm⟩ := bind_some hm
           refine O.call Try.call7 rfl rfl rfl (c_transit_Agree _ (GTube.mk t2 a0.Error) (H.own 1 rfl) _ _ (H.ownRdX 2 rfl rfl) hy6) ?_
           rintro _ w16 hb11 rfl
           have H := H.ext hb11
           refine O.move (v := (.tuple #[(.bool t10), (.int .i64 t11)])) rfl rfl rfl ?_
           refine O.extract (v := (.bool t10)) rfl rfl rfl rfl ?_
           refine O.extract (v := (.int .i64 t11)) rfl rfl rfl rfl ?_
           refine O.assign (v := (.bool t10)) rfl rfl rfl ?_
           refine O.assign (v := (.int .i64 t11)) rfl rfl rfl ?_
           refine WL.nil ?_
           refine W.seq ?_
           refine W.region ?_
           refine O.loadA [v1, (.int .i64 a0.Error)] ag24 rfl rfl rfl rfl (H.cell 0 rfl) ?_
           refine O.move (v := v5) rfl rfl rfl ?_
           refine O.move (v := (.int .i64 a2)) rfl rfl rfl ?_
           refine O.build (v := (.agg (Flat.cells (GRatio.mk a2 1)).toArray)) (fun w => bd39_0_1 _ _ w) rfl rfl rfl ?_
           refine O.move (v := (.int .i64 a3)) rfl rfl rfl ?_
           refine O.build (v := (.agg (Flat.cells (GRatio.mk a3 1)).toArray)) (fun w => bd39_0_1 _ _ w) rfl rfl rfl ?_
           obtain ⟨⟨t12, t13⟩, hy7, hm⟩ := bind_some hm
           refine O.call Try.call8 rfl rfl rfl (c_transit_Suits _ (GTube.mk t2 a0.Error) (H.own 1 rfl) _ _ (H.ownRdX 2 rfl rfl) (GRatio.mk a2 1) (GRatio.mk a3 1) hy7) ?_
           rintro _ w17 hb12 rfl
           have H := H.ext hb12
           refine O.move (v := (.tuple #[(.bool t12), (.int .i64 t13)])) rfl rfl rfl ?_
           refine O.extract (v := (.bool t12)) rfl rfl rfl rfl ?_
           refine O.extract (v := (.int .i64 t13)) rfl rfl rfl rfl ?_
           refine O.assign (v := (.bool t12)) rfl rfl rfl ?_
           refine O.assign (v := (.int .i64 t13)) rfl rfl rfl ?_
           refine WL.nil ?_
           refine W.seq ?_
           refine W.region ?_
           refine O.move (v := (.int .i64 t11)) rfl rfl rfl ?_
           refine O.eql rfl rfl rfl rfl ?_
           refine O.move (v := (.bool (t11 == 0))) rfl rfl rfl ?_
           refine WL.cut 2 (fun f w => f 16 = (.bool t12) ∧ f 17 = (.int .i64 t13) ∧ f 128 = .bool ((t11 == 0) && t10) ∧ Inv w0 w [boxI b1 24 [v1, (.int .i64 a0.Error)], ownI (α := Int) v1 3 t2, ownXI (α := GTransit) (n := 4) Fx4 v5 31 rn4x4 s1]) ?_ ?_
           ·
            rcases bool_ft (t11 == 0) with hc14 | hc14
            ·
             refine WL.reset (i := 126) (v := .bool false) (congrArg Value.bool hc14) ?_
             refine O.skip rfl rfl ?_
             refine O.pick_false (v := (.bool false)) rfl rfl rfl rfl ?_
             exact WL.nil ⟨rfl, rfl, congrArg Value.bool (and_f hc14), H⟩
            ·
             refine WL.reset (i := 126) (v := .bool true) (congrArg Value.bool hc14) ?_
             refine O.move (v := (.bool t10)) rfl rfl rfl ?_
             refine O.pick_true (v := (.bool t10)) rfl rfl rfl rfl ?_
             exact WL.nil ⟨rfl, rfl, congrArg Value.bool (and_t hc14), H⟩
           ·
            rintro f w ⟨hf16, hf17, hf128, H⟩
            obtain ⟨u13, rfl⟩ := up3 hf16 hf17 hf128
            refine O.move (v := (.bool ((t11 == 0) && t10))) rfl rfl rfl ?_
            refine WL.cut 3 (fun f w => f 16 = (.bool t12) ∧ f 132 = .bool (((t11 == 0) && t10) && (t13 == 0)) ∧ Inv w0 w [boxI b1 24 [v1, (.int .i64 a0.Error)], ownI (α := Int) v1 3 t2, ownXI (α := GTransit) (n := 4) Fx4 v5 31 rn4x4 s1]) ?_ ?_
            ·
             rcases bool_ft ((t11 == 0) && t10) with hc15 | hc15
             ·
              refine WL.reset (i := 129) (v := .bool false) (congrArg Value.bool hc15) ?_
              refine O.skip rfl rfl ?_
              refine O.skip rfl rfl ?_
              refine O.pick_false (v := (.bool false)) rfl rfl rfl rfl ?_
              exact WL.nil ⟨rfl, congrArg Value.bool (and_f hc15), H⟩
             ·
              refine WL.reset (i := 129) (v := .bool true) (congrArg Value.bool hc15) ?_
              refine O.move (v := (.int .i64 t13)) rfl rfl rfl ?_
              refine O.eql rfl rfl rfl rfl ?_
              refine O.pick_true (v := (.bool (t13 == 0))) rfl rfl rfl rfl ?_
              exact WL.nil ⟨rfl, congrArg Value.bool (and_t hc15), H⟩
            ·
             rintro f w ⟨hf16, hf132, H⟩
             obtain ⟨u14, rfl⟩ := up2 hf16 hf132
             refine O.move (v := (.bool (((t11 == 0) && t10) && (t13 == 0)))) rfl rfl rfl ?_
             refine WL.cut 2 (fun f w => f 135 = .bool ((((t11 == 0) && t10) && (t13 == 0)) && t12) ∧ Inv w0 w [boxI b1 24 [v1, (.int .i64 a0.Error)], ownI (α := Int) v1 3 t2, ownXI (α := GTransit) (n := 4) Fx4 v5 31 rn4x4 s1]) ?_ ?_
             ·
              rcases bool_ft (((t11 == 0) && t10) && (t13 == 0)) with hc16 | hc16
              ·
               refine WL.reset (i := 133) (v := .bool false) (congrArg Value.bool hc16) ?_
               refine O.skip rfl rfl ?_
               refine O.pick_false (v := (.bool false)) rfl rfl rfl rfl ?_
               exact WL.nil ⟨congrArg Value.bool (and_f hc16), H⟩
              ·
               refine WL.reset (i := 133) (v := .bool true) (congrArg Value.bool hc16) ?_
               refine O.move (v := (.bool t12)) rfl rfl rfl ?_
               refine O.pick_true (v := (.bool t12)) rfl rfl rfl rfl ?_
               exact WL.nil ⟨congrArg Value.bool (and_t hc16), H⟩
             ·
              rintro f w ⟨hf135, H⟩
              obtain ⟨u15, rfl⟩ := up1 hf135
              refine O.move (v := (.bool ((((t11 == 0) && t10) && (t13 == 0)) && t12))) rfl rfl rfl ?_
              obtain ⟨b5, hm3, hm⟩ := bind_some hm
              refine WL.cut 2 (fun f w => f 138 = .bool b5 ∧ Inv w0 w [boxI b1 24 [v1, (.int .i64 a0.Error)], ownI (α := Int) v1 3 t2, ownXI (α := GTransit) (n := 4) Fx4 v5 31 rn4x4 s1]) ?_ ?_
              ·
               rcases ite_some hm3 with ⟨hc17, hm3⟩ | ⟨hc17, hm3⟩
               ·
                refine WL.reset (i := 136) (v := .bool true) (congrArg Value.bool hc17) ?_
                obtain ⟨t14, hy8, hm3⟩ := bind_some hm3
                refine O.call Try.call5 rfl rfl rfl (c_noonguntop_awake5  hy8) ?_
                rintro _ w18 hb13 rfl
                have H := H.ext hb13
                refine O.pick_true (v := (.bool t14)) rfl rfl rfl rfl ?_
                refine WL.nil ?_
                have hq : t14 = b5 := Option.some.inj (show some t14 = some b5 from hm3)
                subst hq
                exact ⟨rfl, H⟩
               ·
                refine WL.reset (i := 136) (v := .bool false) (congrArg Value.bool hc17) ?_
                refine O.skip rfl rfl ?_
                refine O.pick_false (v := (.bool false)) rfl rfl rfl rfl ?_
                refine WL.nil ?_
                have hq : false = b5 := Option.some.inj (show some false = some b5 from hm3)
                subst hq
                exact ⟨rfl, H⟩
              ·
               rintro f w ⟨hf138, H⟩
               obtain ⟨u16, rfl⟩ := up1 hf138
               refine O.assign (v := (.bool b5)) rfl rfl rfl ?_
               refine WL.nil ?_
               refine W.ret ?_
               have hq : b5 = r0 := Option.some.inj (show some b5 = some r0 from hm)
               subst hq
               exact ends1 Try.results3 rfl ⟨_, rfl, H.base, rfl⟩

end Go.Proofs
