/-
  The walks: each function does what its model says, where the model has a value. No other condition.
-/
import Derived.Test.YtailgbhadhoedaaW3
namespace Go.Proofs
open Go.Fw Go.RowKit Go.Shelf
set_option maxRecDepth 20000 in
theorem c_noongunref02_Proves {w0 : World} (va0_0 : Value) (va0_1 : Value) (a0 : GNet) (ha0_0 : SliceR w0 va0_0 a0.Rates) (ha0_1 : SliceR w0 va0_1 a0.Sights) (va1 : Value) (a1 : (List Int)) (ha1 : SliceR w0 va1 a1) {r0 : Bool} (hm : noongunref02_Proves a0 a1 = some r0) :
  Calls Try.prog 29 #[(.agg #[va0_0, va0_1]), va1] w0 (Ret w0 fun _ v => v = (.bool r0)) := by
 unfold noongunref02_Proves at hm
 refine calls_of_W Try.func29 rfl Try.ntmps29 (Nat.le_of_ble_eq_true rfl) ?_
 have H := Inv.start (w := w0)
 refine W.seq ?_
 refine W.region ?_
 refine O.box [va0_0, va0_1] H rfl rfl rfl rfl ?_
 intro b1 w1 H hb1
 refine O.assign (v := (.bool false)) rfl rfl rfl ?_
 refine WL.nil ?_
 refine W.seq ?_
 refine W.seq ?_
 refine W.region ?_
 refine O.loadA [va0_0, va0_1] ag25 rfl rfl rfl rfl (H.cell 0 rfl) ?_
 obtain ⟨t1, hy1, hm⟩ := bind_some hm
 refine O.call Try.call18 rfl rfl rfl (c_noongunref02_Valid _ _ (GNet.mk a0.Rates a0.Sights) (H.arg ha0_0) (H.arg ha0_1) hy1) ?_
 rintro _ w2 hb2 rfl
 have H := H.ext hb2
 refine O.not rfl rfl rfl ?_
 refine O.move (v := (.bool (!t1))) rfl rfl rfl ?_
 refine WL.cut 4 (fun f w => f 1 = va1 ∧ f 2 = (.pointer (some ⟨b1, 0, none⟩)) ∧ f 23 = .bool ((!t1) || (((a1.length : Nat) : Int) == 0)) ∧ Inv w0 w [boxI b1 25 [va0_0, va0_1]]) ?_ ?_
 ·
  rcases bool_ft (!t1) with hc1 | hc1
  ·
   refine WL.reset (i := 19) (v := .bool false) (congrArg Value.bool hc1) ?_
   refine O.move (v := va1) rfl rfl rfl ?_
   refine O.lenS Try.underlying22 (H.arg ha1) rfl rfl rfl ?_
   refine O.eql rfl rfl rfl rfl ?_
   refine O.pick_false (v := (.bool (((a1.length : Nat) : Int) == 0))) rfl rfl rfl rfl ?_
   exact WL.nil ⟨rfl, rfl, congrArg Value.bool (or_f hc1), H⟩
  ·
   refine WL.reset (i := 19) (v := .bool true) (congrArg Value.bool hc1) ?_
   refine O.skip rfl rfl ?_
   refine O.skip rfl rfl ?_
   refine O.skip rfl rfl ?_
   refine O.pick_true (v := (.bool true)) rfl rfl rfl rfl ?_
   exact WL.nil ⟨rfl, rfl, congrArg Value.bool (or_t hc1), H⟩
 ·
  rintro f w ⟨hf1, hf2, hf23, H⟩
  obtain ⟨u1, rfl⟩ := up3 hf1 hf2 hf23
  refine WL.nil ?_
  rcases ite_some hm with ⟨hc2, hm⟩ | ⟨hc2, hm⟩
  ·
   refine W.cond_true (congrArg Value.bool hc2) ?_
   refine W.seq ?_
   refine W.region ?_
   refine O.assign (v := (.bool false)) rfl rfl rfl ?_
   refine WL.nil ?_
   refine W.ret ?_
   have hq : false = r0 := Option.some.inj (show some false = some r0 from hm)
   subst hq
   exact ends1 Try.results29 rfl ⟨_, rfl, H.base, rfl⟩
  ·
   refine W.cond_false (congrArg Value.bool hc2) ?_
   refine W.skip ?_
   refine W.seq ?_
   refine W.region ?_
   refine O.assign (v := (.int .i64 0)) rfl rfl rfl ?_
   refine WL.nil ?_
   refine W.seq ?_
   refine W.region ?_
   have H := H.addNil (α := GPoint) (E := 78)
   refine O.assign (v := (.slice none 0 0)) rfl rfl rfl ?_
   have H := H.addNil (α := GPoint) (E := 78)
   refine O.assign (v := (.slice none 0 0)) rfl rfl rfl ?_
   refine WL.nil ?_
   refine W.seq ?_
   refine W.seq ?_
   refine W.region ?_
   refine O.move (v := va1) rfl rfl rfl ?_
   refine O.lenS Try.underlying22 (H.arg ha1) rfl rfl rfl ?_
   refine O.move (v := (.int .i64 0)) rfl rfl rfl ?_
   refine WL.nil ?_
   obtain ⟨o1, hm1, hm⟩ := bind_some hm
   refine W.via (fun f w => ∃ s1 : Int, ∃ s2 : (List GPoint), ∃ s3 : (List GPoint), ∃ v7 : Value, ∃ v8 : Value, o1 = .next (s1, s2, s3) ∧ f 2 = (.pointer (some ⟨b1, 0, none⟩)) ∧ f 5 = (.int .i64 s1) ∧ f 6 = v7 ∧ f 7 = v8 ∧ Inv w0 w [boxI b1 25 [va0_0, va0_1], ownI (α := GPoint) v7 78 s2, ownI (α := GPoint) v8 78 s3]) ?_ ?_
   ·
    refine W.block ?_
    refine W.rangeL (i := 0) hm1 (fun rem ik1 s f w => ∃ z4 : Int, ∃ z5 : (List GPoint), ∃ z6 : (List GPoint), ∃ v3 : Value, ∃ v4 : Value, (z4, z5, z6) = s ∧ a1.drop ik1 = rem ∧ f 26 = .int .i64 (ik1 : Int) ∧ f 25 = (.int .i64 ((a1.length : Nat) : Int)) ∧ f 2 = (.pointer (some ⟨b1, 0, none⟩)) ∧ f 5 = (.int .i64 z4) ∧ f 6 = v3 ∧ f 7 = v4 ∧ f 24 = va1 ∧ Inv w0 w [boxI b1 25 [va0_0, va0_1], ownI (α := GPoint) v3 78 z5, ownI (α := GPoint) v4 78 z6]) ?_ ?_ ?_
    ·
     exact ⟨_, _, _, (.slice none 0 0), (.slice none 0 0), rfl, List.drop_zero, rfl, rfl, rfl, rfl, rfl, rfl, rfl, H⟩
    ·
     rintro yk1 xs ik1 _ st f w ⟨z4, z5, z6, v3, v4, rfl, hdropk1, hf26, hf25, hf2, hf5, hf6, hf7, hf24, H⟩ hm2
     have hltk1 := drop_lt hdropk1; have hixk1 := drop_idx hdropk1
     obtain ⟨u2, rfl⟩ := up7 hf26 hf25 hf2 hf5 hf6 hf7 hf24
     have hinck1 := addI_lt hltk1 (H.arg ha1).len_le
     refine W.seq ?_
     refine W.region ?_
     refine O.lss rfl rfl rfl rfl ?_
     refine WL.nil ?_
     refine W.seq ?_
     refine W.cond_true (congrArg Value.bool (decide_eq_true hltk1)) ?_
     refine W.skip ?_
     refine W.seq ?_
     obtain ⟨o2, hm3, hm2⟩ := bind_some hm2
     refine W.via (fun f w => ∃ s4 : Int, ∃ s5 : (List GPoint), ∃ s6 : (List GPoint), ∃ v9 : Value, ∃ v10 : Value, o2 = .next (s4, s5, s6) ∧ f 2 = (.pointer (some ⟨b1, 0, none⟩)) ∧ f 5 = (.int .i64 s4) ∧ f 6 = v9 ∧ f 7 = v10 ∧ f 24 = va1 ∧ f 25 = (.int .i64 ((a1.length : Nat) : Int)) ∧ f 26 = (.int .i64 (ik1 : Int)) ∧ Inv w0 w [boxI b1 25 [va0_0, va0_1], ownI (α := GPoint) v9 78 s5, ownI (α := GPoint) v10 78 s6]) ?_ ?_
     ·
      refine W.block ?_
      refine W.seq ?_
      refine W.region ?_
      obtain ⟨p1, hp1, hrp1⟩ := fix_indexAddr Try.underlying22 sz3 ha1 hixk1
      refine hrp1 rfl rfl rfl rfl ?_
      refine O.load sc3 rfl rfl rfl ((hp1.mono H.base).flat 0 _ rfl) ?_
      refine O.assign (v := (.int .i64 yk1)) rfl rfl rfl ?_
      refine WL.nil ?_
      refine W.seq ?_
      refine W.seq ?_
      refine W.region ?_
      refine O.move (v := (.int .i64 yk1)) rfl rfl rfl ?_
      refine O.fieldAddr fd25_1 rfl rfl rfl ?_
      refine O.load sc23 rfl rfl rfl (H.cell 0 rfl 1 _ rfl) ?_
      refine O.lenS Try.underlying23 (H.arg ha0_1) rfl rfl rfl ?_
      obtain ⟨t2, ht2, hm3⟩ := bind_some hm3
      refine O.mul rfl rfl rfl rfl ht2 ?_
      obtain ⟨t3, ht3, hm3⟩ := bind_some hm3
      refine O.sub rfl rfl rfl rfl ht3 ?_
      obtain ⟨t4, hy2, hm3⟩ := bind_some hm3
      refine O.call Try.call59 rfl rfl rfl (c_noongunref02_within _ _ _ hy2) ?_
      rintro _ w3 hb3 rfl
      have H := H.ext hb3
      refine O.not rfl rfl rfl ?_
      refine WL.nil ?_
      rcases ite_some hm3 with ⟨hc3, hm3⟩ | ⟨hc3, hm3⟩
      ·
       refine W.cond_true (congrArg Value.bool hc3) ?_
       refine W.seq ?_
       refine W.region ?_
       refine O.assign (v := (.bool false)) rfl rfl rfl ?_
       refine WL.nil ?_
       refine W.ret ?_
       obtain rfl := Option.some.inj hm3
       obtain rfl := Option.some.inj hm2
       refine ⟨_, rfl, ?_⟩
       rintro rfl
       have hq : false = r0 := Option.some.inj (show some false = some r0 from hm)
       subst hq
       exact ends1 Try.results29 rfl ⟨_, rfl, H.base, rfl⟩
      ·
       refine W.cond_false (congrArg Value.bool hc3) ?_
       refine W.skip ?_
       refine W.seq ?_
       refine W.region ?_
       refine O.fieldAddr fd25_1 rfl rfl rfl ?_
       refine O.load sc23 rfl rfl rfl (H.cell 0 rfl 1 _ rfl) ?_
       refine O.move (v := (.int .i64 yk1)) rfl rfl rfl ?_
       obtain ⟨t5, ht5, hm3⟩ := bind_some hm3
       refine O.quo rfl rfl rfl rfl ht5 ?_
       obtain ⟨x1, hx1, hm3⟩ := bind_some hm3
       obtain ⟨p2, hp2, hrp2⟩ := fix_indexAddr Try.underlying23 sz39 ha0_1 hx1
       refine hrp2 rfl rfl rfl rfl ?_
       refine O.loadA [(.int .i64 x1.At), (.int .i64 x1.A), (.int .i64 x1.B), (.int .i64 x1.Lo), (.int .i64 x1.Hi)] ag39 rfl rfl rfl rfl ((hp2.mono H.base).flat) ?_
       refine O.alloc [(.int .i64 0), (.int .i64 0), (.int .i64 0), (.int .i64 0), (.int .i64 0)] ze39 H rfl rfl rfl ?_
       intro b2 w4 H hb4
       refine O.store 3 0 [(.int .i64 x1.At), (.int .i64 x1.A), (.int .i64 x1.B), (.int .i64 x1.Lo), (.int .i64 x1.Hi)] [(.int .i64 x1.At), (.int .i64 x1.A), (.int .i64 x1.B), (.int .i64 x1.Lo), (.int .i64 x1.Hi)] sz39 H rfl rfl rfl rfl rfl rfl ⟨⟨rfl, rfl⟩, rfl⟩ (one_cons rfl (one_cons rfl (one_cons rfl (one_cons rfl (one_cons rfl one_nil))))) ?_
       intro w5 H
       refine WL.nil ?_
       refine W.seq ?_
       obtain ⟨t6, hy3, hm3⟩ := bind_some hm3
       obtain ⟨t7, hy4, hm3⟩ := bind_some hm3
       have H := H.addGone
       have H := H.addGone
       refine W.drawD 12 [[], [0], [], [2], [0, 1, 2, 3], [], [5], [], [7], [0, 1, 2, 3, 4, 5, 6, 7, 8], [], []] [[1, 4, 9], [4, 9], [3, 4, 9], [4, 9], [9], [6, 9], [9], [8, 9], [9], [], [], []] (fun S f w => ∃ b3 : Nat, ∃ b4 : Nat, f 2 = (.pointer (some ⟨b1, 0, none⟩)) ∧ f 5 = (.int .i64 z4) ∧ f 6 = v3 ∧ f 7 = v4 ∧ f 9 = (.int .i64 yk1) ∧ f 10 = (.pointer (some ⟨b2, 0, none⟩)) ∧ f 24 = va1 ∧ f 25 = (.int .i64 ((a1.length : Nat) : Int)) ∧ f 26 = (.int .i64 (ik1 : Int)) ∧ (S 0 = true → f 44 = (.pointer (some (Addr.add (Addr.mk b2 0 none) 1)))) ∧ (S 1 = true → f 45 = (.int .i64 x1.A)) ∧ (S 2 = true → f 46 = (.pointer (some (Addr.add (Addr.mk b2 0 none) 0)))) ∧ (S 3 = true → f 47 = (.int .i64 x1.At)) ∧ (S 4 = true → f 48 = (.agg (Flat.cells t6).toArray)) ∧ (S 5 = true → f 49 = (.pointer (some (Addr.add (Addr.mk b2 0 none) 2)))) ∧ (S 6 = true → f 50 = (.int .i64 x1.B)) ∧ (S 7 = true → f 51 = (.pointer (some (Addr.add (Addr.mk b2 0 none) 0)))) ∧ (S 8 = true → f 52 = (.int .i64 x1.At)) ∧ (S 9 = true → f 53 = (.agg (Flat.cells t7).toArray)) ∧ (S 10 = true → f 11 = (.pointer (some ⟨b3, 0, none⟩))) ∧ (S 11 = true → f 12 = (.pointer (some ⟨b4, 0, none⟩))) ∧ (S 10 = false → S 11 = false → Inv w0 w [boxI b1 25 [va0_0, va0_1], ownI (α := GPoint) v3 78 z5, ownI (α := GPoint) v4 78 z6, boxI b2 39 [(.int .i64 x1.At), (.int .i64 x1.A), (.int .i64 x1.B), (.int .i64 x1.Lo), (.int .i64 x1.Hi)], goneI, goneI]) ∧ (S 10 = true → S 11 = false → Inv w0 w [boxI b1 25 [va0_0, va0_1], ownI (α := GPoint) v3 78 z5, ownI (α := GPoint) v4 78 z6, boxI b2 39 [(.int .i64 x1.At), (.int .i64 x1.A), (.int .i64 x1.B), (.int .i64 x1.Lo), (.int .i64 x1.Hi)], boxI b3 78 [(.int .i64 0), (.int .i64 0)], goneI]) ∧ (S 10 = false → S 11 = true → Inv w0 w [boxI b1 25 [va0_0, va0_1], ownI (α := GPoint) v3 78 z5, ownI (α := GPoint) v4 78 z6, boxI b2 39 [(.int .i64 x1.At), (.int .i64 x1.A), (.int .i64 x1.B), (.int .i64 x1.Lo), (.int .i64 x1.Hi)], goneI, boxI b4 78 [(.int .i64 0), (.int .i64 0)]]) ∧ (S 10 = true → S 11 = true → Inv w0 w [boxI b1 25 [va0_0, va0_1], ownI (α := GPoint) v3 78 z5, ownI (α := GPoint) v4 78 z6, boxI b2 39 [(.int .i64 x1.At), (.int .i64 x1.A), (.int .i64 x1.B), (.int .i64 x1.Lo), (.int .i64 x1.Hi)], boxI b3 78 [(.int .i64 0), (.int .i64 0)], boxI b4 78 [(.int .i64 0), (.int .i64 0)]])) fol (by kernel_rfl) ?_ ?_ ?_
       ·
        exact fun d _ => ⟨0, 0, rfl, rfl, rfl, rfl, rfl, rfl, rfl, rfl, rfl, nF, nF, nF, nF, nF, nF, nF, nF, nF, nF, nF, nF, (fun _ _ => H.ext (below_drawn d)), (fun a _ => nF a), (fun _ a => nF a), (fun a _ => nF a)⟩
       ·
        refine ⟨?_, ⟨?_, ⟨?_, ⟨?_, ⟨?_, ⟨?_, ⟨?_, ⟨?_, ⟨?_, ⟨?_, ⟨?_, ⟨?_, trivial⟩⟩⟩⟩⟩⟩⟩⟩⟩⟩⟩⟩
        ·
         rintro S f w hS - ⟨e1, e4, e9, -⟩ ⟨b3, b4, hf2, hf5, hf6, hf7, hf9, hf10, hf24, hf25, hf26, hd0, hd1, hd2, hd3, hd4, hd5, hd6, hd7, hd8, hd9, hd10, hd11, W0, W1, W2, W3⟩
         obtain ⟨u3, rfl⟩ := up1 hf10
         rcases bool_ft (S 10) with e10 | e10
         ·
          rcases bool_ft (S 11) with e11 | e11
          ·
           have H := W0 e10 e11
           refine O.fieldAddr fd39_1 rfl rfl rfl ?_
           exact WL.nil ⟨b3, b4, hf2, hf5, hf6, hf7, hf9, rfl, hf24, hf25, hf26, (fun _ => rfl), hd1, hd2, hd3, hd4, hd5, hd6, hd7, hd8, hd9, hd10, hd11, (fun _ _ => H), (fun a _ => nX e10 a), (fun _ a => nX e11 a), (fun a _ => nX e10 a)⟩
          ·
           have H := W2 e10 e11
           refine O.fieldAddr fd39_1 rfl rfl rfl ?_
           exact WL.nil ⟨b3, b4, hf2, hf5, hf6, hf7, hf9, rfl, hf24, hf25, hf26, (fun _ => rfl), hd1, hd2, hd3, hd4, hd5, hd6, hd7, hd8, hd9, hd10, hd11, (fun _ a => nT e11 a), (fun a _ => nX e10 a), (fun _ _ => H), (fun a _ => nX e10 a)⟩
         ·
          rcases bool_ft (S 11) with e11 | e11
          ·
           have H := W1 e10 e11
           refine O.fieldAddr fd39_1 rfl rfl rfl ?_
           exact WL.nil ⟨b3, b4, hf2, hf5, hf6, hf7, hf9, rfl, hf24, hf25, hf26, (fun _ => rfl), hd1, hd2, hd3, hd4, hd5, hd6, hd7, hd8, hd9, hd10, hd11, (fun a _ => nT e10 a), (fun _ _ => H), (fun a _ => nT e10 a), (fun _ a => nX e11 a)⟩
          ·
           have H := W3 e10 e11
           refine O.fieldAddr fd39_1 rfl rfl rfl ?_
           exact WL.nil ⟨b3, b4, hf2, hf5, hf6, hf7, hf9, rfl, hf24, hf25, hf26, (fun _ => rfl), hd1, hd2, hd3, hd4, hd5, hd6, hd7, hd8, hd9, hd10, hd11, (fun a _ => nT e10 a), (fun _ a => nT e11 a), (fun a _ => nT e10 a), (fun _ _ => H)⟩
        ·
         rintro S f w hS ⟨e0, -⟩ ⟨e4, e9, -⟩ ⟨b3, b4, hf2, hf5, hf6, hf7, hf9, hf10, hf24, hf25, hf26, hd0, hd1, hd2, hd3, hd4, hd5, hd6, hd7, hd8, hd9, hd10, hd11, W0, W1, W2, W3⟩
         have hf44 := hd0 e0
         obtain ⟨u4, rfl⟩ := up1 hf44
         rcases bool_ft (S 10) with e10 | e10
         ·
          rcases bool_ft (S 11) with e11 | e11
          ·
           have H := W0 e10 e11
           refine O.load sc3 rfl rfl rfl (H.cell 3 rfl 1 _ rfl) ?_
           exact WL.nil ⟨b3, b4, hf2, hf5, hf6, hf7, hf9, hf10, hf24, hf25, hf26, hd0, (fun _ => rfl), hd2, hd3, hd4, hd5, hd6, hd7, hd8, hd9, hd10, hd11, (fun _ _ => H), (fun a _ => nX e10 a), (fun _ a => nX e11 a), (fun a _ => nX e10 a)⟩
          ·
           have H := W2 e10 e11
           refine O.load sc3 rfl rfl rfl (H.cell 3 rfl 1 _ rfl) ?_
           exact WL.nil ⟨b3, b4, hf2, hf5, hf6, hf7, hf9, hf10, hf24, hf25, hf26, hd0, (fun _ => rfl), hd2, hd3, hd4, hd5, hd6, hd7, hd8, hd9, hd10, hd11, (fun _ a => nT e11 a), (fun a _ => nX e10 a), (fun _ _ => H), (fun a _ => nX e10 a)⟩
         ·
          rcases bool_ft (S 11) with e11 | e11
          ·
           have H := W1 e10 e11
           refine O.load sc3 rfl rfl rfl (H.cell 3 rfl 1 _ rfl) ?_
           exact WL.nil ⟨b3, b4, hf2, hf5, hf6, hf7, hf9, hf10, hf24, hf25, hf26, hd0, (fun _ => rfl), hd2, hd3, hd4, hd5, hd6, hd7, hd8, hd9, hd10, hd11, (fun a _ => nT e10 a), (fun _ _ => H), (fun a _ => nT e10 a), (fun _ a => nX e11 a)⟩
          ·
           have H := W3 e10 e11
           refine O.load sc3 rfl rfl rfl (H.cell 3 rfl 1 _ rfl) ?_
           exact WL.nil ⟨b3, b4, hf2, hf5, hf6, hf7, hf9, hf10, hf24, hf25, hf26, hd0, (fun _ => rfl), hd2, hd3, hd4, hd5, hd6, hd7, hd8, hd9, hd10, hd11, (fun a _ => nT e10 a), (fun _ a => nT e11 a), (fun a _ => nT e10 a), (fun _ _ => H)⟩
        ·
         rintro S f w hS - ⟨e3, e4, e9, -⟩ ⟨b3, b4, hf2, hf5, hf6, hf7, hf9, hf10, hf24, hf25, hf26, hd0, hd1, hd2, hd3, hd4, hd5, hd6, hd7, hd8, hd9, hd10, hd11, W0, W1, W2, W3⟩
         obtain ⟨u5, rfl⟩ := up1 hf10
         rcases bool_ft (S 10) with e10 | e10
         ·
          rcases bool_ft (S 11) with e11 | e11
          ·
           have H := W0 e10 e11
           refine O.fieldAddr fd39_0 rfl rfl rfl ?_
           exact WL.nil ⟨b3, b4, hf2, hf5, hf6, hf7, hf9, rfl, hf24, hf25, hf26, hd0, hd1, (fun _ => rfl), hd3, hd4, hd5, hd6, hd7, hd8, hd9, hd10, hd11, (fun _ _ => H), (fun a _ => nX e10 a), (fun _ a => nX e11 a), (fun a _ => nX e10 a)⟩
          ·
           have H := W2 e10 e11
           refine O.fieldAddr fd39_0 rfl rfl rfl ?_
           exact WL.nil ⟨b3, b4, hf2, hf5, hf6, hf7, hf9, rfl, hf24, hf25, hf26, hd0, hd1, (fun _ => rfl), hd3, hd4, hd5, hd6, hd7, hd8, hd9, hd10, hd11, (fun _ a => nT e11 a), (fun a _ => nX e10 a), (fun _ _ => H), (fun a _ => nX e10 a)⟩
         ·
          rcases bool_ft (S 11) with e11 | e11
          ·
           have H := W1 e10 e11
           refine O.fieldAddr fd39_0 rfl rfl rfl ?_
           exact WL.nil ⟨b3, b4, hf2, hf5, hf6, hf7, hf9, rfl, hf24, hf25, hf26, hd0, hd1, (fun _ => rfl), hd3, hd4, hd5, hd6, hd7, hd8, hd9, hd10, hd11, (fun a _ => nT e10 a), (fun _ _ => H), (fun a _ => nT e10 a), (fun _ a => nX e11 a)⟩
          ·
           have H := W3 e10 e11
           refine O.fieldAddr fd39_0 rfl rfl rfl ?_
           exact WL.nil ⟨b3, b4, hf2, hf5, hf6, hf7, hf9, rfl, hf24, hf25, hf26, hd0, hd1, (fun _ => rfl), hd3, hd4, hd5, hd6, hd7, hd8, hd9, hd10, hd11, (fun a _ => nT e10 a), (fun _ a => nT e11 a), (fun a _ => nT e10 a), (fun _ _ => H)⟩
        ·
         rintro S f w hS ⟨e2, -⟩ ⟨e4, e9, -⟩ ⟨b3, b4, hf2, hf5, hf6, hf7, hf9, hf10, hf24, hf25, hf26, hd0, hd1, hd2, hd3, hd4, hd5, hd6, hd7, hd8, hd9, hd10, hd11, W0, W1, W2, W3⟩
         have hf46 := hd2 e2
         obtain ⟨u6, rfl⟩ := up1 hf46
         rcases bool_ft (S 10) with e10 | e10
         ·
          rcases bool_ft (S 11) with e11 | e11
          ·
           have H := W0 e10 e11
           refine O.load sc3 rfl rfl rfl (H.cell 3 rfl 0 _ rfl) ?_
           exact WL.nil ⟨b3, b4, hf2, hf5, hf6, hf7, hf9, hf10, hf24, hf25, hf26, hd0, hd1, hd2, (fun _ => rfl), hd4, hd5, hd6, hd7, hd8, hd9, hd10, hd11, (fun _ _ => H), (fun a _ => nX e10 a), (fun _ a => nX e11 a), (fun a _ => nX e10 a)⟩
          ·
           have H := W2 e10 e11
           refine O.load sc3 rfl rfl rfl (H.cell 3 rfl 0 _ rfl) ?_
           exact WL.nil ⟨b3, b4, hf2, hf5, hf6, hf7, hf9, hf10, hf24, hf25, hf26, hd0, hd1, hd2, (fun _ => rfl), hd4, hd5, hd6, hd7, hd8, hd9, hd10, hd11, (fun _ a => nT e11 a), (fun a _ => nX e10 a), (fun _ _ => H), (fun a _ => nX e10 a)⟩
         ·
          rcases bool_ft (S 11) with e11 | e11
          ·
           have H := W1 e10 e11
           refine O.load sc3 rfl rfl rfl (H.cell 3 rfl 0 _ rfl) ?_
           exact WL.nil ⟨b3, b4, hf2, hf5, hf6, hf7, hf9, hf10, hf24, hf25, hf26, hd0, hd1, hd2, (fun _ => rfl), hd4, hd5, hd6, hd7, hd8, hd9, hd10, hd11, (fun a _ => nT e10 a), (fun _ _ => H), (fun a _ => nT e10 a), (fun _ a => nX e11 a)⟩
          ·
           have H := W3 e10 e11
           refine O.load sc3 rfl rfl rfl (H.cell 3 rfl 0 _ rfl) ?_
           exact WL.nil ⟨b3, b4, hf2, hf5, hf6, hf7, hf9, hf10, hf24, hf25, hf26, hd0, hd1, hd2, (fun _ => rfl), hd4, hd5, hd6, hd7, hd8, hd9, hd10, hd11, (fun a _ => nT e10 a), (fun _ a => nT e11 a), (fun a _ => nT e10 a), (fun _ _ => H)⟩
        ·
         rintro S f w hS ⟨e0, e1, e2, e3, -⟩ ⟨e9, -⟩ ⟨b3, b4, hf2, hf5, hf6, hf7, hf9, hf10, hf24, hf25, hf26, hd0, hd1, hd2, hd3, hd4, hd5, hd6, hd7, hd8, hd9, hd10, hd11, W0, W1, W2, W3⟩
         have hf45 := hd1 e1
         have hf47 := hd3 e3
         obtain ⟨u7, rfl⟩ := up2 hf45 hf47
         rcases bool_ft (S 10) with e10 | e10
         ·
          rcases bool_ft (S 11) with e11 | e11
          ·
           have H := W0 e10 e11
           refine O.call Try.call63 rfl rfl rfl (c_noongunref02_spot _ _ hy3) ?_
           rintro _ w6 hb5 rfl
           have H := H.ext hb5
           exact WL.nil ⟨b3, b4, hf2, hf5, hf6, hf7, hf9, hf10, hf24, hf25, hf26, hd0, hd1, hd2, hd3, (fun _ => rfl), hd5, hd6, hd7, hd8, hd9, hd10, hd11, (fun _ _ => H), (fun a _ => nX e10 a), (fun _ a => nX e11 a), (fun a _ => nX e10 a)⟩
          ·
           have H := W2 e10 e11
           refine O.call Try.call63 rfl rfl rfl (c_noongunref02_spot _ _ hy3) ?_
           rintro _ w6 hb5 rfl
           have H := H.ext hb5
           exact WL.nil ⟨b3, b4, hf2, hf5, hf6, hf7, hf9, hf10, hf24, hf25, hf26, hd0, hd1, hd2, hd3, (fun _ => rfl), hd5, hd6, hd7, hd8, hd9, hd10, hd11, (fun _ a => nT e11 a), (fun a _ => nX e10 a), (fun _ _ => H), (fun a _ => nX e10 a)⟩
         ·
          rcases bool_ft (S 11) with e11 | e11
          ·
           have H := W1 e10 e11
           refine O.call Try.call63 rfl rfl rfl (c_noongunref02_spot _ _ hy3) ?_
           rintro _ w6 hb5 rfl
           have H := H.ext hb5
           exact WL.nil ⟨b3, b4, hf2, hf5, hf6, hf7, hf9, hf10, hf24, hf25, hf26, hd0, hd1, hd2, hd3, (fun _ => rfl), hd5, hd6, hd7, hd8, hd9, hd10, hd11, (fun a _ => nT e10 a), (fun _ _ => H), (fun a _ => nT e10 a), (fun _ a => nX e11 a)⟩
          ·
           have H := W3 e10 e11
           refine O.call Try.call63 rfl rfl rfl (c_noongunref02_spot _ _ hy3) ?_
           rintro _ w6 hb5 rfl
           have H := H.ext hb5
           exact WL.nil ⟨b3, b4, hf2, hf5, hf6, hf7, hf9, hf10, hf24, hf25, hf26, hd0, hd1, hd2, hd3, (fun _ => rfl), hd5, hd6, hd7, hd8, hd9, hd10, hd11, (fun a _ => nT e10 a), (fun _ a => nT e11 a), (fun a _ => nT e10 a), (fun _ _ => H)⟩
        ·
         rintro S f w hS - ⟨e6, e9, -⟩ ⟨b3, b4, hf2, hf5, hf6, hf7, hf9, hf10, hf24, hf25, hf26, hd0, hd1, hd2, hd3, hd4, hd5, hd6, hd7, hd8, hd9, hd10, hd11, W0, W1, W2, W3⟩
         obtain ⟨u8, rfl⟩ := up1 hf10
         rcases bool_ft (S 10) with e10 | e10
         ·
          rcases bool_ft (S 11) with e11 | e11
          ·
           have H := W0 e10 e11
           refine O.fieldAddr fd39_2 rfl rfl rfl ?_
           exact WL.nil ⟨b3, b4, hf2, hf5, hf6, hf7, hf9, rfl, hf24, hf25, hf26, hd0, hd1, hd2, hd3, hd4, (fun _ => rfl), hd6, hd7, hd8, hd9, hd10, hd11, (fun _ _ => H), (fun a _ => nX e10 a), (fun _ a => nX e11 a), (fun a _ => nX e10 a)⟩
          ·
           have H := W2 e10 e11
           refine O.fieldAddr fd39_2 rfl rfl rfl ?_
           exact WL.nil ⟨b3, b4, hf2, hf5, hf6, hf7, hf9, rfl, hf24, hf25, hf26, hd0, hd1, hd2, hd3, hd4, (fun _ => rfl), hd6, hd7, hd8, hd9, hd10, hd11, (fun _ a => nT e11 a), (fun a _ => nX e10 a), (fun _ _ => H), (fun a _ => nX e10 a)⟩
         ·
          rcases bool_ft (S 11) with e11 | e11
          ·
           have H := W1 e10 e11
           refine O.fieldAddr fd39_2 rfl rfl rfl ?_
           exact WL.nil ⟨b3, b4, hf2, hf5, hf6, hf7, hf9, rfl, hf24, hf25, hf26, hd0, hd1, hd2, hd3, hd4, (fun _ => rfl), hd6, hd7, hd8, hd9, hd10, hd11, (fun a _ => nT e10 a), (fun _ _ => H), (fun a _ => nT e10 a), (fun _ a => nX e11 a)⟩
          ·
           have H := W3 e10 e11
           refine O.fieldAddr fd39_2 rfl rfl rfl ?_
           exact WL.nil ⟨b3, b4, hf2, hf5, hf6, hf7, hf9, rfl, hf24, hf25, hf26, hd0, hd1, hd2, hd3, hd4, (fun _ => rfl), hd6, hd7, hd8, hd9, hd10, hd11, (fun a _ => nT e10 a), (fun _ a => nT e11 a), (fun a _ => nT e10 a), (fun _ _ => H)⟩
        ·
         rintro S f w hS ⟨e5, -⟩ ⟨e9, -⟩ ⟨b3, b4, hf2, hf5, hf6, hf7, hf9, hf10, hf24, hf25, hf26, hd0, hd1, hd2, hd3, hd4, hd5, hd6, hd7, hd8, hd9, hd10, hd11, W0, W1, W2, W3⟩
         have hf49 := hd5 e5
         obtain ⟨u9, rfl⟩ := up1 hf49
         rcases bool_ft (S 10) with e10 | e10
         ·
          rcases bool_ft (S 11) with e11 | e11
          ·
           have H := W0 e10 e11
           refine O.load sc3 rfl rfl rfl (H.cell 3 rfl 2 _ rfl) ?_
           exact WL.nil ⟨b3, b4, hf2, hf5, hf6, hf7, hf9, hf10, hf24, hf25, hf26, hd0, hd1, hd2, hd3, hd4, hd5, (fun _ => rfl), hd7, hd8, hd9, hd10, hd11, (fun _ _ => H), (fun a _ => nX e10 a), (fun _ a => nX e11 a), (fun a _ => nX e10 a)⟩
          ·
           have H := W2 e10 e11
           refine O.load sc3 rfl rfl rfl (H.cell 3 rfl 2 _ rfl) ?_
           exact WL.nil ⟨b3, b4, hf2, hf5, hf6, hf7, hf9, hf10, hf24, hf25, hf26, hd0, hd1, hd2, hd3, hd4, hd5, (fun _ => rfl), hd7, hd8, hd9, hd10, hd11, (fun _ a => nT e11 a), (fun a _ => nX e10 a), (fun _ _ => H), (fun a _ => nX e10 a)⟩
         ·
          rcases bool_ft (S 11) with e11 | e11
          ·
           have H := W1 e10 e11
           refine O.load sc3 rfl rfl rfl (H.cell 3 rfl 2 _ rfl) ?_
           exact WL.nil ⟨b3, b4, hf2, hf5, hf6, hf7, hf9, hf10, hf24, hf25, hf26, hd0, hd1, hd2, hd3, hd4, hd5, (fun _ => rfl), hd7, hd8, hd9, hd10, hd11, (fun a _ => nT e10 a), (fun _ _ => H), (fun a _ => nT e10 a), (fun _ a => nX e11 a)⟩
          ·
           have H := W3 e10 e11
           refine O.load sc3 rfl rfl rfl (H.cell 3 rfl 2 _ rfl) ?_
           exact WL.nil ⟨b3, b4, hf2, hf5, hf6, hf7, hf9, hf10, hf24, hf25, hf26, hd0, hd1, hd2, hd3, hd4, hd5, (fun _ => rfl), hd7, hd8, hd9, hd10, hd11, (fun a _ => nT e10 a), (fun _ a => nT e11 a), (fun a _ => nT e10 a), (fun _ _ => H)⟩
        ·
         rintro S f w hS - ⟨e8, e9, -⟩ ⟨b3, b4, hf2, hf5, hf6, hf7, hf9, hf10, hf24, hf25, hf26, hd0, hd1, hd2, hd3, hd4, hd5, hd6, hd7, hd8, hd9, hd10, hd11, W0, W1, W2, W3⟩
         obtain ⟨u10, rfl⟩ := up1 hf10
         rcases bool_ft (S 10) with e10 | e10
         ·
          rcases bool_ft (S 11) with e11 | e11
          ·
           have H := W0 e10 e11
           refine O.fieldAddr fd39_0 rfl rfl rfl ?_
           exact WL.nil ⟨b3, b4, hf2, hf5, hf6, hf7, hf9, rfl, hf24, hf25, hf26, hd0, hd1, hd2, hd3, hd4, hd5, hd6, (fun _ => rfl), hd8, hd9, hd10, hd11, (fun _ _ => H), (fun a _ => nX e10 a), (fun _ a => nX e11 a), (fun a _ => nX e10 a)⟩
          ·
           have H := W2 e10 e11
           refine O.fieldAddr fd39_0 rfl rfl rfl ?_
           exact WL.nil ⟨b3, b4, hf2, hf5, hf6, hf7, hf9, rfl, hf24, hf25, hf26, hd0, hd1, hd2, hd3, hd4, hd5, hd6, (fun _ => rfl), hd8, hd9, hd10, hd11, (fun _ a => nT e11 a), (fun a _ => nX e10 a), (fun _ _ => H), (fun a _ => nX e10 a)⟩
         ·
          rcases bool_ft (S 11) with e11 | e11
          ·
           have H := W1 e10 e11
           refine O.fieldAddr fd39_0 rfl rfl rfl ?_
           exact WL.nil ⟨b3, b4, hf2, hf5, hf6, hf7, hf9, rfl, hf24, hf25, hf26, hd0, hd1, hd2, hd3, hd4, hd5, hd6, (fun _ => rfl), hd8, hd9, hd10, hd11, (fun a _ => nT e10 a), (fun _ _ => H), (fun a _ => nT e10 a), (fun _ a => nX e11 a)⟩
          ·
           have H := W3 e10 e11
           refine O.fieldAddr fd39_0 rfl rfl rfl ?_
           exact WL.nil ⟨b3, b4, hf2, hf5, hf6, hf7, hf9, rfl, hf24, hf25, hf26, hd0, hd1, hd2, hd3, hd4, hd5, hd6, (fun _ => rfl), hd8, hd9, hd10, hd11, (fun a _ => nT e10 a), (fun _ a => nT e11 a), (fun a _ => nT e10 a), (fun _ _ => H)⟩
        ·
         rintro S f w hS ⟨e7, -⟩ ⟨e9, -⟩ ⟨b3, b4, hf2, hf5, hf6, hf7, hf9, hf10, hf24, hf25, hf26, hd0, hd1, hd2, hd3, hd4, hd5, hd6, hd7, hd8, hd9, hd10, hd11, W0, W1, W2, W3⟩
         have hf51 := hd7 e7
         obtain ⟨u11, rfl⟩ := up1 hf51
         rcases bool_ft (S 10) with e10 | e10
         ·
          rcases bool_ft (S 11) with e11 | e11
          ·
           have H := W0 e10 e11
           refine O.load sc3 rfl rfl rfl (H.cell 3 rfl 0 _ rfl) ?_
           exact WL.nil ⟨b3, b4, hf2, hf5, hf6, hf7, hf9, hf10, hf24, hf25, hf26, hd0, hd1, hd2, hd3, hd4, hd5, hd6, hd7, (fun _ => rfl), hd9, hd10, hd11, (fun _ _ => H), (fun a _ => nX e10 a), (fun _ a => nX e11 a), (fun a _ => nX e10 a)⟩
          ·
           have H := W2 e10 e11
           refine O.load sc3 rfl rfl rfl (H.cell 3 rfl 0 _ rfl) ?_
           exact WL.nil ⟨b3, b4, hf2, hf5, hf6, hf7, hf9, hf10, hf24, hf25, hf26, hd0, hd1, hd2, hd3, hd4, hd5, hd6, hd7, (fun _ => rfl), hd9, hd10, hd11, (fun _ a => nT e11 a), (fun a _ => nX e10 a), (fun _ _ => H), (fun a _ => nX e10 a)⟩
         ·
          rcases bool_ft (S 11) with e11 | e11
          ·
           have H := W1 e10 e11
           refine O.load sc3 rfl rfl rfl (H.cell 3 rfl 0 _ rfl) ?_
           exact WL.nil ⟨b3, b4, hf2, hf5, hf6, hf7, hf9, hf10, hf24, hf25, hf26, hd0, hd1, hd2, hd3, hd4, hd5, hd6, hd7, (fun _ => rfl), hd9, hd10, hd11, (fun a _ => nT e10 a), (fun _ _ => H), (fun a _ => nT e10 a), (fun _ a => nX e11 a)⟩
          ·
           have H := W3 e10 e11
           refine O.load sc3 rfl rfl rfl (H.cell 3 rfl 0 _ rfl) ?_
           exact WL.nil ⟨b3, b4, hf2, hf5, hf6, hf7, hf9, hf10, hf24, hf25, hf26, hd0, hd1, hd2, hd3, hd4, hd5, hd6, hd7, (fun _ => rfl), hd9, hd10, hd11, (fun a _ => nT e10 a), (fun _ a => nT e11 a), (fun a _ => nT e10 a), (fun _ _ => H)⟩
        ·
         rintro S f w hS ⟨e0, e1, e2, e3, e4, e5, e6, e7, e8, -⟩ - ⟨b3, b4, hf2, hf5, hf6, hf7, hf9, hf10, hf24, hf25, hf26, hd0, hd1, hd2, hd3, hd4, hd5, hd6, hd7, hd8, hd9, hd10, hd11, W0, W1, W2, W3⟩
         have hf50 := hd6 e6
         have hf52 := hd8 e8
         obtain ⟨u12, rfl⟩ := up2 hf50 hf52
         rcases bool_ft (S 10) with e10 | e10
         ·
          rcases bool_ft (S 11) with e11 | e11
          ·
           have H := W0 e10 e11
           refine O.call Try.call63 rfl rfl rfl (c_noongunref02_spot _ _ hy4) ?_
           rintro _ w7 hb6 rfl
           have H := H.ext hb6
           exact WL.nil ⟨b3, b4, hf2, hf5, hf6, hf7, hf9, hf10, hf24, hf25, hf26, hd0, hd1, hd2, hd3, hd4, hd5, hd6, hd7, hd8, (fun _ => rfl), hd10, hd11, (fun _ _ => H), (fun a _ => nX e10 a), (fun _ a => nX e11 a), (fun a _ => nX e10 a)⟩
          ·
           have H := W2 e10 e11
           refine O.call Try.call63 rfl rfl rfl (c_noongunref02_spot _ _ hy4) ?_
           rintro _ w7 hb6 rfl
           have H := H.ext hb6
           exact WL.nil ⟨b3, b4, hf2, hf5, hf6, hf7, hf9, hf10, hf24, hf25, hf26, hd0, hd1, hd2, hd3, hd4, hd5, hd6, hd7, hd8, (fun _ => rfl), hd10, hd11, (fun _ a => nT e11 a), (fun a _ => nX e10 a), (fun _ _ => H), (fun a _ => nX e10 a)⟩
         ·
          rcases bool_ft (S 11) with e11 | e11
          ·
           have H := W1 e10 e11
           refine O.call Try.call63 rfl rfl rfl (c_noongunref02_spot _ _ hy4) ?_
           rintro _ w7 hb6 rfl
           have H := H.ext hb6
           exact WL.nil ⟨b3, b4, hf2, hf5, hf6, hf7, hf9, hf10, hf24, hf25, hf26, hd0, hd1, hd2, hd3, hd4, hd5, hd6, hd7, hd8, (fun _ => rfl), hd10, hd11, (fun a _ => nT e10 a), (fun _ _ => H), (fun a _ => nT e10 a), (fun _ a => nX e11 a)⟩
          ·
           have H := W3 e10 e11
           refine O.call Try.call63 rfl rfl rfl (c_noongunref02_spot _ _ hy4) ?_
           rintro _ w7 hb6 rfl
           have H := H.ext hb6
           exact WL.nil ⟨b3, b4, hf2, hf5, hf6, hf7, hf9, hf10, hf24, hf25, hf26, hd0, hd1, hd2, hd3, hd4, hd5, hd6, hd7, hd8, (fun _ => rfl), hd10, hd11, (fun a _ => nT e10 a), (fun _ a => nT e11 a), (fun a _ => nT e10 a), (fun _ _ => H)⟩
        ·
         rintro S f w hS - - ⟨_, b4, hf2, hf5, hf6, hf7, hf9, hf10, hf24, hf25, hf26, hd0, hd1, hd2, hd3, hd4, hd5, hd6, hd7, hd8, hd9, hd10, hd11, W0, W1, W2, W3⟩
         rcases bool_ft (S 11) with e11 | e11
         ·
          have H := W0 hS e11
          refine O.alloc [(.int .i64 0), (.int .i64 0)] ze78 H rfl rfl rfl ?_
          intro b3 w8 H hb7
          refine WL.nil ?_
          have H := H.pick [0, 1, 2, 3, 6, 5] [boxI b1 25 [va0_0, va0_1], ownI (α := GPoint) v3 78 z5, ownI (α := GPoint) v4 78 z6, boxI b2 39 [(.int .i64 x1.At), (.int .i64 x1.A), (.int .i64 x1.B), (.int .i64 x1.Lo), (.int .i64 x1.Hi)], boxI b3 78 [(.int .i64 0), (.int .i64 0)], goneI] rfl (by decide)
          exact ⟨b3, b4, hf2, hf5, hf6, hf7, hf9, hf10, hf24, hf25, hf26, hd0, hd1, hd2, hd3, hd4, hd5, hd6, hd7, hd8, hd9, (fun _ => rfl), hd11, (fun a _ => nG a), (fun _ _ => H), (fun a _ => nG a), (fun _ a => nX e11 a)⟩
         ·
          have H := W2 hS e11
          refine O.alloc [(.int .i64 0), (.int .i64 0)] ze78 H rfl rfl rfl ?_
          intro b3 w8 H hb7
          refine WL.nil ?_
          have H := H.pick [0, 1, 2, 3, 6, 5] [boxI b1 25 [va0_0, va0_1], ownI (α := GPoint) v3 78 z5, ownI (α := GPoint) v4 78 z6, boxI b2 39 [(.int .i64 x1.At), (.int .i64 x1.A), (.int .i64 x1.B), (.int .i64 x1.Lo), (.int .i64 x1.Hi)], boxI b3 78 [(.int .i64 0), (.int .i64 0)], boxI b4 78 [(.int .i64 0), (.int .i64 0)]] rfl (by decide)
          exact ⟨b3, b4, hf2, hf5, hf6, hf7, hf9, hf10, hf24, hf25, hf26, hd0, hd1, hd2, hd3, hd4, hd5, hd6, hd7, hd8, hd9, (fun _ => rfl), hd11, (fun a _ => nG a), (fun _ a => nT e11 a), (fun a _ => nG a), (fun _ _ => H)⟩
        ·
         rintro S f w hS - - ⟨b3, _, hf2, hf5, hf6, hf7, hf9, hf10, hf24, hf25, hf26, hd0, hd1, hd2, hd3, hd4, hd5, hd6, hd7, hd8, hd9, hd10, hd11, W0, W1, W2, W3⟩
         rcases bool_ft (S 10) with e10 | e10
         ·
          have H := W0 e10 hS
          refine O.alloc [(.int .i64 0), (.int .i64 0)] ze78 H rfl rfl rfl ?_
          intro b4 w9 H hb8
          refine WL.nil ?_
          have H := H.pick [0, 1, 2, 3, 4, 6] [boxI b1 25 [va0_0, va0_1], ownI (α := GPoint) v3 78 z5, ownI (α := GPoint) v4 78 z6, boxI b2 39 [(.int .i64 x1.At), (.int .i64 x1.A), (.int .i64 x1.B), (.int .i64 x1.Lo), (.int .i64 x1.Hi)], goneI, boxI b4 78 [(.int .i64 0), (.int .i64 0)]] rfl (by decide)
          exact ⟨b3, b4, hf2, hf5, hf6, hf7, hf9, hf10, hf24, hf25, hf26, hd0, hd1, hd2, hd3, hd4, hd5, hd6, hd7, hd8, hd9, hd10, (fun _ => rfl), (fun _ a => nG a), (fun a _ => nX e10 a), (fun _ _ => H), (fun a _ => nX e10 a)⟩
         ·
          have H := W1 e10 hS
          refine O.alloc [(.int .i64 0), (.int .i64 0)] ze78 H rfl rfl rfl ?_
          intro b4 w9 H hb8
          refine WL.nil ?_
          have H := H.pick [0, 1, 2, 3, 4, 6] [boxI b1 25 [va0_0, va0_1], ownI (α := GPoint) v3 78 z5, ownI (α := GPoint) v4 78 z6, boxI b2 39 [(.int .i64 x1.At), (.int .i64 x1.A), (.int .i64 x1.B), (.int .i64 x1.Lo), (.int .i64 x1.Hi)], boxI b3 78 [(.int .i64 0), (.int .i64 0)], boxI b4 78 [(.int .i64 0), (.int .i64 0)]] rfl (by decide)
          exact ⟨b3, b4, hf2, hf5, hf6, hf7, hf9, hf10, hf24, hf25, hf26, hd0, hd1, hd2, hd3, hd4, hd5, hd6, hd7, hd8, hd9, hd10, (fun _ => rfl), (fun a _ => nT e10 a), (fun _ a => nG a), (fun a _ => nT e10 a), (fun _ _ => H)⟩
       ·
        rintro S f w ⟨e0, e1, e2, e3, e4, e5, e6, e7, e8, e9, e10, e11, -⟩ ⟨b3, b4, hf2, hf5, hf6, hf7, hf9, hf10, hf24, hf25, hf26, hd0, hd1, hd2, hd3, hd4, hd5, hd6, hd7, hd8, hd9, hd10, hd11, W0, W1, W2, W3⟩
        have hf11 := hd10 e10
        have hf12 := hd11 e11
        have hf48 := hd4 e4
        have hf53 := hd9 e9
        have H := W3 e10 e11
        obtain ⟨u13, rfl⟩ : ∃ u13, f = (upd (upd (upd (upd (upd (upd (upd (upd (upd (upd (upd (upd (upd u13 2 (.pointer (some ⟨b1, 0, none⟩))) 5 (.int .i64 z4)) 6 v3) 7 v4) 9 (.int .i64 yk1)) 10 (.pointer (some ⟨b2, 0, none⟩))) 11 (.pointer (some ⟨b3, 0, none⟩))) 12 (.pointer (some ⟨b4, 0, none⟩))) 24 va1) 25 (.int .i64 ((a1.length : Nat) : Int))) 26 (.int .i64 (ik1 : Int))) 48 (.agg (Flat.cells t6).toArray)) 53 (.agg (Flat.cells t7).toArray)) := ⟨f, by rw [upd_self hf2, upd_self hf5, upd_self hf6, upd_self hf7, upd_self hf9, upd_self hf10, upd_self hf11, upd_self hf12, upd_self hf24, upd_self hf25, upd_self hf26, upd_self hf48, upd_self hf53]⟩
        refine O.store 4 0 [(.int .i64 t6.clock), (.int .i64 t6.at_)] [(.int .i64 t6.clock), (.int .i64 t6.at_)] sz78 H rfl rfl rfl rfl rfl rfl ⟨⟨rfl, rfl⟩, rfl⟩ (one_cons rfl (one_cons rfl one_nil)) ?_
        intro w10 H
        refine O.store 5 0 [(.int .i64 t7.clock), (.int .i64 t7.at_)] [(.int .i64 t7.clock), (.int .i64 t7.at_)] sz78 H rfl rfl rfl rfl rfl rfl ⟨⟨rfl, rfl⟩, rfl⟩ (one_cons rfl (one_cons rfl one_nil)) ?_
        intro w11 H
        refine WL.nil ?_
        refine W.seq ?_
        refine W.region ?_
        refine O.move (v := (.int .i64 yk1)) rfl rfl rfl ?_
        obtain ⟨t8, ht8, hm3⟩ := bind_some hm3
        refine O.rem rfl rfl rfl rfl ht8 ?_
        refine O.eql rfl rfl rfl rfl ?_
        refine WL.nil ?_
        obtain ⟨⟨s7, s8, s9⟩, hm4, hm3⟩ := bind_some hm3
        refine W.via (fun f w => ∃ v11 : Value, ∃ v12 : Value, f 2 = (.pointer (some ⟨b1, 0, none⟩)) ∧ f 5 = (.int .i64 s7) ∧ f 6 = v11 ∧ f 7 = v12 ∧ f 24 = va1 ∧ f 25 = (.int .i64 ((a1.length : Nat) : Int)) ∧ f 26 = (.int .i64 (ik1 : Int)) ∧ Inv w0 w [boxI b1 25 [va0_0, va0_1], ownI (α := GPoint) v11 78 s8, ownI (α := GPoint) v12 78 s9]) ?_ ?_
        ·
         rcases ite_some hm4 with ⟨hc4, hm4⟩ | ⟨hc4, hm4⟩
         ·
          refine W.cond_true (congrArg Value.bool hc4) ?_
          obtain ⟨t9, ht9, hm4⟩ := bind_some hm4
          obtain ⟨t10, ht10, hm4⟩ := bind_some hm4
          obtain ⟨t11, ht11, hm4⟩ := bind_some hm4
          have H := H.addGone
          have H := H.addGone
          refine W.drawD 14 [[], [], [1], [0, 1, 2], [], [], [5], [0, 1, 2, 3, 4, 5, 6], [], [], [9], [8, 9, 10], [0, 1, 2, 3, 4, 5, 6, 7], [0, 1, 2, 3, 4, 5, 6, 7, 12]] [[3, 7, 12, 13], [2, 3, 7, 12, 13], [3, 7, 12, 13], [7, 12, 13], [7, 12, 13], [6, 7, 12, 13], [7, 12, 13], [12, 13], [11], [10, 11], [11], [], [13], []] (fun S f w => ∃ v13 : Value, ∃ v14 : Value, ∃ v15 : Value, ∃ v16 : Value, f 2 = (.pointer (some ⟨b1, 0, none⟩)) ∧ f 5 = (.int .i64 z4) ∧ f 10 = (.pointer (some ⟨b2, 0, none⟩)) ∧ f 11 = (.pointer (some ⟨b3, 0, none⟩)) ∧ f 12 = (.pointer (some ⟨b4, 0, none⟩)) ∧ f 24 = va1 ∧ f 25 = (.int .i64 ((a1.length : Nat) : Int)) ∧ f 26 = (.int .i64 (ik1 : Int)) ∧ (S 0 = true → f 57 = v3) ∧ (S 1 = true → f 58 = (.agg (Flat.cells t7).toArray)) ∧ (S 2 = true → f 59 = v13) ∧ (S 3 = true → f 60 = v14) ∧ (S 4 = true → f 61 = v4) ∧ (S 5 = true → f 62 = (.agg (Flat.cells t6).toArray)) ∧ (S 6 = true → f 63 = v15) ∧ (S 7 = true → f 64 = v16) ∧ (S 8 = true → f 65 = (.int .i64 z4)) ∧ (S 9 = true → f 66 = (.pointer (some (Addr.add (Addr.mk b2 0 none) 4)))) ∧ (S 10 = true → f 67 = (.int .i64 x1.Hi)) ∧ (S 11 = true → f 68 = (.int .i64 t11)) ∧ (S 12 = true → f 6 = v14) ∧ (S 13 = true → f 7 = v16) ∧ (S 12 = false → f 6 = v3) ∧ (S 13 = false → f 7 = v4) ∧ (S 3 = true → S 2 = true) ∧ (S 7 = true → S 2 = true) ∧ (S 7 = true → S 3 = true) ∧ (S 7 = true → S 6 = true) ∧ (S 2 = false → S 3 = false → S 6 = false → S 7 = false → Inv w0 w [boxI b1 25 [va0_0, va0_1], ownI (α := GPoint) v3 78 z5, ownI (α := GPoint) v4 78 z6, boxI b2 39 [(.int .i64 x1.At), (.int .i64 x1.A), (.int .i64 x1.B), (.int .i64 x1.Lo), (.int .i64 x1.Hi)], boxI b3 78 [(.int .i64 t6.clock), (.int .i64 t6.at_)], boxI b4 78 [(.int .i64 t7.clock), (.int .i64 t7.at_)], goneI, goneI]) ∧ (S 2 = true → S 3 = false → S 6 = false → S 7 = false → Inv w0 w [boxI b1 25 [va0_0, va0_1], ownI (α := GPoint) v3 78 z5, ownI (α := GPoint) v4 78 z6, boxI b2 39 [(.int .i64 x1.At), (.int .i64 x1.A), (.int .i64 x1.B), (.int .i64 x1.Lo), (.int .i64 x1.Hi)], boxI b3 78 [(.int .i64 t6.clock), (.int .i64 t6.at_)], boxI b4 78 [(.int .i64 t7.clock), (.int .i64 t7.at_)], ownI (α := GPoint) v13 78 ([t7] : List GPoint), goneI]) ∧ (S 2 = false → S 3 = false → S 6 = true → S 7 = false → Inv w0 w [boxI b1 25 [va0_0, va0_1], ownI (α := GPoint) v3 78 z5, ownI (α := GPoint) v4 78 z6, boxI b2 39 [(.int .i64 x1.At), (.int .i64 x1.A), (.int .i64 x1.B), (.int .i64 x1.Lo), (.int .i64 x1.Hi)], boxI b3 78 [(.int .i64 t6.clock), (.int .i64 t6.at_)], boxI b4 78 [(.int .i64 t7.clock), (.int .i64 t7.at_)], goneI, ownI (α := GPoint) v15 78 ([t6] : List GPoint)]) ∧ (S 2 = true → S 3 = true → S 6 = false → S 7 = false → Inv w0 w [boxI b1 25 [va0_0, va0_1], ownI (α := GPoint) v14 78 t9, ownI (α := GPoint) v4 78 z6, boxI b2 39 [(.int .i64 x1.At), (.int .i64 x1.A), (.int .i64 x1.B), (.int .i64 x1.Lo), (.int .i64 x1.Hi)], boxI b3 78 [(.int .i64 t6.clock), (.int .i64 t6.at_)], boxI b4 78 [(.int .i64 t7.clock), (.int .i64 t7.at_)], ownI (α := GPoint) v13 78 ([t7] : List GPoint), goneI]) ∧ (S 2 = true → S 3 = false → S 6 = true → S 7 = false → Inv w0 w [boxI b1 25 [va0_0, va0_1], ownI (α := GPoint) v3 78 z5, ownI (α := GPoint) v4 78 z6, boxI b2 39 [(.int .i64 x1.At), (.int .i64 x1.A), (.int .i64 x1.B), (.int .i64 x1.Lo), (.int .i64 x1.Hi)], boxI b3 78 [(.int .i64 t6.clock), (.int .i64 t6.at_)], boxI b4 78 [(.int .i64 t7.clock), (.int .i64 t7.at_)], ownI (α := GPoint) v13 78 ([t7] : List GPoint), ownI (α := GPoint) v15 78 ([t6] : List GPoint)]) ∧ (S 2 = true → S 3 = true → S 6 = true → S 7 = false → Inv w0 w [boxI b1 25 [va0_0, va0_1], ownI (α := GPoint) v14 78 t9, ownI (α := GPoint) v4 78 z6, boxI b2 39 [(.int .i64 x1.At), (.int .i64 x1.A), (.int .i64 x1.B), (.int .i64 x1.Lo), (.int .i64 x1.Hi)], boxI b3 78 [(.int .i64 t6.clock), (.int .i64 t6.at_)], boxI b4 78 [(.int .i64 t7.clock), (.int .i64 t7.at_)], ownI (α := GPoint) v13 78 ([t7] : List GPoint), ownI (α := GPoint) v15 78 ([t6] : List GPoint)]) ∧ (S 2 = true → S 3 = true → S 6 = true → S 7 = true → Inv w0 w [boxI b1 25 [va0_0, va0_1], ownI (α := GPoint) v14 78 t9, ownI (α := GPoint) v16 78 t10, boxI b2 39 [(.int .i64 x1.At), (.int .i64 x1.A), (.int .i64 x1.B), (.int .i64 x1.Lo), (.int .i64 x1.Hi)], boxI b3 78 [(.int .i64 t6.clock), (.int .i64 t6.at_)], boxI b4 78 [(.int .i64 t7.clock), (.int .i64 t7.at_)], ownI (α := GPoint) v13 78 ([t7] : List GPoint), ownI (α := GPoint) v15 78 ([t6] : List GPoint)])) fol (by kernel_rfl) ?_ ?_ ?_
          ·
           exact fun d _ => ⟨.nilFunc, .nilFunc, .nilFunc, .nilFunc, rfl, rfl, rfl, rfl, rfl, rfl, rfl, rfl, nF, nF, nF, nF, nF, nF, nF, nF, nF, nF, nF, nF, nF, nF, (fun _ => rfl), (fun _ => rfl), nF, nF, nF, nF, (fun _ _ _ _ => H.ext (below_drawn d)), (fun a _ _ _ => nF a), (fun _ _ a _ => nF a), (fun a _ _ _ => nF a), (fun a _ _ _ => nF a), (fun a _ _ _ => nF a), (fun a _ _ _ => nF a)⟩
          ·
           refine ⟨?_, ⟨?_, ⟨?_, ⟨?_, ⟨?_, ⟨?_, ⟨?_, ⟨?_, ⟨?_, ⟨?_, ⟨?_, ⟨?_, ⟨?_, ⟨?_, trivial⟩⟩⟩⟩⟩⟩⟩⟩⟩⟩⟩⟩⟩⟩
           ·
            rintro S f w hS - ⟨e3, e7, e12, e13, -⟩ ⟨v13, v14, v15, v16, hf2, hf5, hf10, hf11, hf12, hf24, hf25, hf26, hd0, hd1, hd2, hd3, hd4, hd5, hd6, hd7, hd8, hd9, hd10, hd11, hd12, hd13, ho6, ho7, C3_2, C7_2, C7_3, C7_6, W0, W1, W2, W3, W4, W5, W6⟩
            have hf6 := ho6 e12
            obtain ⟨u14, rfl⟩ := up1 hf6
            rcases bool_ft (S 2) with e2 | e2
            ·
             rcases bool_ft (S 6) with e6 | e6
             ·
              have H := W0 e2 e3 e6 e7
              refine O.move (v := v3) rfl rfl rfl ?_
              exact WL.nil ⟨v13, v14, v15, v16, hf2, hf5, hf10, hf11, hf12, hf24, hf25, hf26, (fun _ => rfl), hd1, hd2, hd3, hd4, hd5, hd6, hd7, hd8, hd9, hd10, hd11, hd12, hd13, ho6, ho7, C3_2, C7_2, C7_3, C7_6, (fun _ _ _ _ => H), (fun a _ _ _ => nX e2 a), (fun _ _ a _ => nX e6 a), (fun a _ _ _ => nX e2 a), (fun a _ _ _ => nX e2 a), (fun a _ _ _ => nX e2 a), (fun a _ _ _ => nX e2 a)⟩
             ·
              have H := W2 e2 e3 e6 e7
              refine O.move (v := v3) rfl rfl rfl ?_
              exact WL.nil ⟨v13, v14, v15, v16, hf2, hf5, hf10, hf11, hf12, hf24, hf25, hf26, (fun _ => rfl), hd1, hd2, hd3, hd4, hd5, hd6, hd7, hd8, hd9, hd10, hd11, hd12, hd13, ho6, ho7, C3_2, C7_2, C7_3, C7_6, (fun _ _ a _ => nT e6 a), (fun a _ _ _ => nX e2 a), (fun _ _ _ _ => H), (fun a _ _ _ => nX e2 a), (fun a _ _ _ => nX e2 a), (fun a _ _ _ => nX e2 a), (fun a _ _ _ => nX e2 a)⟩
            ·
             rcases bool_ft (S 6) with e6 | e6
             ·
              have H := W1 e2 e3 e6 e7
              refine O.move (v := v3) rfl rfl rfl ?_
              exact WL.nil ⟨v13, v14, v15, v16, hf2, hf5, hf10, hf11, hf12, hf24, hf25, hf26, (fun _ => rfl), hd1, hd2, hd3, hd4, hd5, hd6, hd7, hd8, hd9, hd10, hd11, hd12, hd13, ho6, ho7, C3_2, C7_2, C7_3, C7_6, (fun a _ _ _ => nT e2 a), (fun _ _ _ _ => H), (fun a _ _ _ => nT e2 a), (fun _ a _ _ => nX e3 a), (fun _ _ a _ => nX e6 a), (fun _ a _ _ => nX e3 a), (fun _ a _ _ => nX e3 a)⟩
             ·
              have H := W4 e2 e3 e6 e7
              refine O.move (v := v3) rfl rfl rfl ?_
              exact WL.nil ⟨v13, v14, v15, v16, hf2, hf5, hf10, hf11, hf12, hf24, hf25, hf26, (fun _ => rfl), hd1, hd2, hd3, hd4, hd5, hd6, hd7, hd8, hd9, hd10, hd11, hd12, hd13, ho6, ho7, C3_2, C7_2, C7_3, C7_6, (fun a _ _ _ => nT e2 a), (fun _ _ a _ => nT e6 a), (fun a _ _ _ => nT e2 a), (fun _ a _ _ => nX e3 a), (fun _ _ _ _ => H), (fun _ a _ _ => nX e3 a), (fun _ a _ _ => nX e3 a)⟩
           ·
            rintro S f w hS - ⟨e2, e3, e7, e12, e13, -⟩ ⟨v13, v14, v15, v16, hf2, hf5, hf10, hf11, hf12, hf24, hf25, hf26, hd0, hd1, hd2, hd3, hd4, hd5, hd6, hd7, hd8, hd9, hd10, hd11, hd12, hd13, ho6, ho7, C3_2, C7_2, C7_3, C7_6, W0, W1, W2, W3, W4, W5, W6⟩
            obtain ⟨u15, rfl⟩ := up1 hf12
            rcases bool_ft (S 6) with e6 | e6
            ·
             have H := W0 e2 e3 e6 e7
             refine O.loadA [(.int .i64 t7.clock), (.int .i64 t7.at_)] ag78 rfl rfl rfl rfl (H.cell 5 rfl) ?_
             exact WL.nil ⟨v13, v14, v15, v16, hf2, hf5, hf10, hf11, rfl, hf24, hf25, hf26, hd0, (fun _ => rfl), hd2, hd3, hd4, hd5, hd6, hd7, hd8, hd9, hd10, hd11, hd12, hd13, ho6, ho7, C3_2, C7_2, C7_3, C7_6, (fun _ _ _ _ => H), (fun a _ _ _ => nX e2 a), (fun _ _ a _ => nX e6 a), (fun a _ _ _ => nX e2 a), (fun a _ _ _ => nX e2 a), (fun a _ _ _ => nX e2 a), (fun a _ _ _ => nX e2 a)⟩
            ·
             have H := W2 e2 e3 e6 e7
             refine O.loadA [(.int .i64 t7.clock), (.int .i64 t7.at_)] ag78 rfl rfl rfl rfl (H.cell 5 rfl) ?_
             exact WL.nil ⟨v13, v14, v15, v16, hf2, hf5, hf10, hf11, rfl, hf24, hf25, hf26, hd0, (fun _ => rfl), hd2, hd3, hd4, hd5, hd6, hd7, hd8, hd9, hd10, hd11, hd12, hd13, ho6, ho7, C3_2, C7_2, C7_3, C7_6, (fun _ _ a _ => nT e6 a), (fun a _ _ _ => nX e2 a), (fun _ _ _ _ => H), (fun a _ _ _ => nX e2 a), (fun a _ _ _ => nX e2 a), (fun a _ _ _ => nX e2 a), (fun a _ _ _ => nX e2 a)⟩
           ·
            rintro S f w hS ⟨e1, -⟩ ⟨e3, e7, e12, e13, -⟩ ⟨_, v14, v15, v16, hf2, hf5, hf10, hf11, hf12, hf24, hf25, hf26, hd0, hd1, hd2, hd3, hd4, hd5, hd6, hd7, hd8, hd9, hd10, hd11, hd12, hd13, ho6, ho7, C3_2, C7_2, C7_3, C7_6, W0, W1, W2, W3, W4, W5, W6⟩
            have hf58 := hd1 e1
            obtain ⟨u16, rfl⟩ := up1 hf58
            rcases bool_ft (S 6) with e6 | e6
            ·
             have H := W0 hS e3 e6 e7
             refine O.buildSlice (α := GPoint) [(.agg (Flat.cells t7).toArray)] [t7] Try.underlying91 el78 H rfl rfl rfl rfl rfl rfl rfl ?_
             intro v13 w12 H hb9
             refine WL.nil ?_
             have H := H.pick [0, 1, 2, 3, 4, 5, 8, 7] [boxI b1 25 [va0_0, va0_1], ownI (α := GPoint) v3 78 z5, ownI (α := GPoint) v4 78 z6, boxI b2 39 [(.int .i64 x1.At), (.int .i64 x1.A), (.int .i64 x1.B), (.int .i64 x1.Lo), (.int .i64 x1.Hi)], boxI b3 78 [(.int .i64 t6.clock), (.int .i64 t6.at_)], boxI b4 78 [(.int .i64 t7.clock), (.int .i64 t7.at_)], ownI (α := GPoint) v13 78 ([t7] : List GPoint), goneI] rfl (by decide)
             exact ⟨v13, v14, v15, v16, hf2, hf5, hf10, hf11, hf12, hf24, hf25, hf26, hd0, hd1, (fun _ => rfl), hd3, hd4, hd5, hd6, hd7, hd8, hd9, hd10, hd11, hd12, hd13, ho6, ho7, (fun _ => rfl), (fun _ => rfl), C7_3, C7_6, (fun a _ _ _ => nG a), (fun _ _ _ _ => H), (fun a _ _ _ => nG a), (fun _ a _ _ => nX e3 a), (fun _ _ a _ => nX e6 a), (fun _ a _ _ => nX e3 a), (fun _ a _ _ => nX e3 a)⟩
            ·
             have H := W2 hS e3 e6 e7
             refine O.buildSlice (α := GPoint) [(.agg (Flat.cells t7).toArray)] [t7] Try.underlying91 el78 H rfl rfl rfl rfl rfl rfl rfl ?_
             intro v13 w12 H hb9
             refine WL.nil ?_
             have H := H.pick [0, 1, 2, 3, 4, 5, 8, 7] [boxI b1 25 [va0_0, va0_1], ownI (α := GPoint) v3 78 z5, ownI (α := GPoint) v4 78 z6, boxI b2 39 [(.int .i64 x1.At), (.int .i64 x1.A), (.int .i64 x1.B), (.int .i64 x1.Lo), (.int .i64 x1.Hi)], boxI b3 78 [(.int .i64 t6.clock), (.int .i64 t6.at_)], boxI b4 78 [(.int .i64 t7.clock), (.int .i64 t7.at_)], ownI (α := GPoint) v13 78 ([t7] : List GPoint), ownI (α := GPoint) v15 78 ([t6] : List GPoint)] rfl (by decide)
             exact ⟨v13, v14, v15, v16, hf2, hf5, hf10, hf11, hf12, hf24, hf25, hf26, hd0, hd1, (fun _ => rfl), hd3, hd4, hd5, hd6, hd7, hd8, hd9, hd10, hd11, hd12, hd13, ho6, ho7, (fun _ => rfl), (fun _ => rfl), C7_3, C7_6, (fun a _ _ _ => nG a), (fun _ _ a _ => nT e6 a), (fun a _ _ _ => nG a), (fun _ a _ _ => nX e3 a), (fun _ _ _ _ => H), (fun _ a _ _ => nX e3 a), (fun _ a _ _ => nX e3 a)⟩
           ·
            rintro S f w hS ⟨e0, e1, e2, -⟩ ⟨e7, e12, e13, -⟩ ⟨v13, _, v15, v16, hf2, hf5, hf10, hf11, hf12, hf24, hf25, hf26, hd0, hd1, hd2, hd3, hd4, hd5, hd6, hd7, hd8, hd9, hd10, hd11, hd12, hd13, ho6, ho7, C3_2, C7_2, C7_3, C7_6, W0, W1, W2, W3, W4, W5, W6⟩
            have hf57 := hd0 e0
            have hf59 := hd2 e2
            obtain ⟨u17, rfl⟩ := up2 hf57 hf59
            rcases bool_ft (S 6) with e6 | e6
            ·
             have H := W1 e2 hS e6 e7
             refine O.append 1 Try.underlying91 el78 rfl H rfl (H.own 6 rfl) ht9 rfl rfl rfl rfl ?_
             intro v14 w13 H
             exact WL.nil ⟨v13, v14, v15, v16, hf2, hf5, hf10, hf11, hf12, hf24, hf25, hf26, hd0, hd1, hd2, (fun _ => rfl), hd4, hd5, hd6, hd7, hd8, hd9, hd10, hd11, (fun a => nT a e12), hd13, ho6, ho7, (fun _ => e2), C7_2, (fun _ => rfl), C7_6, (fun a _ _ _ => nT e2 a), (fun _ a _ _ => nG a), (fun a _ _ _ => nT e2 a), (fun _ _ _ _ => H), (fun _ a _ _ => nG a), (fun _ _ a _ => nX e6 a), (fun _ _ a _ => nX e6 a)⟩
            ·
             have H := W4 e2 hS e6 e7
             refine O.append 1 Try.underlying91 el78 rfl H rfl (H.own 6 rfl) ht9 rfl rfl rfl rfl ?_
             intro v14 w13 H
             exact WL.nil ⟨v13, v14, v15, v16, hf2, hf5, hf10, hf11, hf12, hf24, hf25, hf26, hd0, hd1, hd2, (fun _ => rfl), hd4, hd5, hd6, hd7, hd8, hd9, hd10, hd11, (fun a => nT a e12), hd13, ho6, ho7, (fun _ => e2), C7_2, (fun _ => rfl), C7_6, (fun a _ _ _ => nT e2 a), (fun _ a _ _ => nG a), (fun a _ _ _ => nT e2 a), (fun _ _ a _ => nT e6 a), (fun _ a _ _ => nG a), (fun _ _ _ _ => H), (fun _ _ _ a => nX e7 a)⟩
           ·
            rintro S f w hS - ⟨e7, e12, e13, -⟩ ⟨v13, v14, v15, v16, hf2, hf5, hf10, hf11, hf12, hf24, hf25, hf26, hd0, hd1, hd2, hd3, hd4, hd5, hd6, hd7, hd8, hd9, hd10, hd11, hd12, hd13, ho6, ho7, C3_2, C7_2, C7_3, C7_6, W0, W1, W2, W3, W4, W5, W6⟩
            have hf7 := ho7 e13
            obtain ⟨u18, rfl⟩ := up1 hf7
            rcases bool_ft (S 2) with e2 | e2
            ·
             rcases bool_ft (S 3) with e3 | e3
             ·
              rcases bool_ft (S 6) with e6 | e6
              ·
               have H := W0 e2 e3 e6 e7
               refine O.move (v := v4) rfl rfl rfl ?_
               exact WL.nil ⟨v13, v14, v15, v16, hf2, hf5, hf10, hf11, hf12, hf24, hf25, hf26, hd0, hd1, hd2, hd3, (fun _ => rfl), hd5, hd6, hd7, hd8, hd9, hd10, hd11, hd12, hd13, ho6, ho7, C3_2, C7_2, C7_3, C7_6, (fun _ _ _ _ => H), (fun a _ _ _ => nX e2 a), (fun _ _ a _ => nX e6 a), (fun a _ _ _ => nX e2 a), (fun a _ _ _ => nX e2 a), (fun a _ _ _ => nX e2 a), (fun a _ _ _ => nX e2 a)⟩
              ·
               have H := W2 e2 e3 e6 e7
               refine O.move (v := v4) rfl rfl rfl ?_
               exact WL.nil ⟨v13, v14, v15, v16, hf2, hf5, hf10, hf11, hf12, hf24, hf25, hf26, hd0, hd1, hd2, hd3, (fun _ => rfl), hd5, hd6, hd7, hd8, hd9, hd10, hd11, hd12, hd13, ho6, ho7, C3_2, C7_2, C7_3, C7_6, (fun _ _ a _ => nT e6 a), (fun a _ _ _ => nX e2 a), (fun _ _ _ _ => H), (fun a _ _ _ => nX e2 a), (fun a _ _ _ => nX e2 a), (fun a _ _ _ => nX e2 a), (fun a _ _ _ => nX e2 a)⟩
             ·
              rcases bool_ft (S 6) with e6 | e6
              ·
               exact nomatch (show true = false from (C3_2 e3).symm.trans e2)
              ·
               exact nomatch (show true = false from (C3_2 e3).symm.trans e2)
            ·
             rcases bool_ft (S 3) with e3 | e3
             ·
              rcases bool_ft (S 6) with e6 | e6
              ·
               have H := W1 e2 e3 e6 e7
               refine O.move (v := v4) rfl rfl rfl ?_
               exact WL.nil ⟨v13, v14, v15, v16, hf2, hf5, hf10, hf11, hf12, hf24, hf25, hf26, hd0, hd1, hd2, hd3, (fun _ => rfl), hd5, hd6, hd7, hd8, hd9, hd10, hd11, hd12, hd13, ho6, ho7, C3_2, C7_2, C7_3, C7_6, (fun a _ _ _ => nT e2 a), (fun _ _ _ _ => H), (fun a _ _ _ => nT e2 a), (fun _ a _ _ => nX e3 a), (fun _ _ a _ => nX e6 a), (fun _ a _ _ => nX e3 a), (fun _ a _ _ => nX e3 a)⟩
              ·
               have H := W4 e2 e3 e6 e7
               refine O.move (v := v4) rfl rfl rfl ?_
               exact WL.nil ⟨v13, v14, v15, v16, hf2, hf5, hf10, hf11, hf12, hf24, hf25, hf26, hd0, hd1, hd2, hd3, (fun _ => rfl), hd5, hd6, hd7, hd8, hd9, hd10, hd11, hd12, hd13, ho6, ho7, C3_2, C7_2, C7_3, C7_6, (fun a _ _ _ => nT e2 a), (fun _ _ a _ => nT e6 a), (fun a _ _ _ => nT e2 a), (fun _ a _ _ => nX e3 a), (fun _ _ _ _ => H), (fun _ a _ _ => nX e3 a), (fun _ a _ _ => nX e3 a)⟩
             ·
              rcases bool_ft (S 6) with e6 | e6
              ·
               have H := W3 e2 e3 e6 e7
               refine O.move (v := v4) rfl rfl rfl ?_
               exact WL.nil ⟨v13, v14, v15, v16, hf2, hf5, hf10, hf11, hf12, hf24, hf25, hf26, hd0, hd1, hd2, hd3, (fun _ => rfl), hd5, hd6, hd7, hd8, hd9, hd10, hd11, hd12, hd13, ho6, ho7, C3_2, C7_2, C7_3, C7_6, (fun a _ _ _ => nT e2 a), (fun _ a _ _ => nT e3 a), (fun a _ _ _ => nT e2 a), (fun _ _ _ _ => H), (fun _ a _ _ => nT e3 a), (fun _ _ a _ => nX e6 a), (fun _ _ a _ => nX e6 a)⟩
              ·
               have H := W5 e2 e3 e6 e7
               refine O.move (v := v4) rfl rfl rfl ?_
               exact WL.nil ⟨v13, v14, v15, v16, hf2, hf5, hf10, hf11, hf12, hf24, hf25, hf26, hd0, hd1, hd2, hd3, (fun _ => rfl), hd5, hd6, hd7, hd8, hd9, hd10, hd11, hd12, hd13, ho6, ho7, C3_2, C7_2, C7_3, C7_6, (fun a _ _ _ => nT e2 a), (fun _ a _ _ => nT e3 a), (fun a _ _ _ => nT e2 a), (fun _ _ a _ => nT e6 a), (fun _ a _ _ => nT e3 a), (fun _ _ _ _ => H), (fun _ _ _ a => nX e7 a)⟩
           ·
            rintro S f w hS - ⟨e6, e7, e12, e13, -⟩ ⟨v13, v14, v15, v16, hf2, hf5, hf10, hf11, hf12, hf24, hf25, hf26, hd0, hd1, hd2, hd3, hd4, hd5, hd6, hd7, hd8, hd9, hd10, hd11, hd12, hd13, ho6, ho7, C3_2, C7_2, C7_3, C7_6, W0, W1, W2, W3, W4, W5, W6⟩
            obtain ⟨u19, rfl⟩ := up1 hf11
            rcases bool_ft (S 2) with e2 | e2
            ·
             rcases bool_ft (S 3) with e3 | e3
             ·
              have H := W0 e2 e3 e6 e7
              refine O.loadA [(.int .i64 t6.clock), (.int .i64 t6.at_)] ag78 rfl rfl rfl rfl (H.cell 4 rfl) ?_
              exact WL.nil ⟨v13, v14, v15, v16, hf2, hf5, hf10, rfl, hf12, hf24, hf25, hf26, hd0, hd1, hd2, hd3, hd4, (fun _ => rfl), hd6, hd7, hd8, hd9, hd10, hd11, hd12, hd13, ho6, ho7, C3_2, C7_2, C7_3, C7_6, (fun _ _ _ _ => H), (fun a _ _ _ => nX e2 a), (fun _ _ a _ => nX e6 a), (fun a _ _ _ => nX e2 a), (fun a _ _ _ => nX e2 a), (fun a _ _ _ => nX e2 a), (fun a _ _ _ => nX e2 a)⟩
             ·
              exact nomatch (show true = false from (C3_2 e3).symm.trans e2)
            ·
             rcases bool_ft (S 3) with e3 | e3
             ·
              have H := W1 e2 e3 e6 e7
              refine O.loadA [(.int .i64 t6.clock), (.int .i64 t6.at_)] ag78 rfl rfl rfl rfl (H.cell 4 rfl) ?_
              exact WL.nil ⟨v13, v14, v15, v16, hf2, hf5, hf10, rfl, hf12, hf24, hf25, hf26, hd0, hd1, hd2, hd3, hd4, (fun _ => rfl), hd6, hd7, hd8, hd9, hd10, hd11, hd12, hd13, ho6, ho7, C3_2, C7_2, C7_3, C7_6, (fun a _ _ _ => nT e2 a), (fun _ _ _ _ => H), (fun a _ _ _ => nT e2 a), (fun _ a _ _ => nX e3 a), (fun _ _ a _ => nX e6 a), (fun _ a _ _ => nX e3 a), (fun _ a _ _ => nX e3 a)⟩
             ·
              have H := W3 e2 e3 e6 e7
              refine O.loadA [(.int .i64 t6.clock), (.int .i64 t6.at_)] ag78 rfl rfl rfl rfl (H.cell 4 rfl) ?_
              exact WL.nil ⟨v13, v14, v15, v16, hf2, hf5, hf10, rfl, hf12, hf24, hf25, hf26, hd0, hd1, hd2, hd3, hd4, (fun _ => rfl), hd6, hd7, hd8, hd9, hd10, hd11, hd12, hd13, ho6, ho7, C3_2, C7_2, C7_3, C7_6, (fun a _ _ _ => nT e2 a), (fun _ a _ _ => nT e3 a), (fun a _ _ _ => nT e2 a), (fun _ _ _ _ => H), (fun _ a _ _ => nT e3 a), (fun _ _ a _ => nX e6 a), (fun _ _ a _ => nX e6 a)⟩
           ·
            rintro S f w hS ⟨e5, -⟩ ⟨e7, e12, e13, -⟩ ⟨v13, v14, _, v16, hf2, hf5, hf10, hf11, hf12, hf24, hf25, hf26, hd0, hd1, hd2, hd3, hd4, hd5, hd6, hd7, hd8, hd9, hd10, hd11, hd12, hd13, ho6, ho7, C3_2, C7_2, C7_3, C7_6, W0, W1, W2, W3, W4, W5, W6⟩
            have hf62 := hd5 e5
            obtain ⟨u20, rfl⟩ := up1 hf62
            rcases bool_ft (S 2) with e2 | e2
            ·
             rcases bool_ft (S 3) with e3 | e3
             ·
              have H := W0 e2 e3 hS e7
              refine O.buildSlice (α := GPoint) [(.agg (Flat.cells t6).toArray)] [t6] Try.underlying91 el78 H rfl rfl rfl rfl rfl rfl rfl ?_
              intro v15 w14 H hb10
              refine WL.nil ?_
              have H := H.pick [0, 1, 2, 3, 4, 5, 6, 8] [boxI b1 25 [va0_0, va0_1], ownI (α := GPoint) v3 78 z5, ownI (α := GPoint) v4 78 z6, boxI b2 39 [(.int .i64 x1.At), (.int .i64 x1.A), (.int .i64 x1.B), (.int .i64 x1.Lo), (.int .i64 x1.Hi)], boxI b3 78 [(.int .i64 t6.clock), (.int .i64 t6.at_)], boxI b4 78 [(.int .i64 t7.clock), (.int .i64 t7.at_)], goneI, ownI (α := GPoint) v15 78 ([t6] : List GPoint)] rfl (by decide)
              exact ⟨v13, v14, v15, v16, hf2, hf5, hf10, hf11, hf12, hf24, hf25, hf26, hd0, hd1, hd2, hd3, hd4, hd5, (fun _ => rfl), hd7, hd8, hd9, hd10, hd11, hd12, hd13, ho6, ho7, C3_2, C7_2, C7_3, (fun _ => rfl), (fun _ _ a _ => nG a), (fun a _ _ _ => nX e2 a), (fun _ _ _ _ => H), (fun a _ _ _ => nX e2 a), (fun a _ _ _ => nX e2 a), (fun a _ _ _ => nX e2 a), (fun a _ _ _ => nX e2 a)⟩
             ·
              exact nomatch (show true = false from (C3_2 e3).symm.trans e2)
            ·
             rcases bool_ft (S 3) with e3 | e3
             ·
              have H := W1 e2 e3 hS e7
              refine O.buildSlice (α := GPoint) [(.agg (Flat.cells t6).toArray)] [t6] Try.underlying91 el78 H rfl rfl rfl rfl rfl rfl rfl ?_
              intro v15 w14 H hb10
              refine WL.nil ?_
              have H := H.pick [0, 1, 2, 3, 4, 5, 6, 8] [boxI b1 25 [va0_0, va0_1], ownI (α := GPoint) v3 78 z5, ownI (α := GPoint) v4 78 z6, boxI b2 39 [(.int .i64 x1.At), (.int .i64 x1.A), (.int .i64 x1.B), (.int .i64 x1.Lo), (.int .i64 x1.Hi)], boxI b3 78 [(.int .i64 t6.clock), (.int .i64 t6.at_)], boxI b4 78 [(.int .i64 t7.clock), (.int .i64 t7.at_)], ownI (α := GPoint) v13 78 ([t7] : List GPoint), ownI (α := GPoint) v15 78 ([t6] : List GPoint)] rfl (by decide)
              exact ⟨v13, v14, v15, v16, hf2, hf5, hf10, hf11, hf12, hf24, hf25, hf26, hd0, hd1, hd2, hd3, hd4, hd5, (fun _ => rfl), hd7, hd8, hd9, hd10, hd11, hd12, hd13, ho6, ho7, C3_2, C7_2, C7_3, (fun _ => rfl), (fun a _ _ _ => nT e2 a), (fun _ _ a _ => nG a), (fun a _ _ _ => nT e2 a), (fun _ a _ _ => nX e3 a), (fun _ _ _ _ => H), (fun _ a _ _ => nX e3 a), (fun _ a _ _ => nX e3 a)⟩
             ·
              have H := W3 e2 e3 hS e7
              refine O.buildSlice (α := GPoint) [(.agg (Flat.cells t6).toArray)] [t6] Try.underlying91 el78 H rfl rfl rfl rfl rfl rfl rfl ?_
              intro v15 w14 H hb10
              refine WL.nil ?_
              have H := H.pick [0, 1, 2, 3, 4, 5, 6, 8] [boxI b1 25 [va0_0, va0_1], ownI (α := GPoint) v14 78 t9, ownI (α := GPoint) v4 78 z6, boxI b2 39 [(.int .i64 x1.At), (.int .i64 x1.A), (.int .i64 x1.B), (.int .i64 x1.Lo), (.int .i64 x1.Hi)], boxI b3 78 [(.int .i64 t6.clock), (.int .i64 t6.at_)], boxI b4 78 [(.int .i64 t7.clock), (.int .i64 t7.at_)], ownI (α := GPoint) v13 78 ([t7] : List GPoint), ownI (α := GPoint) v15 78 ([t6] : List GPoint)] rfl (by decide)
              exact ⟨v13, v14, v15, v16, hf2, hf5, hf10, hf11, hf12, hf24, hf25, hf26, hd0, hd1, hd2, hd3, hd4, hd5, (fun _ => rfl), hd7, hd8, hd9, hd10, hd11, hd12, hd13, ho6, ho7, C3_2, C7_2, C7_3, (fun _ => rfl), (fun a _ _ _ => nT e2 a), (fun _ a _ _ => nT e3 a), (fun a _ _ _ => nT e2 a), (fun _ _ a _ => nG a), (fun _ a _ _ => nT e3 a), (fun _ _ _ _ => H), (fun _ _ _ a => nX e7 a)⟩
           ·
            rintro S f w hS ⟨e0, e1, e2, e3, e4, e5, e6, -⟩ ⟨e12, e13, -⟩ ⟨v13, v14, v15, _, hf2, hf5, hf10, hf11, hf12, hf24, hf25, hf26, hd0, hd1, hd2, hd3, hd4, hd5, hd6, hd7, hd8, hd9, hd10, hd11, hd12, hd13, ho6, ho7, C3_2, C7_2, C7_3, C7_6, W0, W1, W2, W3, W4, W5, W6⟩
            have hf61 := hd4 e4
            have hf63 := hd6 e6
            obtain ⟨u21, rfl⟩ := up2 hf61 hf63
            have H := W5 e2 e3 e6 hS
            refine O.append 2 Try.underlying91 el78 rfl H rfl (H.own 7 rfl) ht10 rfl rfl rfl rfl ?_
            intro v16 w15 H
            exact WL.nil ⟨v13, v14, v15, v16, hf2, hf5, hf10, hf11, hf12, hf24, hf25, hf26, hd0, hd1, hd2, hd3, hd4, hd5, hd6, (fun _ => rfl), hd8, hd9, hd10, hd11, hd12, (fun a => nT a e13), ho6, ho7, C3_2, (fun _ => e2), (fun _ => e3), (fun _ => e6), (fun a _ _ _ => nT e2 a), (fun _ a _ _ => nT e3 a), (fun a _ _ _ => nT e2 a), (fun _ _ a _ => nT e6 a), (fun _ a _ _ => nT e3 a), (fun _ _ _ a => nG a), (fun _ _ _ _ => H)⟩
           ·
            rintro S f w hS - ⟨e11, -⟩ ⟨v13, v14, v15, v16, hf2, hf5, hf10, hf11, hf12, hf24, hf25, hf26, hd0, hd1, hd2, hd3, hd4, hd5, hd6, hd7, hd8, hd9, hd10, hd11, hd12, hd13, ho6, ho7, C3_2, C7_2, C7_3, C7_6, W0, W1, W2, W3, W4, W5, W6⟩
            obtain ⟨u22, rfl⟩ := up1 hf5
            rcases bool_ft (S 2) with e2 | e2
            ·
             rcases bool_ft (S 3) with e3 | e3
             ·
              rcases bool_ft (S 6) with e6 | e6
              ·
               rcases bool_ft (S 7) with e7 | e7
               ·
                have H := W0 e2 e3 e6 e7
                refine O.move (v := (.int .i64 z4)) rfl rfl rfl ?_
                exact WL.nil ⟨v13, v14, v15, v16, hf2, rfl, hf10, hf11, hf12, hf24, hf25, hf26, hd0, hd1, hd2, hd3, hd4, hd5, hd6, hd7, (fun _ => rfl), hd9, hd10, hd11, hd12, hd13, ho6, ho7, C3_2, C7_2, C7_3, C7_6, (fun _ _ _ _ => H), (fun a _ _ _ => nX e2 a), (fun _ _ a _ => nX e6 a), (fun a _ _ _ => nX e2 a), (fun a _ _ _ => nX e2 a), (fun a _ _ _ => nX e2 a), (fun a _ _ _ => nX e2 a)⟩
               ·
                exact nomatch (show true = false from (C7_2 e7).symm.trans e2)
              ·
               rcases bool_ft (S 7) with e7 | e7
               ·
                have H := W2 e2 e3 e6 e7
                refine O.move (v := (.int .i64 z4)) rfl rfl rfl ?_
                exact WL.nil ⟨v13, v14, v15, v16, hf2, rfl, hf10, hf11, hf12, hf24, hf25, hf26, hd0, hd1, hd2, hd3, hd4, hd5, hd6, hd7, (fun _ => rfl), hd9, hd10, hd11, hd12, hd13, ho6, ho7, C3_2, C7_2, C7_3, C7_6, (fun _ _ a _ => nT e6 a), (fun a _ _ _ => nX e2 a), (fun _ _ _ _ => H), (fun a _ _ _ => nX e2 a), (fun a _ _ _ => nX e2 a), (fun a _ _ _ => nX e2 a), (fun a _ _ _ => nX e2 a)⟩
               ·
                exact nomatch (show true = false from (C7_2 e7).symm.trans e2)
             ·
              rcases bool_ft (S 6) with e6 | e6
              ·
               rcases bool_ft (S 7) with e7 | e7
               ·
                exact nomatch (show true = false from (C3_2 e3).symm.trans e2)
               ·
                exact nomatch (show true = false from (C3_2 e3).symm.trans e2)
              ·
               rcases bool_ft (S 7) with e7 | e7
               ·
                exact nomatch (show true = false from (C3_2 e3).symm.trans e2)
               ·
                exact nomatch (show true = false from (C3_2 e3).symm.trans e2)
            ·
             rcases bool_ft (S 3) with e3 | e3
             ·
              rcases bool_ft (S 6) with e6 | e6
              ·
               rcases bool_ft (S 7) with e7 | e7
               ·
                have H := W1 e2 e3 e6 e7
                refine O.move (v := (.int .i64 z4)) rfl rfl rfl ?_
                exact WL.nil ⟨v13, v14, v15, v16, hf2, rfl, hf10, hf11, hf12, hf24, hf25, hf26, hd0, hd1, hd2, hd3, hd4, hd5, hd6, hd7, (fun _ => rfl), hd9, hd10, hd11, hd12, hd13, ho6, ho7, C3_2, C7_2, C7_3, C7_6, (fun a _ _ _ => nT e2 a), (fun _ _ _ _ => H), (fun a _ _ _ => nT e2 a), (fun _ a _ _ => nX e3 a), (fun _ _ a _ => nX e6 a), (fun _ a _ _ => nX e3 a), (fun _ a _ _ => nX e3 a)⟩
               ·
                exact nomatch (show true = false from (C7_3 e7).symm.trans e3)
              ·
               rcases bool_ft (S 7) with e7 | e7
               ·
                have H := W4 e2 e3 e6 e7
                refine O.move (v := (.int .i64 z4)) rfl rfl rfl ?_
                exact WL.nil ⟨v13, v14, v15, v16, hf2, rfl, hf10, hf11, hf12, hf24, hf25, hf26, hd0, hd1, hd2, hd3, hd4, hd5, hd6, hd7, (fun _ => rfl), hd9, hd10, hd11, hd12, hd13, ho6, ho7, C3_2, C7_2, C7_3, C7_6, (fun a _ _ _ => nT e2 a), (fun _ _ a _ => nT e6 a), (fun a _ _ _ => nT e2 a), (fun _ a _ _ => nX e3 a), (fun _ _ _ _ => H), (fun _ a _ _ => nX e3 a), (fun _ a _ _ => nX e3 a)⟩
               ·
                exact nomatch (show true = false from (C7_3 e7).symm.trans e3)
             ·
              rcases bool_ft (S 6) with e6 | e6
              ·
               rcases bool_ft (S 7) with e7 | e7
               ·
                have H := W3 e2 e3 e6 e7
                refine O.move (v := (.int .i64 z4)) rfl rfl rfl ?_
                exact WL.nil ⟨v13, v14, v15, v16, hf2, rfl, hf10, hf11, hf12, hf24, hf25, hf26, hd0, hd1, hd2, hd3, hd4, hd5, hd6, hd7, (fun _ => rfl), hd9, hd10, hd11, hd12, hd13, ho6, ho7, C3_2, C7_2, C7_3, C7_6, (fun a _ _ _ => nT e2 a), (fun _ a _ _ => nT e3 a), (fun a _ _ _ => nT e2 a), (fun _ _ _ _ => H), (fun _ a _ _ => nT e3 a), (fun _ _ a _ => nX e6 a), (fun _ _ a _ => nX e6 a)⟩
               ·
                exact nomatch (show true = false from (C7_6 e7).symm.trans e6)
              ·
               rcases bool_ft (S 7) with e7 | e7
               ·
                have H := W5 e2 e3 e6 e7
                refine O.move (v := (.int .i64 z4)) rfl rfl rfl ?_
                exact WL.nil ⟨v13, v14, v15, v16, hf2, rfl, hf10, hf11, hf12, hf24, hf25, hf26, hd0, hd1, hd2, hd3, hd4, hd5, hd6, hd7, (fun _ => rfl), hd9, hd10, hd11, hd12, hd13, ho6, ho7, C3_2, C7_2, C7_3, C7_6, (fun a _ _ _ => nT e2 a), (fun _ a _ _ => nT e3 a), (fun a _ _ _ => nT e2 a), (fun _ _ a _ => nT e6 a), (fun _ a _ _ => nT e3 a), (fun _ _ _ _ => H), (fun _ _ _ a => nX e7 a)⟩
               ·
                have H := W6 e2 e3 e6 e7
                refine O.move (v := (.int .i64 z4)) rfl rfl rfl ?_
                exact WL.nil ⟨v13, v14, v15, v16, hf2, rfl, hf10, hf11, hf12, hf24, hf25, hf26, hd0, hd1, hd2, hd3, hd4, hd5, hd6, hd7, (fun _ => rfl), hd9, hd10, hd11, hd12, hd13, ho6, ho7, C3_2, C7_2, C7_3, C7_6, (fun a _ _ _ => nT e2 a), (fun _ a _ _ => nT e3 a), (fun a _ _ _ => nT e2 a), (fun _ _ a _ => nT e6 a), (fun _ a _ _ => nT e3 a), (fun _ _ _ a => nT e7 a), (fun _ _ _ _ => H)⟩
           ·
            rintro S f w hS - ⟨e10, e11, -⟩ ⟨v13, v14, v15, v16, hf2, hf5, hf10, hf11, hf12, hf24, hf25, hf26, hd0, hd1, hd2, hd3, hd4, hd5, hd6, hd7, hd8, hd9, hd10, hd11, hd12, hd13, ho6, ho7, C3_2, C7_2, C7_3, C7_6, W0, W1, W2, W3, W4, W5, W6⟩
            obtain ⟨u23, rfl⟩ := up1 hf10
            rcases bool_ft (S 2) with e2 | e2
            ·
             rcases bool_ft (S 3) with e3 | e3
             ·
              rcases bool_ft (S 6) with e6 | e6
              ·
               rcases bool_ft (S 7) with e7 | e7
               ·
                have H := W0 e2 e3 e6 e7
                refine O.fieldAddr fd39_4 rfl rfl rfl ?_
                exact WL.nil ⟨v13, v14, v15, v16, hf2, hf5, rfl, hf11, hf12, hf24, hf25, hf26, hd0, hd1, hd2, hd3, hd4, hd5, hd6, hd7, hd8, (fun _ => rfl), hd10, hd11, hd12, hd13, ho6, ho7, C3_2, C7_2, C7_3, C7_6, (fun _ _ _ _ => H), (fun a _ _ _ => nX e2 a), (fun _ _ a _ => nX e6 a), (fun a _ _ _ => nX e2 a), (fun a _ _ _ => nX e2 a), (fun a _ _ _ => nX e2 a), (fun a _ _ _ => nX e2 a)⟩
               ·
                exact nomatch (show true = false from (C7_2 e7).symm.trans e2)
              ·
               rcases bool_ft (S 7) with e7 | e7
               ·
                have H := W2 e2 e3 e6 e7
                refine O.fieldAddr fd39_4 rfl rfl rfl ?_
                exact WL.nil ⟨v13, v14, v15, v16, hf2, hf5, rfl, hf11, hf12, hf24, hf25, hf26, hd0, hd1, hd2, hd3, hd4, hd5, hd6, hd7, hd8, (fun _ => rfl), hd10, hd11, hd12, hd13, ho6, ho7, C3_2, C7_2, C7_3, C7_6, (fun _ _ a _ => nT e6 a), (fun a _ _ _ => nX e2 a), (fun _ _ _ _ => H), (fun a _ _ _ => nX e2 a), (fun a _ _ _ => nX e2 a), (fun a _ _ _ => nX e2 a), (fun a _ _ _ => nX e2 a)⟩
               ·
                exact nomatch (show true = false from (C7_2 e7).symm.trans e2)
             ·
              rcases bool_ft (S 6) with e6 | e6
              ·
               rcases bool_ft (S 7) with e7 | e7
               ·
                exact nomatch (show true = false from (C3_2 e3).symm.trans e2)
               ·
                exact nomatch (show true = false from (C3_2 e3).symm.trans e2)
              ·
               rcases bool_ft (S 7) with e7 | e7
               ·
                exact nomatch (show true = false from (C3_2 e3).symm.trans e2)
               ·
                exact nomatch (show true = false from (C3_2 e3).symm.trans e2)
            ·
             rcases bool_ft (S 3) with e3 | e3
             ·
              rcases bool_ft (S 6) with e6 | e6
              ·
               rcases bool_ft (S 7) with e7 | e7
               ·
                have H := W1 e2 e3 e6 e7
                refine O.fieldAddr fd39_4 rfl rfl rfl ?_
                exact WL.nil ⟨v13, v14, v15, v16, hf2, hf5, rfl, hf11, hf12, hf24, hf25, hf26, hd0, hd1, hd2, hd3, hd4, hd5, hd6, hd7, hd8, (fun _ => rfl), hd10, hd11, hd12, hd13, ho6, ho7, C3_2, C7_2, C7_3, C7_6, (fun a _ _ _ => nT e2 a), (fun _ _ _ _ => H), (fun a _ _ _ => nT e2 a), (fun _ a _ _ => nX e3 a), (fun _ _ a _ => nX e6 a), (fun _ a _ _ => nX e3 a), (fun _ a _ _ => nX e3 a)⟩
               ·
                exact nomatch (show true = false from (C7_3 e7).symm.trans e3)
              ·
               rcases bool_ft (S 7) with e7 | e7
               ·
                have H := W4 e2 e3 e6 e7
                refine O.fieldAddr fd39_4 rfl rfl rfl ?_
                exact WL.nil ⟨v13, v14, v15, v16, hf2, hf5, rfl, hf11, hf12, hf24, hf25, hf26, hd0, hd1, hd2, hd3, hd4, hd5, hd6, hd7, hd8, (fun _ => rfl), hd10, hd11, hd12, hd13, ho6, ho7, C3_2, C7_2, C7_3, C7_6, (fun a _ _ _ => nT e2 a), (fun _ _ a _ => nT e6 a), (fun a _ _ _ => nT e2 a), (fun _ a _ _ => nX e3 a), (fun _ _ _ _ => H), (fun _ a _ _ => nX e3 a), (fun _ a _ _ => nX e3 a)⟩
               ·
                exact nomatch (show true = false from (C7_3 e7).symm.trans e3)
             ·
              rcases bool_ft (S 6) with e6 | e6
              ·
               rcases bool_ft (S 7) with e7 | e7
               ·
                have H := W3 e2 e3 e6 e7
                refine O.fieldAddr fd39_4 rfl rfl rfl ?_
                exact WL.nil ⟨v13, v14, v15, v16, hf2, hf5, rfl, hf11, hf12, hf24, hf25, hf26, hd0, hd1, hd2, hd3, hd4, hd5, hd6, hd7, hd8, (fun _ => rfl), hd10, hd11, hd12, hd13, ho6, ho7, C3_2, C7_2, C7_3, C7_6, (fun a _ _ _ => nT e2 a), (fun _ a _ _ => nT e3 a), (fun a _ _ _ => nT e2 a), (fun _ _ _ _ => H), (fun _ a _ _ => nT e3 a), (fun _ _ a _ => nX e6 a), (fun _ _ a _ => nX e6 a)⟩
               ·
                exact nomatch (show true = false from (C7_6 e7).symm.trans e6)
              ·
               rcases bool_ft (S 7) with e7 | e7
               ·
                have H := W5 e2 e3 e6 e7
                refine O.fieldAddr fd39_4 rfl rfl rfl ?_
                exact WL.nil ⟨v13, v14, v15, v16, hf2, hf5, rfl, hf11, hf12, hf24, hf25, hf26, hd0, hd1, hd2, hd3, hd4, hd5, hd6, hd7, hd8, (fun _ => rfl), hd10, hd11, hd12, hd13, ho6, ho7, C3_2, C7_2, C7_3, C7_6, (fun a _ _ _ => nT e2 a), (fun _ a _ _ => nT e3 a), (fun a _ _ _ => nT e2 a), (fun _ _ a _ => nT e6 a), (fun _ a _ _ => nT e3 a), (fun _ _ _ _ => H), (fun _ _ _ a => nX e7 a)⟩
               ·
                have H := W6 e2 e3 e6 e7
                refine O.fieldAddr fd39_4 rfl rfl rfl ?_
                exact WL.nil ⟨v13, v14, v15, v16, hf2, hf5, rfl, hf11, hf12, hf24, hf25, hf26, hd0, hd1, hd2, hd3, hd4, hd5, hd6, hd7, hd8, (fun _ => rfl), hd10, hd11, hd12, hd13, ho6, ho7, C3_2, C7_2, C7_3, C7_6, (fun a _ _ _ => nT e2 a), (fun _ a _ _ => nT e3 a), (fun a _ _ _ => nT e2 a), (fun _ _ a _ => nT e6 a), (fun _ a _ _ => nT e3 a), (fun _ _ _ a => nT e7 a), (fun _ _ _ _ => H)⟩
           ·
            rintro S f w hS ⟨e9, -⟩ ⟨e11, -⟩ ⟨v13, v14, v15, v16, hf2, hf5, hf10, hf11, hf12, hf24, hf25, hf26, hd0, hd1, hd2, hd3, hd4, hd5, hd6, hd7, hd8, hd9, hd10, hd11, hd12, hd13, ho6, ho7, C3_2, C7_2, C7_3, C7_6, W0, W1, W2, W3, W4, W5, W6⟩
            have hf66 := hd9 e9
            obtain ⟨u24, rfl⟩ := up1 hf66
            rcases bool_ft (S 2) with e2 | e2
            ·
             rcases bool_ft (S 3) with e3 | e3
             ·
              rcases bool_ft (S 6) with e6 | e6
              ·
               rcases bool_ft (S 7) with e7 | e7
               ·
                have H := W0 e2 e3 e6 e7
                refine O.load sc3 rfl rfl rfl (H.cell 3 rfl 4 _ rfl) ?_
                exact WL.nil ⟨v13, v14, v15, v16, hf2, hf5, hf10, hf11, hf12, hf24, hf25, hf26, hd0, hd1, hd2, hd3, hd4, hd5, hd6, hd7, hd8, hd9, (fun _ => rfl), hd11, hd12, hd13, ho6, ho7, C3_2, C7_2, C7_3, C7_6, (fun _ _ _ _ => H), (fun a _ _ _ => nX e2 a), (fun _ _ a _ => nX e6 a), (fun a _ _ _ => nX e2 a), (fun a _ _ _ => nX e2 a), (fun a _ _ _ => nX e2 a), (fun a _ _ _ => nX e2 a)⟩
               ·
                exact nomatch (show true = false from (C7_2 e7).symm.trans e2)
              ·
               rcases bool_ft (S 7) with e7 | e7
               ·
                have H := W2 e2 e3 e6 e7
                refine O.load sc3 rfl rfl rfl (H.cell 3 rfl 4 _ rfl) ?_
                exact WL.nil ⟨v13, v14, v15, v16, hf2, hf5, hf10, hf11, hf12, hf24, hf25, hf26, hd0, hd1, hd2, hd3, hd4, hd5, hd6, hd7, hd8, hd9, (fun _ => rfl), hd11, hd12, hd13, ho6, ho7, C3_2, C7_2, C7_3, C7_6, (fun _ _ a _ => nT e6 a), (fun a _ _ _ => nX e2 a), (fun _ _ _ _ => H), (fun a _ _ _ => nX e2 a), (fun a _ _ _ => nX e2 a), (fun a _ _ _ => nX e2 a), (fun a _ _ _ => nX e2 a)⟩
               ·
                exact nomatch (show true = false from (C7_2 e7).symm.trans e2)
             ·
              rcases bool_ft (S 6) with e6 | e6
              ·
               rcases bool_ft (S 7) with e7 | e7
               ·
                exact nomatch (show true = false from (C3_2 e3).symm.trans e2)
               ·
                exact nomatch (show true = false from (C3_2 e3).symm.trans e2)
              ·
               rcases bool_ft (S 7) with e7 | e7
               ·
                exact nomatch (show true = false from (C3_2 e3).symm.trans e2)
               ·
                exact nomatch (show true = false from (C3_2 e3).symm.trans e2)
            ·
             rcases bool_ft (S 3) with e3 | e3
             ·
              rcases bool_ft (S 6) with e6 | e6
              ·
               rcases bool_ft (S 7) with e7 | e7
               ·
                have H := W1 e2 e3 e6 e7
                refine O.load sc3 rfl rfl rfl (H.cell 3 rfl 4 _ rfl) ?_
                exact WL.nil ⟨v13, v14, v15, v16, hf2, hf5, hf10, hf11, hf12, hf24, hf25, hf26, hd0, hd1, hd2, hd3, hd4, hd5, hd6, hd7, hd8, hd9, (fun _ => rfl), hd11, hd12, hd13, ho6, ho7, C3_2, C7_2, C7_3, C7_6, (fun a _ _ _ => nT e2 a), (fun _ _ _ _ => H), (fun a _ _ _ => nT e2 a), (fun _ a _ _ => nX e3 a), (fun _ _ a _ => nX e6 a), (fun _ a _ _ => nX e3 a), (fun _ a _ _ => nX e3 a)⟩
               ·
                exact nomatch (show true = false from (C7_3 e7).symm.trans e3)
              ·
               rcases bool_ft (S 7) with e7 | e7
               ·
                have H := W4 e2 e3 e6 e7
                refine O.load sc3 rfl rfl rfl (H.cell 3 rfl 4 _ rfl) ?_
                exact WL.nil ⟨v13, v14, v15, v16, hf2, hf5, hf10, hf11, hf12, hf24, hf25, hf26, hd0, hd1, hd2, hd3, hd4, hd5, hd6, hd7, hd8, hd9, (fun _ => rfl), hd11, hd12, hd13, ho6, ho7, C3_2, C7_2, C7_3, C7_6, (fun a _ _ _ => nT e2 a), (fun _ _ a _ => nT e6 a), (fun a _ _ _ => nT e2 a), (fun _ a _ _ => nX e3 a), (fun _ _ _ _ => H), (fun _ a _ _ => nX e3 a), (fun _ a _ _ => nX e3 a)⟩
               ·
                exact nomatch (show true = false from (C7_3 e7).symm.trans e3)
             ·
              rcases bool_ft (S 6) with e6 | e6
              ·
               rcases bool_ft (S 7) with e7 | e7
               ·
                have H := W3 e2 e3 e6 e7
                refine O.load sc3 rfl rfl rfl (H.cell 3 rfl 4 _ rfl) ?_
                exact WL.nil ⟨v13, v14, v15, v16, hf2, hf5, hf10, hf11, hf12, hf24, hf25, hf26, hd0, hd1, hd2, hd3, hd4, hd5, hd6, hd7, hd8, hd9, (fun _ => rfl), hd11, hd12, hd13, ho6, ho7, C3_2, C7_2, C7_3, C7_6, (fun a _ _ _ => nT e2 a), (fun _ a _ _ => nT e3 a), (fun a _ _ _ => nT e2 a), (fun _ _ _ _ => H), (fun _ a _ _ => nT e3 a), (fun _ _ a _ => nX e6 a), (fun _ _ a _ => nX e6 a)⟩
               ·
                exact nomatch (show true = false from (C7_6 e7).symm.trans e6)
              ·
               rcases bool_ft (S 7) with e7 | e7
               ·
                have H := W5 e2 e3 e6 e7
                refine O.load sc3 rfl rfl rfl (H.cell 3 rfl 4 _ rfl) ?_
                exact WL.nil ⟨v13, v14, v15, v16, hf2, hf5, hf10, hf11, hf12, hf24, hf25, hf26, hd0, hd1, hd2, hd3, hd4, hd5, hd6, hd7, hd8, hd9, (fun _ => rfl), hd11, hd12, hd13, ho6, ho7, C3_2, C7_2, C7_3, C7_6, (fun a _ _ _ => nT e2 a), (fun _ a _ _ => nT e3 a), (fun a _ _ _ => nT e2 a), (fun _ _ a _ => nT e6 a), (fun _ a _ _ => nT e3 a), (fun _ _ _ _ => H), (fun _ _ _ a => nX e7 a)⟩
               ·
                have H := W6 e2 e3 e6 e7
                refine O.load sc3 rfl rfl rfl (H.cell 3 rfl 4 _ rfl) ?_
                exact WL.nil ⟨v13, v14, v15, v16, hf2, hf5, hf10, hf11, hf12, hf24, hf25, hf26, hd0, hd1, hd2, hd3, hd4, hd5, hd6, hd7, hd8, hd9, (fun _ => rfl), hd11, hd12, hd13, ho6, ho7, C3_2, C7_2, C7_3, C7_6, (fun a _ _ _ => nT e2 a), (fun _ a _ _ => nT e3 a), (fun a _ _ _ => nT e2 a), (fun _ _ a _ => nT e6 a), (fun _ a _ _ => nT e3 a), (fun _ _ _ a => nT e7 a), (fun _ _ _ _ => H)⟩
           ·
            rintro S f w hS ⟨e8, e9, e10, -⟩ - ⟨v13, v14, v15, v16, hf2, hf5, hf10, hf11, hf12, hf24, hf25, hf26, hd0, hd1, hd2, hd3, hd4, hd5, hd6, hd7, hd8, hd9, hd10, hd11, hd12, hd13, ho6, ho7, C3_2, C7_2, C7_3, C7_6, W0, W1, W2, W3, W4, W5, W6⟩
            have hf65 := hd8 e8
            have hf67 := hd10 e10
            obtain ⟨u25, rfl⟩ := up2 hf65 hf67
            rcases bool_ft (S 2) with e2 | e2
            ·
             rcases bool_ft (S 3) with e3 | e3
             ·
              rcases bool_ft (S 6) with e6 | e6
              ·
               rcases bool_ft (S 7) with e7 | e7
               ·
                have H := W0 e2 e3 e6 e7
                refine O.add rfl rfl rfl rfl ht11 ?_
                exact WL.nil ⟨v13, v14, v15, v16, hf2, hf5, hf10, hf11, hf12, hf24, hf25, hf26, hd0, hd1, hd2, hd3, hd4, hd5, hd6, hd7, hd8, hd9, hd10, (fun _ => rfl), hd12, hd13, ho6, ho7, C3_2, C7_2, C7_3, C7_6, (fun _ _ _ _ => H), (fun a _ _ _ => nX e2 a), (fun _ _ a _ => nX e6 a), (fun a _ _ _ => nX e2 a), (fun a _ _ _ => nX e2 a), (fun a _ _ _ => nX e2 a), (fun a _ _ _ => nX e2 a)⟩
               ·
                exact nomatch (show true = false from (C7_2 e7).symm.trans e2)
              ·
               rcases bool_ft (S 7) with e7 | e7
               ·
                have H := W2 e2 e3 e6 e7
                refine O.add rfl rfl rfl rfl ht11 ?_
                exact WL.nil ⟨v13, v14, v15, v16, hf2, hf5, hf10, hf11, hf12, hf24, hf25, hf26, hd0, hd1, hd2, hd3, hd4, hd5, hd6, hd7, hd8, hd9, hd10, (fun _ => rfl), hd12, hd13, ho6, ho7, C3_2, C7_2, C7_3, C7_6, (fun _ _ a _ => nT e6 a), (fun a _ _ _ => nX e2 a), (fun _ _ _ _ => H), (fun a _ _ _ => nX e2 a), (fun a _ _ _ => nX e2 a), (fun a _ _ _ => nX e2 a), (fun a _ _ _ => nX e2 a)⟩
               ·
                exact nomatch (show true = false from (C7_2 e7).symm.trans e2)
             ·
              rcases bool_ft (S 6) with e6 | e6
              ·
               rcases bool_ft (S 7) with e7 | e7
               ·
                exact nomatch (show true = false from (C3_2 e3).symm.trans e2)
               ·
                exact nomatch (show true = false from (C3_2 e3).symm.trans e2)
              ·
               rcases bool_ft (S 7) with e7 | e7
               ·
                exact nomatch (show true = false from (C3_2 e3).symm.trans e2)
               ·
                exact nomatch (show true = false from (C3_2 e3).symm.trans e2)
            ·
             rcases bool_ft (S 3) with e3 | e3
             ·
              rcases bool_ft (S 6) with e6 | e6
              ·
               rcases bool_ft (S 7) with e7 | e7
               ·
                have H := W1 e2 e3 e6 e7
                refine O.add rfl rfl rfl rfl ht11 ?_
                exact WL.nil ⟨v13, v14, v15, v16, hf2, hf5, hf10, hf11, hf12, hf24, hf25, hf26, hd0, hd1, hd2, hd3, hd4, hd5, hd6, hd7, hd8, hd9, hd10, (fun _ => rfl), hd12, hd13, ho6, ho7, C3_2, C7_2, C7_3, C7_6, (fun a _ _ _ => nT e2 a), (fun _ _ _ _ => H), (fun a _ _ _ => nT e2 a), (fun _ a _ _ => nX e3 a), (fun _ _ a _ => nX e6 a), (fun _ a _ _ => nX e3 a), (fun _ a _ _ => nX e3 a)⟩
               ·
                exact nomatch (show true = false from (C7_3 e7).symm.trans e3)
              ·
               rcases bool_ft (S 7) with e7 | e7
               ·
                have H := W4 e2 e3 e6 e7
                refine O.add rfl rfl rfl rfl ht11 ?_
                exact WL.nil ⟨v13, v14, v15, v16, hf2, hf5, hf10, hf11, hf12, hf24, hf25, hf26, hd0, hd1, hd2, hd3, hd4, hd5, hd6, hd7, hd8, hd9, hd10, (fun _ => rfl), hd12, hd13, ho6, ho7, C3_2, C7_2, C7_3, C7_6, (fun a _ _ _ => nT e2 a), (fun _ _ a _ => nT e6 a), (fun a _ _ _ => nT e2 a), (fun _ a _ _ => nX e3 a), (fun _ _ _ _ => H), (fun _ a _ _ => nX e3 a), (fun _ a _ _ => nX e3 a)⟩
               ·
                exact nomatch (show true = false from (C7_3 e7).symm.trans e3)
             ·
              rcases bool_ft (S 6) with e6 | e6
              ·
               rcases bool_ft (S 7) with e7 | e7
               ·
                have H := W3 e2 e3 e6 e7
                refine O.add rfl rfl rfl rfl ht11 ?_
                exact WL.nil ⟨v13, v14, v15, v16, hf2, hf5, hf10, hf11, hf12, hf24, hf25, hf26, hd0, hd1, hd2, hd3, hd4, hd5, hd6, hd7, hd8, hd9, hd10, (fun _ => rfl), hd12, hd13, ho6, ho7, C3_2, C7_2, C7_3, C7_6, (fun a _ _ _ => nT e2 a), (fun _ a _ _ => nT e3 a), (fun a _ _ _ => nT e2 a), (fun _ _ _ _ => H), (fun _ a _ _ => nT e3 a), (fun _ _ a _ => nX e6 a), (fun _ _ a _ => nX e6 a)⟩
               ·
                exact nomatch (show true = false from (C7_6 e7).symm.trans e6)
              ·
               rcases bool_ft (S 7) with e7 | e7
               ·
                have H := W5 e2 e3 e6 e7
                refine O.add rfl rfl rfl rfl ht11 ?_
                exact WL.nil ⟨v13, v14, v15, v16, hf2, hf5, hf10, hf11, hf12, hf24, hf25, hf26, hd0, hd1, hd2, hd3, hd4, hd5, hd6, hd7, hd8, hd9, hd10, (fun _ => rfl), hd12, hd13, ho6, ho7, C3_2, C7_2, C7_3, C7_6, (fun a _ _ _ => nT e2 a), (fun _ a _ _ => nT e3 a), (fun a _ _ _ => nT e2 a), (fun _ _ a _ => nT e6 a), (fun _ a _ _ => nT e3 a), (fun _ _ _ _ => H), (fun _ _ _ a => nX e7 a)⟩
               ·
                have H := W6 e2 e3 e6 e7
                refine O.add rfl rfl rfl rfl ht11 ?_
                exact WL.nil ⟨v13, v14, v15, v16, hf2, hf5, hf10, hf11, hf12, hf24, hf25, hf26, hd0, hd1, hd2, hd3, hd4, hd5, hd6, hd7, hd8, hd9, hd10, (fun _ => rfl), hd12, hd13, ho6, ho7, C3_2, C7_2, C7_3, C7_6, (fun a _ _ _ => nT e2 a), (fun _ a _ _ => nT e3 a), (fun a _ _ _ => nT e2 a), (fun _ _ a _ => nT e6 a), (fun _ a _ _ => nT e3 a), (fun _ _ _ a => nT e7 a), (fun _ _ _ _ => H)⟩
           ·
            rintro S f w hS ⟨e0, e1, e2, e3, e4, e5, e6, e7, -⟩ ⟨e13, -⟩ ⟨v13, v14, v15, v16, hf2, hf5, hf10, hf11, hf12, hf24, hf25, hf26, hd0, hd1, hd2, hd3, hd4, hd5, hd6, hd7, hd8, hd9, hd10, hd11, hd12, hd13, ho6, t⟩
            have hf60 := hd3 e3
            obtain ⟨u26, rfl⟩ := up1 hf60
            have H := t.2.2.2.2.2.2.2.2.2.2.2 e2 e3 e6 e7
            refine O.assign (v := v14) rfl rfl rfl ?_
            exact WL.nil ⟨v13, v14, v15, v16, hf2, hf5, hf10, hf11, hf12, hf24, hf25, hf26, hd0, hd1, hd2, hd3, hd4, hd5, hd6, hd7, hd8, hd9, hd10, hd11, (fun _ => rfl), hd13, nG, t⟩
           ·
            rintro S f w hS ⟨e0, e1, e2, e3, e4, e5, e6, e7, e12, -⟩ - ⟨v13, v14, v15, v16, hf2, hf5, hf10, hf11, hf12, hf24, hf25, hf26, hd0, hd1, hd2, hd3, hd4, hd5, hd6, hd7, hd8, hd9, hd10, hd11, hd12, hd13, ho6, ho7, t⟩
            have hf64 := hd7 e7
            obtain ⟨u27, rfl⟩ := up1 hf64
            have H := t.2.2.2.2.2.2.2.2.2.2 e2 e3 e6 e7
            refine O.assign (v := v16) rfl rfl rfl ?_
            exact WL.nil ⟨v13, v14, v15, v16, hf2, hf5, hf10, hf11, hf12, hf24, hf25, hf26, hd0, hd1, hd2, hd3, hd4, hd5, hd6, hd7, hd8, hd9, hd10, hd11, hd12, (fun _ => rfl), ho6, nG, t⟩
          ·
           rintro S f w ⟨e0, e1, e2, e3, e4, e5, e6, e7, e8, e9, e10, e11, e12, e13, -⟩ ⟨v13, v14, v15, v16, hf2, hf5, hf10, hf11, hf12, hf24, hf25, hf26, hd0, hd1, hd2, hd3, hd4, hd5, hd6, hd7, hd8, hd9, hd10, hd11, hd12, hd13, ho6, ho7, C3_2, C7_2, C7_3, C7_6, W0, W1, W2, W3, W4, W5, W6⟩
           have hf6 := hd12 e12
           have hf7 := hd13 e13
           have hf68 := hd11 e11
           have H := W6 e2 e3 e6 e7
           obtain ⟨u28, rfl⟩ := up7 hf2 hf6 hf7 hf24 hf25 hf26 hf68
           refine O.assign (v := (.int .i64 t11)) rfl rfl rfl ?_
           refine WL.nil ?_
           have H := H.keep [0, 1, 2] [boxI b1 25 [va0_0, va0_1], ownI (α := GPoint) v14 78 t9, ownI (α := GPoint) v16 78 t10] rfl (by decide)
           have hq : (t11, t9, t10) = (s7, s8, s9) := Option.some.inj (show some (t11, t9, t10) = some (s7, s8, s9) from hm4)
           obtain ⟨he0, hq0⟩ := Prod.mk.inj hq; clear hq; subst he0
           obtain ⟨he1, hq1⟩ := Prod.mk.inj hq0; clear hq0; subst he1
           subst hq1
           exact ⟨v14, v16, rfl, rfl, rfl, rfl, rfl, rfl, rfl, H⟩
         ·
          refine W.cond_false (congrArg Value.bool hc4) ?_
          obtain ⟨t12, ht12, hm4⟩ := bind_some hm4
          obtain ⟨t13, ht13, hm4⟩ := bind_some hm4
          obtain ⟨t14, ht14, hm4⟩ := bind_some hm4
          have H := H.addGone
          have H := H.addGone
          refine W.drawD 14 [[], [], [1], [0, 1, 2], [], [], [5], [0, 1, 2, 3, 4, 5, 6], [], [], [9], [8, 9, 10], [0, 1, 2, 3, 4, 5, 6, 7], [0, 1, 2, 3, 4, 5, 6, 7, 12]] [[3, 7, 12, 13], [2, 3, 7, 12, 13], [3, 7, 12, 13], [7, 12, 13], [7, 12, 13], [6, 7, 12, 13], [7, 12, 13], [12, 13], [11], [10, 11], [11], [], [13], []] (fun S f w => ∃ v17 : Value, ∃ v18 : Value, ∃ v19 : Value, ∃ v20 : Value, f 2 = (.pointer (some ⟨b1, 0, none⟩)) ∧ f 5 = (.int .i64 z4) ∧ f 10 = (.pointer (some ⟨b2, 0, none⟩)) ∧ f 11 = (.pointer (some ⟨b3, 0, none⟩)) ∧ f 12 = (.pointer (some ⟨b4, 0, none⟩)) ∧ f 24 = va1 ∧ f 25 = (.int .i64 ((a1.length : Nat) : Int)) ∧ f 26 = (.int .i64 (ik1 : Int)) ∧ (S 0 = true → f 69 = v3) ∧ (S 1 = true → f 70 = (.agg (Flat.cells t6).toArray)) ∧ (S 2 = true → f 71 = v17) ∧ (S 3 = true → f 72 = v18) ∧ (S 4 = true → f 73 = v4) ∧ (S 5 = true → f 74 = (.agg (Flat.cells t7).toArray)) ∧ (S 6 = true → f 75 = v19) ∧ (S 7 = true → f 76 = v20) ∧ (S 8 = true → f 77 = (.int .i64 z4)) ∧ (S 9 = true → f 78 = (.pointer (some (Addr.add (Addr.mk b2 0 none) 3)))) ∧ (S 10 = true → f 79 = (.int .i64 x1.Lo)) ∧ (S 11 = true → f 80 = (.int .i64 t14)) ∧ (S 12 = true → f 6 = v18) ∧ (S 13 = true → f 7 = v20) ∧ (S 12 = false → f 6 = v3) ∧ (S 13 = false → f 7 = v4) ∧ (S 3 = true → S 2 = true) ∧ (S 7 = true → S 2 = true) ∧ (S 7 = true → S 3 = true) ∧ (S 7 = true → S 6 = true) ∧ (S 2 = false → S 3 = false → S 6 = false → S 7 = false → Inv w0 w [boxI b1 25 [va0_0, va0_1], ownI (α := GPoint) v3 78 z5, ownI (α := GPoint) v4 78 z6, boxI b2 39 [(.int .i64 x1.At), (.int .i64 x1.A), (.int .i64 x1.B), (.int .i64 x1.Lo), (.int .i64 x1.Hi)], boxI b3 78 [(.int .i64 t6.clock), (.int .i64 t6.at_)], boxI b4 78 [(.int .i64 t7.clock), (.int .i64 t7.at_)], goneI, goneI]) ∧ (S 2 = true → S 3 = false → S 6 = false → S 7 = false → Inv w0 w [boxI b1 25 [va0_0, va0_1], ownI (α := GPoint) v3 78 z5, ownI (α := GPoint) v4 78 z6, boxI b2 39 [(.int .i64 x1.At), (.int .i64 x1.A), (.int .i64 x1.B), (.int .i64 x1.Lo), (.int .i64 x1.Hi)], boxI b3 78 [(.int .i64 t6.clock), (.int .i64 t6.at_)], boxI b4 78 [(.int .i64 t7.clock), (.int .i64 t7.at_)], ownI (α := GPoint) v17 78 ([t6] : List GPoint), goneI]) ∧ (S 2 = false → S 3 = false → S 6 = true → S 7 = false → Inv w0 w [boxI b1 25 [va0_0, va0_1], ownI (α := GPoint) v3 78 z5, ownI (α := GPoint) v4 78 z6, boxI b2 39 [(.int .i64 x1.At), (.int .i64 x1.A), (.int .i64 x1.B), (.int .i64 x1.Lo), (.int .i64 x1.Hi)], boxI b3 78 [(.int .i64 t6.clock), (.int .i64 t6.at_)], boxI b4 78 [(.int .i64 t7.clock), (.int .i64 t7.at_)], goneI, ownI (α := GPoint) v19 78 ([t7] : List GPoint)]) ∧ (S 2 = true → S 3 = true → S 6 = false → S 7 = false → Inv w0 w [boxI b1 25 [va0_0, va0_1], ownI (α := GPoint) v18 78 t12, ownI (α := GPoint) v4 78 z6, boxI b2 39 [(.int .i64 x1.At), (.int .i64 x1.A), (.int .i64 x1.B), (.int .i64 x1.Lo), (.int .i64 x1.Hi)], boxI b3 78 [(.int .i64 t6.clock), (.int .i64 t6.at_)], boxI b4 78 [(.int .i64 t7.clock), (.int .i64 t7.at_)], ownI (α := GPoint) v17 78 ([t6] : List GPoint), goneI]) ∧ (S 2 = true → S 3 = false → S 6 = true → S 7 = false → Inv w0 w [boxI b1 25 [va0_0, va0_1], ownI (α := GPoint) v3 78 z5, ownI (α := GPoint) v4 78 z6, boxI b2 39 [(.int .i64 x1.At), (.int .i64 x1.A), (.int .i64 x1.B), (.int .i64 x1.Lo), (.int .i64 x1.Hi)], boxI b3 78 [(.int .i64 t6.clock), (.int .i64 t6.at_)], boxI b4 78 [(.int .i64 t7.clock), (.int .i64 t7.at_)], ownI (α := GPoint) v17 78 ([t6] : List GPoint), ownI (α := GPoint) v19 78 ([t7] : List GPoint)]) ∧ (S 2 = true → S 3 = true → S 6 = true → S 7 = false → Inv w0 w [boxI b1 25 [va0_0, va0_1], ownI (α := GPoint) v18 78 t12, ownI (α := GPoint) v4 78 z6, boxI b2 39 [(.int .i64 x1.At), (.int .i64 x1.A), (.int .i64 x1.B), (.int .i64 x1.Lo), (.int .i64 x1.Hi)], boxI b3 78 [(.int .i64 t6.clock), (.int .i64 t6.at_)], boxI b4 78 [(.int .i64 t7.clock), (.int .i64 t7.at_)], ownI (α := GPoint) v17 78 ([t6] : List GPoint), ownI (α := GPoint) v19 78 ([t7] : List GPoint)]) ∧ (S 2 = true → S 3 = true → S 6 = true → S 7 = true → Inv w0 w [boxI b1 25 [va0_0, va0_1], ownI (α := GPoint) v18 78 t12, ownI (α := GPoint) v20 78 t13, boxI b2 39 [(.int .i64 x1.At), (.int .i64 x1.A), (.int .i64 x1.B), (.int .i64 x1.Lo), (.int .i64 x1.Hi)], boxI b3 78 [(.int .i64 t6.clock), (.int .i64 t6.at_)], boxI b4 78 [(.int .i64 t7.clock), (.int .i64 t7.at_)], ownI (α := GPoint) v17 78 ([t6] : List GPoint), ownI (α := GPoint) v19 78 ([t7] : List GPoint)])) fol (by kernel_rfl) ?_ ?_ ?_
          ·
           exact fun d _ => ⟨.nilFunc, .nilFunc, .nilFunc, .nilFunc, rfl, rfl, rfl, rfl, rfl, rfl, rfl, rfl, nF, nF, nF, nF, nF, nF, nF, nF, nF, nF, nF, nF, nF, nF, (fun _ => rfl), (fun _ => rfl), nF, nF, nF, nF, (fun _ _ _ _ => H.ext (below_drawn d)), (fun a _ _ _ => nF a), (fun _ _ a _ => nF a), (fun a _ _ _ => nF a), (fun a _ _ _ => nF a), (fun a _ _ _ => nF a), (fun a _ _ _ => nF a)⟩
          ·
           refine ⟨?_, ⟨?_, ⟨?_, ⟨?_, ⟨?_, ⟨?_, ⟨?_, ⟨?_, ⟨?_, ⟨?_, ⟨?_, ⟨?_, ⟨?_, ⟨?_, trivial⟩⟩⟩⟩⟩⟩⟩⟩⟩⟩⟩⟩⟩⟩
           ·
            rintro S f w hS - ⟨e3, e7, e12, e13, -⟩ ⟨v17, v18, v19, v20, hf2, hf5, hf10, hf11, hf12, hf24, hf25, hf26, hd0, hd1, hd2, hd3, hd4, hd5, hd6, hd7, hd8, hd9, hd10, hd11, hd12, hd13, ho6, ho7, C3_2, C7_2, C7_3, C7_6, W0, W1, W2, W3, W4, W5, W6⟩
            have hf6 := ho6 e12
            obtain ⟨u29, rfl⟩ := up1 hf6
            rcases bool_ft (S 2) with e2 | e2
            ·
             rcases bool_ft (S 6) with e6 | e6
             ·
              have H := W0 e2 e3 e6 e7
              refine O.move (v := v3) rfl rfl rfl ?_
              exact WL.nil ⟨v17, v18, v19, v20, hf2, hf5, hf10, hf11, hf12, hf24, hf25, hf26, (fun _ => rfl), hd1, hd2, hd3, hd4, hd5, hd6, hd7, hd8, hd9, hd10, hd11, hd12, hd13, ho6, ho7, C3_2, C7_2, C7_3, C7_6, (fun _ _ _ _ => H), (fun a _ _ _ => nX e2 a), (fun _ _ a _ => nX e6 a), (fun a _ _ _ => nX e2 a), (fun a _ _ _ => nX e2 a), (fun a _ _ _ => nX e2 a), (fun a _ _ _ => nX e2 a)⟩
             ·
              have H := W2 e2 e3 e6 e7
              refine O.move (v := v3) rfl rfl rfl ?_
              exact WL.nil ⟨v17, v18, v19, v20, hf2, hf5, hf10, hf11, hf12, hf24, hf25, hf26, (fun _ => rfl), hd1, hd2, hd3, hd4, hd5, hd6, hd7, hd8, hd9, hd10, hd11, hd12, hd13, ho6, ho7, C3_2, C7_2, C7_3, C7_6, (fun _ _ a _ => nT e6 a), (fun a _ _ _ => nX e2 a), (fun _ _ _ _ => H), (fun a _ _ _ => nX e2 a), (fun a _ _ _ => nX e2 a), (fun a _ _ _ => nX e2 a), (fun a _ _ _ => nX e2 a)⟩
            ·
             rcases bool_ft (S 6) with e6 | e6
             ·
              have H := W1 e2 e3 e6 e7
              refine O.move (v := v3) rfl rfl rfl ?_
              exact WL.nil ⟨v17, v18, v19, v20, hf2, hf5, hf10, hf11, hf12, hf24, hf25, hf26, (fun _ => rfl), hd1, hd2, hd3, hd4, hd5, hd6, hd7, hd8, hd9, hd10, hd11, hd12, hd13, ho6, ho7, C3_2, C7_2, C7_3, C7_6, (fun a _ _ _ => nT e2 a), (fun _ _ _ _ => H), (fun a _ _ _ => nT e2 a), (fun _ a _ _ => nX e3 a), (fun _ _ a _ => nX e6 a), (fun _ a _ _ => nX e3 a), (fun _ a _ _ => nX e3 a)⟩
             ·
              have H := W4 e2 e3 e6 e7
              refine O.move (v := v3) rfl rfl rfl ?_
              exact WL.nil ⟨v17, v18, v19, v20, hf2, hf5, hf10, hf11, hf12, hf24, hf25, hf26, (fun _ => rfl), hd1, hd2, hd3, hd4, hd5, hd6, hd7, hd8, hd9, hd10, hd11, hd12, hd13, ho6, ho7, C3_2, C7_2, C7_3, C7_6, (fun a _ _ _ => nT e2 a), (fun _ _ a _ => nT e6 a), (fun a _ _ _ => nT e2 a), (fun _ a _ _ => nX e3 a), (fun _ _ _ _ => H), (fun _ a _ _ => nX e3 a), (fun _ a _ _ => nX e3 a)⟩
           ·
            rintro S f w hS - ⟨e2, e3, e7, e12, e13, -⟩ ⟨v17, v18, v19, v20, hf2, hf5, hf10, hf11, hf12, hf24, hf25, hf26, hd0, hd1, hd2, hd3, hd4, hd5, hd6, hd7, hd8, hd9, hd10, hd11, hd12, hd13, ho6, ho7, C3_2, C7_2, C7_3, C7_6, W0, W1, W2, W3, W4, W5, W6⟩
            obtain ⟨u30, rfl⟩ := up1 hf11
            rcases bool_ft (S 6) with e6 | e6
            ·
             have H := W0 e2 e3 e6 e7
             refine O.loadA [(.int .i64 t6.clock), (.int .i64 t6.at_)] ag78 rfl rfl rfl rfl (H.cell 4 rfl) ?_
             exact WL.nil ⟨v17, v18, v19, v20, hf2, hf5, hf10, rfl, hf12, hf24, hf25, hf26, hd0, (fun _ => rfl), hd2, hd3, hd4, hd5, hd6, hd7, hd8, hd9, hd10, hd11, hd12, hd13, ho6, ho7, C3_2, C7_2, C7_3, C7_6, (fun _ _ _ _ => H), (fun a _ _ _ => nX e2 a), (fun _ _ a _ => nX e6 a), (fun a _ _ _ => nX e2 a), (fun a _ _ _ => nX e2 a), (fun a _ _ _ => nX e2 a), (fun a _ _ _ => nX e2 a)⟩
            ·
             have H := W2 e2 e3 e6 e7
             refine O.loadA [(.int .i64 t6.clock), (.int .i64 t6.at_)] ag78 rfl rfl rfl rfl (H.cell 4 rfl) ?_
             exact WL.nil ⟨v17, v18, v19, v20, hf2, hf5, hf10, rfl, hf12, hf24, hf25, hf26, hd0, (fun _ => rfl), hd2, hd3, hd4, hd5, hd6, hd7, hd8, hd9, hd10, hd11, hd12, hd13, ho6, ho7, C3_2, C7_2, C7_3, C7_6, (fun _ _ a _ => nT e6 a), (fun a _ _ _ => nX e2 a), (fun _ _ _ _ => H), (fun a _ _ _ => nX e2 a), (fun a _ _ _ => nX e2 a), (fun a _ _ _ => nX e2 a), (fun a _ _ _ => nX e2 a)⟩
           ·
            rintro S f w hS ⟨e1, -⟩ ⟨e3, e7, e12, e13, -⟩ ⟨_, v18, v19, v20, hf2, hf5, hf10, hf11, hf12, hf24, hf25, hf26, hd0, hd1, hd2, hd3, hd4, hd5, hd6, hd7, hd8, hd9, hd10, hd11, hd12, hd13, ho6, ho7, C3_2, C7_2, C7_3, C7_6, W0, W1, W2, W3, W4, W5, W6⟩
            have hf70 := hd1 e1
            obtain ⟨u31, rfl⟩ := up1 hf70
            rcases bool_ft (S 6) with e6 | e6
            ·
             have H := W0 hS e3 e6 e7
             refine O.buildSlice (α := GPoint) [(.agg (Flat.cells t6).toArray)] [t6] Try.underlying91 el78 H rfl rfl rfl rfl rfl rfl rfl ?_
             intro v17 w16 H hb11
             refine WL.nil ?_
             have H := H.pick [0, 1, 2, 3, 4, 5, 8, 7] [boxI b1 25 [va0_0, va0_1], ownI (α := GPoint) v3 78 z5, ownI (α := GPoint) v4 78 z6, boxI b2 39 [(.int .i64 x1.At), (.int .i64 x1.A), (.int .i64 x1.B), (.int .i64 x1.Lo), (.int .i64 x1.Hi)], boxI b3 78 [(.int .i64 t6.clock), (.int .i64 t6.at_)], boxI b4 78 [(.int .i64 t7.clock), (.int .i64 t7.at_)], ownI (α := GPoint) v17 78 ([t6] : List GPoint), goneI] rfl (by decide)
             exact ⟨v17, v18, v19, v20, hf2, hf5, hf10, hf11, hf12, hf24, hf25, hf26, hd0, hd1, (fun _ => rfl), hd3, hd4, hd5, hd6, hd7, hd8, hd9, hd10, hd11, hd12, hd13, ho6, ho7, (fun _ => rfl), (fun _ => rfl), C7_3, C7_6, (fun a _ _ _ => nG a), (fun _ _ _ _ => H), (fun a _ _ _ => nG a), (fun _ a _ _ => nX e3 a), (fun _ _ a _ => nX e6 a), (fun _ a _ _ => nX e3 a), (fun _ a _ _ => nX e3 a)⟩
            ·
             have H := W2 hS e3 e6 e7
             refine O.buildSlice (α := GPoint) [(.agg (Flat.cells t6).toArray)] [t6] Try.underlying91 el78 H rfl rfl rfl rfl rfl rfl rfl ?_
             intro v17 w16 H hb11
             refine WL.nil ?_
             have H := H.pick [0, 1, 2, 3, 4, 5, 8, 7] [boxI b1 25 [va0_0, va0_1], ownI (α := GPoint) v3 78 z5, ownI (α := GPoint) v4 78 z6, boxI b2 39 [(.int .i64 x1.At), (.int .i64 x1.A), (.int .i64 x1.B), (.int .i64 x1.Lo), (.int .i64 x1.Hi)], boxI b3 78 [(.int .i64 t6.clock), (.int .i64 t6.at_)], boxI b4 78 [(.int .i64 t7.clock), (.int .i64 t7.at_)], ownI (α := GPoint) v17 78 ([t6] : List GPoint), ownI (α := GPoint) v19 78 ([t7] : List GPoint)] rfl (by decide)
             exact ⟨v17, v18, v19, v20, hf2, hf5, hf10, hf11, hf12, hf24, hf25, hf26, hd0, hd1, (fun _ => rfl), hd3, hd4, hd5, hd6, hd7, hd8, hd9, hd10, hd11, hd12, hd13, ho6, ho7, (fun _ => rfl), (fun _ => rfl), C7_3, C7_6, (fun a _ _ _ => nG a), (fun _ _ a _ => nT e6 a), (fun a _ _ _ => nG a), (fun _ a _ _ => nX e3 a), (fun _ _ _ _ => H), (fun _ a _ _ => nX e3 a), (fun _ a _ _ => nX e3 a)⟩
           ·
            rintro S f w hS ⟨e0, e1, e2, -⟩ ⟨e7, e12, e13, -⟩ ⟨v17, _, v19, v20, hf2, hf5, hf10, hf11, hf12, hf24, hf25, hf26, hd0, hd1, hd2, hd3, hd4, hd5, hd6, hd7, hd8, hd9, hd10, hd11, hd12, hd13, ho6, ho7, C3_2, C7_2, C7_3, C7_6, W0, W1, W2, W3, W4, W5, W6⟩
            have hf69 := hd0 e0
            have hf71 := hd2 e2
            obtain ⟨u32, rfl⟩ := up2 hf69 hf71
            rcases bool_ft (S 6) with e6 | e6
            ·
             have H := W1 e2 hS e6 e7
             refine O.append 1 Try.underlying91 el78 rfl H rfl (H.own 6 rfl) ht12 rfl rfl rfl rfl ?_
             intro v18 w17 H
             exact WL.nil ⟨v17, v18, v19, v20, hf2, hf5, hf10, hf11, hf12, hf24, hf25, hf26, hd0, hd1, hd2, (fun _ => rfl), hd4, hd5, hd6, hd7, hd8, hd9, hd10, hd11, (fun a => nT a e12), hd13, ho6, ho7, (fun _ => e2), C7_2, (fun _ => rfl), C7_6, (fun a _ _ _ => nT e2 a), (fun _ a _ _ => nG a), (fun a _ _ _ => nT e2 a), (fun _ _ _ _ => H), (fun _ a _ _ => nG a), (fun _ _ a _ => nX e6 a), (fun _ _ a _ => nX e6 a)⟩
            ·
             have H := W4 e2 hS e6 e7
             refine O.append 1 Try.underlying91 el78 rfl H rfl (H.own 6 rfl) ht12 rfl rfl rfl rfl ?_
             intro v18 w17 H
             exact WL.nil ⟨v17, v18, v19, v20, hf2, hf5, hf10, hf11, hf12, hf24, hf25, hf26, hd0, hd1, hd2, (fun _ => rfl), hd4, hd5, hd6, hd7, hd8, hd9, hd10, hd11, (fun a => nT a e12), hd13, ho6, ho7, (fun _ => e2), C7_2, (fun _ => rfl), C7_6, (fun a _ _ _ => nT e2 a), (fun _ a _ _ => nG a), (fun a _ _ _ => nT e2 a), (fun _ _ a _ => nT e6 a), (fun _ a _ _ => nG a), (fun _ _ _ _ => H), (fun _ _ _ a => nX e7 a)⟩
           ·
            rintro S f w hS - ⟨e7, e12, e13, -⟩ ⟨v17, v18, v19, v20, hf2, hf5, hf10, hf11, hf12, hf24, hf25, hf26, hd0, hd1, hd2, hd3, hd4, hd5, hd6, hd7, hd8, hd9, hd10, hd11, hd12, hd13, ho6, ho7, C3_2, C7_2, C7_3, C7_6, W0, W1, W2, W3, W4, W5, W6⟩
            have hf7 := ho7 e13
            obtain ⟨u33, rfl⟩ := up1 hf7
            rcases bool_ft (S 2) with e2 | e2
            ·
             rcases bool_ft (S 3) with e3 | e3
             ·
              rcases bool_ft (S 6) with e6 | e6
              ·
               have H := W0 e2 e3 e6 e7
               refine O.move (v := v4) rfl rfl rfl ?_
               exact WL.nil ⟨v17, v18, v19, v20, hf2, hf5, hf10, hf11, hf12, hf24, hf25, hf26, hd0, hd1, hd2, hd3, (fun _ => rfl), hd5, hd6, hd7, hd8, hd9, hd10, hd11, hd12, hd13, ho6, ho7, C3_2, C7_2, C7_3, C7_6, (fun _ _ _ _ => H), (fun a _ _ _ => nX e2 a), (fun _ _ a _ => nX e6 a), (fun a _ _ _ => nX e2 a), (fun a _ _ _ => nX e2 a), (fun a _ _ _ => nX e2 a), (fun a _ _ _ => nX e2 a)⟩
              ·
               have H := W2 e2 e3 e6 e7
               refine O.move (v := v4) rfl rfl rfl ?_
               exact WL.nil ⟨v17, v18, v19, v20, hf2, hf5, hf10, hf11, hf12, hf24, hf25, hf26, hd0, hd1, hd2, hd3, (fun _ => rfl), hd5, hd6, hd7, hd8, hd9, hd10, hd11, hd12, hd13, ho6, ho7, C3_2, C7_2, C7_3, C7_6, (fun _ _ a _ => nT e6 a), (fun a _ _ _ => nX e2 a), (fun _ _ _ _ => H), (fun a _ _ _ => nX e2 a), (fun a _ _ _ => nX e2 a), (fun a _ _ _ => nX e2 a), (fun a _ _ _ => nX e2 a)⟩
             ·
              rcases bool_ft (S 6) with e6 | e6
              ·
               exact nomatch (show true = false from (C3_2 e3).symm.trans e2)
              ·
               exact nomatch (show true = false from (C3_2 e3).symm.trans e2)
            ·
             rcases bool_ft (S 3) with e3 | e3
             ·
              rcases bool_ft (S 6) with e6 | e6
              ·
               have H := W1 e2 e3 e6 e7
               refine O.move (v := v4) rfl rfl rfl ?_
               exact WL.nil ⟨v17, v18, v19, v20, hf2, hf5, hf10, hf11, hf12, hf24, hf25, hf26, hd0, hd1, hd2, hd3, (fun _ => rfl), hd5, hd6, hd7, hd8, hd9, hd10, hd11, hd12, hd13, ho6, ho7, C3_2, C7_2, C7_3, C7_6, (fun a _ _ _ => nT e2 a), (fun _ _ _ _ => H), (fun a _ _ _ => nT e2 a), (fun _ a _ _ => nX e3 a), (fun _ _ a _ => nX e6 a), (fun _ a _ _ => nX e3 a), (fun _ a _ _ => nX e3 a)⟩
              ·
               have H := W4 e2 e3 e6 e7
               refine O.move (v := v4) rfl rfl rfl ?_
               exact WL.nil ⟨v17, v18, v19, v20, hf2, hf5, hf10, hf11, hf12, hf24, hf25, hf26, hd0, hd1, hd2, hd3, (fun _ => rfl), hd5, hd6, hd7, hd8, hd9, hd10, hd11, hd12, hd13, ho6, ho7, C3_2, C7_2, C7_3, C7_6, (fun a _ _ _ => nT e2 a), (fun _ _ a _ => nT e6 a), (fun a _ _ _ => nT e2 a), (fun _ a _ _ => nX e3 a), (fun _ _ _ _ => H), (fun _ a _ _ => nX e3 a), (fun _ a _ _ => nX e3 a)⟩
             ·
              rcases bool_ft (S 6) with e6 | e6
              ·
               have H := W3 e2 e3 e6 e7
               refine O.move (v := v4) rfl rfl rfl ?_
               exact WL.nil ⟨v17, v18, v19, v20, hf2, hf5, hf10, hf11, hf12, hf24, hf25, hf26, hd0, hd1, hd2, hd3, (fun _ => rfl), hd5, hd6, hd7, hd8, hd9, hd10, hd11, hd12, hd13, ho6, ho7, C3_2, C7_2, C7_3, C7_6, (fun a _ _ _ => nT e2 a), (fun _ a _ _ => nT e3 a), (fun a _ _ _ => nT e2 a), (fun _ _ _ _ => H), (fun _ a _ _ => nT e3 a), (fun _ _ a _ => nX e6 a), (fun _ _ a _ => nX e6 a)⟩
              ·
               have H := W5 e2 e3 e6 e7
               refine O.move (v := v4) rfl rfl rfl ?_
               exact WL.nil ⟨v17, v18, v19, v20, hf2, hf5, hf10, hf11, hf12, hf24, hf25, hf26, hd0, hd1, hd2, hd3, (fun _ => rfl), hd5, hd6, hd7, hd8, hd9, hd10, hd11, hd12, hd13, ho6, ho7, C3_2, C7_2, C7_3, C7_6, (fun a _ _ _ => nT e2 a), (fun _ a _ _ => nT e3 a), (fun a _ _ _ => nT e2 a), (fun _ _ a _ => nT e6 a), (fun _ a _ _ => nT e3 a), (fun _ _ _ _ => H), (fun _ _ _ a => nX e7 a)⟩
           ·
            rintro S f w hS - ⟨e6, e7, e12, e13, -⟩ ⟨v17, v18, v19, v20, hf2, hf5, hf10, hf11, hf12, hf24, hf25, hf26, hd0, hd1, hd2, hd3, hd4, hd5, hd6, hd7, hd8, hd9, hd10, hd11, hd12, hd13, ho6, ho7, C3_2, C7_2, C7_3, C7_6, W0, W1, W2, W3, W4, W5, W6⟩
            obtain ⟨u34, rfl⟩ := up1 hf12
            rcases bool_ft (S 2) with e2 | e2
            ·
             rcases bool_ft (S 3) with e3 | e3
             ·
              have H := W0 e2 e3 e6 e7
              refine O.loadA [(.int .i64 t7.clock), (.int .i64 t7.at_)] ag78 rfl rfl rfl rfl (H.cell 5 rfl) ?_
              exact WL.nil ⟨v17, v18, v19, v20, hf2, hf5, hf10, hf11, rfl, hf24, hf25, hf26, hd0, hd1, hd2, hd3, hd4, (fun _ => rfl), hd6, hd7, hd8, hd9, hd10, hd11, hd12, hd13, ho6, ho7, C3_2, C7_2, C7_3, C7_6, (fun _ _ _ _ => H), (fun a _ _ _ => nX e2 a), (fun _ _ a _ => nX e6 a), (fun a _ _ _ => nX e2 a), (fun a _ _ _ => nX e2 a), (fun a _ _ _ => nX e2 a), (fun a _ _ _ => nX e2 a)⟩
             ·
              exact nomatch (show true = false from (C3_2 e3).symm.trans e2)
            ·
             rcases bool_ft (S 3) with e3 | e3
             ·
              have H := W1 e2 e3 e6 e7
              refine O.loadA [(.int .i64 t7.clock), (.int .i64 t7.at_)] ag78 rfl rfl rfl rfl (H.cell 5 rfl) ?_
              exact WL.nil ⟨v17, v18, v19, v20, hf2, hf5, hf10, hf11, rfl, hf24, hf25, hf26, hd0, hd1, hd2, hd3, hd4, (fun _ => rfl), hd6, hd7, hd8, hd9, hd10, hd11, hd12, hd13, ho6, ho7, C3_2, C7_2, C7_3, C7_6, (fun a _ _ _ => nT e2 a), (fun _ _ _ _ => H), (fun a _ _ _ => nT e2 a), (fun _ a _ _ => nX e3 a), (fun _ _ a _ => nX e6 a), (fun _ a _ _ => nX e3 a), (fun _ a _ _ => nX e3 a)⟩
             ·
              have H := W3 e2 e3 e6 e7
              refine O.loadA [(.int .i64 t7.clock), (.int .i64 t7.at_)] ag78 rfl rfl rfl rfl (H.cell 5 rfl) ?_
              exact WL.nil ⟨v17, v18, v19, v20, hf2, hf5, hf10, hf11, rfl, hf24, hf25, hf26, hd0, hd1, hd2, hd3, hd4, (fun _ => rfl), hd6, hd7, hd8, hd9, hd10, hd11, hd12, hd13, ho6, ho7, C3_2, C7_2, C7_3, C7_6, (fun a _ _ _ => nT e2 a), (fun _ a _ _ => nT e3 a), (fun a _ _ _ => nT e2 a), (fun _ _ _ _ => H), (fun _ a _ _ => nT e3 a), (fun _ _ a _ => nX e6 a), (fun _ _ a _ => nX e6 a)⟩
           ·
            rintro S f w hS ⟨e5, -⟩ ⟨e7, e12, e13, -⟩ ⟨v17, v18, _, v20, hf2, hf5, hf10, hf11, hf12, hf24, hf25, hf26, hd0, hd1, hd2, hd3, hd4, hd5, hd6, hd7, hd8, hd9, hd10, hd11, hd12, hd13, ho6, ho7, C3_2, C7_2, C7_3, C7_6, W0, W1, W2, W3, W4, W5, W6⟩
            have hf74 := hd5 e5
            obtain ⟨u35, rfl⟩ := up1 hf74
            rcases bool_ft (S 2) with e2 | e2
            ·
             rcases bool_ft (S 3) with e3 | e3
             ·
              have H := W0 e2 e3 hS e7
              refine O.buildSlice (α := GPoint) [(.agg (Flat.cells t7).toArray)] [t7] Try.underlying91 el78 H rfl rfl rfl rfl rfl rfl rfl ?_
              intro v19 w18 H hb12
              refine WL.nil ?_
              have H := H.pick [0, 1, 2, 3, 4, 5, 6, 8] [boxI b1 25 [va0_0, va0_1], ownI (α := GPoint) v3 78 z5, ownI (α := GPoint) v4 78 z6, boxI b2 39 [(.int .i64 x1.At), (.int .i64 x1.A), (.int .i64 x1.B), (.int .i64 x1.Lo), (.int .i64 x1.Hi)], boxI b3 78 [(.int .i64 t6.clock), (.int .i64 t6.at_)], boxI b4 78 [(.int .i64 t7.clock), (.int .i64 t7.at_)], goneI, ownI (α := GPoint) v19 78 ([t7] : List GPoint)] rfl (by decide)
              exact ⟨v17, v18, v19, v20, hf2, hf5, hf10, hf11, hf12, hf24, hf25, hf26, hd0, hd1, hd2, hd3, hd4, hd5, (fun _ => rfl), hd7, hd8, hd9, hd10, hd11, hd12, hd13, ho6, ho7, C3_2, C7_2, C7_3, (fun _ => rfl), (fun _ _ a _ => nG a), (fun a _ _ _ => nX e2 a), (fun _ _ _ _ => H), (fun a _ _ _ => nX e2 a), (fun a _ _ _ => nX e2 a), (fun a _ _ _ => nX e2 a), (fun a _ _ _ => nX e2 a)⟩
             ·
              exact nomatch (show true = false from (C3_2 e3).symm.trans e2)
            ·
             rcases bool_ft (S 3) with e3 | e3
             ·
              have H := W1 e2 e3 hS e7
              refine O.buildSlice (α := GPoint) [(.agg (Flat.cells t7).toArray)] [t7] Try.underlying91 el78 H rfl rfl rfl rfl rfl rfl rfl ?_
              intro v19 w18 H hb12
              refine WL.nil ?_
              have H := H.pick [0, 1, 2, 3, 4, 5, 6, 8] [boxI b1 25 [va0_0, va0_1], ownI (α := GPoint) v3 78 z5, ownI (α := GPoint) v4 78 z6, boxI b2 39 [(.int .i64 x1.At), (.int .i64 x1.A), (.int .i64 x1.B), (.int .i64 x1.Lo), (.int .i64 x1.Hi)], boxI b3 78 [(.int .i64 t6.clock), (.int .i64 t6.at_)], boxI b4 78 [(.int .i64 t7.clock), (.int .i64 t7.at_)], ownI (α := GPoint) v17 78 ([t6] : List GPoint), ownI (α := GPoint) v19 78 ([t7] : List GPoint)] rfl (by decide)
              exact ⟨v17, v18, v19, v20, hf2, hf5, hf10, hf11, hf12, hf24, hf25, hf26, hd0, hd1, hd2, hd3, hd4, hd5, (fun _ => rfl), hd7, hd8, hd9, hd10, hd11, hd12, hd13, ho6, ho7, C3_2, C7_2, C7_3, (fun _ => rfl), (fun a _ _ _ => nT e2 a), (fun _ _ a _ => nG a), (fun a _ _ _ => nT e2 a), (fun _ a _ _ => nX e3 a), (fun _ _ _ _ => H), (fun _ a _ _ => nX e3 a), (fun _ a _ _ => nX e3 a)⟩
             ·
              have H := W3 e2 e3 hS e7
              refine O.buildSlice (α := GPoint) [(.agg (Flat.cells t7).toArray)] [t7] Try.underlying91 el78 H rfl rfl rfl rfl rfl rfl rfl ?_
              intro v19 w18 H hb12
              refine WL.nil ?_
              have H := H.pick [0, 1, 2, 3, 4, 5, 6, 8] [boxI b1 25 [va0_0, va0_1], ownI (α := GPoint) v18 78 t12, ownI (α := GPoint) v4 78 z6, boxI b2 39 [(.int .i64 x1.At), (.int .i64 x1.A), (.int .i64 x1.B), (.int .i64 x1.Lo), (.int .i64 x1.Hi)], boxI b3 78 [(.int .i64 t6.clock), (.int .i64 t6.at_)], boxI b4 78 [(.int .i64 t7.clock), (.int .i64 t7.at_)], ownI (α := GPoint) v17 78 ([t6] : List GPoint), ownI (α := GPoint) v19 78 ([t7] : List GPoint)] rfl (by decide)
              exact ⟨v17, v18, v19, v20, hf2, hf5, hf10, hf11, hf12, hf24, hf25, hf26, hd0, hd1, hd2, hd3, hd4, hd5, (fun _ => rfl), hd7, hd8, hd9, hd10, hd11, hd12, hd13, ho6, ho7, C3_2, C7_2, C7_3, (fun _ => rfl), (fun a _ _ _ => nT e2 a), (fun _ a _ _ => nT e3 a), (fun a _ _ _ => nT e2 a), (fun _ _ a _ => nG a), (fun _ a _ _ => nT e3 a), (fun _ _ _ _ => H), (fun _ _ _ a => nX e7 a)⟩
           ·
            rintro S f w hS ⟨e0, e1, e2, e3, e4, e5, e6, -⟩ ⟨e12, e13, -⟩ ⟨v17, v18, v19, _, hf2, hf5, hf10, hf11, hf12, hf24, hf25, hf26, hd0, hd1, hd2, hd3, hd4, hd5, hd6, hd7, hd8, hd9, hd10, hd11, hd12, hd13, ho6, ho7, C3_2, C7_2, C7_3, C7_6, W0, W1, W2, W3, W4, W5, W6⟩
            have hf73 := hd4 e4
            have hf75 := hd6 e6
            obtain ⟨u36, rfl⟩ := up2 hf73 hf75
            have H := W5 e2 e3 e6 hS
            refine O.append 2 Try.underlying91 el78 rfl H rfl (H.own 7 rfl) ht13 rfl rfl rfl rfl ?_
            intro v20 w19 H
            exact WL.nil ⟨v17, v18, v19, v20, hf2, hf5, hf10, hf11, hf12, hf24, hf25, hf26, hd0, hd1, hd2, hd3, hd4, hd5, hd6, (fun _ => rfl), hd8, hd9, hd10, hd11, hd12, (fun a => nT a e13), ho6, ho7, C3_2, (fun _ => e2), (fun _ => e3), (fun _ => e6), (fun a _ _ _ => nT e2 a), (fun _ a _ _ => nT e3 a), (fun a _ _ _ => nT e2 a), (fun _ _ a _ => nT e6 a), (fun _ a _ _ => nT e3 a), (fun _ _ _ a => nG a), (fun _ _ _ _ => H)⟩
           ·
            rintro S f w hS - ⟨e11, -⟩ ⟨v17, v18, v19, v20, hf2, hf5, hf10, hf11, hf12, hf24, hf25, hf26, hd0, hd1, hd2, hd3, hd4, hd5, hd6, hd7, hd8, hd9, hd10, hd11, hd12, hd13, ho6, ho7, C3_2, C7_2, C7_3, C7_6, W0, W1, W2, W3, W4, W5, W6⟩
            obtain ⟨u37, rfl⟩ := up1 hf5
            rcases bool_ft (S 2) with e2 | e2
            ·
             rcases bool_ft (S 3) with e3 | e3
             ·
              rcases bool_ft (S 6) with e6 | e6
              ·
               rcases bool_ft (S 7) with e7 | e7
               ·
                have H := W0 e2 e3 e6 e7
                refine O.move (v := (.int .i64 z4)) rfl rfl rfl ?_
                exact WL.nil ⟨v17, v18, v19, v20, hf2, rfl, hf10, hf11, hf12, hf24, hf25, hf26, hd0, hd1, hd2, hd3, hd4, hd5, hd6, hd7, (fun _ => rfl), hd9, hd10, hd11, hd12, hd13, ho6, ho7, C3_2, C7_2, C7_3, C7_6, (fun _ _ _ _ => H), (fun a _ _ _ => nX e2 a), (fun _ _ a _ => nX e6 a), (fun a _ _ _ => nX e2 a), (fun a _ _ _ => nX e2 a), (fun a _ _ _ => nX e2 a), (fun a _ _ _ => nX e2 a)⟩
               ·
                exact nomatch (show true = false from (C7_2 e7).symm.trans e2)
              ·
               rcases bool_ft (S 7) with e7 | e7
               ·
                have H := W2 e2 e3 e6 e7
                refine O.move (v := (.int .i64 z4)) rfl rfl rfl ?_
                exact WL.nil ⟨v17, v18, v19, v20, hf2, rfl, hf10, hf11, hf12, hf24, hf25, hf26, hd0, hd1, hd2, hd3, hd4, hd5, hd6, hd7, (fun _ => rfl), hd9, hd10, hd11, hd12, hd13, ho6, ho7, C3_2, C7_2, C7_3, C7_6, (fun _ _ a _ => nT e6 a), (fun a _ _ _ => nX e2 a), (fun _ _ _ _ => H), (fun a _ _ _ => nX e2 a), (fun a _ _ _ => nX e2 a), (fun a _ _ _ => nX e2 a), (fun a _ _ _ => nX e2 a)⟩
               ·
                exact nomatch (show true = false from (C7_2 e7).symm.trans e2)
             ·
              rcases bool_ft (S 6) with e6 | e6
              ·
               rcases bool_ft (S 7) with e7 | e7
               ·
                exact nomatch (show true = false from (C3_2 e3).symm.trans e2)
               ·
                exact nomatch (show true = false from (C3_2 e3).symm.trans e2)
              ·
               rcases bool_ft (S 7) with e7 | e7
               ·
                exact nomatch (show true = false from (C3_2 e3).symm.trans e2)
               ·
                exact nomatch (show true = false from (C3_2 e3).symm.trans e2)
            ·
             rcases bool_ft (S 3) with e3 | e3
             ·
              rcases bool_ft (S 6) with e6 | e6
              ·
               rcases bool_ft (S 7) with e7 | e7
               ·
                have H := W1 e2 e3 e6 e7
                refine O.move (v := (.int .i64 z4)) rfl rfl rfl ?_
                exact WL.nil ⟨v17, v18, v19, v20, hf2, rfl, hf10, hf11, hf12, hf24, hf25, hf26, hd0, hd1, hd2, hd3, hd4, hd5, hd6, hd7, (fun _ => rfl), hd9, hd10, hd11, hd12, hd13, ho6, ho7, C3_2, C7_2, C7_3, C7_6, (fun a _ _ _ => nT e2 a), (fun _ _ _ _ => H), (fun a _ _ _ => nT e2 a), (fun _ a _ _ => nX e3 a), (fun _ _ a _ => nX e6 a), (fun _ a _ _ => nX e3 a), (fun _ a _ _ => nX e3 a)⟩
               ·
                exact nomatch (show true = false from (C7_3 e7).symm.trans e3)
              ·
               rcases bool_ft (S 7) with e7 | e7
               ·
                have H := W4 e2 e3 e6 e7
                refine O.move (v := (.int .i64 z4)) rfl rfl rfl ?_
                exact WL.nil ⟨v17, v18, v19, v20, hf2, rfl, hf10, hf11, hf12, hf24, hf25, hf26, hd0, hd1, hd2, hd3, hd4, hd5, hd6, hd7, (fun _ => rfl), hd9, hd10, hd11, hd12, hd13, ho6, ho7, C3_2, C7_2, C7_3, C7_6, (fun a _ _ _ => nT e2 a), (fun _ _ a _ => nT e6 a), (fun a _ _ _ => nT e2 a), (fun _ a _ _ => nX e3 a), (fun _ _ _ _ => H), (fun _ a _ _ => nX e3 a), (fun _ a _ _ => nX e3 a)⟩
               ·
                exact nomatch (show true = false from (C7_3 e7).symm.trans e3)
             ·
              rcases bool_ft (S 6) with e6 | e6
              ·
               rcases bool_ft (S 7) with e7 | e7
               ·
                have H := W3 e2 e3 e6 e7
                refine O.move (v := (.int .i64 z4)) rfl rfl rfl ?_
                exact WL.nil ⟨v17, v18, v19, v20, hf2, rfl, hf10, hf11, hf12, hf24, hf25, hf26, hd0, hd1, hd2, hd3, hd4, hd5, hd6, hd7, (fun _ => rfl), hd9, hd10, hd11, hd12, hd13, ho6, ho7, C3_2, C7_2, C7_3, C7_6, (fun a _ _ _ => nT e2 a), (fun _ a _ _ => nT e3 a), (fun a _ _ _ => nT e2 a), (fun _ _ _ _ => H), (fun _ a _ _ => nT e3 a), (fun _ _ a _ => nX e6 a), (fun _ _ a _ => nX e6 a)⟩
               ·
                exact nomatch (show true = false from (C7_6 e7).symm.trans e6)
              ·
               rcases bool_ft (S 7) with e7 | e7
               ·
                have H := W5 e2 e3 e6 e7
                refine O.move (v := (.int .i64 z4)) rfl rfl rfl ?_
                exact WL.nil ⟨v17, v18, v19, v20, hf2, rfl, hf10, hf11, hf12, hf24, hf25, hf26, hd0, hd1, hd2, hd3, hd4, hd5, hd6, hd7, (fun _ => rfl), hd9, hd10, hd11, hd12, hd13, ho6, ho7, C3_2, C7_2, C7_3, C7_6, (fun a _ _ _ => nT e2 a), (fun _ a _ _ => nT e3 a), (fun a _ _ _ => nT e2 a), (fun _ _ a _ => nT e6 a), (fun _ a _ _ => nT e3 a), (fun _ _ _ _ => H), (fun _ _ _ a => nX e7 a)⟩
               ·
                have H := W6 e2 e3 e6 e7
                refine O.move (v := (.int .i64 z4)) rfl rfl rfl ?_
                exact WL.nil ⟨v17, v18, v19, v20, hf2, rfl, hf10, hf11, hf12, hf24, hf25, hf26, hd0, hd1, hd2, hd3, hd4, hd5, hd6, hd7, (fun _ => rfl), hd9, hd10, hd11, hd12, hd13, ho6, ho7, C3_2, C7_2, C7_3, C7_6, (fun a _ _ _ => nT e2 a), (fun _ a _ _ => nT e3 a), (fun a _ _ _ => nT e2 a), (fun _ _ a _ => nT e6 a), (fun _ a _ _ => nT e3 a), (fun _ _ _ a => nT e7 a), (fun _ _ _ _ => H)⟩
           ·
            rintro S f w hS - ⟨e10, e11, -⟩ ⟨v17, v18, v19, v20, hf2, hf5, hf10, hf11, hf12, hf24, hf25, hf26, hd0, hd1, hd2, hd3, hd4, hd5, hd6, hd7, hd8, hd9, hd10, hd11, hd12, hd13, ho6, ho7, C3_2, C7_2, C7_3, C7_6, W0, W1, W2, W3, W4, W5, W6⟩
            obtain ⟨u38, rfl⟩ := up1 hf10
            rcases bool_ft (S 2) with e2 | e2
            ·
             rcases bool_ft (S 3) with e3 | e3
             ·
              rcases bool_ft (S 6) with e6 | e6
              ·
               rcases bool_ft (S 7) with e7 | e7
               ·
                have H := W0 e2 e3 e6 e7
                refine O.fieldAddr fd39_3 rfl rfl rfl ?_
                exact WL.nil ⟨v17, v18, v19, v20, hf2, hf5, rfl, hf11, hf12, hf24, hf25, hf26, hd0, hd1, hd2, hd3, hd4, hd5, hd6, hd7, hd8, (fun _ => rfl), hd10, hd11, hd12, hd13, ho6, ho7, C3_2, C7_2, C7_3, C7_6, (fun _ _ _ _ => H), (fun a _ _ _ => nX e2 a), (fun _ _ a _ => nX e6 a), (fun a _ _ _ => nX e2 a), (fun a _ _ _ => nX e2 a), (fun a _ _ _ => nX e2 a), (fun a _ _ _ => nX e2 a)⟩
               ·
                exact nomatch (show true = false from (C7_2 e7).symm.trans e2)
              ·
               rcases bool_ft (S 7) with e7 | e7
               ·
                have H := W2 e2 e3 e6 e7
                refine O.fieldAddr fd39_3 rfl rfl rfl ?_
                exact WL.nil ⟨v17, v18, v19, v20, hf2, hf5, rfl, hf11, hf12, hf24, hf25, hf26, hd0, hd1, hd2, hd3, hd4, hd5, hd6, hd7, hd8, (fun _ => rfl), hd10, hd11, hd12, hd13, ho6, ho7, C3_2, C7_2, C7_3, C7_6, (fun _ _ a _ => nT e6 a), (fun a _ _ _ => nX e2 a), (fun _ _ _ _ => H), (fun a _ _ _ => nX e2 a), (fun a _ _ _ => nX e2 a), (fun a _ _ _ => nX e2 a), (fun a _ _ _ => nX e2 a)⟩
               ·
                exact nomatch (show true = false from (C7_2 e7).symm.trans e2)
             ·
              rcases bool_ft (S 6) with e6 | e6
              ·
               rcases bool_ft (S 7) with e7 | e7
               ·
                exact nomatch (show true = false from (C3_2 e3).symm.trans e2)
               ·
                exact nomatch (show true = false from (C3_2 e3).symm.trans e2)
              ·
               rcases bool_ft (S 7) with e7 | e7
               ·
                exact nomatch (show true = false from (C3_2 e3).symm.trans e2)
               ·
                exact nomatch (show true = false from (C3_2 e3).symm.trans e2)
            ·
             rcases bool_ft (S 3) with e3 | e3
             ·
              rcases bool_ft (S 6) with e6 | e6
              ·
               rcases bool_ft (S 7) with e7 | e7
               ·
                have H := W1 e2 e3 e6 e7
                refine O.fieldAddr fd39_3 rfl rfl rfl ?_
                exact WL.nil ⟨v17, v18, v19, v20, hf2, hf5, rfl, hf11, hf12, hf24, hf25, hf26, hd0, hd1, hd2, hd3, hd4, hd5, hd6, hd7, hd8, (fun _ => rfl), hd10, hd11, hd12, hd13, ho6, ho7, C3_2, C7_2, C7_3, C7_6, (fun a _ _ _ => nT e2 a), (fun _ _ _ _ => H), (fun a _ _ _ => nT e2 a), (fun _ a _ _ => nX e3 a), (fun _ _ a _ => nX e6 a), (fun _ a _ _ => nX e3 a), (fun _ a _ _ => nX e3 a)⟩
               ·
                exact nomatch (show true = false from (C7_3 e7).symm.trans e3)
              ·
               rcases bool_ft (S 7) with e7 | e7
               ·
                have H := W4 e2 e3 e6 e7
                refine O.fieldAddr fd39_3 rfl rfl rfl ?_
                exact WL.nil ⟨v17, v18, v19, v20, hf2, hf5, rfl, hf11, hf12, hf24, hf25, hf26, hd0, hd1, hd2, hd3, hd4, hd5, hd6, hd7, hd8, (fun _ => rfl), hd10, hd11, hd12, hd13, ho6, ho7, C3_2, C7_2, C7_3, C7_6, (fun a _ _ _ => nT e2 a), (fun _ _ a _ => nT e6 a), (fun a _ _ _ => nT e2 a), (fun _ a _ _ => nX e3 a), (fun _ _ _ _ => H), (fun _ a _ _ => nX e3 a), (fun _ a _ _ => nX e3 a)⟩
               ·
                exact nomatch (show true = false from (C7_3 e7).symm.trans e3)
             ·
              rcases bool_ft (S 6) with e6 | e6
              ·
               rcases bool_ft (S 7) with e7 | e7
               ·
                have H := W3 e2 e3 e6 e7
                refine O.fieldAddr fd39_3 rfl rfl rfl ?_
                exact WL.nil ⟨v17, v18, v19, v20, hf2, hf5, rfl, hf11, hf12, hf24, hf25, hf26, hd0, hd1, hd2, hd3, hd4, hd5, hd6, hd7, hd8, (fun _ => rfl), hd10, hd11, hd12, hd13, ho6, ho7, C3_2, C7_2, C7_3, C7_6, (fun a _ _ _ => nT e2 a), (fun _ a _ _ => nT e3 a), (fun a _ _ _ => nT e2 a), (fun _ _ _ _ => H), (fun _ a _ _ => nT e3 a), (fun _ _ a _ => nX e6 a), (fun _ _ a _ => nX e6 a)⟩
               ·
                exact nomatch (show true = false from (C7_6 e7).symm.trans e6)
              ·
               rcases bool_ft (S 7) with e7 | e7
               ·
                have H := W5 e2 e3 e6 e7
                refine O.fieldAddr fd39_3 rfl rfl rfl ?_
                exact WL.nil ⟨v17, v18, v19, v20, hf2, hf5, rfl, hf11, hf12, hf24, hf25, hf26, hd0, hd1, hd2, hd3, hd4, hd5, hd6, hd7, hd8, (fun _ => rfl), hd10, hd11, hd12, hd13, ho6, ho7, C3_2, C7_2, C7_3, C7_6, (fun a _ _ _ => nT e2 a), (fun _ a _ _ => nT e3 a), (fun a _ _ _ => nT e2 a), (fun _ _ a _ => nT e6 a), (fun _ a _ _ => nT e3 a), (fun _ _ _ _ => H), (fun _ _ _ a => nX e7 a)⟩
               ·
                have H := W6 e2 e3 e6 e7
                refine O.fieldAddr fd39_3 rfl rfl rfl ?_
                exact WL.nil ⟨v17, v18, v19, v20, hf2, hf5, rfl, hf11, hf12, hf24, hf25, hf26, hd0, hd1, hd2, hd3, hd4, hd5, hd6, hd7, hd8, (fun _ => rfl), hd10, hd11, hd12, hd13, ho6, ho7, C3_2, C7_2, C7_3, C7_6, (fun a _ _ _ => nT e2 a), (fun _ a _ _ => nT e3 a), (fun a _ _ _ => nT e2 a), (fun _ _ a _ => nT e6 a), (fun _ a _ _ => nT e3 a), (fun _ _ _ a => nT e7 a), (fun _ _ _ _ => H)⟩
           ·
            rintro S f w hS ⟨e9, -⟩ ⟨e11, -⟩ ⟨v17, v18, v19, v20, hf2, hf5, hf10, hf11, hf12, hf24, hf25, hf26, hd0, hd1, hd2, hd3, hd4, hd5, hd6, hd7, hd8, hd9, hd10, hd11, hd12, hd13, ho6, ho7, C3_2, C7_2, C7_3, C7_6, W0, W1, W2, W3, W4, W5, W6⟩
            have hf78 := hd9 e9
            obtain ⟨u39, rfl⟩ := up1 hf78
            rcases bool_ft (S 2) with e2 | e2
            ·
             rcases bool_ft (S 3) with e3 | e3
             ·
              rcases bool_ft (S 6) with e6 | e6
              ·
               rcases bool_ft (S 7) with e7 | e7
               ·
                have H := W0 e2 e3 e6 e7
                refine O.load sc3 rfl rfl rfl (H.cell 3 rfl 3 _ rfl) ?_
                exact WL.nil ⟨v17, v18, v19, v20, hf2, hf5, hf10, hf11, hf12, hf24, hf25, hf26, hd0, hd1, hd2, hd3, hd4, hd5, hd6, hd7, hd8, hd9, (fun _ => rfl), hd11, hd12, hd13, ho6, ho7, C3_2, C7_2, C7_3, C7_6, (fun _ _ _ _ => H), (fun a _ _ _ => nX e2 a), (fun _ _ a _ => nX e6 a), (fun a _ _ _ => nX e2 a), (fun a _ _ _ => nX e2 a), (fun a _ _ _ => nX e2 a), (fun a _ _ _ => nX e2 a)⟩
               ·
                exact nomatch (show true = false from (C7_2 e7).symm.trans e2)
              ·
               rcases bool_ft (S 7) with e7 | e7
               ·
                have H := W2 e2 e3 e6 e7
                refine O.load sc3 rfl rfl rfl (H.cell 3 rfl 3 _ rfl) ?_
                exact WL.nil ⟨v17, v18, v19, v20, hf2, hf5, hf10, hf11, hf12, hf24, hf25, hf26, hd0, hd1, hd2, hd3, hd4, hd5, hd6, hd7, hd8, hd9, (fun _ => rfl), hd11, hd12, hd13, ho6, ho7, C3_2, C7_2, C7_3, C7_6, (fun _ _ a _ => nT e6 a), (fun a _ _ _ => nX e2 a), (fun _ _ _ _ => H), (fun a _ _ _ => nX e2 a), (fun a _ _ _ => nX e2 a), (fun a _ _ _ => nX e2 a), (fun a _ _ _ => nX e2 a)⟩
               ·
                exact nomatch (show true = false from (C7_2 e7).symm.trans e2)
             ·
              rcases bool_ft (S 6) with e6 | e6
              ·
               rcases bool_ft (S 7) with e7 | e7
               ·
                exact nomatch (show true = false from (C3_2 e3).symm.trans e2)
               ·
                exact nomatch (show true = false from (C3_2 e3).symm.trans e2)
              ·
               rcases bool_ft (S 7) with e7 | e7
               ·
                exact nomatch (show true = false from (C3_2 e3).symm.trans e2)
               ·
                exact nomatch (show true = false from (C3_2 e3).symm.trans e2)
            ·
             rcases bool_ft (S 3) with e3 | e3
             ·
              rcases bool_ft (S 6) with e6 | e6
              ·
               rcases bool_ft (S 7) with e7 | e7
               ·
                have H := W1 e2 e3 e6 e7
                refine O.load sc3 rfl rfl rfl (H.cell 3 rfl 3 _ rfl) ?_
                exact WL.nil ⟨v17, v18, v19, v20, hf2, hf5, hf10, hf11, hf12, hf24, hf25, hf26, hd0, hd1, hd2, hd3, hd4, hd5, hd6, hd7, hd8, hd9, (fun _ => rfl), hd11, hd12, hd13, ho6, ho7, C3_2, C7_2, C7_3, C7_6, (fun a _ _ _ => nT e2 a), (fun _ _ _ _ => H), (fun a _ _ _ => nT e2 a), (fun _ a _ _ => nX e3 a), (fun _ _ a _ => nX e6 a), (fun _ a _ _ => nX e3 a), (fun _ a _ _ => nX e3 a)⟩
               ·
                exact nomatch (show true = false from (C7_3 e7).symm.trans e3)
              ·
               rcases bool_ft (S 7) with e7 | e7
               ·
                have H := W4 e2 e3 e6 e7
                refine O.load sc3 rfl rfl rfl (H.cell 3 rfl 3 _ rfl) ?_
                exact WL.nil ⟨v17, v18, v19, v20, hf2, hf5, hf10, hf11, hf12, hf24, hf25, hf26, hd0, hd1, hd2, hd3, hd4, hd5, hd6, hd7, hd8, hd9, (fun _ => rfl), hd11, hd12, hd13, ho6, ho7, C3_2, C7_2, C7_3, C7_6, (fun a _ _ _ => nT e2 a), (fun _ _ a _ => nT e6 a), (fun a _ _ _ => nT e2 a), (fun _ a _ _ => nX e3 a), (fun _ _ _ _ => H), (fun _ a _ _ => nX e3 a), (fun _ a _ _ => nX e3 a)⟩
               ·
                exact nomatch (show true = false from (C7_3 e7).symm.trans e3)
             ·
              rcases bool_ft (S 6) with e6 | e6
              ·
               rcases bool_ft (S 7) with e7 | e7
               ·
                have H := W3 e2 e3 e6 e7
                refine O.load sc3 rfl rfl rfl (H.cell 3 rfl 3 _ rfl) ?_
                exact WL.nil ⟨v17, v18, v19, v20, hf2, hf5, hf10, hf11, hf12, hf24, hf25, hf26, hd0, hd1, hd2, hd3, hd4, hd5, hd6, hd7, hd8, hd9, (fun _ => rfl), hd11, hd12, hd13, ho6, ho7, C3_2, C7_2, C7_3, C7_6, (fun a _ _ _ => nT e2 a), (fun _ a _ _ => nT e3 a), (fun a _ _ _ => nT e2 a), (fun _ _ _ _ => H), (fun _ a _ _ => nT e3 a), (fun _ _ a _ => nX e6 a), (fun _ _ a _ => nX e6 a)⟩
               ·
                exact nomatch (show true = false from (C7_6 e7).symm.trans e6)
              ·
               rcases bool_ft (S 7) with e7 | e7
               ·
                have H := W5 e2 e3 e6 e7
                refine O.load sc3 rfl rfl rfl (H.cell 3 rfl 3 _ rfl) ?_
                exact WL.nil ⟨v17, v18, v19, v20, hf2, hf5, hf10, hf11, hf12, hf24, hf25, hf26, hd0, hd1, hd2, hd3, hd4, hd5, hd6, hd7, hd8, hd9, (fun _ => rfl), hd11, hd12, hd13, ho6, ho7, C3_2, C7_2, C7_3, C7_6, (fun a _ _ _ => nT e2 a), (fun _ a _ _ => nT e3 a), (fun a _ _ _ => nT e2 a), (fun _ _ a _ => nT e6 a), (fun _ a _ _ => nT e3 a), (fun _ _ _ _ => H), (fun _ _ _ a => nX e7 a)⟩
               ·
                have H := W6 e2 e3 e6 e7
                refine O.load sc3 rfl rfl rfl (H.cell 3 rfl 3 _ rfl) ?_
                exact WL.nil ⟨v17, v18, v19, v20, hf2, hf5, hf10, hf11, hf12, hf24, hf25, hf26, hd0, hd1, hd2, hd3, hd4, hd5, hd6, hd7, hd8, hd9, (fun _ => rfl), hd11, hd12, hd13, ho6, ho7, C3_2, C7_2, C7_3, C7_6, (fun a _ _ _ => nT e2 a), (fun _ a _ _ => nT e3 a), (fun a _ _ _ => nT e2 a), (fun _ _ a _ => nT e6 a), (fun _ a _ _ => nT e3 a), (fun _ _ _ a => nT e7 a), (fun _ _ _ _ => H)⟩
           ·
            rintro S f w hS ⟨e8, e9, e10, -⟩ - ⟨v17, v18, v19, v20, hf2, hf5, hf10, hf11, hf12, hf24, hf25, hf26, hd0, hd1, hd2, hd3, hd4, hd5, hd6, hd7, hd8, hd9, hd10, hd11, hd12, hd13, ho6, ho7, C3_2, C7_2, C7_3, C7_6, W0, W1, W2, W3, W4, W5, W6⟩
            have hf77 := hd8 e8
            have hf79 := hd10 e10
            obtain ⟨u40, rfl⟩ := up2 hf77 hf79
            rcases bool_ft (S 2) with e2 | e2
            ·
             rcases bool_ft (S 3) with e3 | e3
             ·
              rcases bool_ft (S 6) with e6 | e6
              ·
               rcases bool_ft (S 7) with e7 | e7
               ·
                have H := W0 e2 e3 e6 e7
                refine O.sub rfl rfl rfl rfl ht14 ?_
                exact WL.nil ⟨v17, v18, v19, v20, hf2, hf5, hf10, hf11, hf12, hf24, hf25, hf26, hd0, hd1, hd2, hd3, hd4, hd5, hd6, hd7, hd8, hd9, hd10, (fun _ => rfl), hd12, hd13, ho6, ho7, C3_2, C7_2, C7_3, C7_6, (fun _ _ _ _ => H), (fun a _ _ _ => nX e2 a), (fun _ _ a _ => nX e6 a), (fun a _ _ _ => nX e2 a), (fun a _ _ _ => nX e2 a), (fun a _ _ _ => nX e2 a), (fun a _ _ _ => nX e2 a)⟩
               ·
                exact nomatch (show true = false from (C7_2 e7).symm.trans e2)
              ·
               rcases bool_ft (S 7) with e7 | e7
               ·
                have H := W2 e2 e3 e6 e7
                refine O.sub rfl rfl rfl rfl ht14 ?_
                exact WL.nil ⟨v17, v18, v19, v20, hf2, hf5, hf10, hf11, hf12, hf24, hf25, hf26, hd0, hd1, hd2, hd3, hd4, hd5, hd6, hd7, hd8, hd9, hd10, (fun _ => rfl), hd12, hd13, ho6, ho7, C3_2, C7_2, C7_3, C7_6, (fun _ _ a _ => nT e6 a), (fun a _ _ _ => nX e2 a), (fun _ _ _ _ => H), (fun a _ _ _ => nX e2 a), (fun a _ _ _ => nX e2 a), (fun a _ _ _ => nX e2 a), (fun a _ _ _ => nX e2 a)⟩
               ·
                exact nomatch (show true = false from (C7_2 e7).symm.trans e2)
             ·
              rcases bool_ft (S 6) with e6 | e6
              ·
               rcases bool_ft (S 7) with e7 | e7
               ·
                exact nomatch (show true = false from (C3_2 e3).symm.trans e2)
               ·
                exact nomatch (show true = false from (C3_2 e3).symm.trans e2)
              ·
               rcases bool_ft (S 7) with e7 | e7
               ·
                exact nomatch (show true = false from (C3_2 e3).symm.trans e2)
               ·
                exact nomatch (show true = false from (C3_2 e3).symm.trans e2)
            ·
             rcases bool_ft (S 3) with e3 | e3
             ·
              rcases bool_ft (S 6) with e6 | e6
              ·
               rcases bool_ft (S 7) with e7 | e7
               ·
                have H := W1 e2 e3 e6 e7
                refine O.sub rfl rfl rfl rfl ht14 ?_
                exact WL.nil ⟨v17, v18, v19, v20, hf2, hf5, hf10, hf11, hf12, hf24, hf25, hf26, hd0, hd1, hd2, hd3, hd4, hd5, hd6, hd7, hd8, hd9, hd10, (fun _ => rfl), hd12, hd13, ho6, ho7, C3_2, C7_2, C7_3, C7_6, (fun a _ _ _ => nT e2 a), (fun _ _ _ _ => H), (fun a _ _ _ => nT e2 a), (fun _ a _ _ => nX e3 a), (fun _ _ a _ => nX e6 a), (fun _ a _ _ => nX e3 a), (fun _ a _ _ => nX e3 a)⟩
               ·
                exact nomatch (show true = false from (C7_3 e7).symm.trans e3)
              ·
               rcases bool_ft (S 7) with e7 | e7
               ·
                have H := W4 e2 e3 e6 e7
                refine O.sub rfl rfl rfl rfl ht14 ?_
                exact WL.nil ⟨v17, v18, v19, v20, hf2, hf5, hf10, hf11, hf12, hf24, hf25, hf26, hd0, hd1, hd2, hd3, hd4, hd5, hd6, hd7, hd8, hd9, hd10, (fun _ => rfl), hd12, hd13, ho6, ho7, C3_2, C7_2, C7_3, C7_6, (fun a _ _ _ => nT e2 a), (fun _ _ a _ => nT e6 a), (fun a _ _ _ => nT e2 a), (fun _ a _ _ => nX e3 a), (fun _ _ _ _ => H), (fun _ a _ _ => nX e3 a), (fun _ a _ _ => nX e3 a)⟩
               ·
                exact nomatch (show true = false from (C7_3 e7).symm.trans e3)
             ·
              rcases bool_ft (S 6) with e6 | e6
              ·
               rcases bool_ft (S 7) with e7 | e7
               ·
                have H := W3 e2 e3 e6 e7
                refine O.sub rfl rfl rfl rfl ht14 ?_
                exact WL.nil ⟨v17, v18, v19, v20, hf2, hf5, hf10, hf11, hf12, hf24, hf25, hf26, hd0, hd1, hd2, hd3, hd4, hd5, hd6, hd7, hd8, hd9, hd10, (fun _ => rfl), hd12, hd13, ho6, ho7, C3_2, C7_2, C7_3, C7_6, (fun a _ _ _ => nT e2 a), (fun _ a _ _ => nT e3 a), (fun a _ _ _ => nT e2 a), (fun _ _ _ _ => H), (fun _ a _ _ => nT e3 a), (fun _ _ a _ => nX e6 a), (fun _ _ a _ => nX e6 a)⟩
               ·
                exact nomatch (show true = false from (C7_6 e7).symm.trans e6)
              ·
               rcases bool_ft (S 7) with e7 | e7
               ·
                have H := W5 e2 e3 e6 e7
                refine O.sub rfl rfl rfl rfl ht14 ?_
                exact WL.nil ⟨v17, v18, v19, v20, hf2, hf5, hf10, hf11, hf12, hf24, hf25, hf26, hd0, hd1, hd2, hd3, hd4, hd5, hd6, hd7, hd8, hd9, hd10, (fun _ => rfl), hd12, hd13, ho6, ho7, C3_2, C7_2, C7_3, C7_6, (fun a _ _ _ => nT e2 a), (fun _ a _ _ => nT e3 a), (fun a _ _ _ => nT e2 a), (fun _ _ a _ => nT e6 a), (fun _ a _ _ => nT e3 a), (fun _ _ _ _ => H), (fun _ _ _ a => nX e7 a)⟩
               ·
                have H := W6 e2 e3 e6 e7
                refine O.sub rfl rfl rfl rfl ht14 ?_
                exact WL.nil ⟨v17, v18, v19, v20, hf2, hf5, hf10, hf11, hf12, hf24, hf25, hf26, hd0, hd1, hd2, hd3, hd4, hd5, hd6, hd7, hd8, hd9, hd10, (fun _ => rfl), hd12, hd13, ho6, ho7, C3_2, C7_2, C7_3, C7_6, (fun a _ _ _ => nT e2 a), (fun _ a _ _ => nT e3 a), (fun a _ _ _ => nT e2 a), (fun _ _ a _ => nT e6 a), (fun _ a _ _ => nT e3 a), (fun _ _ _ a => nT e7 a), (fun _ _ _ _ => H)⟩
           ·
            rintro S f w hS ⟨e0, e1, e2, e3, e4, e5, e6, e7, -⟩ ⟨e13, -⟩ ⟨v17, v18, v19, v20, hf2, hf5, hf10, hf11, hf12, hf24, hf25, hf26, hd0, hd1, hd2, hd3, hd4, hd5, hd6, hd7, hd8, hd9, hd10, hd11, hd12, hd13, ho6, t⟩
            have hf72 := hd3 e3
            obtain ⟨u41, rfl⟩ := up1 hf72
            have H := t.2.2.2.2.2.2.2.2.2.2.2 e2 e3 e6 e7
            refine O.assign (v := v18) rfl rfl rfl ?_
            exact WL.nil ⟨v17, v18, v19, v20, hf2, hf5, hf10, hf11, hf12, hf24, hf25, hf26, hd0, hd1, hd2, hd3, hd4, hd5, hd6, hd7, hd8, hd9, hd10, hd11, (fun _ => rfl), hd13, nG, t⟩
           ·
            rintro S f w hS ⟨e0, e1, e2, e3, e4, e5, e6, e7, e12, -⟩ - ⟨v17, v18, v19, v20, hf2, hf5, hf10, hf11, hf12, hf24, hf25, hf26, hd0, hd1, hd2, hd3, hd4, hd5, hd6, hd7, hd8, hd9, hd10, hd11, hd12, hd13, ho6, ho7, t⟩
            have hf76 := hd7 e7
            obtain ⟨u42, rfl⟩ := up1 hf76
            have H := t.2.2.2.2.2.2.2.2.2.2 e2 e3 e6 e7
            refine O.assign (v := v20) rfl rfl rfl ?_
            exact WL.nil ⟨v17, v18, v19, v20, hf2, hf5, hf10, hf11, hf12, hf24, hf25, hf26, hd0, hd1, hd2, hd3, hd4, hd5, hd6, hd7, hd8, hd9, hd10, hd11, hd12, (fun _ => rfl), ho6, nG, t⟩
          ·
           rintro S f w ⟨e0, e1, e2, e3, e4, e5, e6, e7, e8, e9, e10, e11, e12, e13, -⟩ ⟨v17, v18, v19, v20, hf2, hf5, hf10, hf11, hf12, hf24, hf25, hf26, hd0, hd1, hd2, hd3, hd4, hd5, hd6, hd7, hd8, hd9, hd10, hd11, hd12, hd13, ho6, ho7, C3_2, C7_2, C7_3, C7_6, W0, W1, W2, W3, W4, W5, W6⟩
           have hf6 := hd12 e12
           have hf7 := hd13 e13
           have hf80 := hd11 e11
           have H := W6 e2 e3 e6 e7
           obtain ⟨u43, rfl⟩ := up7 hf2 hf6 hf7 hf24 hf25 hf26 hf80
           refine O.assign (v := (.int .i64 t14)) rfl rfl rfl ?_
           refine WL.nil ?_
           have H := H.keep [0, 1, 2] [boxI b1 25 [va0_0, va0_1], ownI (α := GPoint) v18 78 t12, ownI (α := GPoint) v20 78 t13] rfl (by decide)
           have hq : (t14, t12, t13) = (s7, s8, s9) := Option.some.inj (show some (t14, t12, t13) = some (s7, s8, s9) from hm4)
           obtain ⟨he0, hq0⟩ := Prod.mk.inj hq; clear hq; subst he0
           obtain ⟨he1, hq1⟩ := Prod.mk.inj hq0; clear hq0; subst he1
           subst hq1
           exact ⟨v18, v20, rfl, rfl, rfl, rfl, rfl, rfl, rfl, H⟩
        ·
         rintro f w ⟨v11, v12, hf2, hf5, hf6, hf7, hf24, hf25, hf26, H⟩
         obtain ⟨u44, rfl⟩ := up7 hf2 hf5 hf6 hf7 hf24 hf25 hf26
         obtain rfl := Option.some.inj hm3
         exact ⟨_, _, _, v11, v12, rfl, rfl, rfl, rfl, rfl, rfl, rfl, rfl, H⟩
     ·
      rintro f w ⟨s4, s5, s6, v9, v10, rfl, hf2, hf5, hf6, hf7, hf24, hf25, hf26, H⟩
      obtain ⟨u45, rfl⟩ := up7 hf2 hf5 hf6 hf7 hf24 hf25 hf26
      refine W.region ?_
      refine O.add rfl rfl rfl rfl hinck1 ?_
      refine O.move (v := .int .i64 ((ik1 : Int) + 1)) rfl rfl rfl ?_
      refine WL.nil ?_
      obtain rfl := Option.some.inj hm2
      exact ⟨_, rfl, _, _, _, v9, v10, rfl, drop_next hdropk1, rfl, rfl, rfl, rfl, rfl, rfl, rfl, H⟩
    ·
     rintro ik1 _ f w ⟨z4, z5, z6, v3, v4, rfl, hdropk1, hf26, hf25, hf2, hf5, hf6, hf7, hf24, H⟩ hfin
     have hltk1 := drop_end hdropk1
     obtain ⟨u46, rfl⟩ := up7 hf26 hf25 hf2 hf5 hf6 hf7 hf24
     refine W.seq ?_
     refine W.region ?_
     refine O.lss rfl rfl rfl rfl ?_
     refine WL.nil ?_
     refine W.seq ?_
     refine W.cond_false (congrArg Value.bool (decide_eq_false hltk1)) ?_
     refine W.exit ?_
     obtain rfl : Ctl.next (z4, z5, z6) = o1 := hfin
     refine xT rfl ?_
     exact ⟨_, _, _, v3, v4, rfl, rfl, rfl, rfl, rfl, H⟩
   ·
    rintro f w ⟨s1, s2, s3, v7, v8, rfl, hf2, hf5, hf6, hf7, H⟩
    obtain ⟨u47, rfl⟩ := up4 hf2 hf5 hf6 hf7
    refine W.seq ?_
    refine W.seq ?_
    refine W.region ?_
    refine O.move (v := v8) rfl rfl rfl ?_
    refine O.lenS Try.underlying91 (H.own 2 rfl) rfl rfl rfl ?_
    refine O.move (v := (.int .i64 0)) rfl rfl rfl ?_
    refine WL.nil ?_
    obtain ⟨o4, hm5, hm⟩ := bind_some hm
    refine W.via (fun f w => ∃ s10 : Int, o4 = .next s10 ∧ f 5 = (.int .i64 s10) ∧ Inv w0 w []) ?_ ?_
    ·
     refine W.block ?_
     have hbdik2 := (H.own 2 rfl).len_le
     refine W.rangeN (i := 0) hm5 (fun rem ik2 s f w => ∃ z11 : Int, z11 = s ∧ (ik2 : Int) + rem = max 0 ((s3.length : Nat) : Int) ∧ f 84 = .int .i64 (ik2 : Int) ∧ f 83 = (.int .i64 ((s3.length : Nat) : Int)) ∧ f 2 = (.pointer (some ⟨b1, 0, none⟩)) ∧ f 5 = (.int .i64 z11) ∧ f 6 = v7 ∧ f 82 = v8 ∧ Inv w0 w [boxI b1 25 [va0_0, va0_1], ownI (α := GPoint) v7 78 s2, ownI (α := GPoint) v8 78 s3]) ?_ ?_ ?_
     ·
      exact ⟨_, rfl, rangeN_start, rfl, rfl, rfl, rfl, rfl, rfl, H⟩
     ·
      rintro k ik2 _ st f w ⟨z11, rfl, hdropk2, hf84, hf83, hf2, hf5, hf6, hf82, H⟩ hm6
      have hltk2 := rangeN_lt hdropk2
      obtain ⟨u48, rfl⟩ := up6 hf84 hf83 hf2 hf5 hf6 hf82
      have hinck2 := addI_lt hltk2 hbdik2
      refine W.seq ?_
      refine W.region ?_
      refine O.lss rfl rfl rfl rfl ?_
      refine WL.nil ?_
      refine W.seq ?_
      refine W.cond_true (congrArg Value.bool (decide_eq_true hltk2)) ?_
      refine W.skip ?_
      refine W.seq ?_
      refine W.block ?_
      refine W.seq ?_
      refine W.region ?_
      refine O.move (v := (.int .i64 (ik2 : Int))) rfl rfl rfl ?_
      obtain ⟨x2, hx2, hm6⟩ := bind_some hm6
      refine O.indexAddr Try.underlying91 sz78 (H.own 2 rfl) hx2 rfl rfl rfl rfl ?_
      intro p3 hp3
      refine O.loadA [(.int .i64 x2.clock), (.int .i64 x2.at_)] ag78 rfl rfl rfl rfl (hp3.flat) ?_
      refine O.alloc [(.int .i64 0), (.int .i64 0)] ze78 H rfl rfl rfl ?_
      intro b5 w20 H hb13
      have hp3 := hp3.mono hb13
      refine O.assign (v := (.int .i64 (ik2 : Int))) rfl rfl rfl ?_
      refine O.store 3 0 [(.int .i64 x2.clock), (.int .i64 x2.at_)] [(.int .i64 x2.clock), (.int .i64 x2.at_)] sz78 H rfl rfl rfl rfl rfl rfl ⟨⟨rfl, rfl⟩, rfl⟩ (one_cons rfl (one_cons rfl one_nil)) ?_
      intro w21 H
      clear hp3
      refine WL.nil ?_
      refine W.seq ?_
      refine W.region ?_
      refine O.move (v := v7) rfl rfl rfl ?_
      refine O.move (v := (.int .i64 (ik2 : Int))) rfl rfl rfl ?_
      obtain ⟨t15, ht15, hm6⟩ := bind_some hm6
      refine O.add rfl rfl rfl rfl ht15 ?_
      refine O.move (v := v7) rfl rfl rfl ?_
      refine O.lenS Try.underlying91 (H.own 1 rfl) rfl rfl rfl ?_
      obtain ⟨t16, ht16, hm6⟩ := bind_some hm6
      refine O.rem rfl rfl rfl rfl ht16 ?_
      obtain ⟨x3, hx3, hm6⟩ := bind_some hm6
      refine O.indexAddr Try.underlying91 sz78 (H.own 1 rfl) hx3 rfl rfl rfl rfl ?_
      intro p4 hp4
      refine O.loadA [(.int .i64 x3.clock), (.int .i64 x3.at_)] ag78 rfl rfl rfl rfl (hp4.flat) ?_
      refine O.alloc [(.int .i64 0), (.int .i64 0)] ze78 H rfl rfl rfl ?_
      intro b6 w22 H hb14
      have hp4 := hp4.mono hb14
      refine O.store 4 0 [(.int .i64 x3.clock), (.int .i64 x3.at_)] [(.int .i64 x3.clock), (.int .i64 x3.at_)] sz78 H rfl rfl rfl rfl rfl rfl ⟨⟨rfl, rfl⟩, rfl⟩ (one_cons rfl (one_cons rfl one_nil)) ?_
      intro w23 H
      clear hp4
      refine WL.nil ?_
      refine W.seq ?_
      refine W.seq ?_
      refine W.region ?_
      refine O.fieldAddr fd78_0 rfl rfl rfl ?_
      refine O.load sc3 rfl rfl rfl (H.cell 3 rfl 0 _ rfl) ?_
      refine O.fieldAddr fd78_0 rfl rfl rfl ?_
      refine O.load sc3 rfl rfl rfl (H.cell 4 rfl 0 _ rfl) ?_
      refine O.neq rfl rfl rfl rfl ?_
      refine WL.nil ?_
      rcases ite_some hm6 with ⟨hc5, hm6⟩ | ⟨hc5, hm6⟩
      ·
       refine W.cond_true (congrArg Value.bool hc5) ?_
       refine W.seq ?_
       refine W.region ?_
       refine O.assign (v := (.bool false)) rfl rfl rfl ?_
       refine WL.nil ?_
       refine W.ret ?_
       obtain rfl := Option.some.inj hm6
       refine ⟨_, rfl, ?_⟩
       rintro rfl
       have hq : false = r0 := Option.some.inj (show some false = some r0 from hm)
       subst hq
       exact ends1 Try.results29 rfl ⟨_, rfl, H.base, rfl⟩
      ·
       refine W.cond_false (congrArg Value.bool hc5) ?_
       refine W.skip ?_
       obtain ⟨x4, hx4, hm6⟩ := bind_some hm6
       obtain ⟨p5, hp5, hrp5⟩ := fix_indexAddr Try.underlying22 sz3 (H.arg ha0_0) hx4
       obtain ⟨t17, ht17, hm6⟩ := bind_some hm6
       obtain ⟨t18, hy5, hm6⟩ := bind_some hm6
       refine W.drawN 13 (fun f => f 2 = (.pointer (some ⟨b1, 0, none⟩)) ∧ f 6 = v7 ∧ f 82 = v8 ∧ f 83 = (.int .i64 ((s3.length : Nat) : Int)) ∧ f 84 = (.int .i64 (ik2 : Int)) ∧ f 102 = (.int .i64 z11) ∧ f 114 = (.int .i64 t18)) fol (by kernel_rfl) ?_ ?_
       ·
        refine PL.of (fun _ w8 _ hx => O.move (v := (.int .i64 z11)) rfl rfl rfl (WL.nil ⟨rfl, hx⟩)) ?_
        refine PL.of (fun _ w8 _ hx => O.fieldAddr fd25_0 rfl rfl rfl (WL.nil ⟨rfl, hx⟩)) ?_
        refine PL.of (fun _ w8 _ hx => by have H := H.ext hx; exact O.load sc22 rfl rfl rfl (H.cell 0 rfl 0 _ rfl) (WL.nil ⟨rfl, hx⟩)) ?_
        refine PL.of (fun _ w8 _ hx => O.fieldAddr fd78_0 rfl rfl rfl (WL.nil ⟨rfl, hx⟩)) ?_
        refine PL.of (fun _ w8 _ hx => by have H := H.ext hx; exact O.load sc3 rfl rfl rfl (H.cell 3 rfl 0 _ rfl) (WL.nil ⟨rfl, hx⟩)) ?_
        refine PL.of (fun _ w8 _ hx => hrp5 rfl rfl rfl rfl (WL.nil ⟨rfl, hx⟩)) ?_
        refine PL.of (fun _ w8 _ hx => by have hp5 := hp5.mono hx; exact O.load sc3 rfl rfl rfl (hp5.flat 0 _ rfl) (WL.nil ⟨rfl, hx⟩)) ?_
        refine PL.of (fun _ w8 _ hx => O.fieldAddr fd78_1 rfl rfl rfl (WL.nil ⟨rfl, hx⟩)) ?_
        refine PL.of (fun _ w8 _ hx => by have H := H.ext hx; exact O.load sc3 rfl rfl rfl (H.cell 3 rfl 1 _ rfl) (WL.nil ⟨rfl, hx⟩)) ?_
        refine PL.of (fun _ w8 _ hx => O.fieldAddr fd78_1 rfl rfl rfl (WL.nil ⟨rfl, hx⟩)) ?_
        refine PL.of (fun _ w8 _ hx => by have H := H.ext hx; exact O.load sc3 rfl rfl rfl (H.cell 4 rfl 1 _ rfl) (WL.nil ⟨rfl, hx⟩)) ?_
        refine PL.of (fun _ w8 _ hx => O.sub rfl rfl rfl rfl ht17 (WL.nil ⟨rfl, hx⟩)) ?_
        refine PL.of (fun _ w8 _ hx => O.call Try.call73 rfl rfl rfl (c_noongunref02_carry _ _ hy5) (by rintro _ _ hb rfl; exact WL.nil ⟨rfl, hx.trans (hb.mono hx.size)⟩)) ?_
        refine PL.nil ?_
        exact ⟨rfl, rfl, rfl, rfl, rfl, rfl, rfl⟩
       ·
        rintro f w ⟨hf2, hf6, hf82, hf83, hf84, hf102, hf114⟩ hmd hx
        have H := H.ext hx
        have hp5 := hp5.mono hx
        obtain ⟨u49, rfl⟩ := up7 hf2 hf6 hf82 hf83 hf84 hf102 hf114
        obtain ⟨t19, ht19, hm6⟩ := bind_some hm6
        refine O.add rfl rfl rfl rfl ht19 ?_
        refine O.assign (v := (.int .i64 t19)) rfl rfl rfl ?_
        refine WL.nil ?_
        refine W.region ?_
        refine O.add rfl rfl rfl rfl hinck2 ?_
        refine O.move (v := .int .i64 ((ik2 : Int) + 1)) rfl rfl rfl ?_
        refine WL.nil ?_
        have H := H.keep [0, 1, 2] [boxI b1 25 [va0_0, va0_1], ownI (α := GPoint) v7 78 s2, ownI (α := GPoint) v8 78 s3] rfl (by decide)
        obtain rfl := Option.some.inj hm6
        exact ⟨_, rfl, _, rfl, rangeN_next hdropk2, rfl, rfl, rfl, rfl, rfl, rfl, H⟩
     ·
      rintro ik2 _ f w ⟨z11, rfl, hdropk2, hf84, hf83, hf2, hf5, hf6, hf82, H⟩ hfin
      have hltk2 := rangeN_end hdropk2
      obtain ⟨u50, rfl⟩ := up6 hf84 hf83 hf2 hf5 hf6 hf82
      refine W.seq ?_
      refine W.region ?_
      refine O.lss rfl rfl rfl rfl ?_
      refine WL.nil ?_
      refine W.seq ?_
      refine W.cond_false (congrArg Value.bool (decide_eq_false hltk2)) ?_
      refine W.exit ?_
      obtain rfl : Ctl.next z11 = o4 := hfin
      have H := H.keep [] [] rfl (by decide)
      refine xT rfl ?_
      exact ⟨_, rfl, rfl, H⟩
    ·
     rintro f w ⟨s10, rfl, hf5, H⟩
     obtain ⟨u51, rfl⟩ := up1 hf5
     refine W.seq ?_
     refine W.region ?_
     refine O.move (v := (.int .i64 s10)) rfl rfl rfl ?_
     refine O.lss rfl rfl rfl rfl ?_
     refine O.assign (v := (.bool (decide (s10 < 0)))) rfl rfl rfl ?_
     refine WL.nil ?_
     refine W.ret ?_
     have hq : (decide (s10 < 0)) = r0 := Option.some.inj (show some (decide (s10 < 0)) = some r0 from hm)
     subst hq
     exact ends1 Try.results29 rfl ⟨_, rfl, H.base, rfl⟩

theorem c_sight_Conflict {w0 : World} (va0_0 : Value) (va0_1 : Value) (a0 : GNet) (ha0_0 : SliceR w0 va0_0 a0.Rates) (ha0_1 : SliceR w0 va0_1 a0.Sights) {r0 : (List Int)} {r1 : Int} (hm : sight_Conflict a0 = some (r0, r1)) :
  Calls Try.prog 30 #[(.agg #[va0_0, va0_1])] w0 (Ret w0 fun w v => ∃ vr0 : Value, v = .tuple #[vr0, (.int .i64 r1)] ∧ OwnR w0 w vr0 3 r0) := by
 unfold sight_Conflict at hm
 refine calls_of_W Try.func30 rfl Try.ntmps30 (Nat.le_of_ble_eq_true rfl) ?_
 have H := Inv.start (w := w0)
 refine W.seq ?_
 refine W.region ?_
 refine O.box [va0_0, va0_1] H rfl rfl rfl rfl ?_
 intro b1 w1 H hb1
 have H := H.addNil (α := Int) (E := 3)
 refine O.assign (v := (.slice none 0 0)) rfl rfl rfl ?_
 refine O.assign (v := (.int .i64 0)) rfl rfl rfl ?_
 refine WL.nil ?_
 refine W.seq ?_
 refine W.seq ?_
 refine W.region ?_
 refine O.loadA [va0_0, va0_1] ag25 rfl rfl rfl rfl (H.cell 0 rfl) ?_
 obtain ⟨t1, hy1, hm⟩ := bind_some hm
 refine O.call Try.call33 rfl rfl rfl (c_sight_Valid _ _ (GNet.mk a0.Rates a0.Sights) (H.arg ha0_0) (H.arg ha0_1) hy1) ?_
 rintro _ w2 hb2 rfl
 have H := H.ext hb2
 refine O.not rfl rfl rfl ?_
 refine WL.nil ?_
 rcases ite_some hm with ⟨hc1, hm⟩ | ⟨hc1, hm⟩
 ·
  refine W.cond_true (congrArg Value.bool hc1) ?_
  refine W.seq ?_
  refine W.region ?_
  have H := H.addNil (α := Int) (E := 3)
  refine O.assign (v := (.slice none 0 0)) rfl rfl rfl ?_
  refine O.assign (v := (.int .i64 1)) rfl rfl rfl ?_
  refine WL.nil ?_
  refine W.ret ?_
  have hq : (([] : List Int), 1) = (r0, r1) := Option.some.inj (show some (([] : List Int), 1) = some (r0, r1) from hm)
  obtain ⟨he0, hq0⟩ := Prod.mk.inj hq; clear hq; subst he0
  subst hq0
  exact ends2 Try.results30 rfl rfl ⟨_, rfl, H.base, ⟨_, rfl, H.ownR 2 rfl⟩⟩
 ·
  refine W.cond_false (congrArg Value.bool hc1) ?_
  refine W.skip ?_
  refine W.seq ?_
  refine W.region ?_
  refine O.loadA [va0_0, va0_1] ag25 rfl rfl rfl rfl (H.cell 0 rfl) ?_
  obtain ⟨⟨t2, t3⟩, hy2, hm⟩ := bind_some hm
  refine O.call Try.call56 rfl rfl rfl (c_sight_graphOf _ _ (GNet.mk a0.Rates a0.Sights) (H.arg ha0_0) (H.arg ha0_1) _ _ (SliceR.nil (α := GPoint)) hy2) ?_
  rintro _ w3 hb3 ⟨b2, m1, v1, sg1, rfl, hq1, hM1⟩
  have H := H.addAll hb3 hM1
  obtain ⟨⟨t4, t5⟩, hy3, hm⟩ := bind_some hm
  refine O.call Try.call57 rfl rfl rfl (c_sight_graph_circle _ _ _ t2 sg1 (H.cell 2 rfl) (H.map 3 rfl) (H.own 4 rfl) (circle_perm hq1 hy3)) ?_
  rintro v2 w4 hb4 ⟨ho1, hq2⟩
  have H := H.addOwn hb4 ho1
  refine O.assign (v := v2) rfl rfl rfl ?_
  refine WL.nil ?_
  refine W.seq ?_
  refine W.seq ?_
  refine W.region ?_
  refine O.move (v := v2) rfl rfl rfl ?_
  refine O.eqlNilB Try.underlying22 hq2 rfl rfl rfl rfl ?_
  refine WL.nil ?_
  rcases ite_some hm with ⟨hc2, hm⟩ | ⟨hc2, hm⟩
  ·
   refine W.cond_true (congrArg Value.bool hc2) ?_
   refine W.seq ?_
   refine W.region ?_
   have H := H.addNil (α := Int) (E := 3)
   refine O.assign (v := (.slice none 0 0)) rfl rfl rfl ?_
   refine O.assign (v := (.int .i64 8)) rfl rfl rfl ?_
   refine WL.nil ?_
   refine W.ret ?_
   have hq : (([] : List Int), 8) = (r0, r1) := Option.some.inj (show some (([] : List Int), 8) = some (r0, r1) from hm)
   obtain ⟨he0, hq0⟩ := Prod.mk.inj hq; clear hq; subst he0
   subst hq0
   exact ends2 Try.results30 rfl rfl ⟨_, rfl, H.base, ⟨_, rfl, H.ownR 6 rfl⟩⟩
  ·
   refine W.cond_false (congrArg Value.bool hc2) ?_
   refine W.skip ?_
   refine W.seq ?_
   refine W.region ?_
   refine O.move (v := v2) rfl rfl rfl ?_
   refine O.assign (v := v2) rfl rfl rfl ?_
   refine O.assign (v := (.int .i64 0)) rfl rfl rfl ?_
   refine WL.nil ?_
   refine W.ret ?_
   have hq : (t5, 0) = (r0, r1) := Option.some.inj (show some (t5, 0) = some (r0, r1) from hm)
   obtain ⟨he0, hq0⟩ := Prod.mk.inj hq; clear hq; subst he0
   subst hq0
   exact ends2 Try.results30 rfl rfl ⟨_, rfl, H.base, ⟨_, rfl, H.ownR 5 rfl⟩⟩

set_option maxRecDepth 20000 in
theorem c_noongunlaw02_SightProves {w0 : World} (va0_0 : Value) (va0_1 : Value) (a0 : GNet) (ha0_0 : SliceR w0 va0_0 a0.Rates) (ha0_1 : SliceR w0 va0_1 a0.Sights) (va1 : Value) (a1 : (List Int)) (ha1 : SliceR w0 va1 a1) {r0 : Bool} (hm : noongunlaw02_SightProves a0 a1 = some r0) :
  Calls Try.prog 7 #[(.agg #[va0_0, va0_1]), va1] w0 (Ret w0 fun _ v => v = (.bool r0)) := by
 unfold noongunlaw02_SightProves at hm
 refine calls_of_W Try.func7 rfl Try.ntmps7 (Nat.le_of_ble_eq_true rfl) ?_
 have H := Inv.start (w := w0)
 refine W.seq ?_
 refine W.region ?_
 refine O.box [va0_0, va0_1] H rfl rfl rfl rfl ?_
 intro b1 w1 H hb1
 refine O.assign (v := (.bool false)) rfl rfl rfl ?_
 refine WL.nil ?_
 refine W.seq ?_
 refine W.seq ?_
 refine W.region ?_
 refine O.loadA [va0_0, va0_1] ag25 rfl rfl rfl rfl (H.cell 0 rfl) ?_
 obtain ⟨t1, hy1, hm⟩ := bind_some hm
 refine O.call Try.call14 rfl rfl rfl (c_noongunlaw02_Light _ _ (GNet.mk a0.Rates a0.Sights) (H.arg ha0_0) (H.arg ha0_1) hy1) ?_
 rintro _ w2 hb2 rfl
 have H := H.ext hb2
 refine O.not rfl rfl rfl ?_
 refine O.move (v := (.bool (!t1))) rfl rfl rfl ?_
 refine WL.cut 4 (fun f w => f 1 = va1 ∧ f 2 = (.pointer (some ⟨b1, 0, none⟩)) ∧ f 19 = .bool ((!t1) || (decide (100 < ((a1.length : Nat) : Int)))) ∧ Inv w0 w [boxI b1 25 [va0_0, va0_1]]) ?_ ?_
 ·
  rcases bool_ft (!t1) with hc1 | hc1
  ·
   refine WL.reset (i := 15) (v := .bool false) (congrArg Value.bool hc1) ?_
   refine O.move (v := va1) rfl rfl rfl ?_
   refine O.lenS Try.underlying22 (H.arg ha1) rfl rfl rfl ?_
   refine O.gtr rfl rfl rfl rfl ?_
   refine O.pick_false (v := (.bool (decide (100 < ((a1.length : Nat) : Int))))) rfl rfl rfl rfl ?_
   exact WL.nil ⟨rfl, rfl, congrArg Value.bool (or_f hc1), H⟩
  ·
   refine WL.reset (i := 15) (v := .bool true) (congrArg Value.bool hc1) ?_
   refine O.skip rfl rfl ?_
   refine O.skip rfl rfl ?_
   refine O.skip rfl rfl ?_
   refine O.pick_true (v := (.bool true)) rfl rfl rfl rfl ?_
   exact WL.nil ⟨rfl, rfl, congrArg Value.bool (or_t hc1), H⟩
 ·
  rintro f w ⟨hf1, hf2, hf19, H⟩
  obtain ⟨u1, rfl⟩ := up3 hf1 hf2 hf19
  refine WL.nil ?_
  rcases ite_some hm with ⟨hc2, hm⟩ | ⟨hc2, hm⟩
  ·
   refine W.cond_true (congrArg Value.bool hc2) ?_
   refine W.seq ?_
   refine W.region ?_
   obtain ⟨t2, hy2, hm⟩ := bind_some hm
   refine O.call Try.call15 rfl rfl rfl (c_noongunlaw02_awake  hy2) ?_
   rintro _ w3 hb3 rfl
   have H := H.ext hb3
   refine O.assign (v := (.bool t2)) rfl rfl rfl ?_
   refine WL.nil ?_
   refine W.ret ?_
   have hq : t2 = r0 := Option.some.inj (show some t2 = some r0 from hm)
   subst hq
   exact ends1 Try.results7 rfl ⟨_, rfl, H.base, rfl⟩
  ·
   refine W.cond_false (congrArg Value.bool hc2) ?_
   refine W.skip ?_
   refine W.seq ?_
   refine W.region ?_
   refine O.loadA [va0_0, va0_1] ag25 rfl rfl rfl rfl (H.cell 0 rfl) ?_
   obtain ⟨⟨t3, t4⟩, hy3, hm⟩ := bind_some hm
   refine O.call Try.call20 rfl rfl rfl (c_sight_Consistent _ _ (GNet.mk a0.Rates a0.Sights) (H.arg ha0_0) (H.arg ha0_1) hy3) ?_
   rintro _ w4 hb4 rfl
   have H := H.ext hb4
   refine O.move (v := (.tuple #[(.bool t3), (.int .i64 t4)])) rfl rfl rfl ?_
   refine O.extract (v := (.bool t3)) rfl rfl rfl rfl ?_
   refine O.extract (v := (.int .i64 t4)) rfl rfl rfl rfl ?_
   refine O.assign (v := (.bool t3)) rfl rfl rfl ?_
   refine O.assign (v := (.int .i64 t4)) rfl rfl rfl ?_
   refine WL.nil ?_
   refine W.seq ?_
   refine W.region ?_
   refine O.loadA [va0_0, va0_1] ag25 rfl rfl rfl rfl (H.cell 0 rfl) ?_
   obtain ⟨⟨t5, t6⟩, hy4, hm⟩ := bind_some hm
   refine O.call Try.call27 rfl rfl rfl (c_noongunref02_Consistent _ _ (GNet.mk a0.Rates a0.Sights) (H.arg ha0_0) (H.arg ha0_1) hy4) ?_
   rintro _ w5 hb5 rfl
   have H := H.ext hb5
   refine O.move (v := (.tuple #[(.bool t5), (.int .i64 t6)])) rfl rfl rfl ?_
   refine O.extract (v := (.bool t5)) rfl rfl rfl rfl ?_
   refine O.extract (v := (.int .i64 t6)) rfl rfl rfl rfl ?_
   refine O.assign (v := (.bool t5)) rfl rfl rfl ?_
   refine O.assign (v := (.int .i64 t6)) rfl rfl rfl ?_
   refine WL.nil ?_
   refine W.seq ?_
   refine W.region ?_
   refine O.loadA [va0_0, va0_1] ag25 rfl rfl rfl rfl (H.cell 0 rfl) ?_
   refine O.move (v := va1) rfl rfl rfl ?_
   obtain ⟨t7, hy5, hm⟩ := bind_some hm
   refine O.call Try.call28 rfl rfl rfl (c_sight_Proves _ _ (GNet.mk a0.Rates a0.Sights) (H.arg ha0_0) (H.arg ha0_1) _ _ (H.arg ha1) hy5) ?_
   rintro _ w6 hb6 rfl
   have H := H.ext hb6
   refine O.assign (v := (.bool t7)) rfl rfl rfl ?_
   refine WL.nil ?_
   refine W.seq ?_
   refine W.seq ?_
   refine W.region ?_
   refine O.move (v := (.bool t3)) rfl rfl rfl ?_
   refine O.move (v := (.bool t5)) rfl rfl rfl ?_
   refine O.neqB Try.underlying4 rfl rfl rfl rfl ?_
   refine O.move (v := (.bool (t3 != t5))) rfl rfl rfl ?_
   refine WL.cut 4 (fun f w => f 1 = va1 ∧ f 2 = (.pointer (some ⟨b1, 0, none⟩)) ∧ f 5 = (.bool t3) ∧ f 6 = (.int .i64 t4) ∧ f 9 = (.bool t7) ∧ f 41 = .bool ((t3 != t5) || (t4 != t6)) ∧ Inv w0 w [boxI b1 25 [va0_0, va0_1]]) ?_ ?_
   ·
    rcases bool_ft (t3 != t5) with hc3 | hc3
    ·
     refine WL.reset (i := 37) (v := .bool false) (congrArg Value.bool hc3) ?_
     refine O.move (v := (.int .i64 t4)) rfl rfl rfl ?_
     refine O.move (v := (.int .i64 t6)) rfl rfl rfl ?_
     refine O.neq rfl rfl rfl rfl ?_
     refine O.pick_false (v := (.bool (t4 != t6))) rfl rfl rfl rfl ?_
     exact WL.nil ⟨rfl, rfl, rfl, rfl, rfl, congrArg Value.bool (or_f hc3), H⟩
    ·
     refine WL.reset (i := 37) (v := .bool true) (congrArg Value.bool hc3) ?_
     refine O.skip rfl rfl ?_
     refine O.skip rfl rfl ?_
     refine O.skip rfl rfl ?_
     refine O.pick_true (v := (.bool true)) rfl rfl rfl rfl ?_
     exact WL.nil ⟨rfl, rfl, rfl, rfl, rfl, congrArg Value.bool (or_t hc3), H⟩
   ·
    rintro f w ⟨hf1, hf2, hf5, hf6, hf9, hf41, H⟩
    obtain ⟨u2, rfl⟩ := up6 hf1 hf2 hf5 hf6 hf9 hf41
    refine O.move (v := (.bool ((t3 != t5) || (t4 != t6)))) rfl rfl rfl ?_
    obtain ⟨b2, hm1, hm⟩ := bind_some hm
    refine WL.cut 6 (fun f w => f 2 = (.pointer (some ⟨b1, 0, none⟩)) ∧ f 5 = (.bool t3) ∧ f 6 = (.int .i64 t4) ∧ f 9 = (.bool t7) ∧ f 48 = .bool b2 ∧ Inv w0 w [boxI b1 25 [va0_0, va0_1]]) ?_ ?_
    ·
     rcases ite_some hm1 with ⟨hc4, hm1⟩ | ⟨hc4, hm1⟩
     ·
      refine WL.reset (i := 42) (v := .bool true) (congrArg Value.bool hc4) ?_
      refine O.skip rfl rfl ?_
      refine O.skip rfl rfl ?_
      refine O.skip rfl rfl ?_
      refine O.skip rfl rfl ?_
      refine O.skip rfl rfl ?_
      refine O.pick_true (v := (.bool true)) rfl rfl rfl rfl ?_
      refine WL.nil ?_
      have hq : true = b2 := Option.some.inj (show some true = some b2 from hm1)
      subst hq
      exact ⟨rfl, rfl, rfl, rfl, rfl, H⟩
     ·
      refine WL.reset (i := 42) (v := .bool false) (congrArg Value.bool hc4) ?_
      refine O.move (v := (.bool t7)) rfl rfl rfl ?_
      refine O.loadA [va0_0, va0_1] ag25 rfl rfl rfl rfl (H.cell 0 rfl) ?_
      refine O.move (v := va1) rfl rfl rfl ?_
      obtain ⟨t8, hy6, hm1⟩ := bind_some hm1
      refine O.call Try.call29 rfl rfl rfl (c_noongunref02_Proves _ _ (GNet.mk a0.Rates a0.Sights) (H.arg ha0_0) (H.arg ha0_1) _ _ (H.arg ha1) hy6) ?_
      rintro _ w7 hb7 rfl
      have H := H.ext hb7
      refine O.neqB Try.underlying4 rfl rfl rfl rfl ?_
      refine O.pick_false (v := (.bool (t7 != t8))) rfl rfl rfl rfl ?_
      refine WL.nil ?_
      have hq : (t7 != t8) = b2 := Option.some.inj (show some (t7 != t8) = some b2 from hm1)
      subst hq
      exact ⟨rfl, rfl, rfl, rfl, rfl, H⟩
    ·
     rintro f w ⟨hf2, hf5, hf6, hf9, hf48, H⟩
     obtain ⟨u3, rfl⟩ := up5 hf2 hf5 hf6 hf9 hf48
     refine O.move (v := (.bool b2)) rfl rfl rfl ?_
     refine WL.cut 5 (fun f w => f 2 = (.pointer (some ⟨b1, 0, none⟩)) ∧ f 5 = (.bool t3) ∧ f 6 = (.int .i64 t4) ∧ f 54 = .bool (b2 || (t7 && t3)) ∧ Inv w0 w [boxI b1 25 [va0_0, va0_1]]) ?_ ?_
     ·
      rcases bool_ft b2 with hc5 | hc5
      ·
       refine WL.reset (i := 49) (v := .bool false) (congrArg Value.bool hc5) ?_
       refine O.move (v := (.bool t7)) rfl rfl rfl ?_
       refine O.move (v := (.bool t7)) rfl rfl rfl ?_
       refine WL.cut 2 (fun f w => f 2 = (.pointer (some ⟨b1, 0, none⟩)) ∧ f 5 = (.bool t3) ∧ f 6 = (.int .i64 t4) ∧ f 49 = (.bool false) ∧ f 53 = .bool (t7 && t3) ∧ Inv w0 w [boxI b1 25 [va0_0, va0_1]]) ?_ ?_
       ·
        rcases bool_ft t7 with hc6 | hc6
        ·
         refine WL.reset (i := 51) (v := .bool false) (congrArg Value.bool hc6) ?_
         refine O.skip rfl rfl ?_
         refine O.pick_false (v := (.bool false)) rfl rfl rfl rfl ?_
         exact WL.nil ⟨rfl, rfl, rfl, rfl, congrArg Value.bool (and_f hc6), H⟩
        ·
         refine WL.reset (i := 51) (v := .bool true) (congrArg Value.bool hc6) ?_
         refine O.move (v := (.bool t3)) rfl rfl rfl ?_
         refine O.pick_true (v := (.bool t3)) rfl rfl rfl rfl ?_
         exact WL.nil ⟨rfl, rfl, rfl, rfl, congrArg Value.bool (and_t hc6), H⟩
       ·
        rintro f w ⟨hf2, hf5, hf6, hf49, hf53, H⟩
        obtain ⟨u4, rfl⟩ := up5 hf2 hf5 hf6 hf49 hf53
        refine O.pick_false (v := (.bool (t7 && t3))) rfl rfl rfl rfl ?_
        exact WL.nil ⟨rfl, rfl, rfl, congrArg Value.bool (or_f hc5), H⟩
      ·
       refine WL.reset (i := 49) (v := .bool true) (congrArg Value.bool hc5) ?_
       refine O.skip rfl rfl ?_
       refine O.skip rfl rfl ?_
       refine O.skip rfl rfl ?_
       refine O.skip rfl rfl ?_
       refine O.pick_true (v := (.bool true)) rfl rfl rfl rfl ?_
       exact WL.nil ⟨rfl, rfl, rfl, congrArg Value.bool (or_t hc5), H⟩
     ·
      rintro f w ⟨hf2, hf5, hf6, hf54, H⟩
      obtain ⟨u5, rfl⟩ := up4 hf2 hf5 hf6 hf54
      refine WL.nil ?_
      rcases ite_some hm with ⟨hc7, hm⟩ | ⟨hc7, hm⟩
      ·
       refine W.cond_true (congrArg Value.bool hc7) ?_
       refine W.seq ?_
       refine W.region ?_
       refine O.assign (v := (.bool false)) rfl rfl rfl ?_
       refine WL.nil ?_
       refine W.ret ?_
       have hq : false = r0 := Option.some.inj (show some false = some r0 from hm)
       subst hq
       exact ends1 Try.results7 rfl ⟨_, rfl, H.base, rfl⟩
      ·
       refine W.cond_false (congrArg Value.bool hc7) ?_
       refine W.skip ?_
       refine W.seq ?_
       refine W.region ?_
       refine O.loadA [va0_0, va0_1] ag25 rfl rfl rfl rfl (H.cell 0 rfl) ?_
       obtain ⟨⟨t9, t10⟩, hy7, hm⟩ := bind_some hm
       refine O.call Try.call30 rfl rfl rfl (c_sight_Conflict _ _ (GNet.mk a0.Rates a0.Sights) (H.arg ha0_0) (H.arg ha0_1) hy7) ?_
       rintro _ w8 hb8 ⟨v1, rfl, ho1⟩
       have H := H.addOwn hb8 ho1
       refine O.move (v := (.tuple #[v1, (.int .i64 t10)])) rfl rfl rfl ?_
       refine O.extract (v := v1) rfl rfl rfl rfl ?_
       refine O.extract (v := (.int .i64 t10)) rfl rfl rfl rfl ?_
       refine O.assign (v := v1) rfl rfl rfl ?_
       refine O.assign (v := (.int .i64 t10)) rfl rfl rfl ?_
       refine WL.nil ?_
       refine W.seq ?_
       refine W.seq ?_
       refine W.region ?_
       refine O.move (v := (.int .i64 t4)) rfl rfl rfl ?_
       refine O.neq rfl rfl rfl rfl ?_
       refine WL.nil ?_
       rcases ite_some hm with ⟨hc8, hm⟩ | ⟨hc8, hm⟩
       ·
        refine W.cond_true (congrArg Value.bool hc8) ?_
        refine W.seq ?_
        refine W.region ?_
        refine O.move (v := (.int .i64 t10)) rfl rfl rfl ?_
        refine O.move (v := (.int .i64 t4)) rfl rfl rfl ?_
        refine O.eql rfl rfl rfl rfl ?_
        refine O.move (v := (.bool (t10 == t4))) rfl rfl rfl ?_
        obtain ⟨b3, hm2, hm⟩ := bind_some hm
        refine WL.cut 2 (fun f w => f 67 = .bool b3 ∧ Inv w0 w [boxI b1 25 [va0_0, va0_1], ownI (α := Int) v1 3 t9]) ?_ ?_
        ·
         rcases ite_some hm2 with ⟨hc9, hm2⟩ | ⟨hc9, hm2⟩
         ·
          refine WL.reset (i := 65) (v := .bool true) (congrArg Value.bool hc9) ?_
          obtain ⟨t11, hy8, hm2⟩ := bind_some hm2
          refine O.call Try.call15 rfl rfl rfl (c_noongunlaw02_awake  hy8) ?_
          rintro _ w9 hb9 rfl
          have H := H.ext hb9
          refine O.pick_true (v := (.bool t11)) rfl rfl rfl rfl ?_
          refine WL.nil ?_
          have hq : t11 = b3 := Option.some.inj (show some t11 = some b3 from hm2)
          subst hq
          exact ⟨rfl, H⟩
         ·
          refine WL.reset (i := 65) (v := .bool false) (congrArg Value.bool hc9) ?_
          refine O.skip rfl rfl ?_
          refine O.pick_false (v := (.bool false)) rfl rfl rfl rfl ?_
          refine WL.nil ?_
          have hq : false = b3 := Option.some.inj (show some false = some b3 from hm2)
          subst hq
          exact ⟨rfl, H⟩
        ·
         rintro f w ⟨hf67, H⟩
         obtain ⟨u6, rfl⟩ := up1 hf67
         refine O.assign (v := (.bool b3)) rfl rfl rfl ?_
         refine WL.nil ?_
         refine W.ret ?_
         have hq : b3 = r0 := Option.some.inj (show some b3 = some r0 from hm)
         subst hq
         exact ends1 Try.results7 rfl ⟨_, rfl, H.base, rfl⟩
       ·
        refine W.cond_false (congrArg Value.bool hc8) ?_
        refine W.skip ?_
        refine W.seq ?_
        refine W.seq ?_
        refine W.region ?_
        refine O.move (v := (.bool t3)) rfl rfl rfl ?_
        refine WL.nil ?_
        rcases ite_some hm with ⟨hc10, hm⟩ | ⟨hc10, hm⟩
        ·
         refine W.cond_true (congrArg Value.bool hc10) ?_
         refine W.seq ?_
         refine W.region ?_
         refine O.move (v := (.int .i64 t10)) rfl rfl rfl ?_
         refine O.eql rfl rfl rfl rfl ?_
         refine O.move (v := (.bool (t10 == 8))) rfl rfl rfl ?_
         obtain ⟨b4, hm3, hm⟩ := bind_some hm
         refine WL.cut 2 (fun f w => f 73 = .bool b4 ∧ Inv w0 w [boxI b1 25 [va0_0, va0_1], ownI (α := Int) v1 3 t9]) ?_ ?_
         ·
          rcases ite_some hm3 with ⟨hc11, hm3⟩ | ⟨hc11, hm3⟩
          ·
           refine WL.reset (i := 71) (v := .bool true) (congrArg Value.bool hc11) ?_
           obtain ⟨t12, hy9, hm3⟩ := bind_some hm3
           refine O.call Try.call15 rfl rfl rfl (c_noongunlaw02_awake  hy9) ?_
           rintro _ w10 hb10 rfl
           have H := H.ext hb10
           refine O.pick_true (v := (.bool t12)) rfl rfl rfl rfl ?_
           refine WL.nil ?_
           have hq : t12 = b4 := Option.some.inj (show some t12 = some b4 from hm3)
           subst hq
           exact ⟨rfl, H⟩
          ·
           refine WL.reset (i := 71) (v := .bool false) (congrArg Value.bool hc11) ?_
           refine O.skip rfl rfl ?_
           refine O.pick_false (v := (.bool false)) rfl rfl rfl rfl ?_
           refine WL.nil ?_
           have hq : false = b4 := Option.some.inj (show some false = some b4 from hm3)
           subst hq
           exact ⟨rfl, H⟩
         ·
          rintro f w ⟨hf73, H⟩
          obtain ⟨u7, rfl⟩ := up1 hf73
          refine O.assign (v := (.bool b4)) rfl rfl rfl ?_
          refine WL.nil ?_
          refine W.ret ?_
          have hq : b4 = r0 := Option.some.inj (show some b4 = some r0 from hm)
          subst hq
          exact ends1 Try.results7 rfl ⟨_, rfl, H.base, rfl⟩
        ·
         refine W.cond_false (congrArg Value.bool hc10) ?_
         refine W.skip ?_
         refine W.seq ?_
         refine W.region ?_
         refine O.move (v := (.int .i64 t10)) rfl rfl rfl ?_
         refine O.eql rfl rfl rfl rfl ?_
         refine O.move (v := (.bool (t10 == 0))) rfl rfl rfl ?_
         refine WL.cut 4 (fun f w => f 2 = (.pointer (some ⟨b1, 0, none⟩)) ∧ f 10 = v1 ∧ f 80 = .bool ((t10 == 0) && (decide (((t9.length : Nat) : Int) ≤ 1000))) ∧ Inv w0 w [boxI b1 25 [va0_0, va0_1], ownI (α := Int) v1 3 t9]) ?_ ?_
         ·
          rcases bool_ft (t10 == 0) with hc12 | hc12
          ·
           refine WL.reset (i := 76) (v := .bool false) (congrArg Value.bool hc12) ?_
           refine O.skip rfl rfl ?_
           refine O.skip rfl rfl ?_
           refine O.skip rfl rfl ?_
           refine O.pick_false (v := (.bool false)) rfl rfl rfl rfl ?_
           exact WL.nil ⟨rfl, rfl, congrArg Value.bool (and_f hc12), H⟩
          ·
           refine WL.reset (i := 76) (v := .bool true) (congrArg Value.bool hc12) ?_
           refine O.move (v := v1) rfl rfl rfl ?_
           refine O.lenS Try.underlying22 (H.own 1 rfl) rfl rfl rfl ?_
           refine O.leq rfl rfl rfl rfl ?_
           refine O.pick_true (v := (.bool (decide (((t9.length : Nat) : Int) ≤ 1000)))) rfl rfl rfl rfl ?_
           exact WL.nil ⟨rfl, rfl, congrArg Value.bool (and_t hc12), H⟩
         ·
          rintro f w ⟨hf2, hf10, hf80, H⟩
          obtain ⟨u8, rfl⟩ := up3 hf2 hf10 hf80
          refine O.move (v := (.bool ((t10 == 0) && (decide (((t9.length : Nat) : Int) ≤ 1000))))) rfl rfl rfl ?_
          obtain ⟨b5, hm4, hm⟩ := bind_some hm
          refine WL.cut 4 (fun f w => f 2 = (.pointer (some ⟨b1, 0, none⟩)) ∧ f 10 = v1 ∧ f 85 = .bool b5 ∧ Inv w0 w [boxI b1 25 [va0_0, va0_1], ownI (α := Int) v1 3 t9]) ?_ ?_
          ·
           rcases ite_some hm4 with ⟨hc13, hm4⟩ | ⟨hc13, hm4⟩
           ·
            refine WL.reset (i := 81) (v := .bool true) (congrArg Value.bool hc13) ?_
            refine O.loadA [va0_0, va0_1] ag25 rfl rfl rfl rfl (H.cell 0 rfl) ?_
            refine O.move (v := v1) rfl rfl rfl ?_
            obtain ⟨t13, hy10, hm4⟩ := bind_some hm4
            refine O.call Try.call29 rfl rfl rfl (c_noongunref02_Proves _ _ (GNet.mk a0.Rates a0.Sights) (H.arg ha0_0) (H.arg ha0_1) _ _ (H.own 1 rfl) hy10) ?_
            rintro _ w11 hb11 rfl
            have H := H.ext hb11
            refine O.pick_true (v := (.bool t13)) rfl rfl rfl rfl ?_
            refine WL.nil ?_
            have hq : t13 = b5 := Option.some.inj (show some t13 = some b5 from hm4)
            subst hq
            exact ⟨rfl, rfl, rfl, H⟩
           ·
            refine WL.reset (i := 81) (v := .bool false) (congrArg Value.bool hc13) ?_
            refine O.skip rfl rfl ?_
            refine O.skip rfl rfl ?_
            refine O.skip rfl rfl ?_
            refine O.pick_false (v := (.bool false)) rfl rfl rfl rfl ?_
            refine WL.nil ?_
            have hq : false = b5 := Option.some.inj (show some false = some b5 from hm4)
            subst hq
            exact ⟨rfl, rfl, rfl, H⟩
          ·
           rintro f w ⟨hf2, hf10, hf85, H⟩
           obtain ⟨u9, rfl⟩ := up3 hf2 hf10 hf85
           refine O.move (v := (.bool b5)) rfl rfl rfl ?_
           obtain ⟨b6, hm5, hm⟩ := bind_some hm
           refine WL.cut 4 (fun f w => f 90 = .bool b6 ∧ Inv w0 w [boxI b1 25 [va0_0, va0_1], ownI (α := Int) v1 3 t9]) ?_ ?_
           ·
            rcases ite_some hm5 with ⟨hc14, hm5⟩ | ⟨hc14, hm5⟩
            ·
             refine WL.reset (i := 86) (v := .bool true) (congrArg Value.bool hc14) ?_
             refine O.loadA [va0_0, va0_1] ag25 rfl rfl rfl rfl (H.cell 0 rfl) ?_
             refine O.move (v := v1) rfl rfl rfl ?_
             obtain ⟨t14, hy11, hm5⟩ := bind_some hm5
             refine O.call Try.call28 rfl rfl rfl (c_sight_Proves _ _ (GNet.mk a0.Rates a0.Sights) (H.arg ha0_0) (H.arg ha0_1) _ _ (H.own 1 rfl) hy11) ?_
             rintro _ w12 hb12 rfl
             have H := H.ext hb12
             refine O.pick_true (v := (.bool t14)) rfl rfl rfl rfl ?_
             refine WL.nil ?_
             have hq : t14 = b6 := Option.some.inj (show some t14 = some b6 from hm5)
             subst hq
             exact ⟨rfl, H⟩
            ·
             refine WL.reset (i := 86) (v := .bool false) (congrArg Value.bool hc14) ?_
             refine O.skip rfl rfl ?_
             refine O.skip rfl rfl ?_
             refine O.skip rfl rfl ?_
             refine O.pick_false (v := (.bool false)) rfl rfl rfl rfl ?_
             refine WL.nil ?_
             have hq : false = b6 := Option.some.inj (show some false = some b6 from hm5)
             subst hq
             exact ⟨rfl, H⟩
           ·
            rintro f w ⟨hf90, H⟩
            obtain ⟨u10, rfl⟩ := up1 hf90
            refine O.move (v := (.bool b6)) rfl rfl rfl ?_
            obtain ⟨b7, hm6, hm⟩ := bind_some hm
            refine WL.cut 2 (fun f w => f 93 = .bool b7 ∧ Inv w0 w [boxI b1 25 [va0_0, va0_1], ownI (α := Int) v1 3 t9]) ?_ ?_
            ·
             rcases ite_some hm6 with ⟨hc15, hm6⟩ | ⟨hc15, hm6⟩
             ·
              refine WL.reset (i := 91) (v := .bool true) (congrArg Value.bool hc15) ?_
              obtain ⟨t15, hy12, hm6⟩ := bind_some hm6
              refine O.call Try.call15 rfl rfl rfl (c_noongunlaw02_awake  hy12) ?_
              rintro _ w13 hb13 rfl
              have H := H.ext hb13
              refine O.pick_true (v := (.bool t15)) rfl rfl rfl rfl ?_
              refine WL.nil ?_
              have hq : t15 = b7 := Option.some.inj (show some t15 = some b7 from hm6)
              subst hq
              exact ⟨rfl, H⟩
             ·
              refine WL.reset (i := 91) (v := .bool false) (congrArg Value.bool hc15) ?_
              refine O.skip rfl rfl ?_
              refine O.pick_false (v := (.bool false)) rfl rfl rfl rfl ?_
              refine WL.nil ?_
              have hq : false = b7 := Option.some.inj (show some false = some b7 from hm6)
              subst hq
              exact ⟨rfl, H⟩
            ·
             rintro f w ⟨hf93, H⟩
             obtain ⟨u11, rfl⟩ := up1 hf93
             refine O.assign (v := (.bool b7)) rfl rfl rfl ?_
             refine WL.nil ?_
             refine W.ret ?_
             have hq : b7 = r0 := Option.some.inj (show some b7 = some r0 from hm)
             subst hq
             exact ends1 Try.results7 rfl ⟨_, rfl, H.base, rfl⟩

end Go.Proofs
