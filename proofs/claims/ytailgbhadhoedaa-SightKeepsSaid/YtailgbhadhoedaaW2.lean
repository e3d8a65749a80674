/-
  The walks: each function does what its model says, where the model has a value. No other condition.
-/
import Derived.Test.YtailgbhadhoedaaW1
namespace Go.Proofs
open Go.Fw Go.RowKit Go.Shelf
set_option maxRecDepth 20000 in
theorem c_sight_Proves {w0 : World} (va0_0 : Value) (va0_1 : Value) (a0 : GNet) (ha0_0 : SliceR w0 va0_0 a0.Rates) (ha0_1 : SliceR w0 va0_1 a0.Sights) (va1 : Value) (a1 : (List Int)) (ha1 : SliceR w0 va1 a1) {r0 : Bool} (hm : sight_Proves a0 a1 = some r0) :
  Calls Try.prog 28 #[(.agg #[va0_0, va0_1]), va1] w0 (Ret w0 fun _ v => v = (.bool r0)) := by
 unfold sight_Proves at hm
 refine calls_of_W Try.func28 rfl Try.ntmps28 (Nat.le_of_ble_eq_true rfl) ?_
 have H := Inv.start (w := w0)
 refine W.seq ?_
 refine W.region ?_
 refine O.box [va0_0, va0_1] H rfl rfl rfl rfl ?_
 intro b1 w1 H hb1
 refine O.assign (v := (.bool false)) rfl rfl rfl ?_
 refine WL.nil ?_
 refine W.seq ?_
 refine W.seq ?_
 refine W.region ?_
 refine O.loadA [va0_0, va0_1] ag25 rfl rfl rfl rfl (H.cell 0 rfl) ?_
 obtain ⟨t1, hy1, hm⟩ := bind_some hm
 refine O.call Try.call33 rfl rfl rfl (c_sight_Valid _ _ (GNet.mk a0.Rates a0.Sights) (H.arg ha0_0) (H.arg ha0_1) hy1) ?_
 rintro _ w2 hb2 rfl
 have H := H.ext hb2
 refine O.not rfl rfl rfl ?_
 refine O.move (v := (.bool (!t1))) rfl rfl rfl ?_
 refine WL.cut 4 (fun f w => f 1 = va1 ∧ f 2 = (.pointer (some ⟨b1, 0, none⟩)) ∧ f 21 = .bool ((!t1) || (((a1.length : Nat) : Int) == 0)) ∧ Inv w0 w [boxI b1 25 [va0_0, va0_1]]) ?_ ?_
 ·
  rcases bool_ft (!t1) with hc1 | hc1
  ·
   refine WL.reset (i := 17) (v := .bool false) (congrArg Value.bool hc1) ?_
   refine O.move (v := va1) rfl rfl rfl ?_
   refine O.lenS Try.underlying22 (H.arg ha1) rfl rfl rfl ?_
   refine O.eql rfl rfl rfl rfl ?_
   refine O.pick_false (v := (.bool (((a1.length : Nat) : Int) == 0))) rfl rfl rfl rfl ?_
   exact WL.nil ⟨rfl, rfl, congrArg Value.bool (or_f hc1), H⟩
  ·
   refine WL.reset (i := 17) (v := .bool true) (congrArg Value.bool hc1) ?_
   refine O.skip rfl rfl ?_
   refine O.skip rfl rfl ?_
   refine O.skip rfl rfl ?_
   refine O.pick_true (v := (.bool true)) rfl rfl rfl rfl ?_
   exact WL.nil ⟨rfl, rfl, congrArg Value.bool (or_t hc1), H⟩
 ·
  rintro f w ⟨hf1, hf2, hf21, H⟩
  obtain ⟨u1, rfl⟩ := up3 hf1 hf2 hf21
  refine O.move (v := (.bool ((!t1) || (((a1.length : Nat) : Int) == 0)))) rfl rfl rfl ?_
  obtain ⟨b2, hm1, hm⟩ := bind_some hm
  refine WL.cut 4 (fun f w => f 1 = va1 ∧ f 2 = (.pointer (some ⟨b1, 0, none⟩)) ∧ f 26 = .bool b2 ∧ Inv w0 w [boxI b1 25 [va0_0, va0_1]]) ?_ ?_
  ·
   rcases ite_some hm1 with ⟨hc2, hm1⟩ | ⟨hc2, hm1⟩
   ·
    refine WL.reset (i := 22) (v := .bool true) (congrArg Value.bool hc2) ?_
    refine O.skip rfl rfl ?_
    refine O.skip rfl rfl ?_
    refine O.skip rfl rfl ?_
    refine O.pick_true (v := (.bool true)) rfl rfl rfl rfl ?_
    refine WL.nil ?_
    have hq : true = b2 := Option.some.inj (show some true = some b2 from hm1)
    subst hq
    exact ⟨rfl, rfl, rfl, H⟩
   ·
    refine WL.reset (i := 22) (v := .bool false) (congrArg Value.bool hc2) ?_
    refine O.move (v := va1) rfl rfl rfl ?_
    refine O.makeFunc rfl rfl rfl rfl ?_
    obtain ⟨t2, hy2, hm1⟩ := bind_some hm1
    refine O.call Try.call69 rfl rfl rfl (c_slices_ContainsFunc_int _ _ (H.arg ha1) _ (fun x0 => sight_Proves_c1 x0 (GNet.mk a0.Rates a0.Sights)) (fun w hw x0 _ hy => callsV_mk Try.call70 (c_sight_Proves_c1 x0 _ _ _ (GNet.mk a0.Rates a0.Sights) (cells_mono (H.cell 0 rfl) hw) ((H.arg ha0_0).mono hw) ((H.arg ha0_1).mono hw) hy)) hy2) ?_
    rintro _ w3 hb3 rfl
    have H := H.ext hb3
    refine O.pick_false (v := (.bool t2)) rfl rfl rfl rfl ?_
    refine WL.nil ?_
    have hq : t2 = b2 := Option.some.inj (show some t2 = some b2 from hm1)
    subst hq
    exact ⟨rfl, rfl, rfl, H⟩
  ·
   rintro f w ⟨hf1, hf2, hf26, H⟩
   obtain ⟨u2, rfl⟩ := up3 hf1 hf2 hf26
   refine WL.nil ?_
   rcases ite_some hm with ⟨hc3, hm⟩ | ⟨hc3, hm⟩
   ·
    refine W.cond_true (congrArg Value.bool hc3) ?_
    refine W.seq ?_
    refine W.region ?_
    refine O.assign (v := (.bool false)) rfl rfl rfl ?_
    refine WL.nil ?_
    refine W.ret ?_
    have hq : false = r0 := Option.some.inj (show some false = some r0 from hm)
    subst hq
    exact ends1 Try.results28 rfl ⟨_, rfl, H.base, rfl⟩
   ·
    refine W.cond_false (congrArg Value.bool hc3) ?_
    refine W.skip ?_
    refine W.seq ?_
    refine W.region ?_
    refine O.assign (v := (.int .i64 0)) rfl rfl rfl ?_
    refine WL.nil ?_
    refine W.seq ?_
    refine W.seq ?_
    refine W.region ?_
    refine O.move (v := va1) rfl rfl rfl ?_
    refine O.lenS Try.underlying22 (H.arg ha1) rfl rfl rfl ?_
    refine O.move (v := (.int .i64 0)) rfl rfl rfl ?_
    refine WL.nil ?_
    obtain ⟨o1, hm2, hm⟩ := bind_some hm
    refine W.via (fun f w => ∃ s1 : Int, o1 = .next s1 ∧ f 5 = (.int .i64 s1) ∧ Inv w0 w []) ?_ ?_
    ·
     refine W.block ?_
     have hbdik1 := (H.arg ha1).len_le
     refine W.rangeN (i := 0) hm2 (fun rem ik1 s f w => ∃ z2 : Int, z2 = s ∧ (ik1 : Int) + rem = max 0 ((a1.length : Nat) : Int) ∧ f 29 = .int .i64 (ik1 : Int) ∧ f 28 = (.int .i64 ((a1.length : Nat) : Int)) ∧ f 1 = va1 ∧ f 2 = (.pointer (some ⟨b1, 0, none⟩)) ∧ f 5 = (.int .i64 z2) ∧ f 27 = va1 ∧ Inv w0 w [boxI b1 25 [va0_0, va0_1]]) ?_ ?_ ?_
     ·
      exact ⟨_, rfl, rangeN_start, rfl, rfl, rfl, rfl, rfl, rfl, H⟩
     ·
      rintro k ik1 _ st f w ⟨z2, rfl, hdropk1, hf29, hf28, hf1, hf2, hf5, hf27, H⟩ hm3
      have hltk1 := rangeN_lt hdropk1
      obtain ⟨u3, rfl⟩ := up6 hf29 hf28 hf1 hf2 hf5 hf27
      have hinck1 := addI_lt hltk1 hbdik1
      refine W.seq ?_
      refine W.region ?_
      refine O.lss rfl rfl rfl rfl ?_
      refine WL.nil ?_
      refine W.seq ?_
      refine W.cond_true (congrArg Value.bool (decide_eq_true hltk1)) ?_
      refine W.skip ?_
      refine W.seq ?_
      refine W.block ?_
      refine W.seq ?_
      refine W.region ?_
      refine O.move (v := (.int .i64 (ik1 : Int))) rfl rfl rfl ?_
      obtain ⟨x1, hx1, hm3⟩ := bind_some hm3
      obtain ⟨p1, hp1, hrp1⟩ := fix_indexAddr Try.underlying22 sz3 ha1 hx1
      refine hrp1 rfl rfl rfl rfl ?_
      refine O.load sc3 rfl rfl rfl ((hp1.mono H.base).flat 0 _ rfl) ?_
      refine O.assign (v := (.int .i64 (ik1 : Int))) rfl rfl rfl ?_
      refine O.assign (v := (.int .i64 x1)) rfl rfl rfl ?_
      refine WL.nil ?_
      refine W.seq ?_
      refine W.region ?_
      refine O.loadA [va0_0, va0_1] ag25 rfl rfl rfl rfl (H.cell 0 rfl) ?_
      refine O.move (v := (.int .i64 x1)) rfl rfl rfl ?_
      obtain ⟨⟨t3, t4, t5⟩, hy3, hm3⟩ := bind_some hm3
      refine O.call Try.call71 rfl rfl rfl (c_sight_taken _ _ (GNet.mk a0.Rates a0.Sights) (H.arg ha0_0) (H.arg ha0_1) _ hy3) ?_
      rintro _ w4 hb4 rfl
      have H := H.ext hb4
      refine O.move (v := (.tuple #[(.agg (Flat.cells t3).toArray), (.agg (Flat.cells t4).toArray), (.int .i64 t5)])) rfl rfl rfl ?_
      refine O.extract (v := (.agg (Flat.cells t3).toArray)) rfl rfl rfl rfl ?_
      refine O.extract (v := (.agg (Flat.cells t4).toArray)) rfl rfl rfl rfl ?_
      refine O.extract (v := (.int .i64 t5)) rfl rfl rfl rfl ?_
      refine O.alloc [(.int .i64 0), (.int .i64 0)] ze87 H rfl rfl rfl ?_
      intro b3 w5 H hb5
      refine O.alloc [(.int .i64 0), (.int .i64 0)] ze87 H rfl rfl rfl ?_
      intro b4 w6 H hb6
      refine O.store 1 0 [(.int .i64 t3.clock), (.int .i64 t3.at_)] [(.int .i64 t3.clock), (.int .i64 t3.at_)] sz87 H rfl rfl rfl rfl rfl rfl ⟨⟨rfl, rfl⟩, rfl⟩ (one_cons rfl (one_cons rfl one_nil)) ?_
      intro w7 H
      refine O.store 2 0 [(.int .i64 t4.clock), (.int .i64 t4.at_)] [(.int .i64 t4.clock), (.int .i64 t4.at_)] sz87 H rfl rfl rfl rfl rfl rfl ⟨⟨rfl, rfl⟩, rfl⟩ (one_cons rfl (one_cons rfl one_nil)) ?_
      intro w8 H
      refine O.assign (v := (.int .i64 t5)) rfl rfl rfl ?_
      refine WL.nil ?_
      refine W.seq ?_
      obtain ⟨t6, ht6, hm3⟩ := bind_some hm3
      obtain ⟨t7, ht7, hm3⟩ := bind_some hm3
      obtain ⟨x2, hx2, hm3⟩ := bind_some hm3
      obtain ⟨p2, hp2, hrp2⟩ := fix_indexAddr Try.underlying22 sz3 ha1 hx2
      obtain ⟨⟨t8, t9, t10⟩, hy4, hm3⟩ := bind_some hm3
      have H := H.addGone
      have H := H.addGone
      refine W.drawD 18 [[], [], [], [2], [], [4], [2, 3, 4, 5], [1, 2, 3, 4, 5, 6], [1, 2, 3, 4, 5, 6, 7], [0, 1, 2, 3, 4, 5, 6, 7, 8], [0, 1, 2, 3, 4, 5, 6, 7, 8, 9], [0, 1, 2, 3, 4, 5, 6, 7, 8, 9, 10], [0, 1, 2, 3, 4, 5, 6, 7, 8, 9, 10], [0, 1, 2, 3, 4, 5, 6, 7, 8, 9, 10], [], [], [0, 1, 2, 3, 4, 5, 6, 7, 8, 9, 10, 11, 14, 15], [0, 1, 2, 3, 4, 5, 6, 7, 8, 9, 10, 11, 12, 14, 15, 16]] [[9, 10, 11, 12, 13, 16, 17], [7, 8, 9, 10, 11, 12, 13, 16, 17], [3, 6, 7, 8, 9, 10, 11, 12, 13, 16, 17], [6, 7, 8, 9, 10, 11, 12, 13, 16, 17], [5, 6, 7, 8, 9, 10, 11, 12, 13, 16, 17], [6, 7, 8, 9, 10, 11, 12, 13, 16, 17], [7, 8, 9, 10, 11, 12, 13, 16, 17], [8, 9, 10, 11, 12, 13, 16, 17], [9, 10, 11, 12, 13, 16, 17], [10, 11, 12, 13, 16, 17], [11, 12, 13, 16, 17], [16, 17], [17], [], [16, 17], [16, 17], [17], []] (fun S f w => ∃ b5 : Nat, ∃ b6 : Nat, f 1 = va1 ∧ f 2 = (.pointer (some ⟨b1, 0, none⟩)) ∧ f 5 = (.int .i64 z2) ∧ f 6 = (.int .i64 (ik1 : Int)) ∧ f 9 = (.pointer (some ⟨b4, 0, none⟩)) ∧ f 10 = (.int .i64 t5) ∧ f 27 = va1 ∧ f 28 = (.int .i64 ((a1.length : Nat) : Int)) ∧ f 29 = (.int .i64 (ik1 : Int)) ∧ (S 0 = true → f 42 = (.agg #[va0_0, va0_1])) ∧ (S 1 = true → f 43 = va1) ∧ (S 2 = true → f 44 = (.int .i64 (ik1 : Int))) ∧ (S 3 = true → f 45 = (.int .i64 t6)) ∧ (S 4 = true → f 46 = va1) ∧ (S 5 = true → f 47 = (.int .i64 ((a1.length : Nat) : Int))) ∧ (S 6 = true → f 48 = (.int .i64 t7)) ∧ (S 7 = true → f 49 = (.pointer (some p2))) ∧ (S 8 = true → f 50 = (.int .i64 x2)) ∧ (S 9 = true → f 51 = (.tuple #[(.agg (Flat.cells t8).toArray), (.agg (Flat.cells t9).toArray), (.int .i64 t10)])) ∧ (S 10 = true → f 41 = (.tuple #[(.agg (Flat.cells t8).toArray), (.agg (Flat.cells t9).toArray), (.int .i64 t10)])) ∧ (S 11 = true → f 52 = (.agg (Flat.cells t8).toArray)) ∧ (S 12 = true → f 53 = (.agg (Flat.cells t9).toArray)) ∧ (S 13 = true → f 54 = (.int .i64 t10)) ∧ (S 14 = true → f 11 = (.pointer (some ⟨b5, 0, none⟩))) ∧ (S 15 = true → f 12 = (.pointer (some ⟨b6, 0, none⟩))) ∧ (S 16 = true → S 14 = true) ∧ (S 16 = true → S 15 = true) ∧ (S 17 = true → S 14 = true) ∧ (S 17 = true → S 15 = true) ∧ (S 17 = true → S 16 = true) ∧ (S 14 = false → S 15 = false → S 16 = false → S 17 = false → Inv w0 w [boxI b1 25 [va0_0, va0_1], boxI b3 87 [(.int .i64 t3.clock), (.int .i64 t3.at_)], boxI b4 87 [(.int .i64 t4.clock), (.int .i64 t4.at_)], goneI, goneI]) ∧ (S 14 = true → S 15 = false → S 16 = false → S 17 = false → Inv w0 w [boxI b1 25 [va0_0, va0_1], boxI b3 87 [(.int .i64 t3.clock), (.int .i64 t3.at_)], boxI b4 87 [(.int .i64 t4.clock), (.int .i64 t4.at_)], boxI b5 87 [(.int .i64 0), (.int .i64 0)], goneI]) ∧ (S 14 = false → S 15 = true → S 16 = false → S 17 = false → Inv w0 w [boxI b1 25 [va0_0, va0_1], boxI b3 87 [(.int .i64 t3.clock), (.int .i64 t3.at_)], boxI b4 87 [(.int .i64 t4.clock), (.int .i64 t4.at_)], goneI, boxI b6 87 [(.int .i64 0), (.int .i64 0)]]) ∧ (S 14 = true → S 15 = true → S 16 = false → S 17 = false → Inv w0 w [boxI b1 25 [va0_0, va0_1], boxI b3 87 [(.int .i64 t3.clock), (.int .i64 t3.at_)], boxI b4 87 [(.int .i64 t4.clock), (.int .i64 t4.at_)], boxI b5 87 [(.int .i64 0), (.int .i64 0)], boxI b6 87 [(.int .i64 0), (.int .i64 0)]]) ∧ (S 14 = true → S 15 = true → S 16 = true → S 17 = false → Inv w0 w [boxI b1 25 [va0_0, va0_1], boxI b3 87 [(.int .i64 t3.clock), (.int .i64 t3.at_)], boxI b4 87 [(.int .i64 t4.clock), (.int .i64 t4.at_)], boxI b5 87 [(.int .i64 t8.clock), (.int .i64 t8.at_)], boxI b6 87 [(.int .i64 0), (.int .i64 0)]]) ∧ (S 14 = true → S 15 = true → S 16 = true → S 17 = true → Inv w0 w [boxI b1 25 [va0_0, va0_1], boxI b3 87 [(.int .i64 t3.clock), (.int .i64 t3.at_)], boxI b4 87 [(.int .i64 t4.clock), (.int .i64 t4.at_)], boxI b5 87 [(.int .i64 t8.clock), (.int .i64 t8.at_)], boxI b6 87 [(.int .i64 t9.clock), (.int .i64 t9.at_)]])) fol (by kernel_rfl) ?_ ?_ ?_
      ·
       exact fun d _ => ⟨0, 0, rfl, rfl, rfl, rfl, rfl, rfl, rfl, rfl, rfl, nF, nF, nF, nF, nF, nF, nF, nF, nF, nF, nF, nF, nF, nF, nF, nF, nF, nF, nF, nF, nF, (fun _ _ _ _ => H.ext (below_drawn d)), (fun a _ _ _ => nF a), (fun _ a _ _ => nF a), (fun a _ _ _ => nF a), (fun a _ _ _ => nF a), (fun a _ _ _ => nF a)⟩
      ·
       refine ⟨?_, ⟨?_, ⟨?_, ⟨?_, ⟨?_, ⟨?_, ⟨?_, ⟨?_, ⟨?_, ⟨?_, ⟨?_, ⟨?_, ⟨?_, ⟨?_, ⟨?_, ⟨?_, ⟨?_, ⟨?_, trivial⟩⟩⟩⟩⟩⟩⟩⟩⟩⟩⟩⟩⟩⟩⟩⟩⟩⟩
       ·
        rintro S f w hS - ⟨e9, e10, e11, e12, e13, e16, e17, -⟩ ⟨b5, b6, hf1, hf2, hf5, hf6, hf9, hf10, hf27, hf28, hf29, hd0, hd1, hd2, hd3, hd4, hd5, hd6, hd7, hd8, hd9, hd10, hd11, hd12, hd13, hd14, hd15, C16_14, C16_15, C17_14, C17_15, C17_16, W0, W1, W2, W3, W4, W5⟩
        obtain ⟨u4, rfl⟩ := up1 hf2
        rcases bool_ft (S 14) with e14 | e14
        ·
         rcases bool_ft (S 15) with e15 | e15
         ·
          have H := W0 e14 e15 e16 e17
          refine O.loadA [va0_0, va0_1] ag25 rfl rfl rfl rfl (H.cell 0 rfl) ?_
          exact WL.nil ⟨b5, b6, hf1, rfl, hf5, hf6, hf9, hf10, hf27, hf28, hf29, (fun _ => rfl), hd1, hd2, hd3, hd4, hd5, hd6, hd7, hd8, hd9, hd10, hd11, hd12, hd13, hd14, hd15, C16_14, C16_15, C17_14, C17_15, C17_16, (fun _ _ _ _ => H), (fun a _ _ _ => nX e14 a), (fun _ a _ _ => nX e15 a), (fun a _ _ _ => nX e14 a), (fun a _ _ _ => nX e14 a), (fun a _ _ _ => nX e14 a)⟩
         ·
          have H := W2 e14 e15 e16 e17
          refine O.loadA [va0_0, va0_1] ag25 rfl rfl rfl rfl (H.cell 0 rfl) ?_
          exact WL.nil ⟨b5, b6, hf1, rfl, hf5, hf6, hf9, hf10, hf27, hf28, hf29, (fun _ => rfl), hd1, hd2, hd3, hd4, hd5, hd6, hd7, hd8, hd9, hd10, hd11, hd12, hd13, hd14, hd15, C16_14, C16_15, C17_14, C17_15, C17_16, (fun _ a _ _ => nT e15 a), (fun a _ _ _ => nX e14 a), (fun _ _ _ _ => H), (fun a _ _ _ => nX e14 a), (fun a _ _ _ => nX e14 a), (fun a _ _ _ => nX e14 a)⟩
        ·
         rcases bool_ft (S 15) with e15 | e15
         ·
          have H := W1 e14 e15 e16 e17
          refine O.loadA [va0_0, va0_1] ag25 rfl rfl rfl rfl (H.cell 0 rfl) ?_
          exact WL.nil ⟨b5, b6, hf1, rfl, hf5, hf6, hf9, hf10, hf27, hf28, hf29, (fun _ => rfl), hd1, hd2, hd3, hd4, hd5, hd6, hd7, hd8, hd9, hd10, hd11, hd12, hd13, hd14, hd15, C16_14, C16_15, C17_14, C17_15, C17_16, (fun a _ _ _ => nT e14 a), (fun _ _ _ _ => H), (fun a _ _ _ => nT e14 a), (fun _ a _ _ => nX e15 a), (fun _ a _ _ => nX e15 a), (fun _ a _ _ => nX e15 a)⟩
         ·
          have H := W3 e14 e15 e16 e17
          refine O.loadA [va0_0, va0_1] ag25 rfl rfl rfl rfl (H.cell 0 rfl) ?_
          exact WL.nil ⟨b5, b6, hf1, rfl, hf5, hf6, hf9, hf10, hf27, hf28, hf29, (fun _ => rfl), hd1, hd2, hd3, hd4, hd5, hd6, hd7, hd8, hd9, hd10, hd11, hd12, hd13, hd14, hd15, C16_14, C16_15, C17_14, C17_15, C17_16, (fun a _ _ _ => nT e14 a), (fun _ a _ _ => nT e15 a), (fun a _ _ _ => nT e14 a), (fun _ _ _ _ => H), (fun _ _ a _ => nX e16 a), (fun _ _ a _ => nX e16 a)⟩
       ·
        rintro S f w hS - ⟨e7, e8, e9, e10, e11, e12, e13, e16, e17, -⟩ ⟨b5, b6, hf1, hf2, hf5, hf6, hf9, hf10, hf27, hf28, hf29, hd0, hd1, hd2, hd3, hd4, hd5, hd6, hd7, hd8, hd9, hd10, hd11, hd12, hd13, hd14, hd15, C16_14, C16_15, C17_14, C17_15, C17_16, W0, W1, W2, W3, W4, W5⟩
        obtain ⟨u5, rfl⟩ := up1 hf1
        rcases bool_ft (S 14) with e14 | e14
        ·
         rcases bool_ft (S 15) with e15 | e15
         ·
          have H := W0 e14 e15 e16 e17
          refine O.move (v := va1) rfl rfl rfl ?_
          exact WL.nil ⟨b5, b6, rfl, hf2, hf5, hf6, hf9, hf10, hf27, hf28, hf29, hd0, (fun _ => rfl), hd2, hd3, hd4, hd5, hd6, hd7, hd8, hd9, hd10, hd11, hd12, hd13, hd14, hd15, C16_14, C16_15, C17_14, C17_15, C17_16, (fun _ _ _ _ => H), (fun a _ _ _ => nX e14 a), (fun _ a _ _ => nX e15 a), (fun a _ _ _ => nX e14 a), (fun a _ _ _ => nX e14 a), (fun a _ _ _ => nX e14 a)⟩
         ·
          have H := W2 e14 e15 e16 e17
          refine O.move (v := va1) rfl rfl rfl ?_
          exact WL.nil ⟨b5, b6, rfl, hf2, hf5, hf6, hf9, hf10, hf27, hf28, hf29, hd0, (fun _ => rfl), hd2, hd3, hd4, hd5, hd6, hd7, hd8, hd9, hd10, hd11, hd12, hd13, hd14, hd15, C16_14, C16_15, C17_14, C17_15, C17_16, (fun _ a _ _ => nT e15 a), (fun a _ _ _ => nX e14 a), (fun _ _ _ _ => H), (fun a _ _ _ => nX e14 a), (fun a _ _ _ => nX e14 a), (fun a _ _ _ => nX e14 a)⟩
        ·
         rcases bool_ft (S 15) with e15 | e15
         ·
          have H := W1 e14 e15 e16 e17
          refine O.move (v := va1) rfl rfl rfl ?_
          exact WL.nil ⟨b5, b6, rfl, hf2, hf5, hf6, hf9, hf10, hf27, hf28, hf29, hd0, (fun _ => rfl), hd2, hd3, hd4, hd5, hd6, hd7, hd8, hd9, hd10, hd11, hd12, hd13, hd14, hd15, C16_14, C16_15, C17_14, C17_15, C17_16, (fun a _ _ _ => nT e14 a), (fun _ _ _ _ => H), (fun a _ _ _ => nT e14 a), (fun _ a _ _ => nX e15 a), (fun _ a _ _ => nX e15 a), (fun _ a _ _ => nX e15 a)⟩
         ·
          have H := W3 e14 e15 e16 e17
          refine O.move (v := va1) rfl rfl rfl ?_
          exact WL.nil ⟨b5, b6, rfl, hf2, hf5, hf6, hf9, hf10, hf27, hf28, hf29, hd0, (fun _ => rfl), hd2, hd3, hd4, hd5, hd6, hd7, hd8, hd9, hd10, hd11, hd12, hd13, hd14, hd15, C16_14, C16_15, C17_14, C17_15, C17_16, (fun a _ _ _ => nT e14 a), (fun _ a _ _ => nT e15 a), (fun a _ _ _ => nT e14 a), (fun _ _ _ _ => H), (fun _ _ a _ => nX e16 a), (fun _ _ a _ => nX e16 a)⟩
       ·
        rintro S f w hS - ⟨e3, e6, e7, e8, e9, e10, e11, e12, e13, e16, e17, -⟩ ⟨b5, b6, hf1, hf2, hf5, hf6, hf9, hf10, hf27, hf28, hf29, hd0, hd1, hd2, hd3, hd4, hd5, hd6, hd7, hd8, hd9, hd10, hd11, hd12, hd13, hd14, hd15, C16_14, C16_15, C17_14, C17_15, C17_16, W0, W1, W2, W3, W4, W5⟩
        obtain ⟨u6, rfl⟩ := up1 hf6
        rcases bool_ft (S 14) with e14 | e14
        ·
         rcases bool_ft (S 15) with e15 | e15
         ·
          have H := W0 e14 e15 e16 e17
          refine O.move (v := (.int .i64 (ik1 : Int))) rfl rfl rfl ?_
          exact WL.nil ⟨b5, b6, hf1, hf2, hf5, rfl, hf9, hf10, hf27, hf28, hf29, hd0, hd1, (fun _ => rfl), hd3, hd4, hd5, hd6, hd7, hd8, hd9, hd10, hd11, hd12, hd13, hd14, hd15, C16_14, C16_15, C17_14, C17_15, C17_16, (fun _ _ _ _ => H), (fun a _ _ _ => nX e14 a), (fun _ a _ _ => nX e15 a), (fun a _ _ _ => nX e14 a), (fun a _ _ _ => nX e14 a), (fun a _ _ _ => nX e14 a)⟩
         ·
          have H := W2 e14 e15 e16 e17
          refine O.move (v := (.int .i64 (ik1 : Int))) rfl rfl rfl ?_
          exact WL.nil ⟨b5, b6, hf1, hf2, hf5, rfl, hf9, hf10, hf27, hf28, hf29, hd0, hd1, (fun _ => rfl), hd3, hd4, hd5, hd6, hd7, hd8, hd9, hd10, hd11, hd12, hd13, hd14, hd15, C16_14, C16_15, C17_14, C17_15, C17_16, (fun _ a _ _ => nT e15 a), (fun a _ _ _ => nX e14 a), (fun _ _ _ _ => H), (fun a _ _ _ => nX e14 a), (fun a _ _ _ => nX e14 a), (fun a _ _ _ => nX e14 a)⟩
        ·
         rcases bool_ft (S 15) with e15 | e15
         ·
          have H := W1 e14 e15 e16 e17
          refine O.move (v := (.int .i64 (ik1 : Int))) rfl rfl rfl ?_
          exact WL.nil ⟨b5, b6, hf1, hf2, hf5, rfl, hf9, hf10, hf27, hf28, hf29, hd0, hd1, (fun _ => rfl), hd3, hd4, hd5, hd6, hd7, hd8, hd9, hd10, hd11, hd12, hd13, hd14, hd15, C16_14, C16_15, C17_14, C17_15, C17_16, (fun a _ _ _ => nT e14 a), (fun _ _ _ _ => H), (fun a _ _ _ => nT e14 a), (fun _ a _ _ => nX e15 a), (fun _ a _ _ => nX e15 a), (fun _ a _ _ => nX e15 a)⟩
         ·
          have H := W3 e14 e15 e16 e17
          refine O.move (v := (.int .i64 (ik1 : Int))) rfl rfl rfl ?_
          exact WL.nil ⟨b5, b6, hf1, hf2, hf5, rfl, hf9, hf10, hf27, hf28, hf29, hd0, hd1, (fun _ => rfl), hd3, hd4, hd5, hd6, hd7, hd8, hd9, hd10, hd11, hd12, hd13, hd14, hd15, C16_14, C16_15, C17_14, C17_15, C17_16, (fun a _ _ _ => nT e14 a), (fun _ a _ _ => nT e15 a), (fun a _ _ _ => nT e14 a), (fun _ _ _ _ => H), (fun _ _ a _ => nX e16 a), (fun _ _ a _ => nX e16 a)⟩
       ·
        rintro S f w hS ⟨e2, -⟩ ⟨e6, e7, e8, e9, e10, e11, e12, e13, e16, e17, -⟩ ⟨b5, b6, hf1, hf2, hf5, hf6, hf9, hf10, hf27, hf28, hf29, hd0, hd1, hd2, hd3, hd4, hd5, hd6, hd7, hd8, hd9, hd10, hd11, hd12, hd13, hd14, hd15, C16_14, C16_15, C17_14, C17_15, C17_16, W0, W1, W2, W3, W4, W5⟩
        have hf44 := hd2 e2
        obtain ⟨u7, rfl⟩ := up1 hf44
        rcases bool_ft (S 14) with e14 | e14
        ·
         rcases bool_ft (S 15) with e15 | e15
         ·
          have H := W0 e14 e15 e16 e17
          refine O.add rfl rfl rfl rfl ht6 ?_
          exact WL.nil ⟨b5, b6, hf1, hf2, hf5, hf6, hf9, hf10, hf27, hf28, hf29, hd0, hd1, hd2, (fun _ => rfl), hd4, hd5, hd6, hd7, hd8, hd9, hd10, hd11, hd12, hd13, hd14, hd15, C16_14, C16_15, C17_14, C17_15, C17_16, (fun _ _ _ _ => H), (fun a _ _ _ => nX e14 a), (fun _ a _ _ => nX e15 a), (fun a _ _ _ => nX e14 a), (fun a _ _ _ => nX e14 a), (fun a _ _ _ => nX e14 a)⟩
         ·
          have H := W2 e14 e15 e16 e17
          refine O.add rfl rfl rfl rfl ht6 ?_
          exact WL.nil ⟨b5, b6, hf1, hf2, hf5, hf6, hf9, hf10, hf27, hf28, hf29, hd0, hd1, hd2, (fun _ => rfl), hd4, hd5, hd6, hd7, hd8, hd9, hd10, hd11, hd12, hd13, hd14, hd15, C16_14, C16_15, C17_14, C17_15, C17_16, (fun _ a _ _ => nT e15 a), (fun a _ _ _ => nX e14 a), (fun _ _ _ _ => H), (fun a _ _ _ => nX e14 a), (fun a _ _ _ => nX e14 a), (fun a _ _ _ => nX e14 a)⟩
        ·
         rcases bool_ft (S 15) with e15 | e15
         ·
          have H := W1 e14 e15 e16 e17
          refine O.add rfl rfl rfl rfl ht6 ?_
          exact WL.nil ⟨b5, b6, hf1, hf2, hf5, hf6, hf9, hf10, hf27, hf28, hf29, hd0, hd1, hd2, (fun _ => rfl), hd4, hd5, hd6, hd7, hd8, hd9, hd10, hd11, hd12, hd13, hd14, hd15, C16_14, C16_15, C17_14, C17_15, C17_16, (fun a _ _ _ => nT e14 a), (fun _ _ _ _ => H), (fun a _ _ _ => nT e14 a), (fun _ a _ _ => nX e15 a), (fun _ a _ _ => nX e15 a), (fun _ a _ _ => nX e15 a)⟩
         ·
          have H := W3 e14 e15 e16 e17
          refine O.add rfl rfl rfl rfl ht6 ?_
          exact WL.nil ⟨b5, b6, hf1, hf2, hf5, hf6, hf9, hf10, hf27, hf28, hf29, hd0, hd1, hd2, (fun _ => rfl), hd4, hd5, hd6, hd7, hd8, hd9, hd10, hd11, hd12, hd13, hd14, hd15, C16_14, C16_15, C17_14, C17_15, C17_16, (fun a _ _ _ => nT e14 a), (fun _ a _ _ => nT e15 a), (fun a _ _ _ => nT e14 a), (fun _ _ _ _ => H), (fun _ _ a _ => nX e16 a), (fun _ _ a _ => nX e16 a)⟩
       ·
        rintro S f w hS - ⟨e5, e6, e7, e8, e9, e10, e11, e12, e13, e16, e17, -⟩ ⟨b5, b6, hf1, hf2, hf5, hf6, hf9, hf10, hf27, hf28, hf29, hd0, hd1, hd2, hd3, hd4, hd5, hd6, hd7, hd8, hd9, hd10, hd11, hd12, hd13, hd14, hd15, C16_14, C16_15, C17_14, C17_15, C17_16, W0, W1, W2, W3, W4, W5⟩
        obtain ⟨u8, rfl⟩ := up1 hf1
        rcases bool_ft (S 14) with e14 | e14
        ·
         rcases bool_ft (S 15) with e15 | e15
         ·
          have H := W0 e14 e15 e16 e17
          refine O.move (v := va1) rfl rfl rfl ?_
          exact WL.nil ⟨b5, b6, rfl, hf2, hf5, hf6, hf9, hf10, hf27, hf28, hf29, hd0, hd1, hd2, hd3, (fun _ => rfl), hd5, hd6, hd7, hd8, hd9, hd10, hd11, hd12, hd13, hd14, hd15, C16_14, C16_15, C17_14, C17_15, C17_16, (fun _ _ _ _ => H), (fun a _ _ _ => nX e14 a), (fun _ a _ _ => nX e15 a), (fun a _ _ _ => nX e14 a), (fun a _ _ _ => nX e14 a), (fun a _ _ _ => nX e14 a)⟩
         ·
          have H := W2 e14 e15 e16 e17
          refine O.move (v := va1) rfl rfl rfl ?_
          exact WL.nil ⟨b5, b6, rfl, hf2, hf5, hf6, hf9, hf10, hf27, hf28, hf29, hd0, hd1, hd2, hd3, (fun _ => rfl), hd5, hd6, hd7, hd8, hd9, hd10, hd11, hd12, hd13, hd14, hd15, C16_14, C16_15, C17_14, C17_15, C17_16, (fun _ a _ _ => nT e15 a), (fun a _ _ _ => nX e14 a), (fun _ _ _ _ => H), (fun a _ _ _ => nX e14 a), (fun a _ _ _ => nX e14 a), (fun a _ _ _ => nX e14 a)⟩
        ·
         rcases bool_ft (S 15) with e15 | e15
         ·
          have H := W1 e14 e15 e16 e17
          refine O.move (v := va1) rfl rfl rfl ?_
          exact WL.nil ⟨b5, b6, rfl, hf2, hf5, hf6, hf9, hf10, hf27, hf28, hf29, hd0, hd1, hd2, hd3, (fun _ => rfl), hd5, hd6, hd7, hd8, hd9, hd10, hd11, hd12, hd13, hd14, hd15, C16_14, C16_15, C17_14, C17_15, C17_16, (fun a _ _ _ => nT e14 a), (fun _ _ _ _ => H), (fun a _ _ _ => nT e14 a), (fun _ a _ _ => nX e15 a), (fun _ a _ _ => nX e15 a), (fun _ a _ _ => nX e15 a)⟩
         ·
          have H := W3 e14 e15 e16 e17
          refine O.move (v := va1) rfl rfl rfl ?_
          exact WL.nil ⟨b5, b6, rfl, hf2, hf5, hf6, hf9, hf10, hf27, hf28, hf29, hd0, hd1, hd2, hd3, (fun _ => rfl), hd5, hd6, hd7, hd8, hd9, hd10, hd11, hd12, hd13, hd14, hd15, C16_14, C16_15, C17_14, C17_15, C17_16, (fun a _ _ _ => nT e14 a), (fun _ a _ _ => nT e15 a), (fun a _ _ _ => nT e14 a), (fun _ _ _ _ => H), (fun _ _ a _ => nX e16 a), (fun _ _ a _ => nX e16 a)⟩
       ·
        rintro S f w hS ⟨e4, -⟩ ⟨e6, e7, e8, e9, e10, e11, e12, e13, e16, e17, -⟩ ⟨b5, b6, hf1, hf2, hf5, hf6, hf9, hf10, hf27, hf28, hf29, hd0, hd1, hd2, hd3, hd4, hd5, hd6, hd7, hd8, hd9, hd10, hd11, hd12, hd13, hd14, hd15, C16_14, C16_15, C17_14, C17_15, C17_16, W0, W1, W2, W3, W4, W5⟩
        have hf46 := hd4 e4
        obtain ⟨u9, rfl⟩ := up1 hf46
        rcases bool_ft (S 14) with e14 | e14
        ·
         rcases bool_ft (S 15) with e15 | e15
         ·
          have H := W0 e14 e15 e16 e17
          refine O.lenS Try.underlying22 (H.arg ha1) rfl rfl rfl ?_
          exact WL.nil ⟨b5, b6, hf1, hf2, hf5, hf6, hf9, hf10, hf27, hf28, hf29, hd0, hd1, hd2, hd3, hd4, (fun _ => rfl), hd6, hd7, hd8, hd9, hd10, hd11, hd12, hd13, hd14, hd15, C16_14, C16_15, C17_14, C17_15, C17_16, (fun _ _ _ _ => H), (fun a _ _ _ => nX e14 a), (fun _ a _ _ => nX e15 a), (fun a _ _ _ => nX e14 a), (fun a _ _ _ => nX e14 a), (fun a _ _ _ => nX e14 a)⟩
         ·
          have H := W2 e14 e15 e16 e17
          refine O.lenS Try.underlying22 (H.arg ha1) rfl rfl rfl ?_
          exact WL.nil ⟨b5, b6, hf1, hf2, hf5, hf6, hf9, hf10, hf27, hf28, hf29, hd0, hd1, hd2, hd3, hd4, (fun _ => rfl), hd6, hd7, hd8, hd9, hd10, hd11, hd12, hd13, hd14, hd15, C16_14, C16_15, C17_14, C17_15, C17_16, (fun _ a _ _ => nT e15 a), (fun a _ _ _ => nX e14 a), (fun _ _ _ _ => H), (fun a _ _ _ => nX e14 a), (fun a _ _ _ => nX e14 a), (fun a _ _ _ => nX e14 a)⟩
        ·
         rcases bool_ft (S 15) with e15 | e15
         ·
          have H := W1 e14 e15 e16 e17
          refine O.lenS Try.underlying22 (H.arg ha1) rfl rfl rfl ?_
          exact WL.nil ⟨b5, b6, hf1, hf2, hf5, hf6, hf9, hf10, hf27, hf28, hf29, hd0, hd1, hd2, hd3, hd4, (fun _ => rfl), hd6, hd7, hd8, hd9, hd10, hd11, hd12, hd13, hd14, hd15, C16_14, C16_15, C17_14, C17_15, C17_16, (fun a _ _ _ => nT e14 a), (fun _ _ _ _ => H), (fun a _ _ _ => nT e14 a), (fun _ a _ _ => nX e15 a), (fun _ a _ _ => nX e15 a), (fun _ a _ _ => nX e15 a)⟩
         ·
          have H := W3 e14 e15 e16 e17
          refine O.lenS Try.underlying22 (H.arg ha1) rfl rfl rfl ?_
          exact WL.nil ⟨b5, b6, hf1, hf2, hf5, hf6, hf9, hf10, hf27, hf28, hf29, hd0, hd1, hd2, hd3, hd4, (fun _ => rfl), hd6, hd7, hd8, hd9, hd10, hd11, hd12, hd13, hd14, hd15, C16_14, C16_15, C17_14, C17_15, C17_16, (fun a _ _ _ => nT e14 a), (fun _ a _ _ => nT e15 a), (fun a _ _ _ => nT e14 a), (fun _ _ _ _ => H), (fun _ _ a _ => nX e16 a), (fun _ _ a _ => nX e16 a)⟩
       ·
        rintro S f w hS ⟨e2, e3, e4, e5, -⟩ ⟨e7, e8, e9, e10, e11, e12, e13, e16, e17, -⟩ ⟨b5, b6, hf1, hf2, hf5, hf6, hf9, hf10, hf27, hf28, hf29, hd0, hd1, hd2, hd3, hd4, hd5, hd6, hd7, hd8, hd9, hd10, hd11, hd12, hd13, hd14, hd15, C16_14, C16_15, C17_14, C17_15, C17_16, W0, W1, W2, W3, W4, W5⟩
        have hf45 := hd3 e3
        have hf47 := hd5 e5
        obtain ⟨u10, rfl⟩ := up2 hf45 hf47
        rcases bool_ft (S 14) with e14 | e14
        ·
         rcases bool_ft (S 15) with e15 | e15
         ·
          have H := W0 e14 e15 e16 e17
          refine O.rem rfl rfl rfl rfl ht7 ?_
          exact WL.nil ⟨b5, b6, hf1, hf2, hf5, hf6, hf9, hf10, hf27, hf28, hf29, hd0, hd1, hd2, hd3, hd4, hd5, (fun _ => rfl), hd7, hd8, hd9, hd10, hd11, hd12, hd13, hd14, hd15, C16_14, C16_15, C17_14, C17_15, C17_16, (fun _ _ _ _ => H), (fun a _ _ _ => nX e14 a), (fun _ a _ _ => nX e15 a), (fun a _ _ _ => nX e14 a), (fun a _ _ _ => nX e14 a), (fun a _ _ _ => nX e14 a)⟩
         ·
          have H := W2 e14 e15 e16 e17
          refine O.rem rfl rfl rfl rfl ht7 ?_
          exact WL.nil ⟨b5, b6, hf1, hf2, hf5, hf6, hf9, hf10, hf27, hf28, hf29, hd0, hd1, hd2, hd3, hd4, hd5, (fun _ => rfl), hd7, hd8, hd9, hd10, hd11, hd12, hd13, hd14, hd15, C16_14, C16_15, C17_14, C17_15, C17_16, (fun _ a _ _ => nT e15 a), (fun a _ _ _ => nX e14 a), (fun _ _ _ _ => H), (fun a _ _ _ => nX e14 a), (fun a _ _ _ => nX e14 a), (fun a _ _ _ => nX e14 a)⟩
        ·
         rcases bool_ft (S 15) with e15 | e15
         ·
          have H := W1 e14 e15 e16 e17
          refine O.rem rfl rfl rfl rfl ht7 ?_
          exact WL.nil ⟨b5, b6, hf1, hf2, hf5, hf6, hf9, hf10, hf27, hf28, hf29, hd0, hd1, hd2, hd3, hd4, hd5, (fun _ => rfl), hd7, hd8, hd9, hd10, hd11, hd12, hd13, hd14, hd15, C16_14, C16_15, C17_14, C17_15, C17_16, (fun a _ _ _ => nT e14 a), (fun _ _ _ _ => H), (fun a _ _ _ => nT e14 a), (fun _ a _ _ => nX e15 a), (fun _ a _ _ => nX e15 a), (fun _ a _ _ => nX e15 a)⟩
         ·
          have H := W3 e14 e15 e16 e17
          refine O.rem rfl rfl rfl rfl ht7 ?_
          exact WL.nil ⟨b5, b6, hf1, hf2, hf5, hf6, hf9, hf10, hf27, hf28, hf29, hd0, hd1, hd2, hd3, hd4, hd5, (fun _ => rfl), hd7, hd8, hd9, hd10, hd11, hd12, hd13, hd14, hd15, C16_14, C16_15, C17_14, C17_15, C17_16, (fun a _ _ _ => nT e14 a), (fun _ a _ _ => nT e15 a), (fun a _ _ _ => nT e14 a), (fun _ _ _ _ => H), (fun _ _ a _ => nX e16 a), (fun _ _ a _ => nX e16 a)⟩
       ·
        rintro S f w hS ⟨e1, e2, e3, e4, e5, e6, -⟩ ⟨e8, e9, e10, e11, e12, e13, e16, e17, -⟩ ⟨b5, b6, hf1, hf2, hf5, hf6, hf9, hf10, hf27, hf28, hf29, hd0, hd1, hd2, hd3, hd4, hd5, hd6, hd7, hd8, hd9, hd10, hd11, hd12, hd13, hd14, hd15, C16_14, C16_15, C17_14, C17_15, C17_16, W0, W1, W2, W3, W4, W5⟩
        have hf43 := hd1 e1
        have hf48 := hd6 e6
        obtain ⟨u11, rfl⟩ := up2 hf43 hf48
        rcases bool_ft (S 14) with e14 | e14
        ·
         rcases bool_ft (S 15) with e15 | e15
         ·
          have H := W0 e14 e15 e16 e17
          refine hrp2 rfl rfl rfl rfl ?_
          exact WL.nil ⟨b5, b6, hf1, hf2, hf5, hf6, hf9, hf10, hf27, hf28, hf29, hd0, hd1, hd2, hd3, hd4, hd5, hd6, (fun _ => rfl), hd8, hd9, hd10, hd11, hd12, hd13, hd14, hd15, C16_14, C16_15, C17_14, C17_15, C17_16, (fun _ _ _ _ => H), (fun a _ _ _ => nX e14 a), (fun _ a _ _ => nX e15 a), (fun a _ _ _ => nX e14 a), (fun a _ _ _ => nX e14 a), (fun a _ _ _ => nX e14 a)⟩
         ·
          have H := W2 e14 e15 e16 e17
          refine hrp2 rfl rfl rfl rfl ?_
          exact WL.nil ⟨b5, b6, hf1, hf2, hf5, hf6, hf9, hf10, hf27, hf28, hf29, hd0, hd1, hd2, hd3, hd4, hd5, hd6, (fun _ => rfl), hd8, hd9, hd10, hd11, hd12, hd13, hd14, hd15, C16_14, C16_15, C17_14, C17_15, C17_16, (fun _ a _ _ => nT e15 a), (fun a _ _ _ => nX e14 a), (fun _ _ _ _ => H), (fun a _ _ _ => nX e14 a), (fun a _ _ _ => nX e14 a), (fun a _ _ _ => nX e14 a)⟩
        ·
         rcases bool_ft (S 15) with e15 | e15
         ·
          have H := W1 e14 e15 e16 e17
          refine hrp2 rfl rfl rfl rfl ?_
          exact WL.nil ⟨b5, b6, hf1, hf2, hf5, hf6, hf9, hf10, hf27, hf28, hf29, hd0, hd1, hd2, hd3, hd4, hd5, hd6, (fun _ => rfl), hd8, hd9, hd10, hd11, hd12, hd13, hd14, hd15, C16_14, C16_15, C17_14, C17_15, C17_16, (fun a _ _ _ => nT e14 a), (fun _ _ _ _ => H), (fun a _ _ _ => nT e14 a), (fun _ a _ _ => nX e15 a), (fun _ a _ _ => nX e15 a), (fun _ a _ _ => nX e15 a)⟩
         ·
          have H := W3 e14 e15 e16 e17
          refine hrp2 rfl rfl rfl rfl ?_
          exact WL.nil ⟨b5, b6, hf1, hf2, hf5, hf6, hf9, hf10, hf27, hf28, hf29, hd0, hd1, hd2, hd3, hd4, hd5, hd6, (fun _ => rfl), hd8, hd9, hd10, hd11, hd12, hd13, hd14, hd15, C16_14, C16_15, C17_14, C17_15, C17_16, (fun a _ _ _ => nT e14 a), (fun _ a _ _ => nT e15 a), (fun a _ _ _ => nT e14 a), (fun _ _ _ _ => H), (fun _ _ a _ => nX e16 a), (fun _ _ a _ => nX e16 a)⟩
       ·
        rintro S f w hS ⟨e1, e2, e3, e4, e5, e6, e7, -⟩ ⟨e9, e10, e11, e12, e13, e16, e17, -⟩ ⟨b5, b6, hf1, hf2, hf5, hf6, hf9, hf10, hf27, hf28, hf29, hd0, hd1, hd2, hd3, hd4, hd5, hd6, hd7, hd8, hd9, hd10, hd11, hd12, hd13, hd14, hd15, C16_14, C16_15, C17_14, C17_15, C17_16, W0, W1, W2, W3, W4, W5⟩
        have hf49 := hd7 e7
        obtain ⟨u12, rfl⟩ := up1 hf49
        rcases bool_ft (S 14) with e14 | e14
        ·
         rcases bool_ft (S 15) with e15 | e15
         ·
          have H := W0 e14 e15 e16 e17
          refine O.load sc3 rfl rfl rfl ((hp2.mono H.base).flat 0 _ rfl) ?_
          exact WL.nil ⟨b5, b6, hf1, hf2, hf5, hf6, hf9, hf10, hf27, hf28, hf29, hd0, hd1, hd2, hd3, hd4, hd5, hd6, hd7, (fun _ => rfl), hd9, hd10, hd11, hd12, hd13, hd14, hd15, C16_14, C16_15, C17_14, C17_15, C17_16, (fun _ _ _ _ => H), (fun a _ _ _ => nX e14 a), (fun _ a _ _ => nX e15 a), (fun a _ _ _ => nX e14 a), (fun a _ _ _ => nX e14 a), (fun a _ _ _ => nX e14 a)⟩
         ·
          have H := W2 e14 e15 e16 e17
          refine O.load sc3 rfl rfl rfl ((hp2.mono H.base).flat 0 _ rfl) ?_
          exact WL.nil ⟨b5, b6, hf1, hf2, hf5, hf6, hf9, hf10, hf27, hf28, hf29, hd0, hd1, hd2, hd3, hd4, hd5, hd6, hd7, (fun _ => rfl), hd9, hd10, hd11, hd12, hd13, hd14, hd15, C16_14, C16_15, C17_14, C17_15, C17_16, (fun _ a _ _ => nT e15 a), (fun a _ _ _ => nX e14 a), (fun _ _ _ _ => H), (fun a _ _ _ => nX e14 a), (fun a _ _ _ => nX e14 a), (fun a _ _ _ => nX e14 a)⟩
        ·
         rcases bool_ft (S 15) with e15 | e15
         ·
          have H := W1 e14 e15 e16 e17
          refine O.load sc3 rfl rfl rfl ((hp2.mono H.base).flat 0 _ rfl) ?_
          exact WL.nil ⟨b5, b6, hf1, hf2, hf5, hf6, hf9, hf10, hf27, hf28, hf29, hd0, hd1, hd2, hd3, hd4, hd5, hd6, hd7, (fun _ => rfl), hd9, hd10, hd11, hd12, hd13, hd14, hd15, C16_14, C16_15, C17_14, C17_15, C17_16, (fun a _ _ _ => nT e14 a), (fun _ _ _ _ => H), (fun a _ _ _ => nT e14 a), (fun _ a _ _ => nX e15 a), (fun _ a _ _ => nX e15 a), (fun _ a _ _ => nX e15 a)⟩
         ·
          have H := W3 e14 e15 e16 e17
          refine O.load sc3 rfl rfl rfl ((hp2.mono H.base).flat 0 _ rfl) ?_
          exact WL.nil ⟨b5, b6, hf1, hf2, hf5, hf6, hf9, hf10, hf27, hf28, hf29, hd0, hd1, hd2, hd3, hd4, hd5, hd6, hd7, (fun _ => rfl), hd9, hd10, hd11, hd12, hd13, hd14, hd15, C16_14, C16_15, C17_14, C17_15, C17_16, (fun a _ _ _ => nT e14 a), (fun _ a _ _ => nT e15 a), (fun a _ _ _ => nT e14 a), (fun _ _ _ _ => H), (fun _ _ a _ => nX e16 a), (fun _ _ a _ => nX e16 a)⟩
       ·
        rintro S f w hS ⟨e0, e1, e2, e3, e4, e5, e6, e7, e8, -⟩ ⟨e10, e11, e12, e13, e16, e17, -⟩ ⟨b5, b6, hf1, hf2, hf5, hf6, hf9, hf10, hf27, hf28, hf29, hd0, hd1, hd2, hd3, hd4, hd5, hd6, hd7, hd8, hd9, hd10, hd11, hd12, hd13, hd14, hd15, C16_14, C16_15, C17_14, C17_15, C17_16, W0, W1, W2, W3, W4, W5⟩
        have hf42 := hd0 e0
        have hf50 := hd8 e8
        obtain ⟨u13, rfl⟩ := up2 hf42 hf50
        rcases bool_ft (S 14) with e14 | e14
        ·
         rcases bool_ft (S 15) with e15 | e15
         ·
          have H := W0 e14 e15 e16 e17
          refine O.call Try.call71 rfl rfl rfl (c_sight_taken _ _ (GNet.mk a0.Rates a0.Sights) (H.arg ha0_0) (H.arg ha0_1) _ hy4) ?_
          rintro _ w9 hb7 rfl
          have H := H.ext hb7
          exact WL.nil ⟨b5, b6, hf1, hf2, hf5, hf6, hf9, hf10, hf27, hf28, hf29, hd0, hd1, hd2, hd3, hd4, hd5, hd6, hd7, hd8, (fun _ => rfl), hd10, hd11, hd12, hd13, hd14, hd15, C16_14, C16_15, C17_14, C17_15, C17_16, (fun _ _ _ _ => H), (fun a _ _ _ => nX e14 a), (fun _ a _ _ => nX e15 a), (fun a _ _ _ => nX e14 a), (fun a _ _ _ => nX e14 a), (fun a _ _ _ => nX e14 a)⟩
         ·
          have H := W2 e14 e15 e16 e17
          refine O.call Try.call71 rfl rfl rfl (c_sight_taken _ _ (GNet.mk a0.Rates a0.Sights) (H.arg ha0_0) (H.arg ha0_1) _ hy4) ?_
          rintro _ w9 hb7 rfl
          have H := H.ext hb7
          exact WL.nil ⟨b5, b6, hf1, hf2, hf5, hf6, hf9, hf10, hf27, hf28, hf29, hd0, hd1, hd2, hd3, hd4, hd5, hd6, hd7, hd8, (fun _ => rfl), hd10, hd11, hd12, hd13, hd14, hd15, C16_14, C16_15, C17_14, C17_15, C17_16, (fun _ a _ _ => nT e15 a), (fun a _ _ _ => nX e14 a), (fun _ _ _ _ => H), (fun a _ _ _ => nX e14 a), (fun a _ _ _ => nX e14 a), (fun a _ _ _ => nX e14 a)⟩
        ·
         rcases bool_ft (S 15) with e15 | e15
         ·
          have H := W1 e14 e15 e16 e17
          refine O.call Try.call71 rfl rfl rfl (c_sight_taken _ _ (GNet.mk a0.Rates a0.Sights) (H.arg ha0_0) (H.arg ha0_1) _ hy4) ?_
          rintro _ w9 hb7 rfl
          have H := H.ext hb7
          exact WL.nil ⟨b5, b6, hf1, hf2, hf5, hf6, hf9, hf10, hf27, hf28, hf29, hd0, hd1, hd2, hd3, hd4, hd5, hd6, hd7, hd8, (fun _ => rfl), hd10, hd11, hd12, hd13, hd14, hd15, C16_14, C16_15, C17_14, C17_15, C17_16, (fun a _ _ _ => nT e14 a), (fun _ _ _ _ => H), (fun a _ _ _ => nT e14 a), (fun _ a _ _ => nX e15 a), (fun _ a _ _ => nX e15 a), (fun _ a _ _ => nX e15 a)⟩
         ·
          have H := W3 e14 e15 e16 e17
          refine O.call Try.call71 rfl rfl rfl (c_sight_taken _ _ (GNet.mk a0.Rates a0.Sights) (H.arg ha0_0) (H.arg ha0_1) _ hy4) ?_
          rintro _ w9 hb7 rfl
          have H := H.ext hb7
          exact WL.nil ⟨b5, b6, hf1, hf2, hf5, hf6, hf9, hf10, hf27, hf28, hf29, hd0, hd1, hd2, hd3, hd4, hd5, hd6, hd7, hd8, (fun _ => rfl), hd10, hd11, hd12, hd13, hd14, hd15, C16_14, C16_15, C17_14, C17_15, C17_16, (fun a _ _ _ => nT e14 a), (fun _ a _ _ => nT e15 a), (fun a _ _ _ => nT e14 a), (fun _ _ _ _ => H), (fun _ _ a _ => nX e16 a), (fun _ _ a _ => nX e16 a)⟩
       ·
        rintro S f w hS ⟨e0, e1, e2, e3, e4, e5, e6, e7, e8, e9, -⟩ ⟨e11, e12, e13, e16, e17, -⟩ ⟨b5, b6, hf1, hf2, hf5, hf6, hf9, hf10, hf27, hf28, hf29, hd0, hd1, hd2, hd3, hd4, hd5, hd6, hd7, hd8, hd9, hd10, hd11, hd12, hd13, hd14, hd15, C16_14, C16_15, C17_14, C17_15, C17_16, W0, W1, W2, W3, W4, W5⟩
        have hf51 := hd9 e9
        obtain ⟨u14, rfl⟩ := up1 hf51
        rcases bool_ft (S 14) with e14 | e14
        ·
         rcases bool_ft (S 15) with e15 | e15
         ·
          have H := W0 e14 e15 e16 e17
          refine O.move (v := (.tuple #[(.agg (Flat.cells t8).toArray), (.agg (Flat.cells t9).toArray), (.int .i64 t10)])) rfl rfl rfl ?_
          exact WL.nil ⟨b5, b6, hf1, hf2, hf5, hf6, hf9, hf10, hf27, hf28, hf29, hd0, hd1, hd2, hd3, hd4, hd5, hd6, hd7, hd8, hd9, (fun _ => rfl), hd11, hd12, hd13, hd14, hd15, C16_14, C16_15, C17_14, C17_15, C17_16, (fun _ _ _ _ => H), (fun a _ _ _ => nX e14 a), (fun _ a _ _ => nX e15 a), (fun a _ _ _ => nX e14 a), (fun a _ _ _ => nX e14 a), (fun a _ _ _ => nX e14 a)⟩
         ·
          have H := W2 e14 e15 e16 e17
          refine O.move (v := (.tuple #[(.agg (Flat.cells t8).toArray), (.agg (Flat.cells t9).toArray), (.int .i64 t10)])) rfl rfl rfl ?_
          exact WL.nil ⟨b5, b6, hf1, hf2, hf5, hf6, hf9, hf10, hf27, hf28, hf29, hd0, hd1, hd2, hd3, hd4, hd5, hd6, hd7, hd8, hd9, (fun _ => rfl), hd11, hd12, hd13, hd14, hd15, C16_14, C16_15, C17_14, C17_15, C17_16, (fun _ a _ _ => nT e15 a), (fun a _ _ _ => nX e14 a), (fun _ _ _ _ => H), (fun a _ _ _ => nX e14 a), (fun a _ _ _ => nX e14 a), (fun a _ _ _ => nX e14 a)⟩
        ·
         rcases bool_ft (S 15) with e15 | e15
         ·
          have H := W1 e14 e15 e16 e17
          refine O.move (v := (.tuple #[(.agg (Flat.cells t8).toArray), (.agg (Flat.cells t9).toArray), (.int .i64 t10)])) rfl rfl rfl ?_
          exact WL.nil ⟨b5, b6, hf1, hf2, hf5, hf6, hf9, hf10, hf27, hf28, hf29, hd0, hd1, hd2, hd3, hd4, hd5, hd6, hd7, hd8, hd9, (fun _ => rfl), hd11, hd12, hd13, hd14, hd15, C16_14, C16_15, C17_14, C17_15, C17_16, (fun a _ _ _ => nT e14 a), (fun _ _ _ _ => H), (fun a _ _ _ => nT e14 a), (fun _ a _ _ => nX e15 a), (fun _ a _ _ => nX e15 a), (fun _ a _ _ => nX e15 a)⟩
         ·
          have H := W3 e14 e15 e16 e17
          refine O.move (v := (.tuple #[(.agg (Flat.cells t8).toArray), (.agg (Flat.cells t9).toArray), (.int .i64 t10)])) rfl rfl rfl ?_
          exact WL.nil ⟨b5, b6, hf1, hf2, hf5, hf6, hf9, hf10, hf27, hf28, hf29, hd0, hd1, hd2, hd3, hd4, hd5, hd6, hd7, hd8, hd9, (fun _ => rfl), hd11, hd12, hd13, hd14, hd15, C16_14, C16_15, C17_14, C17_15, C17_16, (fun a _ _ _ => nT e14 a), (fun _ a _ _ => nT e15 a), (fun a _ _ _ => nT e14 a), (fun _ _ _ _ => H), (fun _ _ a _ => nX e16 a), (fun _ _ a _ => nX e16 a)⟩
       ·
        rintro S f w hS ⟨e0, e1, e2, e3, e4, e5, e6, e7, e8, e9, e10, -⟩ ⟨e16, e17, -⟩ ⟨b5, b6, hf1, hf2, hf5, hf6, hf9, hf10, hf27, hf28, hf29, hd0, hd1, hd2, hd3, hd4, hd5, hd6, hd7, hd8, hd9, hd10, hd11, hd12, hd13, hd14, hd15, C16_14, C16_15, C17_14, C17_15, C17_16, W0, W1, W2, W3, W4, W5⟩
        have hf41 := hd10 e10
        obtain ⟨u15, rfl⟩ := up1 hf41
        rcases bool_ft (S 14) with e14 | e14
        ·
         rcases bool_ft (S 15) with e15 | e15
         ·
          have H := W0 e14 e15 e16 e17
          refine O.extract (v := (.agg (Flat.cells t8).toArray)) rfl rfl rfl rfl ?_
          exact WL.nil ⟨b5, b6, hf1, hf2, hf5, hf6, hf9, hf10, hf27, hf28, hf29, hd0, hd1, hd2, hd3, hd4, hd5, hd6, hd7, hd8, hd9, hd10, (fun _ => rfl), hd12, hd13, hd14, hd15, C16_14, C16_15, C17_14, C17_15, C17_16, (fun _ _ _ _ => H), (fun a _ _ _ => nX e14 a), (fun _ a _ _ => nX e15 a), (fun a _ _ _ => nX e14 a), (fun a _ _ _ => nX e14 a), (fun a _ _ _ => nX e14 a)⟩
         ·
          have H := W2 e14 e15 e16 e17
          refine O.extract (v := (.agg (Flat.cells t8).toArray)) rfl rfl rfl rfl ?_
          exact WL.nil ⟨b5, b6, hf1, hf2, hf5, hf6, hf9, hf10, hf27, hf28, hf29, hd0, hd1, hd2, hd3, hd4, hd5, hd6, hd7, hd8, hd9, hd10, (fun _ => rfl), hd12, hd13, hd14, hd15, C16_14, C16_15, C17_14, C17_15, C17_16, (fun _ a _ _ => nT e15 a), (fun a _ _ _ => nX e14 a), (fun _ _ _ _ => H), (fun a _ _ _ => nX e14 a), (fun a _ _ _ => nX e14 a), (fun a _ _ _ => nX e14 a)⟩
        ·
         rcases bool_ft (S 15) with e15 | e15
         ·
          have H := W1 e14 e15 e16 e17
          refine O.extract (v := (.agg (Flat.cells t8).toArray)) rfl rfl rfl rfl ?_
          exact WL.nil ⟨b5, b6, hf1, hf2, hf5, hf6, hf9, hf10, hf27, hf28, hf29, hd0, hd1, hd2, hd3, hd4, hd5, hd6, hd7, hd8, hd9, hd10, (fun _ => rfl), hd12, hd13, hd14, hd15, C16_14, C16_15, C17_14, C17_15, C17_16, (fun a _ _ _ => nT e14 a), (fun _ _ _ _ => H), (fun a _ _ _ => nT e14 a), (fun _ a _ _ => nX e15 a), (fun _ a _ _ => nX e15 a), (fun _ a _ _ => nX e15 a)⟩
         ·
          have H := W3 e14 e15 e16 e17
          refine O.extract (v := (.agg (Flat.cells t8).toArray)) rfl rfl rfl rfl ?_
          exact WL.nil ⟨b5, b6, hf1, hf2, hf5, hf6, hf9, hf10, hf27, hf28, hf29, hd0, hd1, hd2, hd3, hd4, hd5, hd6, hd7, hd8, hd9, hd10, (fun _ => rfl), hd12, hd13, hd14, hd15, C16_14, C16_15, C17_14, C17_15, C17_16, (fun a _ _ _ => nT e14 a), (fun _ a _ _ => nT e15 a), (fun a _ _ _ => nT e14 a), (fun _ _ _ _ => H), (fun _ _ a _ => nX e16 a), (fun _ _ a _ => nX e16 a)⟩
       ·
        rintro S f w hS ⟨e0, e1, e2, e3, e4, e5, e6, e7, e8, e9, e10, -⟩ ⟨e17, -⟩ ⟨b5, b6, hf1, hf2, hf5, hf6, hf9, hf10, hf27, hf28, hf29, hd0, hd1, hd2, hd3, hd4, hd5, hd6, hd7, hd8, hd9, hd10, hd11, hd12, hd13, hd14, hd15, C16_14, C16_15, C17_14, C17_15, C17_16, W0, W1, W2, W3, W4, W5⟩
        have hf41 := hd10 e10
        obtain ⟨u16, rfl⟩ := up1 hf41
        rcases bool_ft (S 14) with e14 | e14
        ·
         rcases bool_ft (S 15) with e15 | e15
         ·
          rcases bool_ft (S 16) with e16 | e16
          ·
           have H := W0 e14 e15 e16 e17
           refine O.extract (v := (.agg (Flat.cells t9).toArray)) rfl rfl rfl rfl ?_
           exact WL.nil ⟨b5, b6, hf1, hf2, hf5, hf6, hf9, hf10, hf27, hf28, hf29, hd0, hd1, hd2, hd3, hd4, hd5, hd6, hd7, hd8, hd9, hd10, hd11, (fun _ => rfl), hd13, hd14, hd15, C16_14, C16_15, C17_14, C17_15, C17_16, (fun _ _ _ _ => H), (fun a _ _ _ => nX e14 a), (fun _ a _ _ => nX e15 a), (fun a _ _ _ => nX e14 a), (fun a _ _ _ => nX e14 a), (fun a _ _ _ => nX e14 a)⟩
          ·
           exact nomatch (show true = false from (C16_14 e16).symm.trans e14)
         ·
          rcases bool_ft (S 16) with e16 | e16
          ·
           have H := W2 e14 e15 e16 e17
           refine O.extract (v := (.agg (Flat.cells t9).toArray)) rfl rfl rfl rfl ?_
           exact WL.nil ⟨b5, b6, hf1, hf2, hf5, hf6, hf9, hf10, hf27, hf28, hf29, hd0, hd1, hd2, hd3, hd4, hd5, hd6, hd7, hd8, hd9, hd10, hd11, (fun _ => rfl), hd13, hd14, hd15, C16_14, C16_15, C17_14, C17_15, C17_16, (fun _ a _ _ => nT e15 a), (fun a _ _ _ => nX e14 a), (fun _ _ _ _ => H), (fun a _ _ _ => nX e14 a), (fun a _ _ _ => nX e14 a), (fun a _ _ _ => nX e14 a)⟩
          ·
           exact nomatch (show true = false from (C16_14 e16).symm.trans e14)
        ·
         rcases bool_ft (S 15) with e15 | e15
         ·
          rcases bool_ft (S 16) with e16 | e16
          ·
           have H := W1 e14 e15 e16 e17
           refine O.extract (v := (.agg (Flat.cells t9).toArray)) rfl rfl rfl rfl ?_
           exact WL.nil ⟨b5, b6, hf1, hf2, hf5, hf6, hf9, hf10, hf27, hf28, hf29, hd0, hd1, hd2, hd3, hd4, hd5, hd6, hd7, hd8, hd9, hd10, hd11, (fun _ => rfl), hd13, hd14, hd15, C16_14, C16_15, C17_14, C17_15, C17_16, (fun a _ _ _ => nT e14 a), (fun _ _ _ _ => H), (fun a _ _ _ => nT e14 a), (fun _ a _ _ => nX e15 a), (fun _ a _ _ => nX e15 a), (fun _ a _ _ => nX e15 a)⟩
          ·
           exact nomatch (show true = false from (C16_15 e16).symm.trans e15)
         ·
          rcases bool_ft (S 16) with e16 | e16
          ·
           have H := W3 e14 e15 e16 e17
           refine O.extract (v := (.agg (Flat.cells t9).toArray)) rfl rfl rfl rfl ?_
           exact WL.nil ⟨b5, b6, hf1, hf2, hf5, hf6, hf9, hf10, hf27, hf28, hf29, hd0, hd1, hd2, hd3, hd4, hd5, hd6, hd7, hd8, hd9, hd10, hd11, (fun _ => rfl), hd13, hd14, hd15, C16_14, C16_15, C17_14, C17_15, C17_16, (fun a _ _ _ => nT e14 a), (fun _ a _ _ => nT e15 a), (fun a _ _ _ => nT e14 a), (fun _ _ _ _ => H), (fun _ _ a _ => nX e16 a), (fun _ _ a _ => nX e16 a)⟩
          ·
           have H := W4 e14 e15 e16 e17
           refine O.extract (v := (.agg (Flat.cells t9).toArray)) rfl rfl rfl rfl ?_
           exact WL.nil ⟨b5, b6, hf1, hf2, hf5, hf6, hf9, hf10, hf27, hf28, hf29, hd0, hd1, hd2, hd3, hd4, hd5, hd6, hd7, hd8, hd9, hd10, hd11, (fun _ => rfl), hd13, hd14, hd15, C16_14, C16_15, C17_14, C17_15, C17_16, (fun a _ _ _ => nT e14 a), (fun _ a _ _ => nT e15 a), (fun a _ _ _ => nT e14 a), (fun _ _ a _ => nT e16 a), (fun _ _ _ _ => H), (fun _ _ _ a => nX e17 a)⟩
       ·
        rintro S f w hS ⟨e0, e1, e2, e3, e4, e5, e6, e7, e8, e9, e10, -⟩ - ⟨b5, b6, hf1, hf2, hf5, hf6, hf9, hf10, hf27, hf28, hf29, hd0, hd1, hd2, hd3, hd4, hd5, hd6, hd7, hd8, hd9, hd10, hd11, hd12, hd13, hd14, hd15, C16_14, C16_15, C17_14, C17_15, C17_16, W0, W1, W2, W3, W4, W5⟩
        have hf41 := hd10 e10
        obtain ⟨u17, rfl⟩ := up1 hf41
        rcases bool_ft (S 14) with e14 | e14
        ·
         rcases bool_ft (S 15) with e15 | e15
         ·
          rcases bool_ft (S 16) with e16 | e16
          ·
           rcases bool_ft (S 17) with e17 | e17
           ·
            have H := W0 e14 e15 e16 e17
            refine O.extract (v := (.int .i64 t10)) rfl rfl rfl rfl ?_
            exact WL.nil ⟨b5, b6, hf1, hf2, hf5, hf6, hf9, hf10, hf27, hf28, hf29, hd0, hd1, hd2, hd3, hd4, hd5, hd6, hd7, hd8, hd9, hd10, hd11, hd12, (fun _ => rfl), hd14, hd15, C16_14, C16_15, C17_14, C17_15, C17_16, (fun _ _ _ _ => H), (fun a _ _ _ => nX e14 a), (fun _ a _ _ => nX e15 a), (fun a _ _ _ => nX e14 a), (fun a _ _ _ => nX e14 a), (fun a _ _ _ => nX e14 a)⟩
           ·
            exact nomatch (show true = false from (C17_14 e17).symm.trans e14)
          ·
           rcases bool_ft (S 17) with e17 | e17
           ·
            exact nomatch (show true = false from (C16_14 e16).symm.trans e14)
           ·
            exact nomatch (show true = false from (C16_14 e16).symm.trans e14)
         ·
          rcases bool_ft (S 16) with e16 | e16
          ·
           rcases bool_ft (S 17) with e17 | e17
           ·
            have H := W2 e14 e15 e16 e17
            refine O.extract (v := (.int .i64 t10)) rfl rfl rfl rfl ?_
            exact WL.nil ⟨b5, b6, hf1, hf2, hf5, hf6, hf9, hf10, hf27, hf28, hf29, hd0, hd1, hd2, hd3, hd4, hd5, hd6, hd7, hd8, hd9, hd10, hd11, hd12, (fun _ => rfl), hd14, hd15, C16_14, C16_15, C17_14, C17_15, C17_16, (fun _ a _ _ => nT e15 a), (fun a _ _ _ => nX e14 a), (fun _ _ _ _ => H), (fun a _ _ _ => nX e14 a), (fun a _ _ _ => nX e14 a), (fun a _ _ _ => nX e14 a)⟩
           ·
            exact nomatch (show true = false from (C17_14 e17).symm.trans e14)
          ·
           rcases bool_ft (S 17) with e17 | e17
           ·
            exact nomatch (show true = false from (C16_14 e16).symm.trans e14)
           ·
            exact nomatch (show true = false from (C16_14 e16).symm.trans e14)
        ·
         rcases bool_ft (S 15) with e15 | e15
         ·
          rcases bool_ft (S 16) with e16 | e16
          ·
           rcases bool_ft (S 17) with e17 | e17
           ·
            have H := W1 e14 e15 e16 e17
            refine O.extract (v := (.int .i64 t10)) rfl rfl rfl rfl ?_
            exact WL.nil ⟨b5, b6, hf1, hf2, hf5, hf6, hf9, hf10, hf27, hf28, hf29, hd0, hd1, hd2, hd3, hd4, hd5, hd6, hd7, hd8, hd9, hd10, hd11, hd12, (fun _ => rfl), hd14, hd15, C16_14, C16_15, C17_14, C17_15, C17_16, (fun a _ _ _ => nT e14 a), (fun _ _ _ _ => H), (fun a _ _ _ => nT e14 a), (fun _ a _ _ => nX e15 a), (fun _ a _ _ => nX e15 a), (fun _ a _ _ => nX e15 a)⟩
           ·
            exact nomatch (show true = false from (C17_15 e17).symm.trans e15)
          ·
           rcases bool_ft (S 17) with e17 | e17
           ·
            exact nomatch (show true = false from (C16_15 e16).symm.trans e15)
           ·
            exact nomatch (show true = false from (C16_15 e16).symm.trans e15)
         ·
          rcases bool_ft (S 16) with e16 | e16
          ·
           rcases bool_ft (S 17) with e17 | e17
           ·
            have H := W3 e14 e15 e16 e17
            refine O.extract (v := (.int .i64 t10)) rfl rfl rfl rfl ?_
            exact WL.nil ⟨b5, b6, hf1, hf2, hf5, hf6, hf9, hf10, hf27, hf28, hf29, hd0, hd1, hd2, hd3, hd4, hd5, hd6, hd7, hd8, hd9, hd10, hd11, hd12, (fun _ => rfl), hd14, hd15, C16_14, C16_15, C17_14, C17_15, C17_16, (fun a _ _ _ => nT e14 a), (fun _ a _ _ => nT e15 a), (fun a _ _ _ => nT e14 a), (fun _ _ _ _ => H), (fun _ _ a _ => nX e16 a), (fun _ _ a _ => nX e16 a)⟩
           ·
            exact nomatch (show true = false from (C17_16 e17).symm.trans e16)
          ·
           rcases bool_ft (S 17) with e17 | e17
           ·
            have H := W4 e14 e15 e16 e17
            refine O.extract (v := (.int .i64 t10)) rfl rfl rfl rfl ?_
            exact WL.nil ⟨b5, b6, hf1, hf2, hf5, hf6, hf9, hf10, hf27, hf28, hf29, hd0, hd1, hd2, hd3, hd4, hd5, hd6, hd7, hd8, hd9, hd10, hd11, hd12, (fun _ => rfl), hd14, hd15, C16_14, C16_15, C17_14, C17_15, C17_16, (fun a _ _ _ => nT e14 a), (fun _ a _ _ => nT e15 a), (fun a _ _ _ => nT e14 a), (fun _ _ a _ => nT e16 a), (fun _ _ _ _ => H), (fun _ _ _ a => nX e17 a)⟩
           ·
            have H := W5 e14 e15 e16 e17
            refine O.extract (v := (.int .i64 t10)) rfl rfl rfl rfl ?_
            exact WL.nil ⟨b5, b6, hf1, hf2, hf5, hf6, hf9, hf10, hf27, hf28, hf29, hd0, hd1, hd2, hd3, hd4, hd5, hd6, hd7, hd8, hd9, hd10, hd11, hd12, (fun _ => rfl), hd14, hd15, C16_14, C16_15, C17_14, C17_15, C17_16, (fun a _ _ _ => nT e14 a), (fun _ a _ _ => nT e15 a), (fun a _ _ _ => nT e14 a), (fun _ _ a _ => nT e16 a), (fun _ _ _ a => nT e17 a), (fun _ _ _ _ => H)⟩
       ·
        rintro S f w hS - ⟨e16, e17, -⟩ ⟨_, b6, hf1, hf2, hf5, hf6, hf9, hf10, hf27, hf28, hf29, hd0, hd1, hd2, hd3, hd4, hd5, hd6, hd7, hd8, hd9, hd10, hd11, hd12, hd13, hd14, hd15, C16_14, C16_15, C17_14, C17_15, C17_16, W0, W1, W2, W3, W4, W5⟩
        rcases bool_ft (S 15) with e15 | e15
        ·
         have H := W0 hS e15 e16 e17
         refine O.alloc [(.int .i64 0), (.int .i64 0)] ze87 H rfl rfl rfl ?_
         intro b5 w10 H hb8
         refine WL.nil ?_
         have H := H.pick [0, 1, 2, 5, 4] [boxI b1 25 [va0_0, va0_1], boxI b3 87 [(.int .i64 t3.clock), (.int .i64 t3.at_)], boxI b4 87 [(.int .i64 t4.clock), (.int .i64 t4.at_)], boxI b5 87 [(.int .i64 0), (.int .i64 0)], goneI] rfl (by decide)
         exact ⟨b5, b6, hf1, hf2, hf5, hf6, hf9, hf10, hf27, hf28, hf29, hd0, hd1, hd2, hd3, hd4, hd5, hd6, hd7, hd8, hd9, hd10, hd11, hd12, hd13, (fun _ => rfl), hd15, (fun _ => rfl), C16_15, (fun _ => rfl), C17_15, C17_16, (fun a _ _ _ => nG a), (fun _ _ _ _ => H), (fun a _ _ _ => nG a), (fun _ a _ _ => nX e15 a), (fun _ a _ _ => nX e15 a), (fun _ a _ _ => nX e15 a)⟩
        ·
         have H := W2 hS e15 e16 e17
         refine O.alloc [(.int .i64 0), (.int .i64 0)] ze87 H rfl rfl rfl ?_
         intro b5 w10 H hb8
         refine WL.nil ?_
         have H := H.pick [0, 1, 2, 5, 4] [boxI b1 25 [va0_0, va0_1], boxI b3 87 [(.int .i64 t3.clock), (.int .i64 t3.at_)], boxI b4 87 [(.int .i64 t4.clock), (.int .i64 t4.at_)], boxI b5 87 [(.int .i64 0), (.int .i64 0)], boxI b6 87 [(.int .i64 0), (.int .i64 0)]] rfl (by decide)
         exact ⟨b5, b6, hf1, hf2, hf5, hf6, hf9, hf10, hf27, hf28, hf29, hd0, hd1, hd2, hd3, hd4, hd5, hd6, hd7, hd8, hd9, hd10, hd11, hd12, hd13, (fun _ => rfl), hd15, (fun _ => rfl), C16_15, (fun _ => rfl), C17_15, C17_16, (fun a _ _ _ => nG a), (fun _ a _ _ => nT e15 a), (fun a _ _ _ => nG a), (fun _ _ _ _ => H), (fun _ _ a _ => nX e16 a), (fun _ _ a _ => nX e16 a)⟩
       ·
        rintro S f w hS - ⟨e16, e17, -⟩ ⟨b5, _, hf1, hf2, hf5, hf6, hf9, hf10, hf27, hf28, hf29, hd0, hd1, hd2, hd3, hd4, hd5, hd6, hd7, hd8, hd9, hd10, hd11, hd12, hd13, hd14, hd15, C16_14, C16_15, C17_14, C17_15, C17_16, W0, W1, W2, W3, W4, W5⟩
        rcases bool_ft (S 14) with e14 | e14
        ·
         have H := W0 e14 hS e16 e17
         refine O.alloc [(.int .i64 0), (.int .i64 0)] ze87 H rfl rfl rfl ?_
         intro b6 w11 H hb9
         refine WL.nil ?_
         have H := H.pick [0, 1, 2, 3, 5] [boxI b1 25 [va0_0, va0_1], boxI b3 87 [(.int .i64 t3.clock), (.int .i64 t3.at_)], boxI b4 87 [(.int .i64 t4.clock), (.int .i64 t4.at_)], goneI, boxI b6 87 [(.int .i64 0), (.int .i64 0)]] rfl (by decide)
         exact ⟨b5, b6, hf1, hf2, hf5, hf6, hf9, hf10, hf27, hf28, hf29, hd0, hd1, hd2, hd3, hd4, hd5, hd6, hd7, hd8, hd9, hd10, hd11, hd12, hd13, hd14, (fun _ => rfl), C16_14, (fun _ => rfl), C17_14, (fun _ => rfl), C17_16, (fun _ a _ _ => nG a), (fun a _ _ _ => nX e14 a), (fun _ _ _ _ => H), (fun a _ _ _ => nX e14 a), (fun a _ _ _ => nX e14 a), (fun a _ _ _ => nX e14 a)⟩
        ·
         have H := W1 e14 hS e16 e17
         refine O.alloc [(.int .i64 0), (.int .i64 0)] ze87 H rfl rfl rfl ?_
         intro b6 w11 H hb9
         refine WL.nil ?_
         have H := H.pick [0, 1, 2, 3, 5] [boxI b1 25 [va0_0, va0_1], boxI b3 87 [(.int .i64 t3.clock), (.int .i64 t3.at_)], boxI b4 87 [(.int .i64 t4.clock), (.int .i64 t4.at_)], boxI b5 87 [(.int .i64 0), (.int .i64 0)], boxI b6 87 [(.int .i64 0), (.int .i64 0)]] rfl (by decide)
         exact ⟨b5, b6, hf1, hf2, hf5, hf6, hf9, hf10, hf27, hf28, hf29, hd0, hd1, hd2, hd3, hd4, hd5, hd6, hd7, hd8, hd9, hd10, hd11, hd12, hd13, hd14, (fun _ => rfl), C16_14, (fun _ => rfl), C17_14, (fun _ => rfl), C17_16, (fun a _ _ _ => nT e14 a), (fun _ a _ _ => nG a), (fun a _ _ _ => nT e14 a), (fun _ _ _ _ => H), (fun _ _ a _ => nX e16 a), (fun _ _ a _ => nX e16 a)⟩
       ·
        rintro S f w hS ⟨e0, e1, e2, e3, e4, e5, e6, e7, e8, e9, e10, e11, e14, e15, -⟩ ⟨e17, -⟩ ⟨b5, b6, hf1, hf2, hf5, hf6, hf9, hf10, hf27, hf28, hf29, hd0, hd1, hd2, hd3, hd4, hd5, hd6, hd7, hd8, hd9, hd10, hd11, hd12, hd13, hd14, hd15, C16_14, C16_15, C17_14, C17_15, C17_16, W0, W1, W2, W3, W4, W5⟩
        have hf11 := hd14 e14
        have hf52 := hd11 e11
        obtain ⟨u18, rfl⟩ := up2 hf11 hf52
        have H := W3 e14 e15 hS e17
        refine O.store 3 0 [(.int .i64 t8.clock), (.int .i64 t8.at_)] [(.int .i64 t8.clock), (.int .i64 t8.at_)] sz87 H rfl rfl rfl rfl rfl rfl ⟨⟨rfl, rfl⟩, rfl⟩ (one_cons rfl (one_cons rfl one_nil)) ?_
        intro w12 H
        exact WL.nil ⟨b5, b6, hf1, hf2, hf5, hf6, hf9, hf10, hf27, hf28, hf29, hd0, hd1, hd2, hd3, hd4, hd5, hd6, hd7, hd8, hd9, hd10, hd11, hd12, hd13, hd14, hd15, (fun _ => e14), (fun _ => e15), C17_14, C17_15, (fun _ => rfl), (fun a _ _ _ => nT e14 a), (fun _ a _ _ => nT e15 a), (fun a _ _ _ => nT e14 a), (fun _ _ a _ => nG a), (fun _ _ _ _ => H), (fun _ _ _ a => nX e17 a)⟩
       ·
        rintro S f w hS ⟨e0, e1, e2, e3, e4, e5, e6, e7, e8, e9, e10, e11, e12, e14, e15, e16, -⟩ - ⟨b5, b6, hf1, hf2, hf5, hf6, hf9, hf10, hf27, hf28, hf29, hd0, hd1, hd2, hd3, hd4, hd5, hd6, hd7, hd8, hd9, hd10, hd11, hd12, hd13, hd14, hd15, C16_14, C16_15, C17_14, C17_15, C17_16, W0, W1, W2, W3, W4, W5⟩
        have hf12 := hd15 e15
        have hf53 := hd12 e12
        obtain ⟨u19, rfl⟩ := up2 hf12 hf53
        have H := W4 e14 e15 e16 hS
        refine O.store 4 0 [(.int .i64 t9.clock), (.int .i64 t9.at_)] [(.int .i64 t9.clock), (.int .i64 t9.at_)] sz87 H rfl rfl rfl rfl rfl rfl ⟨⟨rfl, rfl⟩, rfl⟩ (one_cons rfl (one_cons rfl one_nil)) ?_
        intro w13 H
        exact WL.nil ⟨b5, b6, hf1, hf2, hf5, hf6, hf9, hf10, hf27, hf28, hf29, hd0, hd1, hd2, hd3, hd4, hd5, hd6, hd7, hd8, hd9, hd10, hd11, hd12, hd13, hd14, hd15, C16_14, C16_15, (fun _ => e14), (fun _ => e15), (fun _ => e16), (fun a _ _ _ => nT e14 a), (fun _ a _ _ => nT e15 a), (fun a _ _ _ => nT e14 a), (fun _ _ a _ => nT e16 a), (fun _ _ _ a => nG a), (fun _ _ _ _ => H)⟩
      ·
       rintro S f w ⟨e0, e1, e2, e3, e4, e5, e6, e7, e8, e9, e10, e11, e12, e13, e14, e15, e16, e17, -⟩ ⟨b5, b6, hf1, hf2, hf5, hf6, hf9, hf10, hf27, hf28, hf29, hd0, hd1, hd2, hd3, hd4, hd5, hd6, hd7, hd8, hd9, hd10, hd11, hd12, hd13, hd14, hd15, C16_14, C16_15, C17_14, C17_15, C17_16, W0, W1, W2, W3, W4, W5⟩
       have hf11 := hd14 e14
       have hf54 := hd13 e13
       have H := W5 e14 e15 e16 e17
       obtain ⟨u20, rfl⟩ : ∃ u20, f = (upd (upd (upd (upd (upd (upd (upd (upd (upd (upd u20 1 va1) 2 (.pointer (some ⟨b1, 0, none⟩))) 5 (.int .i64 z2)) 9 (.pointer (some ⟨b4, 0, none⟩))) 10 (.int .i64 t5)) 11 (.pointer (some ⟨b5, 0, none⟩))) 27 va1) 28 (.int .i64 ((a1.length : Nat) : Int))) 29 (.int .i64 (ik1 : Int))) 54 (.int .i64 t10)) := ⟨f, by rw [upd_self hf1, upd_self hf2, upd_self hf5, upd_self hf9, upd_self hf10, upd_self hf11, upd_self hf27, upd_self hf28, upd_self hf29, upd_self hf54]⟩
       refine O.assign (v := (.int .i64 t10)) rfl rfl rfl ?_
       refine WL.nil ?_
       refine W.seq ?_
       refine W.seq ?_
       refine W.region ?_
       refine O.fieldAddr fd87_0 rfl rfl rfl ?_
       refine O.load sc3 rfl rfl rfl (H.cell 2 rfl 0 _ rfl) ?_
       refine O.fieldAddr fd87_0 rfl rfl rfl ?_
       refine O.load sc3 rfl rfl rfl (H.cell 3 rfl 0 _ rfl) ?_
       refine O.neq rfl rfl rfl rfl ?_
       refine WL.nil ?_
       rcases ite_some hm3 with ⟨hc4, hm3⟩ | ⟨hc4, hm3⟩
       ·
        refine W.cond_true (congrArg Value.bool hc4) ?_
        refine W.seq ?_
        refine W.region ?_
        refine O.assign (v := (.bool false)) rfl rfl rfl ?_
        refine WL.nil ?_
        refine W.ret ?_
        obtain rfl := Option.some.inj hm3
        refine ⟨_, rfl, ?_⟩
        rintro rfl
        have hq : false = r0 := Option.some.inj (show some false = some r0 from hm)
        subst hq
        exact ends1 Try.results28 rfl ⟨_, rfl, H.base, rfl⟩
       ·
        refine W.cond_false (congrArg Value.bool hc4) ?_
        refine W.skip ?_
        refine W.region ?_
        refine O.move (v := (.int .i64 z2)) rfl rfl rfl ?_
        refine O.move (v := (.int .i64 t5)) rfl rfl rfl ?_
        refine O.loadA [va0_0, va0_1] ag25 rfl rfl rfl rfl (H.cell 0 rfl) ?_
        refine O.fieldAddr fd87_0 rfl rfl rfl ?_
        refine O.load sc3 rfl rfl rfl (H.cell 2 rfl 0 _ rfl) ?_
        refine O.fieldAddr fd87_1 rfl rfl rfl ?_
        refine O.load sc3 rfl rfl rfl (H.cell 2 rfl 1 _ rfl) ?_
        refine O.fieldAddr fd87_1 rfl rfl rfl ?_
        refine O.load sc3 rfl rfl rfl (H.cell 3 rfl 1 _ rfl) ?_
        obtain ⟨t11, ht11, hm3⟩ := bind_some hm3
        refine O.sub rfl rfl rfl rfl ht11 ?_
        obtain ⟨t12, hy5, hm3⟩ := bind_some hm3
        refine O.call Try.call72 rfl rfl rfl (c_sight_carry _ _ (GNet.mk a0.Rates a0.Sights) (H.arg ha0_0) (H.arg ha0_1) _ _ hy5) ?_
        rintro _ w14 hb10 rfl
        have H := H.ext hb10
        obtain ⟨t13, ht13, hm3⟩ := bind_some hm3
        refine O.add rfl rfl rfl rfl ht13 ?_
        obtain ⟨t14, ht14, hm3⟩ := bind_some hm3
        refine O.add rfl rfl rfl rfl ht14 ?_
        refine O.assign (v := (.int .i64 t14)) rfl rfl rfl ?_
        refine WL.nil ?_
        refine W.region ?_
        refine O.add rfl rfl rfl rfl hinck1 ?_
        refine O.move (v := .int .i64 ((ik1 : Int) + 1)) rfl rfl rfl ?_
        refine WL.nil ?_
        have H := H.keep [0] [boxI b1 25 [va0_0, va0_1]] rfl (by decide)
        obtain rfl := Option.some.inj hm3
        exact ⟨_, rfl, _, rfl, rangeN_next hdropk1, rfl, rfl, rfl, rfl, rfl, rfl, H⟩
     ·
      rintro ik1 _ f w ⟨z2, rfl, hdropk1, hf29, hf28, hf1, hf2, hf5, hf27, H⟩ hfin
      have hltk1 := rangeN_end hdropk1
      obtain ⟨u21, rfl⟩ := up6 hf29 hf28 hf1 hf2 hf5 hf27
      refine W.seq ?_
      refine W.region ?_
      refine O.lss rfl rfl rfl rfl ?_
      refine WL.nil ?_
      refine W.seq ?_
      refine W.cond_false (congrArg Value.bool (decide_eq_false hltk1)) ?_
      refine W.exit ?_
      obtain rfl : Ctl.next z2 = o1 := hfin
      have H := H.keep [] [] rfl (by decide)
      refine xT rfl ?_
      exact ⟨_, rfl, rfl, H⟩
    ·
     rintro f w ⟨s1, rfl, hf5, H⟩
     obtain ⟨u22, rfl⟩ := up1 hf5
     refine W.seq ?_
     refine W.region ?_
     refine O.move (v := (.int .i64 s1)) rfl rfl rfl ?_
     refine O.lss rfl rfl rfl rfl ?_
     refine O.assign (v := (.bool (decide (s1 < 0)))) rfl rfl rfl ?_
     refine WL.nil ?_
     refine W.ret ?_
     have hq : (decide (s1 < 0)) = r0 := Option.some.inj (show some (decide (s1 < 0)) = some r0 from hm)
     subst hq
     exact ends1 Try.results28 rfl ⟨_, rfl, H.base, rfl⟩

set_option maxRecDepth 20000 in
theorem c_noongunlaw02_awake {w0 : World}  {r0 : Bool} (hm : noongunlaw02_awake  = some r0) :
  Calls Try.prog 15 #[] w0 (Ret w0 fun _ v => v = (.bool r0)) := by
 unfold noongunlaw02_awake at hm
 refine calls_of_W Try.func15 rfl Try.ntmps15 (Nat.le_of_ble_eq_true rfl) ?_
 have H := Inv.start (w := w0)
 refine W.seq ?_
 refine W.region ?_
 refine O.assign (v := (.bool false)) rfl rfl rfl ?_
 refine WL.nil ?_
 refine W.seq ?_
 refine W.region ?_
 obtain ⟨t1, hy1, hm⟩ := bind_some hm
 refine O.call Try.call53 rfl rfl rfl (c_noongunlaw02_two  hy1) ?_
 rintro _ w1 hb1 ⟨v1, v2, rfl, ho1⟩
 have H := H.addAll hb1 ho1
 refine O.alloc [(.slice none 0 0), (.slice none 0 0)] ze25 H rfl rfl rfl ?_
 intro b1 w2 H hb2
 have H := H.addNil (α := Int) (E := 3)
 have H := H.addNil (α := GSight) (E := 39)
 refine O.store 2 0 [v1, v2] [v1, v2] sz25 H rfl rfl rfl rfl rfl rfl ⟨⟨rfl, rfl⟩, rfl⟩ (one_cons (SliceR.one (H.own 0 rfl)) (one_cons (SliceR.one (H.own 1 rfl)) one_nil)) ?_
 intro w3 H
 refine WL.nil ?_
 refine W.seq ?_
 refine W.region ?_
 refine O.loadA [v1, v2] ag25 rfl rfl rfl rfl (H.cell 2 rfl) ?_
 obtain ⟨⟨t2, t3⟩, hy2, hm⟩ := bind_some hm
 refine O.call Try.call20 rfl rfl rfl (c_sight_Consistent _ _ (GNet.mk t1.Rates t1.Sights) (H.own 0 rfl) (H.own 1 rfl) hy2) ?_
 rintro _ w4 hb3 rfl
 have H := H.ext hb3
 refine O.move (v := (.tuple #[(.bool t2), (.int .i64 t3)])) rfl rfl rfl ?_
 refine O.extract (v := (.bool t2)) rfl rfl rfl rfl ?_
 refine O.extract (v := (.int .i64 t3)) rfl rfl rfl rfl ?_
 refine O.assign (v := (.bool t2)) rfl rfl rfl ?_
 refine O.assign (v := (.int .i64 t3)) rfl rfl rfl ?_
 refine WL.nil ?_
 refine W.seq ?_
 refine W.region ?_
 refine O.fieldAddr fd25_1 rfl rfl rfl ?_
 refine O.load sc23 rfl rfl rfl (H.cell 2 rfl 1 _ rfl) ?_
 obtain ⟨t4, ht4, hm⟩ := bind_some hm
 refine O.sliceHs Try.underlying23 sz39 (H.own 1 rfl) ht4 rfl rfl rfl rfl ?_
 intro v3 hs1
 refine O.fieldAddr fd25_1 rfl rfl rfl ?_
 refine O.store 2 1 [v3] [v1, v3] sz23 H rfl rfl rfl rfl rfl (SliceR.cells1 (hs1 _ (H.own 1 rfl))) ⟨⟨rfl, rfl⟩, rfl⟩ (one_cons (SliceR.one (hs1 _ (H.own 1 rfl))) one_nil) ?_
 intro w5 H
 refine WL.nil ?_
 refine W.seq ?_
 refine W.region ?_
 refine O.loadA [v1, v3] ag25 rfl rfl rfl rfl (H.cell 2 rfl) ?_
 obtain ⟨⟨t5, t6⟩, hy3, hm⟩ := bind_some hm
 refine O.call Try.call21 rfl rfl rfl (c_sight_Error _ _ (GNet.mk t1.Rates t4) (H.own 0 rfl) (hs1 _ (H.own 1 rfl)) _ _ hy3) ?_
 rintro _ w6 hb4 rfl
 have H := H.ext hb4
 refine O.move (v := (.tuple #[(.agg (Flat.cells t5).toArray), (.int .i64 t6)])) rfl rfl rfl ?_
 refine O.extract (v := (.agg (Flat.cells t5).toArray)) rfl rfl rfl rfl ?_
 refine O.extract (v := (.int .i64 t6)) rfl rfl rfl rfl ?_
 refine O.alloc [(.int .i64 0), (.int .i64 0)] ze30 H rfl rfl rfl ?_
 intro b2 w7 H hb5
 refine O.store 5 0 [(.int .i64 t5.Lo), (.int .i64 t5.Hi)] [(.int .i64 t5.Lo), (.int .i64 t5.Hi)] sz30 H rfl rfl rfl rfl rfl rfl ⟨⟨rfl, rfl⟩, rfl⟩ (one_cons rfl (one_cons rfl one_nil)) ?_
 intro w8 H
 refine O.assign (v := (.int .i64 t6)) rfl rfl rfl ?_
 refine WL.nil ?_
 refine W.seq ?_
 refine W.region ?_
 refine O.move (v := (.int .i64 t3)) rfl rfl rfl ?_
 refine O.eql rfl rfl rfl rfl ?_
 refine O.move (v := (.bool (t3 == 0))) rfl rfl rfl ?_
 refine WL.cut 3 (fun f w => f 4 = (.pointer (some ⟨b2, 0, none⟩)) ∧ f 5 = (.int .i64 t6) ∧ f 26 = .bool ((t3 == 0) && (!t2)) ∧ Inv w0 w [ownI (α := Int) v1 3 t1.Rates, ownI (α := GSight) v2 39 t1.Sights, boxI b1 25 [v1, v3], ownI (α := Int) (.slice none 0 0) 3 ([] : List Int), ownI (α := GSight) (.slice none 0 0) 39 ([] : List GSight), boxI b2 30 [(.int .i64 t5.Lo), (.int .i64 t5.Hi)]]) ?_ ?_
 ·
  rcases bool_ft (t3 == 0) with hc1 | hc1
  ·
   refine WL.reset (i := 23) (v := .bool false) (congrArg Value.bool hc1) ?_
   refine O.skip rfl rfl ?_
   refine O.skip rfl rfl ?_
   refine O.pick_false (v := (.bool false)) rfl rfl rfl rfl ?_
   exact WL.nil ⟨rfl, rfl, congrArg Value.bool (and_f hc1), H⟩
  ·
   refine WL.reset (i := 23) (v := .bool true) (congrArg Value.bool hc1) ?_
   refine O.move (v := (.bool t2)) rfl rfl rfl ?_
   refine O.not rfl rfl rfl ?_
   refine O.pick_true (v := (.bool (!t2))) rfl rfl rfl rfl ?_
   exact WL.nil ⟨rfl, rfl, congrArg Value.bool (and_t hc1), H⟩
 ·
  rintro f w ⟨hf4, hf5, hf26, H⟩
  obtain ⟨u1, rfl⟩ := up3 hf4 hf5 hf26
  refine O.move (v := (.bool ((t3 == 0) && (!t2)))) rfl rfl rfl ?_
  obtain ⟨b3, hm1, hm⟩ := bind_some hm
  refine WL.cut 4 (fun f w => f 4 = (.pointer (some ⟨b2, 0, none⟩)) ∧ f 5 = (.int .i64 t6) ∧ f 31 = .bool b3 ∧ Inv w0 w [ownI (α := Int) v1 3 t1.Rates, ownI (α := GSight) v2 39 t1.Sights, boxI b1 25 [v1, v3], ownI (α := Int) (.slice none 0 0) 3 ([] : List Int), ownI (α := GSight) (.slice none 0 0) 39 ([] : List GSight), boxI b2 30 [(.int .i64 t5.Lo), (.int .i64 t5.Hi)]]) ?_ ?_
  ·
   rcases ite_some hm1 with ⟨hc2, hm1⟩ | ⟨hc2, hm1⟩
   ·
    refine WL.reset (i := 27) (v := .bool true) (congrArg Value.bool hc2) ?_
    obtain ⟨t7, hy4, hm1⟩ := bind_some hm1
    refine O.call Try.call53 rfl rfl rfl (c_noongunlaw02_two  hy4) ?_
    rintro _ w9 hb6 ⟨v4, v5, rfl, ho2⟩
    have H := H.addAll hb6 ho2
    refine O.buildSlice (α := Int) [(.int .i64 0), (.int .i64 3)] [0, 3] Try.underlying22 el3 H rfl rfl rfl rfl rfl rfl rfl ?_
    intro v6 w10 H hb7
    obtain ⟨t8, hy5, hm1⟩ := bind_some hm1
    refine O.call Try.call28 rfl rfl rfl (c_sight_Proves _ _ t7 (H.own 6 rfl) (H.own 7 rfl) _ _ (H.own 8 rfl) hy5) ?_
    rintro _ w11 hb8 rfl
    have H := H.ext hb8
    refine O.pick_true (v := (.bool t8)) rfl rfl rfl rfl ?_
    refine WL.nil ?_
    have H := H.keep [0, 1, 2, 3, 4, 5] [ownI (α := Int) v1 3 t1.Rates, ownI (α := GSight) v2 39 t1.Sights, boxI b1 25 [v1, v3], ownI (α := Int) (.slice none 0 0) 3 ([] : List Int), ownI (α := GSight) (.slice none 0 0) 39 ([] : List GSight), boxI b2 30 [(.int .i64 t5.Lo), (.int .i64 t5.Hi)]] rfl (by decide)
    have hq : t8 = b3 := Option.some.inj (show some t8 = some b3 from hm1)
    subst hq
    exact ⟨rfl, rfl, rfl, H⟩
   ·
    refine WL.reset (i := 27) (v := .bool false) (congrArg Value.bool hc2) ?_
    refine O.skip rfl rfl ?_
    refine O.skip rfl rfl ?_
    refine O.skip rfl rfl ?_
    refine O.pick_false (v := (.bool false)) rfl rfl rfl rfl ?_
    refine WL.nil ?_
    have hq : false = b3 := Option.some.inj (show some false = some b3 from hm1)
    subst hq
    exact ⟨rfl, rfl, rfl, H⟩
  ·
   rintro f w ⟨hf4, hf5, hf31, H⟩
   obtain ⟨u2, rfl⟩ := up3 hf4 hf5 hf31
   refine O.move (v := (.bool b3)) rfl rfl rfl ?_
   refine WL.cut 3 (fun f w => f 4 = (.pointer (some ⟨b2, 0, none⟩)) ∧ f 35 = .bool (b3 && (t6 == 0)) ∧ Inv w0 w [ownI (α := Int) v1 3 t1.Rates, ownI (α := GSight) v2 39 t1.Sights, boxI b1 25 [v1, v3], ownI (α := Int) (.slice none 0 0) 3 ([] : List Int), ownI (α := GSight) (.slice none 0 0) 39 ([] : List GSight), boxI b2 30 [(.int .i64 t5.Lo), (.int .i64 t5.Hi)]]) ?_ ?_
   ·
    rcases bool_ft b3 with hc3 | hc3
    ·
     refine WL.reset (i := 32) (v := .bool false) (congrArg Value.bool hc3) ?_
     refine O.skip rfl rfl ?_
     refine O.skip rfl rfl ?_
     refine O.pick_false (v := (.bool false)) rfl rfl rfl rfl ?_
     exact WL.nil ⟨rfl, congrArg Value.bool (and_f hc3), H⟩
    ·
     refine WL.reset (i := 32) (v := .bool true) (congrArg Value.bool hc3) ?_
     refine O.move (v := (.int .i64 t6)) rfl rfl rfl ?_
     refine O.eql rfl rfl rfl rfl ?_
     refine O.pick_true (v := (.bool (t6 == 0))) rfl rfl rfl rfl ?_
     exact WL.nil ⟨rfl, congrArg Value.bool (and_t hc3), H⟩
   ·
    rintro f w ⟨hf4, hf35, H⟩
    obtain ⟨u3, rfl⟩ := up2 hf4 hf35
    refine O.move (v := (.bool (b3 && (t6 == 0)))) rfl rfl rfl ?_
    refine WL.cut 4 (fun f w => f 40 = .bool ((b3 && (t6 == 0)) && (t5 == (GSpan.mk 90 110))) ∧ Inv w0 w [ownI (α := Int) v1 3 t1.Rates, ownI (α := GSight) v2 39 t1.Sights, boxI b1 25 [v1, v3], ownI (α := Int) (.slice none 0 0) 3 ([] : List Int), ownI (α := GSight) (.slice none 0 0) 39 ([] : List GSight), boxI b2 30 [(.int .i64 t5.Lo), (.int .i64 t5.Hi)]]) ?_ ?_
    ·
     rcases bool_ft (b3 && (t6 == 0)) with hc4 | hc4
     ·
      refine WL.reset (i := 36) (v := .bool false) (congrArg Value.bool hc4) ?_
      refine O.skip rfl rfl ?_
      refine O.skip rfl rfl ?_
      refine O.skip rfl rfl ?_
      refine O.pick_false (v := (.bool false)) rfl rfl rfl rfl ?_
      exact WL.nil ⟨congrArg Value.bool (and_f hc4), H⟩
     ·
      refine WL.reset (i := 36) (v := .bool true) (congrArg Value.bool hc4) ?_
      refine O.loadA [(.int .i64 t5.Lo), (.int .i64 t5.Hi)] ag30 rfl rfl rfl rfl (H.cell 5 rfl) ?_
      refine O.build (v := (.agg (Flat.cells (GSpan.mk 90 110)).toArray)) (fun w => bd30_0_1 _ _ w) rfl rfl rfl ?_
      refine O.eqlSt t5 (GSpan.mk 90 110) eq30 rfl rfl rfl rfl ?_
      refine O.pick_true (v := (.bool (t5 == (GSpan.mk 90 110)))) rfl rfl rfl rfl ?_
      exact WL.nil ⟨congrArg Value.bool (and_t hc4), H⟩
    ·
     rintro f w ⟨hf40, H⟩
     obtain ⟨u4, rfl⟩ := up1 hf40
     refine O.assign (v := (.bool ((b3 && (t6 == 0)) && (t5 == (GSpan.mk 90 110))))) rfl rfl rfl ?_
     refine WL.nil ?_
     refine W.ret ?_
     have hq : ((b3 && (t6 == 0)) && (t5 == (GSpan.mk 90 110))) = r0 := Option.some.inj (show some ((b3 && (t6 == 0)) && (t5 == (GSpan.mk 90 110))) = some r0 from hm)
     subst hq
     exact ends1 Try.results15 rfl ⟨_, rfl, H.base, rfl⟩

theorem c_sight_agrees {w0 : World} (va0_0 : Value) (va0_1 : Value) (a0 : GNet) (ha0_0 : SliceR w0 va0_0 a0.Rates) (ha0_1 : SliceR w0 va0_1 a0.Sights) {r0 : Int} (hm : sight_agrees a0 = some r0) :
  Calls Try.prog 78 #[(.agg #[va0_0, va0_1])] w0 (Ret w0 fun _ v => v = (.int .i64 r0)) := by
 unfold sight_agrees at hm
 refine calls_of_W Try.func78 rfl Try.ntmps78 (Nat.le_of_ble_eq_true rfl) ?_
 have H := Inv.start (w := w0)
 refine W.seq ?_
 refine W.region ?_
 refine O.box [va0_0, va0_1] H rfl rfl rfl rfl ?_
 intro b1 w1 H hb1
 refine O.assign (v := (.int .i64 0)) rfl rfl rfl ?_
 refine WL.nil ?_
 refine W.seq ?_
 refine W.region ?_
 refine O.loadA [va0_0, va0_1] ag25 rfl rfl rfl rfl (H.cell 0 rfl) ?_
 obtain ⟨⟨t1, t2⟩, hy1, hm⟩ := bind_some hm
 refine O.call Try.call20 rfl rfl rfl (c_sight_Consistent _ _ (GNet.mk a0.Rates a0.Sights) (H.arg ha0_0) (H.arg ha0_1) hy1) ?_
 rintro _ w2 hb2 rfl
 have H := H.ext hb2
 refine O.move (v := (.tuple #[(.bool t1), (.int .i64 t2)])) rfl rfl rfl ?_
 refine O.extract (v := (.bool t1)) rfl rfl rfl rfl ?_
 refine O.extract (v := (.int .i64 t2)) rfl rfl rfl rfl ?_
 refine O.assign (v := (.bool t1)) rfl rfl rfl ?_
 refine O.assign (v := (.int .i64 t2)) rfl rfl rfl ?_
 refine WL.nil ?_
 refine W.seq ?_
 refine W.seq ?_
 refine W.region ?_
 refine O.move (v := (.int .i64 t2)) rfl rfl rfl ?_
 refine O.eql rfl rfl rfl rfl ?_
 refine O.move (v := (.bool (t2 == 0))) rfl rfl rfl ?_
 refine WL.cut 3 (fun f w => f 4 = (.int .i64 t2) ∧ f 15 = .bool ((t2 == 0) && (!t1)) ∧ Inv w0 w [boxI b1 25 [va0_0, va0_1]]) ?_ ?_
 ·
  rcases bool_ft (t2 == 0) with hc1 | hc1
  ·
   refine WL.reset (i := 12) (v := .bool false) (congrArg Value.bool hc1) ?_
   refine O.skip rfl rfl ?_
   refine O.skip rfl rfl ?_
   refine O.pick_false (v := (.bool false)) rfl rfl rfl rfl ?_
   exact WL.nil ⟨rfl, congrArg Value.bool (and_f hc1), H⟩
  ·
   refine WL.reset (i := 12) (v := .bool true) (congrArg Value.bool hc1) ?_
   refine O.move (v := (.bool t1)) rfl rfl rfl ?_
   refine O.not rfl rfl rfl ?_
   refine O.pick_true (v := (.bool (!t1))) rfl rfl rfl rfl ?_
   exact WL.nil ⟨rfl, congrArg Value.bool (and_t hc1), H⟩
 ·
  rintro f w ⟨hf4, hf15, H⟩
  obtain ⟨u1, rfl⟩ := up2 hf4 hf15
  refine WL.nil ?_
  rcases ite_some hm with ⟨hc2, hm⟩ | ⟨hc2, hm⟩
  ·
   refine W.cond_true (congrArg Value.bool hc2) ?_
   refine W.seq ?_
   refine W.region ?_
   refine O.assign (v := (.int .i64 9)) rfl rfl rfl ?_
   refine WL.nil ?_
   refine W.ret ?_
   have hq : 9 = r0 := Option.some.inj (show some 9 = some r0 from hm)
   subst hq
   exact ends1 Try.results78 rfl ⟨_, rfl, H.base, rfl⟩
  ·
   refine W.cond_false (congrArg Value.bool hc2) ?_
   refine W.skip ?_
   refine W.seq ?_
   refine W.region ?_
   refine O.move (v := (.int .i64 t2)) rfl rfl rfl ?_
   refine O.assign (v := (.int .i64 t2)) rfl rfl rfl ?_
   refine WL.nil ?_
   refine W.ret ?_
   have hq : t2 = r0 := Option.some.inj (show some t2 = some r0 from hm)
   subst hq
   exact ends1 Try.results78 rfl ⟨_, rfl, H.base, rfl⟩

theorem c_slices_Clone_int {w0 : World} (va0 : Value) (a0 : (List Int)) (ha0 : SliceR w0 va0 a0) {r0 : (List Int)} (hm : slices_Clone_int a0 = some r0) :
  Calls Try.prog 65 #[va0] w0 (Ret w0 fun w v => OwnR w0 w v 3 r0) := by
 unfold slices_Clone_int at hm
 refine calls_of_W Try.func65 rfl Try.ntmps65 (Nat.le_of_ble_eq_true rfl) ?_
 have H := Inv.start (w := w0)
 refine W.seq ?_
 refine W.region ?_
 have H := H.addNil (α := Int) (E := 3)
 refine O.assign (v := (.slice none 0 0)) rfl rfl rfl ?_
 refine WL.nil ?_
 refine W.seq ?_
 refine W.seq ?_
 refine W.region ?_
 refine O.move (v := va0) rfl rfl rfl ?_
 rcases ha0.nil_or with ⟨rfl, rfl⟩ | ⟨ad, cap, rfl⟩
 ·
  replace hm : (some ([] : List Int)) = some r0 := by simpa [appI] using hm
  refine O.eqlNil Try.underlying22 rfl rfl rfl rfl ?_
  refine WL.reset (i := 4) (v := .bool true) rfl ?_
  refine WL.nil ?_
  refine W.cond_true rfl ?_
  refine W.seq ?_
  refine W.region ?_
  have H := H.addNil (α := Int) (E := 3)
  refine O.assign (v := (.slice none 0 0)) rfl rfl rfl ?_
  refine WL.nil ?_
  refine W.ret ?_
  have hq : ([] : List Int) = r0 := Option.some.inj (show some ([] : List Int) = some r0 from hm)
  subst hq
  exact ends1 Try.results65 rfl ⟨_, rfl, H.base, H.ownR 1 rfl⟩
 ·
  refine O.eqlNil Try.underlying22 rfl rfl rfl rfl ?_
  refine WL.reset (i := 4) (v := .bool false) rfl ?_
  refine WL.nil ?_
  refine W.cond_false rfl ?_
  refine W.skip ?_
  refine W.seq ?_
  refine W.region ?_
  refine O.buildEmpty (α := Int) Try.underlying22 el3 H rfl rfl ?_
  intro b1 w1 H hb1
  refine O.move (v := (.slice (some ad) a0.length cap)) rfl rfl rfl ?_
  obtain ⟨t1, ht1, hm⟩ := bind_some hm
  refine O.append 1 Try.underlying22 el3 rfl H rfl (H.arg ha0) ht1 rfl rfl rfl rfl ?_
  intro v1 w2 H
  refine O.assign (v := v1) rfl rfl rfl ?_
  refine WL.nil ?_
  refine W.ret ?_
  have hq : t1 = r0 := Option.some.inj (show some t1 = some r0 from hm)
  subst hq
  exact ends1 Try.results65 rfl ⟨_, rfl, H.base, H.ownR 1 rfl⟩

set_option maxRecDepth 20000 in
theorem c_sight_Tight {w0 : World} (va0_0 : Value) (va0_1 : Value) (a0 : GNet) (ha0_0 : SliceR w0 va0_0 a0.Rates) (ha0_1 : SliceR w0 va0_1 a0.Sights) {r0 : GNet} {r1 : Int} (hm : sight_Tight a0 = some (r0, r1)) :
  Calls Try.prog 42 #[(.agg #[va0_0, va0_1])] w0 (Ret w0 fun w v => ∃ vr0_0 : Value, ∃ vr0_1 : Value, v = .tuple #[(.agg #[vr0_0, vr0_1]), (.int .i64 r1)] ∧ Inv w0 w [ownI (α := Int) vr0_0 3 r0.Rates, ownI (α := GSight) vr0_1 39 r0.Sights]) := by
 unfold sight_Tight at hm
 refine calls_of_W Try.func42 rfl Try.ntmps42 (Nat.le_of_ble_eq_true rfl) ?_
 have H := Inv.start (w := w0)
 refine W.seq ?_
 refine W.region ?_
 refine O.box [va0_0, va0_1] H rfl rfl rfl rfl ?_
 intro b1 w1 H hb1
 refine O.alloc [(.slice none 0 0), (.slice none 0 0)] ze25 H rfl rfl rfl ?_
 intro b2 w2 H hb2
 have H := H.addNil (α := Int) (E := 3)
 have H := H.addNil (α := GSight) (E := 39)
 refine O.assign (v := (.int .i64 0)) rfl rfl rfl ?_
 refine WL.nil ?_
 refine W.seq ?_
 refine W.seq ?_
 refine W.region ?_
 refine O.loadA [va0_0, va0_1] ag25 rfl rfl rfl rfl (H.cell 0 rfl) ?_
 obtain ⟨t1, hy1, hm⟩ := bind_some hm
 refine O.call Try.call78 rfl rfl rfl (c_sight_agrees _ _ (GNet.mk a0.Rates a0.Sights) (H.arg ha0_0) (H.arg ha0_1) hy1) ?_
 rintro _ w3 hb3 rfl
 have H := H.ext hb3
 refine O.assign (v := (.int .i64 t1)) rfl rfl rfl ?_
 refine WL.nil ?_
 refine W.seq ?_
 refine W.region ?_
 refine O.move (v := (.int .i64 t1)) rfl rfl rfl ?_
 refine O.neq rfl rfl rfl rfl ?_
 refine WL.nil ?_
 rcases ite_some hm with ⟨hc1, hm⟩ | ⟨hc1, hm⟩
 ·
  refine W.cond_true (congrArg Value.bool hc1) ?_
  refine W.seq ?_
  refine W.region ?_
  refine O.build (v := (.agg #[(.slice none 0 0), (.slice none 0 0)])) (fun w => bd25_  w) rfl rfl rfl ?_
  refine O.move (v := (.int .i64 t1)) rfl rfl rfl ?_
  have H := H.addNil (α := Int) (E := 3)
  have H := H.addNil (α := GSight) (E := 39)
  refine O.store 1 0 [(.slice none 0 0), (.slice none 0 0)] [(.slice none 0 0), (.slice none 0 0)] sz25 H rfl rfl rfl rfl rfl rfl ⟨⟨rfl, rfl⟩, rfl⟩ (one_cons rfl (one_cons rfl one_nil)) ?_
  intro w4 H
  refine O.assign (v := (.int .i64 t1)) rfl rfl rfl ?_
  refine WL.nil ?_
  refine W.ret ?_
  have hq : ((GNet.mk ([] : List Int) ([] : List GSight)), t1) = (r0, r1) := Option.some.inj (show some ((GNet.mk ([] : List Int) ([] : List GSight)), t1) = some (r0, r1) from hm)
  obtain ⟨he0, hq0⟩ := Prod.mk.inj hq; clear hq; subst he0
  subst hq0
  exact ends2 Try.results42 ⟨_, rfl, run_loadVar_agg ag25 rfl (H.cell 1 rfl)⟩ rfl ⟨_, rfl, H.base, ⟨_, _, rfl, H.pick [4, 5] [ownI (α := Int) (.slice none 0 0) 3 ([] : List Int), ownI (α := GSight) (.slice none 0 0) 39 ([] : List GSight)] rfl (by decide)⟩⟩
 ·
  refine W.cond_false (congrArg Value.bool hc1) ?_
  refine W.skip ?_
  refine W.seq ?_
  refine W.region ?_
  refine O.fieldAddr fd25_0 rfl rfl rfl ?_
  refine O.load sc22 rfl rfl rfl (H.cell 0 rfl 0 _ rfl) ?_
  obtain ⟨t2, hy2, hm⟩ := bind_some hm
  refine O.call Try.call65 rfl rfl rfl (c_slices_Clone_int _ _ (H.arg ha0_0) hy2) ?_
  rintro v1 w5 hb4 ho1
  have H := H.addOwn hb4 ho1
  obtain ⟨ad1, cap1, hvad1, _⟩ := (H.own 4 rfl).shape
  refine O.build (v := (.agg #[v1, (.slice none 0 0)])) (fun w => by rw [hvad1]; exact bd25_0 _ _ _ w) rfl rfl rfl ?_
  refine O.alloc [(.slice none 0 0), (.slice none 0 0)] ze25 H rfl rfl rfl ?_
  intro b3 w6 H hb5
  have H := H.addNil (α := Int) (E := 3)
  have H := H.addNil (α := GSight) (E := 39)
  have H := H.addNil (α := GSight) (E := 39)
  refine O.store 5 0 [v1, (.slice none 0 0)] [v1, (.slice none 0 0)] sz25 H rfl rfl rfl rfl rfl rfl ⟨⟨rfl, rfl⟩, rfl⟩ (one_cons (SliceR.one (H.own 4 rfl)) (one_cons rfl one_nil)) ?_
  intro w7 H
  refine WL.nil ?_
  refine W.seq ?_
  refine W.seq ?_
  refine W.region ?_
  refine O.fieldAddr fd25_1 rfl rfl rfl ?_
  refine O.load sc23 rfl rfl rfl (H.cell 0 rfl 1 _ rfl) ?_
  refine O.lenS Try.underlying23 (H.arg ha0_1) rfl rfl rfl ?_
  refine O.move (v := (.int .i64 0)) rfl rfl rfl ?_
  refine WL.nil ?_
  obtain ⟨s1, hm1, hm⟩ := bind_some hm
  refine W.via (fun f w => ∃ v5 : Value, f 2 = (.pointer (some ⟨b2, 0, none⟩)) ∧ f 5 = (.pointer (some ⟨b3, 0, none⟩)) ∧ Inv w0 w [boxI b2 25 [(.slice none 0 0), (.slice none 0 0)], ownI (α := Int) (.slice none 0 0) 3 ([] : List Int), ownI (α := GSight) (.slice none 0 0) 39 ([] : List GSight), ownI (α := Int) v1 3 t2, boxI b3 25 [v1, v5], ownI (α := GSight) v5 39 s1]) ?_ ?_
  ·
   refine W.block ?_
   have H := H.keep [0, 1, 2, 3, 4, 5, 8] [boxI b1 25 [va0_0, va0_1], boxI b2 25 [(.slice none 0 0), (.slice none 0 0)], ownI (α := Int) (.slice none 0 0) 3 ([] : List Int), ownI (α := GSight) (.slice none 0 0) 39 ([] : List GSight), ownI (α := Int) v1 3 t2, boxI b3 25 [v1, (.slice none 0 0)], ownI (α := GSight) (.slice none 0 0) 39 ([] : List GSight)] rfl (by decide)
   refine W.rangeL (i := 0) hm1 (fun rem ik1 s f w => ∃ z2 : (List GSight), ∃ v3 : Value, z2 = s ∧ a0.Sights.drop ik1 = rem ∧ f 23 = .int .i64 (ik1 : Int) ∧ f 22 = (.int .i64 ((a0.Sights.length : Nat) : Int)) ∧ f 1 = (.pointer (some ⟨b1, 0, none⟩)) ∧ f 2 = (.pointer (some ⟨b2, 0, none⟩)) ∧ f 5 = (.pointer (some ⟨b3, 0, none⟩)) ∧ f 21 = va0_1 ∧ Inv w0 w [boxI b1 25 [va0_0, va0_1], boxI b2 25 [(.slice none 0 0), (.slice none 0 0)], ownI (α := Int) (.slice none 0 0) 3 ([] : List Int), ownI (α := GSight) (.slice none 0 0) 39 ([] : List GSight), ownI (α := Int) v1 3 t2, boxI b3 25 [v1, v3], ownI (α := GSight) v3 39 z2]) ?_ ?_ ?_
   ·
    exact ⟨_, (.slice none 0 0), rfl, List.drop_zero, rfl, rfl, rfl, rfl, rfl, rfl, H⟩
   ·
    rintro yk1 xs ik1 _ st f w ⟨z2, v3, rfl, hdropk1, hf23, hf22, hf1, hf2, hf5, hf21, H⟩ hm2
    have hltk1 := drop_lt hdropk1; have hixk1 := drop_idx hdropk1
    obtain ⟨u1, rfl⟩ := up6 hf23 hf22 hf1 hf2 hf5 hf21
    have hinck1 := addI_lt hltk1 (H.arg ha0_1).len_le
    refine W.seq ?_
    refine W.region ?_
    refine O.lss rfl rfl rfl rfl ?_
    refine WL.nil ?_
    refine W.seq ?_
    refine W.cond_true (congrArg Value.bool (decide_eq_true hltk1)) ?_
    refine W.skip ?_
    refine W.seq ?_
    refine W.block ?_
    refine W.seq ?_
    refine W.region ?_
    obtain ⟨p1, hp1, hrp1⟩ := fix_indexAddr Try.underlying23 sz39 ha0_1 hixk1
    refine hrp1 rfl rfl rfl rfl ?_
    refine O.loadA [(.int .i64 yk1.At), (.int .i64 yk1.A), (.int .i64 yk1.B), (.int .i64 yk1.Lo), (.int .i64 yk1.Hi)] ag39 rfl rfl rfl rfl ((hp1.mono H.base).flat) ?_
    refine O.alloc [(.int .i64 0), (.int .i64 0), (.int .i64 0), (.int .i64 0), (.int .i64 0)] ze39 H rfl rfl rfl ?_
    intro b4 w8 H hb6
    refine O.store 7 0 [(.int .i64 yk1.At), (.int .i64 yk1.A), (.int .i64 yk1.B), (.int .i64 yk1.Lo), (.int .i64 yk1.Hi)] [(.int .i64 yk1.At), (.int .i64 yk1.A), (.int .i64 yk1.B), (.int .i64 yk1.Lo), (.int .i64 yk1.Hi)] sz39 H rfl rfl rfl rfl rfl rfl ⟨⟨rfl, rfl⟩, rfl⟩ (one_cons rfl (one_cons rfl (one_cons rfl (one_cons rfl (one_cons rfl one_nil))))) ?_
    intro w9 H
    refine WL.nil ?_
    refine W.seq ?_
    refine W.region ?_
    refine O.loadA [va0_0, va0_1] ag25 rfl rfl rfl rfl (H.cell 0 rfl) ?_
    refine O.fieldAddr fd39_1 rfl rfl rfl ?_
    refine O.load sc3 rfl rfl rfl (H.cell 7 rfl 1 _ rfl) ?_
    refine O.fieldAddr fd39_2 rfl rfl rfl ?_
    refine O.load sc3 rfl rfl rfl (H.cell 7 rfl 2 _ rfl) ?_
    refine O.fieldAddr fd39_0 rfl rfl rfl ?_
    refine O.load sc3 rfl rfl rfl (H.cell 7 rfl 0 _ rfl) ?_
    obtain ⟨⟨t3, t4⟩, hy3, hm2⟩ := bind_some hm2
    refine O.call Try.call58 rfl rfl rfl (c_sight_between _ _ (GNet.mk a0.Rates a0.Sights) (H.arg ha0_0) (H.arg ha0_1) _ _ _ hy3) ?_
    rintro _ w10 hb7 rfl
    have H := H.ext hb7
    refine O.move (v := (.tuple #[(.agg (Flat.cells t3).toArray), (.bool t4)])) rfl rfl rfl ?_
    refine O.extract (v := (.agg (Flat.cells t3).toArray)) rfl rfl rfl rfl ?_
    refine O.extract (v := (.bool t4)) rfl rfl rfl rfl ?_
    refine O.alloc [(.int .i64 0), (.int .i64 0)] ze30 H rfl rfl rfl ?_
    intro b5 w11 H hb8
    refine O.store 8 0 [(.int .i64 t3.Lo), (.int .i64 t3.Hi)] [(.int .i64 t3.Lo), (.int .i64 t3.Hi)] sz30 H rfl rfl rfl rfl rfl rfl ⟨⟨rfl, rfl⟩, rfl⟩ (one_cons rfl (one_cons rfl one_nil)) ?_
    intro w12 H
    refine O.assign (v := (.bool t4)) rfl rfl rfl ?_
    refine WL.nil ?_
    refine W.seq ?_
    refine W.drawS 5 [2, 3] (fun w9 => Inv w0 w9 [boxI b1 25 [va0_0, va0_1], boxI b2 25 [(.slice none 0 0), (.slice none 0 0)], ownI (α := Int) (.slice none 0 0) 3 ([] : List Int), ownI (α := GSight) (.slice none 0 0) 39 ([] : List GSight), ownI (α := Int) v1 3 t2, boxI b3 25 [v1, v3], ownI (α := GSight) v3 39 z2, boxI b4 39 [(.int .i64 yk1.At), (.int .i64 yk1.A), (.int .i64 yk1.B), (.int .i64 t3.Lo), (.int .i64 yk1.Hi)], boxI b5 30 [(.int .i64 t3.Lo), (.int .i64 t3.Hi)]]) (fun f => f 1 = (.pointer (some ⟨b1, 0, none⟩)) ∧ f 2 = (.pointer (some ⟨b2, 0, none⟩)) ∧ f 5 = (.pointer (some ⟨b3, 0, none⟩)) ∧ f 7 = (.pointer (some ⟨b4, 0, none⟩)) ∧ f 21 = va0_1 ∧ f 22 = (.int .i64 ((a0.Sights.length : Nat) : Int)) ∧ f 23 = (.int .i64 (ik1 : Int)) ∧ f 39 = (.int .i64 t3.Lo) ∧ f 41 = (.int .i64 t3.Hi) ∧ f 42 = (.pointer (some (Addr.add (Addr.mk b4 0 none) 3)))) fol (by kernel_rfl) rfl ?_ ?_ ?_
    ·
     refine PL.of (fun b w8 hb hx => match b, hb, hx with | none, _, hx => by exact O.fieldAddr fd30_0 rfl rfl rfl (WL.nil ⟨rfl, hx⟩) | some _, hb, _ => absurd (hb rfl) (by decide)) ?_
     refine PL.of (fun b w8 hb hx => match b, hb, hx with | none, _, hx => by have H := H.ext hx; exact O.load sc3 rfl rfl rfl (H.cell 8 rfl 0 _ rfl) (WL.nil ⟨rfl, hx⟩) | some _, hb, _ => absurd (hb rfl) (by decide)) ?_
     refine PL.of (fun b w8 _ hx => match b, hx with | none, hx => by exact O.fieldAddr fd30_1 rfl rfl rfl (WL.nil ⟨rfl, hx⟩) | some _, H => O.fieldAddr fd30_1 rfl rfl rfl (WL.nil ⟨rfl, H⟩)) ?_
     refine PL.of (fun b w8 _ hx => match b, hx with | none, hx => by have H := H.ext hx; exact O.load sc3 rfl rfl rfl (H.cell 8 rfl 1 _ rfl) (WL.nil ⟨rfl, hx⟩) | some _, H => O.load sc3 rfl rfl rfl (H.cell 8 rfl 1 _ rfl) (WL.nil ⟨rfl, H⟩)) ?_
     refine PL.of (fun b w8 hb hx => match b, hb, hx with | none, _, hx => by exact O.fieldAddr fd39_3 rfl rfl rfl (WL.nil ⟨rfl, hx⟩) | some _, hb, _ => absurd (hb rfl) (by decide)) ?_
     refine PL.nil ?_
     exact ⟨rfl, rfl, rfl, rfl, rfl, rfl, rfl, rfl, rfl, rfl⟩
    ·
     rintro f ⟨hf1, hf2, hf5, hf7, hf21, hf22, hf23, hf39, hf41, hf42⟩ w hx
     obtain ⟨u2, rfl⟩ : ∃ u2, f = (upd (upd (upd (upd (upd (upd (upd (upd (upd (upd u2 1 (.pointer (some ⟨b1, 0, none⟩))) 2 (.pointer (some ⟨b2, 0, none⟩))) 5 (.pointer (some ⟨b3, 0, none⟩))) 7 (.pointer (some ⟨b4, 0, none⟩))) 21 va0_1) 22 (.int .i64 ((a0.Sights.length : Nat) : Int))) 23 (.int .i64 (ik1 : Int))) 39 (.int .i64 t3.Lo)) 41 (.int .i64 t3.Hi)) 42 (.pointer (some (Addr.add (Addr.mk b4 0 none) 3)))) := ⟨f, by rw [upd_self hf1, upd_self hf2, upd_self hf5, upd_self hf7, upd_self hf21, upd_self hf22, upd_self hf23, upd_self hf39, upd_self hf41, upd_self hf42]⟩
     have H := H.ext hx
     exact O.store 7 3 [(.int .i64 t3.Lo)] [(.int .i64 yk1.At), (.int .i64 yk1.A), (.int .i64 yk1.B), (.int .i64 t3.Lo), (.int .i64 yk1.Hi)] sz3 H rfl rfl rfl rfl rfl rfl ⟨⟨rfl, rfl⟩, rfl⟩ (one_cons rfl one_nil) (fun _ H => WL.nil ⟨rfl, H⟩)
    ·
     rintro f w ⟨hf1, hf2, hf5, hf7, hf21, hf22, hf23, hf39, hf41, hf42⟩ hmd H
     obtain ⟨u3, rfl⟩ : ∃ u3, f = (upd (upd (upd (upd (upd (upd (upd (upd (upd (upd u3 1 (.pointer (some ⟨b1, 0, none⟩))) 2 (.pointer (some ⟨b2, 0, none⟩))) 5 (.pointer (some ⟨b3, 0, none⟩))) 7 (.pointer (some ⟨b4, 0, none⟩))) 21 va0_1) 22 (.int .i64 ((a0.Sights.length : Nat) : Int))) 23 (.int .i64 (ik1 : Int))) 39 (.int .i64 t3.Lo)) 41 (.int .i64 t3.Hi)) 42 (.pointer (some (Addr.add (Addr.mk b4 0 none) 3)))) := ⟨f, by rw [upd_self hf1, upd_self hf2, upd_self hf5, upd_self hf7, upd_self hf21, upd_self hf22, upd_self hf23, upd_self hf39, upd_self hf41, upd_self hf42]⟩
     refine O.fieldAddr fd39_4 rfl rfl rfl ?_
     refine O.store 7 4 [(.int .i64 t3.Hi)] [(.int .i64 yk1.At), (.int .i64 yk1.A), (.int .i64 yk1.B), (.int .i64 t3.Lo), (.int .i64 t3.Hi)] sz3 H rfl rfl rfl rfl rfl rfl ⟨⟨rfl, rfl⟩, rfl⟩ (one_cons rfl one_nil) ?_
     intro w13 H
     refine WL.nil ?_
     refine W.region ?_
     refine O.fieldAddr fd25_1 rfl rfl rfl ?_
     refine O.load sc23 rfl rfl rfl (H.cell 5 rfl 1 _ rfl) ?_
     refine O.loadA [(.int .i64 yk1.At), (.int .i64 yk1.A), (.int .i64 yk1.B), (.int .i64 t3.Lo), (.int .i64 t3.Hi)] ag39 rfl rfl rfl rfl (H.cell 7 rfl) ?_
     refine O.buildSlice (α := GSight) [(.agg (Flat.cells (GSight.mk yk1.At yk1.A yk1.B t3.Lo t3.Hi)).toArray)] [(GSight.mk yk1.At yk1.A yk1.B t3.Lo t3.Hi)] Try.underlying23 el39 H rfl rfl rfl rfl rfl rfl rfl ?_
     intro v6 w14 H hb9
     obtain ⟨t5, ht5, hm2⟩ := bind_some hm2
     refine O.append 6 Try.underlying23 el39 rfl H rfl (H.own 9 rfl) ht5 rfl rfl rfl rfl ?_
     intro v7 w15 H
     refine O.fieldAddr fd25_1 rfl rfl rfl ?_
     refine O.store 5 1 [v7] [v1, v7] sz23 H rfl rfl rfl rfl rfl (SliceR.cells1 (H.own 6 rfl)) ⟨⟨rfl, rfl⟩, rfl⟩ (one_cons (SliceR.one (H.own 6 rfl)) one_nil) ?_
     intro w16 H
     refine WL.nil ?_
     refine W.region ?_
     refine O.add rfl rfl rfl rfl hinck1 ?_
     refine O.move (v := .int .i64 ((ik1 : Int) + 1)) rfl rfl rfl ?_
     refine WL.nil ?_
     have H := H.keep [0, 1, 2, 3, 4, 5, 6] [boxI b1 25 [va0_0, va0_1], boxI b2 25 [(.slice none 0 0), (.slice none 0 0)], ownI (α := Int) (.slice none 0 0) 3 ([] : List Int), ownI (α := GSight) (.slice none 0 0) 39 ([] : List GSight), ownI (α := Int) v1 3 t2, boxI b3 25 [v1, v7], ownI (α := GSight) v7 39 t5] rfl (by decide)
     obtain rfl := Option.some.inj hm2
     exact ⟨_, rfl, _, v7, rfl, drop_next hdropk1, rfl, rfl, rfl, rfl, rfl, rfl, H⟩
   ·
    rintro ik1 _ f w ⟨z2, v3, rfl, hdropk1, hf23, hf22, hf1, hf2, hf5, hf21, H⟩ hfin
    have hltk1 := drop_end hdropk1
    obtain ⟨u4, rfl⟩ := up6 hf23 hf22 hf1 hf2 hf5 hf21
    refine W.seq ?_
    refine W.region ?_
    refine O.lss rfl rfl rfl rfl ?_
    refine WL.nil ?_
    refine W.seq ?_
    refine W.cond_false (congrArg Value.bool (decide_eq_false hltk1)) ?_
    refine W.exit ?_
    have hq : z2 = s1 := hfin
    subst hq
    have H := H.keep [1, 2, 3, 4, 5, 6] [boxI b2 25 [(.slice none 0 0), (.slice none 0 0)], ownI (α := Int) (.slice none 0 0) 3 ([] : List Int), ownI (α := GSight) (.slice none 0 0) 39 ([] : List GSight), ownI (α := Int) v1 3 t2, boxI b3 25 [v1, v3], ownI (α := GSight) v3 39 z2] rfl (by decide)
    refine xT rfl ?_
    exact ⟨v3, rfl, rfl, H⟩
  ·
   rintro f w ⟨v5, hf2, hf5, H⟩
   obtain ⟨u5, rfl⟩ := up2 hf2 hf5
   refine W.seq ?_
   refine W.region ?_
   refine O.loadA [v1, v5] ag25 rfl rfl rfl rfl (H.cell 4 rfl) ?_
   refine O.store 0 0 [v1, v5] [v1, v5] sz25 H rfl rfl rfl rfl rfl rfl ⟨⟨rfl, rfl⟩, rfl⟩ (one_cons (SliceR.one (H.own 3 rfl)) (one_cons (SliceR.one (H.own 5 rfl)) one_nil)) ?_
   intro w17 H
   refine O.assign (v := (.int .i64 0)) rfl rfl rfl ?_
   refine WL.nil ?_
   refine W.ret ?_
   have hq : ((GNet.mk t2 s1), 0) = (r0, r1) := Option.some.inj (show some ((GNet.mk t2 s1), 0) = some (r0, r1) from hm)
   obtain ⟨he0, hq0⟩ := Prod.mk.inj hq; clear hq; subst he0
   subst hq0
   exact ends2 Try.results42 ⟨_, rfl, run_loadVar_agg ag25 rfl (H.cell 0 rfl)⟩ rfl ⟨_, rfl, H.base, ⟨_, _, rfl, H.pick [3, 5] [ownI (α := Int) v1 3 t2, ownI (α := GSight) v5 39 s1] rfl (by decide)⟩⟩

theorem c_slices_Clone_Sight {w0 : World} (va0 : Value) (a0 : (List GSight)) (ha0 : SliceR w0 va0 a0) {r0 : (List GSight)} (hm : slices_Clone_Sight a0 = some r0) :
  Calls Try.prog 66 #[va0] w0 (Ret w0 fun w v => OwnR w0 w v 39 r0) := by
 unfold slices_Clone_Sight at hm
 refine calls_of_W Try.func66 rfl Try.ntmps66 (Nat.le_of_ble_eq_true rfl) ?_
 have H := Inv.start (w := w0)
 refine W.seq ?_
 refine W.region ?_
 have H := H.addNil (α := GSight) (E := 39)
 refine O.assign (v := (.slice none 0 0)) rfl rfl rfl ?_
 refine WL.nil ?_
 refine W.seq ?_
 refine W.seq ?_
 refine W.region ?_
 refine O.move (v := va0) rfl rfl rfl ?_
 rcases ha0.nil_or with ⟨rfl, rfl⟩ | ⟨ad, cap, rfl⟩
 ·
  replace hm : (some ([] : List GSight)) = some r0 := by simpa [appI] using hm
  refine O.eqlNil Try.underlying23 rfl rfl rfl rfl ?_
  refine WL.reset (i := 4) (v := .bool true) rfl ?_
  refine WL.nil ?_
  refine W.cond_true rfl ?_
  refine W.seq ?_
  refine W.region ?_
  have H := H.addNil (α := GSight) (E := 39)
  refine O.assign (v := (.slice none 0 0)) rfl rfl rfl ?_
  refine WL.nil ?_
  refine W.ret ?_
  have hq : ([] : List GSight) = r0 := Option.some.inj (show some ([] : List GSight) = some r0 from hm)
  subst hq
  exact ends1 Try.results66 rfl ⟨_, rfl, H.base, H.ownR 1 rfl⟩
 ·
  refine O.eqlNil Try.underlying23 rfl rfl rfl rfl ?_
  refine WL.reset (i := 4) (v := .bool false) rfl ?_
  refine WL.nil ?_
  refine W.cond_false rfl ?_
  refine W.skip ?_
  refine W.seq ?_
  refine W.region ?_
  refine O.buildEmpty (α := GSight) Try.underlying23 el39 H rfl rfl ?_
  intro b1 w1 H hb1
  refine O.move (v := (.slice (some ad) a0.length cap)) rfl rfl rfl ?_
  obtain ⟨t1, ht1, hm⟩ := bind_some hm
  refine O.append 1 Try.underlying23 el39 rfl H rfl (H.arg ha0) ht1 rfl rfl rfl rfl ?_
  intro v1 w2 H
  refine O.assign (v := v1) rfl rfl rfl ?_
  refine WL.nil ?_
  refine W.ret ?_
  have hq : t1 = r0 := Option.some.inj (show some t1 = some r0 from hm)
  subst hq
  exact ends1 Try.results66 rfl ⟨_, rfl, H.base, H.ownR 1 rfl⟩

theorem c_slices_Delete_GSight : DelI Try.prog 96 GSight 39 := by
 intro Dq w0 w L i v xs zs lo hi H hi' hz
 obtain ⟨h0, h1, h2, rfl⟩ := delI_some hz
 have hR := H.own i hi'
 have hz3 : SizeT Try.prog 39 (Ty.size GSight) := SizeT.mk (by kernel_rfl)
 have hzf : SizeT Try.prog 39 (Flat.size GSight) := SizeT.mk (by kernel_rfl)
 obtain ⟨ad, cap, rfl, hcap, _⟩ := hR.shape
 refine calls_of_W Try.func96 rfl Try.ntmps96 (Nat.le_of_ble_eq_true rfl) ?_
 refine W.seq ?_
 refine W.region ?_
 refine O.assign (v := .slice none 0 0) rfl rfl rfl ?_
 refine WL.nil ?_
 refine W.seq ?_
 refine W.region ?_
 refine O.move (v := .slice ad xs.length cap) rfl rfl rfl ?_
 refine O.move (v := .int .i64 lo) rfl rfl rfl ?_
 refine O.move (v := .int .i64 hi) rfl rfl rfl ?_
 refine O.move (v := .slice ad xs.length cap) rfl rfl rfl ?_
 refine O.lenS Try.underlying23 hR rfl rfl rfl ?_
 refine O.slice3 Try.underlying23 hz3 h0 h1 h2 (by omega) rfl rfl rfl rfl rfl rfl fun v' => ?_
 refine WL.nil ?_
 refine W.seq ?_
 refine W.seq ?_
 refine W.region ?_
 refine O.move (v := .int .i64 lo) rfl rfl rfl ?_
 refine O.move (v := .int .i64 hi) rfl rfl rfl ?_
 refine O.eql (a := lo) (b := hi) rfl rfl rfl rfl ?_
 refine WL.nil ?_
 rcases Int.lt_or_eq_of_le h1 with hlt | rfl
 ·
  refine W.cond_false (congrArg Value.bool (beq_eq_false_iff_ne.2 (by omega))) ?_
  refine W.skip ?_
  refine W.seq ?_
  refine W.region ?_
  refine O.move (v := .slice ad xs.length cap) rfl rfl rfl ?_
  refine O.lenS Try.underlying23 hR rfl rfl rfl ?_
  refine O.assign (v := .int .i64 (xs.length : Int)) rfl rfl rfl ?_
  refine WL.nil ?_
  obtain ⟨gb, rfl⟩ : ∃ gb, ad = some ⟨gb, 0, none⟩ := by
   obtain ⟨_, ⟨h3, h4⟩ | ⟨gb, _, _, hv, _⟩⟩ := (H.items _ (List.mem_of_getElem? hi')).1
   · omega
   · cases hv; exact ⟨gb, rfl⟩
  obtain ⟨lo, rfl⟩ := Int.eq_ofNat_of_zero_le h0
  obtain ⟨hi, rfl⟩ := Int.eq_ofNat_of_zero_le (Int.le_trans h0 h1)
  have hdl : (xs.drop hi).length = xs.length - hi := List.length_drop
  have htl : (xs.take lo).length = lo := by rw [List.length_take]; omega
  have hs2 : SliceR w (sliced (some ⟨gb, 0, none⟩) hi xs.length cap (Ty.size GSight)) (xs.drop hi) := by
   obtain ⟨a', l', c', e, _, _, h5⟩ := sliced_sliceR hR (show cutI xs (hi : Int) ((xs.length : Nat) : Int) = some (xs.drop hi) by unfold cutI; rw [if_pos (by omega), Int.toNat_natCast, Int.toNat_natCast, List.take_length])
   cases e
   exact h5
  refine W.seq ?_
  refine W.drawD 7 [[], [], [0, 1], [], [], [3, 4], [2, 5]] [[2, 6], [2, 6], [6], [5, 6], [5, 6], [6], []] (fun S f w' => f 0 = .slice (some ⟨gb, 0, none⟩) xs.length cap ∧ f 1 = .int .i64 (lo : Int) ∧ f 2 = .int .i64 (hi : Int) ∧ f 7 = .int .i64 (xs.length : Int) ∧ (S 0 = true → f 20 = .slice (some ⟨gb, 0, none⟩) xs.length cap) ∧ (S 1 = true → f 21 = .int .i64 (lo : Int)) ∧ (S 2 = true → f 22 = sliced (some ⟨gb, 0, none⟩) 0 lo cap (Ty.size GSight)) ∧ (S 3 = true → f 23 = .slice (some ⟨gb, 0, none⟩) xs.length cap) ∧ (S 4 = true → f 24 = .int .i64 (hi : Int)) ∧ (S 5 = true → f 25 = sliced (some ⟨gb, 0, none⟩) hi xs.length cap (Ty.size GSight)) ∧ (S 6 = true → f 26 = .slice (some ⟨gb, 0, none⟩) (lo + (xs.drop hi).length) cap) ∧ (S 6 = false → InvD Dq w0 w' L ∧ SliceR w' (sliced (some ⟨gb, 0, none⟩) hi xs.length cap (Ty.size GSight)) (xs.drop hi)) ∧ (S 6 = true → InvD Dq w0 w' (L.set i (ownI (.slice (some ⟨gb, 0, none⟩) (lo + (xs.drop hi).length) cap) 39 (xs.take lo ++ xs.drop hi))))) fol (by kernel_rfl) ?_ ?_ ?_
  · exact fun d _ => ⟨rfl, rfl, rfl, rfl, nF, nF, nF, nF, nF, nF, nF, (fun _ => ⟨H.ext (below_drawn d), hs2.mono (below_drawn d)⟩), nF⟩
  ·
   refine ⟨?_, ?_, ?_, ?_, ?_, ?_, ?_, trivial⟩
   ·
    rintro S f w' hS - ⟨-, e6, -⟩ ⟨f0, f1, f2, f7, d0, d1, d2, d3, d4, d5, d6, W0, W1⟩
    refine O.move (v := .slice (some ⟨gb, 0, none⟩) xs.length cap) rfl rfl f0 ?_
    exact WL.nil ⟨f0, f1, f2, f7, fun _ => rfl, d1, d2, d3, d4, d5, d6, W0, W1⟩
   ·
    rintro S f w' hS - ⟨-, e6, -⟩ ⟨f0, f1, f2, f7, d0, d1, d2, d3, d4, d5, d6, W0, W1⟩
    refine O.move (v := .int .i64 (lo : Int)) rfl rfl f1 ?_
    exact WL.nil ⟨f0, f1, f2, f7, d0, fun _ => rfl, d2, d3, d4, d5, d6, W0, W1⟩
   ·
    rintro S f w' hS ⟨e0, e1, -⟩ ⟨e6, -⟩ ⟨f0, f1, f2, f7, d0, d1, d2, d3, d4, d5, d6, W0, W1⟩
    refine O.sliceHv Try.underlying23 hz3 (Int.natCast_nonneg _) (by omega) rfl rfl (d0 e0) (d1 e1) ?_
    exact WL.nil ⟨f0, f1, f2, f7, d0, d1, fun _ => rfl, d3, d4, d5, d6, W0, W1⟩
   ·
    rintro S f w' hS - ⟨-, e6, -⟩ ⟨f0, f1, f2, f7, d0, d1, d2, d3, d4, d5, d6, W0, W1⟩
    refine O.move (v := .slice (some ⟨gb, 0, none⟩) xs.length cap) rfl rfl f0 ?_
    exact WL.nil ⟨f0, f1, f2, f7, d0, d1, d2, fun _ => rfl, d4, d5, d6, W0, W1⟩
   ·
    rintro S f w' hS - ⟨-, e6, -⟩ ⟨f0, f1, f2, f7, d0, d1, d2, d3, d4, d5, d6, W0, W1⟩
    refine O.move (v := .int .i64 (hi : Int)) rfl rfl f2 ?_
    exact WL.nil ⟨f0, f1, f2, f7, d0, d1, d2, d3, fun _ => rfl, d5, d6, W0, W1⟩
   ·
    rintro S f w' hS ⟨e3, e4, -⟩ ⟨e6, -⟩ ⟨f0, f1, f2, f7, d0, d1, d2, d3, d4, d5, d6, W0, W1⟩
    refine O.sliceLv Try.underlying23 hz3 (Int.natCast_nonneg _) (by omega) rfl rfl (d3 e3) (d4 e4) ?_
    exact WL.nil ⟨f0, f1, f2, f7, d0, d1, d2, d3, d4, fun _ => rfl, d6, W0, W1⟩
   ·
    rintro S f w' hS ⟨e2, e5, -⟩ - ⟨f0, f1, f2, f7, d0, d1, d2, d3, d4, d5, d6, W0, W1⟩
    obtain ⟨H, hs2⟩ := W0 hS
    obtain ⟨hok, hfp⟩ := H.items _ (List.mem_of_getElem? hi')
    have hc : sliced (some ⟨gb, 0, none⟩) 0 lo cap (Ty.size GSight) = .slice (some ⟨gb, 0, none⟩) lo cap := by unfold sliced; simp [Addr.add_lit]
    obtain ⟨w2, r1, r2, r3⟩ := run_append_back (T0 := 23) Try.underlying23 (show ElemT Try.prog 39 (Flat.size GSight) 40 from ElemT.mk (z := (.agg #[(.int .i64 (0)), (.int .i64 (0)), (.int .i64 (0)), (.int .i64 (0)), (.int .i64 (0))])) (by kernel_rfl) rfl) hok hs2 (m := lo) (by omega) (by omega)
    refine O.appendV r1 rfl rfl ((d2 e2).trans hc) (d5 e5) ?_
    exact WL.nil ⟨f0, f1, f2, f7, d0, d1, d2, d3, d4, d5, fun _ => rfl, nG, fun _ => H.upd i _ _ hi' ⟨r2.1, r2.2, r2.3, r2.4, fun k hk hn => r2.5 k hk fun e => hn (by cases e; rfl)⟩ r3 fun b hb => (by cases hb; exact ⟨Nat.lt_of_lt_of_le (hfp gb rfl).2 r2.4, .inl rfl⟩)⟩
  ·
   rintro S f w' ⟨_, _, _, _, _, _, e6, -⟩ ⟨f0, f1, f2, f7, d0, d1, d2, d3, d4, d5, d6, W0, W1⟩
   have H := W1 e6
   have f26 := d6 e6
   have hL : (L.set i (ownI (.slice (some ⟨gb, 0, none⟩) (lo + (xs.drop hi).length) cap) 39 (xs.take lo ++ xs.drop hi)))[i]? = some (ownI (.slice (some ⟨gb, 0, none⟩) (lo + (xs.drop hi).length) cap) 39 (xs.take lo ++ xs.drop hi)) := by
    rw [List.getElem?_set_self (List.getElem?_eq_some_iff.1 hi').1]
   refine O.assign (v := .slice (some ⟨gb, 0, none⟩) (lo + (xs.drop hi).length) cap) rfl rfl f26 ?_
   refine WL.nil ?_
   refine W.seq ?_
   refine W.region ?_
   have hzl : (xs.take lo ++ xs.drop hi).length = lo + (xs.drop hi).length := by rw [List.length_append, htl]
   have hR2 := H.own i hL
   rw [← hzl] at hR2 hL H
   refine O.move (v := .slice (some ⟨gb, 0, none⟩) (xs.take lo ++ xs.drop hi).length cap) rfl rfl (by rw [hzl]; rfl) ?_
   refine O.move (v := .slice (some ⟨gb, 0, none⟩) (xs.take lo ++ xs.drop hi).length cap) rfl rfl (by rw [hzl]; rfl) ?_
   refine O.lenS Try.underlying23 hR2 rfl rfl rfl ?_
   refine O.move (v := .int .i64 (xs.length : Int)) rfl rfl f7 ?_
   refine O.sliceLHv Try.underlying23 hzf (Int.natCast_nonneg _) (by rw [hzl]; omega) (by omega) rfl rfl rfl rfl rfl ?_
   obtain ⟨hok, hfp⟩ := H.items _ (List.mem_of_getElem? hL)
   obtain ⟨w2, r1, r2, r3⟩ := run_clear_tail (T0 := 0) (k := xs.length - (xs.take lo ++ xs.drop hi).length) Try.underlying23 (show ZeroT Try.prog 39 (Flat.val (⟨(0), (0), (0), (0), (0)⟩ : GSight)) from ZeroT.mk (by kernel_rfl)) hok rfl (by rw [hzl]; omega)
   refine O.clearV r1 rfl ?_ ?_
   ·
    rw [show (xs.take lo ++ xs.drop hi).length + (xs.length - (xs.take lo ++ xs.drop hi).length) = xs.length by rw [hzl]; omega]
    rfl
   refine WL.nil ?_
   refine W.seq ?_
   refine W.region ?_
   refine O.move (v := .slice (some ⟨gb, 0, none⟩) (lo + (xs.drop hi).length) cap) rfl rfl rfl ?_
   refine O.assign (v := .slice (some ⟨gb, 0, none⟩) (lo + (xs.drop hi).length) cap) rfl rfl rfl ?_
   refine WL.nil ?_
   refine W.ret ?_
   have H3 := H.upd i _ _ hL ⟨r2.1, r2.2, r2.3, r2.4, fun k hk hn => r2.5 k hk fun e => hn (by cases e; rfl)⟩ r3 fun b hb => (by cases hb; exact ⟨Nat.lt_of_lt_of_le (hfp gb rfl).2 r2.4, .inl rfl⟩)
   rw [List.set_set, hzl] at H3
   exact ends1 Try.results96 rfl ⟨_, rfl, H3⟩
 ·
  refine W.cond_true (congrArg Value.bool (beq_self_eq_true lo)) ?_
  refine W.seq ?_
  refine W.region ?_
  refine O.move (v := .slice ad xs.length cap) rfl rfl rfl ?_
  refine O.assign (v := .slice ad xs.length cap) rfl rfl rfl ?_
  refine WL.nil ?_
  refine W.ret ?_
  have e1 : L.set i (ownI (.slice ad xs.length cap) 39 (xs.take lo.toNat ++ xs.drop lo.toNat)) = L := by
   rw [List.take_append_drop]
   obtain ⟨q1, q2⟩ := List.getElem?_eq_some_iff.1 hi'
   rw [← q2]
   exact List.set_getElem_self q1
  have e2 : InvD Dq w0 w (L.set i (ownI (.slice ad xs.length cap) 39 (xs.take lo.toNat ++ xs.drop lo.toNat))) := by rw [e1]; exact H
  exact ends1 Try.results96 rfl ⟨_, rfl, e2⟩

set_option maxRecDepth 20000 in
theorem c_sight_without {w0 : World} (va0_0 : Value) (va0_1 : Value) (a0 : GNet) (ha0_0 : SliceR w0 va0_0 a0.Rates) (ha0_1 : SliceR w0 va0_1 a0.Sights) (a1 : Int) {r0 : GNet} (hm : sight_without a0 a1 = some r0) :
  Calls Try.prog 80 #[(.agg #[va0_0, va0_1]), (.int .i64 a1)] w0 (Ret w0 fun w v => ∃ vr0_0 : Value, ∃ vr0_1 : Value, v = (.agg #[vr0_0, vr0_1]) ∧ Inv w0 w [ownI (α := Int) vr0_0 3 r0.Rates, ownI (α := GSight) vr0_1 39 r0.Sights]) := by
 unfold sight_without at hm
 refine calls_of_W Try.func80 rfl Try.ntmps80 (Nat.le_of_ble_eq_true rfl) ?_
 have H := Inv.start (w := w0)
 refine W.seq ?_
 refine W.region ?_
 refine O.box [va0_0, va0_1] H rfl rfl rfl rfl ?_
 intro b1 w1 H hb1
 refine O.alloc [(.slice none 0 0), (.slice none 0 0)] ze25 H rfl rfl rfl ?_
 intro b2 w2 H hb2
 have H := H.addNil (α := Int) (E := 3)
 have H := H.addNil (α := GSight) (E := 39)
 refine WL.nil ?_
 refine W.seq ?_
 obtain ⟨t1, hy1, hm⟩ := bind_some hm
 obtain ⟨t2, hy2, hm⟩ := bind_some hm
 obtain ⟨t3, ht3, hm⟩ := bind_some hm
 have H := H.addGone
 have H := H.addGone
 refine W.drawD 9 [[], [0], [0, 1], [], [3], [0, 1, 2, 3, 4], [], [], [7]] [[1, 2, 5], [2, 5], [5], [4, 5], [5], [], [], [8], []] (fun S f w => ∃ v1 : Value, ∃ v2 : Value, f 1 = (.int .i64 a1) ∧ f 2 = (.pointer (some ⟨b1, 0, none⟩)) ∧ f 4 = (.pointer (some ⟨b2, 0, none⟩)) ∧ (S 0 = true → f 5 = (.pointer (some (Addr.add (Addr.mk b1 0 none) 0)))) ∧ (S 1 = true → f 6 = va0_0) ∧ (S 2 = true → f 7 = v1) ∧ (S 3 = true → f 8 = (.pointer (some (Addr.add (Addr.mk b1 0 none) 1)))) ∧ (S 4 = true → f 9 = va0_1) ∧ (S 5 = true → f 10 = v2) ∧ (S 6 = true → f 11 = (.int .i64 a1)) ∧ (S 7 = true → f 12 = (.int .i64 a1)) ∧ (S 8 = true → f 13 = (.int .i64 t3)) ∧ (S 5 = true → S 2 = true) ∧ (S 2 = false → S 5 = false → Inv w0 w [boxI b1 25 [va0_0, va0_1], boxI b2 25 [(.slice none 0 0), (.slice none 0 0)], ownI (α := Int) (.slice none 0 0) 3 ([] : List Int), ownI (α := GSight) (.slice none 0 0) 39 ([] : List GSight), goneI, goneI]) ∧ (S 2 = true → S 5 = false → Inv w0 w [boxI b1 25 [va0_0, va0_1], boxI b2 25 [(.slice none 0 0), (.slice none 0 0)], ownI (α := Int) (.slice none 0 0) 3 ([] : List Int), ownI (α := GSight) (.slice none 0 0) 39 ([] : List GSight), ownI (α := Int) v1 3 t1, goneI]) ∧ (S 2 = true → S 5 = true → Inv w0 w [boxI b1 25 [va0_0, va0_1], boxI b2 25 [(.slice none 0 0), (.slice none 0 0)], ownI (α := Int) (.slice none 0 0) 3 ([] : List Int), ownI (α := GSight) (.slice none 0 0) 39 ([] : List GSight), ownI (α := Int) v1 3 t1, ownI (α := GSight) v2 39 t2])) fol (by kernel_rfl) ?_ ?_ ?_
 ·
  exact fun d _ => ⟨.nilFunc, .nilFunc, rfl, rfl, rfl, nF, nF, nF, nF, nF, nF, nF, nF, nF, nF, (fun _ _ => H.ext (below_drawn d)), (fun a _ => nF a), (fun a _ => nF a)⟩
 ·
  refine ⟨?_, ⟨?_, ⟨?_, ⟨?_, ⟨?_, ⟨?_, ⟨?_, ⟨?_, ⟨?_, trivial⟩⟩⟩⟩⟩⟩⟩⟩⟩
  ·
   rintro S f w hS - ⟨e1, e2, e5, -⟩ ⟨v1, v2, hf1, hf2, hf4, hd0, t⟩
   obtain ⟨u1, rfl⟩ := up1 hf2
   have H := t.2.2.2.2.2.2.2.2.2.1 e2 e5
   refine O.fieldAddr fd25_0 rfl rfl rfl ?_
   exact WL.nil ⟨v1, v2, hf1, rfl, hf4, (fun _ => rfl), t⟩
  ·
   rintro S f w hS ⟨e0, -⟩ ⟨e2, e5, -⟩ ⟨v1, v2, hf1, hf2, hf4, hd0, hd1, t⟩
   have hf5 := hd0 e0
   obtain ⟨u2, rfl⟩ := up1 hf5
   have H := t.2.2.2.2.2.2.2.2.1 e2 e5
   refine O.load sc22 rfl rfl rfl (H.cell 0 rfl 0 _ rfl) ?_
   exact WL.nil ⟨v1, v2, hf1, hf2, hf4, hd0, (fun _ => rfl), t⟩
  ·
   rintro S f w hS ⟨e0, e1, -⟩ ⟨e5, -⟩ ⟨_, v2, hf1, hf2, hf4, hd0, hd1, hd2, hd3, hd4, hd5, hd6, hd7, hd8, C5_2, W0, W1, W2⟩
   have hf6 := hd1 e1
   obtain ⟨u3, rfl⟩ := up1 hf6
   have H := W0 hS e5
   refine O.call Try.call65 rfl rfl rfl (c_slices_Clone_int _ _ (H.arg ha0_0) hy1) ?_
   rintro v1 w3 hb3 ho1
   have H := H.addOwn hb3 ho1
   refine WL.nil ?_
   have H := H.pick [0, 1, 2, 3, 6, 5] [boxI b1 25 [va0_0, va0_1], boxI b2 25 [(.slice none 0 0), (.slice none 0 0)], ownI (α := Int) (.slice none 0 0) 3 ([] : List Int), ownI (α := GSight) (.slice none 0 0) 39 ([] : List GSight), ownI (α := Int) v1 3 t1, goneI] rfl (by decide)
   exact ⟨v1, v2, hf1, hf2, hf4, hd0, hd1, (fun _ => rfl), hd3, hd4, hd5, hd6, hd7, hd8, (fun _ => rfl), (fun a _ => nG a), (fun _ _ => H), (fun _ a => nX e5 a)⟩
  ·
   rintro S f w hS - ⟨e4, e5, -⟩ ⟨v1, v2, hf1, hf2, hf4, hd0, hd1, hd2, hd3, hd4, hd5, hd6, hd7, hd8, C5_2, W0, W1, W2⟩
   obtain ⟨u4, rfl⟩ := up1 hf2
   rcases bool_ft (S 2) with e2 | e2
   ·
    have H := W0 e2 e5
    refine O.fieldAddr fd25_1 rfl rfl rfl ?_
    exact WL.nil ⟨v1, v2, hf1, rfl, hf4, hd0, hd1, hd2, (fun _ => rfl), hd4, hd5, hd6, hd7, hd8, C5_2, (fun _ _ => H), (fun a _ => nX e2 a), (fun a _ => nX e2 a)⟩
   ·
    have H := W1 e2 e5
    refine O.fieldAddr fd25_1 rfl rfl rfl ?_
    exact WL.nil ⟨v1, v2, hf1, rfl, hf4, hd0, hd1, hd2, (fun _ => rfl), hd4, hd5, hd6, hd7, hd8, C5_2, (fun a _ => nT e2 a), (fun _ _ => H), (fun _ a => nX e5 a)⟩
  ·
   rintro S f w hS ⟨e3, -⟩ ⟨e5, -⟩ ⟨v1, v2, hf1, hf2, hf4, hd0, hd1, hd2, hd3, hd4, hd5, hd6, hd7, hd8, C5_2, W0, W1, W2⟩
   have hf8 := hd3 e3
   obtain ⟨u5, rfl⟩ := up1 hf8
   rcases bool_ft (S 2) with e2 | e2
   ·
    have H := W0 e2 e5
    refine O.load sc23 rfl rfl rfl (H.cell 0 rfl 1 _ rfl) ?_
    exact WL.nil ⟨v1, v2, hf1, hf2, hf4, hd0, hd1, hd2, hd3, (fun _ => rfl), hd5, hd6, hd7, hd8, C5_2, (fun _ _ => H), (fun a _ => nX e2 a), (fun a _ => nX e2 a)⟩
   ·
    have H := W1 e2 e5
    refine O.load sc23 rfl rfl rfl (H.cell 0 rfl 1 _ rfl) ?_
    exact WL.nil ⟨v1, v2, hf1, hf2, hf4, hd0, hd1, hd2, hd3, (fun _ => rfl), hd5, hd6, hd7, hd8, C5_2, (fun a _ => nT e2 a), (fun _ _ => H), (fun _ a => nX e5 a)⟩
  ·
   rintro S f w hS ⟨e0, e1, e2, e3, e4, -⟩ - ⟨v1, _, hf1, hf2, hf4, hd0, hd1, hd2, hd3, hd4, hd5, hd6, hd7, hd8, C5_2, W0, W1, W2⟩
   have hf9 := hd4 e4
   obtain ⟨u6, rfl⟩ := up1 hf9
   have H := W1 e2 hS
   refine O.call Try.call66 rfl rfl rfl (c_slices_Clone_Sight _ _ (H.arg ha0_1) hy2) ?_
   rintro v2 w4 hb4 ho2
   have H := H.addOwn hb4 ho2
   refine WL.nil ?_
   have H := H.pick [0, 1, 2, 3, 4, 6] [boxI b1 25 [va0_0, va0_1], boxI b2 25 [(.slice none 0 0), (.slice none 0 0)], ownI (α := Int) (.slice none 0 0) 3 ([] : List Int), ownI (α := GSight) (.slice none 0 0) 39 ([] : List GSight), ownI (α := Int) v1 3 t1, ownI (α := GSight) v2 39 t2] rfl (by decide)
   exact ⟨v1, v2, hf1, hf2, hf4, hd0, hd1, hd2, hd3, hd4, (fun _ => rfl), hd6, hd7, hd8, (fun _ => e2), (fun a _ => nT e2 a), (fun _ a => nG a), (fun _ _ => H)⟩
  ·
   rintro S f w hS - - ⟨v1, v2, hf1, hf2, hf4, hd0, hd1, hd2, hd3, hd4, hd5, hd6, hd7, hd8, C5_2, W0, W1, W2⟩
   obtain ⟨u7, rfl⟩ := up1 hf1
   rcases bool_ft (S 2) with e2 | e2
   ·
    rcases bool_ft (S 5) with e5 | e5
    ·
     have H := W0 e2 e5
     refine O.move (v := (.int .i64 a1)) rfl rfl rfl ?_
     exact WL.nil ⟨v1, v2, rfl, hf2, hf4, hd0, hd1, hd2, hd3, hd4, hd5, (fun _ => rfl), hd7, hd8, C5_2, (fun _ _ => H), (fun a _ => nX e2 a), (fun a _ => nX e2 a)⟩
    ·
     exact nomatch (show true = false from (C5_2 e5).symm.trans e2)
   ·
    rcases bool_ft (S 5) with e5 | e5
    ·
     have H := W1 e2 e5
     refine O.move (v := (.int .i64 a1)) rfl rfl rfl ?_
     exact WL.nil ⟨v1, v2, rfl, hf2, hf4, hd0, hd1, hd2, hd3, hd4, hd5, (fun _ => rfl), hd7, hd8, C5_2, (fun a _ => nT e2 a), (fun _ _ => H), (fun _ a => nX e5 a)⟩
    ·
     have H := W2 e2 e5
     refine O.move (v := (.int .i64 a1)) rfl rfl rfl ?_
     exact WL.nil ⟨v1, v2, rfl, hf2, hf4, hd0, hd1, hd2, hd3, hd4, hd5, (fun _ => rfl), hd7, hd8, C5_2, (fun a _ => nT e2 a), (fun _ a => nT e5 a), (fun _ _ => H)⟩
  ·
   rintro S f w hS - ⟨e8, -⟩ ⟨v1, v2, hf1, hf2, hf4, hd0, hd1, hd2, hd3, hd4, hd5, hd6, hd7, hd8, C5_2, W0, W1, W2⟩
   obtain ⟨u8, rfl⟩ := up1 hf1
   rcases bool_ft (S 2) with e2 | e2
   ·
    rcases bool_ft (S 5) with e5 | e5
    ·
     have H := W0 e2 e5
     refine O.move (v := (.int .i64 a1)) rfl rfl rfl ?_
     exact WL.nil ⟨v1, v2, rfl, hf2, hf4, hd0, hd1, hd2, hd3, hd4, hd5, hd6, (fun _ => rfl), hd8, C5_2, (fun _ _ => H), (fun a _ => nX e2 a), (fun a _ => nX e2 a)⟩
    ·
     exact nomatch (show true = false from (C5_2 e5).symm.trans e2)
   ·
    rcases bool_ft (S 5) with e5 | e5
    ·
     have H := W1 e2 e5
     refine O.move (v := (.int .i64 a1)) rfl rfl rfl ?_
     exact WL.nil ⟨v1, v2, rfl, hf2, hf4, hd0, hd1, hd2, hd3, hd4, hd5, hd6, (fun _ => rfl), hd8, C5_2, (fun a _ => nT e2 a), (fun _ _ => H), (fun _ a => nX e5 a)⟩
    ·
     have H := W2 e2 e5
     refine O.move (v := (.int .i64 a1)) rfl rfl rfl ?_
     exact WL.nil ⟨v1, v2, rfl, hf2, hf4, hd0, hd1, hd2, hd3, hd4, hd5, hd6, (fun _ => rfl), hd8, C5_2, (fun a _ => nT e2 a), (fun _ a => nT e5 a), (fun _ _ => H)⟩
  ·
   rintro S f w hS ⟨e7, -⟩ - ⟨v1, v2, hf1, hf2, hf4, hd0, hd1, hd2, hd3, hd4, hd5, hd6, hd7, hd8, C5_2, W0, W1, W2⟩
   have hf12 := hd7 e7
   obtain ⟨u9, rfl⟩ := up1 hf12
   rcases bool_ft (S 2) with e2 | e2
   ·
    rcases bool_ft (S 5) with e5 | e5
    ·
     have H := W0 e2 e5
     refine O.add rfl rfl rfl rfl ht3 ?_
     exact WL.nil ⟨v1, v2, hf1, hf2, hf4, hd0, hd1, hd2, hd3, hd4, hd5, hd6, hd7, (fun _ => rfl), C5_2, (fun _ _ => H), (fun a _ => nX e2 a), (fun a _ => nX e2 a)⟩
    ·
     exact nomatch (show true = false from (C5_2 e5).symm.trans e2)
   ·
    rcases bool_ft (S 5) with e5 | e5
    ·
     have H := W1 e2 e5
     refine O.add rfl rfl rfl rfl ht3 ?_
     exact WL.nil ⟨v1, v2, hf1, hf2, hf4, hd0, hd1, hd2, hd3, hd4, hd5, hd6, hd7, (fun _ => rfl), C5_2, (fun a _ => nT e2 a), (fun _ _ => H), (fun _ a => nX e5 a)⟩
    ·
     have H := W2 e2 e5
     refine O.add rfl rfl rfl rfl ht3 ?_
     exact WL.nil ⟨v1, v2, hf1, hf2, hf4, hd0, hd1, hd2, hd3, hd4, hd5, hd6, hd7, (fun _ => rfl), C5_2, (fun a _ => nT e2 a), (fun _ a => nT e5 a), (fun _ _ => H)⟩
 ·
  rintro S f w ⟨e0, e1, e2, e3, e4, e5, e6, e7, e8, -⟩ ⟨v1, v2, hf1, hf2, hf4, hd0, hd1, hd2, hd3, hd4, hd5, hd6, hd7, hd8, C5_2, W0, W1, W2⟩
  have hf7 := hd2 e2
  have hf10 := hd5 e5
  have hf11 := hd6 e6
  have hf13 := hd8 e8
  have H := W2 e2 e5
  obtain ⟨u10, rfl⟩ := up5 hf4 hf7 hf10 hf11 hf13
  obtain ⟨t4, hy3, hm⟩ := bind_some hm
  refine O.deleteI 5 H rfl c_slices_Delete_GSight hy3 Try.call96 rfl rfl rfl rfl rfl ?_
  intro v3 w5 H
  obtain ⟨ad1, cap1, hvad1, _⟩ := (H.own 4 rfl).shape
  obtain ⟨ad2, cap2, hvad2, _⟩ := (H.own 5 rfl).shape
  refine O.build (v := (.agg #[v1, v3])) (fun w => by rw [hvad1, hvad2]; exact bd25_0_1 _ _ _ _ _ _ w) rfl rfl rfl ?_
  refine O.store 1 0 [v1, v3] [v1, v3] sz25 H rfl rfl rfl rfl rfl rfl ⟨⟨rfl, rfl⟩, rfl⟩ (one_cons (SliceR.one (H.own 4 rfl)) (one_cons (SliceR.one (H.own 5 rfl)) one_nil)) ?_
  intro w6 H
  refine WL.nil ?_
  refine W.ret ?_
  have hq : (GNet.mk t1 t4) = r0 := Option.some.inj (show some (GNet.mk t1 t4) = some r0 from hm)
  subst hq
  exact ends1 Try.results80 ⟨_, rfl, run_loadVar_agg ag25 rfl (H.cell 1 rfl)⟩ ⟨_, rfl, H.base, ⟨_, _, rfl, H.pick [4, 5] [ownI (α := Int) v1 3 t1, ownI (α := GSight) v3 39 t4] rfl (by decide)⟩⟩

set_option maxRecDepth 20000 in
theorem c_sight_implied {w0 : World} (va0_0 : Value) (va0_1 : Value) (a0 : GNet) (ha0_0 : SliceR w0 va0_0 a0.Rates) (ha0_1 : SliceR w0 va0_1 a0.Sights) (a1 : Int) {r0 : Bool} (hm : sight_implied a0 a1 = some r0) :
  Calls Try.prog 79 #[(.agg #[va0_0, va0_1]), (.int .i64 a1)] w0 (Ret w0 fun _ v => v = (.bool r0)) := by
 unfold sight_implied at hm
 refine calls_of_W Try.func79 rfl Try.ntmps79 (Nat.le_of_ble_eq_true rfl) ?_
 have H := Inv.start (w := w0)
 refine W.seq ?_
 refine W.region ?_
 refine O.box [va0_0, va0_1] H rfl rfl rfl rfl ?_
 intro b1 w1 H hb1
 refine O.assign (v := (.bool false)) rfl rfl rfl ?_
 refine WL.nil ?_
 refine W.seq ?_
 refine W.region ?_
 refine O.fieldAddr fd25_1 rfl rfl rfl ?_
 refine O.load sc23 rfl rfl rfl (H.cell 0 rfl 1 _ rfl) ?_
 refine O.move (v := (.int .i64 a1)) rfl rfl rfl ?_
 obtain ⟨x1, hx1, hm⟩ := bind_some hm
 obtain ⟨p1, hp1, hrp1⟩ := fix_indexAddr Try.underlying23 sz39 ha0_1 hx1
 refine hrp1 rfl rfl rfl rfl ?_
 refine O.loadA [(.int .i64 x1.At), (.int .i64 x1.A), (.int .i64 x1.B), (.int .i64 x1.Lo), (.int .i64 x1.Hi)] ag39 rfl rfl rfl rfl ((hp1.mono H.base).flat) ?_
 refine O.alloc [(.int .i64 0), (.int .i64 0), (.int .i64 0), (.int .i64 0), (.int .i64 0)] ze39 H rfl rfl rfl ?_
 intro b2 w2 H hb2
 refine O.store 1 0 [(.int .i64 x1.At), (.int .i64 x1.A), (.int .i64 x1.B), (.int .i64 x1.Lo), (.int .i64 x1.Hi)] [(.int .i64 x1.At), (.int .i64 x1.A), (.int .i64 x1.B), (.int .i64 x1.Lo), (.int .i64 x1.Hi)] sz39 H rfl rfl rfl rfl rfl rfl ⟨⟨rfl, rfl⟩, rfl⟩ (one_cons rfl (one_cons rfl (one_cons rfl (one_cons rfl (one_cons rfl one_nil))))) ?_
 intro w3 H
 refine WL.nil ?_
 refine W.seq ?_
 obtain ⟨t1, hy1, hm⟩ := bind_some hm
 obtain ⟨⟨t2, t3⟩, hy2, hm⟩ := bind_some hm
 have H := H.addGone
 have H := H.addGone
 have H := H.addGone
 refine W.drawD 15 [[], [], [0, 1], [], [3], [], [5], [], [7], [0, 1, 2, 3, 4, 5, 6, 7, 8], [0, 1, 2, 3, 4, 5, 6, 7, 8, 9], [0, 1, 2, 3, 4, 5, 6, 7, 8, 9, 10], [0, 1, 2, 3, 4, 5, 6, 7, 8, 9, 10], [], [0, 1, 2, 3, 4, 5, 6, 7, 8, 9, 10, 11, 13]] [[2, 9, 10, 11, 12, 14], [2, 9, 10, 11, 12, 14], [9, 10, 11, 12, 14], [4, 9, 10, 11, 12, 14], [9, 10, 11, 12, 14], [6, 9, 10, 11, 12, 14], [9, 10, 11, 12, 14], [8, 9, 10, 11, 12, 14], [9, 10, 11, 12, 14], [10, 11, 12, 14], [11, 12, 14], [14], [], [14], []] (fun S f w => ∃ v1 : Value, ∃ v2 : Value, ∃ b3 : Nat, f 1 = (.int .i64 a1) ∧ f 2 = (.pointer (some ⟨b1, 0, none⟩)) ∧ f 5 = (.pointer (some ⟨b2, 0, none⟩)) ∧ (S 0 = true → f 14 = (.agg #[va0_0, va0_1])) ∧ (S 1 = true → f 15 = (.int .i64 a1)) ∧ (S 2 = true → f 16 = (.agg #[v1, v2])) ∧ (S 3 = true → f 17 = (.pointer (some (Addr.add (Addr.mk b2 0 none) 1)))) ∧ (S 4 = true → f 18 = (.int .i64 x1.A)) ∧ (S 5 = true → f 19 = (.pointer (some (Addr.add (Addr.mk b2 0 none) 2)))) ∧ (S 6 = true → f 20 = (.int .i64 x1.B)) ∧ (S 7 = true → f 21 = (.pointer (some (Addr.add (Addr.mk b2 0 none) 0)))) ∧ (S 8 = true → f 22 = (.int .i64 x1.At)) ∧ (S 9 = true → f 23 = (.tuple #[(.agg (Flat.cells t2).toArray), (.bool t3)])) ∧ (S 10 = true → f 13 = (.tuple #[(.agg (Flat.cells t2).toArray), (.bool t3)])) ∧ (S 11 = true → f 24 = (.agg (Flat.cells t2).toArray)) ∧ (S 12 = true → f 25 = (.bool t3)) ∧ (S 13 = true → f 6 = (.pointer (some ⟨b3, 0, none⟩))) ∧ (S 14 = true → S 2 = true) ∧ (S 14 = true → S 13 = true) ∧ (S 2 = false → S 13 = false → S 14 = false → Inv w0 w [boxI b1 25 [va0_0, va0_1], boxI b2 39 [(.int .i64 x1.At), (.int .i64 x1.A), (.int .i64 x1.B), (.int .i64 x1.Lo), (.int .i64 x1.Hi)], goneI, goneI, goneI]) ∧ (S 2 = true → S 13 = false → S 14 = false → Inv w0 w [boxI b1 25 [va0_0, va0_1], boxI b2 39 [(.int .i64 x1.At), (.int .i64 x1.A), (.int .i64 x1.B), (.int .i64 x1.Lo), (.int .i64 x1.Hi)], ownI (α := Int) v1 3 t1.Rates, ownI (α := GSight) v2 39 t1.Sights, goneI]) ∧ (S 2 = false → S 13 = true → S 14 = false → Inv w0 w [boxI b1 25 [va0_0, va0_1], boxI b2 39 [(.int .i64 x1.At), (.int .i64 x1.A), (.int .i64 x1.B), (.int .i64 x1.Lo), (.int .i64 x1.Hi)], goneI, goneI, boxI b3 30 [(.int .i64 0), (.int .i64 0)]]) ∧ (S 2 = true → S 13 = true → S 14 = false → Inv w0 w [boxI b1 25 [va0_0, va0_1], boxI b2 39 [(.int .i64 x1.At), (.int .i64 x1.A), (.int .i64 x1.B), (.int .i64 x1.Lo), (.int .i64 x1.Hi)], ownI (α := Int) v1 3 t1.Rates, ownI (α := GSight) v2 39 t1.Sights, boxI b3 30 [(.int .i64 0), (.int .i64 0)]]) ∧ (S 2 = true → S 13 = true → S 14 = true → Inv w0 w [boxI b1 25 [va0_0, va0_1], boxI b2 39 [(.int .i64 x1.At), (.int .i64 x1.A), (.int .i64 x1.B), (.int .i64 x1.Lo), (.int .i64 x1.Hi)], ownI (α := Int) v1 3 t1.Rates, ownI (α := GSight) v2 39 t1.Sights, boxI b3 30 [(.int .i64 t2.Lo), (.int .i64 t2.Hi)]])) fol (by kernel_rfl) ?_ ?_ ?_
 ·
  exact fun d _ => ⟨.nilFunc, .nilFunc, 0, rfl, rfl, rfl, nF, nF, nF, nF, nF, nF, nF, nF, nF, nF, nF, nF, nF, nF, nF, nF, (fun _ _ _ => H.ext (below_drawn d)), (fun a _ _ => nF a), (fun _ a _ => nF a), (fun a _ _ => nF a), (fun a _ _ => nF a)⟩
 ·
  refine ⟨?_, ⟨?_, ⟨?_, ⟨?_, ⟨?_, ⟨?_, ⟨?_, ⟨?_, ⟨?_, ⟨?_, ⟨?_, ⟨?_, ⟨?_, ⟨?_, ⟨?_, trivial⟩⟩⟩⟩⟩⟩⟩⟩⟩⟩⟩⟩⟩⟩⟩
  ·
   rintro S f w hS - ⟨e2, e9, e10, e11, e12, e14, -⟩ ⟨v1, v2, b3, hf1, hf2, hf5, hd0, hd1, hd2, hd3, hd4, hd5, hd6, hd7, hd8, hd9, hd10, hd11, hd12, hd13, C14_2, C14_13, W0, W1, W2, W3, W4⟩
   obtain ⟨u1, rfl⟩ := up1 hf2
   rcases bool_ft (S 13) with e13 | e13
   ·
    have H := W0 e2 e13 e14
    refine O.loadA [va0_0, va0_1] ag25 rfl rfl rfl rfl (H.cell 0 rfl) ?_
    exact WL.nil ⟨v1, v2, b3, hf1, rfl, hf5, (fun _ => rfl), hd1, hd2, hd3, hd4, hd5, hd6, hd7, hd8, hd9, hd10, hd11, hd12, hd13, C14_2, C14_13, (fun _ _ _ => H), (fun a _ _ => nX e2 a), (fun _ a _ => nX e13 a), (fun a _ _ => nX e2 a), (fun a _ _ => nX e2 a)⟩
   ·
    have H := W2 e2 e13 e14
    refine O.loadA [va0_0, va0_1] ag25 rfl rfl rfl rfl (H.cell 0 rfl) ?_
    exact WL.nil ⟨v1, v2, b3, hf1, rfl, hf5, (fun _ => rfl), hd1, hd2, hd3, hd4, hd5, hd6, hd7, hd8, hd9, hd10, hd11, hd12, hd13, C14_2, C14_13, (fun _ a _ => nT e13 a), (fun a _ _ => nX e2 a), (fun _ _ _ => H), (fun a _ _ => nX e2 a), (fun a _ _ => nX e2 a)⟩
  ·
   rintro S f w hS - ⟨e2, e9, e10, e11, e12, e14, -⟩ ⟨v1, v2, b3, hf1, hf2, hf5, hd0, hd1, hd2, hd3, hd4, hd5, hd6, hd7, hd8, hd9, hd10, hd11, hd12, hd13, C14_2, C14_13, W0, W1, W2, W3, W4⟩
   obtain ⟨u2, rfl⟩ := up1 hf1
   rcases bool_ft (S 13) with e13 | e13
   ·
    have H := W0 e2 e13 e14
    refine O.move (v := (.int .i64 a1)) rfl rfl rfl ?_
    exact WL.nil ⟨v1, v2, b3, rfl, hf2, hf5, hd0, (fun _ => rfl), hd2, hd3, hd4, hd5, hd6, hd7, hd8, hd9, hd10, hd11, hd12, hd13, C14_2, C14_13, (fun _ _ _ => H), (fun a _ _ => nX e2 a), (fun _ a _ => nX e13 a), (fun a _ _ => nX e2 a), (fun a _ _ => nX e2 a)⟩
   ·
    have H := W2 e2 e13 e14
    refine O.move (v := (.int .i64 a1)) rfl rfl rfl ?_
    exact WL.nil ⟨v1, v2, b3, rfl, hf2, hf5, hd0, (fun _ => rfl), hd2, hd3, hd4, hd5, hd6, hd7, hd8, hd9, hd10, hd11, hd12, hd13, C14_2, C14_13, (fun _ a _ => nT e13 a), (fun a _ _ => nX e2 a), (fun _ _ _ => H), (fun a _ _ => nX e2 a), (fun a _ _ => nX e2 a)⟩
  ·
   rintro S f w hS ⟨e0, e1, -⟩ ⟨e9, e10, e11, e12, e14, -⟩ ⟨_, _, b3, hf1, hf2, hf5, hd0, hd1, hd2, hd3, hd4, hd5, hd6, hd7, hd8, hd9, hd10, hd11, hd12, hd13, C14_2, C14_13, W0, W1, W2, W3, W4⟩
   have hf14 := hd0 e0
   have hf15 := hd1 e1
   obtain ⟨u3, rfl⟩ := up2 hf14 hf15
   rcases bool_ft (S 13) with e13 | e13
   ·
    have H := W0 hS e13 e14
    refine O.call Try.call80 rfl rfl rfl (c_sight_without _ _ (GNet.mk a0.Rates a0.Sights) (H.arg ha0_0) (H.arg ha0_1) _ hy1) ?_
    rintro _ w4 hb3 ⟨v1, v2, rfl, ho1⟩
    have H := H.addAll hb3 ho1
    refine WL.nil ?_
    have H := H.pick [0, 1, 5, 6, 4] [boxI b1 25 [va0_0, va0_1], boxI b2 39 [(.int .i64 x1.At), (.int .i64 x1.A), (.int .i64 x1.B), (.int .i64 x1.Lo), (.int .i64 x1.Hi)], ownI (α := Int) v1 3 t1.Rates, ownI (α := GSight) v2 39 t1.Sights, goneI] rfl (by decide)
    exact ⟨v1, v2, b3, hf1, hf2, hf5, hd0, hd1, (fun _ => rfl), hd3, hd4, hd5, hd6, hd7, hd8, hd9, hd10, hd11, hd12, hd13, (fun _ => rfl), C14_13, (fun a _ _ => nG a), (fun _ _ _ => H), (fun a _ _ => nG a), (fun _ a _ => nX e13 a), (fun _ a _ => nX e13 a)⟩
   ·
    have H := W2 hS e13 e14
    refine O.call Try.call80 rfl rfl rfl (c_sight_without _ _ (GNet.mk a0.Rates a0.Sights) (H.arg ha0_0) (H.arg ha0_1) _ hy1) ?_
    rintro _ w4 hb3 ⟨v1, v2, rfl, ho1⟩
    have H := H.addAll hb3 ho1
    refine WL.nil ?_
    have H := H.pick [0, 1, 5, 6, 4] [boxI b1 25 [va0_0, va0_1], boxI b2 39 [(.int .i64 x1.At), (.int .i64 x1.A), (.int .i64 x1.B), (.int .i64 x1.Lo), (.int .i64 x1.Hi)], ownI (α := Int) v1 3 t1.Rates, ownI (α := GSight) v2 39 t1.Sights, boxI b3 30 [(.int .i64 0), (.int .i64 0)]] rfl (by decide)
    exact ⟨v1, v2, b3, hf1, hf2, hf5, hd0, hd1, (fun _ => rfl), hd3, hd4, hd5, hd6, hd7, hd8, hd9, hd10, hd11, hd12, hd13, (fun _ => rfl), C14_13, (fun a _ _ => nG a), (fun _ a _ => nT e13 a), (fun a _ _ => nG a), (fun _ _ _ => H), (fun _ _ a => nX e14 a)⟩
  ·
   rintro S f w hS - ⟨e4, e9, e10, e11, e12, e14, -⟩ ⟨v1, v2, b3, hf1, hf2, hf5, hd0, hd1, hd2, hd3, hd4, hd5, hd6, hd7, hd8, hd9, hd10, hd11, hd12, hd13, C14_2, C14_13, W0, W1, W2, W3, W4⟩
   obtain ⟨u4, rfl⟩ := up1 hf5
   rcases bool_ft (S 2) with e2 | e2
   ·
    rcases bool_ft (S 13) with e13 | e13
    ·
     have H := W0 e2 e13 e14
     refine O.fieldAddr fd39_1 rfl rfl rfl ?_
     exact WL.nil ⟨v1, v2, b3, hf1, hf2, rfl, hd0, hd1, hd2, (fun _ => rfl), hd4, hd5, hd6, hd7, hd8, hd9, hd10, hd11, hd12, hd13, C14_2, C14_13, (fun _ _ _ => H), (fun a _ _ => nX e2 a), (fun _ a _ => nX e13 a), (fun a _ _ => nX e2 a), (fun a _ _ => nX e2 a)⟩
    ·
     have H := W2 e2 e13 e14
     refine O.fieldAddr fd39_1 rfl rfl rfl ?_
     exact WL.nil ⟨v1, v2, b3, hf1, hf2, rfl, hd0, hd1, hd2, (fun _ => rfl), hd4, hd5, hd6, hd7, hd8, hd9, hd10, hd11, hd12, hd13, C14_2, C14_13, (fun _ a _ => nT e13 a), (fun a _ _ => nX e2 a), (fun _ _ _ => H), (fun a _ _ => nX e2 a), (fun a _ _ => nX e2 a)⟩
   ·
    rcases bool_ft (S 13) with e13 | e13
    ·
     have H := W1 e2 e13 e14
     refine O.fieldAddr fd39_1 rfl rfl rfl ?_
     exact WL.nil ⟨v1, v2, b3, hf1, hf2, rfl, hd0, hd1, hd2, (fun _ => rfl), hd4, hd5, hd6, hd7, hd8, hd9, hd10, hd11, hd12, hd13, C14_2, C14_13, (fun a _ _ => nT e2 a), (fun _ _ _ => H), (fun a _ _ => nT e2 a), (fun _ a _ => nX e13 a), (fun _ a _ => nX e13 a)⟩
    ·
     have H := W3 e2 e13 e14
     refine O.fieldAddr fd39_1 rfl rfl rfl ?_
     exact WL.nil ⟨v1, v2, b3, hf1, hf2, rfl, hd0, hd1, hd2, (fun _ => rfl), hd4, hd5, hd6, hd7, hd8, hd9, hd10, hd11, hd12, hd13, C14_2, C14_13, (fun a _ _ => nT e2 a), (fun _ a _ => nT e13 a), (fun a _ _ => nT e2 a), (fun _ _ _ => H), (fun _ _ a => nX e14 a)⟩
  ·
   rintro S f w hS ⟨e3, -⟩ ⟨e9, e10, e11, e12, e14, -⟩ ⟨v1, v2, b3, hf1, hf2, hf5, hd0, hd1, hd2, hd3, hd4, hd5, hd6, hd7, hd8, hd9, hd10, hd11, hd12, hd13, C14_2, C14_13, W0, W1, W2, W3, W4⟩
   have hf17 := hd3 e3
   obtain ⟨u5, rfl⟩ := up1 hf17
   rcases bool_ft (S 2) with e2 | e2
   ·
    rcases bool_ft (S 13) with e13 | e13
    ·
     have H := W0 e2 e13 e14
     refine O.load sc3 rfl rfl rfl (H.cell 1 rfl 1 _ rfl) ?_
     exact WL.nil ⟨v1, v2, b3, hf1, hf2, hf5, hd0, hd1, hd2, hd3, (fun _ => rfl), hd5, hd6, hd7, hd8, hd9, hd10, hd11, hd12, hd13, C14_2, C14_13, (fun _ _ _ => H), (fun a _ _ => nX e2 a), (fun _ a _ => nX e13 a), (fun a _ _ => nX e2 a), (fun a _ _ => nX e2 a)⟩
    ·
     have H := W2 e2 e13 e14
     refine O.load sc3 rfl rfl rfl (H.cell 1 rfl 1 _ rfl) ?_
     exact WL.nil ⟨v1, v2, b3, hf1, hf2, hf5, hd0, hd1, hd2, hd3, (fun _ => rfl), hd5, hd6, hd7, hd8, hd9, hd10, hd11, hd12, hd13, C14_2, C14_13, (fun _ a _ => nT e13 a), (fun a _ _ => nX e2 a), (fun _ _ _ => H), (fun a _ _ => nX e2 a), (fun a _ _ => nX e2 a)⟩
   ·
    rcases bool_ft (S 13) with e13 | e13
    ·
     have H := W1 e2 e13 e14
     refine O.load sc3 rfl rfl rfl (H.cell 1 rfl 1 _ rfl) ?_
     exact WL.nil ⟨v1, v2, b3, hf1, hf2, hf5, hd0, hd1, hd2, hd3, (fun _ => rfl), hd5, hd6, hd7, hd8, hd9, hd10, hd11, hd12, hd13, C14_2, C14_13, (fun a _ _ => nT e2 a), (fun _ _ _ => H), (fun a _ _ => nT e2 a), (fun _ a _ => nX e13 a), (fun _ a _ => nX e13 a)⟩
    ·
     have H := W3 e2 e13 e14
     refine O.load sc3 rfl rfl rfl (H.cell 1 rfl 1 _ rfl) ?_
     exact WL.nil ⟨v1, v2, b3, hf1, hf2, hf5, hd0, hd1, hd2, hd3, (fun _ => rfl), hd5, hd6, hd7, hd8, hd9, hd10, hd11, hd12, hd13, C14_2, C14_13, (fun a _ _ => nT e2 a), (fun _ a _ => nT e13 a), (fun a _ _ => nT e2 a), (fun _ _ _ => H), (fun _ _ a => nX e14 a)⟩
  ·
   rintro S f w hS - ⟨e6, e9, e10, e11, e12, e14, -⟩ ⟨v1, v2, b3, hf1, hf2, hf5, hd0, hd1, hd2, hd3, hd4, hd5, hd6, hd7, hd8, hd9, hd10, hd11, hd12, hd13, C14_2, C14_13, W0, W1, W2, W3, W4⟩
   obtain ⟨u6, rfl⟩ := up1 hf5
   rcases bool_ft (S 2) with e2 | e2
   ·
    rcases bool_ft (S 13) with e13 | e13
    ·
     have H := W0 e2 e13 e14
     refine O.fieldAddr fd39_2 rfl rfl rfl ?_
     exact WL.nil ⟨v1, v2, b3, hf1, hf2, rfl, hd0, hd1, hd2, hd3, hd4, (fun _ => rfl), hd6, hd7, hd8, hd9, hd10, hd11, hd12, hd13, C14_2, C14_13, (fun _ _ _ => H), (fun a _ _ => nX e2 a), (fun _ a _ => nX e13 a), (fun a _ _ => nX e2 a), (fun a _ _ => nX e2 a)⟩
    ·
     have H := W2 e2 e13 e14
     refine O.fieldAddr fd39_2 rfl rfl rfl ?_
     exact WL.nil ⟨v1, v2, b3, hf1, hf2, rfl, hd0, hd1, hd2, hd3, hd4, (fun _ => rfl), hd6, hd7, hd8, hd9, hd10, hd11, hd12, hd13, C14_2, C14_13, (fun _ a _ => nT e13 a), (fun a _ _ => nX e2 a), (fun _ _ _ => H), (fun a _ _ => nX e2 a), (fun a _ _ => nX e2 a)⟩
   ·
    rcases bool_ft (S 13) with e13 | e13
    ·
     have H := W1 e2 e13 e14
     refine O.fieldAddr fd39_2 rfl rfl rfl ?_
     exact WL.nil ⟨v1, v2, b3, hf1, hf2, rfl, hd0, hd1, hd2, hd3, hd4, (fun _ => rfl), hd6, hd7, hd8, hd9, hd10, hd11, hd12, hd13, C14_2, C14_13, (fun a _ _ => nT e2 a), (fun _ _ _ => H), (fun a _ _ => nT e2 a), (fun _ a _ => nX e13 a), (fun _ a _ => nX e13 a)⟩
    ·
     have H := W3 e2 e13 e14
     refine O.fieldAddr fd39_2 rfl rfl rfl ?_
     exact WL.nil ⟨v1, v2, b3, hf1, hf2, rfl, hd0, hd1, hd2, hd3, hd4, (fun _ => rfl), hd6, hd7, hd8, hd9, hd10, hd11, hd12, hd13, C14_2, C14_13, (fun a _ _ => nT e2 a), (fun _ a _ => nT e13 a), (fun a _ _ => nT e2 a), (fun _ _ _ => H), (fun _ _ a => nX e14 a)⟩
  ·
   rintro S f w hS ⟨e5, -⟩ ⟨e9, e10, e11, e12, e14, -⟩ ⟨v1, v2, b3, hf1, hf2, hf5, hd0, hd1, hd2, hd3, hd4, hd5, hd6, hd7, hd8, hd9, hd10, hd11, hd12, hd13, C14_2, C14_13, W0, W1, W2, W3, W4⟩
   have hf19 := hd5 e5
   obtain ⟨u7, rfl⟩ := up1 hf19
   rcases bool_ft (S 2) with e2 | e2
   ·
    rcases bool_ft (S 13) with e13 | e13
    ·
     have H := W0 e2 e13 e14
     refine O.load sc3 rfl rfl rfl (H.cell 1 rfl 2 _ rfl) ?_
     exact WL.nil ⟨v1, v2, b3, hf1, hf2, hf5, hd0, hd1, hd2, hd3, hd4, hd5, (fun _ => rfl), hd7, hd8, hd9, hd10, hd11, hd12, hd13, C14_2, C14_13, (fun _ _ _ => H), (fun a _ _ => nX e2 a), (fun _ a _ => nX e13 a), (fun a _ _ => nX e2 a), (fun a _ _ => nX e2 a)⟩
    ·
     have H := W2 e2 e13 e14
     refine O.load sc3 rfl rfl rfl (H.cell 1 rfl 2 _ rfl) ?_
     exact WL.nil ⟨v1, v2, b3, hf1, hf2, hf5, hd0, hd1, hd2, hd3, hd4, hd5, (fun _ => rfl), hd7, hd8, hd9, hd10, hd11, hd12, hd13, C14_2, C14_13, (fun _ a _ => nT e13 a), (fun a _ _ => nX e2 a), (fun _ _ _ => H), (fun a _ _ => nX e2 a), (fun a _ _ => nX e2 a)⟩
   ·
    rcases bool_ft (S 13) with e13 | e13
    ·
     have H := W1 e2 e13 e14
     refine O.load sc3 rfl rfl rfl (H.cell 1 rfl 2 _ rfl) ?_
     exact WL.nil ⟨v1, v2, b3, hf1, hf2, hf5, hd0, hd1, hd2, hd3, hd4, hd5, (fun _ => rfl), hd7, hd8, hd9, hd10, hd11, hd12, hd13, C14_2, C14_13, (fun a _ _ => nT e2 a), (fun _ _ _ => H), (fun a _ _ => nT e2 a), (fun _ a _ => nX e13 a), (fun _ a _ => nX e13 a)⟩
    ·
     have H := W3 e2 e13 e14
     refine O.load sc3 rfl rfl rfl (H.cell 1 rfl 2 _ rfl) ?_
     exact WL.nil ⟨v1, v2, b3, hf1, hf2, hf5, hd0, hd1, hd2, hd3, hd4, hd5, (fun _ => rfl), hd7, hd8, hd9, hd10, hd11, hd12, hd13, C14_2, C14_13, (fun a _ _ => nT e2 a), (fun _ a _ => nT e13 a), (fun a _ _ => nT e2 a), (fun _ _ _ => H), (fun _ _ a => nX e14 a)⟩
  ·
   rintro S f w hS - ⟨e8, e9, e10, e11, e12, e14, -⟩ ⟨v1, v2, b3, hf1, hf2, hf5, hd0, hd1, hd2, hd3, hd4, hd5, hd6, hd7, hd8, hd9, hd10, hd11, hd12, hd13, C14_2, C14_13, W0, W1, W2, W3, W4⟩
   obtain ⟨u8, rfl⟩ := up1 hf5
   rcases bool_ft (S 2) with e2 | e2
   ·
    rcases bool_ft (S 13) with e13 | e13
    ·
     have H := W0 e2 e13 e14
     refine O.fieldAddr fd39_0 rfl rfl rfl ?_
     exact WL.nil ⟨v1, v2, b3, hf1, hf2, rfl, hd0, hd1, hd2, hd3, hd4, hd5, hd6, (fun _ => rfl), hd8, hd9, hd10, hd11, hd12, hd13, C14_2, C14_13, (fun _ _ _ => H), (fun a _ _ => nX e2 a), (fun _ a _ => nX e13 a), (fun a _ _ => nX e2 a), (fun a _ _ => nX e2 a)⟩
    ·
     have H := W2 e2 e13 e14
     refine O.fieldAddr fd39_0 rfl rfl rfl ?_
     exact WL.nil ⟨v1, v2, b3, hf1, hf2, rfl, hd0, hd1, hd2, hd3, hd4, hd5, hd6, (fun _ => rfl), hd8, hd9, hd10, hd11, hd12, hd13, C14_2, C14_13, (fun _ a _ => nT e13 a), (fun a _ _ => nX e2 a), (fun _ _ _ => H), (fun a _ _ => nX e2 a), (fun a _ _ => nX e2 a)⟩
   ·
    rcases bool_ft (S 13) with e13 | e13
    ·
     have H := W1 e2 e13 e14
     refine O.fieldAddr fd39_0 rfl rfl rfl ?_
     exact WL.nil ⟨v1, v2, b3, hf1, hf2, rfl, hd0, hd1, hd2, hd3, hd4, hd5, hd6, (fun _ => rfl), hd8, hd9, hd10, hd11, hd12, hd13, C14_2, C14_13, (fun a _ _ => nT e2 a), (fun _ _ _ => H), (fun a _ _ => nT e2 a), (fun _ a _ => nX e13 a), (fun _ a _ => nX e13 a)⟩
    ·
     have H := W3 e2 e13 e14
     refine O.fieldAddr fd39_0 rfl rfl rfl ?_
     exact WL.nil ⟨v1, v2, b3, hf1, hf2, rfl, hd0, hd1, hd2, hd3, hd4, hd5, hd6, (fun _ => rfl), hd8, hd9, hd10, hd11, hd12, hd13, C14_2, C14_13, (fun a _ _ => nT e2 a), (fun _ a _ => nT e13 a), (fun a _ _ => nT e2 a), (fun _ _ _ => H), (fun _ _ a => nX e14 a)⟩
  ·
   rintro S f w hS ⟨e7, -⟩ ⟨e9, e10, e11, e12, e14, -⟩ ⟨v1, v2, b3, hf1, hf2, hf5, hd0, hd1, hd2, hd3, hd4, hd5, hd6, hd7, hd8, hd9, hd10, hd11, hd12, hd13, C14_2, C14_13, W0, W1, W2, W3, W4⟩
   have hf21 := hd7 e7
   obtain ⟨u9, rfl⟩ := up1 hf21
   rcases bool_ft (S 2) with e2 | e2
   ·
    rcases bool_ft (S 13) with e13 | e13
    ·
     have H := W0 e2 e13 e14
     refine O.load sc3 rfl rfl rfl (H.cell 1 rfl 0 _ rfl) ?_
     exact WL.nil ⟨v1, v2, b3, hf1, hf2, hf5, hd0, hd1, hd2, hd3, hd4, hd5, hd6, hd7, (fun _ => rfl), hd9, hd10, hd11, hd12, hd13, C14_2, C14_13, (fun _ _ _ => H), (fun a _ _ => nX e2 a), (fun _ a _ => nX e13 a), (fun a _ _ => nX e2 a), (fun a _ _ => nX e2 a)⟩
    ·
     have H := W2 e2 e13 e14
     refine O.load sc3 rfl rfl rfl (H.cell 1 rfl 0 _ rfl) ?_
     exact WL.nil ⟨v1, v2, b3, hf1, hf2, hf5, hd0, hd1, hd2, hd3, hd4, hd5, hd6, hd7, (fun _ => rfl), hd9, hd10, hd11, hd12, hd13, C14_2, C14_13, (fun _ a _ => nT e13 a), (fun a _ _ => nX e2 a), (fun _ _ _ => H), (fun a _ _ => nX e2 a), (fun a _ _ => nX e2 a)⟩
   ·
    rcases bool_ft (S 13) with e13 | e13
    ·
     have H := W1 e2 e13 e14
     refine O.load sc3 rfl rfl rfl (H.cell 1 rfl 0 _ rfl) ?_
     exact WL.nil ⟨v1, v2, b3, hf1, hf2, hf5, hd0, hd1, hd2, hd3, hd4, hd5, hd6, hd7, (fun _ => rfl), hd9, hd10, hd11, hd12, hd13, C14_2, C14_13, (fun a _ _ => nT e2 a), (fun _ _ _ => H), (fun a _ _ => nT e2 a), (fun _ a _ => nX e13 a), (fun _ a _ => nX e13 a)⟩
    ·
     have H := W3 e2 e13 e14
     refine O.load sc3 rfl rfl rfl (H.cell 1 rfl 0 _ rfl) ?_
     exact WL.nil ⟨v1, v2, b3, hf1, hf2, hf5, hd0, hd1, hd2, hd3, hd4, hd5, hd6, hd7, (fun _ => rfl), hd9, hd10, hd11, hd12, hd13, C14_2, C14_13, (fun a _ _ => nT e2 a), (fun _ a _ => nT e13 a), (fun a _ _ => nT e2 a), (fun _ _ _ => H), (fun _ _ a => nX e14 a)⟩
  ·
   rintro S f w hS ⟨e0, e1, e2, e3, e4, e5, e6, e7, e8, -⟩ ⟨e10, e11, e12, e14, -⟩ ⟨v1, v2, b3, hf1, hf2, hf5, hd0, hd1, hd2, hd3, hd4, hd5, hd6, hd7, hd8, hd9, hd10, hd11, hd12, hd13, C14_2, C14_13, W0, W1, W2, W3, W4⟩
   have hf16 := hd2 e2
   have hf18 := hd4 e4
   have hf20 := hd6 e6
   have hf22 := hd8 e8
   obtain ⟨u10, rfl⟩ := up4 hf16 hf18 hf20 hf22
   rcases bool_ft (S 13) with e13 | e13
   ·
    have H := W1 e2 e13 e14
    refine O.call Try.call58 rfl rfl rfl (c_sight_between _ _ t1 (H.own 2 rfl) (H.own 3 rfl) _ _ _ hy2) ?_
    rintro _ w5 hb4 rfl
    have H := H.ext hb4
    exact WL.nil ⟨v1, v2, b3, hf1, hf2, hf5, hd0, hd1, hd2, hd3, hd4, hd5, hd6, hd7, hd8, (fun _ => rfl), hd10, hd11, hd12, hd13, C14_2, C14_13, (fun a _ _ => nT e2 a), (fun _ _ _ => H), (fun a _ _ => nT e2 a), (fun _ a _ => nX e13 a), (fun _ a _ => nX e13 a)⟩
   ·
    have H := W3 e2 e13 e14
    refine O.call Try.call58 rfl rfl rfl (c_sight_between _ _ t1 (H.own 2 rfl) (H.own 3 rfl) _ _ _ hy2) ?_
    rintro _ w5 hb4 rfl
    have H := H.ext hb4
    exact WL.nil ⟨v1, v2, b3, hf1, hf2, hf5, hd0, hd1, hd2, hd3, hd4, hd5, hd6, hd7, hd8, (fun _ => rfl), hd10, hd11, hd12, hd13, C14_2, C14_13, (fun a _ _ => nT e2 a), (fun _ a _ => nT e13 a), (fun a _ _ => nT e2 a), (fun _ _ _ => H), (fun _ _ a => nX e14 a)⟩
  ·
   rintro S f w hS ⟨e0, e1, e2, e3, e4, e5, e6, e7, e8, e9, -⟩ ⟨e11, e12, e14, -⟩ ⟨v1, v2, b3, hf1, hf2, hf5, hd0, hd1, hd2, hd3, hd4, hd5, hd6, hd7, hd8, hd9, hd10, hd11, hd12, hd13, C14_2, C14_13, W0, W1, W2, W3, W4⟩
   have hf23 := hd9 e9
   obtain ⟨u11, rfl⟩ := up1 hf23
   rcases bool_ft (S 13) with e13 | e13
   ·
    have H := W1 e2 e13 e14
    refine O.move (v := (.tuple #[(.agg (Flat.cells t2).toArray), (.bool t3)])) rfl rfl rfl ?_
    exact WL.nil ⟨v1, v2, b3, hf1, hf2, hf5, hd0, hd1, hd2, hd3, hd4, hd5, hd6, hd7, hd8, hd9, (fun _ => rfl), hd11, hd12, hd13, C14_2, C14_13, (fun a _ _ => nT e2 a), (fun _ _ _ => H), (fun a _ _ => nT e2 a), (fun _ a _ => nX e13 a), (fun _ a _ => nX e13 a)⟩
   ·
    have H := W3 e2 e13 e14
    refine O.move (v := (.tuple #[(.agg (Flat.cells t2).toArray), (.bool t3)])) rfl rfl rfl ?_
    exact WL.nil ⟨v1, v2, b3, hf1, hf2, hf5, hd0, hd1, hd2, hd3, hd4, hd5, hd6, hd7, hd8, hd9, (fun _ => rfl), hd11, hd12, hd13, C14_2, C14_13, (fun a _ _ => nT e2 a), (fun _ a _ => nT e13 a), (fun a _ _ => nT e2 a), (fun _ _ _ => H), (fun _ _ a => nX e14 a)⟩
  ·
   rintro S f w hS ⟨e0, e1, e2, e3, e4, e5, e6, e7, e8, e9, e10, -⟩ ⟨e14, -⟩ ⟨v1, v2, b3, hf1, hf2, hf5, hd0, hd1, hd2, hd3, hd4, hd5, hd6, hd7, hd8, hd9, hd10, hd11, hd12, hd13, C14_2, C14_13, W0, W1, W2, W3, W4⟩
   have hf13 := hd10 e10
   obtain ⟨u12, rfl⟩ := up1 hf13
   rcases bool_ft (S 13) with e13 | e13
   ·
    have H := W1 e2 e13 e14
    refine O.extract (v := (.agg (Flat.cells t2).toArray)) rfl rfl rfl rfl ?_
    exact WL.nil ⟨v1, v2, b3, hf1, hf2, hf5, hd0, hd1, hd2, hd3, hd4, hd5, hd6, hd7, hd8, hd9, hd10, (fun _ => rfl), hd12, hd13, C14_2, C14_13, (fun a _ _ => nT e2 a), (fun _ _ _ => H), (fun a _ _ => nT e2 a), (fun _ a _ => nX e13 a), (fun _ a _ => nX e13 a)⟩
   ·
    have H := W3 e2 e13 e14
    refine O.extract (v := (.agg (Flat.cells t2).toArray)) rfl rfl rfl rfl ?_
    exact WL.nil ⟨v1, v2, b3, hf1, hf2, hf5, hd0, hd1, hd2, hd3, hd4, hd5, hd6, hd7, hd8, hd9, hd10, (fun _ => rfl), hd12, hd13, C14_2, C14_13, (fun a _ _ => nT e2 a), (fun _ a _ => nT e13 a), (fun a _ _ => nT e2 a), (fun _ _ _ => H), (fun _ _ a => nX e14 a)⟩
  ·
   rintro S f w hS ⟨e0, e1, e2, e3, e4, e5, e6, e7, e8, e9, e10, -⟩ - ⟨v1, v2, b3, hf1, hf2, hf5, hd0, hd1, hd2, hd3, hd4, hd5, hd6, hd7, hd8, hd9, hd10, hd11, hd12, hd13, C14_2, C14_13, W0, W1, W2, W3, W4⟩
   have hf13 := hd10 e10
   obtain ⟨u13, rfl⟩ := up1 hf13
   rcases bool_ft (S 13) with e13 | e13
   ·
    rcases bool_ft (S 14) with e14 | e14
    ·
     have H := W1 e2 e13 e14
     refine O.extract (v := (.bool t3)) rfl rfl rfl rfl ?_
     exact WL.nil ⟨v1, v2, b3, hf1, hf2, hf5, hd0, hd1, hd2, hd3, hd4, hd5, hd6, hd7, hd8, hd9, hd10, hd11, (fun _ => rfl), hd13, C14_2, C14_13, (fun a _ _ => nT e2 a), (fun _ _ _ => H), (fun a _ _ => nT e2 a), (fun _ a _ => nX e13 a), (fun _ a _ => nX e13 a)⟩
    ·
     exact nomatch (show true = false from (C14_13 e14).symm.trans e13)
   ·
    rcases bool_ft (S 14) with e14 | e14
    ·
     have H := W3 e2 e13 e14
     refine O.extract (v := (.bool t3)) rfl rfl rfl rfl ?_
     exact WL.nil ⟨v1, v2, b3, hf1, hf2, hf5, hd0, hd1, hd2, hd3, hd4, hd5, hd6, hd7, hd8, hd9, hd10, hd11, (fun _ => rfl), hd13, C14_2, C14_13, (fun a _ _ => nT e2 a), (fun _ a _ => nT e13 a), (fun a _ _ => nT e2 a), (fun _ _ _ => H), (fun _ _ a => nX e14 a)⟩
    ·
     have H := W4 e2 e13 e14
     refine O.extract (v := (.bool t3)) rfl rfl rfl rfl ?_
     exact WL.nil ⟨v1, v2, b3, hf1, hf2, hf5, hd0, hd1, hd2, hd3, hd4, hd5, hd6, hd7, hd8, hd9, hd10, hd11, (fun _ => rfl), hd13, C14_2, C14_13, (fun a _ _ => nT e2 a), (fun _ a _ => nT e13 a), (fun a _ _ => nT e2 a), (fun _ _ a => nT e14 a), (fun _ _ _ => H)⟩
  ·
   rintro S f w hS - ⟨e14, -⟩ ⟨v1, v2, _, hf1, hf2, hf5, hd0, hd1, hd2, hd3, hd4, hd5, hd6, hd7, hd8, hd9, hd10, hd11, hd12, hd13, C14_2, C14_13, W0, W1, W2, W3, W4⟩
   rcases bool_ft (S 2) with e2 | e2
   ·
    have H := W0 e2 hS e14
    refine O.alloc [(.int .i64 0), (.int .i64 0)] ze30 H rfl rfl rfl ?_
    intro b3 w6 H hb5
    refine WL.nil ?_
    have H := H.pick [0, 1, 2, 3, 5] [boxI b1 25 [va0_0, va0_1], boxI b2 39 [(.int .i64 x1.At), (.int .i64 x1.A), (.int .i64 x1.B), (.int .i64 x1.Lo), (.int .i64 x1.Hi)], goneI, goneI, boxI b3 30 [(.int .i64 0), (.int .i64 0)]] rfl (by decide)
    exact ⟨v1, v2, b3, hf1, hf2, hf5, hd0, hd1, hd2, hd3, hd4, hd5, hd6, hd7, hd8, hd9, hd10, hd11, hd12, (fun _ => rfl), C14_2, (fun _ => rfl), (fun _ a _ => nG a), (fun a _ _ => nX e2 a), (fun _ _ _ => H), (fun a _ _ => nX e2 a), (fun a _ _ => nX e2 a)⟩
   ·
    have H := W1 e2 hS e14
    refine O.alloc [(.int .i64 0), (.int .i64 0)] ze30 H rfl rfl rfl ?_
    intro b3 w6 H hb5
    refine WL.nil ?_
    have H := H.pick [0, 1, 2, 3, 5] [boxI b1 25 [va0_0, va0_1], boxI b2 39 [(.int .i64 x1.At), (.int .i64 x1.A), (.int .i64 x1.B), (.int .i64 x1.Lo), (.int .i64 x1.Hi)], ownI (α := Int) v1 3 t1.Rates, ownI (α := GSight) v2 39 t1.Sights, boxI b3 30 [(.int .i64 0), (.int .i64 0)]] rfl (by decide)
    exact ⟨v1, v2, b3, hf1, hf2, hf5, hd0, hd1, hd2, hd3, hd4, hd5, hd6, hd7, hd8, hd9, hd10, hd11, hd12, (fun _ => rfl), C14_2, (fun _ => rfl), (fun a _ _ => nT e2 a), (fun _ a _ => nG a), (fun a _ _ => nT e2 a), (fun _ _ _ => H), (fun _ _ a => nX e14 a)⟩
  ·
   rintro S f w hS ⟨e0, e1, e2, e3, e4, e5, e6, e7, e8, e9, e10, e11, e13, -⟩ - ⟨v1, v2, b3, hf1, hf2, hf5, hd0, hd1, hd2, hd3, hd4, hd5, hd6, hd7, hd8, hd9, hd10, hd11, hd12, hd13, C14_2, C14_13, W0, W1, W2, W3, W4⟩
   have hf6 := hd13 e13
   have hf24 := hd11 e11
   obtain ⟨u14, rfl⟩ := up2 hf6 hf24
   have H := W3 e2 e13 hS
   refine O.store 4 0 [(.int .i64 t2.Lo), (.int .i64 t2.Hi)] [(.int .i64 t2.Lo), (.int .i64 t2.Hi)] sz30 H rfl rfl rfl rfl rfl rfl ⟨⟨rfl, rfl⟩, rfl⟩ (one_cons rfl (one_cons rfl one_nil)) ?_
   intro w7 H
   exact WL.nil ⟨v1, v2, b3, hf1, hf2, hf5, hd0, hd1, hd2, hd3, hd4, hd5, hd6, hd7, hd8, hd9, hd10, hd11, hd12, hd13, (fun _ => e2), (fun _ => e13), (fun a _ _ => nT e2 a), (fun _ a _ => nT e13 a), (fun a _ _ => nT e2 a), (fun _ _ a => nG a), (fun _ _ _ => H)⟩
 ·
  rintro S f w ⟨e0, e1, e2, e3, e4, e5, e6, e7, e8, e9, e10, e11, e12, e13, e14, -⟩ ⟨v1, v2, b3, hf1, hf2, hf5, hd0, hd1, hd2, hd3, hd4, hd5, hd6, hd7, hd8, hd9, hd10, hd11, hd12, hd13, C14_2, C14_13, W0, W1, W2, W3, W4⟩
  have hf6 := hd13 e13
  have hf25 := hd12 e12
  have H := W4 e2 e13 e14
  obtain ⟨u15, rfl⟩ := up3 hf5 hf6 hf25
  refine O.assign (v := (.bool t3)) rfl rfl rfl ?_
  refine WL.nil ?_
  refine W.seq ?_
  refine W.region ?_
  refine O.move (v := (.bool t3)) rfl rfl rfl ?_
  refine O.move (v := (.bool t3)) rfl rfl rfl ?_
  refine WL.cut 6 (fun f w => f 5 = (.pointer (some ⟨b2, 0, none⟩)) ∧ f 6 = (.pointer (some ⟨b3, 0, none⟩)) ∧ f 33 = .bool (t3 && (decide (x1.Lo ≤ t2.Lo))) ∧ Inv w0 w [boxI b1 25 [va0_0, va0_1], boxI b2 39 [(.int .i64 x1.At), (.int .i64 x1.A), (.int .i64 x1.B), (.int .i64 x1.Lo), (.int .i64 x1.Hi)], ownI (α := Int) v1 3 t1.Rates, ownI (α := GSight) v2 39 t1.Sights, boxI b3 30 [(.int .i64 t2.Lo), (.int .i64 t2.Hi)]]) ?_ ?_
  ·
   rcases bool_ft t3 with hc1 | hc1
   ·
    refine WL.reset (i := 27) (v := .bool false) (congrArg Value.bool hc1) ?_
    refine O.skip rfl rfl ?_
    refine O.skip rfl rfl ?_
    refine O.skip rfl rfl ?_
    refine O.skip rfl rfl ?_
    refine O.skip rfl rfl ?_
    refine O.pick_false (v := (.bool false)) rfl rfl rfl rfl ?_
    exact WL.nil ⟨rfl, rfl, congrArg Value.bool (and_f hc1), H⟩
   ·
    refine WL.reset (i := 27) (v := .bool true) (congrArg Value.bool hc1) ?_
    refine O.fieldAddr fd30_0 rfl rfl rfl ?_
    refine O.load sc3 rfl rfl rfl (H.cell 4 rfl 0 _ rfl) ?_
    refine O.fieldAddr fd39_3 rfl rfl rfl ?_
    refine O.load sc3 rfl rfl rfl (H.cell 1 rfl 3 _ rfl) ?_
    refine O.geq rfl rfl rfl rfl ?_
    refine O.pick_true (v := (.bool (decide (x1.Lo ≤ t2.Lo)))) rfl rfl rfl rfl ?_
    exact WL.nil ⟨rfl, rfl, congrArg Value.bool (and_t hc1), H⟩
  ·
   rintro f w ⟨hf5, hf6, hf33, H⟩
   obtain ⟨u16, rfl⟩ := up3 hf5 hf6 hf33
   refine O.move (v := (.bool (t3 && (decide (x1.Lo ≤ t2.Lo))))) rfl rfl rfl ?_
   refine WL.cut 6 (fun f w => f 40 = .bool ((t3 && (decide (x1.Lo ≤ t2.Lo))) && (decide (t2.Hi ≤ x1.Hi))) ∧ Inv w0 w [boxI b1 25 [va0_0, va0_1], boxI b2 39 [(.int .i64 x1.At), (.int .i64 x1.A), (.int .i64 x1.B), (.int .i64 x1.Lo), (.int .i64 x1.Hi)], ownI (α := Int) v1 3 t1.Rates, ownI (α := GSight) v2 39 t1.Sights, boxI b3 30 [(.int .i64 t2.Lo), (.int .i64 t2.Hi)]]) ?_ ?_
   ·
    rcases bool_ft (t3 && (decide (x1.Lo ≤ t2.Lo))) with hc2 | hc2
    ·
     refine WL.reset (i := 34) (v := .bool false) (congrArg Value.bool hc2) ?_
     refine O.skip rfl rfl ?_
     refine O.skip rfl rfl ?_
     refine O.skip rfl rfl ?_
     refine O.skip rfl rfl ?_
     refine O.skip rfl rfl ?_
     refine O.pick_false (v := (.bool false)) rfl rfl rfl rfl ?_
     exact WL.nil ⟨congrArg Value.bool (and_f hc2), H⟩
    ·
     refine WL.reset (i := 34) (v := .bool true) (congrArg Value.bool hc2) ?_
     refine O.fieldAddr fd30_1 rfl rfl rfl ?_
     refine O.load sc3 rfl rfl rfl (H.cell 4 rfl 1 _ rfl) ?_
     refine O.fieldAddr fd39_4 rfl rfl rfl ?_
     refine O.load sc3 rfl rfl rfl (H.cell 1 rfl 4 _ rfl) ?_
     refine O.leq rfl rfl rfl rfl ?_
     refine O.pick_true (v := (.bool (decide (t2.Hi ≤ x1.Hi)))) rfl rfl rfl rfl ?_
     exact WL.nil ⟨congrArg Value.bool (and_t hc2), H⟩
   ·
    rintro f w ⟨hf40, H⟩
    obtain ⟨u17, rfl⟩ := up1 hf40
    refine O.assign (v := (.bool ((t3 && (decide (x1.Lo ≤ t2.Lo))) && (decide (t2.Hi ≤ x1.Hi))))) rfl rfl rfl ?_
    refine WL.nil ?_
    refine W.ret ?_
    have hq : ((t3 && (decide (x1.Lo ≤ t2.Lo))) && (decide (t2.Hi ≤ x1.Hi))) = r0 := Option.some.inj (show some ((t3 && (decide (x1.Lo ≤ t2.Lo))) && (decide (t2.Hi ≤ x1.Hi))) = some r0 from hm)
    subst hq
    exact ends1 Try.results79 rfl ⟨_, rfl, H.base, rfl⟩

theorem c_slices_Delete_Int : DelI Try.prog 81 Int 3 := by
 intro Dq w0 w L i v xs zs lo hi H hi' hz
 obtain ⟨h0, h1, h2, rfl⟩ := delI_some hz
 have hR := H.own i hi'
 have hz3 : SizeT Try.prog 3 (Ty.size Int) := SizeT.mk (by kernel_rfl)
 have hzf : SizeT Try.prog 3 (Flat.size Int) := SizeT.mk (by kernel_rfl)
 obtain ⟨ad, cap, rfl, hcap, _⟩ := hR.shape
 refine calls_of_W Try.func81 rfl Try.ntmps81 (Nat.le_of_ble_eq_true rfl) ?_
 refine W.seq ?_
 refine W.region ?_
 refine O.assign (v := .slice none 0 0) rfl rfl rfl ?_
 refine WL.nil ?_
 refine W.seq ?_
 refine W.region ?_
 refine O.move (v := .slice ad xs.length cap) rfl rfl rfl ?_
 refine O.move (v := .int .i64 lo) rfl rfl rfl ?_
 refine O.move (v := .int .i64 hi) rfl rfl rfl ?_
 refine O.move (v := .slice ad xs.length cap) rfl rfl rfl ?_
 refine O.lenS Try.underlying22 hR rfl rfl rfl ?_
 refine O.slice3 Try.underlying22 hz3 h0 h1 h2 (by omega) rfl rfl rfl rfl rfl rfl fun v' => ?_
 refine WL.nil ?_
 refine W.seq ?_
 refine W.seq ?_
 refine W.region ?_
 refine O.move (v := .int .i64 lo) rfl rfl rfl ?_
 refine O.move (v := .int .i64 hi) rfl rfl rfl ?_
 refine O.eql (a := lo) (b := hi) rfl rfl rfl rfl ?_
 refine WL.nil ?_
 rcases Int.lt_or_eq_of_le h1 with hlt | rfl
 ·
  refine W.cond_false (congrArg Value.bool (beq_eq_false_iff_ne.2 (by omega))) ?_
  refine W.skip ?_
  refine W.seq ?_
  refine W.region ?_
  refine O.move (v := .slice ad xs.length cap) rfl rfl rfl ?_
  refine O.lenS Try.underlying22 hR rfl rfl rfl ?_
  refine O.assign (v := .int .i64 (xs.length : Int)) rfl rfl rfl ?_
  refine WL.nil ?_
  obtain ⟨gb, rfl⟩ : ∃ gb, ad = some ⟨gb, 0, none⟩ := by
   obtain ⟨_, ⟨h3, h4⟩ | ⟨gb, _, _, hv, _⟩⟩ := (H.items _ (List.mem_of_getElem? hi')).1
   · omega
   · cases hv; exact ⟨gb, rfl⟩
  obtain ⟨lo, rfl⟩ := Int.eq_ofNat_of_zero_le h0
  obtain ⟨hi, rfl⟩ := Int.eq_ofNat_of_zero_le (Int.le_trans h0 h1)
  have hdl : (xs.drop hi).length = xs.length - hi := List.length_drop
  have htl : (xs.take lo).length = lo := by rw [List.length_take]; omega
  have hs2 : SliceR w (sliced (some ⟨gb, 0, none⟩) hi xs.length cap (Ty.size Int)) (xs.drop hi) := by
   obtain ⟨a', l', c', e, _, _, h5⟩ := sliced_sliceR hR (show cutI xs (hi : Int) ((xs.length : Nat) : Int) = some (xs.drop hi) by unfold cutI; rw [if_pos (by omega), Int.toNat_natCast, Int.toNat_natCast, List.take_length])
   cases e
   exact h5
  refine W.seq ?_
  refine W.drawD 7 [[], [], [0, 1], [], [], [3, 4], [2, 5]] [[2, 6], [2, 6], [6], [5, 6], [5, 6], [6], []] (fun S f w' => f 0 = .slice (some ⟨gb, 0, none⟩) xs.length cap ∧ f 1 = .int .i64 (lo : Int) ∧ f 2 = .int .i64 (hi : Int) ∧ f 7 = .int .i64 (xs.length : Int) ∧ (S 0 = true → f 20 = .slice (some ⟨gb, 0, none⟩) xs.length cap) ∧ (S 1 = true → f 21 = .int .i64 (lo : Int)) ∧ (S 2 = true → f 22 = sliced (some ⟨gb, 0, none⟩) 0 lo cap (Ty.size Int)) ∧ (S 3 = true → f 23 = .slice (some ⟨gb, 0, none⟩) xs.length cap) ∧ (S 4 = true → f 24 = .int .i64 (hi : Int)) ∧ (S 5 = true → f 25 = sliced (some ⟨gb, 0, none⟩) hi xs.length cap (Ty.size Int)) ∧ (S 6 = true → f 26 = .slice (some ⟨gb, 0, none⟩) (lo + (xs.drop hi).length) cap) ∧ (S 6 = false → InvD Dq w0 w' L ∧ SliceR w' (sliced (some ⟨gb, 0, none⟩) hi xs.length cap (Ty.size Int)) (xs.drop hi)) ∧ (S 6 = true → InvD Dq w0 w' (L.set i (ownI (.slice (some ⟨gb, 0, none⟩) (lo + (xs.drop hi).length) cap) 3 (xs.take lo ++ xs.drop hi))))) fol (by kernel_rfl) ?_ ?_ ?_
  · exact fun d _ => ⟨rfl, rfl, rfl, rfl, nF, nF, nF, nF, nF, nF, nF, (fun _ => ⟨H.ext (below_drawn d), hs2.mono (below_drawn d)⟩), nF⟩
  ·
   refine ⟨?_, ?_, ?_, ?_, ?_, ?_, ?_, trivial⟩
   ·
    rintro S f w' hS - ⟨-, e6, -⟩ ⟨f0, f1, f2, f7, d0, d1, d2, d3, d4, d5, d6, W0, W1⟩
    refine O.move (v := .slice (some ⟨gb, 0, none⟩) xs.length cap) rfl rfl f0 ?_
    exact WL.nil ⟨f0, f1, f2, f7, fun _ => rfl, d1, d2, d3, d4, d5, d6, W0, W1⟩
   ·
    rintro S f w' hS - ⟨-, e6, -⟩ ⟨f0, f1, f2, f7, d0, d1, d2, d3, d4, d5, d6, W0, W1⟩
    refine O.move (v := .int .i64 (lo : Int)) rfl rfl f1 ?_
    exact WL.nil ⟨f0, f1, f2, f7, d0, fun _ => rfl, d2, d3, d4, d5, d6, W0, W1⟩
   ·
    rintro S f w' hS ⟨e0, e1, -⟩ ⟨e6, -⟩ ⟨f0, f1, f2, f7, d0, d1, d2, d3, d4, d5, d6, W0, W1⟩
    refine O.sliceHv Try.underlying22 hz3 (Int.natCast_nonneg _) (by omega) rfl rfl (d0 e0) (d1 e1) ?_
    exact WL.nil ⟨f0, f1, f2, f7, d0, d1, fun _ => rfl, d3, d4, d5, d6, W0, W1⟩
   ·
    rintro S f w' hS - ⟨-, e6, -⟩ ⟨f0, f1, f2, f7, d0, d1, d2, d3, d4, d5, d6, W0, W1⟩
    refine O.move (v := .slice (some ⟨gb, 0, none⟩) xs.length cap) rfl rfl f0 ?_
    exact WL.nil ⟨f0, f1, f2, f7, d0, d1, d2, fun _ => rfl, d4, d5, d6, W0, W1⟩
   ·
    rintro S f w' hS - ⟨-, e6, -⟩ ⟨f0, f1, f2, f7, d0, d1, d2, d3, d4, d5, d6, W0, W1⟩
    refine O.move (v := .int .i64 (hi : Int)) rfl rfl f2 ?_
    exact WL.nil ⟨f0, f1, f2, f7, d0, d1, d2, d3, fun _ => rfl, d5, d6, W0, W1⟩
   ·
    rintro S f w' hS ⟨e3, e4, -⟩ ⟨e6, -⟩ ⟨f0, f1, f2, f7, d0, d1, d2, d3, d4, d5, d6, W0, W1⟩
    refine O.sliceLv Try.underlying22 hz3 (Int.natCast_nonneg _) (by omega) rfl rfl (d3 e3) (d4 e4) ?_
    exact WL.nil ⟨f0, f1, f2, f7, d0, d1, d2, d3, d4, fun _ => rfl, d6, W0, W1⟩
   ·
    rintro S f w' hS ⟨e2, e5, -⟩ - ⟨f0, f1, f2, f7, d0, d1, d2, d3, d4, d5, d6, W0, W1⟩
    obtain ⟨H, hs2⟩ := W0 hS
    obtain ⟨hok, hfp⟩ := H.items _ (List.mem_of_getElem? hi')
    have hc : sliced (some ⟨gb, 0, none⟩) 0 lo cap (Ty.size Int) = .slice (some ⟨gb, 0, none⟩) lo cap := by unfold sliced; simp [Addr.add_lit]
    obtain ⟨w2, r1, r2, r3⟩ := run_append_back (T0 := 22) Try.underlying22 (show ElemT Try.prog 3 (Flat.size Int) 8 from ElemT.mk (z := (.int .i64 (0))) (by kernel_rfl) rfl) hok hs2 (m := lo) (by omega) (by omega)
    refine O.appendV r1 rfl rfl ((d2 e2).trans hc) (d5 e5) ?_
    exact WL.nil ⟨f0, f1, f2, f7, d0, d1, d2, d3, d4, d5, fun _ => rfl, nG, fun _ => H.upd i _ _ hi' ⟨r2.1, r2.2, r2.3, r2.4, fun k hk hn => r2.5 k hk fun e => hn (by cases e; rfl)⟩ r3 fun b hb => (by cases hb; exact ⟨Nat.lt_of_lt_of_le (hfp gb rfl).2 r2.4, .inl rfl⟩)⟩
  ·
   rintro S f w' ⟨_, _, _, _, _, _, e6, -⟩ ⟨f0, f1, f2, f7, d0, d1, d2, d3, d4, d5, d6, W0, W1⟩
   have H := W1 e6
   have f26 := d6 e6
   have hL : (L.set i (ownI (.slice (some ⟨gb, 0, none⟩) (lo + (xs.drop hi).length) cap) 3 (xs.take lo ++ xs.drop hi)))[i]? = some (ownI (.slice (some ⟨gb, 0, none⟩) (lo + (xs.drop hi).length) cap) 3 (xs.take lo ++ xs.drop hi)) := by
    rw [List.getElem?_set_self (List.getElem?_eq_some_iff.1 hi').1]
   refine O.assign (v := .slice (some ⟨gb, 0, none⟩) (lo + (xs.drop hi).length) cap) rfl rfl f26 ?_
   refine WL.nil ?_
   refine W.seq ?_
   refine W.region ?_
   have hzl : (xs.take lo ++ xs.drop hi).length = lo + (xs.drop hi).length := by rw [List.length_append, htl]
   have hR2 := H.own i hL
   rw [← hzl] at hR2 hL H
   refine O.move (v := .slice (some ⟨gb, 0, none⟩) (xs.take lo ++ xs.drop hi).length cap) rfl rfl (by rw [hzl]; rfl) ?_
   refine O.move (v := .slice (some ⟨gb, 0, none⟩) (xs.take lo ++ xs.drop hi).length cap) rfl rfl (by rw [hzl]; rfl) ?_
   refine O.lenS Try.underlying22 hR2 rfl rfl rfl ?_
   refine O.move (v := .int .i64 (xs.length : Int)) rfl rfl f7 ?_
   refine O.sliceLHv Try.underlying22 hzf (Int.natCast_nonneg _) (by rw [hzl]; omega) (by omega) rfl rfl rfl rfl rfl ?_
   obtain ⟨hok, hfp⟩ := H.items _ (List.mem_of_getElem? hL)
   obtain ⟨w2, r1, r2, r3⟩ := run_clear_tail (T0 := 0) (k := xs.length - (xs.take lo ++ xs.drop hi).length) Try.underlying22 (show ZeroT Try.prog 3 (Flat.val ((0) : Int)) from ZeroT.mk (by kernel_rfl)) hok rfl (by rw [hzl]; omega)
   refine O.clearV r1 rfl ?_ ?_
   ·
    rw [show (xs.take lo ++ xs.drop hi).length + (xs.length - (xs.take lo ++ xs.drop hi).length) = xs.length by rw [hzl]; omega]
    rfl
   refine WL.nil ?_
   refine W.seq ?_
   refine W.region ?_
   refine O.move (v := .slice (some ⟨gb, 0, none⟩) (lo + (xs.drop hi).length) cap) rfl rfl rfl ?_
   refine O.assign (v := .slice (some ⟨gb, 0, none⟩) (lo + (xs.drop hi).length) cap) rfl rfl rfl ?_
   refine WL.nil ?_
   refine W.ret ?_
   have H3 := H.upd i _ _ hL ⟨r2.1, r2.2, r2.3, r2.4, fun k hk hn => r2.5 k hk fun e => hn (by cases e; rfl)⟩ r3 fun b hb => (by cases hb; exact ⟨Nat.lt_of_lt_of_le (hfp gb rfl).2 r2.4, .inl rfl⟩)
   rw [List.set_set, hzl] at H3
   exact ends1 Try.results81 rfl ⟨_, rfl, H3⟩
 ·
  refine W.cond_true (congrArg Value.bool (beq_self_eq_true lo)) ?_
  refine W.seq ?_
  refine W.region ?_
  refine O.move (v := .slice ad xs.length cap) rfl rfl rfl ?_
  refine O.assign (v := .slice ad xs.length cap) rfl rfl rfl ?_
  refine WL.nil ?_
  refine W.ret ?_
  have e1 : L.set i (ownI (.slice ad xs.length cap) 3 (xs.take lo.toNat ++ xs.drop lo.toNat)) = L := by
   rw [List.take_append_drop]
   obtain ⟨q1, q2⟩ := List.getElem?_eq_some_iff.1 hi'
   rw [← q2]
   exact List.set_getElem_self q1
  have e2 : InvD Dq w0 w (L.set i (ownI (.slice ad xs.length cap) 3 (xs.take lo.toNat ++ xs.drop lo.toNat))) := by rw [e1]; exact H
  exact ends1 Try.results81 rfl ⟨_, rfl, e2⟩

set_option maxRecDepth 20000 in
theorem c_sight_Needed {w0 : World} (va0_0 : Value) (va0_1 : Value) (a0 : GNet) (ha0_0 : SliceR w0 va0_0 a0.Rates) (ha0_1 : SliceR w0 va0_1 a0.Sights) {r0 : (List Int)} {r1 : Int} (hm : sight_Needed a0 = some (r0, r1)) :
  Calls Try.prog 43 #[(.agg #[va0_0, va0_1])] w0 (Ret w0 fun w v => ∃ vr0 : Value, v = .tuple #[vr0, (.int .i64 r1)] ∧ OwnR w0 w vr0 3 r0) := by
 unfold sight_Needed at hm
 refine calls_of_W Try.func43 rfl Try.ntmps43 (Nat.le_of_ble_eq_true rfl) ?_
 have H := Inv.start (w := w0)
 refine W.seq ?_
 refine W.region ?_
 refine O.box [va0_0, va0_1] H rfl rfl rfl rfl ?_
 intro b1 w1 H hb1
 have H := H.addNil (α := Int) (E := 3)
 refine O.assign (v := (.slice none 0 0)) rfl rfl rfl ?_
 refine O.assign (v := (.int .i64 0)) rfl rfl rfl ?_
 refine WL.nil ?_
 refine W.seq ?_
 refine W.seq ?_
 refine W.region ?_
 refine O.loadA [va0_0, va0_1] ag25 rfl rfl rfl rfl (H.cell 0 rfl) ?_
 obtain ⟨t1, hy1, hm⟩ := bind_some hm
 refine O.call Try.call78 rfl rfl rfl (c_sight_agrees _ _ (GNet.mk a0.Rates a0.Sights) (H.arg ha0_0) (H.arg ha0_1) hy1) ?_
 rintro _ w2 hb2 rfl
 have H := H.ext hb2
 refine O.assign (v := (.int .i64 t1)) rfl rfl rfl ?_
 refine WL.nil ?_
 refine W.seq ?_
 refine W.region ?_
 refine O.move (v := (.int .i64 t1)) rfl rfl rfl ?_
 refine O.neq rfl rfl rfl rfl ?_
 refine WL.nil ?_
 rcases ite_some hm with ⟨hc1, hm⟩ | ⟨hc1, hm⟩
 ·
  refine W.cond_true (congrArg Value.bool hc1) ?_
  refine W.seq ?_
  refine W.region ?_
  refine O.move (v := (.int .i64 t1)) rfl rfl rfl ?_
  have H := H.addNil (α := Int) (E := 3)
  refine O.assign (v := (.slice none 0 0)) rfl rfl rfl ?_
  refine O.assign (v := (.int .i64 t1)) rfl rfl rfl ?_
  refine WL.nil ?_
  refine W.ret ?_
  have hq : (([] : List Int), t1) = (r0, r1) := Option.some.inj (show some (([] : List Int), t1) = some (r0, r1) from hm)
  obtain ⟨he0, hq0⟩ := Prod.mk.inj hq; clear hq; subst he0
  subst hq0
  exact ends2 Try.results43 rfl rfl ⟨_, rfl, H.base, ⟨_, rfl, H.ownR 2 rfl⟩⟩
 ·
  refine W.cond_false (congrArg Value.bool hc1) ?_
  refine W.skip ?_
  refine W.seq ?_
  refine W.region ?_
  have H := H.addNil (α := Int) (E := 3)
  refine O.assign (v := (.slice none 0 0)) rfl rfl rfl ?_
  refine WL.nil ?_
  refine W.seq ?_
  refine W.seq ?_
  refine W.region ?_
  refine O.fieldAddr fd25_1 rfl rfl rfl ?_
  refine O.load sc23 rfl rfl rfl (H.cell 0 rfl 1 _ rfl) ?_
  refine O.lenS Try.underlying23 (H.arg ha0_1) rfl rfl rfl ?_
  refine O.move (v := (.int .i64 0)) rfl rfl rfl ?_
  refine WL.nil ?_
  obtain ⟨s1, hm1, hm⟩ := bind_some hm
  refine W.via (fun f w => ∃ v4 : Value, f 1 = (.pointer (some ⟨b1, 0, none⟩)) ∧ f 5 = v4 ∧ Inv w0 w [boxI b1 25 [va0_0, va0_1], ownI (α := Int) v4 3 s1]) ?_ ?_
  ·
   refine W.block ?_
   have hbdik1 := (H.arg ha0_1).len_le
   have H := H.keep [0, 2] [boxI b1 25 [va0_0, va0_1], ownI (α := Int) (.slice none 0 0) 3 ([] : List Int)] rfl (by decide)
   refine W.rangeN (i := 0) hm1 (fun rem ik1 s f w => ∃ z2 : (List Int), ∃ v2 : Value, z2 = s ∧ (ik1 : Int) + rem = max 0 ((a0.Sights.length : Nat) : Int) ∧ f 17 = .int .i64 (ik1 : Int) ∧ f 16 = (.int .i64 ((a0.Sights.length : Nat) : Int)) ∧ f 1 = (.pointer (some ⟨b1, 0, none⟩)) ∧ f 5 = v2 ∧ Inv w0 w [boxI b1 25 [va0_0, va0_1], ownI (α := Int) v2 3 z2]) ?_ ?_ ?_
   ·
    exact ⟨_, (.slice none 0 0), rfl, rangeN_start, rfl, rfl, rfl, rfl, H⟩
   ·
    rintro k ik1 _ st f w ⟨z2, v2, rfl, hdropk1, hf17, hf16, hf1, hf5, H⟩ hm2
    have hltk1 := rangeN_lt hdropk1
    obtain ⟨u1, rfl⟩ := up4 hf17 hf16 hf1 hf5
    have hinck1 := addI_lt hltk1 hbdik1
    refine W.seq ?_
    refine W.region ?_
    refine O.lss rfl rfl rfl rfl ?_
    refine WL.nil ?_
    refine W.seq ?_
    refine W.cond_true (congrArg Value.bool (decide_eq_true hltk1)) ?_
    refine W.skip ?_
    refine W.seq ?_
    refine W.block ?_
    refine W.seq ?_
    refine W.region ?_
    refine O.move (v := (.int .i64 (ik1 : Int))) rfl rfl rfl ?_
    refine O.assign (v := (.int .i64 (ik1 : Int))) rfl rfl rfl ?_
    refine WL.nil ?_
    refine W.region ?_
    refine O.move (v := v2) rfl rfl rfl ?_
    refine O.move (v := (.int .i64 (ik1 : Int))) rfl rfl rfl ?_
    refine O.buildSlice (α := Int) [(.int .i64 (ik1 : Int))] [(ik1 : Int)] Try.underlying22 el3 H rfl rfl rfl rfl rfl rfl rfl ?_
    intro v5 w3 H hb3
    obtain ⟨t2, ht2, hm2⟩ := bind_some hm2
    refine O.append 1 Try.underlying22 el3 rfl H rfl (H.own 2 rfl) ht2 rfl rfl rfl rfl ?_
    intro v6 w4 H
    refine O.assign (v := v6) rfl rfl rfl ?_
    refine WL.nil ?_
    refine W.region ?_
    refine O.add rfl rfl rfl rfl hinck1 ?_
    refine O.move (v := .int .i64 ((ik1 : Int) + 1)) rfl rfl rfl ?_
    refine WL.nil ?_
    have H := H.keep [0, 1] [boxI b1 25 [va0_0, va0_1], ownI (α := Int) v6 3 t2] rfl (by decide)
    obtain rfl := Option.some.inj hm2
    exact ⟨_, rfl, _, v6, rfl, rangeN_next hdropk1, rfl, rfl, rfl, rfl, H⟩
   ·
    rintro ik1 _ f w ⟨z2, v2, rfl, hdropk1, hf17, hf16, hf1, hf5, H⟩ hfin
    have hltk1 := rangeN_end hdropk1
    obtain ⟨u2, rfl⟩ := up4 hf17 hf16 hf1 hf5
    refine W.seq ?_
    refine W.region ?_
    refine O.lss rfl rfl rfl rfl ?_
    refine WL.nil ?_
    refine W.seq ?_
    refine W.cond_false (congrArg Value.bool (decide_eq_false hltk1)) ?_
    refine W.exit ?_
    have hq : z2 = s1 := hfin
    subst hq
    refine xT rfl ?_
    exact ⟨v2, rfl, rfl, H⟩
  ·
   rintro f w ⟨v4, hf1, hf5, H⟩
   obtain ⟨u3, rfl⟩ := up2 hf1 hf5
   refine W.seq ?_
   refine W.region ?_
   refine O.loadA [va0_0, va0_1] ag25 rfl rfl rfl rfl (H.cell 0 rfl) ?_
   refine O.alloc [(.slice none 0 0), (.slice none 0 0)] ze25 H rfl rfl rfl ?_
   intro b2 w5 H hb4
   have H := H.addNil (α := Int) (E := 3)
   have H := H.addNil (α := GSight) (E := 39)
   have H := H.argOr ha0_0
   have H := H.argOr ha0_1
   refine O.store 2 0 [va0_0, va0_1] [va0_0, va0_1] sz25 H rfl rfl rfl rfl rfl rfl ⟨⟨rfl, rfl⟩, rfl⟩ (one_cons (SliceR.one (H.orR 5 rfl)) (one_cons (SliceR.one (H.orR 6 rfl)) one_nil)) ?_
   intro w6 H
   refine WL.nil ?_
   refine W.seq ?_
   refine W.seq ?_
   refine W.region ?_
   refine O.fieldAddr fd25_1 rfl rfl rfl ?_
   refine O.load sc23 rfl rfl rfl (H.cell 0 rfl 1 _ rfl) ?_
   refine O.lenS Try.underlying23 (H.arg ha0_1) rfl rfl rfl ?_
   obtain ⟨t3, ht3, hm⟩ := bind_some hm
   refine O.sub rfl rfl rfl rfl ht3 ?_
   refine O.assign (v := (.int .i64 t3)) rfl rfl rfl ?_
   refine WL.nil ?_
   obtain ⟨s2, hm3, hm⟩ := bind_some hm
   refine W.via (fun f w => ∃ v16 : Value, f 5 = v16 ∧ Inv w0 w [ownI (α := Int) v16 3 s2]) ?_ ?_
   ·
    refine W.block ?_
    have H := H.keep [1, 2, 5, 6] [ownI (α := Int) v4 3 s1, boxI b2 25 [va0_0, va0_1], orI (α := Int) w0 va0_0 a0.Rates, orI (α := GSight) w0 va0_1 a0.Sights] rfl (by decide)
    refine W.loopR hm3 (fun s f w => ∃ z8 : Int, ∃ z9 : (List Int), ∃ z10 : (List Int), ∃ z11 : (List GSight), ∃ v10 : Value, ∃ v11 : Value, ∃ v12 : Value, (z8, z9, z10, z11) = s ∧ f 5 = v10 ∧ f 7 = (.pointer (some ⟨b2, 0, none⟩)) ∧ f 8 = (.int .i64 z8) ∧ Inv w0 w [ownI (α := Int) v10 3 z9, boxI b2 25 [v11, v12], orI (α := Int) w0 v11 z10, orI (α := GSight) w0 v12 z11]) ?_ ?_
    ·
     exact ⟨_, _, _, _, v4, va0_0, va0_1, rfl, rfl, rfl, rfl, H⟩
    ·
     rintro _ st f w ⟨z8, z9, z10, z11, v10, v11, v12, rfl, hf5, hf7, hf8, H⟩ hm4
     obtain ⟨u4, rfl⟩ := up3 hf5 hf7 hf8
     refine W.seq ?_
     refine W.seq ?_
     refine W.region ?_
     refine O.move (v := (.int .i64 z8)) rfl rfl rfl ?_
     refine O.geq rfl rfl rfl rfl ?_
     refine WL.nil ?_
     rcases ite_some hm4 with ⟨hc2, hm4⟩ | ⟨hc2, hm4⟩
     ·
      refine W.cond_true (congrArg Value.bool hc2) ?_
      refine W.skip ?_
      refine W.seq ?_
      obtain ⟨⟨s3, s4, s5⟩, hm5, hm4⟩ := bind_some hm4
      refine W.via (fun f w => ∃ v17 : Value, ∃ v18 : Value, ∃ v19 : Value, f 5 = v17 ∧ f 7 = (.pointer (some ⟨b2, 0, none⟩)) ∧ f 8 = (.int .i64 z8) ∧ Inv w0 w [ownI (α := Int) v17 3 s3, boxI b2 25 [v18, v19], orI (α := Int) w0 v18 s4, orI (α := GSight) w0 v19 s5]) ?_ ?_
      ·
       refine W.block ?_
       refine W.seq ?_
       refine W.region ?_
       refine O.loadA [v11, v12] ag25 rfl rfl rfl rfl (H.cell 1 rfl) ?_
       refine O.move (v := (.int .i64 z8)) rfl rfl rfl ?_
       obtain ⟨t4, hy2, hm5⟩ := bind_some hm5
       refine O.call Try.call79 rfl rfl rfl (c_sight_implied _ _ (GNet.mk z10 z11) (H.orR 2 rfl) (H.orR 3 rfl) _ hy2) ?_
       rintro _ w7 hb5 rfl
       have H := H.ext hb5
       refine WL.nil ?_
       obtain ⟨⟨s6, s7, s8⟩, hm6, hm5⟩ := bind_some hm5
       refine W.via (fun f w => ∃ v20 : Value, ∃ v21 : Value, ∃ v22 : Value, f 5 = v20 ∧ f 7 = (.pointer (some ⟨b2, 0, none⟩)) ∧ f 8 = (.int .i64 z8) ∧ Inv w0 w [ownI (α := Int) v20 3 s6, boxI b2 25 [v21, v22], orI (α := Int) w0 v21 s7, orI (α := GSight) w0 v22 s8]) ?_ ?_
       ·
        rcases ite_some hm6 with ⟨hc3, hm6⟩ | ⟨hc3, hm6⟩
        ·
         refine W.cond_true (congrArg Value.bool hc3) ?_
         refine W.region ?_
         refine O.loadA [v11, v12] ag25 rfl rfl rfl rfl (H.cell 1 rfl) ?_
         refine O.move (v := (.int .i64 z8)) rfl rfl rfl ?_
         obtain ⟨t5, hy3, hm6⟩ := bind_some hm6
         refine O.call Try.call80 rfl rfl rfl (c_sight_without _ _ (GNet.mk z10 z11) (H.orR 2 rfl) (H.orR 3 rfl) _ hy3) ?_
         rintro _ w8 hb6 ⟨v23, v24, rfl, ho1⟩
         have H := H.addAll hb6 ho1
         refine O.move (v := v10) rfl rfl rfl ?_
         refine O.move (v := (.int .i64 z8)) rfl rfl rfl ?_
         refine O.move (v := (.int .i64 z8)) rfl rfl rfl ?_
         obtain ⟨t6, ht6, hm6⟩ := bind_some hm6
         refine O.add rfl rfl rfl rfl ht6 ?_
         obtain ⟨t7, hy4, hm6⟩ := bind_some hm6
         refine O.deleteI 0 H rfl c_slices_Delete_Int hy4 Try.call81 rfl rfl rfl rfl rfl ?_
         intro v25 w9 H
         have H := H.ownOr 4 rfl
         have H := H.ownOr 5 rfl
         refine O.store 1 0 [v23, v24] [v23, v24] sz25 H rfl rfl rfl rfl rfl rfl ⟨⟨rfl, rfl⟩, rfl⟩ (one_cons (SliceR.one (H.orR 4 rfl)) (one_cons (SliceR.one (H.orR 5 rfl)) one_nil)) ?_
         intro w10 H
         refine O.assign (v := v25) rfl rfl rfl ?_
         refine WL.nil ?_
         have H := H.keep [0, 1, 4, 5] [ownI (α := Int) v25 3 t7, boxI b2 25 [v23, v24], orI (α := Int) w0 v23 t5.Rates, orI (α := GSight) w0 v24 t5.Sights] rfl (by decide)
         have hq : (t7, t5.Rates, t5.Sights) = (s6, s7, s8) := Option.some.inj (show some (t7, t5.Rates, t5.Sights) = some (s6, s7, s8) from hm6)
         obtain ⟨he0, hq0⟩ := Prod.mk.inj hq; clear hq; subst he0
         obtain ⟨he1, hq1⟩ := Prod.mk.inj hq0; clear hq0; subst he1
         subst hq1
         exact ⟨v25, v23, v24, rfl, rfl, rfl, H⟩
        ·
         refine W.cond_false (congrArg Value.bool hc3) ?_
         refine W.skip ?_
         have hq : (z9, z10, z11) = (s6, s7, s8) := Option.some.inj (show some (z9, z10, z11) = some (s6, s7, s8) from hm6)
         obtain ⟨he0, hq0⟩ := Prod.mk.inj hq; clear hq; subst he0
         obtain ⟨he1, hq1⟩ := Prod.mk.inj hq0; clear hq0; subst he1
         subst hq1
         exact ⟨v10, v11, v12, rfl, rfl, rfl, H⟩
       ·
        rintro f w ⟨v20, v21, v22, hf5, hf7, hf8, H⟩
        obtain ⟨u5, rfl⟩ := up3 hf5 hf7 hf8
        have hq : (s6, s7, s8) = (s3, s4, s5) := Option.some.inj (show some (s6, s7, s8) = some (s3, s4, s5) from hm5)
        obtain ⟨he0, hq0⟩ := Prod.mk.inj hq; clear hq; subst he0
        obtain ⟨he1, hq1⟩ := Prod.mk.inj hq0; clear hq0; subst he1
        subst hq1
        exact ⟨v20, v21, v22, rfl, rfl, rfl, H⟩
      ·
       rintro f w ⟨v17, v18, v19, hf5, hf7, hf8, H⟩
       obtain ⟨u6, rfl⟩ := up3 hf5 hf7 hf8
       refine W.region ?_
       refine O.move (v := (.int .i64 z8)) rfl rfl rfl ?_
       obtain ⟨t8, ht8, hm4⟩ := bind_some hm4
       refine O.sub rfl rfl rfl rfl ht8 ?_
       refine O.assign (v := (.int .i64 t8)) rfl rfl rfl ?_
       refine WL.nil ?_
       obtain rfl := Option.some.inj hm4
       exact ⟨_, rfl, _, _, _, _, v17, v18, v19, rfl, rfl, rfl, rfl, H⟩
     ·
      refine W.cond_false (congrArg Value.bool hc2) ?_
      refine W.exit ?_
      obtain rfl := Option.some.inj hm4
      refine ⟨_, rfl, ?_⟩
      intro hy
      have hq : z9 = s2 := hy
      subst hq
      have H := H.keep [0] [ownI (α := Int) v10 3 z9] rfl (by decide)
      refine xT rfl ?_
      exact ⟨v10, rfl, H⟩
   ·
    rintro f w ⟨v16, hf5, H⟩
    obtain ⟨u7, rfl⟩ := up1 hf5
    refine W.seq ?_
    refine W.region ?_
    refine O.move (v := v16) rfl rfl rfl ?_
    refine O.assign (v := v16) rfl rfl rfl ?_
    refine O.assign (v := (.int .i64 0)) rfl rfl rfl ?_
    refine WL.nil ?_
    refine W.ret ?_
    have hq : (s2, 0) = (r0, r1) := Option.some.inj (show some (s2, 0) = some (r0, r1) from hm)
    obtain ⟨he0, hq0⟩ := Prod.mk.inj hq; clear hq; subst he0
    subst hq0
    exact ends2 Try.results43 rfl rfl ⟨_, rfl, H.base, ⟨_, rfl, H.ownR 0 rfl⟩⟩

set_option maxRecDepth 20000 in
theorem c_noongunref02_Same {w0 : World} (va0_0 : Value) (va0_1 : Value) (a0 : GNet) (ha0_0 : SliceR w0 va0_0 a0.Rates) (ha0_1 : SliceR w0 va0_1 a0.Sights) (va1_0 : Value) (va1_1 : Value) (a1 : GNet) (ha1_0 : SliceR w0 va1_0 a1.Rates) (ha1_1 : SliceR w0 va1_1 a1.Sights) {r0 : Bool} (hm : noongunref02_Same a0 a1 = some r0) :
  Calls Try.prog 44 #[(.agg #[va0_0, va0_1]), (.agg #[va1_0, va1_1])] w0 (Ret w0 fun _ v => v = (.bool r0)) := by
 unfold noongunref02_Same at hm
 refine calls_of_W Try.func44 rfl Try.ntmps44 (Nat.le_of_ble_eq_true rfl) ?_
 have H := Inv.start (w := w0)
 refine W.seq ?_
 refine W.region ?_
 refine O.box [va0_0, va0_1] H rfl rfl rfl rfl ?_
 intro b1 w1 H hb1
 refine O.box [va1_0, va1_1] H rfl rfl rfl rfl ?_
 intro b2 w2 H hb2
 refine O.assign (v := (.bool false)) rfl rfl rfl ?_
 refine WL.nil ?_
 refine W.seq ?_
 refine W.seq ?_
 refine W.region ?_
 refine O.fieldAddr fd25_0 rfl rfl rfl ?_
 refine O.load sc22 rfl rfl rfl (H.cell 0 rfl 0 _ rfl) ?_
 refine O.lenS Try.underlying22 (H.arg ha0_0) rfl rfl rfl ?_
 refine O.fieldAddr fd25_0 rfl rfl rfl ?_
 refine O.load sc22 rfl rfl rfl (H.cell 1 rfl 0 _ rfl) ?_
 refine O.lenS Try.underlying22 (H.arg ha1_0) rfl rfl rfl ?_
 refine O.neq rfl rfl rfl rfl ?_
 refine O.move (v := (.bool (((a0.Rates.length : Nat) : Int) != ((a1.Rates.length : Nat) : Int)))) rfl rfl rfl ?_
 refine WL.cut 8 (fun f w => f 2 = (.pointer (some ⟨b1, 0, none⟩)) ∧ f 3 = (.pointer (some ⟨b2, 0, none⟩)) ∧ f 22 = .bool ((((a0.Rates.length : Nat) : Int) != ((a1.Rates.length : Nat) : Int)) || (((a0.Sights.length : Nat) : Int) != ((a1.Sights.length : Nat) : Int))) ∧ Inv w0 w [boxI b1 25 [va0_0, va0_1], boxI b2 25 [va1_0, va1_1]]) ?_ ?_
 ·
  rcases bool_ft (((a0.Rates.length : Nat) : Int) != ((a1.Rates.length : Nat) : Int)) with hc1 | hc1
  ·
   refine WL.reset (i := 14) (v := .bool false) (congrArg Value.bool hc1) ?_
   refine O.fieldAddr fd25_1 rfl rfl rfl ?_
   refine O.load sc23 rfl rfl rfl (H.cell 0 rfl 1 _ rfl) ?_
   refine O.lenS Try.underlying23 (H.arg ha0_1) rfl rfl rfl ?_
   refine O.fieldAddr fd25_1 rfl rfl rfl ?_
   refine O.load sc23 rfl rfl rfl (H.cell 1 rfl 1 _ rfl) ?_
   refine O.lenS Try.underlying23 (H.arg ha1_1) rfl rfl rfl ?_
   refine O.neq rfl rfl rfl rfl ?_
   refine O.pick_false (v := (.bool (((a0.Sights.length : Nat) : Int) != ((a1.Sights.length : Nat) : Int)))) rfl rfl rfl rfl ?_
   exact WL.nil ⟨rfl, rfl, congrArg Value.bool (or_f hc1), H⟩
  ·
   refine WL.reset (i := 14) (v := .bool true) (congrArg Value.bool hc1) ?_
   refine O.skip rfl rfl ?_
   refine O.skip rfl rfl ?_
   refine O.skip rfl rfl ?_
   refine O.skip rfl rfl ?_
   refine O.skip rfl rfl ?_
   refine O.skip rfl rfl ?_
   refine O.skip rfl rfl ?_
   refine O.pick_true (v := (.bool true)) rfl rfl rfl rfl ?_
   exact WL.nil ⟨rfl, rfl, congrArg Value.bool (or_t hc1), H⟩
 ·
  rintro f w ⟨hf2, hf3, hf22, H⟩
  obtain ⟨u1, rfl⟩ := up3 hf2 hf3 hf22
  refine WL.nil ?_
  rcases ite_some hm with ⟨hc2, hm⟩ | ⟨hc2, hm⟩
  ·
   refine W.cond_true (congrArg Value.bool hc2) ?_
   refine W.seq ?_
   refine W.region ?_
   refine O.assign (v := (.bool false)) rfl rfl rfl ?_
   refine WL.nil ?_
   refine W.ret ?_
   have hq : false = r0 := Option.some.inj (show some false = some r0 from hm)
   subst hq
   exact ends1 Try.results44 rfl ⟨_, rfl, H.base, rfl⟩
  ·
   refine W.cond_false (congrArg Value.bool hc2) ?_
   refine W.skip ?_
   refine W.seq ?_
   refine W.seq ?_
   refine W.region ?_
   refine O.fieldAddr fd25_0 rfl rfl rfl ?_
   refine O.load sc22 rfl rfl rfl (H.cell 0 rfl 0 _ rfl) ?_
   refine O.lenS Try.underlying22 (H.arg ha0_0) rfl rfl rfl ?_
   refine O.move (v := (.int .i64 0)) rfl rfl rfl ?_
   refine WL.nil ?_
   obtain ⟨o1, hm1, hm⟩ := bind_some hm
   refine W.via (fun f w => o1 = .next () ∧ f 2 = (.pointer (some ⟨b1, 0, none⟩)) ∧ f 3 = (.pointer (some ⟨b2, 0, none⟩)) ∧ Inv w0 w [boxI b1 25 [va0_0, va0_1], boxI b2 25 [va1_0, va1_1]]) ?_ ?_
   ·
    refine W.block ?_
    have hbdik1 := (H.arg ha0_0).len_le
    refine W.rangeN (i := 0) hm1 (fun rem ik1 s f w => () = s ∧ (ik1 : Int) + rem = max 0 ((a0.Rates.length : Nat) : Int) ∧ f 26 = .int .i64 (ik1 : Int) ∧ f 25 = (.int .i64 ((a0.Rates.length : Nat) : Int)) ∧ f 2 = (.pointer (some ⟨b1, 0, none⟩)) ∧ f 3 = (.pointer (some ⟨b2, 0, none⟩)) ∧ Inv w0 w [boxI b1 25 [va0_0, va0_1], boxI b2 25 [va1_0, va1_1]]) ?_ ?_ ?_
    ·
     exact ⟨rfl, rangeN_start, rfl, rfl, rfl, rfl, H⟩
    ·
     rintro k ik1 _ st f w ⟨rfl, hdropk1, hf26, hf25, hf2, hf3, H⟩ hm2
     have hltk1 := rangeN_lt hdropk1
     obtain ⟨u2, rfl⟩ := up4 hf26 hf25 hf2 hf3
     have hinck1 := addI_lt hltk1 hbdik1
     refine W.seq ?_
     refine W.region ?_
     refine O.lss rfl rfl rfl rfl ?_
     refine WL.nil ?_
     refine W.seq ?_
     refine W.cond_true (congrArg Value.bool (decide_eq_true hltk1)) ?_
     refine W.skip ?_
     refine W.seq ?_
     refine W.block ?_
     refine W.seq ?_
     refine W.region ?_
     refine O.move (v := (.int .i64 (ik1 : Int))) rfl rfl rfl ?_
     refine O.assign (v := (.int .i64 (ik1 : Int))) rfl rfl rfl ?_
     refine WL.nil ?_
     refine W.seq ?_
     obtain ⟨x1, hx1, hm2⟩ := bind_some hm2
     obtain ⟨p1, hp1, hrp1⟩ := fix_indexAddr Try.underlying22 sz3 (H.arg ha0_0) hx1
     obtain ⟨x2, hx2, hm2⟩ := bind_some hm2
     obtain ⟨p2, hp2, hrp2⟩ := fix_indexAddr Try.underlying22 sz3 (H.arg ha1_0) hx2
     refine W.drawN 10 (fun f => f 2 = (.pointer (some ⟨b1, 0, none⟩)) ∧ f 3 = (.pointer (some ⟨b2, 0, none⟩)) ∧ f 25 = (.int .i64 ((a0.Rates.length : Nat) : Int)) ∧ f 26 = (.int .i64 (ik1 : Int)) ∧ f 33 = (.int .i64 x1) ∧ f 38 = (.int .i64 x2)) fol (by kernel_rfl) ?_ ?_
     ·
      refine PL.of (fun _ w8 _ hx => O.fieldAddr fd25_0 rfl rfl rfl (WL.nil ⟨rfl, hx⟩)) ?_
      refine PL.of (fun _ w8 _ hx => by have H := H.ext hx; exact O.load sc22 rfl rfl rfl (H.cell 0 rfl 0 _ rfl) (WL.nil ⟨rfl, hx⟩)) ?_
      refine PL.of (fun _ w8 _ hx => O.move (v := (.int .i64 (ik1 : Int))) rfl rfl rfl (WL.nil ⟨rfl, hx⟩)) ?_
      refine PL.of (fun _ w8 _ hx => hrp1 rfl rfl rfl rfl (WL.nil ⟨rfl, hx⟩)) ?_
      refine PL.of (fun _ w8 _ hx => by have hp1 := hp1.mono hx; exact O.load sc3 rfl rfl rfl (hp1.flat 0 _ rfl) (WL.nil ⟨rfl, hx⟩)) ?_
      refine PL.of (fun _ w8 _ hx => O.fieldAddr fd25_0 rfl rfl rfl (WL.nil ⟨rfl, hx⟩)) ?_
      refine PL.of (fun _ w8 _ hx => by have H := H.ext hx; exact O.load sc22 rfl rfl rfl (H.cell 1 rfl 0 _ rfl) (WL.nil ⟨rfl, hx⟩)) ?_
      refine PL.of (fun _ w8 _ hx => O.move (v := (.int .i64 (ik1 : Int))) rfl rfl rfl (WL.nil ⟨rfl, hx⟩)) ?_
      refine PL.of (fun _ w8 _ hx => hrp2 rfl rfl rfl rfl (WL.nil ⟨rfl, hx⟩)) ?_
      refine PL.of (fun _ w8 _ hx => by have hp2 := hp2.mono hx; exact O.load sc3 rfl rfl rfl (hp2.flat 0 _ rfl) (WL.nil ⟨rfl, hx⟩)) ?_
      refine PL.nil ?_
      exact ⟨rfl, rfl, rfl, rfl, rfl, rfl⟩
     ·
      rintro f w ⟨hf2, hf3, hf25, hf26, hf33, hf38⟩ hmd hx
      have H := H.ext hx
      have hp1 := hp1.mono hx
      have hp2 := hp2.mono hx
      obtain ⟨u3, rfl⟩ := up6 hf2 hf3 hf25 hf26 hf33 hf38
      refine O.neq rfl rfl rfl rfl ?_
      refine WL.nil ?_
      rcases ite_some hm2 with ⟨hc3, hm2⟩ | ⟨hc3, hm2⟩
      ·
       refine W.cond_true (congrArg Value.bool hc3) ?_
       refine W.seq ?_
       refine W.region ?_
       refine O.assign (v := (.bool false)) rfl rfl rfl ?_
       refine WL.nil ?_
       refine W.ret ?_
       obtain rfl := Option.some.inj hm2
       refine ⟨_, rfl, ?_⟩
       rintro rfl
       have hq : false = r0 := Option.some.inj (show some false = some r0 from hm)
       subst hq
       exact ends1 Try.results44 rfl ⟨_, rfl, H.base, rfl⟩
      ·
       refine W.cond_false (congrArg Value.bool hc3) ?_
       refine W.skip ?_
       refine W.region ?_
       refine O.add rfl rfl rfl rfl hinck1 ?_
       refine O.move (v := .int .i64 ((ik1 : Int) + 1)) rfl rfl rfl ?_
       refine WL.nil ?_
       obtain rfl := Option.some.inj hm2
       exact ⟨_, rfl, rfl, rangeN_next hdropk1, rfl, rfl, rfl, rfl, H⟩
    ·
     rintro ik1 _ f w ⟨rfl, hdropk1, hf26, hf25, hf2, hf3, H⟩ hfin
     have hltk1 := rangeN_end hdropk1
     obtain ⟨u4, rfl⟩ := up4 hf26 hf25 hf2 hf3
     refine W.seq ?_
     refine W.region ?_
     refine O.lss rfl rfl rfl rfl ?_
     refine WL.nil ?_
     refine W.seq ?_
     refine W.cond_false (congrArg Value.bool (decide_eq_false hltk1)) ?_
     refine W.exit ?_
     obtain rfl : Ctl.next () = o1 := hfin
     refine xT rfl ?_
     exact ⟨rfl, rfl, rfl, H⟩
   ·
    rintro f w ⟨rfl, hf2, hf3, H⟩
    obtain ⟨u5, rfl⟩ := up2 hf2 hf3
    refine W.seq ?_
    refine W.seq ?_
    refine W.region ?_
    refine O.fieldAddr fd25_1 rfl rfl rfl ?_
    refine O.load sc23 rfl rfl rfl (H.cell 0 rfl 1 _ rfl) ?_
    refine O.lenS Try.underlying23 (H.arg ha0_1) rfl rfl rfl ?_
    refine O.move (v := (.int .i64 0)) rfl rfl rfl ?_
    refine WL.nil ?_
    obtain ⟨o2, hm3, hm⟩ := bind_some hm
    refine W.via (fun f w => o2 = .next () ∧ Inv w0 w []) ?_ ?_
    ·
     refine W.block ?_
     have hbdik2 := (H.arg ha0_1).len_le
     refine W.rangeN (i := 0) hm3 (fun rem ik2 s f w => () = s ∧ (ik2 : Int) + rem = max 0 ((a0.Sights.length : Nat) : Int) ∧ f 44 = .int .i64 (ik2 : Int) ∧ f 43 = (.int .i64 ((a0.Sights.length : Nat) : Int)) ∧ f 2 = (.pointer (some ⟨b1, 0, none⟩)) ∧ f 3 = (.pointer (some ⟨b2, 0, none⟩)) ∧ Inv w0 w [boxI b1 25 [va0_0, va0_1], boxI b2 25 [va1_0, va1_1]]) ?_ ?_ ?_
     ·
      exact ⟨rfl, rangeN_start, rfl, rfl, rfl, rfl, H⟩
     ·
      rintro k ik2 _ st f w ⟨rfl, hdropk2, hf44, hf43, hf2, hf3, H⟩ hm4
      have hltk2 := rangeN_lt hdropk2
      obtain ⟨u6, rfl⟩ := up4 hf44 hf43 hf2 hf3
      have hinck2 := addI_lt hltk2 hbdik2
      refine W.seq ?_
      refine W.region ?_
      refine O.lss rfl rfl rfl rfl ?_
      refine WL.nil ?_
      refine W.seq ?_
      refine W.cond_true (congrArg Value.bool (decide_eq_true hltk2)) ?_
      refine W.skip ?_
      refine W.seq ?_
      refine W.block ?_
      refine W.seq ?_
      refine W.region ?_
      refine O.move (v := (.int .i64 (ik2 : Int))) rfl rfl rfl ?_
      refine O.assign (v := (.int .i64 (ik2 : Int))) rfl rfl rfl ?_
      refine WL.nil ?_
      refine W.seq ?_
      obtain ⟨x3, hx3, hm4⟩ := bind_some hm4
      obtain ⟨p3, hp3, hrp3⟩ := fix_indexAddr Try.underlying23 sz39 (H.arg ha0_1) hx3
      obtain ⟨x4, hx4, hm4⟩ := bind_some hm4
      obtain ⟨p4, hp4, hrp4⟩ := fix_indexAddr Try.underlying23 sz39 (H.arg ha1_1) hx4
      refine W.drawN 10 (fun f => f 2 = (.pointer (some ⟨b1, 0, none⟩)) ∧ f 3 = (.pointer (some ⟨b2, 0, none⟩)) ∧ f 43 = (.int .i64 ((a0.Sights.length : Nat) : Int)) ∧ f 44 = (.int .i64 (ik2 : Int)) ∧ f 51 = (.agg (Flat.cells x3).toArray) ∧ f 56 = (.agg (Flat.cells x4).toArray)) fol (by kernel_rfl) ?_ ?_
      ·
       refine PL.of (fun _ w8 _ hx => O.fieldAddr fd25_1 rfl rfl rfl (WL.nil ⟨rfl, hx⟩)) ?_
       refine PL.of (fun _ w8 _ hx => by have H := H.ext hx; exact O.load sc23 rfl rfl rfl (H.cell 0 rfl 1 _ rfl) (WL.nil ⟨rfl, hx⟩)) ?_
       refine PL.of (fun _ w8 _ hx => O.move (v := (.int .i64 (ik2 : Int))) rfl rfl rfl (WL.nil ⟨rfl, hx⟩)) ?_
       refine PL.of (fun _ w8 _ hx => hrp3 rfl rfl rfl rfl (WL.nil ⟨rfl, hx⟩)) ?_
       refine PL.of (fun _ w8 _ hx => by have hp3 := hp3.mono hx; exact O.loadA [(.int .i64 x3.At), (.int .i64 x3.A), (.int .i64 x3.B), (.int .i64 x3.Lo), (.int .i64 x3.Hi)] ag39 rfl rfl rfl rfl (hp3.flat) (WL.nil ⟨rfl, hx⟩)) ?_
       refine PL.of (fun _ w8 _ hx => O.fieldAddr fd25_1 rfl rfl rfl (WL.nil ⟨rfl, hx⟩)) ?_
       refine PL.of (fun _ w8 _ hx => by have H := H.ext hx; exact O.load sc23 rfl rfl rfl (H.cell 1 rfl 1 _ rfl) (WL.nil ⟨rfl, hx⟩)) ?_
       refine PL.of (fun _ w8 _ hx => O.move (v := (.int .i64 (ik2 : Int))) rfl rfl rfl (WL.nil ⟨rfl, hx⟩)) ?_
       refine PL.of (fun _ w8 _ hx => hrp4 rfl rfl rfl rfl (WL.nil ⟨rfl, hx⟩)) ?_
       refine PL.of (fun _ w8 _ hx => by have hp4 := hp4.mono hx; exact O.loadA [(.int .i64 x4.At), (.int .i64 x4.A), (.int .i64 x4.B), (.int .i64 x4.Lo), (.int .i64 x4.Hi)] ag39 rfl rfl rfl rfl (hp4.flat) (WL.nil ⟨rfl, hx⟩)) ?_
       refine PL.nil ?_
       exact ⟨rfl, rfl, rfl, rfl, rfl, rfl⟩
      ·
       rintro f w ⟨hf2, hf3, hf43, hf44, hf51, hf56⟩ hmd hx
       have H := H.ext hx
       have hp3 := hp3.mono hx
       have hp4 := hp4.mono hx
       obtain ⟨u7, rfl⟩ := up6 hf2 hf3 hf43 hf44 hf51 hf56
       refine O.neqSt x3 x4 eq39 rfl rfl rfl rfl ?_
       refine WL.nil ?_
       rcases ite_some hm4 with ⟨hc4, hm4⟩ | ⟨hc4, hm4⟩
       ·
        refine W.cond_true (congrArg Value.bool hc4) ?_
        refine W.seq ?_
        refine W.region ?_
        refine O.assign (v := (.bool false)) rfl rfl rfl ?_
        refine WL.nil ?_
        refine W.ret ?_
        obtain rfl := Option.some.inj hm4
        refine ⟨_, rfl, ?_⟩
        rintro rfl
        have hq : false = r0 := Option.some.inj (show some false = some r0 from hm)
        subst hq
        exact ends1 Try.results44 rfl ⟨_, rfl, H.base, rfl⟩
       ·
        refine W.cond_false (congrArg Value.bool hc4) ?_
        refine W.skip ?_
        refine W.region ?_
        refine O.add rfl rfl rfl rfl hinck2 ?_
        refine O.move (v := .int .i64 ((ik2 : Int) + 1)) rfl rfl rfl ?_
        refine WL.nil ?_
        obtain rfl := Option.some.inj hm4
        exact ⟨_, rfl, rfl, rangeN_next hdropk2, rfl, rfl, rfl, rfl, H⟩
     ·
      rintro ik2 _ f w ⟨rfl, hdropk2, hf44, hf43, hf2, hf3, H⟩ hfin
      have hltk2 := rangeN_end hdropk2
      obtain ⟨u8, rfl⟩ := up4 hf44 hf43 hf2 hf3
      refine W.seq ?_
      refine W.region ?_
      refine O.lss rfl rfl rfl rfl ?_
      refine WL.nil ?_
      refine W.seq ?_
      refine W.cond_false (congrArg Value.bool (decide_eq_false hltk2)) ?_
      refine W.exit ?_
      obtain rfl : Ctl.next () = o2 := hfin
      have H := H.keep [] [] rfl (by decide)
      refine xT rfl ?_
      exact ⟨rfl, H⟩
    ·
     rintro f w ⟨rfl, H⟩
     refine W.seq ?_
     refine W.region ?_
     refine O.assign (v := (.bool true)) rfl rfl rfl ?_
     refine WL.nil ?_
     refine W.ret ?_
     have hq : true = r0 := Option.some.inj (show some true = some r0 from hm)
     subst hq
     exact ends1 Try.results44 rfl ⟨_, rfl, H.base, rfl⟩

end Go.Proofs
